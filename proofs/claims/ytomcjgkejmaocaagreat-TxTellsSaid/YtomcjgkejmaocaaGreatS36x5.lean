/-
  Made short by a program of mine (wip/tools/mini.py).
-/
import Derived.Test.YtomcjgkejmaocaaGreatS36x4
set_option linter.unusedVariables false
set_option linter.unusedSimpArgs false
set_option maxRecDepth 100000
set_option synthInstance.maxSize 5000
open List renaming replicate->ag,set->eE,length->ae,take->aP,drop->aX
open BitVec renaming ofInt->bk
open Int renaming toNat->ab
open Or renaming inr->ez,inl->jH
open Option renaming some->aw,none->aF
open Bool renaming true->aW,false->aQ
noncomputable section
variable {R:Type}
namespace Go.Ab
open Go.Proofs
theorem afU(t:Ty)(x:t.den)(h:t.comp=aW):t.beq x x=aW:=beq_refl t x h
theorem aob(t:Ty)(hc:t.comp=aW)(x y:t.den) [Decidable (x=y)]:t.beq x y=decide (x=y):=by
 by_cases h:x=y
 ·subst h;rw[aI rfl,afU t x hc]
 ·rw[aJ h];cases hb:t.beq x y
  ·rfl
  ·exact absurd (beq_eq t x y hc hb) h
theorem aui(x y:Sg):Ty.beq oE x y=decide (x=y):= @aob oE rfl x y (inferInstanceAs (Decidable (x=y)))
theorem T8(x y:tj):Ty.beq oS x y=decide (x=y):= @aob oS rfl x y (inferInstanceAs (Decidable (x=y)))
abbrev CU:=(List Sg)×(List Sg)×Int×Int
def sK:CU->AS:=λ(zC,kI,t12,t13)=>⟨([.d (.slice oE) zC,.d (.slice oE) kI]++a9 10 ([.d ti t12,.d ti t13]++a9 12 [])),[],(ag 26 [])⟩
def te:Unit->Exit×AS:=λx=>(.ret,⟨(a9 4 ([.d .bool aQ]++a9 21 [])),[],(ag 26 [])⟩)
def AY:Unit->Exit×AS:=λx=>(.exit 0,⟨(a9 26 []),[],(ag 26 [])⟩)
abbrev Qw:=(Unit)⊕(Unit)
abbrev ab7:=(Unit)⊕(Unit)
def HA:Qw->Out (Exit×AS):=λx=> .br x.isLeft (.get x.getLeft? λa=> .ok (te a)) (.get x.getRight? λb=> .ok (AY b))
def nh:CU->ab7->Qw:=λ(zC,kI,t12,t13) y=>match y with | .inl y=> .inl y | .inr z=> .inr (z)
abbrev ax2:=(List Sg)×(List Sg)
def AX:CU->Prop:=λ(a,b,m,i)=>a.length<=1000000000/\a.length=b.length/\m=a.length/\∃k:Nat,k<=a.length/\i=k
def td:CU->ab7:=λ(a,b,m,i)=>if a.drop i.toNat=b.drop i.toNat then .inr () else .inl ()
def ax3:ax2->Prop:=λ(a,b)=>a.length<=1000000000
def anm:ax2->Bool:=λ(a,b)=>decide (a=b)
def ab6:=eu.fD sK AX nh td HA
def N7:CU->Option Qw:=jq ab6 sK
def Qu:Fs Tryz.prog ax3 bm anm:=fg 69 Tryz.f69 (λ(s1,s2)=>([.d (.slice oE) s1,.d (.slice oE) s2],[])) (λx=>⟨.d .bool x,[],[]⟩) [aw (.slice oE),aw (.slice oE)] [] {loops:=oN [(4,{aY:=[0,1,12,13]})],outs:=oM [(4,{},{aY:=[4]})],fE:=pX [(4,ab6)]}
def Qv:= @fO Tryz.prog (oc Qu.G) Qu.an 0 Tryz.f69 0 _ sK
abbrev Xw:=oT Tryz.prog (oc Qu.G) Qu.an 0 Tryz.f69 0 sK AX nh td HA
theorem ai1:nw N7 AX nh td:=qL (qF [.d (.slice oE),.d (.slice oE),.d ti,.d ti] λ_=>cK)
theorem Qx:qN @Qv sK AX nh td HA Xw:=sk
theorem N8(zC kI t12 t13)(kn:K2 R)(kx:K3 R):Qv (zC,kI,t12,t13) kn kx=aG (fV t13 t12) (aG (ei t13 (((ae zC):Nat):Int)) (aG (ei t13 (((ae kI):Nat):Int)) (aG (!(Ty.beq oE (nth oE zC (ab t13)) (nth oE kI (ab t13)))) (kx (te ()).1 (te ()).2) (kn (sK (zC,kI,t12,(bB .i64 t13 (1:Int)))))) aF) aF) (kx (AY ()).1 (AY ()).2):=cK
theorem aA2(s1 s2)(k:K1 R):Qu.A (s1,s2) k=aG (Ak (s1.length:Int) (s2.length:Int)) (k (Qu.out aQ)) (aj (N7 (s1,s2,(s1.length:Int),0)) λx1=>aG x1.isLeft (aj x1.getLeft? λa2=>k (Qu.out aQ)) (aj x1.getRight? λb3=>k (Qu.out aW))):=cK
theorem ann:Xw:=by
 refine Qx (λ(a,b,m,i)=>a.length - i.toNat) ?_
 rintro⟨a,b,m,i⟩ ⟨hl,qz,rfl,k,hk,rfl⟩;have hl:a.length<=1000000000:=hl;have qz:a.length=b.length:=qz;have hk:k<=a.length:=hk;by_cases h:k < a.length
 ·have h2:k < b.length:=ak;have n1:nth oE a k=a[k]:=cC (t:=oE) h;have n2:nth oE b k=b[k]:=cC (t:=oE) h2;have hd:(a.drop k=b.drop k)=(a[k]=b[k]/\a.drop (k+1)=b.drop (k+1)):=by rw[aq h,aq h2,bF]
  have step:∀ {R:Type} (kn:AS->Option R) (kx:Exit->AS->Option R),Qv (a,b,(a.length:Int),(k:Int)) kn kx=if a[k]=b[k] then kn (sK (a,b,(a.length:Int),((k+1:Nat):Int))) else kx (te ()).1 (te ()).2:=by
   intro R kn kx;rw[N8,aU ak,bo ak ak,bo ak ak,aa,n1,n2,N.ot ak];simp only[ao];rw[aui];by_cases hx:a[k]=b[k]
   ·rw[aI hx,if_pos hx];rfl
   ·rw[aJ hx,if_neg hx];rfl
  by_cases hx:a[k]=b[k]
  ·left;refine⟨(a,b,(a.length:Int),((k+1:Nat):Int)),⟨hl,qz,rfl,k+1,ak,rfl⟩,by simp only[aa];omega,?_,λkn kx=> ?_⟩
   ·simp only[nh,td,aa,hd,hx,hJ]
   ·rw[step,if_pos hx]
  ·right;refine⟨te (),?_,λkn kx=> ?_⟩
   ·simp only[nh,td,aa,hd,hx,mG,bz];rfl
   ·rw[step,if_neg hx]
 ·right;obtain rfl:k=a.length:=ak;refine⟨AY (),?_,λkn kx=> ?_⟩
  ·simp only[nh,td,aa,aN];rw[qz,aN,if_pos rfl];rfl
  ·rw[N8,aT ak,au]
theorem aA3:Qu.Ok:=by
 rintro⟨a,b⟩ hl;have hl:a.length<=1000000000:=hl;rw[aA2];simp only[bm,anm];by_cases h:a.length=b.length
 ·rw[cZ ak,au,ai1 (d:=(a,b,(a.length:Int),0)) ⟨hl,h,rfl,0,aL _,rfl⟩];simp only[ah,nh,td,aS,aM];by_cases hx:a=b
  ·rw[if_pos hx,aI hx];rfl
  ·rw[if_neg hx,aJ hx];rfl
 ·rw[eR ak,aJ (λx=>h (by rw[x]))];rfl
theorem ax4:Qu.RS:=rE [.d (.slice oE),.d (.slice oE)] Qu
def aA4:=Qu.fh aA3 1 ⟨.fD ann,trivial⟩
def anN:(fB×fB)->Prop:=λ(x,y)=>x.2.1.2.1.length<=1000000000
def Yf:(fB×fB)->Bool:=λ(x,y)=>decide (x=y)
def B3:Fs Tryz.prog anN bm Yf:=fg 68 Tryz.f68 (λ(x,yv)=>([.d dM x,.d dM yv],[])) (λx=>⟨.d .bool x,[],[]⟩) [aw dM,aw dM] [aA4]
theorem atw(x yv)(k:K1 R):B3.A (x,yv) k=aG (Ty.beq oS x.1 yv.1) (aG (wD x.2.1.1 yv.2.1.1) (aG (wD x.2.1.2.2.1 yv.2.1.2.2.1) (aj (Qu.call (x.2.1.2.1,yv.2.1.2.1)) λx1=>k (B3.out x1)) (k (B3.out aQ))) (k (B3.out aQ))) (k (B3.out aQ)):=cK
theorem atx:B3.Ok:=by
 rintro⟨⟨f1,⟨b1,s1,c1,u1⟩,v1⟩,⟨f2,⟨b2,s2,c2,u2⟩,v2⟩⟩ h;have h:s1.length<=1000000000:=h;rw[atw,ax4 (d:=(s1,s2)) h,T8];simp only[ah,bm,anm,bm,Yf];by_cases e1:f1=f2
 ·by_cases e2:b1=b2
  ·by_cases e3:c1=c2
   ·by_cases e4:s1=s2
    ·rw[aI e1,dJ e2,dJ e3,aI e4,aI (by rw[e1,e2,e3,e4])];rfl
    ·rw[aI e1,dJ e2,dJ e3,aJ e4,aJ (by rintro⟨⟩;exact e4 rfl)];rfl
   ·rw[aI e1,dJ e2,fj e3,aJ (p:=(f1,(b1,s1,c1,u1),v1)=(f2,(b2,s2,c2,u2),v2)) (by rintro⟨⟩;exact e3 rfl)];rfl
  ·rw[aI e1,fj e2,aJ (p:=(f1,(b1,s1,c1,u1),v1)=(f2,(b2,s2,c2,u2),v2)) (by rintro⟨⟩;exact e2 rfl)];rfl
 ·rw[aJ e1,aJ (p:=(f1,(b1,s1,c1,u1),v1)=(f2,(b2,s2,c2,u2),v2)) (by rintro⟨⟩;exact e1 rfl)];rfl
theorem anO:B3.RS:=rE [.d dM,.d dM] B3
def aty:=B3.fh atx
def anP:(mr×mr)->Prop:=λ(x,z)=>x.1.length<=1000000000
def Yg:(mr×mr)->Bool:=λ(x,z)=>decide (x=z)
def B4:Fs Tryz.prog anP bm Yg:=fg 70 Tryz.f70 (λ(x,yv)=>([.d gW x,.d gW yv],[])) (λx=>⟨.d .bool x,[],[]⟩) [aw gW,aw gW] [aDb]
theorem atz(x yv)(k:K1 R):B4.A (x,yv) k=aG (wD x.2.1 yv.2.1) (aG (wD x.2.2.1 yv.2.2.1) (aG (wD x.2.2.2.1 yv.2.2.2.1) (aj (arj.call (x.1,yv.1)) λx1=>k (B4.out x1)) (k (B4.out aQ))) (k (B4.out aQ))) (k (B4.out aQ)):=cK
theorem atA:B4.Ok:=by
 rintro⟨⟨k1,a1,d1,s1,u1⟩,⟨k2,a2,d2,s2,u2⟩⟩ h;have h:k1.length<=1000000000:=h;rw[atz,aAy (d:=(k1,k2)) h];simp only[ah,bm,awM,bm,Yg];by_cases e1:k1=k2
 ·by_cases e2:a1=a2
  ·by_cases e3:d1=d2
   ·by_cases e4:s1=s2
    ·rw[aI e1,dJ e2,dJ e3,dJ e4,aI (by rw[e1,e2,e3,e4])];rfl
    ·rw[dJ e2,dJ e3,fj e4,aJ (p:=(k1,a1,d1,s1,u1)=(k2,a2,d2,s2,u2)) (by rintro⟨⟩;exact e4 rfl)];rfl
   ·rw[dJ e2,fj e3,aJ (p:=(k1,a1,d1,s1,u1)=(k2,a2,d2,s2,u2)) (by rintro⟨⟩;exact e3 rfl)];rfl
  ·rw[fj e2,aJ (p:=(k1,a1,d1,s1,u1)=(k2,a2,d2,s2,u2)) (by rintro⟨⟩;exact e2 rfl)];rfl
 ·rw[aJ e1,aJ (p:=(k1,a1,d1,s1,u1)=(k2,a2,d2,s2,u2)) (by rintro⟨⟩;exact e1 rfl)];cases wD a1 a2 <;> cases wD d1 d2 <;> cases wD s1 s2 <;> rfl
theorem anQ:B4.RS:=rE [.d gW,.d gW] B4
def atB:=B4.fh atA
abbrev yP:=(List mr)×(List mr)×Int×Int
def o7:yP->AS:=λ(kI,t15,t16,t17)=>⟨([bK,.d (.slice gW) kI,.fn 70 (.nil)]++a9 12 ([.d (.slice gW) t15,.d ti t16,.d ti t17]++a9 14 [])),[],(ag 32 [])⟩
def pS:Unit->Exit×AS:=λx=>(.ret,⟨(a9 6 ([.d .bool aQ]++a9 25 [])),[],(ag 32 [])⟩)
def xI:Unit->Exit×AS:=λx=>(.exit 0,⟨(a9 32 []),[],(ag 32 [])⟩)
abbrev Ki:=(Unit)⊕(Unit)
abbrev Uc:=(Unit)⊕(Unit)
def C6:Ki->Out (Exit×AS):=λx=> .br x.isLeft (.get x.getLeft? λa=> .ok (pS a)) (.get x.getRight? λb=> .ok (xI b))
def lv:yP->Uc->Ki:=λ(kI,t15,t16,t17) y=>match y with | .inl y=> .inl y | .inr z=> .inr (z)
abbrev aoe:=(List mr)×(List mr)
def xH:yP->Prop:=λ(b,a,m,i)=>(a.length<=1000000000/\∀x∈a,x.1.length<=1000000000)/\a.length=b.length/\m=a.length/\∃k:Nat,k<=a.length/\i=k
def o3:yP->Uc:=λ(b,a,m,i)=>if a.drop i.toNat=b.drop i.toNat then .inr () else .inl ()
def apG:aoe->Prop:=λ(a,b)=>a.length<=1000000000/\∀x∈a,x.1.length<=1000000000
def acJ:aoe->Bool:=λ(a,b)=>decide (a=b)
def Ub:=eu.fD o7 xH lv o3 C6
def I8:yP->Option Ki:=jq Ub o7
def Cc:Fs Tryz.prog apG bm acJ:=fg 73 Tryz.f73 (λ(s1,s2)=>([.d (.slice gW) s1,.d (.slice gW) s2,.fn 70 (.nil)],[])) (λx=>⟨.d .bool x,[],[]⟩) [aw (.slice gW),aw (.slice gW),aF] [atB] {loops:=oN [(4,{aY:=[1,2,15,16,17]})],outs:=oM [(4,{},{aY:=[6]})],fE:=pX [(4,Ub)]}
def Kh:= @fO Tryz.prog (oc Cc.G) Cc.an 0 Tryz.f73 0 _ o7
abbrev QS:=oT Tryz.prog (oc Cc.G) Cc.an 0 Tryz.f73 0 o7 xH lv o3 C6
theorem acK:nw I8 xH lv o3:=qL (qF [.d (.slice gW),.d (.slice gW),.d ti,.d ti] λ_=>cK)
theorem LZ:qN @Kh o7 xH lv o3 C6 QS:=sk
theorem I9(kI t15 t16 t17)(kn:K2 R)(kx:K3 R):Kh (kI,t15,t16,t17) kn kx=aG (fV t17 t16) (aG (ei t17 (((ae t15):Nat):Int)) (aG (ei t17 (((ae kI):Nat):Int)) (aj (B4.call ((nth gW t15 (ab t17)),(nth gW kI (ab t17)))) λx1=>aG (!x1) (kx (pS ()).1 (pS ()).2) (kn (o7 (kI,t15,t16,(bB .i64 t17 (1:Int)))))) aF) aF) (kx (xI ()).1 (xI ()).2):=cK
theorem aur(s1 s2)(k:K1 R):Cc.A (s1,s2) k=aG (Ak (s1.length:Int) (s2.length:Int)) (k (Cc.out aQ)) (aj (I8 (s2,s1,(s1.length:Int),0)) λx2=>aG x2.isLeft (aj x2.getLeft? λa3=>k (Cc.out aQ)) (aj x2.getRight? λb4=>k (Cc.out aW))):=cK
theorem afZ:QS:=by
 refine LZ (λ(b,a,m,i)=>a.length - i.toNat) ?_
 rintro⟨b,a,m,i⟩ ⟨⟨hl,he⟩,qz,rfl,k,hk,rfl⟩;have hl:a.length<=1000000000:=hl;have qz:a.length=b.length:=qz;have hk:k<=a.length:=hk;by_cases h:k < a.length
 ·have h2:k < b.length:=ak;have n1:nth gW a k=a[k]:=cC (t:=gW) h;have n2:nth gW b k=b[k]:=cC (t:=gW) h2;have hd:(a.drop k=b.drop k)=(a[k]=b[k]/\a.drop (k+1)=b.drop (k+1)):=by rw[aq h,aq h2,bF]
  have step:∀ {R:Type} (kn:AS->Option R) (kx:Exit->AS->Option R),Kh (b,a,(a.length:Int),(k:Int)) kn kx=if a[k]=b[k] then kn (o7 (b,a,(a.length:Int),((k+1:Nat):Int))) else kx (pS ()).1 (pS ()).2:=by
   intro R kn kx;rw[I9,aU ak,bo ak ak,bo ak ak,aa,n1,n2,N.ot ak,anQ (d:=(a[k],b[k])) (he _ (ba h))];simp only[ao,ah,bm,Yg];by_cases hx:a[k]=b[k]
   ·rw[aI hx,if_pos hx];rfl
   ·rw[aJ hx,if_neg hx];rfl
  by_cases hx:a[k]=b[k]
  ·left;refine⟨(b,a,(a.length:Int),((k+1:Nat):Int)),⟨⟨hl,he⟩,qz,rfl,k+1,ak,rfl⟩,by simp only[aa];omega,?_,λkn kx=> ?_⟩
   ·simp only[lv,o3,aa,hd,hx,hJ]
   ·rw[step,if_pos hx]
  ·right;refine⟨pS (),?_,λkn kx=> ?_⟩
   ·simp only[lv,o3,aa,hd,hx,mG,bz];rfl
   ·rw[step,if_neg hx]
 ·right;obtain rfl:k=a.length:=ak;refine⟨xI (),?_,λkn kx=> ?_⟩
  ·simp only[lv,o3,aa,aN];rw[qz,aN,if_pos rfl];rfl
  ·rw[I9,aT ak,au]
theorem aus:Cc.Ok:=by
 rintro⟨a,b⟩ hl;have aJe:a.length<=1000000000:=hl.1;rw[aur];simp only[bm,acJ];by_cases h:a.length=b.length
 ·rw[cZ ak,au,acK (d:=(b,a,(a.length:Int),0)) ⟨hl,h,rfl,0,aL _,rfl⟩];simp only[ah,lv,o3,aS,aM];by_cases hx:a=b
  ·rw[if_pos hx,aI hx];rfl
  ·rw[if_neg hx,aJ hx];rfl
 ·rw[eR ak,aJ (λx=>h (by rw[x]))];rfl
theorem apH:Cc.RS:=rE [.d (.slice gW),.d (.slice gW)] Cc
def aut:=Cc.fh aus 1 ⟨.fD afZ,trivial⟩
def anR:(gb×gb)->Prop:=λ(x,y)=>x.2.1.1.length<=1000000000/\∀b∈x.2.1.1,b.1.length<=1000000000
def Yh:(gb×gb)->Bool:=λ(x,y)=>decide (x=y)
def H3:Fs Tryz.prog anR bm Yh:=fg 72 Tryz.f72 (λ(x,yv)=>([.d dO x,.d dO yv,.ptr (.eC 0) 0 [] 0],[.obj 0 aQ (.fn 70 (.nil))])) (λx=>⟨.d .bool x,[.obj 0 aQ (.fn 70 (.nil))],[]⟩) [aw dO,aw dO,aF] [aut]
theorem atC(x yv)(k:K1 R):H3.A (x,yv) k=aG (wD x.1 yv.1) (aj (Cc.call (x.2.1.1,yv.2.1.1)) λx1=>k (H3.out x1)) (k (H3.out aQ)):=cK
theorem atD:H3.Ok:=by
 rintro⟨⟨n1,⟨b1,w1⟩,u1⟩,⟨n2,⟨b2,w2⟩,u2⟩⟩ h;rw[atC,apH (d:=(b1,b2)) h];simp only[ah,bm,acJ,bm,Yh];by_cases e1:n1=n2
 ·by_cases e2:b1=b2
  ·rw[dJ e1,aI e2,aI (by rw[e1,e2])];rfl
  ·rw[dJ e1,aJ e2,aJ (by rintro⟨⟩;exact e2 rfl)];rfl
 ·rw[fj e1,aJ (p:=(n1,(b1,w1),u1)=(n2,(b2,w2),u2)) (by rintro⟨⟩;exact e1 rfl)];rfl
theorem anS:H3.RS:=rE [.d dO,.d dO] H3
def atE:=H3.fh atD
abbrev Cl:=(List fB)×(List fB)×Int×Int
def sB:Cl->AS:=λ(kI,t15,t16,t17)=>⟨([bK,.d (.slice dM) kI,.fn 68 (.nil)]++a9 12 ([.d (.slice dM) t15,.d ti t16,.d ti t17]++a9 14 [])),[],(ag 32 [])⟩
def sU:Unit->Exit×AS:=λx=>(.ret,⟨(a9 6 ([.d .bool aQ]++a9 25 [])),[],(ag 32 [])⟩)
def Am:Unit->Exit×AS:=λx=>(.exit 0,⟨(a9 32 []),[],(ag 32 [])⟩)
abbrev Pv:=(Unit)⊕(Unit)
abbrev aa4:=(Unit)⊕(Unit)
def F8:Pv->Out (Exit×AS):=λx=> .br x.isLeft (.get x.getLeft? λa=> .ok (sU a)) (.get x.getRight? λb=> .ok (Am b))
def mY:Cl->aa4->Pv:=λ(kI,t15,t16,t17) y=>match y with | .inl y=> .inl y | .inr z=> .inr (z)
abbrev avP:=(List fB)×(List fB)
def Al:Cl->Prop:=λ(b,a,m,i)=>(a.length<=1000000000/\∀x∈a,x.2.1.2.1.length<=1000000000)/\a.length=b.length/\m=a.length/\∃k:Nat,k<=a.length/\i=k
def sT:Cl->aa4:=λ(b,a,m,i)=>if a.drop i.toNat=b.drop i.toNat then .inr () else .inl ()
def avQ:avP->Prop:=λ(a,b)=>a.length<=1000000000/\∀x∈a,x.2.1.2.1.length<=1000000000
def akU:avP->Bool:=λ(a,b)=>decide (a=b)
def aa3:=eu.fD sB Al mY sT F8
def MA:Cl->Option Pv:=jq aa3 sB
def Pt:Fs Tryz.prog avQ bm akU:=fg 74 Tryz.f74 (λ(s1,s2)=>([.d (.slice dM) s1,.d (.slice dM) s2,.fn 68 (.nil)],[])) (λx=>⟨.d .bool x,[],[]⟩) [aw (.slice dM),aw (.slice dM),aF] [aty] {loops:=oN [(4,{aY:=[1,2,15,16,17]})],outs:=oM [(4,{},{aY:=[6]})],fE:=pX [(4,aa3)]}
def Pu:= @fO Tryz.prog (oc Pt.G) Pt.an 0 Tryz.f74 0 _ sB
abbrev UL:=oT Tryz.prog (oc Pt.G) Pt.an 0 Tryz.f74 0 sB Al mY sT F8
theorem agJ:nw MA Al mY sT:=qL (qF [.d (.slice dM),.d (.slice dM),.d ti,.d ti] λ_=>cK)
theorem Pw:qN @Pu sB Al mY sT F8 UL:=sk
theorem MB(kI t15 t16 t17)(kn:K2 R)(kx:K3 R):Pu (kI,t15,t16,t17) kn kx=aG (fV t17 t16) (aG (ei t17 (((ae t15):Nat):Int)) (aG (ei t17 (((ae kI):Nat):Int)) (aj (B3.call ((nth dM t15 (ab t17)),(nth dM kI (ab t17)))) λx1=>aG (!x1) (kx (sU ()).1 (sU ()).2) (kn (sB (kI,t15,t16,(bB .i64 t17 (1:Int)))))) aF) aF) (kx (Am ()).1 (Am ()).2):=cK
theorem azW(s1 s2)(k:K1 R):Pt.A (s1,s2) k=aG (Ak (s1.length:Int) (s2.length:Int)) (k (Pt.out aQ)) (aj (MA (s2,s1,(s1.length:Int),0)) λx2=>aG x2.isLeft (aj x2.getLeft? λa3=>k (Pt.out aQ)) (aj x2.getRight? λb4=>k (Pt.out aW))):=cK
theorem akV:UL:=by
 refine Pw (λ(b,a,m,i)=>a.length - i.toNat) ?_
 rintro⟨b,a,m,i⟩ ⟨⟨hl,he⟩,qz,rfl,k,hk,rfl⟩;have hl:a.length<=1000000000:=hl;have qz:a.length=b.length:=qz;have hk:k<=a.length:=hk;by_cases h:k < a.length
 ·have h2:k < b.length:=ak;have n1:nth dM a k=a[k]:=cC (t:=dM) h;have n2:nth dM b k=b[k]:=cC (t:=dM) h2;have hd:(a.drop k=b.drop k)=(a[k]=b[k]/\a.drop (k+1)=b.drop (k+1)):=by rw[aq h,aq h2,bF]
  have step:∀ {R:Type} (kn:AS->Option R) (kx:Exit->AS->Option R),Pu (b,a,(a.length:Int),(k:Int)) kn kx=if a[k]=b[k] then kn (sB (b,a,(a.length:Int),((k+1:Nat):Int))) else kx (sU ()).1 (sU ()).2:=by
   intro R kn kx;rw[MB,aU ak,bo ak ak,bo ak ak,aa,n1,n2,N.ot ak,anO (d:=(a[k],b[k])) (he _ (ba h))];simp only[ao,ah,bm,Yf];by_cases hx:a[k]=b[k]
   ·rw[aI hx,if_pos hx];rfl
   ·rw[aJ hx,if_neg hx];rfl
  by_cases hx:a[k]=b[k]
  ·left;refine⟨(b,a,(a.length:Int),((k+1:Nat):Int)),⟨⟨hl,he⟩,qz,rfl,k+1,ak,rfl⟩,by simp only[aa];omega,?_,λkn kx=> ?_⟩
   ·simp only[mY,sT,aa,hd,hx,hJ]
   ·rw[step,if_pos hx]
  ·right;refine⟨sU (),?_,λkn kx=> ?_⟩
   ·simp only[mY,sT,aa,hd,hx,mG,bz];rfl
   ·rw[step,if_neg hx]
 ·right;obtain rfl:k=a.length:=ak;refine⟨Am (),?_,λkn kx=> ?_⟩
  ·simp only[mY,sT,aa,aN];rw[qz,aN,if_pos rfl];rfl
  ·rw[MB,aT ak,au]
theorem azX:Pt.Ok:=by
 rintro⟨a,b⟩ hl;have aJe:a.length<=1000000000:=hl.1;rw[azW];simp only[bm,akU];by_cases h:a.length=b.length
 ·rw[cZ ak,au,agJ (d:=(b,a,(a.length:Int),0)) ⟨hl,h,rfl,0,aL _,rfl⟩];simp only[ah,mY,sT,aS,aM];by_cases hx:a=b
  ·rw[if_pos hx,aI hx];rfl
  ·rw[if_neg hx,aJ hx];rfl
 ·rw[eR ak,aJ (λx=>h (by rw[x]))];rfl
theorem avR:Pt.RS:=rE [.d (.slice dM),.d (.slice dM)] Pt
def azY:=Pt.fh azX 1 ⟨.fD akV,trivial⟩
abbrev y8:=(List gb)×(List gb)×Int×Int
def po:y8->AS:=λ(kI,t15,t16,t17)=>⟨([bK,.d (.slice dO) kI,.fn 72 (.cons (.ptr (.eC 0) 0 [] 0) (.nil))]++a9 12 ([.d (.slice dO) t15,.d ti t16,.d ti t17]++a9 14 [])),cH (.fn 70 (.nil)),(ag 32 [])⟩
def pZ:Unit->Exit×AS:=λx=>(.ret,⟨(a9 6 ([.d .bool aQ]++a9 25 [])),cH (.fn 70 (.nil)),(ag 32 [])⟩)
def yc:Unit->Exit×AS:=λx=>(.exit 0,⟨(a9 32 []),cH (.fn 70 (.nil)),(ag 32 [])⟩)
abbrev KW:=(Unit)⊕(Unit)
abbrev VE:=(Unit)⊕(Unit)
def DJ:KW->Out (Exit×AS):=λx=> .br x.isLeft (.get x.getLeft? λa=> .ok (pZ a)) (.get x.getRight? λb=> .ok (yc b))
def lE:y8->VE->KW:=λ(kI,t15,t16,t17) y=>match y with | .inl y=> .inl y | .inr z=> .inr (z)
abbrev aoQ:=(List gb)×(List gb)
def xZ:y8->Prop:=λ(b,a,m,i)=>(a.length<=1000000000/\∀x∈a,x.2.1.1.length<=1000000000/\∀b∈x.2.1.1,b.1.length<=1000000000)/\a.length=b.length/\m=a.length/\∃k:Nat,k<=a.length/\i=k
def pn:y8->VE:=λ(b,a,m,i)=>if a.drop i.toNat=b.drop i.toNat then .inr () else .inl ()
def arc:aoQ->Prop:=λ(a,b)=>a.length<=1000000000/\∀x∈a,x.2.1.1.length<=1000000000/\∀b∈x.2.1.1,b.1.length<=1000000000
def adW:aoQ->Bool:=λ(a,b)=>decide (a=b)
def VD:=eu.fD po xZ lE pn DJ
def Jp:y8->Option KW:=jq VD po
def Cs:Fs Tryz.prog arc bm adW:=fg 75 Tryz.f75 (λ(s1,s2)=>([.d (.slice dO) s1,.d (.slice dO) s2,.fn 72 (.cons (.ptr (.eC 0) 0 [] 0) (.nil))],[.obj 0 aQ (.fn 70 (.nil))])) (λx=>⟨.d .bool x,[.obj 0 aQ (.fn 70 (.nil))],[]⟩) [aw (.slice dO),aw (.slice dO),aF] [atE] {loops:=oN [(4,{aY:=[1,2,15,16,17]})],outs:=oM [(4,{},{aY:=[6]})],fE:=pX [(4,VD)]}
def KV:= @fO Tryz.prog (oc Cs.G) Cs.an 0 Tryz.f75 0 _ po
abbrev RA:=oT Tryz.prog (oc Cs.G) Cs.an 0 Tryz.f75 0 po xZ lE pn DJ
theorem adX:nw Jp xZ lE pn:=qL (qF [.d (.slice dO),.d (.slice dO),.d ti,.d ti] λ_=>cK)
theorem MY:qN @KV po xZ lE pn DJ RA:=sk
theorem Jq(kI t15 t16 t17)(kn:K2 R)(kx:K3 R):KV (kI,t15,t16,t17) kn kx=aG (fV t17 t16) (aG (ei t17 (((ae t15):Nat):Int)) (aG (ei t17 (((ae kI):Nat):Int)) (aj (H3.call ((nth dO t15 (ab t17)),(nth dO kI (ab t17)))) λx1=>aG (!x1) (kx (pZ ()).1 (pZ ()).2) (kn (po (kI,t15,t16,(bB .i64 t17 (1:Int)))))) aF) aF) (kx (yc ()).1 (yc ()).2):=cK
theorem awD(s1 s2)(k:K1 R):Cs.A (s1,s2) k=aG (Ak (s1.length:Int) (s2.length:Int)) (k (Cs.out aQ)) (aj (Jp (s2,s1,(s1.length:Int),0)) λx2=>aG x2.isLeft (aj x2.getLeft? λa3=>k (Cs.out aQ)) (aj x2.getRight? λb4=>k (Cs.out aW))):=cK
theorem ahw:RA:=by
 refine MY (λ(b,a,m,i)=>a.length - i.toNat) ?_
 rintro⟨b,a,m,i⟩ ⟨⟨hl,he⟩,qz,rfl,k,hk,rfl⟩;have hl:a.length<=1000000000:=hl;have qz:a.length=b.length:=qz;have hk:k<=a.length:=hk;by_cases h:k < a.length
 ·have h2:k < b.length:=ak;have n1:nth dO a k=a[k]:=cC (t:=dO) h;have n2:nth dO b k=b[k]:=cC (t:=dO) h2;have hd:(a.drop k=b.drop k)=(a[k]=b[k]/\a.drop (k+1)=b.drop (k+1)):=by rw[aq h,aq h2,bF]
  have step:∀ {R:Type} (kn:AS->Option R) (kx:Exit->AS->Option R),KV (b,a,(a.length:Int),(k:Int)) kn kx=if a[k]=b[k] then kn (po (b,a,(a.length:Int),((k+1:Nat):Int))) else kx (pZ ()).1 (pZ ()).2:=by
   intro R kn kx;rw[Jq,aU ak,bo ak ak,bo ak ak,aa,n1,n2,N.ot ak,anS (d:=(a[k],b[k])) (he _ (ba h))];simp only[ao,ah,bm,Yh];by_cases hx:a[k]=b[k]
   ·rw[aI hx,if_pos hx];rfl
   ·rw[aJ hx,if_neg hx];rfl
  by_cases hx:a[k]=b[k]
  ·left;refine⟨(b,a,(a.length:Int),((k+1:Nat):Int)),⟨⟨hl,he⟩,qz,rfl,k+1,ak,rfl⟩,by simp only[aa];omega,?_,λkn kx=> ?_⟩
   ·simp only[lE,pn,aa,hd,hx,hJ]
   ·rw[step,if_pos hx]
  ·right;refine⟨pZ (),?_,λkn kx=> ?_⟩
   ·simp only[lE,pn,aa,hd,hx,mG,bz];rfl
   ·rw[step,if_neg hx]
 ·right;obtain rfl:k=a.length:=ak;refine⟨yc (),?_,λkn kx=> ?_⟩
  ·simp only[lE,pn,aa,aN];rw[qz,aN,if_pos rfl];rfl
  ·rw[Jq,aT ak,au]
theorem awE:Cs.Ok:=by
 rintro⟨a,b⟩ hl;have aJe:a.length<=1000000000:=hl.1;rw[awD];simp only[bm,adW];by_cases h:a.length=b.length
 ·rw[cZ ak,au,adX (d:=(b,a,(a.length:Int),0)) ⟨hl,h,rfl,0,aL _,rfl⟩];simp only[ah,lE,pn,aS,aM];by_cases hx:a=b
  ·rw[if_pos hx,aI hx];rfl
  ·rw[if_neg hx,aJ hx];rfl
 ·rw[eR ak,aJ (λx=>h (by rw[x]))];rfl
theorem ard:Cs.RS:=rE [.d (.slice dO),.d (.slice dO)] Cs
def awF:=Cs.fh awE 1 ⟨.fD ahw,trivial⟩
def atF:(eT×eT)->Prop:=λ(a,b)=>CZ a
def TT:(eT×eT)->Bool:=λ(a,b)=>decide (a=b)
def rn:Fs Tryz.prog atF bm TT:=fg 25 Tryz.f25 (λ(a,b)=>([.d eU a,.d eU b],[])) (λx=>⟨.d .bool x,[],[]⟩) [aw eU,aw eU] [azY,awF]
theorem ayt(a b)(k:K1 R):rn.A (a,b) k=aG (wD a.2.2.1 b.2.2.1) (aj (Pt.call (a.1,b.1)) λx1=>aG (x1) (aj (Cs.call (a.2.1,b.2.1)) λx2=>k (rn.out x2)) (k (rn.out aQ))) (k (rn.out aQ)):=cK
theorem ayu:rn.Ok:=by
 rintro⟨⟨i1,o1,n1,u1⟩,⟨i2,o2,n2,u2⟩⟩ h;have h:CZ (i1,o1,n1,u1):=h;rw[ayt,avR (d:=(i1,i2)) h.1,ard (d:=(o1,o2)) h.2];simp only[ah,bm,akU,bm,adW,bm,TT];by_cases e1:n1=n2
 ·by_cases e2:i1=i2
  ·by_cases e3:o1=o2
   ·rw[dJ e1,aI e2,aI e3,aI (by rw[e1,e2,e3])];rfl
   ·rw[dJ e1,aI e2,aJ e3,aJ (by rintro⟨⟩;exact e3 rfl)];rfl
  ·rw[dJ e1,aJ e2,aJ (p:=(i1,o1,n1,u1)=(i2,o2,n2,u2)) (by rintro⟨⟩;exact e2 rfl)];rfl
 ·rw[fj e1,aJ (p:=(i1,o1,n1,u1)=(i2,o2,n2,u2)) (by rintro⟨⟩;exact e1 rfl)];rfl
theorem QE:rn.RS:=rE [.d eU,.d eU] rn
def ajz:=rn.fh ayu
def we(x:fB):Bool:=decide (x.2.1.2.1.length<=14)
def wc(b:mr):Bool:=decide (b.1.length<=14)
def re(o:gb):Bool:=decide (o.2.1.1.length<=6) && o.2.1.1.all wc
def Lr(t:eT):Bool:=decide (t.1.length<=66/\t.2.1.length<=66) && (t.1.all we && t.2.1.all re)
abbrev qX:=eT×Int
def kE:qX->AS:=λ(gR,i)=>⟨([bK,.dB eU gR,bK,.d ti i]++a9 69 []),[],(ag 73 [])⟩
def lf:Unit->Exit×AS:=λx=>(.ret,⟨([bK,bK,.d .bool aQ]++a9 70 []),[],(ag 73 [])⟩)
def rS:eT->Exit×AS:=λx=>(.exit 0,⟨([bK,.dB eU x]++a9 71 []),[],(ag 73 [])⟩)
abbrev BG:=(Unit)⊕(eT)
abbrev JJ:=(Unit)⊕(Unit)
def xl:BG->Out (Exit×AS):=λx=> .br x.isLeft (.get x.getLeft? λa=> .ok (lf a)) (.get x.getRight? λb=> .ok (rS b))
def im:qX->JJ->BG:=λ(gR,i) y=>match y with | .inl y=> .inl y | .inr z=> .inr (gR)
abbrev qY:=eT×Int
def kF:qY->AS:=λ(sh,eI)=>⟨([bK,.dB eU sh,bK,bK,.d ti eI]++a9 68 []),[],(ag 73 [])⟩
def ir:Unit->Exit×AS:=λx=>(.ret,⟨([bK,bK,.d .bool aQ]++a9 70 []),[],(ag 73 [])⟩)
def rU:Unit->Exit×AS:=λx=>(.exit 2,⟨(a9 73 []),[],(ag 73 [])⟩)
abbrev BI:=(Unit)⊕(Unit)
abbrev JL:=(Unit)⊕(Unit)
def xm:BI->Out (Exit×AS):=λx=> .br x.isLeft (.get x.getLeft? λa=> .ok (ir a)) (.get x.getRight? λb=> .ok (rU b))
def iq:qY->JL->BI:=λ(sh,eI) y=>match y with | .inl y=> .inl y | .inr z=> .inr (z)
abbrev qZ:=eT×Int×Int
def kG:qZ->AS:=λ(xt,oV,kv)=>⟨([bK,.dB eU xt,bK,bK,.d ti oV,.d ti kv]++a9 67 []),[],(ag 73 [])⟩
def lg:Unit->Exit×AS:=λx=>(.ret,⟨([bK,bK,.d .bool aQ]++a9 70 []),[],(ag 73 [])⟩)
def rW:(eT×Int)->Exit×AS:=λx=>(.exit 4,⟨([bK,.dB eU x.1,bK,bK,.d ti x.2]++a9 68 []),[],(ag 73 [])⟩)
abbrev BK:=(Unit)⊕((eT×Int))
abbrev JN:=(Unit)⊕(Unit)
def xn:BK->Out (Exit×AS):=λx=> .br x.isLeft (.get x.getLeft? λa=> .ok (lg a)) (.get x.getRight? λb=> .ok (rW b))
def iu:qZ->JN->BK:=λ(xt,oV,kv) y=>match y with | .inl y=> .inl y | .inr z=> .inr ((xt,oV))
def rR:qX->Prop:=λ(t,i)=>t.1.length<=1000000000/\∃k:Nat,k<=t.1.length/\i=k
def jY:qX->JJ:=λ(t,i)=>if(aX (ab i) t.1).all we then .inr () else .inl ()
def rV:qZ->Prop:=λ(t,j,i)=>(nth dO t.2.1 (ab j)).2.1.1.length<=1000000000/\∃k:Nat,k<=(nth dO t.2.1 (ab j)).2.1.1.length/\i=k/\(0<=j/\j < (t.2.1.length:Int))
def j1:qZ->JN:=λ(t,j,i)=>if(aX (ab i) (nth dO t.2.1 (ab j)).2.1.1).all wc then .inr () else .inl ()
def rT:qY->Prop:=λ(t,i)=>t.2.1.length<=1000000000/\∃k:Nat,k<=t.2.1.length/\i=k
def jZ:qY->JL:=λ(t,i)=>if(aX (ab i) t.2.1).all re then .inr () else .inl ()
def aeo:eT->Prop:=λ_=>True
def La:eT->Bool:=λt=>Lr t
def JI:=eu.fD kE rR im jY xl
def CH:qX->Option BG:=jq JI kE
def JK:=eu.fD kF rT iq jZ xm
def CJ:qY->Option BI:=jq JK kF
def JM:=eu.fD kG rV iu j1 xn
def CL:qZ->Option BK:=jq JM kG
def fC:Fs Tryz.prog aeo bm La:=fg 5 Tryz.f5 (λt=>([.d eU t],[])) (λx=>⟨.d .bool x,[],[]⟩) [aw eU] [] {loops:=oN [(4,{aY:=[1,3]}),(9,{aY:=[1,4]}),(14,{aY:=[1,4,5]})],outs:=oM [(4,{aY:=[1]},{aY:=[2]}),(9,{},{aY:=[2]}),(14,{aY:=[1,4]},{aY:=[2]})],fE:=pX [(4,JI),(9,JK),(14,JM)]}
def BF:= @fO Tryz.prog (oc fC.G) fC.an 0 Tryz.f5 0 _ kE
abbrev GS:=oT Tryz.prog (oc fC.G) fC.an 0 Tryz.f5 0 kE rR im jY xl
def BH:= @fO Tryz.prog (oc fC.G) fC.an 0 Tryz.f5 1 _ kF
abbrev GV:=oT Tryz.prog (oc fC.G) fC.an 0 Tryz.f5 1 kF rT iq jZ xm
def BJ:= @fO Tryz.prog (oc fC.G) fC.an 0 Tryz.f5 2 _ kG
abbrev GX:=oT Tryz.prog (oc fC.G) fC.an 0 Tryz.f5 2 kG rV iu j1 xn
theorem S9:nw CH rR im jY:=qL (qF [.d eU,.d ti] λ_=>cK)
theorem GU:qN @BF kE rR im jY xl GS:=sk
theorem CI(gR i)(kn:K2 R)(kx:K3 R):BF (gR,i) kn kx=aG (fV i (((ae gR.1):Nat):Int)) (aG (ei i (((ae gR.1):Nat):Int)) (aG (xS (((ae (nth dM gR.1 (ab i)).2.1.2.1):Nat):Int) (14:Int)) (kx (lf ()).1 (lf ()).2) (kn (kE (gR,(bB .i64 i (1:Int)))))) aF) (kx (rS gR).1 (rS gR).2):=cK
theorem Tc:nw CJ rT iq jZ:=qL (qF [.d eU,.d ti] λ_=>cK)
theorem GW:qN @BH kF rT iq jZ xm GV:=sk
theorem CK(sh eI)(kn:K2 R)(kx:K3 R):BH (sh,eI) kn kx=aG (fV eI (((ae sh.2.1):Nat):Int)) (aG (ei eI (((ae sh.2.1):Nat):Int)) (aG (xS (((ae (nth dO sh.2.1 (ab eI)).2.1.1):Nat):Int) (6:Int)) (kx (ir ()).1 (ir ()).2) (aj (CL (sh,eI,(0:Int))) λx1=>aG x1.isLeft (aj x1.getLeft? λa2=>kx (ir ()).1 (ir ()).2) (aj x1.getRight? λb3=>kn (kF (b3.1,(bB .i64 b3.2 (1:Int))))))) aF) (kx (rU ()).1 (rU ()).2):=cK
theorem Td:nw CL rV iu j1:=qL (qF [.d eU,.d ti,.d ti] λ_=>cK)
theorem GY:qN @BJ kG rV iu j1 xn GX:=sk
theorem CM(xt oV kv)(kn:K2 R)(kx:K3 R):BJ (xt,oV,kv) kn kx=aG (ei oV (((ae xt.2.1):Nat):Int)) (aG (fV kv (((ae (nth dO xt.2.1 (ab oV)).2.1.1):Nat):Int)) (aG (ei oV (((ae xt.2.1):Nat):Int)) (aG (ei kv (((ae (nth dO xt.2.1 (ab oV)).2.1.1):Nat):Int)) (aG (xS (((ae (nth gW (nth dO xt.2.1 (ab oV)).2.1.1 (ab kv)).1):Nat):Int) (14:Int)) (kx (lg ()).1 (lg ()).2) (kn (kG (xt,oV,(bB .i64 kv (1:Int)))))) aF) aF) (kx (rW (xt,oV)).1 (rW (xt,oV)).2)) aF:=cK
theorem ah6(t)(k:K1 R):fC.A t k=aG (xS (t.1.length:Int) 66) (k (fC.out aQ)) (aG (xS (t.2.1.length:Int) 66) (k (fC.out aQ)) (aj (CH (t,0)) λx1=>aG x1.isLeft (aj x1.getLeft? λa2=>k (fC.out aQ)) (aj x1.getRight? λb3=>aj (CJ (b3,0)) λx7=>aG x7.isLeft (aj x7.getLeft? λa8=>k (fC.out aQ)) (aj x7.getRight? λb9=>k (fC.out aW))))):=cK
theorem Wq:GS:=by
 refine GU (λ(t,i)=>t.1.length - ab i) ?_
 rintro⟨t,i⟩ ⟨hlen,k,hk,rfl⟩;have hlen:t.1.length<=1000000000:=hlen;have hk:k<=t.1.length:=hk;by_cases h:k < t.1.length
 ·have n1:nth dM t.1 k=t.1[k]:=cC (t:=dM) h;have hd:(aX k t.1).all we=(we t.1[k] && (aX (k+1) t.1).all we):=by rw[aq h,fp]
  have step:∀ {R:Type} (kn:AS->Option R) (kx:Exit->AS->Option R),BF (t,(k:Int)) kn kx=aG (we t.1[k]) (kn (kE (t,((k+1:Nat):Int)))) (kx (lf ()).1 (lf ()).2):=by
   intro R kn kx;rw[CI,aU ak,bo (show(0:Int)<=(k:Int) by omega) ak,aa,n1];simp only[ao];rw[N.ot ak];unfold we;by_cases hs:t.1[k].2.1.2.1.length<=14
   ·rw[cJ ak,aI hs];rfl
   ·rw[dk ak,aJ hs];rfl
  cases hp:we t.1[k]
  ·right;refine⟨lf (),?_,λkn kx=> ?_⟩
   ·simp only[im,jY,aa,hd,hp,dG,bU,bz];rfl
   ·rw[step,hp,au]
  ·left;refine⟨(t,((k+1:Nat):Int)),⟨hlen,k+1,ak,rfl⟩,by simp only[aa];omega,?_,λkn kx=> ?_⟩
   ·simp only[im,jY,aa,hd,hp,bI]
   ·rw[step,hp,ao]
 ·right;obtain rfl:k=t.1.length:=ak;refine⟨rS t,?_,λkn kx=> ?_⟩
  ·simp only[im,jY,aa,aN];rfl
  ·rw[CI,aT ak,au]
theorem Ws:GX:=by
 refine GY (λ(t,j,i)=>(nth dO t.2.1 (ab j)).2.1.1.length - ab i) ?_
 rintro⟨t,j,i⟩ ⟨hlen,k,hk,rfl,hj⟩;have hlen:(nth dO t.2.1 (ab j)).2.1.1.length<=1000000000:=hlen;have hk:k<=(nth dO t.2.1 (ab j)).2.1.1.length:=hk;have hj:0<=j/\j < (t.2.1.length:Int):=hj;by_cases h:k < (nth dO t.2.1 (ab j)).2.1.1.length
 ·have n1:nth gW (nth dO t.2.1 (ab j)).2.1.1 k=(nth dO t.2.1 (ab j)).2.1.1[k]:=cC (t:=gW) h;have hd:(aX k (nth dO t.2.1 (ab j)).2.1.1).all wc=(wc (nth dO t.2.1 (ab j)).2.1.1[k] && (aX (k+1) (nth dO t.2.1 (ab j)).2.1.1).all wc):=by rw[aq h,fp]
  have step:∀ {R:Type} (kn:AS->Option R) (kx:Exit->AS->Option R),BJ (t,j,(k:Int)) kn kx=aG (wc (nth dO t.2.1 (ab j)).2.1.1[k]) (kn (kG (t,j,((k+1:Nat):Int)))) (kx (lg ()).1 (lg ()).2):=by
   intro R kn kx;rw[CM,bo hj.1 hj.2,ao,aU ak,bo (show(0:Int)<=(k:Int) by omega) ak,aa,n1];simp only[ao];rw[N.ot ak];unfold wc;by_cases hs:(nth dO t.2.1 (ab j)).2.1.1[k].1.length<=14
   ·rw[cJ ak,aI hs];rfl
   ·rw[dk ak,aJ hs];rfl
  cases hp:wc (nth dO t.2.1 (ab j)).2.1.1[k]
  ·right;refine⟨lg (),?_,λkn kx=> ?_⟩
   ·simp only[iu,j1,aa,hd,hp,dG,bU,bz];rfl
   ·rw[step,hp,au]
  ·left;refine⟨(t,j,((k+1:Nat):Int)),⟨hlen,k+1,ak,rfl,hj⟩,by simp only[aa];omega,?_,λkn kx=> ?_⟩
   ·simp only[iu,j1,aa,hd,hp,bI]
   ·rw[step,hp,ao]
 ·right;obtain rfl:k=(nth dO t.2.1 (ab j)).2.1.1.length:=ak;refine⟨rW (t,j),?_,λkn kx=> ?_⟩
  ·simp only[iu,j1,aa,aN];rfl
  ·rw[CM,bo hj.1 hj.2,ao,aT ak,au]
theorem Wr:GV:=by
 refine GW (λ(t,i)=>t.2.1.length - ab i) ?_
 rintro⟨t,i⟩ ⟨hlen,k,hk,rfl⟩;have hlen:t.2.1.length<=1000000000:=hlen;have hk:k<=t.2.1.length:=hk;by_cases h:k < t.2.1.length
 ·have n1:nth dO t.2.1 k=t.2.1[k]:=cC (t:=dO) h;have hd:(aX k t.2.1).all re=(re t.2.1[k] && (aX (k+1) t.2.1).all re):=by rw[aq h,fp]
  have step:∀ {R:Type} (kn:AS->Option R) (kx:Exit->AS->Option R),BH (t,(k:Int)) kn kx=aG (re t.2.1[k]) (kn (kF (t,((k+1:Nat):Int)))) (kx (ir ()).1 (ir ()).2):=by
   intro R kn kx;rw[CK,aU ak,bo (show(0:Int)<=(k:Int) by omega) ak,aa,n1];simp only[ao];unfold re;by_cases hs:t.2.1[k].2.1.1.length<=6
   ·rw[cJ ak,aI hs,au,Td (d:=(t,(k:Int),0)) ⟨by rw[aa,n1];show t.2.1[k].2.1.1.length<=_;omega,0,aL _,rfl,by show(0:Int)<=(k:Int);omega,by show(k:Int) < (t.2.1.length:Int);omega⟩];simp only[ah,iu,j1,aa,n1,aS,aM,bI];cases t.2.1[k].2.1.1.all wc
    ·rfl
    ·simp only[bN,fb,dW,au,ah,ao];rw[N.ot ak]
   ·rw[dk ak,aJ hs];rfl
  cases hp:re t.2.1[k]
  ·right;refine⟨ir (),?_,λkn kx=> ?_⟩
   ·simp only[iq,jZ,aa,hd,hp,dG,bU,bz];rfl
   ·rw[step,hp,au]
  ·left;refine⟨(t,((k+1:Nat):Int)),⟨hlen,k+1,ak,rfl⟩,by simp only[aa];omega,?_,λkn kx=> ?_⟩
   ·simp only[iq,jZ,aa,hd,hp,bI]
   ·rw[step,hp,ao]
 ·right;obtain rfl:k=t.2.1.length:=ak;refine⟨rU (),?_,λkn kx=> ?_⟩
  ·simp only[iq,jZ,aa,aN];rfl
  ·rw[CK,aT ak,au]
theorem ah7:fC.Ok:=by
 intro t _;rw[ah6];simp only[bm,La,Lr];by_cases h1:t.1.length<=66
 ·by_cases h2:t.2.1.length<=66
  ·rw[cJ ak,cJ ak,au,au,aI ⟨h1,h2⟩,S9 (d:=(t,0)) ⟨by show t.1.length<=_;omega,0,aL _,rfl⟩];simp only[ah,im,jY,aS,aM,bI];cases t.1.all we
   ·rfl
   ·simp only[bN,fb,dW,au,ah,bI];rw[Tc (d:=(t,0)) ⟨by show t.2.1.length<=_;omega,0,aL _,rfl⟩];simp only[ah,iq,jZ,aS,aM];cases t.2.1.all re <;> rfl
  ·rw[cJ ak,dk ak,aJ (λx=>h2 x.2)];rfl
 ·rw[dk ak,aJ (λx=>h1 x.1)];rfl
theorem Nv:fC.RS:=rE [.d eU] fC
def ah8:=fC.fh ah7 3 ⟨.fD Wq,⟨.fD Wr,⟨.fD Ws,trivial⟩⟩⟩
abbrev wP:=FB×FB×Int
def nL:wP->AS:=λ(oY,fI,i)=>⟨([bK,bK,.dB TS oY,.dB TS fI,bK,.d ti i]++a9 39 []),[],(ag 45 [])⟩
def oB:Unit->Exit×AS:=λx=>(.ret,⟨(a9 4 ([.d .bool aQ]++a9 40 [])),[],(ag 45 [])⟩)
def vY:Unit->Exit×AS:=λx=>(.exit 0,⟨(a9 45 []),[],(ag 45 [])⟩)
abbrev G1:=(Unit)⊕(Unit)
abbrev RV:=(Unit)⊕(Unit)
def BL:G1->Out (Exit×AS):=λx=> .br x.isLeft (.get x.getLeft? λa=> .ok (oB a)) (.get x.getRight? λb=> .ok (vY b))
def j2:wP->RV->G1:=λ(oY,fI,i) y=>match y with | .inl y=> .inl y | .inr z=> .inr (z)
def vX:wP->Prop:=λ(a,b,i)=>a.2.1.length<=1000000000/\a.2.1.length=b.2.1.length/\∃k:Nat,k<=a.2.1.length/\i=k
def nc:wP->RV:=λ(a,b,i)=>if aX (ab i) a.2.1=aX (ab i) b.2.1 then .inr () else .inl ()
def al4:(FB×FB)->Prop:=λ(a,b)=>a.2.1.length<=1000000000
def Wt:(FB×FB)->Bool:=λ(a,b)=>decide (a=b)
def RU:=eu.fD nL vX j2 nc BL
def G2:wP->Option G1:=jq RU nL
def sI:Fs Tryz.prog al4 bm Wt:=fg 54 Tryz.f54 (λ(a,b)=>([.d TS a,.d TS b],[])) (λx=>⟨.d .bool x,[],[]⟩) [aw TS,aw TS] [] {loops:=oN [(4,{aY:=[2,3,5]})],outs:=oM [(4,{},{aY:=[4]})],fE:=pX [(4,RU)]}
def G0:= @fO Tryz.prog (oc sI.G) sI.an 0 Tryz.f54 0 _ nL
abbrev Nw:=oT Tryz.prog (oc sI.G) sI.an 0 Tryz.f54 0 nL vX j2 nc BL
theorem ZH:nw G2 vX j2 nc:=qL (qF [.d TS,.d TS,.d ti] λ_=>cK)
theorem Lb:qN @G0 nL vX j2 nc BL Nw:=sk
theorem G3(oY fI i)(kn:K2 R)(kx:K3 R):G0 (oY,fI,i) kn kx=aG (fV i (((ae oY.2.1):Nat):Int)) (aG (ei i (((ae oY.2.1):Nat):Int)) (aG (ei i (((ae fI.2.1):Nat):Int)) (aG (!(Ty.beq oE (nth oE oY.2.1 (ab i)) (nth oE fI.2.1 (ab i)))) (kx (oB ()).1 (oB ()).2) (kn (nL (oY,fI,(bB .i64 i (1:Int)))))) aF) aF) (kx (vY ()).1 (vY ()).2):=cK
theorem arF(a b)(k:K1 R):sI.A (a,b) k=aG (Ak a.1 b.1) (k (sI.out aQ)) (aG (Ak a.2.2.1 b.2.2.1) (k (sI.out aQ)) (aG (Ak (a.2.1.length:Int) (b.2.1.length:Int)) (k (sI.out aQ)) (aj (G2 (a,b,0)) λx1=>aG x1.isLeft (aj x1.getLeft? λa2=>k (sI.out aQ)) (aj x1.getRight? λb3=>k (sI.out aW))))):=cK
theorem aev:Nw:=by
 refine Lb (λ(a,b,i)=>a.2.1.length - ab i) ?_
 rintro⟨a,b,i⟩ ⟨hlen,qz,k,hk,rfl⟩;have hlen:a.2.1.length<=1000000000:=hlen;have qz:a.2.1.length=b.2.1.length:=qz;have hk:k<=a.2.1.length:=hk;by_cases h:k < a.2.1.length
 ·have h2:k < b.2.1.length:=ak;have n1:nth oE a.2.1 k=a.2.1[k]:=cC (t:=oE) h;have n2:nth oE b.2.1 k=b.2.1[k]:=cC (t:=oE) h2;have hd:(aX k a.2.1=aX k b.2.1)=(a.2.1[k]=b.2.1[k]/\aX (k+1) a.2.1=aX (k+1) b.2.1):=by rw[aq h,aq h2,bF]
  have step:∀ {R:Type} (kn:AS->Option R) (kx:Exit->AS->Option R),G0 (a,b,(k:Int)) kn kx=if a.2.1[k]=b.2.1[k] then kn (nL (a,b,((k+1:Nat):Int))) else kx (oB ()).1 (oB ()).2:=by
   intro R kn kx;rw[G3,aU ak,bo ak ak,bo ak ak,aa,n1,n2];simp only[ao];rw[aui,N.ot ak];by_cases hx:a.2.1[k]=b.2.1[k]
   ·rw[aI hx,if_pos hx];rfl
   ·rw[aJ hx,if_neg hx];rfl
  by_cases hx:a.2.1[k]=b.2.1[k]
  ·left;refine⟨(a,b,((k+1:Nat):Int)),⟨hlen,qz,k+1,ak,rfl⟩,by simp only[aa];omega,?_,λkn kx=> ?_⟩
   ·simp only[j2,nc,aa,hd,hx,hJ]
   ·rw[step,if_pos hx]
  ·right;refine⟨oB (),?_,λkn kx=> ?_⟩
   ·simp only[j2,nc,aa,hd,hx,mG,bz];rfl
   ·rw[step,if_neg hx]
 ·right;obtain rfl:k=a.2.1.length:=ak;refine⟨vY (),?_,λkn kx=> ?_⟩
  ·simp only[j2,nc,aa,aN];rw[qz,aN,if_pos rfl];rfl
  ·rw[G3,aT ak,au]
theorem arG:sI.Ok:=by
 rintro⟨⟨b1,s1,c1,u1⟩,⟨b2,s2,c2,u2⟩⟩ h;have h:s1.length<=1000000000:=h;rw[arF];simp only[bm,Wt];by_cases e1:b1=b2
 ·by_cases e2:c1=c2
  ·by_cases e3:s1.length=s2.length
   ·rw[cZ e1,cZ e2,cZ ak,ZH (d:=((b1,s1,c1,u1),(b2,s2,c2,u2),0)) ⟨h,e3,0,aL _,rfl⟩];simp only[ah,j2,nc,aS,aM,au];by_cases e4:s1=s2
    ·rw[if_pos e4,aI (by rw[e1,e2,e4])];rfl
    ·rw[if_neg e4,aJ (by rintro⟨⟩;exact e4 rfl)];rfl
   ·rw[cZ e1,cZ e2,eR ak,aJ (by rintro⟨⟩;exact e3 rfl)];rfl
  ·rw[cZ e1,eR e2,aJ (by rintro⟨⟩;exact e2 rfl)];rfl
 ·rw[eR e1,aJ (by rintro⟨⟩;exact e1 rfl)];rfl
theorem al5:sI.RS:=rE [.d TS,.d TS] sI
def arH:=sI.fh arG 1 ⟨.fD aev,trivial⟩
abbrev tP:=Lk×Lk×Int
def l5:tP->AS:=λ(oY,fI,i)=>⟨([bK,bK,.dB zV oY,.dB zV fI,bK,.d ti i]++a9 73 []),[],(ag 79 [])⟩
def eS:Unit->Exit×AS:=λx=>(.ret,⟨(a9 4 ([.d .bool aQ]++a9 74 [])),[],(ag 79 [])⟩)
def tR:Unit->Exit×AS:=λx=>(.exit 0,⟨(a9 79 []),[],(ag 79 [])⟩)
abbrev DT:=(Unit)⊕(Unit)
abbrev Ng:=(Unit)⊕(Unit)
def zk:DT->Out (Exit×AS):=λx=> .br x.isLeft (.get x.getLeft? λa=> .ok (eS a)) (.get x.getRight? λb=> .ok (tR b))
def jc:tP->Ng->DT:=λ(oY,fI,i) y=>match y with | .inl y=> .inl y | .inr z=> .inr (z)
abbrev tS:=Lk×Lk×Int×Int×mr×mr
def l6:tS->AS:=λ(acC,xu,eI,kv,n6,n7)=>⟨([bK,bK,.dB zV acC,.dB zV xu,bK,.d ti eI,dX 6,dX 7,.d ti kv]++a9 70 []),[],(bC 6 ([cH (.d gW n6),cH (.d gW n7)]++bC 71 []))⟩
def mN:Unit->Exit×AS:=λx=>(.ret,⟨(a9 4 ([.d .bool aQ]++a9 74 [])),[],(ag 79 [])⟩)
def tV:(Lk×Lk×Int)->Exit×AS:=λ(a,b,c)=>(.exit 2,⟨([bK,bK,.dB zV a,.dB zV b,bK,.d ti c]++a9 73 []),[],(ag 79 [])⟩)
abbrev DW:=(Unit)⊕((Lk×Lk×Int))
abbrev Ni:=(Unit)⊕(Unit)
def zl:DW->Out (Exit×AS):=λx=> .br x.isLeft (.get x.getLeft? λa=> .ok (mN a)) (.get x.getRight? λb=> .ok (tV b))
def jd:tS->Ni->DW:=λ(acC,xu,eI,kv,n6,n7) y=>match y with | .inl y=> .inl y | .inr z=> .inr ((acC,xu,eI))
def tT:tS->Prop:=λ(a,b,j,i,x,y)=>x.1.length<=1000000000/\x.1.length=y.1.length/\∃k:Nat,k<=x.1.length/\i=k
def lM:tS->Ni:=λ(a,b,j,i,x,y)=>if aX (ab i) x.1=aX (ab i) y.1 then .inr () else .inl ()
def tQ:tP->Prop:=λ(a,b,i)=>a.1.length<=1000000000/\a.1.length=b.1.length/\(∀x∈a.1,x.1.length<=1000000000)/\∃k:Nat,k<=a.1.length/\i=k
def lK:tP->Ng:=λ(a,b,i)=>if aX (ab i) a.1=aX (ab i) b.1 then .inr () else .inl ()
def ahT:(Lk×Lk)->Prop:=λ(a,b)=>a.1.length<=1000000000/\∀x∈a.1,x.1.length<=1000000000
def PX:(Lk×Lk)->Bool:=λ(a,b)=>decide (a.1=b.1)
def Nf:=eu.fD l5 tQ jc lK zk
def EW:tP->Option DT:=jq Nf l5
def Nh:=eu.fD l6 tT jd lM zl
def EY:tS->Option DW:=jq Nh l6
def lJ:Fs Tryz.prog ahT bm PX:=fg 55 Tryz.f55 (λ(a,b)=>([.d zV a,.d zV b],[])) (λx=>⟨.d .bool x,[],[]⟩) [aw zV,aw zV] [] {loops:=oN [(4,{aY:=[2,3,5]}),(11,{aY:=[2,3,5,6,7,8],sites:=[6,7]})],outs:=oM [(4,{},{aY:=[4]}),(11,{aY:=[2,3,5]},{aY:=[4]})],fE:=pX [(4,Nf),(11,Nh)]}
def DS:= @fO Tryz.prog (oc lJ.G) lJ.an 0 Tryz.f55 0 _ l5
abbrev Jt:=oT Tryz.prog (oc lJ.G) lJ.an 0 Tryz.f55 0 l5 tQ jc lK zk
def DU:= @fO Tryz.prog (oc lJ.G) lJ.an 0 Tryz.f55 1 _ l6
abbrev Ju:=oT Tryz.prog (oc lJ.G) lJ.an 0 Tryz.f55 1 l6 tT jd lM zl
theorem V9:nw EW tQ jc lK:=qL (qF [.d zV,.d zV,.d ti] λ_=>cK)
theorem IW:qN @DS l5 tQ jc lK zk Jt:=sk
theorem EX(oY fI i)(kn:K2 R)(kx:K3 R):DS (oY,fI,i) kn kx=aG (fV i (((ae oY.1):Nat):Int)) (aG (ei i (((ae oY.1):Nat):Int)) (aG (ei i (((ae fI.1):Nat):Int)) (aG (Ak (nth gW oY.1 (ab i)).2.1 (nth gW fI.1 (ab i)).2.1) (kx (eS ()).1 (eS ()).2) (aG (Ak (nth gW oY.1 (ab i)).2.2.1 (nth gW fI.1 (ab i)).2.2.1) (kx (eS ()).1 (eS ()).2) (aG (Ak (nth gW oY.1 (ab i)).2.2.2.1 (nth gW fI.1 (ab i)).2.2.2.1) (kx (eS ()).1 (eS ()).2) (aG (Ak (((ae (nth gW oY.1 (ab i)).1):Nat):Int) (((ae (nth gW fI.1 (ab i)).1):Nat):Int)) (kx (eS ()).1 (eS ()).2) (aj (EY (oY,fI,i,(0:Int),(nth gW oY.1 (ab i)),(nth gW fI.1 (ab i)))) λx1=>aG x1.isLeft (aj x1.getLeft? λa2=>kx (eS ()).1 (eS ()).2) (aj x1.getRight? λb3=>kn (l5 (b3.1,b3.2.1,(bB .i64 b3.2.2 (1:Int)))))))))) aF) aF) (kx (tR ()).1 (tR ()).2):=cK
theorem Wa:nw EY tT jd lM:=qL (qF [.d zV,.d zV,.d ti,.d ti,.d gW,.d gW] λ_=>cK)
theorem IX:qN @DU l6 tT jd lM zl Ju:=sk
theorem EZ(acC xu eI kv n6 n7)(kn:K2 R)(kx:K3 R):DU (acC,xu,eI,kv,n6,n7) kn kx=aG (fV kv (((ae n6.1):Nat):Int)) (aG (ei kv (((ae n6.1):Nat):Int)) (aG (ei kv (((ae n7.1):Nat):Int)) (aG (Ak (nth tu n6.1 (ab kv)) (nth tu n7.1 (ab kv))) (kx (mN ()).1 (mN ()).2) (kn (l6 (acC,xu,eI,(bB .i64 kv (1:Int)),n6,n7)))) aF) aF) (kx (tV (acC,xu,eI)).1 (tV (acC,xu,eI)).2):=cK
theorem alP(a b)(k:K1 R):lJ.A (a,b) k=aG (Ak (a.1.length:Int) (b.1.length:Int)) (k (lJ.out aQ)) (aj (EW (a,b,0)) λx4=>aG x4.isLeft (aj x4.getLeft? λa5=>k (lJ.out aQ)) (aj x4.getRight? λb6=>k (lJ.out aW))):=cK
theorem Zu:Ju:=by
 refine IX (λ(a,b,j,i,x,y)=>x.1.length - ab i) ?_
 rintro⟨a,b,j,i,x,y⟩ ⟨hlen,qz,k,hk,rfl⟩;have hlen:x.1.length<=1000000000:=hlen;have qz:x.1.length=y.1.length:=qz;have hk:k<=x.1.length:=hk;by_cases h:k < x.1.length
 ·have h2:k < y.1.length:=ak;have n1:nth tu x.1 k=x.1[k]:=cC (t:=tu) h;have n2:nth tu y.1 k=y.1[k]:=cC (t:=tu) h2;have hd:(aX k x.1=aX k y.1)=(x.1[k]=y.1[k]/\aX (k+1) x.1=aX (k+1) y.1):=by rw[aq h,aq h2,bF]
  have step:∀ {R:Type} (kn:AS->Option R) (kx:Exit->AS->Option R),DU (a,b,j,(k:Int),x,y) kn kx=if x.1[k]=y.1[k] then kn (l6 (a,b,j,((k+1:Nat):Int),x,y)) else kx (mN ()).1 (mN ()).2:=by
   intro R kn kx;rw[EZ,aU ak,bo ak ak,bo ak ak,aa,n1,n2];simp only[ao];rw[N.ot ak];by_cases hx:x.1[k]=y.1[k]
   ·rw[cZ hx,if_pos hx];rfl
   ·rw[eR hx,if_neg hx];rfl
  by_cases hx:x.1[k]=y.1[k]
  ·left;refine⟨(a,b,j,((k+1:Nat):Int),x,y),⟨hlen,qz,k+1,ak,rfl⟩,by simp only[aa];omega,?_,λkn kx=> ?_⟩
   ·simp only[jd,lM,aa,hd,hx,hJ]
   ·rw[step,if_pos hx]
  ·right;refine⟨mN (),?_,λkn kx=> ?_⟩
   ·simp only[jd,lM,aa,hd,hx,mG,bz];rfl
   ·rw[step,if_neg hx]
 ·right;obtain rfl:k=x.1.length:=ak;refine⟨tV (a,b,j),?_,λkn kx=> ?_⟩
  ·simp only[jd,lM,aa,aN];rw[qz,aN,if_pos rfl];rfl
  ·rw[EZ,aT ak,au]
theorem Zt:Jt:=by
 refine IW (λ(a,b,i)=>a.1.length - ab i) ?_
 rintro⟨a,b,i⟩ ⟨hlen,qz,hs,k,hk,rfl⟩;have hlen:a.1.length<=1000000000:=hlen;have qz:a.1.length=b.1.length:=qz;have hk:k<=a.1.length:=hk;have hs:∀x∈a.1,x.1.length<=1000000000:=hs;by_cases h:k < a.1.length
 ·have h2:k < b.1.length:=ak;have n1:nth gW a.1 k=a.1[k]:=cC (t:=gW) h;have n2:nth gW b.1 k=b.1[k]:=cC (t:=gW) h2;have hd:(aX k a.1=aX k b.1)=(a.1[k]=b.1[k]/\aX (k+1) a.1=aX (k+1) b.1):=by rw[aq h,aq h2,bF]
  have step:∀ {R:Type} (kn:AS->Option R) (kx:Exit->AS->Option R),DS (a,b,(k:Int)) kn kx=if a.1[k]=b.1[k] then kn (l5 (a,b,((k+1:Nat):Int))) else kx (eS ()).1 (eS ()).2:=by
   intro R kn kx;rw[EX,aU ak,bo ak ak,bo ak ak,aa,n1,n2];simp only[ao];have aGe:=hs _ (ba h);obtain⟨⟨k1,a1,d1,s1,u1⟩,e1⟩:∃x,a.1[k]=x:=⟨_,rfl⟩;obtain⟨⟨k2,a2,d2,s2,u2⟩,e2⟩:∃x,b.1[k]=x:=⟨_,rfl⟩;rw[e1]at aGe ⊢;rw[e2];dsimp only;have aGe:k1.length<=1000000000:=aGe;by_cases q2:a1=a2
   ·by_cases q3:d1=d2
    ·by_cases q4:s1=s2
     ·by_cases q1:k1.length=k2.length
      ·rw[cZ q2,cZ q3,cZ q4,cZ ak,Wa (d:=(a,b,(k:Int),0,(k1,a1,d1,s1,u1),(k2,a2,d2,s2,u2))) ⟨aGe,q1,0,aL _,rfl⟩];simp only[au,ah,jd,lM,aS,aM];by_cases q5:k1=k2
       ·rw[if_pos q5,if_pos (by rw[q5,q2,q3,q4])];simp only[fb,dW,au,ah];rw[N.ot ak]
       ·rw[if_neg q5,if_neg (by rintro⟨⟩;exact q5 rfl)];rfl
      ·rw[cZ q2,cZ q3,cZ q4,eR ak,if_neg (by rintro⟨⟩;exact q1 rfl)];rfl
     ·rw[cZ q2,cZ q3,eR q4,if_neg (by rintro⟨⟩;exact q4 rfl)];rfl
    ·rw[cZ q2,eR q3,if_neg (by rintro⟨⟩;exact q3 rfl)];rfl
   ·rw[eR q2,if_neg (by rintro⟨⟩;exact q2 rfl)];rfl
  by_cases hx:a.1[k]=b.1[k]
  ·left;refine⟨(a,b,((k+1:Nat):Int)),⟨hlen,qz,hs,k+1,ak,rfl⟩,by simp only[aa];omega,?_,λkn kx=> ?_⟩
   ·simp only[jc,lK,aa,hd,hx,hJ]
   ·rw[step,if_pos hx]
  ·right;refine⟨eS (),?_,λkn kx=> ?_⟩
   ·simp only[jc,lK,aa,hd,hx,mG,bz];rfl
   ·rw[step,if_neg hx]
 ·right;obtain rfl:k=a.1.length:=ak;refine⟨tR (),?_,λkn kx=> ?_⟩
  ·simp only[jc,lK,aa,aN];rw[qz,aN,if_pos rfl];rfl
  ·rw[EX,aT ak,au]
theorem alQ:lJ.Ok:=by
 rintro⟨a,b⟩ ⟨h,hs⟩;have h:a.1.length<=1000000000:=h;rw[alP];simp only[bm,PX];by_cases e3:a.1.length=b.1.length
 ·rw[cZ ak,V9 (d:=(a,b,0)) ⟨h,e3,hs,0,aL _,rfl⟩];simp only[ah,jc,lK,aS,aM,au];by_cases e4:a.1=b.1
  ·rw[if_pos e4,aI e4];rfl
  ·rw[if_neg e4,aJ e4];rfl
 ·rw[eR ak,aJ (λx=>e3 (by rw[x]))];rfl
theorem ahU:lJ.RS:=rE [.d zV,.d zV] lJ
def alR:=lJ.fh alQ 2 ⟨.fD Zt,⟨.fD Zu,trivial⟩⟩
abbrev ua:=eT×eT×Int
def ma:ua->AS:=λ(oY,fI,i)=>⟨([bK,bK,.dB eU oY,.dB eU fI,bK,.d ti i]++a9 96 []),[],(ag 102 [])⟩
def ji:Unit->Exit×AS:=λx=>(.ret,⟨(a9 4 ([.d .bool aQ]++a9 97 [])),[],(ag 102 [])⟩)
def ud:(eT×eT)->Exit×AS:=λx=>(.exit 0,⟨([bK,bK,.dB eU x.1,.dB eU x.2]++a9 98 []),[],(ag 102 [])⟩)
abbrev D3:=(Unit)⊕((eT×eT))
abbrev Nq:=(Unit)⊕(Unit)
def zq:D3->Out (Exit×AS):=λx=> .br x.isLeft (.get x.getLeft? λa=> .ok (ji a)) (.get x.getRight? λb=> .ok (ud b))
def jh:ua->Nq->D3:=λ(oY,fI,i) y=>match y with | .inl y=> .inl y | .inr z=> .inr ((oY,fI))
abbrev ue:=eT×eT×Int
def mc:ue->AS:=λ(acC,xu,eI)=>⟨([bK,bK,.dB eU acC,.dB eU xu,bK,bK,.d ti eI]++a9 95 []),[],(ag 102 [])⟩
def jl:Unit->Exit×AS:=λx=>(.ret,⟨(a9 4 ([.d .bool aQ]++a9 97 [])),[],(ag 102 [])⟩)
def ug:Unit->Exit×AS:=λx=>(.exit 2,⟨(a9 102 []),[],(ag 102 [])⟩)
abbrev D5:=(Unit)⊕(Unit)
abbrev Ns:=(Unit)⊕(Unit)
def zr:D5->Out (Exit×AS):=λx=> .br x.isLeft (.get x.getLeft? λa=> .ok (jl a)) (.get x.getRight? λb=> .ok (ug b))
def jj:ue->Ns->D5:=λ(acC,xu,eI) y=>match y with | .inl y=> .inl y | .inr z=> .inr (z)
def uc:ua->Prop:=λ(a,b,i)=>a.1.length<=1000000000/\a.1.length=b.1.length/\(∀x∈a.1,x.2.1.2.1.length<=1000000000)/\∃k:Nat,k<=a.1.length/\i=k
def lS:ua->Nq:=λ(a,b,i)=>if aX (ab i) a.1=aX (ab i) b.1 then .inr () else .inl ()
def uf:ue->Prop:=λ(a,b,i)=>a.2.1.length<=1000000000/\a.2.1.length=b.2.1.length/\(∀x∈a.2.1,x.2.1.1.length<=1000000000/\∀b∈x.2.1.1,b.1.length<=1000000000)/\∃k:Nat,k<=a.2.1.length/\i=k
def lT:ue->Ns:=λ(a,b,i)=>if aX (ab i) a.2.1=aX (ab i) b.2.1 then .inr () else .inl ()
def ah3:(eT×eT)->Prop:=λ(a,b)=>CZ a
def PZ:(eT×eT)->Bool:=λ(a,b)=>decide (a=b)
def Np:=eu.fD ma uc jh lS zq
def E7:ua->Option D3:=jq Np ma
def Nr:=eu.fD mc uf jj lT zr
def E9:ue->Option D5:=jq Nr mc
def dL:Fs Tryz.prog ah3 bm PZ:=fg 11 Tryz.f11 (λ(a,b)=>([.d eU a,.d eU b],[])) (λx=>⟨.d .bool x,[],[]⟩) [aw eU,aw eU] [arH,alR] {loops:=oN [(4,{aY:=[2,3,5]}),(9,{aY:=[2,3,6]})],outs:=oM [(4,{aY:=[2,3]},{aY:=[4]}),(9,{},{aY:=[4]})],fE:=pX [(4,Np),(9,Nr)]}
def D1:= @fO Tryz.prog (oc dL.G) dL.an 0 Tryz.f11 0 _ ma
abbrev JE:=oT Tryz.prog (oc dL.G) dL.an 0 Tryz.f11 0 ma uc jh lS zq
def D4:= @fO Tryz.prog (oc dL.G) dL.an 0 Tryz.f11 1 _ mc
abbrev JF:=oT Tryz.prog (oc dL.G) dL.an 0 Tryz.f11 1 mc uf jj lT zr
theorem Wn:nw E7 uc jh lS:=qL (qF [.d eU,.d eU,.d ti] λ_=>cK)
theorem IZ:qN @D1 ma uc jh lS zq JE:=sk
theorem E8(oY fI i)(kn:K2 R)(kx:K3 R):D1 (oY,fI,i) kn kx=aG (fV i (((ae oY.1):Nat):Int)) (aG (ei i (((ae oY.1):Nat):Int)) (aG (ei i (((ae fI.1):Nat):Int)) (aG (!(Ty.beq oS (nth dM oY.1 (ab i)).1 (nth dM fI.1 (ab i)).1)) (kx (ji ()).1 (ji ()).2) (aG (ei i (((ae oY.1):Nat):Int)) (aG (ei i (((ae fI.1):Nat):Int)) (aj (sI.call ((nth dM oY.1 (ab i)).2.1,(nth dM fI.1 (ab i)).2.1)) λx1=>aG (!x1) (kx (ji ()).1 (ji ()).2) (kn (ma (oY,fI,(bB .i64 i (1:Int)))))) aF) aF)) aF) aF) (kx (ud (oY,fI)).1 (ud (oY,fI)).2):=cK
theorem Wo:nw E9 uf jj lT:=qL (qF [.d eU,.d eU,.d ti] λ_=>cK)
theorem I0:qN @D4 mc uf jj lT zr JF:=sk
theorem Fa(acC xu eI)(kn:K2 R)(kx:K3 R):D4 (acC,xu,eI) kn kx=aG (fV eI (((ae acC.2.1):Nat):Int)) (aG (ei eI (((ae acC.2.1):Nat):Int)) (aG (ei eI (((ae xu.2.1):Nat):Int)) (aG (Ak (nth dO acC.2.1 (ab eI)).1 (nth dO xu.2.1 (ab eI)).1) (kx (jl ()).1 (jl ()).2) (aG (ei eI (((ae acC.2.1):Nat):Int)) (aG (ei eI (((ae xu.2.1):Nat):Int)) (aj (lJ.call ((nth dO acC.2.1 (ab eI)).2.1,(nth dO xu.2.1 (ab eI)).2.1)) λx1=>aG (!x1) (kx (jl ()).1 (jl ()).2) (kn (mc (acC,xu,(bB .i64 eI (1:Int)))))) aF) aF)) aF) aF) (kx (ug ()).1 (ug ()).2):=cK
theorem alY(a b)(k:K1 R):dL.A (a,b) k=aG (Ak a.2.2.1 b.2.2.1) (k (dL.out aQ)) (aG (Ak (a.1.length:Int) (b.1.length:Int)) (k (dL.out aQ)) (aG (Ak (a.2.1.length:Int) (b.2.1.length:Int)) (k (dL.out aQ)) (aj (E7 (a,b,0)) λx2=>aG x2.isLeft (aj x2.getLeft? λa3=>k (dL.out aQ)) (aj x2.getRight? λb4=>aj (E9 (b4.1,b4.2,0)) λx6=>aG x6.isLeft (aj x6.getLeft? λa7=>k (dL.out aQ)) (aj x6.getRight? λb8=>k (dL.out aW)))))):=cK
theorem ZA:JE:=by
 refine IZ (λ(a,b,i)=>a.1.length - ab i) ?_
 rintro⟨a,b,i⟩ ⟨hlen,qz,hs,k,hk,rfl⟩;have hlen:a.1.length<=1000000000:=hlen;have qz:a.1.length=b.1.length:=qz;have hk:k<=a.1.length:=hk;have hs:∀x∈a.1,x.2.1.2.1.length<=1000000000:=hs;by_cases h:k < a.1.length
 ·have h2:k < b.1.length:=ak;have n1:nth dM a.1 k=a.1[k]:=cC (t:=dM) h;have n2:nth dM b.1 k=b.1[k]:=cC (t:=dM) h2;have hd:(aX k a.1=aX k b.1)=(a.1[k]=b.1[k]/\aX (k+1) a.1=aX (k+1) b.1):=by rw[aq h,aq h2,bF]
  have step:∀ {R:Type} (kn:AS->Option R) (kx:Exit->AS->Option R),D1 (a,b,(k:Int)) kn kx=if a.1[k]=b.1[k] then kn (ma (a,b,((k+1:Nat):Int))) else kx (ji ()).1 (ji ()).2:=by
   intro R kn kx;rw[E8,aU ak,bo ak ak,bo ak ak,aa,n1,n2];simp only[ao];have e:=hs _ (ba h);rw[T8,N.ot ak,al5 (d:=(a.1[k].2.1,b.1[k].2.1)) e];simp only[ah,bm,Wt];obtain⟨⟨f1,w1,u1⟩,e1⟩:∃x,a.1[k]=x:=⟨_,rfl⟩;obtain⟨⟨f2,w2,u2⟩,e2⟩:∃x,b.1[k]=x:=⟨_,rfl⟩;rw[e1,e2];by_cases q1:f1=f2
   ·by_cases q2:w1=w2
    ·rw[aI q1,aI q2,if_pos (by rw[q1,q2])];rfl
    ·rw[aI q1,aJ q2,if_neg (by rintro⟨⟩;exact q2 rfl)];rfl
   ·rw[aJ q1,if_neg (by rintro⟨⟩;exact q1 rfl)];rfl
  by_cases hx:a.1[k]=b.1[k]
  ·left;refine⟨(a,b,((k+1:Nat):Int)),⟨hlen,qz,hs,k+1,ak,rfl⟩,by simp only[aa];omega,?_,λkn kx=> ?_⟩
   ·simp only[jh,lS,aa,hd,hx,hJ]
   ·rw[step,if_pos hx]
  ·right;refine⟨ji (),?_,λkn kx=> ?_⟩
   ·simp only[jh,lS,aa,hd,hx,mG,bz];rfl
   ·rw[step,if_neg hx]
 ·right;obtain rfl:k=a.1.length:=ak;refine⟨ud (a,b),?_,λkn kx=> ?_⟩
  ·simp only[jh,lS,aa,aN];rw[qz,aN,if_pos rfl];rfl
  ·rw[E8,aT ak,au]
theorem ZB:JF:=by
 refine I0 (λ(a,b,i)=>a.2.1.length - ab i) ?_
 rintro⟨a,b,i⟩ ⟨hlen,qz,hs,k,hk,rfl⟩;have hlen:a.2.1.length<=1000000000:=hlen;have qz:a.2.1.length=b.2.1.length:=qz;have hk:k<=a.2.1.length:=hk;have hs:∀x∈a.2.1,x.2.1.1.length<=1000000000/\∀b∈x.2.1.1,b.1.length<=1000000000:=hs;by_cases h:k < a.2.1.length
 ·have h2:k < b.2.1.length:=ak;have n1:nth dO a.2.1 k=a.2.1[k]:=cC (t:=dO) h;have n2:nth dO b.2.1 k=b.2.1[k]:=cC (t:=dO) h2;have hd:(aX k a.2.1=aX k b.2.1)=(a.2.1[k]=b.2.1[k]/\aX (k+1) a.2.1=aX (k+1) b.2.1):=by rw[aq h,aq h2,bF]
  have step:∀ {R:Type} (kn:AS->Option R) (kx:Exit->AS->Option R),D4 (a,b,(k:Int)) kn kx=if a.2.1[k]=b.2.1[k] then kn (mc (a,b,((k+1:Nat):Int))) else kx (jl ()).1 (jl ()).2:=by
   intro R kn kx;rw[Fa,aU ak,bo ak ak,bo ak ak,aa,n1,n2];simp only[ao];have e:=hs _ (ba h);rw[N.ot ak,ahU (d:=(a.2.1[k].2.1,b.2.1[k].2.1)) e];simp only[ah,bm,PX];obtain⟨⟨n1,⟨l1,v1⟩,u1⟩,e1⟩:∃x,a.2.1[k]=x:=⟨_,rfl⟩;obtain⟨⟨n2,⟨l2,v2⟩,u2⟩,e2⟩:∃x,b.2.1[k]=x:=⟨_,rfl⟩;rw[e1,e2];by_cases q1:n1=n2
   ·by_cases q2:l1=l2
    ·rw[cZ q1,aI q2,if_pos (by rw[q1,q2])];rfl
    ·rw[cZ q1,aJ q2,if_neg (by rintro⟨⟩;exact q2 rfl)];rfl
   ·rw[eR q1,if_neg (by rintro⟨⟩;exact q1 rfl)];rfl
  by_cases hx:a.2.1[k]=b.2.1[k]
  ·left;refine⟨(a,b,((k+1:Nat):Int)),⟨hlen,qz,hs,k+1,ak,rfl⟩,by simp only[aa];omega,?_,λkn kx=> ?_⟩
   ·simp only[jj,lT,aa,hd,hx,hJ]
   ·rw[step,if_pos hx]
  ·right;refine⟨jl (),?_,λkn kx=> ?_⟩
   ·simp only[jj,lT,aa,hd,hx,mG,bz];rfl
   ·rw[step,if_neg hx]
 ·right;obtain rfl:k=a.2.1.length:=ak;refine⟨ug (),?_,λkn kx=> ?_⟩
  ·simp only[jj,lT,aa,aN];rw[qz,aN,if_pos rfl];rfl
  ·rw[Fa,aT ak,au]
theorem alZ:dL.Ok:=by
 rintro⟨⟨i1,o1,n1,u1⟩,⟨i2,o2,n2,u2⟩⟩ h;have h:CZ (i1,o1,n1,u1):=h;have hi:i1.length<=1000000000:=h.1.1;have ho:o1.length<=1000000000:=h.2.1;rw[alY];simp only[bm,PZ];by_cases e1:n1=n2
 ·by_cases e2:i1.length=i2.length
  ·by_cases e3:o1.length=o2.length
   ·rw[cZ e1,cZ ak,cZ ak,Wn (d:=((i1,o1,n1,u1),(i2,o2,n2,u2),0)) ⟨hi,e2,h.1.2,0,aL _,rfl⟩];simp only[ah,jh,lS,aS,aM,au];by_cases e4:i1=i2
    ·rw[if_pos e4];simp only[fb,dW,au,ah];rw[Wo (d:=((i1,o1,n1,u1),(i2,o2,n2,u2),0)) ⟨ho,e3,h.2.2,0,aL _,rfl⟩];simp only[ah,jj,lT,aS,aM];by_cases e5:o1=o2
     ·rw[if_pos e5,aI (by rw[e1,e4,e5])];rfl
     ·rw[if_neg e5,aJ (by rintro⟨⟩;exact e5 rfl)];rfl
    ·rw[if_neg e4,aJ (by rintro⟨⟩;exact e4 rfl)];rfl
   ·rw[cZ e1,cZ ak,eR ak,aJ (by rintro⟨⟩;exact e3 rfl)];rfl
  ·rw[cZ e1,eR ak,aJ (by rintro⟨⟩;exact e2 rfl)];rfl
 ·rw[eR e1,aJ (by rintro⟨⟩;exact e1 rfl)];rfl
theorem RQ:dL.RS:=rE [.d eU,.d eU] dL
def al0:=dL.fh alZ 2 ⟨.fD ZA,⟨.fD ZB,trivial⟩⟩
abbrev pv:=(List tj)×(List tj)×Int
def jy:pv->AS:=λ(oY,fI,i)=>⟨([.d (.slice oS) oY,.d (.slice oS) fI,bK,bK,bK,.d ti i]++a9 20 []),[],(ag 26 [])⟩
def kg:Unit->Exit×AS:=λx=>(.ret,⟨(a9 4 ([.d .bool aQ]++a9 21 [])),[],(ag 26 [])⟩)
def qg:Unit->Exit×AS:=λx=>(.exit 0,⟨(a9 26 []),[],(ag 26 [])⟩)
abbrev zo:=(Unit)⊕(Unit)
abbrev GL:=(Unit)⊕(Unit)
def vp:zo->Out (Exit×AS):=λx=> .br x.isLeft (.get x.getLeft? λa=> .ok (kg a)) (.get x.getRight? λb=> .ok (qg b))
def gQ:pv->GL->zo:=λ(oY,fI,i) y=>match y with | .inl y=> .inl y | .inr z=> .inr (z)
abbrev RP:=(List tj)×(List tj)
def qf:pv->Prop:=λ(a,b,i)=>a.length<=1000000000/\a.length=b.length/\∃k:Nat,k<=a.length/\i=k
def je:pv->GL:=λ(a,b,i)=>if aX (ab i) a=aX (ab i) b then .inr () else .inl ()
def Zw:RP->Prop:=λ(a,b)=>a.length<=1000000000
def AD:RP->Bool:=λ(a,b)=>decide (a=b)
def GK:=eu.fD jy qf gQ je vp
def AE:pv->Option zo:=jq GK jy
def dR:Fs Tryz.prog Zw bm AD:=fg 20 Tryz.f20 (λ(a,b)=>([.d (.slice oS) a,.d (.slice oS) b],[])) (λx=>⟨.d .bool x,[],[]⟩) [aw (.slice oS),aw (.slice oS)] [] {loops:=oN [(4,{aY:=[0,1,5]})],outs:=oM [(4,{},{aY:=[4]})],fE:=pX [(4,GK)]}
def zm:= @fO Tryz.prog (oc dR.G) dR.an 0 Tryz.f20 0 _ jy
abbrev E2:=oT Tryz.prog (oc dR.G) dR.an 0 Tryz.f20 0 jy qf gQ je vp
theorem PY:nw AE qf gQ je:=qL (qF [.d (.slice oS),.d (.slice oS),.d ti] λ_=>cK)
theorem FH:qN @zm jy qf gQ je vp E2:=sk
theorem AF(oY fI i)(kn:K2 R)(kx:K3 R):zm (oY,fI,i) kn kx=aG (fV i (((ae oY):Nat):Int)) (aG (ei i (((ae oY):Nat):Int)) (aG (ei i (((ae fI):Nat):Int)) (aG (!(Ty.beq oS (nth oS oY (ab i)) (nth oS fI (ab i)))) (kx (kg ()).1 (kg ()).2) (kn (jy (oY,fI,(bB .i64 i (1:Int)))))) aF) aF) (kx (qg ()).1 (qg ()).2):=cK
theorem aek(a b)(k:K1 R):dR.A (a,b) k=aG (Ak (a.length:Int) (b.length:Int)) (k (dR.out aQ)) (aj (AE (a,b,0)) λx1=>aG x1.isLeft (aj x1.getLeft? λa2=>k (dR.out aQ)) (aj x1.getRight? λb3=>k (dR.out aW))):=cK
theorem S5:E2:=by
 refine FH (λ(a,b,i)=>a.length - ab i) ?_
 rintro⟨a,b,i⟩ ⟨hlen,qz,k,hk,rfl⟩;have hlen:a.length<=1000000000:=hlen;have qz:a.length=b.length:=qz;have hk:k<=a.length:=hk;by_cases h:k < a.length
 ·have h2:k < b.length:=ak;have n1:nth oS a k=a[k]:=cC (t:=oS) h;have n2:nth oS b k=b[k]:=cC (t:=oS) h2;have hd:(aX k a=aX k b)=(a[k]=b[k]/\aX (k+1) a=aX (k+1) b):=by rw[aq h,aq h2,bF]
  have step:∀ {R:Type} (kn:AS->Option R) (kx:Exit->AS->Option R),zm (a,b,(k:Int)) kn kx=if a[k]=b[k] then kn (jy (a,b,((k+1:Nat):Int))) else kx (kg ()).1 (kg ()).2:=by
   intro R kn kx;rw[AF,aU ak,bo ak ak,bo ak ak,aa,n1,n2];simp only[ao];rw[T8,N.ot ak];by_cases hx:a[k]=b[k]
   ·rw[aI hx,if_pos hx];rfl
   ·rw[aJ hx,if_neg hx];rfl
  by_cases hx:a[k]=b[k]
  ·left;refine⟨(a,b,((k+1:Nat):Int)),⟨hlen,qz,k+1,ak,rfl⟩,by simp only[aa];omega,?_,λkn kx=> ?_⟩
   ·simp only[gQ,je,aa,hd,hx,hJ]
   ·rw[step,if_pos hx]
  ·right;refine⟨kg (),?_,λkn kx=> ?_⟩
   ·simp only[gQ,je,aa,hd,hx,mG,bz];rfl
   ·rw[step,if_neg hx]
 ·right;obtain rfl:k=a.length:=ak;refine⟨qg (),?_,λkn kx=> ?_⟩
  ·simp only[gQ,je,aa,aN];rw[qz,aN,if_pos rfl];rfl
  ·rw[AF,aT ak,au]
theorem ael:dR.Ok:=by
 rintro⟨a,b⟩ h;have h:a.length<=1000000000:=h;rw[aek];simp only[bm,AD];by_cases e3:a.length=b.length
 ·rw[cZ ak,PY (d:=(a,b,0)) ⟨h,e3,0,aL _,rfl⟩];simp only[ah,gQ,je,aS,aM,au];by_cases e4:a=b
  ·rw[if_pos e4,aI e4];rfl
  ·rw[if_neg e4,aJ e4];rfl
 ·rw[eR ak,aJ (λx=>e3 (by rw[x]))];rfl
theorem Jv:dR.RS:=rE [.d (.slice oS),.d (.slice oS)] dR
def aem:=dR.fh ael 1 ⟨.fD S5,trivial⟩
def at5(t:eT):Prop:=(t.1.length<=1000/\∀x∈t.1,x.2.1.2.1.length<=1000000)/\t.2.1.length<=1000/\∀x∈t.2.1,x.2.1.1.length<=1000/\∀b∈x.2.1.1,b.1.length<=1000000
abbrev DQ:=eT×Int×(Int×Unit)×Nat×(Int×Unit)×(List fB)
abbrev Nb:=Nat×(List fB)
def tN:DQ->Nb->((eT×(Int×Unit)×(Int×Unit))×(Nat×(List fB))):=λ(gR,i,n2,OP,n3,ajX) y=>((gR,n2,n3),y)
abbrev Nc:=eT×Int×(Int×Unit)×Nat×Nat×(Int×Unit)×(List fB)×(List gb)
abbrev DR:=eT×Int×Int×(Int×Unit)×Nat×Nat×(Int×Unit)×Int×Nat×(List fB)×(List mr)×(List gb)
abbrev Nd:=Nat×(List mr)
def tO:DR->Nd->((eT×Int×(Int×Unit)×Nat×Nat×(Int×Unit)×Int×(List fB)×(List gb))×(Nat×(List mr))):=λ(xt,oV,kv,kc,Vn,Vo,alm,n7,aAe,Vm,aC1,Vu) y=>((xt,oV,kc,Vn,Vo,alm,n7,Vm,Vu),y)
def V1:DQ->Prop:=λ(t,i,u,L,v,r)=>(t.1).length<=1000000/\∃k:Nat,k<=(t.1).length/\i=k/\L=(r).length/\(r).length<=1000000+k/\(∀x∈t.1,x.2.1.2.1.length<=1000000)
def yg:DQ->Nb:=λ(t,i,u,L,v,r)=>(L+(aX (ab i) t.1).length,r++(aX (ab i) t.1).map (λx:fB=>x))
def V5:DR->Prop:=λ(t,j,i,u,L4,L5,v,am,L,is,r,os)=>((nth dO t.2.1 (ab j)).2.1.1).length<=1000000/\∃k:Nat,k<=((nth dO t.2.1 (ab j)).2.1.1).length/\i=k/\L=(r).length/\(r).length<=1000000+k/\(0<=j/\j < (t.2.1.length:Int))/\(∀x∈(nth dO t.2.1 (ab j)).2.1.1,x.1.length<=1000000)
def yi:DR->Nd:=λ(t,j,i,u,L4,L5,v,am,L,is,r,os)=>(L+(aX (ab i) (nth dO t.2.1 (ab j)).2.1.1).length,r++(aX (ab i) (nth dO t.2.1 (ab j)).2.1.1).map (λx:mr=>x))
def V3:Nc->Prop:=λ(t,i,u,L3,L,v,is,r)=>(t.2.1.length<=1000/\∀x∈t.2.1,x.2.1.1.length<=1000/\∀b∈x.2.1.1,b.1.length<=1000000)/\∃k:Nat,k<=t.2.1.length/\i=k/\L=r.length/\r.length=k
def yh:Nc->((Int×Unit)×Nat×Nat×(Int×Unit)×(List fB)×(List gb)):=λ(t,i,u,L3,L,v,is,r)=>(u,L3,L+(t.2.1.drop i.toNat).length,v,is,r++t.2.1.drop i.toNat)
def ahS:eT->Prop:=λt=>at5 t
def abz:eT->(Nat×Nat×(Int×Unit)×(List fB)×(List gb)):=λt=>(t.1.length,t.2.1.length,(t.2.2.1,()),t.1,t.2.1)
def nG:Ls V1 tN yg:=oP (λ(gR,i,n2,OP,n3,ajX)=>⟨([bK,.dB eU gR,dX 2,dX 3,.d ti i]++a9 89 []),[],([[],[],cH (.pr (.cw) (.pr (.cw) (.d (.pair ti .unit) n2))),cH (.pr (iw 36 OP) (.pr (.cw) (.d (.pair ti .unit) n3)))]++bC 32 ([cH (.vec 47 dM ajX)]++bC 57 []))⟩) (λx=>(.exit 0,⟨([bK,.dB eU x.1.1,dX 2,dX 3]++a9 90 []),[],([[],[],cH (.pr (.cw) (.pr (.cw) (.d (.pair ti .unit) x.1.2.1))),cH (.pr (iw 36 x.2.1) (.pr (.cw) (.d (.pair ti .unit) x.1.2.2)))]++bC 32 ([cH (.vec 47 dM x.2.2)]++bC 57 []))⟩))
def nH:Ls V3 bm yh:=oP (λ(sh,eI,gD,As,ahf,KR,ahe,aFt)=>⟨([bK,.dB eU sh,dX 2,dX 3,bK,bK,.d ti eI]++a9 87 []),[],([[],[],cH (.pr (.cw) (.pr (.cw) (.d (.pair ti .unit) gD))),cH (.pr (iw 36 As) (.pr (iw 91 ahf) (.d (.pair ti .unit) KR)))]++bC 32 ([cH (.vec 47 dM ahe)]++bC 54 [cH (.vec 55 dO aFt),[],[]]))⟩) (λx=>(.exit 2,⟨([bK,bK,dX 2,dX 3]++a9 90 []),[],([[],[],cH (.pr (.cw) (.pr (.cw) (.d (.pair ti .unit) x.1))),cH (.pr (iw 36 x.2.1) (.pr (iw 91 x.2.2.1) (.d (.pair ti .unit) x.2.2.2.1)))]++bC 32 ([cH (.vec 47 dM x.2.2.2.2.1)]++bC 54 [cH (.vec 55 dO x.2.2.2.2.2),[],[]]))⟩))
def nI:Ls V5 tO yi:=oP (λ(xt,oV,kv,kc,Vn,Vo,alm,n7,aAe,Vm,aC1,Vu)=>⟨([bK,.dB eU xt,dX 2,dX 3,bK,bK,.d ti oV,dX 7,.d ti kv]++a9 85 []),[],([[],[],cH (.pr (.cw) (.pr (.cw) (.d (.pair ti .unit) kc))),cH (.pr (iw 36 Vn) (.pr (iw 91 Vo) (.d (.pair ti .unit) alm))),[],[],[],cH (.pr (.d ti n7) (.pr (.pr (iw 84 aAe) YQ) YQ))]++bC 28 ([cH (.vec 47 dM Vm)]++bC 47 ([cH (.vec 69 gW aC1)]++bC 6 [cH (.vec 55 dO Vu),[],[]])))⟩) (λx=>(.exit 4,⟨([bK,.dB eU x.1.1,dX 2,dX 3,bK,bK,.d ti x.1.2.1,dX 7]++a9 86 []),[],([[],[],cH (.pr (.cw) (.pr (.cw) (.d (.pair ti .unit) x.1.2.2.1))),cH (.pr (iw 36 x.1.2.2.2.1) (.pr (iw 91 x.1.2.2.2.2.1) (.d (.pair ti .unit) x.1.2.2.2.2.2.1))),[],[],[],cH (.pr (.d ti x.1.2.2.2.2.2.2.1) (.pr (.pr (iw 84 x.2.1) YQ) YQ))]++bC 28 ([cH (.vec 47 dM x.1.2.2.2.2.2.2.2.1)]++bC 47 ([cH (.vec 69 gW x.2.2)]++bC 6 [cH (.vec 55 dO x.1.2.2.2.2.2.2.2.2),[],[]])))⟩))
def kR:Fs Tryz.prog ahS bm abz:=fg 6 Tryz.f6 (λt=>([.d eU t],[])) (λx=>⟨.pr (.dx (.new 0 0) 0 [] 0 0 x.1) (.pr (.dx (.new 0 1) 0 [] 0 0 x.2.1) (.d (.pair ti .unit) x.2.2.1)),[],[.obj 0 aQ (.vec 47 dM x.2.2.2.1),.obj 0 aQ (.vec 55 dO x.2.2.2.2)]⟩) [aw eU] [] {bD:=[25,74],loops:=oN [(3,{aY:=[1,2,3,4],sites:=[2,3,36],owns:=[⟨3,[.fst],36,22⟩]}),(9,{aY:=[1,2,3,6],sites:=[2,3,36,91],owns:=[⟨3,[.snd,.fst],91,23⟩]}),(13,{aY:=[1,2,3,6,7,8],sites:=[2,3,7,36,84,91],owns:=[⟨7,[.snd,.fst,.fst],84,51⟩]})],outs:=oM [(3,{aY:=[1,2,3],sites:=[2,3,36]},{aY:=[2]}),(9,{aY:=[2,3],sites:=[2,3,36,91]},{aY:=[2]}),(13,{aY:=[1,2,3,6,7],sites:=[2,3,7,36,84,91]},{aY:=[2]})],fE:=pX [(3,nG.E),(9,nH.E),(13,nI.E)]}
theorem V2:nG.RS:=rL [.d eU,.d ti,.d (.pair ti .unit),.n,.d (.pair ti .unit),.d (.slice dM)] nG
theorem ET(gR i n2 OP n3 ajX)(kn:K2 R)(kx:K3 R):kR.R 0 nG (gR,i,n2,OP,n3,ajX) kn kx=aG (fV i (gR.1.length:Int)) (aG (ei i (gR.1.length:Int)) (aG (db (0+(ae (nth dM gR.1 (ab i)).2.1.2.1)) 16) (aG (decide (0=0/\(0+(0+(ae (nth dM gR.1 (ab i)).2.1.2.1)))<=(ae ((aP 0 (ag 0 (0,(0,()))))++(nth dM gR.1 (ab i)).2.1.2.1)))) (aG (decide (OP<=(ae ajX))) (aG (db (OP+1) 80) (kn (nG.st (gR,(bB .i64 i 1),n2,(OP+1),n3,((aP OP ajX)++ [((nth dM gR.1 (ab i)).1,(((nth dM gR.1 (ab i)).2.1.1,((cut ((aP 0 (ag 0 (0,(0,()))))++(nth dM gR.1 (ab i)).2.1.2.1) 0 (0+(ae (nth dM gR.1 (ab i)).2.1.2.1))),(nth dM gR.1 (ab i)).2.1.2.2)),(nth dM gR.1 (ab i)).2.2))])))) aF) aF) aF) aF) aF) (nG.go kx ((gR,n2,n3),(OP,ajX))):=cK
theorem V4:nH.RS:=rL [.d eU,.d ti,.d (.pair ti .unit),.n,.n,.d (.pair ti .unit),.d (.slice dM),.d (.slice dO)] nH
theorem EU(sh eI gD As ahf KR ahe aFt)(kn:K2 R)(kx:K3 R):kR.R 1 nH (sh,eI,gD,As,ahf,KR,ahe,aFt) kn kx=aG (fV eI (sh.2.1.length:Int)) (aG (ei eI (sh.2.1.length:Int)) (aj (nI.call (sh,eI,0,gD,As,ahf,KR,(nth dO sh.2.1 (ab eI)).1,0,ahe,([]:List mr),aFt)) λx1=>aG (decide (0=0/\(0+x1.2.1)<=(ae x1.2.2))) (aG (decide (x1.1.2.2.2.2.1<=(ae x1.1.2.2.2.2.2.2.2.2))) (aG (db (x1.1.2.2.2.2.1+1) 32) (kn (nH.st (x1.1.1,(bB .i64 x1.1.2.1 1),x1.1.2.2.1,x1.1.2.2.2.1,(x1.1.2.2.2.2.1+1),x1.1.2.2.2.2.2.1,x1.1.2.2.2.2.2.2.2.1,((aP x1.1.2.2.2.2.1 x1.1.2.2.2.2.2.2.2.2)++ [(x1.1.2.2.2.2.2.2.1,(((cut x1.2.2 0 x1.2.1),()),()))])))) aF) aF) aF) aF) (nH.go kx (gD,As,ahf,KR,ahe,aFt)):=cK
theorem V6:nI.RS:=rL [.d eU,.d ti,.d ti,.d (.pair ti .unit),.n,.n,.d (.pair ti .unit),.d ti,.n,.d (.slice dM),.d (.slice gW),.d (.slice dO)] nI
theorem EV(xt oV kv kc Vn Vo alm n7 aAe Vm aC1 Vu)(kn:K2 R)(kx:K3 R):kR.R 2 nI (xt,oV,kv,kc,Vn,Vo,alm,n7,aAe,Vm,aC1,Vu) kn kx=aG (ei oV (xt.2.1.length:Int)) (aG (fV kv (((ae (nth dO xt.2.1 (ab oV)).2.1.1):Nat):Int)) (aG (ei oV (xt.2.1.length:Int)) (aG (ei kv (((ae (nth dO xt.2.1 (ab oV)).2.1.1):Nat):Int)) (aG (db (0+(ae (nth gW (nth dO xt.2.1 (ab oV)).2.1.1 (ab kv)).1)) 8) (aG (decide (0=0/\(0+(0+(ae (nth gW (nth dO xt.2.1 (ab oV)).2.1.1 (ab kv)).1)))<=(ae ((aP 0 (ag 0 0))++(nth gW (nth dO xt.2.1 (ab oV)).2.1.1 (ab kv)).1)))) (aG (decide (aAe<=(ae aC1))) (aG (db (aAe+1) 48) (kn (nI.st (xt,oV,(bB .i64 kv 1),kc,Vn,Vo,alm,n7,(aAe+1),Vm,((aP aAe aC1)++ [((cut ((aP 0 (ag 0 0))++(nth gW (nth dO xt.2.1 (ab oV)).2.1.1 (ab kv)).1) 0 (0+(ae (nth gW (nth dO xt.2.1 (ab oV)).2.1.1 (ab kv)).1))),(nth gW (nth dO xt.2.1 (ab oV)).2.1.1 (ab kv)).2)]),Vu))) aF) aF) aF) aF) aF) aF) (nI.go kx ((xt,oV,kc,Vn,Vo,alm,n7,Vm,Vu),(aAe,aC1)))) aF:=cK
theorem alN(t)(k:K1 R):kR.A t k=aj (nG.call (t,0,(0,()),0,(t.2.2.1,()),([]:List fB))) λx1=>aj (nH.call (x1.1.1,0,x1.1.2.1,x1.2.1,0,x1.1.2.2,x1.2.2,([]:List gb))) λx4=>k (kR.out (x4.2.1,x4.2.2.1,x4.2.2.2.1,x4.2.2.2.2.1,x4.2.2.2.2.2)):=cK
theorem Zq:(kR.j8 0 nG):=by
 refine(kR.lX 0 nG) (λ(t,i,u,L,v,r)=>(t.1).length - ab i) ?_
 rintro⟨t,i,u,L,v,r⟩ ⟨hlen,k,hk,rfl,rfl,nD,hx⟩;have hlen:(t.1).length<=1000000:=hlen;have hk:k<=(t.1).length:=hk;have nD:(r).length<=1000000+k:=nD;have hx:∀x∈t.1,x.2.1.2.1.length<=1000000:=hx;by_cases h:k < (t.1).length
 ·left;have n1:nth dM t.1 k=t.1[k]:=cC (t:=dM) h;have hd:aX k t.1=t.1[k]::aX (k+1) t.1:=aq h;refine⟨(t,((k+1:Nat):Int),u,(r).length+1,v,r++ [(λx:fB=>x) t.1[k]]),⟨hlen,k+1,ak,rfl,by rw[ai];rfl,by rw[ai];show(r).length+1<=_;omega,hx⟩,by simp only[aa];omega,?_,λkn kx=> ?_⟩
  ·simp only[tN,yg,aa,hd,bS,aE,aC,bQ];rw[show ∀a c:Nat,a+1+c=a+(c+1) from λa c=>ak]
  ·rw[ET,aU ak,bo (show(0:Int)<=(k:Int) by omega) ak,aa,n1];simp only[ao];have e:=hx _ (ba h);have hr:db t.1[k].2.1.2.1.length 16=aW:=cV ak ak;simp only[aH,dI,aO,hr,ao,az,eW,bA,dw];rw[cV ak ak,N.ot ak,bt];rfl
 ·right;obtain rfl:k=(t.1).length:=ak;intro R kn kx;rw[ET,aT ak,au];simp only[tN,yg,aa,aN,eX,bn,bj,bM]
theorem Zs:(kR.j8 2 nI):=by
 refine(kR.lX 2 nI) (λ(t,j,i,u,L4,L5,v,am,L,is,r,os)=>((nth dO t.2.1 (ab j)).2.1.1).length - ab i) ?_
 rintro⟨t,j,i,u,L4,L5,v,am,L,is,r,os⟩ ⟨hlen,k,hk,rfl,rfl,nD,hj,hx⟩;have hlen:((nth dO t.2.1 (ab j)).2.1.1).length<=1000000:=hlen;have hk:k<=((nth dO t.2.1 (ab j)).2.1.1).length:=hk;have nD:(r).length<=1000000+k:=nD;have hj:0<=j/\j < (t.2.1.length:Int):=hj;have hx:∀x∈(nth dO t.2.1 (ab j)).2.1.1,x.1.length<=1000000:=hx;by_cases h:k < ((nth dO t.2.1 (ab j)).2.1.1).length
 ·left;have n1:nth gW (nth dO t.2.1 (ab j)).2.1.1 k=(nth dO t.2.1 (ab j)).2.1.1[k]:=cC (t:=gW) h;have hd:aX k (nth dO t.2.1 (ab j)).2.1.1=(nth dO t.2.1 (ab j)).2.1.1[k]::aX (k+1) (nth dO t.2.1 (ab j)).2.1.1:=aq h;refine⟨(t,j,((k+1:Nat):Int),u,L4,L5,v,am,(r).length+1,is,r++ [(λx:mr=>x) (nth dO t.2.1 (ab j)).2.1.1[k]],os),⟨hlen,k+1,ak,rfl,by rw[ai];rfl,by rw[ai];show(r).length+1<=_;omega,hj,hx⟩,by simp only[aa];omega,?_,λkn kx=> ?_⟩
  ·simp only[tO,yi,aa,hd,bS,aE,aC,bQ];rw[show ∀a c:Nat,a+1+c=a+(c+1) from λa c=>ak]
  ·rw[EV,bo hj.1 hj.2,ao,aU ak,bo (show(0:Int)<=(k:Int) by omega) ak,aa,n1];simp only[ao];have e:=hx _ (ba h);have hr:db (nth dO t.2.1 (ab j)).2.1.1[k].1.length 8=aW:=cV ak ak;simp only[aH,dI,aO,hr,ao,az,eW,bA,dw];rw[cV ak ak,N.ot ak,bt];rfl
 ·right;obtain rfl:k=((nth dO t.2.1 (ab j)).2.1.1).length:=ak;intro R kn kx;rw[EV,bo hj.1 hj.2,ao,aT ak,au];simp only[tO,yi,aa,aN,eX,bn,bj,bM]
theorem Zr:(kR.j8 1 nH):=by
 refine(kR.lX 1 nH) (λ(t,i,u,L3,L,v,is,r)=>t.2.1.length - i.toNat) ?_
 rintro⟨t,i,u,L3,L,v,is,r⟩ ⟨⟨hl,hx⟩,k,hk,rfl,rfl,aBI⟩;have hl:t.2.1.length<=1000:=hl;have hk:k<=t.2.1.length:=hk;have aBI:r.length=k:=aBI;by_cases h:k < t.2.1.length
 ·left;have e:=hx _ (ba h);have n1:nth dO t.2.1 k=t.2.1[k]:=cC (t:=dO) h;have hd:t.2.1.drop k=t.2.1[k]::t.2.1.drop (k+1):=aq h;have e1:(nth dO t.2.1 (ab (k:Int))).2.1.1=t.2.1[k].2.1.1:=by rw[aa,n1]
  refine⟨(t,((k+1:Nat):Int),u,L3,r.length+1,v,is,r++ [t.2.1[k]]),⟨⟨hl,hx⟩,k+1,ak,rfl,by rw[ai];rfl,by rw[ai];show r.length+1=_;omega⟩,by simp only[aa];omega,?_,λkn kx=> ?_⟩
  ·simp only[bm,yh,aa,hd,aE,aC,bQ];rw[show ∀a c:Nat,a+1+c=a+(c+1) from λa c=>ak]
  ·rw[EU,aU ak,bo ak ak,aa,n1];simp only[ao];rw[V6 (d:=(t,(k:Int),0,u,L3,r.length,v,t.2.1[k].1,0,is,[],r)) ⟨by rw[e1];omega,0,aL _,rfl,rfl,aL _,⟨by show(0:Int)<=(k:Int);omega,by show(k:Int) < (t.2.1.length:Int);omega⟩,by rw[e1];exact e.2⟩];simp only[ah,tO,yi,e1,aS,aM,aO,aH,List.map_id',az,eW,bA,ao,dw];rw[cV ak ak,N.ot ak,bt];rfl
 ·right;obtain rfl:k=t.2.1.length:=ak;intro R kn kx;rw[EU,aT ak,au];simp only[bm,yh,aa,aN,bn,bj,bM]
theorem alO:kR.Ok:=by rintro⟨is,os,nt,u⟩ ⟨⟨h1,h2⟩,h3,h4⟩;have h1:is.length<=1000:=h1;have h3:os.length<=1000:=h3;rw[alN,V2 (d:=((is,os,nt,u),0,(0,()),0,(nt,()),[])) ⟨by show is.length<=_;omega,0,aL _,rfl,rfl,aL _,h2⟩];simp only[ah,tN,yg,aS,aM,aO,aH,List.map_id'];rw[V4 (d:=((is,os,nt,u),0,(0,()),is.length,0,(nt,()),is,[])) ⟨⟨h3,h4⟩,0,aL _,rfl,rfl,rfl⟩];simp only[ah,bm,yh,aS,aM,aO,aH];rfl
theorem RN:kR.RS:=rE [.d eU] kR
def V7:=kR.fh alO 3 ⟨.fD Zq,⟨.fD Zr,⟨.fD Zs,trivial⟩⟩⟩
def EK:dQ:=([],aW,())
def jo(r:dQ):Prop:=r.1.length<=1000000000/\Bytes r.1
def jE(n:Nat)(r:dQ):List Int×dQ:=if r.2.1=aW\/r.1.length < n then([],EK) else(r.1.take n,(r.1.drop n,r.2))
def FF(l:List Int):Int:=l.foldl (λn b=>n*256+b) 0
def oo(r:dQ):Int×dQ:=(FF (jE 8 r).1,(jE 8 r).2)
theorem ac2:jo EK:=⟨aL _,λx hx=>by cases hx⟩
theorem uE{n:Nat}{r:dQ}(h:jo r):(jE n r).1.length<=n/\Bytes (jE n r).1/\jo (jE n r).2:=by
 unfold jE;split
 ·exact⟨aL _,λx hx=>(by cases hx),ac2⟩
 ·refine⟨by rw[ct];omega,λx hx=>h.2 x (List.mem_of_mem_take hx),?_,λx hx=>h.2 x (List.mem_of_mem_drop hx)⟩;show(r.1.drop n).length<=_;rw[da];have:=h.1;omega
theorem abq(l:List Int)(b:Int):FF (l++ [b])=FF l*256+b:=by unfold FF;rw[List.foldl_append];rfl
theorem ahn:∀(l:List Int) (n:Int) (k:Nat),Bytes l->0<=n->n < 256^k->0<=l.foldl (λn b=>n*256+b) n/\l.foldl (λn b=>n*256+b) n < 256^(k+l.length)
 |[],n,k,_,h0,h1=>⟨h0,h1⟩
 |b::l,n,k,hb,h0,h1=>by obtain⟨aGf,aGg⟩:=hb b bf;have e:(256:Int)^(k+1)=256^k*256:=fA 256 k;have:=ahn l (n*256+b) (k+1) (λx hx=>hb x (aV _ hx)) ak (by rw[e];omega);rw[show k+(b::l).length=k+1+l.length by rw[aE];omega];exact this
theorem adN{l:List Int}(h:Bytes l):0<=FF l/\FF l < 256^l.length:=by have:=ahn l 0 0 h (wx 0) gw;rw[aH]at this;exact this
theorem PL{a b:Nat}(h:a<=b):(256:Int)^a<=256^b:=by have:((256^a:Nat):Int)<=((256^b:Nat):Int):=Int.ofNat_le.2 (lu gw h);rw[kW,kW]at this;exact this
theorem aC7{l:List Int}(h:Bytes l)(h8:l.length<=8):iN (FF l):=by have e:=adN h;have e2:=PL h8;have e3:(256:Int)^8=18446744073709551616:=rfl;exact⟨e.1,ak⟩
theorem B5{r:dQ}(h:jo r):iN (oo r).1/\jo (oo r).2:=⟨aC7 (uE h).2.1 (uE h).1,(uE h).2.2⟩
theorem aFJ{n b:Int}(h0:0<=n)(h1:n < 72057594037927936)(hb:SB b):cF .or .u64 (mH .u64 n 8) (dC .u64 b)=n*256+b:=by have e:=(Q1 (n:=n) (b:=b) ⟨h0,ak⟩ hb).1;rw[uB 56 (by rfl) ak]at e;have p:(2:Int)^56=72057594037927936:=rfl;rw[p]at e;omega
def asH:dQ->Prop:=λ_=>True
def aAI:dQ->dQ:=λ_=>EK
def NO:Fs Tryz.prog asH bm aAI:=fg 81 Tryz.f81 (λo0=>([.ptr (.eC 0) 0 [] 0],[.obj 0 aQ (.d gK o0)])) (λx=>⟨.nil,[.obj 0 aQ (.d gK x)],[]⟩) [aF] [] {Ch:=[⟨0,[.arr],gK⟩]}
theorem axB(o0)(k:K1 R):NO.A o0 k=k (NO.out (([]:List Int),(aW,o0.2.2))):=cK
theorem axC:NO.Ok:=by intro o _;rw[axB];rfl
theorem Qc:NO.RS:=rE [.d gK] NO
def aiy:=NO.fh axC
def abS:dQ->Int->((dQ)×(Int)):=λo0 y=>(o0,y)
def asK:dQ->Prop:=λ_=>True
def ao7:dQ->Int:=λo=>(o.1.length:Int)
def Xe:Fs Tryz.prog asK abS ao7:=fg 38 Tryz.f38 (λo0=>([.ptr (.eC 0) 0 [] 0],[.obj 0 aQ (.d gK o0)])) (λx=>⟨.d ti x.2,[.obj 0 aQ (.d gK x.1)],[]⟩) [aF]
theorem axG(o0)(k:K1 R):Xe.A o0 k=k (Xe.out (o0,(o0.1.length:Int))):=cK
theorem axH:Xe.Ok:=by intro o _;rw[axG];rfl
theorem asL:Xe.RS:=rE [.d gK] Xe
def axI:=Xe.fh axH
def aiD:dQ->Bool->((dQ)×(Bool)):=λo0 y=>(o0,y)
def axN:dQ->Prop:=λ_=>True
def axM:dQ->Bool:=λo=> !o.2.1
def am0:Fs Tryz.prog axN aiD axM:=fg 37 Tryz.f37 (λo0=>([.ptr (.eC 0) 0 [] 0],[.obj 0 aQ (.d gK o0)])) (λx=>⟨.d .bool x.2,[.obj 0 aQ (.d gK x.1)],[]⟩) [aF]
theorem aAL(o0)(k:K1 R):am0.A o0 k=k (am0.out (o0,(!o0.2.1))):=cK
theorem aAM:am0.Ok:=by intro o _;rw[aAL];rfl
theorem axO:am0.RS:=rE [.d gK] am0
def aAN:=am0.fh aAM
def asR:(Int×dQ)->Prop:=λ(n,o)=>0<=n/\o.1.length<=1000000000
def TQ:(Int×dQ)->(Bs×dQ):=λ(n,o)=>jE n.toNat o
def Ht:Fs Tryz.prog asR bm TQ:=fg 82 Tryz.f82 (λ(n,o0)=>([.ptr (.eC 0) 0 [] 0,.d ti n],[.obj 0 aQ (.d gK o0)])) (λx=>⟨.d tB x.1,[.obj 0 aQ (.d gK x.2)],[]⟩) [aF,aw ti] [aiy,O4] {res:=[aw tB],Ch:=[⟨0,[.arr],gK⟩]}
theorem axU(n o0)(k:K1 R):Ht.A (n,o0) k=aG (o0.2.1) (aj (NO.call o0) λx1=>k (Ht.out (([]:List Int),x1))) (aG (xS n (o0.1.length:Int)) (aj (NO.call o0) λx2=>k (Ht.out (([]:List Int),x2))) (aG (inc n (o0.1.length:Int)) (aj (yR.call (cut o0.1 0 ((ab n) - 0))) λx3=>aG (inc n (o0.1.length:Int)) (aG (decide (0=0/\(0+x3.1)<=(ae x3.2))) (k (Ht.out ((cut x3.2 0 x3.1),((cut o0.1 (ab n) ((ae o0.1) - (ab n))),o0.2)))) aF) aF) aF)):=cK
theorem axV:Ht.Ok:=by
 rintro⟨n,o⟩ ⟨h0,hl⟩;have h0:0<=n:=h0;have hl:o.1.length<=1000000000:=hl;obtain⟨k,rfl⟩:∃k:Nat,n=k:=⟨n.toNat,ak⟩;rw[axU];simp only[bm,TQ,jE,aa,nu];cases h2:o.2.1
 ·by_cases hn:o.1.length < k
  ·rw[dk ak,if_pos (ez hn),Qc (d:=o) trivial];rfl
  ·have e1:cut o.1 0 k=o.1.take k:=rfl;have e2:cut o.1 k (o.1.length - k)=o.1.drop k:=by unfold cut;rw[bg];rw[da];omega
   rw[cJ ak,if_neg (by intro x;rcases x with x | x;exact absurd x gw;exact hn x),tz ak ak,e1,e2,Kl (d:=o.1.take k) (by show(o.1.take k).length<=_;rw[ct];omega)];simp only[au,ao,ah,bm,F0,aH,az,eW,bA,dw]
 ·rw[ao,if_pos (jH rfl),Qc (d:=o) trivial];rfl
theorem Qp:Ht.RS:=rE [.d ti,.d gK] Ht
def Xp:=Ht.fh axV
abbrev Qr:=Int×Bs×Int×Int×dQ
def aiM:Qr->Int->((dQ)×(Int)):=λ(n,t7,t8,t9,fc) y=>(fc,y)
def aiL:Qr->Prop:=λ(n,l,m,i,o)=>Bytes l/\l.length<=8/\m=l.length/\∃k:Nat,k<=l.length/\i=k/\n=FF (l.take k)
def asT:Qr->Int:=λ(n,l,m,i,o)=>FF l
def axY:dQ->Prop:=λo=>jo o
def Qq:dQ->(Int×dQ):=λo=>oo o
def yw:Ls aiL aiM asT:=oP (λ(n,t7,t8,t9,fc)=>⟨([bK,bK,bK,.d tu n,bK,bK,bK,.d tB t7,.d ti t8,.d ti t9]++a9 10 []),cH (.d gK fc),(ag 20 [])⟩) (λx=>(.exit 0,⟨([bK,bK,bK,.d tu x.2]++a9 16 []),cH (.d gK x.1),(ag 20 [])⟩))
def NX:Fs Tryz.prog axY bm Qq:=fg 36 Tryz.f36 (λo0=>([.ptr (.eC 0) 0 [] 0],[.obj 0 aQ (.d gK o0)])) (λx=>⟨.d tu x.1,[.obj 0 aQ (.d gK x.2)],[]⟩) [aF] [Xp] {loops:=oN [(3,{aY:=[3,7,8,9]})],outs:=oM [(3,{aY:=[3]},{aY:=[2]})],fE:=pX [(3,yw.E)]}
theorem aiN:yw.RS:=rL [.d tu,.d tB,.d ti,.d ti,.d gK] yw
theorem NY(n t7 t8 t9 fc)(kn:K2 R)(kx:K3 R):NX.R 0 yw (n,t7,t8,t9,fc) kn kx=aG (fV t9 t8) (aG (ei t9 (t7.length:Int)) (kn (yw.st ((cF .or .u64 (mH .u64 n 8) (dC .u64 (nth tb t7 (ab t9)))),t7,t8,(bB .i64 t9 1),fc))) aF) (yw.go kx (fc,n)):=cK
theorem aAU(o0)(k:K1 R):NX.A o0 k=aj (Ht.call (8,o0)) λx1=>aj (yw.call (0,x1.1,(x1.1.length:Int),0,x1.2)) λx2=>k (NX.out (x2.2,x2.1)):=cK
theorem anb:(NX.j8 0 yw):=by
 refine(NX.lX 0 yw) (λ(n,l,m,i,o)=>l.length - i.toNat) ?_
 rintro⟨n,l,m,i,o⟩ ⟨hb,h8,rfl,k,hk,rfl,rfl⟩;have h8:l.length<=8:=h8;have hk:k<=l.length:=hk;by_cases h:k < l.length
 ·left;have hx:=hb _ (ba h);have n1:nth (.int .u8) l k=l[k]:=cC (t:= .int .u8) h;have ht:(l.take k).length=k:=by rw[ct];omega
  have b0:=adN (l:=l.take k) λx hx=>hb x (List.mem_of_mem_take hx)
  rw[ht]at b0;have b1:=PL (show k<=7 by omega);have b2:(256:Int)^7=72057594037927936:=rfl;refine⟨(FF (l.take (k+1)),l,l.length,((k+1:Nat):Int),o),⟨hb,h8,rfl,k+1,ak,rfl,rfl⟩,by simp only[aa];omega,rfl,λkn kx=> ?_⟩;rw[NY,aU ak,bo ak ak,aa,n1,N.ot ak,aFJ b0.1 ak hx,dV h,abq];rfl
 ·right;obtain rfl:k=l.length:=ak;intro R kn kx;rw[NY,aT ak,au,bt];rfl
theorem aAV:NX.Ok:=by intro o h;have h:jo o:=h;have t:=uE (n:=8) h;rw[aAU,Qp (d:=(8,o)) ⟨gw,h.1⟩];simp only[ah,bm,TQ];rw[show ab 8=8 from rfl,aiN (d:=(0,(jE 8 o).1,(jE 8 o).1.length,0,(jE 8 o).2)) ⟨t.2.1,t.1,rfl,0,aL _,rfl,rfl⟩];rfl
theorem Hu:NX.RS:=rE [.d gK] NX
def ao9:=NX.fh aAV 1 ⟨.fD anb,trivial⟩
def asN:Bs->Prop:=λb=>b.length<=1000000000
def aeN:Bs->dQ:=λb=>(b,aQ,())
def R8:Fs Tryz.prog asN bm aeN:=fg 30 Tryz.f30 (λb=>([.d tB b],[])) (λx=>⟨.ptr (.new 0 0) 0 [] 0,[],[.obj 0 aQ (.d gK x)]⟩) [aw tB] [O4] {bD:=[6],Ch:=[⟨2,[.arr],gK⟩]}
theorem axP(b)(k:K1 R):R8.A b k=aj (yR.call b) λx1=>aG (decide (0=0/\(0+x1.1)<=(ae x1.2))) (k (R8.out ((cut x1.2 0 x1.1),(aQ,())))) aF:=cK
theorem axQ:R8.Ok:=by intro b hb;have hb:b.length<=1000000000:=hb;rw[axP,Kl (d:=b) (by show b.length<=_;omega)];simp only[ah,bm,F0,aH,az,eW,bA,ao,dw];rfl
theorem abV:R8.RS:=rE [.d tB] R8
def aiE:=R8.fh axQ
abbrev Xt:=Int×dQ
def Ei:Xt->Bool->((Int×dQ)×(Bool)):=λ(o0,o2) y=>((o0,o2),y)
def anf:Xt->Prop:=λ(a,o)=>0<=a
def N0:Xt->Bool:=λ(a,o)=>decide (o.1.length<=a.toNat\/8 < a.toNat\/(0 < a.toNat/\nth (.int .u8) o.1 a.toNat=0))
def BV:Fs Tryz.prog anf Ei N0:=fg 80 Tryz.f80 (λ(o0,o2)=>([.ptr (.eC 0) 0 [] 0,.ptr (.eC 1) 0 [] 0],[.obj 0 aQ (.d ti o0),.obj 0 aQ (.ptr (.eC 2) 0 [] 0),.obj 0 aQ (.d gK o2)])) (λx=>⟨.d .bool x.2,[.obj 0 aQ (.d ti x.1.1),.obj 0 aQ (.ptr (.eC 2) 0 [] 0),.obj 0 aQ (.d gK x.1.2)],[]⟩) [aF,aF]
theorem asY(o0 o2)(k:K1 R):BV.A (o0,o2) k=aG (B8 o0 (o2.1.length:Int)) (k (BV.out ((o0,o2),aW))) (aG (xS o0 8) (k (BV.out ((o0,o2),aW))) (aG (xS o0 0) (aG (ei o0 (o2.1.length:Int)) (k (BV.out ((o0,o2),(wD (nth tb o2.1 (ab o0)) 0)))) aF) (k (BV.out ((o0,o2),aQ))))):=cK
theorem asZ:BV.Ok:=by
 rintro⟨a,o⟩ h0;obtain⟨k,rfl⟩:∃k:Nat,a=k:=⟨a.toNat,by have h0:0<=a:=h0;omega⟩;rw[asY];simp only[Ei,N0,aa];by_cases h1:o.1.length<=k
 ·rw[gf ak,aI (jH h1)];rfl
 by_cases h2:8 < k
 ·rw[eH ak,dk ak,aI (ez (jH h2))];rfl
 by_cases h3:0 < k
 ·rw[eH ak,cJ ak,dk ak,bo ak ak];simp only[au,ao];by_cases h4:nth (.int .u8) o.1 k=0
  ·rw[dJ h4,aI (ez (ez ⟨h3,h4⟩))]
  ·rw[fj h4,aJ (by rintro(x | x | x);exact h1 x;exact h2 x;exact h4 x.2)]
 ·rw[eH ak,cJ ak,cJ ak,aJ (by rintro(x | x | x);exact h1 x;exact h2 x;exact h3 x.1)];rfl
theorem Xu:BV.RS:=rE [.d ti,.d gK] BV
def as0:=BV.fh asZ
def xe:List Int->Nat->Int->(Int×Nat)⊕Unit
 |[],_,_=> .inr ()
 |d::l,a,n=>if 8 < a\/(0 < a/\d=0) then .inr () else if d < 128 then .inl (n+d%128*128^a,a+1) else xe l (a+1) (n+d%128*128^a)
def bX(r:dQ):Int×dQ:=match xe r.1 0 0 with | .inl v=>(v.1,(r.1.drop v.2,r.2)) | .inr _=>(0,EK)
theorem ad7(k:Nat):(128:Int)^k=((128^k:Nat):Int):=by rw[kW];rfl
theorem Uo{n d k:Nat}(hk:k<=8)(hn:n < 128^k)(hd:d < 128):cF .or .i64 (n:Int) (mH .i64 (d:Int) ((7*k:Nat):Int))=((n+d*128^k:Nat):Int)/\n+d*128^k < 128^(k+1)/\128^(k+1)<=9223372036854775808:=by
 have p:128^k<=128^8:=lu gw hk;have p8:128^8=72057594037927936:=rfl;have e1:128^(k+1)=128^k*128:=tn (n:=128) (m:=k);have e2:2^(7*k)=128^k:=by rw[Nat.pow_mul]
 have e3:d*128^k<=127*128^k:=cM _ ak;refine⟨?_,ak,ak⟩;have s:mH .i64 (d:Int) ((7*k:Nat):Int)=((d*128^k:Nat):Int):=by
  rw[mH];have e:min (ab ((7*k:Nat):Int)) IntKind.i64.bits=7*k:=by simp only[IntKind.bits,aa];omega
  rw[e,show(2:Int)^(7*k)=((2^(7*k):Nat):Int) by rw[kW];rfl,e2,<-jw];exact tx ak ak
 rw[s];have e:(bk 64 (n:Int) ||| bk 64 ((d*128^k:Nat):Int)).toNat=n+d*128^k:=by
  rw[BitVec.toNat_or];have a:(bk 64 ((d*128^k:Nat):Int)).toNat=2^(7*k)*d:=by rw[iU,ki,e2,nr];exact mD (by rw[nr];omega)
  have b:(bk 64 (n:Int)).toNat=n:=by rw[iU,ki];exact mD ak
  rw[a,b,Nat.or_comm,<-Nat.two_pow_add_eq_or_of_lt (by rw[e2];exact hn),e2,nr];omega
 show IntKind.i64.wrap ((bk 64 (n:Int) ||| bk 64 ((d*128^k:Nat):Int)).toNat:Int)=_;rw[e];exact tx ak ak
theorem adO:∀(l:List Int) (a:Nat) (n:Int) (v:Int×Nat),Bytes l->a<=9->0<=n->n < 128^a->xe l a n= .inl v->0<=v.1/\v.1 < 9223372036854775808/\a < v.2/\v.2<=a+l.length/\v.2<=9
 |[],a,n,v,_,_,_,_,h=>by cases h
 |d::l,a,n,v,hb,ha,h0,h1,h=>by
  have hx:=hb d bf;obtain⟨x1,x2⟩:=hx;rw[xe]at h;split at h
  ·cases h
  ·rename_i hc;have aI3:a<=8:=ak;rw[ad7]at h1 h;obtain⟨nn,rfl⟩:∃m:Nat,n=m:=⟨n.toNat,ak⟩;obtain⟨dn,aBy⟩:∃m:Nat,d%128=m:=⟨(d%128).toNat,ak⟩;have g:=(Uo (n:=nn) (d:=dn) aI3 ak ak).2;rw[aBy]at h;have ec:((nn:Int)+(dn:Int)*((128^a:Nat):Int))=((nn+dn*128^a:Nat):Int):=by rw[Int.natCast_add,jw]
   rw[ec]at h;split at h
   ·cases h;simp only[aE];exact⟨ak,ak,ak,ak,ak⟩
   ·have:=adO l (a+1) _ v (λx hx=>hb x (aV _ hx)) ak ak (by rw[ad7];omega) h;simp only[aE];exact⟨this.1,this.2.1,ak,ak,this.2.2.2.2⟩
theorem iA{r:dQ}(h:jo r):0<=(bX r).1/\(bX r).1<=9223372036854775807/\jo (bX r).2:=by
 unfold bX;cases hf:xe r.1 0 0 with
 |inl v=>
  have:=adO r.1 0 0 v h.2 gw gw gw hf;refine⟨this.1,by have:=this.2.1;show v.1<=_;omega,?_,λx hx=>h.2 x (List.mem_of_mem_drop hx)⟩;show(r.1.drop v.2).length<=_;rw[da];have:=h.1;omega
 |inr _=>exact⟨wx 0,(show(0:Int)<=9223372036854775807 by decide),ac2⟩
theorem ahp:∀(f:Nat) (n:Int) (a:Nat) (m:Int) (rest:List Int),0<=n->n < 128^(f+1)->a+f<=8->(a=0\/0 < n)->
  xe ((gF f n).1++(gF f n).2::rest) a m= .inl (m+n*128^a,a+(gF f n).1.length+1)
 | 0,n,a,m,rest,h0,h1,ha,hp=>by have h1:n < 128:=h1;show xe (n::rest) a m=_;rw[xe,if_neg ak,if_pos h1,dU h0 h1];rfl
 |f+1,n,a,m,rest,h0,h1,ha,hp=>by
  rw[gF];have e:(128:Int)^(f+1+1)=128^(f+1)*128:=fA 128 (f+1);split
  ·rename_i h;show xe ((n%128+128)::((gF f (n / 128)).1++(gF f (n / 128)).2::rest)) a m=_;rw[xe,if_neg ak,if_neg ak,ahp f (n / 128) (a+1) _ rest ak ak ak (ez ak)];have e2:(128:Int)^(a+1)=128^a*128:=fA 128 a;have e3:(n%128+128)%128=n%128:=ak;have e4:m+n%128*128^a+n / 128*(128^a*128)=m+n*128^a:=by
    have:n*128^a=(n%128+n / 128*128)*128^a:=by rw[show n%128+n / 128*128=n by omega]
    rw[this,Int.add_mul,lY (n / 128),jG 128 (128^a),Int.add_assoc]
   rw[e3,e2,e4];simp only[aE];rw[show a+1+(gF f (n / 128)).1.length+1=a+((gF f (n / 128)).1.length+1)+1 by omega]
  ·rename_i h;show xe (n::rest) a m=_;rw[xe,if_neg ak,if_pos ak,dU h0 ak];rfl
theorem y6(n:Int)(h:zX n)(rest:List Int)(u:Bool×Unit):bX (fe n++rest,u)=(n,(rest,u)):=by
 have h0:=h.1;have h1:=h.2;have e8:(128:Int)^(8+1)=9223372036854775808:=rfl;have e10:(128:Int)^(10+1)=151115727451828646838272:=rfl;have er:gF 10 n=gF 8 n:=II 10 8 n (by rw[e10];omega) (by rw[e8];omega);have el:fe n++rest=(gF 8 n).1++(gF 8 n).2::rest:=by unfold fe;rw[er,aC];rfl
 have e:=ahp 8 n 0 0 rest h0 (by rw[e8];omega) gw (jH rfl);unfold bX;show(match xe (fe n++rest) 0 0 with | .inl v=>(v.1,((fe n++rest).drop v.2,u)) | .inr _=>(0,EK))=_;rw[el,e];show(0+n*128^0,(((gF 8 n).1++(gF 8 n).2::rest).drop (0+(gF 8 n).1.length+1),u))=_;rw[ln,sL,Int.zero_add,aH,List.append_cons,kX (by rw[ai];rfl)]
theorem awv(n:Int)(h:iN n):FF (gV n)=n:=by obtain⟨h0,h1⟩:=h;unfold FF gV;simp only[cS,fM];omega
theorem w7(n:Int)(h:iN n)(rest:List Int):oo (gV n++rest,aQ,())=(n,(rest,aQ,())):=by
 unfold oo jE;have l8:=bT n;rw[if_neg (by
  intro x;rcases x with x | x
  ·have x:aQ=aW:=x;cases x
  ·have x:(gV n++rest).length < 8:=x;rw[ai]at x;omega)]
 show(FF ((gV n++rest).take 8),((gV n++rest).drop 8,aQ,()))=_;rw[kY l8,kX l8,awv n h]
abbrev CR:=Int×dQ×Int
def sJ:CR->AS:=λ(n,fc,n4)=>⟨([.ptr (.eC 0) 0 [] 0,dX 1,bK,.d ti n,dX 4,.fn 80 (.cons (dX 4) (.cons (dX 1) (.nil)))]++a9 35 []),cH (.d gK fc),([[],cH (.ptr (.eC 0) 0 [] 0),[],[],cH (.d ti n4)]++bC 36 [])⟩
def AR:dQ->Exit×AS:=λx=>(.ret,⟨([.ptr (.eC 0) 0 [] 0,bK,.d ti (0:Int)]++a9 38 []),cH (.d gK x),(ag 41 [])⟩)
def s9:(Int×dQ×Int)->Exit×AS:=λ(a,b,c)=>(.exit 0,⟨([.ptr (.eC 0) 0 [] 0,dX 1,bK,.d ti a,dX 4]++a9 36 []),cH (.d gK b),([[],cH (.ptr (.eC 0) 0 [] 0),[],[],cH (.d ti c)]++bC 36 [])⟩)
abbrev Qf:=(dQ)⊕((Int×dQ×Int))
abbrev abU:=(dQ)⊕((Int×dQ×Int))
def Hq:Qf->Out (Exit×AS):=λx=> .br x.isLeft (.get x.getLeft? λa=> .ok (AR a)) (.get x.getRight? λb=> .ok (s9 b))
def ng:CR->abU->Qf:=λ(n,fc,n4) y=>match y with | .inl y=> .inl y | .inr z=> .inr (z)
def AQ:CR->Prop:=λ(n,o,i)=>jo o/\∃(k m:Nat),k<=9/\i=k/\n=m/\m < 128^k
def s8:CR->abU:=λ(n,o,i)=>match xe (o.1.drop i.toNat) i.toNat n with | .inl v=> .inr (v.1,o,(v.2:Int)) | .inr _=> .inl EK
def axL:dQ->Prop:=λo=>jo o
def vz:dQ->(Int×dQ):=λo=>bX o
def abT:=eu.fD sJ AQ ng s8 Hq
def NP:CR->Option Qf:=jq abT sJ
def BU:Fs Tryz.prog axL bm vz:=fg 32 Tryz.f32 (λo0=>([.ptr (.eC 0) 0 [] 0],[.obj 0 aQ (.d gK o0)])) (λx=>⟨.d ti x.1,[.obj 0 aQ (.d gK x.2)],[]⟩) [aF] [as0,aiy] {bD:=[1],loops:=oN [(3,{aY:=[0,1,3,4,5],sites:=[1,4]})],outs:=oM [(3,{aY:=[0,1,3,4],sites:=[1,4]},{aY:=[0,2]})],fE:=pX [(3,abT)],Ch:=[⟨0,[.arr],gK⟩]}
def Qe:= @fO Tryz.prog (oc BU.G) BU.an 0 Tryz.f32 0 _ sJ
abbrev Xg:=oT Tryz.prog (oc BU.G) BU.an 0 Tryz.f32 0 sJ AQ ng s8 Hq
theorem aiC:nw NP AQ ng s8:=qL (qF [.d ti,.d gK,.d ti] λ_=>cK)
theorem Qg:qN @Qe sJ AQ ng s8 Hq Xg:=sk
theorem NQ(n fc n4)(kn:K2 R)(kx:K3 R):Qe (n,fc,n4) kn kx=aj (BV.call (n4,fc)) λx1=>aG (x1.2) (aj (NO.call x1.1.2) λx2=>kx (AR x2).1 (AR x2).2) (aG (ei x1.1.1 (((ae x1.1.2.1):Nat):Int)) (aG (mL (eB .i64 (7:Int) x1.1.1)) (aG (fV (nth tb x1.1.2.1 (ab x1.1.1)) (128:Int)) (kx (s9 ((cF .or .i64 n (mH .i64 (dC .i64 (gN (nth tb x1.1.2.1 (ab x1.1.1)) (128:Int))) (eB .i64 (7:Int) x1.1.1))),x1.1.2,(bB .i64 x1.1.1 (1:Int)))).1 (s9 ((cF .or .i64 n (mH .i64 (dC .i64 (gN (nth tb x1.1.2.1 (ab x1.1.1)) (128:Int))) (eB .i64 (7:Int) x1.1.1))),x1.1.2,(bB .i64 x1.1.1 (1:Int)))).2) (kn (sJ ((cF .or .i64 n (mH .i64 (dC .i64 (gN (nth tb x1.1.2.1 (ab x1.1.1)) (128:Int))) (eB .i64 (7:Int) x1.1.1))),x1.1.2,(bB .i64 x1.1.1 (1:Int)))))) aF) aF):=cK
theorem aAJ(o0)(k:K1 R):BU.A o0 k=aj (NP (0,o0,0)) λx3=>aG x3.isLeft (aj x3.getLeft? λa4=>k (BU.out (0,a4))) (aj x3.getRight? λb5=>aG (inc b5.2.2 (b5.2.1.1.length:Int)) (k (BU.out (b5.1,((cut b5.2.1.1 (ab b5.2.2) ((ae b5.2.1.1) - (ab b5.2.2))),b5.2.1.2)))) aF):=cK
theorem amZ:Xg:=by
 refine Qg (λ(n,o,i)=>9 - i.toNat) ?_
 rintro⟨n,o,i⟩ ⟨hr,k,m,hk,rfl,rfl,hm⟩;have hk:k<=9:=hk;have hr:jo o:=hr;by_cases hw:o.1.length<=k\/8 < k\/(0 < k/\nth (.int .u8) o.1 k=0)
 ·right;have hf:xe (o.1.drop k) k (m:Int)= .inr ():=by
   by_cases h:k < o.1.length
   ·have n1:nth (.int .u8) o.1 k=o.1[k]:=cC (t:= .int .u8) h;rw[aq h,xe,if_pos (by rw[n1]at hw;rcases hw with x | x | x;exact absurd x ak;exact jH x;exact ez x)]
   ·rw[dh ak];rfl
  refine⟨AR EK,?_,λkn kx=> ?_⟩
  ·simp only[ng,s8,aa,hf];rfl
  ·rw[NQ,Xu (d:=((k:Int),o)) (gJ k)];simp only[ah,Ei,N0,aa];rw[aI hw,ao,Qc (d:=o) trivial];rfl
 ·have h:k < o.1.length:=ak;have hx:=hr.2 _ (ba h);obtain⟨x1,x2⟩:=hx;have n1:nth (.int .u8) o.1 k=o.1[k]:=cC (t:= .int .u8) h;have hc:¬(8 < k\/(0 < k/\o.1[k]=0)):=λx=>hw (x.elim (λy=> .inr (.inl y)) λy=> .inr (.inr ⟨y.1,n1.trans y.2⟩))
  obtain⟨dn,aBy⟩:∃d:Nat,o.1[k]=d:=⟨o.1[k].toNat,ak⟩;have g:=Uo (n:=m) (d:=dn%128) (k:=k) ak hm ak;have step:∀ {R:Type} (kn:AS->Option R) (kx:Exit->AS->Option R),Qe ((m:Int),o,(k:Int)) kn kx=aG (fV o.1[k] 128) (kx (s9 (((m+dn%128*128^k:Nat):Int),o,((k+1:Nat):Int))).1 (s9 (((m+dn%128*128^k:Nat):Int),o,((k+1:Nat):Int))).2) (kn (sJ (((m+dn%128*128^k:Nat):Int),o,((k+1:Nat):Int)))):=by intro R kn kx;rw[NQ,Xu (d:=((k:Int),o)) (gJ k)];simp only[ah,Ei,N0,aa];rw[aJ hw,au,bo ak ak,n1,aBy,N.aD5 ak,s5 ak,N.aFz,N.cN ak,g.1,N.ot ak];rfl
  have ef:xe (o.1.drop k) k (m:Int)=if o.1[k] < 128 then .inl (((m+dn%128*128^k:Nat):Int),k+1) else xe (o.1.drop (k+1)) (k+1) ((m+dn%128*128^k:Nat):Int):=by
   have ec:(m:Int)+o.1[k]%128*128^k=((m+dn%128*128^k:Nat):Int):=by rw[aBy,ad7,Int.natCast_add,jw];rfl
   rw[aq h,xe,if_neg hc,ec]
  by_cases hl:o.1[k] < 128
  ·right;refine⟨s9 (((m+dn%128*128^k:Nat):Int),o,((k+1:Nat):Int)),?_,λkn kx=> ?_⟩
   ·simp only[ng,s8,aa,ef,if_pos hl];rfl
   ·rw[step,aU hl,ao]
  ·left;refine⟨(((m+dn%128*128^k:Nat):Int),o,((k+1:Nat):Int)),⟨hr,k+1,_,ak,rfl,rfl,g.2.1⟩,by simp only[aa];omega,?_,λkn kx=> ?_⟩
   ·simp only[ng,s8,aa,ef,if_neg hl]
   ·rw[step,aT hl,au]
theorem aAK:BU.Ok:=by
 intro o h;have h:jo o:=h;rw[aAJ,aiC (d:=(0,o,0)) ⟨h,0,0,gw,rfl,rfl,gw⟩];simp only[ah,ng,s8,aS,aM,bm,vz,bX];cases hf:xe o.1 0 0 with
 |inl v=>
  have g:=adO o.1 0 0 v h.2 gw gw gw hf;have e2:cut o.1 v.2 (o.1.length - v.2)=o.1.drop v.2:=by unfold cut;rw[bg];rw[da];omega
  simp only[fb,dW,au,ah,aa];rw[tz ak ak,ao,e2]
 |inr _=>rfl
theorem pz:BU.RS:=rE [.d gK] BU
def TP:=BU.fh aAK 1 ⟨.fD amZ,trivial⟩
def uu:Int->SA:=λn=>([.d ti n],[])
def IG:Bs->oH:=λx=>⟨.d tB x,[],[]⟩
def s6:Int->Bs->Bs:=λn y=>y
def IF:Nat->Int->Prop
 | 0=>λ_=>False
 |dep+1=>λn=>0<=n/\n<=9223372036854775807/\n < 128^(dep+1)
def AN:Int->Bs:=λn=>fe n
theorem am2{n:Int}(h:n < 128):fe n=[n]:=by unfold fe;rw[gF,if_neg ak];rfl
theorem asQ{n:Int}(h:128<=n)(h2:n<=9223372036854775807):fe n=(n%128+128)::fe (n / 128):=by unfold fe;rw[abZ h h2];rfl
theorem ajJ{n:Int}(h0:0<=n)(h:n < 256):dC .u8 n=n:=by rw[Pr,gh];omega
theorem abM:∀d d',uu d=uu d'->d=d':=aCK [.d ti] λ_=>cK
def NF(dep:Nat):Entry:=Entry.of [aw ti] uu (IF dep) (λd=>s6 d (AN d)) IG
def R2(dep:Nat):Int->Option Bs:=λd=>(NF dep).run (uu d).1 (uu d).2
theorem amO{dep:Nat}{d:Int}(h:IF dep d):R2 dep d=aw (s6 d (AN d)):=Entry.KT abM h
def ao2(dep:Nat):uO:=aoq 118 Tn (NF dep) (oc (P:=Tryz.prog) [])
def WX:Ih:= {bD:=[8,13],res:=[aw tB]}
def ao0(dep:Nat):= @ayY Tryz.prog (ao2 dep) WX 0 Tryz.f118 _ uu
theorem axl(dep n)(k:K1 R):ao0 dep n k=aG (fV n (128:Int)) (k (IG [(dC .u8 n)])) (aj (R2 dep (qG .i64 n (128:Int))) λx1=>aG (db (1+(ae x1)) 1) (aG (decide (0=0/\(0+(1+(ae x1)))<=(ae ([(bB .u8 (dC .u8 (gN n (128:Int))) (128:Int))]++x1)))) (k (IG (cut ([(bB .u8 (dC .u8 (gN n (128:Int))) (128:Int))]++x1) 0 (1+(ae x1))))) aF) aF):=cK
theorem axm:∀(dep:Nat) (d:Int),IF (dep+1) d->ao0 dep d aw=aw (IG (s6 d (AN d))):=by
 rintro dep (n:Int) ⟨h0,h1,h2⟩;have h0:0<=n:=h0;have h1:n<=9223372036854775807:=h1;have h2:n < 128^(dep+1):=h2;rw[axl];simp only[s6,AN];by_cases h:n < 128
 ·rw[aU h,ao,am2 h,ajJ h0 ak]
 ·obtain⟨m,rfl⟩:∃m:Nat,n=m:=⟨n.toNat,ak⟩;cases dep with
  |zero=>exact absurd h2 h
  |succ dep=>
   have e:(128:Int)^(dep+1+1)=128^(dep+1)*128:=fA 128 (dep+1);have e1:qG .i64 (m:Int) (128:Int)=((m / 128:Nat):Int):=N.aHy ak;have e2:gN (m:Int) (128:Int)=((m%128:Nat):Int):=N.aFz;have e3:bB .u8 (dC .u8 ((m%128:Nat):Int)) (128:Int)=(m:Int)%128+128:=by rw[ajJ ak ak];show IntKind.u8.wrap _=_;rw[wrap_u8,gh];omega
   have e4:((m / 128:Nat):Int)=(m:Int) / 128:=ak;have hl:=kH ((m:Int) / 128);rw[aT h,au,e1,e2,e3,e4,amO (dep:=dep+1) (d:=(m:Int) / 128) ⟨by show 0<=(m:Int) / 128;omega,by show(m:Int) / 128<=_;omega,by show(m:Int) / 128 < _;omega⟩];simp only[ah,s6,AN];rw[cV ak ak,asQ ak h1];have el:([(m:Int)%128+128]++fe ((m:Int) / 128)).length=1+(fe ((m:Int) / 128)).length:=by rw[ai];rfl
   rw[aI ⟨by trivial,by rw[el];omega⟩,dw el];rfl
def ao1:Entry:=NF 9
def Lj:Int->Option Bs:=aog ao1 uu
theorem abN{d:Int}(h:IF 9 d):Lj d=aw (s6 d (AN d)):=show(NF 9).run (uu d).1 (uu d).2=_ from Entry.KT abM h
theorem R3:∀dep,A7 Tryz.prog 118 (NF dep)
 | 0=>A7.of (an:=WX) (N:=0) (fn:=Tryz.f118) cK (show Sound _ aCm from Sound.nil _) cK cK cK (j8.fn 0 cK trivial) (λ_ h=>False.elim h)
 |dep+1=>A7.of (an:=WX) (N:=0) (fn:=Tryz.f118) cK (show Sound _ (ao2 dep) from Sound.cons (LP.of (R3 dep) (by rfl)) (Sound.oc (P:=Tryz.prog) [])) cK cK cK (j8.fn 0 cK trivial) (axm dep)
def ais:SG Tryz.prog:=⟨118,Tn,ao1,.of (R3 9) (by rfl)⟩
def ash:(Bs×Int)->Prop:=λ(b,n)=>b.length<=90000000/\n<=9223372036854775807
def rZ:(Bs×Int)->Bs:=λ(b,n)=>df b n
def uY:Fs Tryz.prog ash bm rZ:=fg 66 Tryz.f66 (λ(b,n)=>([.d tB b,.d ti n],[])) (λx=>⟨.d tB x,[],[]⟩) [aw tB,aw ti] [ais] {bD:=[6],res:=[aw tB]}
theorem axj(b n)(k:K1 R):uY.A (b,n) k=aG (db (0+(ae b)) 1) (aG (B8 n 0) (aj (Lj n) λx1=>aG (decide ((0+(ae b))<=(ae ((aP 0 (ag 0 0))++b)))) (aG (db ((0+(ae b))+(ae x1)) 1) (aG (decide (0=0/\(0+((0+(ae b))+(ae x1)))<=(ae ((aP (0+(ae b)) ((aP 0 (ag 0 0))++b))++x1)))) (k (uY.out (cut ((aP (0+(ae b)) ((aP 0 (ag 0 0))++b))++x1) 0 ((0+(ae b))+(ae x1))))) aF) aF) aF) (aG (decide (0=0/\(0+(0+(ae b)))<=(ae ((aP 0 (ag 0 0))++b)))) (k (uY.out (cut ((aP 0 (ag 0 0))++b) 0 (0+(ae b))))) aF)) aF:=cK
theorem axk:uY.Ok:=by
 rintro⟨b,n⟩ ⟨hb,hn⟩;have hb:b.length<=90000000:=hb;have hn:n<=9223372036854775807:=hn;have e0:(aP 0 (ag 0 0):List Int)=[]:=rfl;rw[axj];simp only[aH,e0,aO,bm,rZ,df,az,eW,bA,ao,dw,bt];rw[cV ak ak,ao];by_cases h:n>=0
 ·have hl:=kH n;rw[gf h,ao,if_neg ak,abN (d:=n) ⟨h,hn,by have e:(128:Int)^(8+1)=9223372036854775808:=rfl;rw[e];show n < _;omega⟩];simp only[ah,s6,AN];rw[cV ak ak,aI ⟨by trivial,by rw[ai];omega⟩,dw (by rw[ai])];rfl
 ·rw[eH h,if_pos ak];rfl
theorem mP:uY.RS:=rE [.d tB,.d ti] uY
def WT:=uY.fh axk
abbrev R1:=Int×Nat×Int×(List Int)
def ZU:R1->Prop:=λ(n,m,i,l)=>m=l.length/\∃j:Nat,j<=8/\i=7 - (j:Int)/\l.length<=100000000+j
def AM:R1->(Nat×(List Int)):=λ(n,m,i,l)=>(m+(i+1).toNat,l++(gV n).drop (7 - i).toNat)
def amN:(Bs×Int)->Prop:=λ(b,n)=>b.length<=90000000
def CO:(Bs×Int)->Bs:=λ(b,n)=>b++gV n
def ql:Ls ZU bm AM:=oP (λ(vg,outL,i,n7)=>⟨([bK,.d tu vg,bK,bK,bK,iw 7 outL,.d ti i]++a9 17 []),[],(bC 7 ([cH (.vec 5 tb n7)]++bC 16 []))⟩) (λx=>(.exit 0,⟨(a9 5 ([iw 7 x.1]++a9 18 [])),[],(bC 7 ([cH (.vec 5 tb x.2)]++bC 16 []))⟩))
def ur:Fs Tryz.prog amN bm CO:=fg 67 Tryz.f67 (λ(b,n)=>([.d tB b,.d tu n],[])) (λx=>⟨.d tB x,[],[]⟩) [aw tB,aw tu] [] {bD:=[7],loops:=oN [(3,{aY:=[1,5,6],sites:=[7],owns:=[⟨5,[],7,26⟩]})],outs:=oM [(3,{aY:=[5],sites:=[7]},{aY:=[4]})],fE:=pX [(3,ql.E)],res:=[aw tB]}
theorem ZV:ql.RS:=rL [.d tu,.n,.d ti,.d tB] ql
theorem Hg(vg outL i n7)(kn:K2 R)(kx:K3 R):ur.R 0 ql (vg,outL,i,n7) kn kx=aG (B8 i 0) (aG (mL (dC .u64 (eB .i64 8 i))) (aG (decide (outL<=(ae n7))) (aG (db (outL+1) 1) (kn (ql.st (vg,(outL+1),(dD .i64 i 1),((aP outL n7)++ [(dC .u8 (cl .u64 vg (dC .u64 (eB .i64 8 i))))])))) aF) aF) aF) (ql.go kx (outL,n7)):=cK
theorem ass(b n)(k:K1 R):ur.A (b,n) k=aG (db (0+(ae b)) 1) (aj (ql.call (n,(0+(ae b)),7,((aP 0 (ag 0 0))++b))) λx1=>aG (decide (0=0/\(0+x1.1)<=(ae x1.2))) (k (ur.out (cut x1.2 0 x1.1))) aF) aF:=cK
theorem aeF:(ur.j8 0 ql):=by
 refine(ur.lX 0 ql) (λ(n,m,i,l)=>(i+1).toNat) ?_
 rintro⟨n,m,i,l⟩ ⟨rfl,j,hj,rfl,hl⟩;have hl:l.length<=100000000+j:=hl;have e1:(7 - (7 - (j:Int))).toNat=j:=ak;by_cases h:j < 8
 ·left;have e2:dD .i64 (7 - (j:Int)) 1=7 - ((j+1:Nat):Int):=by rw[gY ak ak];omega
  have e3:(7 - (7 - ((j+1:Nat):Int))).toNat=j+1:=ak;have e4:eB .i64 8 (7 - (j:Int))=((56 - 8*j:Nat):Int):=by rw[wE ak ak];omega
  have e5:dC .u64 ((56 - 8*j:Nat):Int)=((56 - 8*j:Nat):Int):=by rw[Mz,gh];omega
  refine⟨(n,l.length+1,7 - ((j+1:Nat):Int),l++ [n / 2^(56 - 8*j)%256]),⟨by rw[ai];rfl,j+1,ak,rfl,by rw[ai];show l.length+1<=_;omega⟩,by simp only;omega,?_,λkn kx=> ?_⟩
  ·simp only[bm,AM,e1,e3,afR n j h,aC,bQ];rw[show l.length+1+(7 - ((j+1:Nat):Int)+1).toNat=l.length+(7 - (j:Int)+1).toNat by omega]
  ·rw[Hg,gf ak,e4,e5,s5 ak,YC n _ ak,e2,aI (az _),cV ak ak,bt];rfl
 ·right;obtain rfl:j=8:=ak;intro R kn kx;rw[Hg,eH ak,au];simp only[bm,AM,e1];rw[dh (by rw[bT];omega),bn];rfl
theorem ast:ur.Ok:=by
 rintro⟨b,n⟩ hb;have hb:b.length<=90000000:=hb;have e0:(aP 0 (ag 0 0):List Int)=[]:=rfl;rw[ass];simp only[aH,e0,aO];rw[cV ak ak,ao,ZV (d:=(n,b.length,7,b)) ⟨rfl,0,ak,rfl,ak⟩];simp only[ah,bm,AM];rw[show(7 - (7:Int)).toNat=0 from rfl,show((7:Int)+1).toNat=8 from rfl,aM];have el:(b++gV n).length=b.length+8:=by rw[ai,bT]
 rw[aI ⟨by trivial,by rw[el];omega⟩,dw el];rfl
theorem zz:ur.RS:=rE [.d tB,.d tu] ur
def abL:=ur.fh ast 1 ⟨.fD aeF,trivial⟩
def amA:dQ->Prop:=λ_=>True
def axf:dQ->dQ:=λ_=>EK
def BN:Fs Tryz.prog amA bm axf:=fg 85 Tryz.f85 (λo0=>([.ptr (.eC 0) 0 [] 0],[.obj 0 aQ (.d gK o0)])) (λx=>⟨.nil,[.obj 0 aQ (.d gK x)],[]⟩) [aF] [] {Ch:=[⟨0,[.arr],gK⟩]}
theorem ar4(o0)(k:K1 R):BN.A o0 k=k (BN.out (([]:List Int),(aW,o0.2.2))):=cK
theorem ar5:BN.Ok:=by intro o _;rw[ar4];rfl
theorem Ec:BN.RS:=rE [.d gK] BN
def abJ:=BN.fh ar5
def amF:(Int×dQ)->Prop:=λ(n,o)=>0<=n/\o.1.length<=1000000000
def NB:(Int×dQ)->(Bs×dQ):=λ(n,o)=>jE n.toNat o
def zx:Fs Tryz.prog amF bm NB:=fg 86 Tryz.f86 (λ(n,o0)=>([.ptr (.eC 0) 0 [] 0,.d ti n],[.obj 0 aQ (.d gK o0)])) (λx=>⟨.d tB x.1,[.obj 0 aQ (.d gK x.2)],[]⟩) [aF,aw ti] [abJ] {bD:=[21],res:=[aw tB],Ch:=[⟨0,[.arr],gK⟩]}
theorem asc(n o0)(k:K1 R):zx.A (n,o0) k=aG (o0.2.1) (aj (BN.call o0) λx1=>k (zx.out (([]:List Int),x1))) (aG (xS n (o0.1.length:Int)) (aj (BN.call o0) λx2=>k (zx.out (([]:List Int),x2))) (aG (inc n (o0.1.length:Int)) (aG (db (0+(ae (cut o0.1 0 ((ab n) - 0)))) 1) (aG (inc n (o0.1.length:Int)) (aG (decide (0=0/\(0+(0+(ae (cut o0.1 0 ((ab n) - 0)))))<=(ae ((aP 0 (ag 0 0))++(cut o0.1 0 ((ab n) - 0)))))) (k (zx.out ((cut ((aP 0 (ag 0 0))++(cut o0.1 0 ((ab n) - 0))) 0 (0+(ae (cut o0.1 0 ((ab n) - 0))))),((cut o0.1 (ab n) ((ae o0.1) - (ab n))),o0.2)))) aF) aF) aF) aF)):=cK
theorem asd:zx.Ok:=by
 rintro⟨n,o⟩ ⟨h0,hl⟩;have h0:0<=n:=h0;have hl:o.1.length<=1000000000:=hl;obtain⟨k,rfl⟩:∃k:Nat,n=k:=⟨n.toNat,ak⟩;have e0:(aP 0 (ag 0 0):List Int)=[]:=rfl;rw[asc];simp only[bm,NB,jE,aa,nu,aH,e0,aO,az,eW,bA,ao,dw];cases h2:o.2.1
 ·by_cases hn:o.1.length < k
  ·rw[dk ak,if_pos (ez hn),Ec (d:=o) trivial];rfl
  ·have e1:cut o.1 0 k=o.1.take k:=rfl;have e2:cut o.1 k (o.1.length - k)=o.1.drop k:=by unfold cut;rw[bg];rw[da];omega
   rw[cJ ak,if_neg (by intro x;rcases x with x | x;exact absurd x gw;exact hn x),tz ak ak,e1,e2,cV (by rw[ct];omega) (by rw[ct];omega)];rfl
 ·rw[ao,if_pos (jH rfl),Ec (d:=o) trivial];rfl
theorem Le:zx.RS:=rE [.d ti,.d gK] zx
def P6:=zx.fh asd
abbrev Ll:=Bs×Int×Int×dQ
def aeH:Ll->Int->((dQ)×(Int)):=λ(b,n,i,fc) y=>(fc,y)
def aeG:Ll->Prop:=λ(l,n,i,o)=>Bytes l/\l.length<=8/\∃k:Nat,k<=l.length/\i=k/\n=FF (l.take k)
def amP:Ll->Int:=λ(l,n,i,o)=>FF l
def asu:dQ->Prop:=λo=>jo o
def IH:dQ->(Int×dQ):=λo=>oo o
theorem ayo{n b:Int}(h0:0<=n)(h1:n < 72057594037927936)(hb:SB b):bB .u64 (eB .u64 256 n) (dC .u64 b)=n*256+b:=by
 obtain⟨b0,b1⟩:=hb;have e1:eB .u64 256 n=256*n:=by unfold eB;rw[wrap_u64,gh];omega
 have e2:dC .u64 b=b:=by rw[Mz,gh];omega
 rw[e1,e2];show IntKind.u64.wrap _=_;rw[wrap_u64,gh];omega
def uv:Ls aeG aeH amP:=oP (λ(b,n,i,fc)=>⟨([bK,bK,bK,.d tB b,.d tu n,.d ti i]++a9 17 []),cH (.d gK fc),(ag 23 [])⟩) (λx=>(.exit 0,⟨(a9 4 ([.d tu x.2]++a9 18 [])),cH (.d gK x.1),(ag 23 [])⟩))
def AO:Fs Tryz.prog asu bm IH:=fg 89 Tryz.f89 (λo0=>([.ptr (.eC 0) 0 [] 0],[.obj 0 aQ (.d gK o0)])) (λx=>⟨.d tu x.1,[.obj 0 aQ (.d gK x.2)],[]⟩) [aF] [P6] {loops:=oN [(4,{aY:=[3,4,5]})],outs:=oM [(4,{aY:=[4]},{aY:=[2]})],fE:=pX [(4,uv.E)]}
theorem aeI:uv.RS:=rL [.d tB,.d tu,.d ti,.d gK] uv
theorem JQ(b n i fc)(kn:K2 R)(kx:K3 R):AO.R 0 uv (b,n,i,fc) kn kx=aG (fV i (b.length:Int)) (aG (ei i (b.length:Int)) (kn (uv.st (b,(bB .u64 (eB .u64 256 n) (dC .u64 (nth tb b (ab i)))),(bB .i64 i 1),fc))) aF) (uv.go kx (fc,n)):=cK
theorem axn(o0)(k:K1 R):AO.A o0 k=aj (zx.call (8,o0)) λx1=>aj (uv.call (x1.1,0,0,x1.2)) λx2=>k (AO.out (x2.2,x2.1)):=cK
theorem ait:(AO.j8 0 uv):=by
 refine(AO.lX 0 uv) (λ(l,n,i,o)=>l.length - i.toNat) ?_
 rintro⟨l,n,i,o⟩ ⟨hb,h8,k,hk,rfl,rfl⟩;have h8:l.length<=8:=h8;have hk:k<=l.length:=hk;by_cases h:k < l.length
 ·left;have hx:=hb _ (ba h);have n1:nth (.int .u8) l k=l[k]:=cC (t:= .int .u8) h;have ht:(l.take k).length=k:=by rw[ct];omega
  have b0:=adN (l:=l.take k) λx hx=>hb x (List.mem_of_mem_take hx)
  rw[ht]at b0;have b1:=PL (show k<=7 by omega);have b2:(256:Int)^7=72057594037927936:=rfl;refine⟨(l,FF (l.take (k+1)),((k+1:Nat):Int),o),⟨hb,h8,k+1,ak,rfl,rfl⟩,by simp only[aa];omega,rfl,λkn kx=> ?_⟩;rw[JQ,aU ak,bo ak ak,aa,n1,N.ot ak,ayo b0.1 ak hx,dV h,abq];rfl
 ·right;obtain rfl:k=l.length:=ak;intro R kn kx;rw[JQ,aT ak,au,bt];rfl
theorem axo:AO.Ok:=by intro o h;have h:jo o:=h;have t:=uE (n:=8) h;rw[axn,Le (d:=(8,o)) ⟨gw,h.1⟩];simp only[ah,bm,NB];rw[show ab 8=8 from rfl,aeI (d:=((jE 8 o).1,0,0,(jE 8 o).2)) ⟨t.2.1,t.1,0,aL _,rfl,rfl⟩];rfl
theorem CP:AO.RS:=rE [.d gK] AO
def aiu:=AO.fh axo 1 ⟨.fD ait,trivial⟩
def amG:Bs->Prop:=λb=>b.length<=1000000000
def WR:Bs->dQ:=λb=>(b,aQ,())
def Hd:Fs Tryz.prog amG bm WR:=fg 39 Tryz.f39 (λb=>([.d tB b],[])) (λx=>⟨.ptr (.new 0 0) 0 [] 0,[],[.obj 0 aQ (.d gK x)]⟩) [aw tB] [] {bD:=[3,7],Ch:=[⟨2,[.arr],gK⟩]}
theorem asf(b)(k:K1 R):Hd.A b k=aG (db (0+(ae b)) 1) (aG (decide (0=0/\(0+(0+(ae b)))<=(ae ((aP 0 (ag 0 0))++b)))) (k (Hd.out ((cut ((aP 0 (ag 0 0))++b) 0 (0+(ae b))),(aQ,())))) aF) aF:=cK
theorem asg:Hd.Ok:=by intro b hb;have hb:b.length<=1000000000:=hb;have e0:(aP 0 (ag 0 0):List Int)=[]:=rfl;rw[asf];simp only[aH,e0,aO,az,eW,bA,ao,dw];rw[cV ak ak];rfl
theorem WS:Hd.RS:=rE [.d tB] Hd
def abK:=Hd.fh asg
def ar3:List Int->Nat->Int->(Int×Nat)⊕Bool
 |[],_,_=> .inr aQ
 |d::l,a,n=>if 8 < a then .inr aQ else if 0 < a/\d=0 then .inr aW else if d < 128 then .inl (n+d%128*128^a,a+1) else ar3 l (a+1) (n+d%128*128^a)
theorem aoY:∀(l:List Int) (a:Nat) (n:Int),xe l a n=match ar3 l a n with | .inl v=> .inl v | .inr _=> .inr ()
 |[],_,_=>rfl
 |d::l,a,n=>by
  rw[xe,ar3];by_cases h1:8 < a
  ·rw[if_pos (jH h1),if_pos h1]
  ·by_cases h2:0 < a/\d=0
   ·rw[if_pos (ez h2),if_neg h1,if_pos h2]
   ·rw[if_neg (by rintro(x | x);exact h1 x;exact h2 x),if_neg h1,if_neg h2];by_cases h3:d < 128
    ·rw[if_pos h3,if_pos h3]
    ·rw[if_neg h3,if_neg h3,aoY l]
abbrev zy:=Int×Int×Int×dQ
def nf:zy->AS:=λ(n,byv,i,fc)=>⟨([.ptr (.eC 0) 0 [] 0,bK,bK,.d ti n,.d ti byv,.d ti i]++a9 53 []),cH (.d gK fc),(ag 59 [])⟩
def hH:(Int×dQ)->Exit×AS:=λx=>(.ret,⟨([.ptr (.eC 0) 0 [] 0,bK,.d ti x.1]++a9 56 []),cH (.d gK x.2),(ag 59 [])⟩)
def nM:dQ->Exit×AS:=λx=>(.exit 0,⟨([.ptr (.eC 0) 0 [] 0]++a9 58 []),cH (.d gK x),(ag 59 [])⟩)
abbrev Lh:=((Int×dQ))⊕(dQ)
abbrev WO:=((Int×dQ))⊕(Unit)
def Ed:Lh->Out (Exit×AS):=λx=> .br x.isLeft (.get x.getLeft? λa=> .ok (hH a)) (.get x.getRight? λb=> .ok (nM b))
def iR:zy->WO->Lh:=λ(n,byv,i,fc) y=>match y with | .inl y=> .inl y | .inr z=> .inr (fc)
def yo:zy->Prop:=λ(n,p,i,o)=>jo o/\∃(k m:Nat),k<=9/\i=k/\n=m/\m < 128^k/\(k<=8->p=((128^k:Nat):Int))
def mi:zy->WO:=λ(n,p,i,o)=>match ar3 (o.1.drop i.toNat) i.toNat n with | .inl v=> .inl (v.1,(o.1.drop v.2,o.2)) | .inr aW=> .inl (0,EK) | .inr aQ=> .inr ()
def ase:dQ->Prop:=λo=>jo o
def oR:dQ->(Int×dQ):=λo=>bX o
theorem ap3{n d k:Nat}(hk:k<=8)(hn:n < 128^k)(hd:d < 128):bB .i64 (n:Int) (eB .i64 (d:Int) ((128^k:Nat):Int))=((n+d*128^k:Nat):Int):=by have p:128^k<=128^8:=lu gw hk;have p8:128^8=72057594037927936:=rfl;have e3:d*128^k<=127*128^k:=cM _ ak;rw[N.aFs ak,N.aEl ak]
def WN:=eu.fD nf yo iR mi Ed
def JP:zy->Option Lh:=jq WN nf
def px:Fs Tryz.prog ase bm oR:=fg 40 Tryz.f40 (λo0=>([.ptr (.eC 0) 0 [] 0],[.obj 0 aQ (.d gK o0)])) (λx=>⟨.d ti x.1,[.obj 0 aQ (.d gK x.2)],[]⟩) [aF] [abJ] {loops:=oN [(4,{aY:=[0,3,4,5]})],outs:=oM [(4,{aY:=[0]},{aY:=[0,2]})],fE:=pX [(4,WN)],Ch:=[⟨0,[.arr],gK⟩]}
def Lg:= @fO Tryz.prog (oc px.G) px.an 0 Tryz.f40 0 _ nf
abbrev RZ:=oT Tryz.prog (oc px.G) px.an 0 Tryz.f40 0 nf yo iR mi Ed
theorem aeD:nw JP yo iR mi:=qL (qF [.d ti,.d ti,.d ti,.d gK] λ_=>cK)
theorem NC:qN @Lg nf yo iR mi Ed RZ:=sk
theorem v5(n byv i fc)(kn:K2 R)(kx:K3 R):Lg (n,byv,i,fc) kn kx=aG (fV i (((ae fc.1):Nat):Int)) (aG (fV i (9:Int)) (aG (ei i (((ae fc.1):Nat):Int)) (aG (wD (dC .i64 (nth tb fc.1 (ab i))) (0:Int)) (aG (xS i (0:Int)) (aj (BN.call fc) λx1=>kx (hH ((0:Int),x1)).1 (hH ((0:Int),x1)).2) (aG (fV (dC .i64 (nth tb fc.1 (ab i))) (128:Int)) (aG (inc (bB .i64 i (1:Int)) (((ae fc.1):Nat):Int)) (kx (hH ((bB .i64 n (eB .i64 (gN (dC .i64 (nth tb fc.1 (ab i))) (128:Int)) byv)),((cut fc.1 (ab (bB .i64 i (1:Int))) ((ae fc.1) - (ab (bB .i64 i (1:Int))))),fc.2))).1 (hH ((bB .i64 n (eB .i64 (gN (dC .i64 (nth tb fc.1 (ab i))) (128:Int)) byv)),((cut fc.1 (ab (bB .i64 i (1:Int))) ((ae fc.1) - (ab (bB .i64 i (1:Int))))),fc.2))).2) aF) (kn (nf ((bB .i64 n (eB .i64 (gN (dC .i64 (nth tb fc.1 (ab i))) (128:Int)) byv)),(eB .i64 (128:Int) byv),(bB .i64 i (1:Int)),fc))))) (aG (fV (dC .i64 (nth tb fc.1 (ab i))) (128:Int)) (aG (inc (bB .i64 i (1:Int)) (((ae fc.1):Nat):Int)) (kx (hH ((bB .i64 n (eB .i64 (gN (dC .i64 (nth tb fc.1 (ab i))) (128:Int)) byv)),((cut fc.1 (ab (bB .i64 i (1:Int))) ((ae fc.1) - (ab (bB .i64 i (1:Int))))),fc.2))).1 (hH ((bB .i64 n (eB .i64 (gN (dC .i64 (nth tb fc.1 (ab i))) (128:Int)) byv)),((cut fc.1 (ab (bB .i64 i (1:Int))) ((ae fc.1) - (ab (bB .i64 i (1:Int))))),fc.2))).2) aF) (kn (nf ((bB .i64 n (eB .i64 (gN (dC .i64 (nth tb fc.1 (ab i))) (128:Int)) byv)),(eB .i64 (128:Int) byv),(bB .i64 i (1:Int)),fc))))) aF) (kx (nM fc).1 (nM fc).2)) (kx (nM fc).1 (nM fc).2):=cK
theorem axg(o0)(k:K1 R):px.A o0 k=aj (JP (0,1,0,o0)) λx2=>aG x2.isLeft (aj x2.getLeft? λa3=>k (px.out (a3.1,a3.2))) (aj x2.getRight? λb4=>aj (BN.call b4) λx5=>k (px.out (0,x5))):=cK
theorem air:RZ:=by
 refine NC (λ(n,p,i,o)=>9 - i.toNat) ?_
 rintro⟨n,p,i,o⟩ ⟨hr,k,m,hk,rfl,rfl,hm,hp⟩;have hk:k<=9:=hk;have hr:jo o:=hr;have hl:=hr.1;by_cases h:k < o.1.length
 ·have hx:=hr.2 _ (ba h);obtain⟨x1,x2⟩:=hx;have n1:nth (.int .u8) o.1 k=o.1[k]:=cC (t:= .int .u8) h;by_cases h9:8 < k
  ·right;have hf:ar3 (o.1.drop k) k (m:Int)= .inr aQ:=by rw[aq h,ar3,if_pos h9]
   refine⟨nM o,?_,λkn kx=> ?_⟩
   ·simp only[iR,mi,aa,hf];rfl
   ·rw[v5,aU ak,aT ak];rfl
  ·have hp:p=((128^k:Nat):Int):=hp ak;subst hp;obtain⟨dn,aBy⟩:∃d:Nat,o.1[k]=d:=⟨o.1[k].toNat,ak⟩;have g:=Uo (n:=m) (d:=dn%128) (k:=k) ak hm ak;have e2:cut o.1 (k+1) (o.1.length - (k+1))=o.1.drop (k+1):=by unfold cut;rw[bg];rw[da];omega
   by_cases hz:0 < k/\o.1[k]=0
   ·right;have hf:ar3 (o.1.drop k) k (m:Int)= .inr aW:=by rw[aq h,ar3,if_neg h9,if_pos hz]
    refine⟨hH (0,EK),?_,λkn kx=> ?_⟩
    ·simp only[iR,mi,aa,hf];rfl
    ·rw[v5,aU ak,aU ak,bo ak ak,aa,n1,hz.2,show dC .i64 (0:Int)=0 from rfl,dJ rfl,dk ak,Ec (d:=o) trivial];rfl
   ·have ef:ar3 (o.1.drop k) k (m:Int)=if o.1[k] < 128 then .inl (((m+dn%128*128^k:Nat):Int),k+1) else ar3 (o.1.drop (k+1)) (k+1) ((m+dn%128*128^k:Nat):Int):=by
     have ec:(m:Int)+o.1[k]%128*128^k=((m+dn%128*128^k:Nat):Int):=by rw[aBy,ad7,Int.natCast_add,jw];rfl
     rw[aq h,ar3,if_neg h9,if_neg hz,ec]
    have step:∀ {R:Type} (kn:AS->Option R) (kx:Exit->AS->Option R),Lg ((m:Int),((128^k:Nat):Int),(k:Int),o) kn kx=aG (fV o.1[k] 128) (kx (hH (((m+dn%128*128^k:Nat):Int),(o.1.drop (k+1),o.2))).1 (hH (((m+dn%128*128^k:Nat):Int),(o.1.drop (k+1),o.2))).2) (kn (nf (((m+dn%128*128^k:Nat):Int),eB .i64 (128:Int) ((128^k:Nat):Int),((k+1:Nat):Int),o))):=by
     intro R kn kx;rw[v5,aU ak,aU ak,bo ak ak,aa,n1,aBy,N.cN ak,N.aFz,N.ot ak,ap3 ak hm ak,aa,e2,tz ak ak];simp only[ao];by_cases aF3:(dn:Int)=0
     ·rw[dJ aF3,ao,cJ (by intro x;exact hz ⟨ak,by rw[aBy];exact aF3⟩),au]
     ·rw[fj aF3,au]
    by_cases jQ:o.1[k] < 128
    ·right;refine⟨hH (((m+dn%128*128^k:Nat):Int),(o.1.drop (k+1),o.2)),?_,λkn kx=> ?_⟩
     ·simp only[iR,mi,aa,ef,if_pos jQ];rfl
     ·rw[step,aU jQ,ao]
    ·left;refine⟨(((m+dn%128*128^k:Nat):Int),eB .i64 (128:Int) ((128^k:Nat):Int),((k+1:Nat):Int),o),⟨hr,k+1,_,ak,rfl,rfl,g.2.1,λaJT=> ?_⟩,by simp only[aa];omega,?_,λkn kx=> ?_⟩
     ·have p:128^(k+1)<=128^8:=lu gw aJT;have p8:128^8=72057594037927936:=rfl;have e1:128^(k+1)=128^k*128:=tn (n:=128) (m:=k);rw[N.aD5 ak,e1,nr]
     ·simp only[iR,mi,aa,ef,if_neg jQ]
     ·rw[step,aT jQ,au]
 ·right;have hf:ar3 (o.1.drop k) k (m:Int)= .inr aQ:=by rw[dh ak];rfl
  refine⟨nM o,?_,λkn kx=> ?_⟩
  ·simp only[iR,mi,aa,hf];rfl
  ·rw[v5,aT ak];rfl
theorem axh:px.Ok:=by
 intro o h;have h:jo o:=h;rw[axg,aeD (d:=(0,1,0,o)) ⟨h,0,0,gw,rfl,rfl,gw,λ_=>rfl⟩];simp only[ah,iR,mi,aS,aM,bm,oR,bX];rw[aoY];cases ar3 o.1 0 0 with
 |inl v=>rfl
 |inr z=>
  cases z
  ·simp only[fb,dW,au,ah];rw[Ec (d:=o) trivial];rfl
  ·rfl
theorem lh:px.RS:=rE [.d gK] px
def ND:=px.fh axh 1 ⟨.fD air,trivial⟩
theorem fX{a b:List Int}(ha:Bytes a)(hb:Bytes b):Bytes (a++b):=λx hx=>by
 rcases bJ.1 hx with h | h
 ·exact ha x h
 ·exact hb x h
theorem Xi:∀(f:Nat) (n:Int),0<=n->n < 128^(f+1)->Bytes (gF f n).1/\SB (gF f n).2
 | 0,n,h0,h1=>by have h1:n < 128:=h1;exact⟨λx hx=>(by cases hx),h0,by show n < 256;omega⟩
 |f+1,n,h0,h1=>by
  have e:(128:Int)^(f+1+1)=128^(f+1)*128:=fA 128 (f+1);rw[gF];split
  ·have ih:=Xi f (n / 128) ak ak;refine⟨λx hx=> ?_,ih.2⟩;rcases cz.1 hx with rfl | hx
   ·exact⟨ak,ak⟩
   ·exact ih.1 x hx
  ·exact⟨λx hx=>(by cases hx),h0,by show n < 256;omega⟩
theorem lj{n:Int}(h:zX n):Bytes (fe n):=by have e10:(128:Int)^(10+1)=151115727451828646838272:=rfl;obtain⟨h0,h1⟩:=h;have:=Xi 10 n h0 (by rw[e10];omega);unfold fe;exact fX this.1 λx hx=>by rw[cX]at hx;subst hx;exact this.2
theorem agP:∀(ks:List Int) (o:List Int),mI o ks=o++ks.flatMap gV
 |[],o=>by rw[pO,bn];rfl
 |k::ks,o=>by show mI (o++gV k) ks=_;rw[agP ks,cI,aC]
theorem akZ(ks:List Int):Bytes (ks.flatMap gV):=λx hx=>by obtain⟨k,_,hk⟩:=gL.1 hx;exact Ce k x hk
def apE(b:mr):List Int:=fe b.1.length++(b.1.flatMap gV++(fe b.2.1++(fe b.2.2.1++gV b.2.2.2.1)))
theorem TL(o:List Int){n:Int}(h:0<=n):df o n=o++fe n:=by rw[df,if_neg ak]
structure aBk(b:mr):Prop where
 len:b.1.length<=12
 af:zX b.2.1
 dl:zX b.2.2.1
theorem aCd{b:mr}(h:xG b=aW):aBk b:=by unfold xG adl at h;simp only[al,bh]at h;obtain⟨h1,_,h2,h3,_⟩:=h;exact⟨h1,⟨h2.1,ak⟩,⟨h3.1,ak⟩⟩
theorem lC{n:Nat}(h:n<=1000000000):zX (n:Int):=⟨ak,ak⟩
theorem aCb(o:List Int){b:mr}(h:aBk b):atV o b=o++apE b:=by unfold atV apE;rw[TL _ (gJ _),agP,TL _ h.af.1,TL _ h.dl.1];simp only[aC]
theorem aof:∀(bs:List mr) (o:List Int),(∀b∈bs,aBk b)->bs.foldl atV o=o++bs.flatMap apE
 |[],o,_=>by rw[pO,bn];rfl
 |b::bs,o,h=>by rw[cS,aCb o (h b bf),aof bs _ λx hx=>h x (aV _ hx),cI,aC]
theorem adw{l:Lk}(h:og l=aW):(∀b∈l.1,aBk b)/\0 < l.1.length/\l.1.length<=4:=by unfold og at h;simp only[al,cf,bh]at h;exact⟨λb hb=>aCd (h.1 b hb),h.2⟩
theorem ak8{l:Lk}(h:og l=aW):EO l=fe l.1.length++l.1.flatMap apE:=by unfold EO;rw[if_pos h,aof _ _ (adw h).1,TL _ (gJ _),aO]
theorem apF{b:mr}(h:aBk b):Bytes (apE b):=
 have Q3:=h.len
 fX (lj (lC ak)) (fX (akZ _) (fX (lj h.af) (fX (lj h.dl) (Ce _))))
theorem aa9(l:Lk):Bytes (EO l):=by
 cases h:og l
 ·unfold EO;rw[h,if_neg gw];exact λx hx=>(by cases hx)
 ·have hk:=adw h;rw[ak8 h];refine fX (lj (lC ak)) λx hx=> ?_
  obtain⟨b,hb,hx⟩:=gL.1 hx;exact apF (hk.1 b hb) x hx
theorem W4{b:List Int}(h:Bytes b)(hl:b.length<=1000000000)(u:Bool×Unit):jo (b,u):=⟨hl,h⟩
def mJ:Nat->dQ->List Int×dQ
 | 0,r=>([],r)
 |k+1,r=>((oo r).1::(mJ k (oo r).2).1,(mJ k (oo r).2).2)
def oZ(k:Nat)(r:dQ):mr×dQ:=(((mJ k r).1,(bX (mJ k r).2).1,(bX (bX (mJ k r).2).2).1,(oo (bX (bX (mJ k r).2).2).2).1,()),(oo (bX (bX (mJ k r).2).2).2).2)
def Cd:Nat->Int->dQ->List mr
 | 0,_,_=> []
 |f+1,n,r=>if 0 < n then(if f=0\/12 < (bX r).1 then [] else(oZ (bX r).1.toNat (bX r).2).1::Cd f (n - 1) (oZ (bX r).1.toNat (bX r).2).2) else []
def rb(b:List Int):List mr:=Cd 5 (bX (b,aQ,())).1 (bX (b,aQ,())).2
theorem TB:∀(k:Nat) (r:dQ),jo r->TX (mJ k r).1/\(mJ k r).1.length=k/\jo (mJ k r).2
 | 0,r,h=>⟨λx hx=>(by cases hx),rfl,h⟩
 |k+1,r,h=>by
  have e:=B5 h;have ih:=TB k _ e.2;refine⟨λx hx=> ?_,by rw[mJ,aE,ih.2.1],ih.2.2⟩;rcases cz.1 hx with rfl | hx
  ·exact e.1
  ·exact ih.1 x hx
theorem Tp(k:Nat)(r:dQ)(h:jo r):atT (oZ k r).1/\(oZ k r).1.1.length=k/\jo (oZ k r).2:=by have h1:=TB k r h;have h2:=iA h1.2.2;have h3:=iA h2.2.2;have h4:=B5 h3.2.2;exact⟨⟨h1.1,h4.1⟩,h1.2.1,h4.2⟩
theorem auu:∀(f:Nat) (n:Int) (r:dQ),jo r->(∀b∈Cd f n r,atT b)/\(Cd f n r).length<=f
 | 0,n,r,h=>⟨λx hx=>(by cases hx),az _⟩
 |f+1,n,r,h=>by
  have h1:=iA h;have h2:=Tp (bX r).1.toNat _ h1.2.2;have ih:=auu f (n - 1) _ h2.2.2;rw[Cd];split
  ·split
   ·exact⟨λx hx=>(by cases hx),aL _⟩
   ·refine⟨λx hx=> ?_,by rw[aE];omega⟩;rcases cz.1 hx with rfl | hx
    ·exact h2.1
    ·exact ih.1 x hx
  ·exact⟨λx hx=>(by cases hx),aL _⟩
theorem TO{b:List Int}(h:Bytes b)(hl:b.length<=1000000000):YH (rb b,())/\(rb b).length<=5:=by have e:=auu 5 (bX (b,aQ,())).1 _ (iA (W4 h hl (aQ,()))).2.2;exact⟨e.1,e.2⟩
theorem aa6:∀(ks:List Int) (rest:List Int),TX ks->mJ ks.length (ks.flatMap gV++rest,aQ,())=(ks,(rest,aQ,()))
 |[],rest,_=>rfl
 |k::ks,rest,h=>by
  have e:oo ((k::ks).flatMap gV++rest,aQ,())=(k,(ks.flatMap gV++rest,aQ,())):=by rw[cI,aC];exact w7 k (h k bf) _
  have ih:=aa6 ks rest λx hx=>h x (aV _ hx)
  rw[aE,mJ,e,ih]
theorem aaE(b:mr)(hb:atT b)(hk:aBk b)(rest:List Int):oZ b.1.length (b.1.flatMap gV++(fe b.2.1++(fe b.2.2.1++(gV b.2.2.2.1++rest))),aQ,())=(b,(rest,aQ,())):=by unfold oZ;rw[aa6 _ _ hb.1];simp only[];rw[y6 _ hk.af,y6 _ hk.dl,w7 _ hb.2]
theorem afY(b:mr)(rest:List Int):apE b++rest=fe b.1.length++(b.1.flatMap gV++(fe b.2.1++(fe b.2.2.1++(gV b.2.2.2.1++rest)))):=by unfold apE;simp only[aC]
theorem af0:∀(bs:List mr) (f:Nat) (rest:List Int),(∀b∈bs,atT b)->(∀b∈bs,aBk b)->bs.length+1<=f->Cd f bs.length (bs.flatMap apE++rest,aQ,())=bs
 |[],0,rest,_,_,h=>absurd h (by simp)
 |[],f+1,rest,_,_,_=>by rw[Cd,if_neg (by show ¬(0:Int) < ((0:Nat):Int);omega)]
 |b::bs,0,rest,_,_,h=>absurd h (by simp)
 |b::bs,f+1,rest,hu,hk,h=>by
  have ub:=hu b bf;have kb:=hk b bf;have h:bs.length+1+1<=f+1:=h;have e:(b::bs).flatMap apE++rest=fe b.1.length++(b.1.flatMap gV++(fe b.2.1++(fe b.2.2.1++(gV b.2.2.2.1++(bs.flatMap apE++rest))))):=by rw[cI,aC,afY]
  have Q3:=kb.len;rw[Cd,if_pos (by rw[aE];omega),e,y6 _ (lC ak)];simp only[aa];rw[if_neg ak,aaE b ub kb];simp only[];rw[show((b::bs).length:Int) - 1=(bs.length:Int) by rw[aE];omega,af0 bs f rest (λx hx=>hu x (aV _ hx)) (λx hx=>hk x (aV _ hx)) ak]
theorem asD{l:Lk}(hu:YH l)(gT:og l=aW)(rest:List Int):rb (EO l++rest)=l.1:=by have hk:=adw gT;unfold rb;rw[ak8 gT,aC,y6 _ (lC ak)];exact af0 l.1 5 rest hu hk.1 ak
def qA(b:List Int):Lk×Bool:=if og (rb b,())=aW/\EO (rb b,())=b then((rb b,()),aW) else(([],()),aQ)
theorem CQ{l:Lk}(hu:YH l)(gT:og l=aW):qA (EO l)=(l,aW):=by
 have e:rb (EO l)=l.1:=by have e:=asD hu gT [];rw[bn]at e;exact e
 unfold qA;rw[e];have e2:((l.1,()):Lk)=l:=rfl;rw[e2,if_pos ⟨gT,rfl⟩]
theorem W5{b:List Int}(h:(qA b).2=aW):∃l:Lk,og l=aW/\EO l=b/\qA b=(l,aW)/\l=(rb b,()):=by
 unfold qA at h ⊢;split at h
 ·rename_i hc;exact⟨(rb b,()),hc.1,hc.2,by rw[if_pos hc],rfl⟩
 ·cases h
theorem axs{b:List Int}(h:(qA b).2=aQ):qA b=(([],()),aQ):=by
 unfold qA at h ⊢;split at h
 ·cases h
 ·rename_i hc;rw[if_neg hc]
abbrev UY:=Bs×Int×Int×Nat×dQ×(List mr)
abbrev KG:=Bs×Int×Int×Int×Int×Nat×Nat×(Int×(Int×(Int×Unit)))×dQ×(List Int)×(List mr)
abbrev UZ:=Nat×dQ×(List Int)
def xV:KG->UZ->((Bs×Int×Int×Nat×(Int×(Int×(Int×Unit)))×(List mr))×(Nat×dQ×(List Int))):=λ(xu,vg,eI,t27,t28,sZ,aAf,n8,abh,aC0,xw) y=>((xu,vg,eI,sZ,n8,xw),y)
def adC:KG->Prop:=λ(b,n,i,t,j,m1,m2,x,r,ks,bs)=>jo r/\ks.length=m2/\m2<=1000/\∃k c:Nat,j=k/\t=c/\k<=c/\c<=12/\m2=k
def Dp:KG->UZ:=λ(b,n,i,t,j,m1,m2,x,r,ks,bs)=>(m2+(t - j).toNat,(mJ (t - j).toNat r).2,ks++(mJ (t - j).toNat r).1)
def adA:UY->Prop:=λ(b,n,i,m,r,bs)=>jo r/\n<=9223372036854775807/\bs.length=m/\∃k:Nat,i=k/\k<=4/\m=k
def yX:UY->(Bs×Nat×(List mr)):=λ(b,n,i,m,r,bs)=>(b,m+(Cd (5 - i.toNat) (n - i) r).length,bs++Cd (5 - i.toNat) (n - i) r)
def aqO:Bs->Prop:=λb=>Bytes b/\b.length<=1000000000
def adz:Bs->(Lk×Bool):=λb=>qA b
def pg:Ls adA bm yX:=oP (λ(fI,n,i,adJ,aqX,aoK)=>⟨([.d tB fI,bK,dX 2,bK,dX 11,dX 5,.d ti n,.d ti i]++a9 57 []),[],([[],[],cH (.pr (.cw) YQ),[],[],cH (.pr (iw 51 adJ) YQ)]++bC 5 ([cH (.d gK aqX)]++bC 39 ([cH (.vec 69 gW aoK)]++bC 13 [])))⟩) (λx=>(.exit 0,⟨([.d tB x.1,bK,dX 2,bK,bK,dX 5]++a9 59 []),[],([[],[],cH (.pr (.cw) YQ),[],[],cH (.pr (iw 51 x.2.1) YQ)]++bC 45 ([cH (.vec 69 gW x.2.2)]++bC 13 []))⟩))
def tD:Ls adC xV Dp:=oP (λ(xu,vg,eI,t27,t28,sZ,aAf,n8,abh,aC0,xw)=>⟨([.d tB xu,bK,dX 2,bK,dX 11,dX 5,.d ti vg,.d ti eI,dX 8]++a9 18 ([.d ti t27,.d ti t28]++a9 36 [])),[],([[],[],cH (.pr (.cw) YQ),[],[],cH (.pr (iw 51 sZ) YQ),[],[],cH (.pr (iw 35 aAf) (.d (.pair ti (.pair ti (.pair tu .unit))) n8)),[],[],cH (.d gK abh)]++bC 23 ([cH (.vec 48 tu aC0)]++bC 15 ([cH (.vec 69 gW xw)]++bC 13 [])))⟩) (λx=>(.exit 2,⟨([.d tB x.1.1,bK,dX 2,bK,dX 11,dX 5,.d ti x.1.2.1,.d ti x.1.2.2.1,dX 8]++a9 56 []),[],([[],[],cH (.pr (.cw) YQ),[],[],cH (.pr (iw 51 x.1.2.2.2.1) YQ),[],[],cH (.pr (iw 35 x.2.1) (.d (.pair ti (.pair ti (.pair tu .unit))) x.1.2.2.2.2.1)),[],[],cH (.d gK x.2.2.1)]++bC 23 ([cH (.vec 48 tu x.2.2.2)]++bC 15 ([cH (.vec 69 gW x.1.2.2.2.2.2)]++bC 13 [])))⟩))
def yW:Fs Tryz.prog aqO bm adz:=fg 34 Tryz.f34 (λb=>([.d tB b],[])) (λx=>⟨.cons (.d zV x.1) (.cons (.d .bool x.2) (.nil)),[],[]⟩) [aw tB] [aiE,TP,ao9,PB,aa7,ay6] {loops:=oN [(5,{aY:=[0,2,4,5,6,7],sites:=[2,5,11,51],owns:=[⟨5,[.fst],51,51⟩]}),(11,{aY:=[0,2,4,5,6,7,8,27,28],sites:=[2,5,8,11,35,51],owns:=[⟨8,[.fst],35,67⟩]})],outs:=oM [(5,{aY:=[0,2,5],sites:=[2,5,51]},{aY:=[2,3]}),(11,{aY:=[0,2,4,5,6,7,8],sites:=[2,5,8,11,35,51]},{aY:=[2,3]})],fE:=pX [(5,pg.E),(11,tD.E)],res:=[aw zV,aF]}
theorem adB:pg.RS:=rL [.d tB,.d ti,.d ti,.n,.d gK,.d (.slice gW)] pg
theorem Bh(fI n i adJ aqX aoK)(kn:K2 R)(kx:K3 R):yW.R 0 pg (fI,n,i,adJ,aqX,aoK) kn kx=aG (fV i n) (aj (BU.call aqX) λFJ=>aG (wD i 4) (pg.go kx (fI,adJ,aoK)) (aG (xS FJ.1 12) (pg.go kx (fI,adJ,aoK)) (aj (tD.call (fI,n,i,FJ.1,0,adJ,0,(0,(0,(0,()))),FJ.2,([]:List Int),aoK)) λFy=>aj (BU.call Fy.2.2.1) λajP=>aj (BU.call ajP.2) λI5=>aj (NX.call I5.2) λaGo=>aG (decide (0=0/\(0+Fy.2.1)<=(ae Fy.2.2.2))) (aG (decide (Fy.1.2.2.2.1<=(ae Fy.1.2.2.2.2.2))) (aG (db (Fy.1.2.2.2.1+1) 48) (kn (pg.st (Fy.1.1,Fy.1.2.1,(bB .i64 Fy.1.2.2.1 1),(Fy.1.2.2.2.1+1),aGo.2,((aP Fy.1.2.2.2.1 Fy.1.2.2.2.2.2)++ [((cut Fy.2.2.2 0 Fy.2.1),(ajP.1,(I5.1,(aGo.1,Fy.1.2.2.2.2.1.2.2.2))))])))) aF) aF) aF))) (pg.go kx (fI,adJ,aoK)):=cK
theorem adD:tD.RS:=rL [.d tB,.d ti,.d ti,.d ti,.d ti,.n,.n,.d (.pair ti (.pair ti (.pair tu .unit))),.d gK,.d tU,.d (.slice gW)] tD
theorem Jj(xu vg eI t27 t28 sZ aAf n8 abh aC0 xw)(kn:K2 R)(kx:K3 R):yW.R 1 tD (xu,vg,eI,t27,t28,sZ,aAf,n8,abh,aC0,xw) kn kx=aG (fV t28 t27) (aj (NX.call abh) λx4=>aG (decide (aAf<=(ae aC0))) (aG (db (aAf+1) 8) (kn (tD.st (xu,vg,eI,t27,(bB .i64 t28 1),sZ,(aAf+1),n8,x4.2,((aP aAf aC0)++ [x4.1]),xw))) aF) aF) (tD.go kx ((xu,vg,eI,sZ,n8,xw),(aAf,abh,aC0))):=cK
theorem awb(b)(k:K1 R):yW.A b k=aj (R8.call b) λx4=>aj (BU.call x4) λx6=>aj (pg.call (b,x6.1,0,0,x6.2,([]:List mr))) λan4=>aG (decide (0=0/\(0+an4.2.1)<=(ae an4.2.2))) (aj (sE.call ((cut an4.2.2 0 an4.2.1),())) λaDA=>aG (!aDA) (k (yW.out ((([]:List mr),()),aQ))) (aG (decide (0=0/\(0+an4.2.1)<=(ae an4.2.2))) (aj (sD.call ((cut an4.2.2 0 an4.2.1),())) λaDB=>aj (OW.call (aDB,an4.1)) λaDC=>aG (!aDC) (k (yW.out ((([]:List mr),()),aQ))) (aG (decide (0=0/\(0+an4.2.1)<=(ae an4.2.2))) (k (yW.out (((cut an4.2.2 0 an4.2.1),()),aW))) aF)) aF)) aF:=cK
theorem ag0:(yW.j8 1 tD):=by
 refine(yW.lX 1 tD) (λ(b,n,i,t,j,m1,m2,x,r,ks,bs)=>(t - j).toNat) ?_
 rintro⟨b,n,i,t,j,m1,m2,x,r,ks,bs⟩ ⟨hr,aBC,hm,k,c,rfl,rfl,aJU,hc,akI⟩;have hr:jo r:=hr;have aBC:ks.length=m2:=aBC;have akI:m2=k:=akI;by_cases h:k < c
 ·left;have e1:((c:Int) - (k:Int)).toNat=(c - (k+1))+1:=ak;have e2:((c:Int) - ((k+1:Nat):Int)).toNat=c - (k+1):=ak;refine⟨(b,n,i,(c:Int),((k+1:Nat):Int),m1,m2+1,x,(oo r).2,ks++ [(oo r).1],bs),⟨(B5 hr).2,by rw[ai];show ks.length+1=_;omega,ak,k+1,c,rfl,rfl,ak,hc,ak⟩,by show((c:Int) - ((k+1:Nat):Int)).toNat < ((c:Int) - (k:Int)).toNat;omega,?_,λkn kx=> ?_⟩
  ·simp only[xV,Dp,e1,e2,mJ,aC,bQ];rw[show m2+1+(c - (k+1))=m2+(c - (k+1)+1) by omega]
  ·rw[Jj,aU ak,Hu (d:=r) hr];simp only[ah,ao,bm,Qq];rw[aI ak,cV ak ak,N.ot ak,bg ak];rfl
 ·right;obtain rfl:k=c:=ak;intro R kn kx;rw[Jj,aT ak,au];simp only[xV,Dp,Int.sub_self,aS,mJ,bn,bM]
theorem agZ:(yW.j8 0 pg):=by
 refine(yW.lX 0 pg) (λ(b,n,i,m,r,bs)=>5 - i.toNat) ?_
 rintro⟨b,n,i,m,r,bs⟩ ⟨hr,hn,aEK,k,rfl,hk,akI⟩;have hr:jo r:=hr;have hn:n<=9223372036854775807:=hn;have aEK:bs.length=m:=aEK;have akI:m=k:=akI;have e0:5 - (k:Int).toNat=(4 - k)+1:=by rw[aa];omega
 have g1:=iA hr;by_cases h:(k:Int) < n
 ·have hp:0 < n - (k:Int):=ak;by_cases hc:4 - k=0\/12 < (bX r).1
  ·right;intro R kn kx;have eb:Cd ((4 - k)+1) (n - (k:Int)) r=[]:=by rw[Cd,if_pos hp,if_pos hc]
   rw[Bh,aU h,pz (d:=r) hr];simp only[ah,ao,bm,vz,bm,yX,e0,eb,bj,bM,bn];by_cases h4:(k:Int)=4
   ·rw[dJ h4,ao]
   ·rw[fj h4,au,dk ak,ao]
  ·left;have h4:¬(k:Int)=4:=ak;have aJV:¬(bX r).1 > 12:=ak;obtain⟨c,aEO⟩:∃c:Nat,(bX r).1=c:=⟨(bX r).1.toNat,ak⟩;have afC:=Tp c _ g1.2.2;have gk:=TB c _ g1.2.2;have ga:=iA gk.2.2;have gd:=iA ga.2.2;have eb:Cd ((4 - k)+1) (n - (k:Int)) r=(oZ c (bX r).2).1::Cd (4 - k) (n - (k:Int) - 1) (oZ c (bX r).2).2:=by rw[Cd,if_pos hp,if_neg hc,aEO,aa]
   have e1:5 - ((k+1:Nat):Int).toNat=4 - k:=by rw[aa];omega
   refine⟨(b,n,((k+1:Nat):Int),m+1,(oZ c (bX r).2).2,bs++ [(oZ c (bX r).2).1]),⟨afC.2.2,hn,by rw[ai];show bs.length+1=_;omega,k+1,rfl,ak,ak⟩,by simp only[aa];omega,?_,λkn kx=> ?_⟩
   ·simp only[bm,yX,e0,e1,eb,aC,bQ,aE];rw[show n - ((k+1:Nat):Int)=n - (k:Int) - 1 by omega,show m+1+(Cd (4 - k) (n - (k:Int) - 1) (oZ c (bX r).2).2).length=m+((Cd (4 - k) (n - (k:Int) - 1) (oZ c (bX r).2).2).length+1) by omega]
   ·rw[Bh,aU h,pz (d:=r) hr];simp only[ah,ao,bm,vz];rw[fj h4,au,cJ aJV,au,aEO,adD (d:=(b,n,(k:Int),(c:Int),0,m,0,(0,0,0,()),(bX r).2,[],bs)) ⟨g1.2.2,rfl,gw,0,c,rfl,rfl,aL _,ak,rfl⟩];simp only[ah,xV,Dp,iK,aa,aH,aO];rw[pz (d:=(mJ c (bX r).2).2) gk.2.2];simp only[ah,bm,vz];rw[pz (d:=(bX (mJ c (bX r).2).2).2) ga.2.2];simp only[ah,bm,vz];rw[Hu (d:=(bX (bX (mJ c (bX r).2).2).2).2) gd.2.2];simp only[ah,bm,Qq];rw[aI ⟨by trivial,by rw[gk.2.1];exact az _⟩,aI ak,cV ak ak,N.ot ak,bg ak,dw gk.2.1];rfl
 ·right;intro R kn kx;have eb:Cd ((4 - k)+1) (n - (k:Int)) r=[]:=by rw[Cd,if_neg ak]
  rw[Bh,aT h,au];simp only[bm,yX,e0,eb,bj,bM,bn]
theorem awc:yW.Ok:=by
 rintro b ⟨hb,hl⟩;have hb:Bytes b:=hb;have hl:b.length<=1000000000:=hl;have g0:=W4 hb hl (aQ,());have g1:=iA g0;have gu:=TO hb hl;rw[awb,abV (d:=b) hl];simp only[ah,bm,aeN];rw[pz (d:=(b,aQ,())) g0];simp only[ah,bm,vz];rw[adB (d:=(b,(bX (b,aQ,())).1,0,0,(bX (b,aQ,())).2,[])) ⟨g1.2.2,g1.2.1,rfl,0,rfl,gw,rfl⟩];simp only[ah,bm,yX,aS,nu,iK,aH,aO,az,eW,bA,ao,dw];rw[show Cd 5 (bX (b,aQ,())).1 (bX (b,aQ,())).2=rb b from rfl];have hL1:((rb b,()):Lk).1.length<=1000000000:=by show(rb b).length<=_;omega
 rw[KI (d:=(rb b,())) ⟨gu.1,Nat.le_trans hL1 gw⟩];simp only[ah,bm,Gg,bm,adz,qA];cases gT:og (rb b,())
 ·rw[if_neg (by rintro⟨x,_⟩;cases x)];rfl
 ·rw[UQ (d:=(rb b,())) ⟨gu.1,Nat.le_trans hL1 gw⟩];simp only[cd,au,ah,bm,MK];rw[auh (d:=(EO (rb b,()),b)) (by show(EO _).length<=_;have:=Dk (rb b,());omega)];simp only[ah,bm,aj9];by_cases hx:EO (rb b,())=b
  ·rw[aI hx,if_pos ⟨by trivial,hx⟩];rfl
  ·rw[aJ hx,if_neg (λy=>hx y.2)];rfl
theorem aqP:yW.RS:=rE [.d tB] yW
def awd:=yW.fh awc 2 ⟨.fD agZ,⟨.fD ag0,trivial⟩⟩
def WI:(Int×Int×Int)->Prop:=λ(a,b,o)=>Pn a/\iN b/\Pn o
def Ea:(Int×Int×Int)->Int:=λ(a,b,o)=>(o+a*b)%4611686018427377339
def aii:(Int×Int)->Prop:=λ(a,b)=>Pn a/\iN b
def abG:(Int×Int)->Int:=λ(a,b)=>mS a b
def mh:Ls WI bm Ea:=oP (λ(oY,fI,outv)=>⟨([.d tu oY,.d tu fI,bK,bK,bK,.d tu outv]++a9 16 []),[],(ag 22 [])⟩) (λx=>(.exit 0,⟨(a9 5 ([.d tu x]++a9 16 [])),[],(ag 22 [])⟩))
def qi:Fs Tryz.prog aii bm abG:=fg 147 Tryz.f147 (λ(a,b)=>([.d tu a,.d tu b],[])) (λx=>⟨.d tu x,[],[]⟩) [aw tu,aw tu] [] {loops:=oN [(2,{aY:=[0,1,5]})],outs:=oM [(2,{aY:=[5]},{aY:=[4]})],fE:=pX [(2,mh.E)]}
theorem WJ:mh.RS:=rL [.d tu,.d tu,.d tu] mh
theorem Fg(oY fI outv)(kn:K2 R)(kx:K3 R):qi.R 0 mh (oY,fI,outv) kn kx=aG (xS fI 0) (aG (wD (gN fI 2) 1) (kn (mh.st ((gN (bB .u64 oY oY) 4611686018427377339),(qG .u64 fI 2),(gN (bB .u64 outv oY) 4611686018427377339)))) (kn (mh.st ((gN (bB .u64 oY oY) 4611686018427377339),(qG .u64 fI 2),outv)))) (mh.go kx outv):=cK
theorem aml(a b)(k:K1 R):qi.A (a,b) k=aj (mh.call (a,b,0)) λx1=>k (qi.out x1):=cK
theorem aqn(o a b:Int)(m:Int):(o+a*b)%m=((if b%2=1 then(o+a)%m else o)+(a+a)%m*(b / 2))%m:=by
 have e:b=2*(b / 2)+b%2:=ak;have hb:b%2=0\/b%2=1:=ak;generalize b / 2=q at*;have l1:∀x y:Int,(x%m+(a+a)%m*y)%m=(x+(a+a)*y)%m:=λx y=>by rw[lk,fK _ (np m),gH,fK _ (np m),<-gH,<-lk]
 have l2:∀x y:Int,(x+(a+a)%m*y)%m=(x+(a+a)*y)%m:=λx y=>by rw[lk,gH,fK _ (np m),<-gH,<-lk]
 rcases hb with h | h
 ·rw[if_neg ak,l2];rw[h]at e;rw[e,Int.add_zero,Int.add_mul,<-lY,jG a 2,Int.two_mul,Int.add_mul]
 ·rw[if_pos h,l1];rw[h]at e;rw[e,Int.mul_add,sL,<-lY,jG a 2,Int.two_mul];congr 1;omega
theorem aBO{n:Int}(h:iN n):qG .u64 n 2=n / 2:=Tz h.1 ak h.2
theorem ZP:(qi.j8 0 mh):=by
 refine(qi.lX 0 mh) (λ(a,b,o)=>b.toNat) ?_
 rintro⟨a,b,o⟩ ⟨ha,hb,ho⟩;have ha:Pn a:=ha;have hb:iN b:=hb;have ho:Pn o:=ho;obtain⟨a0,a1⟩:=ha;obtain⟨b0,b1⟩:=hb;obtain⟨o0,o1⟩:=ho;by_cases h:0 < b
 ·left;have e1:gN (bB .u64 a a) 4611686018427377339=(a+a)%4611686018427377339:=by
   have:bB .u64 a a=a+a:=by rw[mu];omega
   rw[this,jJ ak]
  have e2:gN (bB .u64 o a) 4611686018427377339=(o+a)%4611686018427377339:=by
   have:bB .u64 o a=o+a:=by rw[mu];omega
   rw[this,jJ ak]
  refine⟨((a+a)%4611686018427377339,b / 2,if b%2=1 then(o+a)%4611686018427377339 else o),⟨⟨ak,ak⟩,⟨ak,ak⟩,?_⟩,by simp only[];omega,?_,λkn kx=> ?_⟩
  ·show Pn (if b%2=1 then(o+a)%4611686018427377339 else o);split
   ·exact⟨ak,ak⟩
   ·exact⟨o0,o1⟩
  ·exact c7 _ (aqn o a b 4611686018427377339).symm
  ·rw[Fg,dk h,e1,e2,aBO ⟨b0,b1⟩,jJ b0];by_cases h1:b%2=1
   ·rw[dJ h1,if_pos h1];rfl
   ·rw[fj h1,if_neg h1];rfl
 ·right;intro R kn kx;obtain rfl:b=0:=ak;rw[Fg,cJ ak];simp only[au,bm,Ea];rw[show(o+a*0)%4611686018427377339=o by omega]
theorem amm:qi.Ok:=by rintro⟨a,b⟩ ⟨ha,hb⟩;rw[aml,WJ (d:=(a,b,0)) ⟨ha,hb,ak,ak⟩];simp only[ah,bm,Ea,Int.zero_add];rfl
theorem G8:qi.RS:=rE [.d tu,.d tu] qi
def WK:=qi.fh amm 1 ⟨.fD ZP,trivial⟩
def WC:(Int×Int×Int)->Prop:=λ(a,n,o)=>Pn a/\iN n/\Pn o
def yn:(Int×Int×Int)->Int:=λ(a,n,o)=>afE 64 a n.toNat o
def aic:(Int×Int)->Prop:=λ(a,n)=>Pn a/\iN n
def arT:(Int×Int)->Int:=λ(a,n)=>pw a n.toNat
def mg:Ls WC bm yn:=oP (λ(oY,vg,outv)=>⟨([.d tu oY,.d tu vg,bK,bK,bK,.d tu outv]++a9 14 []),[],(ag 20 [])⟩) (λx=>(.exit 0,⟨(a9 5 ([.d tu x]++a9 14 [])),[],(ag 20 [])⟩))
def uo:Fs Tryz.prog aic bm arT:=fg 152 Tryz.f152 (λ(a,n)=>([.d tu a,.d tu n],[])) (λx=>⟨.d tu x,[],[]⟩) [aw tu,aw tu] [WK] {loops:=oN [(2,{aY:=[0,1,5]})],outs:=oM [(2,{aY:=[5]},{aY:=[4]})],fE:=pX [(2,mg.E)]}
theorem WD:mg.RS:=rL [.d tu,.d tu,.d tu] mg
theorem Ff(oY vg outv)(kn:K2 R)(kx:K3 R):uo.R 0 mg (oY,vg,outv) kn kx=aG (xS vg 0) (aG (wD (gN vg 2) 1) (aj (qi.call (outv,oY)) λx1=>aj (qi.call (oY,oY)) λx2=>kn (mg.st (x2,(qG .u64 vg 2),x1))) (aj (qi.call (oY,oY)) λx3=>kn (mg.st (x3,(qG .u64 vg 2),outv)))) (mg.go kx outv):=cK
theorem amc(a n)(k:K1 R):uo.A (a,n) k=aj (mg.call (a,n,1)) λx4=>k (uo.out x4):=cK
theorem ZO:(uo.j8 0 mg):=by
 refine(uo.lX 0 mg) (λ(a,n,o)=>n.toNat) ?_
 rintro⟨a,n,o⟩ ⟨ha,hn,ho⟩;have ha:Pn a:=ha;have hn:iN n:=hn;have ho:Pn o:=ho;have n0:=hn.1;have n1:=hn.2;by_cases h:0 < n
 ·left;have e:yn (a,n,o)=yn (mS a a,n / 2,if n%2=1 then mS o a else o):=by
   show afE 64 a n.toNat o=afE 64 (mS a a) (n / 2).toNat _;rw[VR 64 65 a n.toNat o ak ak];have t1:(n / 2).toNat=n.toNat / 2:=ak;have t2:(n%2=1)=(n.toNat%2=1):=by apply propext;omega
   rw[t1];simp only[t2];show(if n.toNat=0 then o else _)=_;rw[if_neg ak]
  refine⟨(mS a a,n / 2,if n%2=1 then mS o a else o),⟨vO a a,⟨ak,ak⟩,?_⟩,by show(n / 2).toNat < n.toNat;omega,?_,λkn kx=> ?_⟩
  ·show Pn (if n%2=1 then mS o a else o);split
   ·exact vO _ _
   ·exact ho
  ·exact c7 _ e.symm
  ·rw[Ff,dk h,aBO hn,jJ n0,G8 (d:=(o,a)) ⟨ho,ha.u⟩,G8 (d:=(a,a)) ⟨ha,ha.u⟩];by_cases h1:n%2=1
   ·rw[dJ h1,if_pos h1];rfl
   ·rw[fj h1,if_neg h1];rfl
 ·right;intro R kn kx;obtain rfl:n=0:=ak;rw[Ff,cJ ak];simp only[au,bm,yn];rw[show afE 64 a (ab 0) o=o from zf _ _ _]
theorem amd:uo.Ok:=by rintro⟨a,n⟩ ⟨ha,hn⟩;rw[amc,WD (d:=(a,n,1)) ⟨ha,hn,ak,ak⟩];rfl
theorem RW:uo.RS:=rE [.d tu,.d tu] uo
def WE:=uo.fh amd 1 ⟨.fD ZO,trivial⟩
def aid:Int->Prop:=λp=>iN p
def CN:Int->Bool:=λp=>vc p
def rY:Fs Tryz.prog aid bm CN:=fg 135 Tryz.f135 (λp=>([.d tu p],[])) (λx=>⟨.d .bool x,[],[]⟩) [aw tu] [WE]
theorem ame(p)(k:K1 R):rY.A p k=aG (B8 p 1) (aG (fV p 4611686018427377339) (aj (uo.call (p,2305843009213688669)) λx1=>k (rY.out (wD x1 1))) (k (rY.out aQ))) (k (rY.out aQ)):=cK
theorem amf:rY.Ok:=by
 intro(p:Int) hp;have hp:iN p:=hp;rw[ame];simp only[bm,CN,vc];by_cases h:0 < p
 ·rw[gf ak,ao];by_cases h2:p < 4611686018427377339
  ·rw[aU h2,ao,aI ⟨h,h2⟩,bI,RW (d:=(p,2305843009213688669)) ⟨⟨ak,h2⟩,by constructor <;> decide⟩];rfl
  ·rw[aT h2,au,aJ (λx=>h2 x.2),dG]
 ·rw[eH ak,au,aJ (λx=>h x.1),dG]
theorem G6:rY.RS:=rE [.d tu] rY
def WG:=rY.fh amf
def aih:Int->Prop:=λp=>iN p
def IE:Int->Int:=λp=>tk p
def vZ:Fs Tryz.prog aih bm IE:=fg 148 Tryz.f148 (λp=>([.d tu p],[])) (λx=>⟨.d tu x,[],[]⟩) [aw tu] [WG]
theorem amj(p)(k:K1 R):vZ.A p k=aj (rY.call p) λx1=>aG (x1) (k (vZ.out p)) (k (vZ.out 1)):=cK
theorem amk:vZ.Ok:=by intro p hp;rw[amj,G6 (d:=p) hp];simp only[ah,bm,CN,bm,IE,tk];cases vc p <;> rfl
theorem G7:vZ.RS:=rE [.d tu] vZ
def WH:=vZ.fh amk
def aie:(Int×Int)->Prop:=λ(p,k)=>iN p/\iN k
def arU:(Int×Int)->Int:=λ(p,k)=>BW p k
def D9:Fs Tryz.prog aie bm arU:=fg 149 Tryz.f149 (λ(p,kv)=>([.d tu p,.d tu kv],[])) (λx=>⟨.d tu x,[],[]⟩) [aw tu,aw tu] [WH,WE]
theorem amg(p kv)(k:K1 R):D9.A (p,kv) k=aj (vZ.call p) λx1=>aj (uo.call (x1,(gN kv 2305843009213688669))) λx2=>k (D9.out x2):=cK
theorem amh:D9.Ok:=by rintro⟨p,k⟩ ⟨hp,hk⟩;have hk:iN k:=hk;have e:=jJ (y:=2305843009213688669) hk.1;have b:iN (k%2305843009213688669):=⟨ak,ak⟩;rw[amg,G7 (d:=p) hp,e];simp only[ah,bm,IE];rw[RW (d:=(tk p,k%2305843009213688669)) ⟨X3 p,b⟩];rfl
theorem aif:D9.RS:=rE [.d tu,.d tu] D9
def ami:=D9.fh amh
def amb:Int->Prop:=λk=>iN k
def WA:Int->Int:=λk=>iX k
def G5:Fs Tryz.prog amb bm WA:=fg 130 Tryz.f130 (λkv=>([.d tu kv],[])) (λx=>⟨.d tu x,[],[]⟩) [aw tu] [ami]
theorem arQ(kv)(k:K1 R):G5.A kv k=aj (D9.call (4,kv)) λx1=>k (G5.out x1):=cK
theorem arR:G5.Ok:=by intro k hk;rw[arQ,aif (d:=(4,k)) ⟨⟨ak,ak⟩,hk⟩];rfl
theorem WB:G5.RS:=rE [.d tu] G5
def arS:=G5.fh arR
theorem aBa(p q:Int):En [p,q]=mS (tk p) (tk q):=by
 show mS (mS 1 (tk p)) (tk q)=_;have:mS 1 (tk p)=tk p:=by have h:=X3 p;unfold mS;rw[Int.one_mul];exact dU h.1 h.2
 rw[this]
def arO:(Int×Int)->Prop:=λ(p,q)=>iN p/\iN q
def aeA:(Int×Int)->Int:=λ(p,q)=>En [p,q]
def Wz:Fs Tryz.prog arO bm aeA:=fg 129 Tryz.f129 (λ(p,q)=>([.d tu p,.d tu q],[])) (λx=>⟨.d tu x,[],[]⟩) [aw tu,aw tu] [WH,WK]
theorem aw8(p q)(k:K1 R):Wz.A (p,q) k=aj (vZ.call p) λx1=>aj (vZ.call q) λx2=>aj (qi.call (x1,x2)) λx3=>k (Wz.out x3):=cK
theorem aw9:Wz.Ok:=by rintro⟨p,q⟩ ⟨hp,hq⟩;rw[aw8,G7 (d:=p) hp,G7 (d:=q) hq];simp only[ah,bm,IE];rw[G8 (d:=(tk p,tk q)) ⟨X3 p,(X3 q).u⟩];simp only[ah,bm,abG,bm,aeA,aBa]
theorem arP:Wz.RS:=rE [.d tu,.d tu] Wz
def axa:=Wz.fh aw9
def aia:Int->Prop:=λ_=>True
def abF:Int->Bool:=λa=>fV a 2305843009213688669
def D8:Fs Tryz.prog aia bm abF:=fg 128 Tryz.f128 (λa=>([.d tu a],[])) (λx=>⟨.d .bool x,[],[]⟩) [aw tu]
theorem al8(a)(k:K1 R):D8.A a k=k (D8.out (fV a 2305843009213688669)):=cK
theorem al9:D8.Ok:=by intro a _;rw[al8];rfl
theorem aib:D8.RS:=rE [.d tu] D8
def ama:=D8.fh al9
def ZL:(Bs×Int×Int)->Prop:=λ(h,n,i)=>acx.b n/\h.length=32/\Bytes h/\∃k:Nat,k<=32/\i=k
def AI:(Bs×Int×Int)->Int:=λ(h,n,i)=>(h.drop i.toNat).foldl (λn b=>(n*256+b)%2305843009213688668) n
def al6:Bs->Prop:=λh=>h.length=32/\Bytes h
def Wx:Bs->Int:=λh=>Af h
def qh:Ls ZL bm AI:=oP (λ(B7,n,i)=>⟨([bK,.dB tH B7,bK,.d tu n,.d ti i]++a9 25 []),[],(ag 30 [])⟩) (λx=>(.exit 0,⟨([bK,bK,bK,.d tu x]++a9 26 []),[],(ag 30 [])⟩))
def zu:Fs Tryz.prog al6 bm Wx:=fg 100 Tryz.f100 (λh=>([.d tH h],[])) (λx=>⟨.d tu x,[],[]⟩) [aw tH] [] {loops:=oN [(3,{aY:=[1,3,4]}),(6,{aY:=[1,3,4,5]})],outs:=oM [(3,{aY:=[3]},{aY:=[2]}),(6,{aY:=[1,3,4]},{aY:=[2]})],fE:=pX [(3,qh.E)]} 12
theorem ZM:qh.RS:=rL [.d tH,.d tu,.d ti] qh
theorem G4(B7 n i)(kn:K2 R)(kx:K3 R):zu.R 0 qh (B7,n,i) kn kx=aG (fV i 32) (aG (ei i 32) (aG (ei i 32) (aG (ei i 32) (aG (ei i 32) (aG (ei i 32) (aG (ei i 32) (aG (ei i 32) (aG (ei i 32) (kn (qh.st (B7,(gN (bB .u64 (eB .u64 2 (gN (bB .u64 (eB .u64 2 (gN (bB .u64 (eB .u64 2 (gN (bB .u64 (eB .u64 2 (gN (bB .u64 (eB .u64 2 (gN (bB .u64 (eB .u64 2 (gN (bB .u64 (eB .u64 2 (gN (bB .u64 (eB .u64 2 n) (cF .and .u64 (cl .u64 (dC .u64 (nth tb B7 (ab i))) 7) 1)) 2305843009213688668)) (cF .and .u64 (cl .u64 (dC .u64 (nth tb B7 (ab i))) 6) 1)) 2305843009213688668)) (cF .and .u64 (cl .u64 (dC .u64 (nth tb B7 (ab i))) 5) 1)) 2305843009213688668)) (cF .and .u64 (cl .u64 (dC .u64 (nth tb B7 (ab i))) 4) 1)) 2305843009213688668)) (cF .and .u64 (cl .u64 (dC .u64 (nth tb B7 (ab i))) 3) 1)) 2305843009213688668)) (cF .and .u64 (cl .u64 (dC .u64 (nth tb B7 (ab i))) 2) 1)) 2305843009213688668)) (cF .and .u64 (cl .u64 (dC .u64 (nth tb B7 (ab i))) 1) 1)) 2305843009213688668)) (cF .and .u64 (cl .u64 (dC .u64 (nth tb B7 (ab i))) 0) 1)) 2305843009213688668),(bB .i64 i 1)))) aF) aF) aF) aF) aF) aF) aF) aF) (qh.go kx n):=cK
theorem arK(h)(k:K1 R):zu.A h k=aj (qh.call (h,0,0)) λx1=>k (zu.out (bB .u64 x1 1)):=cK
theorem FT{c:Int}(hc:SB c)(k:Nat)(hk:k<=7):cF .and .u64 (cl .u64 (dC .u64 c) (k:Int)) 1=c / 2^k%2:=by
 obtain⟨h1,h2⟩:=hc;have e:dC .u64 c=c:=by rw[akS];omega
 have p:(0:Int) < 2^k:=Int.pow_pos ak;have q0:0<=c / 2^k:=Int.ediv_nonneg h1 ak;have q1:c / 2^k<=c:=Int.ediv_le_self _ h1;rw[e,uB k (by rfl) ak,aEm q0 ak]
theorem aum:∀c:Fin 256,(c.val:Int) / 2^7%2*128+(c.val:Int) / 2^6%2*64+(c.val:Int) / 2^5%2*32+(c.val:Int) / 2^4%2*16+(c.val:Int) / 2^3%2*8+(c.val:Int) / 2^2%2*4+(c.val:Int) / 2^1%2*2+(c.val:Int) / 2^0%2=(c.val:Int):=by decide+kernel
theorem aun{c:Int}(hc:SB c):c / 2^7%2*128+c / 2^6%2*64+c / 2^5%2*32+c / 2^4%2*16+c / 2^3%2*8+c / 2^2%2*4+c / 2^1%2*2+c / 2^0%2=c:=by obtain⟨n,rfl⟩:∃n:Nat,c=n:=⟨c.toNat,by have:=hc.1;omega⟩;exact aum ⟨n,by have:=hc.2;omega⟩
theorem apI{c:Int}(hc:SB c):∃d7 d6 d5 d4 d3 d2 d1 d0:Int,(0<=d7/\d7 < 2)/\(0<=d6/\d6 < 2)/\(0<=d5/\d5 < 2)/\(0<=d4/\d4 < 2)/\(0<=d3/\d3 < 2)/\(0<=d2/\d2 < 2)/\(0<=d1/\d1 < 2)/\(0<=d0/\d0 < 2)/\cF .and .u64 (cl .u64 (dC .u64 c) 7) 1=d7/\cF .and .u64 (cl .u64 (dC .u64 c) 6) 1=d6/\cF .and .u64 (cl .u64 (dC .u64 c) 5) 1=d5/\cF .and .u64 (cl .u64 (dC .u64 c) 4) 1=d4/\cF .and .u64 (cl .u64 (dC .u64 c) 3) 1=d3/\cF .and .u64 (cl .u64 (dC .u64 c) 2) 1=d2/\cF .and .u64 (cl .u64 (dC .u64 c) 1) 1=d1/\cF .and .u64 (cl .u64 (dC .u64 c) 0) 1=d0/\d7*128+d6*64+d5*32+d4*16+d3*8+d2*4+d1*2+d0=c:=by
 have z:∀x:Int,0<=x%2/\x%2 < 2:=λx=>ak
 exact⟨c / 2^7%2,c / 2^6%2,c / 2^5%2,c / 2^4%2,c / 2^3%2,c / 2^2%2,c / 2^1%2,c / 2^0%2,z _,z _,z _,z _,z _,z _,z _,z _,FT hc 7 ak,FT hc 6 ak,FT hc 5 ak,FT hc 4 ak,FT hc 3 ak,FT hc 2 ak,FT hc 1 ak,FT hc 0 ak,aun hc⟩
theorem FU{n b:Int}(hn:acx.b n)(hb:0<=b/\b < 2):gN (bB .u64 (eB .u64 2 n) b) 2305843009213688668=(2*n+b)%2305843009213688668/\acx.b ((2*n+b)%2305843009213688668):=by
 obtain⟨h1,h2⟩:=hn;have e:bB .u64 (eB .u64 2 n) b=2*n+b:=by rw[vI,mu];omega
 rw[e,jJ ak];exact⟨rfl,ak,ak⟩
theorem aks(n c d7 d6 d5 d4 d3 d2 d1 d0:Int)(M:Int)(h:d7*128+d6*64+d5*32+d4*16+d3*8+d2*4+d1*2+d0=c):
  (2*((2*((2*((2*((2*((2*((2*((2*n+d7)%M)+d6)%M)+d5)%M)+d4)%M)+d3)%M)+d2)%M)+d1)%M)+d0)%M=(n*256+c)%M:=by
 have l:∀x b:Int,(2*(x%M)+b)%M=(2*x+b)%M:=λx b=>by rw[lk,gH,fK _ (np M),<-gH,<-lk]
 simp only[l];have e:2*(2*(2*(2*(2*(2*(2*(2*n+d7)+d6)+d5)+d4)+d3)+d2)+d1)+d0=n*256+c:=ak;rw[e]
theorem aew:(zu.j8 0 qh):=by
 refine(zu.lX 0 qh) (λ(h,n,i)=>32 - i.toNat) ?_
 rintro⟨h,n,i⟩ ⟨hn,hl,hb,k,hk,rfl⟩;have hn:acx.b n:=hn;have hl:h.length=32:=hl;have hb:Bytes h:=hb;by_cases jQ:k < 32
 ·left;have hx:SB (h[k]'(ak)):=hb _ (ba _);have n1:nth (.int .u8) h k=h[k]'(ak):=cC (t:= .int .u8) ak;refine⟨(h,(n*256+h[k]'(ak))%2305843009213688668,((k+1:Nat):Int)),⟨⟨ak,ak⟩,hl,hb,k+1,ak,rfl⟩,by simp only[aa];omega,?_,λkn kx=> ?_⟩
  ·simp only[bm,AI,aa];rw[aq (by omega:k < h.length)];rfl
  ·rw[G4];generalize hc:h[k]'(ak)=c at hx n1;obtain⟨d7,d6,d5,d4,d3,d2,d1,d0,z7,z6,z5,z4,z3,z2,z1,z0,b7,b6,b5,b4,b3,b2,b1,b0,Be⟩:=apI hx;obtain⟨f7,g7⟩:=FU hn z7;obtain⟨f6,g6⟩:=FU g7 z6;obtain⟨f5,g5⟩:=FU g6 z5;obtain⟨f4,g4⟩:=FU g5 z4;obtain⟨f3,g3⟩:=FU g4 z3;obtain⟨f2,g2⟩:=FU g3 z2;obtain⟨f1,g1⟩:=FU g2 z1;obtain⟨f0,g0⟩:=FU g1 z0;have e8:=aks n c _ _ _ _ _ _ _ _ 2305843009213688668 Be;have hi:fV (k:Int) 32=aW:=aU ak;have azF:ei (k:Int) 32=aW:=bo ak ak;have ha:bB .i64 (k:Int) 1=((k+1:Nat):Int):=by rw[iC ak ak];omega
   simp only[hi,azF,ha,ao,aa,n1,b7,b6,b5,b4,b3,b2,b1,b0,f7,f6,f5,f4,f3,f2,f1,f0,e8]
 ·right;obtain rfl:k=32:=ak;intro R kn kx;rw[G4];simp(disch:=omega) only[↓S1,↓if_pos,↓if_neg,if_pos,if_neg,bN,bz,S2,bm,AI];rw[dh ak];rfl
theorem arL:zu.Ok:=by
 rintro h ⟨hl,hb⟩;have e:=Uy h 0 ⟨ak,ak⟩;have h1:=e.1;have h2:=e.2;rw[arK,ZM (d:=(h,0,0)) ⟨⟨ak,ak⟩,hl,hb,0,ak,rfl⟩];simp only[ah,bm,AI,bm,Wx,Af,aS,aM]
 revert h1 h2
 generalize h.foldl (λn b=>(n*256+b)%2305843009213688668) 0=m;intro h1 h2;have e:bB .u64 m 1=m+1:=by rw[mu];omega
 rw[e]
theorem Wy:zu.RS:=rE [.d tB] zu
def abE:=zu.fh arL 2 ⟨.fD aew,⟨.none cK,trivial⟩⟩
def ail:Int->Prop:=λn=>iN n
def abI:Int->Bs:=λn=>gV n
def AJ:Fs Tryz.prog ail bm abI:=fg 150 Tryz.f150 (λp=>([.d tu p],[])) (λx=>⟨.d tB x,[],[]⟩) [aw tu] [Xf] {res:=[aw tB]}
theorem amq(p)(k:K1 R):AJ.A p k=aj (Hp.call p) λx1=>aG (decide (0=0/\(0+x1.1)<=(ae x1.2))) (k (AJ.out (cut x1.2 0 x1.1))) aF:=cK
theorem amr:AJ.Ok:=by intro n hn;rw[amq,Qd (d:=n) hn];simp only[ah,bm,aeM,bT,aH,az,eW,bA,ao];rw[dw (bT _)];rfl
theorem RX:AJ.RS:=rE [.d tu] AJ
def ams:=AJ.fh amr
def aij:(Int×Int×Bs)->Prop:=λ(r,p,m)=>iN r/\iN p/\Sm m
def abH:(Int×Int×Bs)->Int:=λ(r,p,m)=>wB r p m
def Eb:Fs Tryz.prog aij bm abH:=fg 131 Tryz.f131 (λ(r,p,m)=>([.d tu r,.d tu p,.d tH m],[])) (λx=>⟨.d tu x,[],[]⟩) [aw tu,aw tu,aw tH] [ams,aeO,abE]
theorem amn(r p m)(k:K1 R):Eb.A (r,p,m) k=aj (AJ.call r) λx1=>aj (AJ.call p) λx2=>aj (Ti.call ((⟨#[115,105,103]⟩:ByteArray),[x1,x2,(cut m 0 32)])) λx3=>aj (zu.call x3) λx4=>k (Eb.out x4):=cK
theorem amo:Eb.Ok:=by rintro⟨r,p,m⟩ ⟨hr,hp,hm⟩;have hm:Sm m:=hm;have aJ1:Xn ((⟨#[115,105,103]⟩:ByteArray),[gV r,gV p,m]):=aji gw (by rw[bT];omega) (by rw[bT];omega) (by rw[hm.1];omega);rw[amn,RX (d:=r) hr,RX (d:=p) hp];simp only[ah,bm,abI];rw[dw hm.1,Xo aJ1];simp only[ah,bm,am8];rw[Wy (d:=tag (bw (⟨#[115,105,103]⟩:ByteArray)) [gV r,gV p,m]) (Qz _ _)];rfl
theorem aik:Eb.RS:=rE [.d tu,.d tu,.d tB] Eb
def amp:=Eb.fh amo
abbrev pt:=mr×Int
def jx:pt->AS:=λ(fI,i)=>⟨([bK,.dB gW fI,bK,.d ti i]++a9 50 []),[],(ag 54 [])⟩
def ke:Unit->Exit×AS:=λx=>(.ret,⟨([bK,bK,.d .bool aQ]++a9 51 []),[],(ag 54 [])⟩)
def qd:mr->Exit×AS:=λx=>(.exit 0,⟨([bK,.dB gW x]++a9 52 []),[],(ag 54 [])⟩)
abbrev zh:=(Unit)⊕(mr)
abbrev GD:=(Unit)⊕(Unit)
def vo:zh->Out (Exit×AS):=λx=> .br x.isLeft (.get x.getLeft? λa=> .ok (ke a)) (.get x.getRight? λb=> .ok (qd b))
def gO:pt->GD->zh:=λ(fI,i) y=>match y with | .inl y=> .inl y | .inr z=> .inr (fI)
def qc:pt->Prop:=λ(b,i)=>atT b/\b.1.length<=1000000000/\∃k:Nat,k<=b.1.length/\i=k
def jb:pt->GD:=λ(b,i)=>if(b.1.drop i.toNat).all vc then .inr () else .inl ()
def Zm:mr->Prop:=λb=>atT b
def GB:mr->Bool:=λb=>xG b
def GC:=eu.fD jx qc gO jb vo
def Ay:pt->Option zh:=jq GC jx
def gA:Fs Tryz.prog Zm bm GB:=fg 108 Tryz.f108 (λb=>([.d gW b],[])) (λx=>⟨.d .bool x,[],[]⟩) [aw gW] [WG] {loops:=oN [(4,{aY:=[1,3]})],outs:=oM [(4,{aY:=[1]},{aY:=[2]})],fE:=pX [(4,GC)]}
def zg:= @fO Tryz.prog (oc gA.G) gA.an 0 Tryz.f108 0 _ jx
abbrev ES:=oT Tryz.prog (oc gA.G) gA.an 0 Tryz.f108 0 jx qc gO jb vo
theorem PQ:nw Ay qc gO jb:=qL (qF [.d gW,.d ti] λ_=>cK)
theorem FG:qN @zg jx qc gO jb vo ES:=sk
theorem Az(fI i)(kn:K2 R)(kx:K3 R):zg (fI,i) kn kx=aG (fV i (((ae fI.1):Nat):Int)) (aG (ei i (((ae fI.1):Nat):Int)) (aj (rY.call (nth tu fI.1 (ab i))) λx1=>aG (!x1) (kx (ke ()).1 (ke ()).2) (kn (jx (fI,(bB .i64 i (1:Int)))))) aF) (kx (qd fI).1 (qd fI).2):=cK
theorem ad9(b)(k:K1 R):gA.A b k=aG (xS (b.1.length:Int) 12) (k (gA.out aQ)) (aG (fV b.2.1 0) (k (gA.out aQ)) (aG (xS b.2.1 1048576) (k (gA.out aQ)) (aG (fV b.2.2.1 0) (k (gA.out aQ)) (aG (xS b.2.2.1 1048576) (k (gA.out aQ)) (aj (Ay (b,0)) λx2=>aG x2.isLeft (aj x2.getLeft? λa3=>k (gA.out aQ)) (aj x2.getRight? λb4=>aj (rY.call b4.2.2.2.1) λx5=>aG (wD b4.2.2.2.1 0) (k (gA.out aW)) (k (gA.out x5)))))))):=cK
theorem SM:ES:=by
 refine FG (λ(b,i)=>b.1.length - i.toNat) ?_
 rintro⟨b,i⟩ ⟨hb,hl,k,hk,rfl⟩;have hl:b.1.length<=1000000000:=hl;have hk:k<=b.1.length:=hk;by_cases h:k < b.1.length
 ·have hx:=hb.1 _ (ba h);have n1:nth (.int .u64) b.1 k=b.1[k]:=cC (t:= .int .u64) h;have hd:(b.1.drop k).all vc=(vc b.1[k] && (b.1.drop (k+1)).all vc):=by rw[aq h,fp]
  have step:∀ {R:Type} (kn:AS->Option R) (kx:Exit->AS->Option R),zg (b,(k:Int)) kn kx=aG (vc b.1[k]) (kn (jx (b,((k+1:Nat):Int)))) (kx (ke ()).1 (ke ()).2):=by intro R kn kx;rw[Az,aU ak,bo ak ak,aa,n1,N.ot ak,G6 (d:=b.1[k]) hx];simp only[ao,ah,bm,CN];cases vc b.1[k] <;> rfl
  cases hp:vc b.1[k]
  ·right;refine⟨ke (),?_,λkn kx=> ?_⟩
   ·simp only[gO,jb,aa,hd,hp,dG,bU,bz];rfl
   ·rw[step,hp,au]
  ·left;refine⟨(b,((k+1:Nat):Int)),⟨hb,hl,k+1,ak,rfl⟩,by simp only[aa];omega,?_,λkn kx=> ?_⟩
   ·simp only[gO,jb,aa,hd,hp,bI]
   ·rw[step,hp,ao]
 ·right;obtain rfl:k=b.1.length:=ak;refine⟨qd b,?_,λkn kx=> ?_⟩
  ·simp only[gO,jb,aa,aN];rfl
  ·rw[Az];simp(disch:=omega) only[↓S1,↓if_pos,↓if_neg,if_pos,if_neg,bN,bz,S2]
theorem aea:gA.Ok:=by
 rintro⟨ks,af,dl,sc,u⟩ hb;have hb:atT (ks,af,dl,sc,u):=hb;have h2:iN sc:=hb.2;rw[ad9];simp only[bm,GB,xG,adl];by_cases hk:ks.length<=12
 ·rw[cJ ak,aI hk,PQ (d:=((ks,af,dl,sc,u),0)) ⟨hb,by show ks.length<=1000000000;omega,0,ak,rfl⟩];simp only[au,bI,ah,gO,jb,aS,aM];by_cases a1:af < 0
  ·rw[aU a1,aJ (p:=0<=af/\af<=1048576) ak];cases ks.all vc <;> rfl
  by_cases a2:af > 1048576
  ·rw[aT a1,dk a2,aJ (p:=0<=af/\af<=1048576) ak];cases ks.all vc <;> rfl
  by_cases a3:dl < 0
  ·rw[aT a1,cJ a2,aU a3,aJ (p:=0<=dl/\dl<=1048576) ak];cases ks.all vc <;> cases(decide (0<=af/\af<=1048576)) <;> rfl
  by_cases a4:dl > 1048576
  ·rw[aT a1,cJ a2,aT a3,dk a4,aJ (p:=0<=dl/\dl<=1048576) ak];cases ks.all vc <;> cases(decide (0<=af/\af<=1048576)) <;> rfl
  rw[aT a1,cJ a2,aT a3,cJ a4,aI (p:=0<=dl/\dl<=1048576) ak,aI (p:=0<=af/\af<=1048576) ak];cases aBC:ks.all vc
  ·simp only[aBC,bU,bz];rfl
  ·simp only[aBC,bN];show aj (rY.call sc) _=_;rw[G6 (d:=sc) h2];simp only[ah,bm,CN];by_cases hs:sc=0
   ·rw[aI hs];show aG (wD sc 0) _ _=_;rw[dJ hs];rfl
   ·rw[aJ hs];show aG (wD sc 0) _ _=_;rw[fj hs];rfl
 ·rw[dk ak,aJ hk];rfl
theorem Zn:gA.RS:=rE [.d gW] gA
def aeb:=gA.fh aea 1 ⟨.fD SM,trivial⟩
abbrev qT:=Lk×Int
def kz:qT->AS:=λ(Py,i)=>⟨([bK,.dB zV Py,bK,.d ti i]++a9 24 []),[],(ag 28 [])⟩
def kZ:Unit->Exit×AS:=λx=>(.ret,⟨([bK,bK,.d .bool aQ]++a9 25 []),[],(ag 28 [])⟩)
def rG:Unit->Exit×AS:=λx=>(.exit 0,⟨(a9 28 []),[],(ag 28 [])⟩)
abbrev Bu:=(Unit)⊕(Unit)
abbrev Js:=(Unit)⊕(Unit)
def xh:Bu->Out (Exit×AS):=λx=> .br x.isLeft (.get x.getLeft? λa=> .ok (kZ a)) (.get x.getRight? λb=> .ok (rG b))
def ig:qT->Js->Bu:=λ(Py,i) y=>match y with | .inl y=> .inl y | .inr z=> .inr (z)
def rF:qT->Prop:=λ(l,i)=>YH l/\l.1.length<=1000000000/\∃k:Nat,k<=l.1.length/\i=k
def jU:qT->Js:=λ(l,i)=>if(l.1.drop i.toNat).all xG then .inr () else .inl ()
def aeg:Lk->Prop:=λl=>YH l
def zj:Lk->Bool:=λl=>og l
def Jr:=eu.fD kz rF ig jU xh
def Cv:qT->Option Bu:=jq Jr kz
def jC:Fs Tryz.prog aeg bm zj:=fg 59 Tryz.f59 (λl=>([.d zV l],[])) (λx=>⟨.d .bool x,[],[]⟩) [aw zV] [aeb] {loops:=oN [(4,{aY:=[1,3]})],outs:=oM [(4,{},{aY:=[2]})],fE:=pX [(4,Jr)]}
def Bt:= @fO Tryz.prog (oc jC.G) jC.an 0 Tryz.f59 0 _ kz
abbrev GH:=oT Tryz.prog (oc jC.G) jC.an 0 Tryz.f59 0 kz rF ig jU xh
theorem SU:nw Cv rF ig jU:=qL (qF [.d zV,.d ti] λ_=>cK)
theorem GI:qN @Bt kz rF ig jU xh GH:=sk
theorem Cw(Py i)(kn:K2 R)(kx:K3 R):Bt (Py,i) kn kx=aG (fV i (((ae Py.1):Nat):Int)) (aG (ei i (((ae Py.1):Nat):Int)) (aj (gA.call (nth gW Py.1 (ab i))) λx1=>aG (!x1) (kx (kZ ()).1 (kZ ()).2) (kn (kz (Py,(bB .i64 i (1:Int)))))) aF) (kx (rG ()).1 (rG ()).2):=cK
theorem ahO(l)(k:K1 R):jC.A l k=aG (fV (l.1.length:Int) 1) (k (jC.out aQ)) (aG (xS (l.1.length:Int) 4) (k (jC.out aQ)) (aj (Cv (l,0)) λx2=>aG x2.isLeft (aj x2.getLeft? λa3=>k (jC.out aQ)) (aj x2.getRight? λb4=>k (jC.out aW)))):=cK
theorem VX:GH:=by
 refine GI (λ(l,i)=>l.1.length - i.toNat) ?_
 rintro⟨l,i⟩ ⟨hb,hl,k,hk,rfl⟩;have hl:l.1.length<=1000000000:=hl;have hk:k<=l.1.length:=hk;by_cases h:k < l.1.length
 ·have hx:=hb _ (ba h);have n1:nth (.pair (.slice (.int .u64)) (.pair (.int .i64) (.pair (.int .i64) (.pair (.int .u64) .unit)))) l.1 k=l.1[k]:=cC (t:=(.pair (.slice (.int .u64)) (.pair (.int .i64) (.pair (.int .i64) (.pair (.int .u64) .unit))))) h;have hd:(l.1.drop k).all xG=(xG l.1[k] && (l.1.drop (k+1)).all xG):=by rw[aq h,fp]
  have step:∀ {R:Type} (kn:AS->Option R) (kx:Exit->AS->Option R),Bt (l,(k:Int)) kn kx=aG (xG l.1[k]) (kn (kz (l,((k+1:Nat):Int)))) (kx (kZ ()).1 (kZ ()).2):=by intro R kn kx;rw[Cw,aU ak,bo ak ak,aa,n1,N.ot ak,Zn (d:=l.1[k]) hx];simp only[ao,ah,bm,GB];cases xG l.1[k] <;> rfl
  cases hp:xG l.1[k]
  ·right;refine⟨kZ (),?_,λkn kx=> ?_⟩
   ·simp only[ig,jU,aa,hd,hp,dG,bU,bz];rfl
   ·rw[step,hp,au]
  ·left;refine⟨(l,((k+1:Nat):Int)),⟨hb,hl,k+1,ak,rfl⟩,by simp only[aa];omega,?_,λkn kx=> ?_⟩
   ·simp only[ig,jU,aa,hd,hp,bI]
   ·rw[step,hp,ao]
 ·right;obtain rfl:k=l.1.length:=ak;refine⟨rG (),?_,λkn kx=> ?_⟩
  ·simp only[ig,jU,aa,aN];rfl
  ·rw[Cw];simp(disch:=omega) only[↓S1,↓if_pos,↓if_neg,if_pos,if_neg,bN,bz,S2]
theorem ahP:jC.Ok:=by
 intro l hl;have hl:YH l:=hl;rw[ahO];simp only[bm,zj,og];by_cases h0:l.1.length < 1
 ·rw[aU ak,aJ (p:=0 < l.1.length/\l.1.length<=4) ak,Bool.and_false];rfl
 by_cases h4:l.1.length > 4
 ·rw[aT ak,dk ak,aJ (p:=0 < l.1.length/\l.1.length<=4) ak,Bool.and_false];rfl
 rw[aT ak,cJ ak,aI (p:=0 < l.1.length/\l.1.length<=4) ak,Bool.and_true,SU (d:=(l,0)) ⟨hl,by show l.1.length<=1000000000;omega,0,ak,rfl⟩];simp only[au,ah,ig,jU,aS,aM];cases l.1.all xG <;> rfl
theorem DP:jC.RS:=rE [.d zV] jC
def GJ:=jC.fh ahP 1 ⟨.fD VX,trivial⟩
abbrev Br:=Lk×Bs×Int×Int×mr
def rD:Br->Bs->((Lk×Int×mr)×(Bs)):=λ(aCP,vi,eI,kv,n5) y=>((aCP,eI,n5),y)
def SP:Br->Prop:=λ(l,o,i,j,b)=>b.1.length<=12/\∃k:Nat,k<=b.1.length/\j=k/\o.length+8*b.1.length<=80000000+8*k
def vT:Br->Bs:=λ(l,o,i,j,b)=>mI o (b.1.drop j.toNat)
def SN:(Lk×Bs×Int)->Prop:=λ(l,o,i)=>(∀b∈l.1,aEd b)/\l.1.length<=4/\∃k:Nat,k<=l.1.length/\i=k/\o.length<=1000+200*k
def Bq:(Lk×Bs×Int)->Bs:=λ(l,o,i)=>(l.1.drop i.toNat).foldl atV o
def aec:Lk->Prop:=λl=>YH l
def DO:Lk->Bs:=λl=>EO l
def lF:Ls SN bm Bq:=oP (λ(Py,outv,i)=>⟨([bK,.dB zV Py,bK,.d tB outv,.d ti i]++a9 53 []),[],(ag 58 [])⟩) (λx=>(.exit 0,⟨([bK,bK,bK,.d tB x]++a9 54 []),[],(ag 58 [])⟩))
def lG:Ls SP rD vT:=oP (λ(aCP,vi,eI,kv,n5)=>⟨([bK,.dB zV aCP,bK,.d tB vi,.d ti eI,dX 5,.d ti kv]++a9 51 []),[],(bC 5 ([cH (.d gW n5)]++bC 52 []))⟩) (λx=>(.exit 2,⟨([bK,.dB zV x.1.1,bK,.d tB x.2,.d ti x.1.2.1,dX 5]++a9 52 []),[],(bC 5 ([cH (.d gW x.1.2.2)]++bC 52 []))⟩))
def ky:Fs Tryz.prog aec bm DO:=fg 88 Tryz.f88 (λl=>([.d zV l],[])) (λx=>⟨.d tB x,[],[]⟩) [aw zV] [GJ,WT,abL] {loops:=oN [(5,{aY:=[1,3,4]}),(10,{aY:=[1,3,4,5,6],sites:=[5]})],outs:=oM [(5,{aY:=[3]},{aY:=[2]}),(10,{aY:=[1,3,4,5],sites:=[5]},{aY:=[2]})],fE:=pX [(5,lF.E),(10,lG.E)],res:=[aw tB]}
theorem SO:lF.RS:=rL [.d zV,.d tB,.d ti] lF
theorem Ct(Py outv i)(kn:K2 R)(kx:K3 R):ky.R 0 lF (Py,outv,i) kn kx=aG (fV i (Py.1.length:Int)) (aG (ei i (Py.1.length:Int)) (aj (uY.call (outv,(((ae (nth gW Py.1 (ab i)).1):Nat):Int))) λx1=>aj (lG.call (Py,x1,i,0,(nth gW Py.1 (ab i)))) λx2=>aj (uY.call (x2.2,x2.1.2.2.2.1)) λx3=>aj (uY.call (x3,x2.1.2.2.2.2.1)) λx4=>aj (ur.call (x4,x2.1.2.2.2.2.2.1)) λx5=>kn (lF.st (x2.1.1,x5,(bB .i64 x2.1.2.1 1)))) aF) (lF.go kx outv):=cK
theorem SQ:lG.RS:=rL [.d zV,.d tB,.d ti,.d ti,.d gW] lG
theorem Cu(aCP vi eI kv n5)(kn:K2 R)(kx:K3 R):ky.R 1 lG (aCP,vi,eI,kv,n5) kn kx=aG (fV kv (n5.1.length:Int)) (aG (ei kv (n5.1.length:Int)) (aj (ur.call (vi,(nth tu n5.1 (ab kv)))) λx1=>kn (lG.st (aCP,x1,eI,(bB .i64 kv 1),n5))) aF) (lG.go kx ((aCP,eI,n5),vi)):=cK
theorem ahK(l)(k:K1 R):ky.A l k=aj (jC.call l) λx1=>aG (!x1) (k (ky.out ([]:List Int))) (aj (uY.call (([]:List Int),(l.1.length:Int))) λx2=>aj (lF.call (l,x2,0)) λx9=>k (ky.out x9)):=cK
theorem VW:(ky.j8 1 lG):=by
 refine(ky.lX 1 lG) (λ(l,o,i,j,b)=>b.1.length - j.toNat) ?_
 rintro⟨l,o,i,j,b⟩ ⟨Q3,k,hk,rfl,hl⟩;have Q3:b.1.length<=12:=Q3;have hk:k<=b.1.length:=hk;have hl:o.length+8*b.1.length<=80000000+8*k:=hl;by_cases h:k < b.1.length
 ·left;have n1:nth (.int .u64) b.1 k=b.1[k]:=cC (t:= .int .u64) h;refine⟨(l,o++gV b.1[k],i,((k+1:Nat):Int),b),⟨Q3,k+1,ak,rfl,by rw[ai,bT];omega⟩,by simp only[aa];omega,?_,λkn kx=> ?_⟩
  ·simp only[rD,vT,aa];rw[UO _ _ _ h]
  ·rw[Cu,aU ak,bo ak ak,aa,n1,zz (d:=(o,b.1[k])) (by show o.length<=90000000;omega)];simp only[ao,ah,bm,CO];rw[N.ot ak]
 ·right;obtain rfl:k=b.1.length:=ak;intro R kn kx;rw[Cu,aT ak,au];simp only[rD,vT,aa,aN];rfl
theorem VV:(ky.j8 0 lF):=by
 refine(ky.lX 0 lF) (λ(l,o,i)=>l.1.length - i.toNat) ?_
 rintro⟨l,o,i⟩ ⟨hb,h4,k,hk,rfl,hl⟩;have h4:l.1.length<=4:=h4;have hk:k<=l.1.length:=hk;have hl:o.length<=1000+200*k:=hl;by_cases h:k < l.1.length
 ·left;have hx:=hb _ (ba h);have n1:nth (.pair (.slice (.int .u64)) (.pair (.int .i64) (.pair (.int .i64) (.pair (.int .u64) .unit)))) l.1 k=l.1[k]:=cC (t:=(.pair (.slice (.int .u64)) (.pair (.int .i64) (.pair (.int .i64) (.pair (.int .u64) .unit))))) h;have e0:=acI o l.1[k] hx.1;refine⟨(l,atV o l.1[k],((k+1:Nat):Int)),⟨hb,h4,k+1,ak,rfl,ak⟩,by simp only[aa];omega,?_,λkn kx=> ?_⟩
  ·simp only[bm,Bq,aa];rw[aq h];rfl
  ·rw[Ct,aU ak,bo ak ak,aa,n1];obtain⟨⟨ks,af,dl,sc,u⟩,aEH⟩:∃b,l.1[k]=b:=⟨_,rfl⟩;rw[aEH]at hx e0 ⊢;obtain⟨Q3,ha,hd⟩:=hx;have Q3:ks.length<=12:=Q3;have ha:af<=9223372036854775807:=ha;have hd:dl<=9223372036854775807:=hd;have l1:=eJ o ks.length;have l2:=Iz ks (df o ks.length);have l3:=eJ (mI (df o ks.length) ks) af;have l4:=eJ (df (mI (df o ks.length) ks) af) dl;simp only[ao];rw[mP (d:=(o,(ks.length:Int))) ⟨by show o.length<=90000000;omega,by show(ks.length:Int)<=9223372036854775807;omega⟩];simp only[ah,bm,rZ];rw[SQ (d:=(l,df o ks.length,(k:Int),0,(ks,af,dl,sc,u))) ⟨Q3,0,aL _,rfl,by show(df o ks.length).length+8*ks.length<=_;omega⟩];simp only[ah,rD,vT,aS,aM];rw[mP (d:=(mI (df o ks.length) ks,af)) ⟨by show(mI (df o ks.length) ks).length<=90000000;omega,ha⟩];simp only[ah,bm,rZ];rw[mP (d:=(df (mI (df o ks.length) ks) af,dl)) ⟨by show(df (mI (df o ks.length) ks) af).length<=90000000;omega,hd⟩];simp only[ah,bm,rZ];rw[zz (d:=(df (df (mI (df o ks.length) ks) af) dl,sc)) (by show(df (df (mI (df o ks.length) ks) af) dl).length<=90000000;omega)];simp only[ah,bm,CO];rw[N.ot ak];rfl
 ·right;obtain rfl:k=l.1.length:=ak;intro R kn kx;rw[Ct,aT ak,au];simp only[bm,Bq,aa,aN];rfl
theorem ahL:ky.Ok:=by
 intro l hl;have hl:YH l:=hl;rw[ahK,DP (d:=l) hl];simp only[ah,bm,zj,bm,DO,EO];cases gT:og l
 ·rfl
 ·obtain⟨h1,h2,h3⟩:=ak9 gT;have l1:=eJ [] l.1.length;have l0:([]:List Int).length=0:=rfl;simp only[cd,au,bN];rw[mP (d:=([],(l.1.length:Int))) ⟨by show([]:List Int).length<=90000000;omega,by show(l.1.length:Int)<=9223372036854775807;omega⟩];simp only[ah,bm,rZ];rw[SO (d:=(l,df [] l.1.length,0)) ⟨h1,h3,0,aL _,rfl,by show(df [] l.1.length).length<=_;omega⟩];rfl
theorem M8:ky.RS:=rE [.d zV] ky
def RK:=ky.fh ahL 2 ⟨.fD VV,⟨.fD VW,trivial⟩⟩
def Cj(r:dQ):List Int×dQ:=((jE 32 r).1++aX (jE 32 r).1.length (ag 32 (0:Int)),(jE 32 r).2)
def wA(r:dQ):List Int×dQ:=if(bX r).2.2.1=aW then([],(bX r).2) else jE (bX r).1.toNat (bX r).2
def zP(most:Int)(r:dQ):Int×dQ:=(if(bX r).1 > most then -1 else(bX r).1,(bX r).2)
def adR(r:dQ):tj×dQ:=(((Cj r).1,(bX (Cj r).2).1,()),(bX (Cj r).2).2)
def Cr:Nat->dQ->List tj×dQ
 | 0,r=>([],r)
 |k+1,r=>((adR r).1::(Cr k (adR r).2).1,(Cr k (adR r).2).2)
def Bk(r:dQ):gb×dQ:=(((bX r).1,(qA (wA (bX r).2).1).1,()),(wA (bX r).2).2)
def ER:Nat->dQ->Option (List gb×dQ)
 | 0,r=>aw ([],r)
 |k+1,r=>if(qA (wA (bX r).2).1).2=aW then(match ER k (Bk r).2 with
  |some x=>aw ((Bk r).1::x.1,x.2)
  |none=>aF) else aF
def aeU(r:dQ):Sg×dQ:=(((oo r).1,(oo (oo r).2).1,()),(oo (oo r).2).2)
def Ek:Nat->dQ->List Sg×dQ
 | 0,r=>([],r)
 |k+1,r=>((aeU r).1::(Ek k (aeU r).2).1,(Ek k (aeU r).2).2)
def vE(r:dQ):List Sg×dQ:=Ek (zP 12 (bX r).2).1.toNat (zP 12 (bX r).2).2
def an3(r:dQ):Option (FB×dQ):=if(zP 12 (bX r).2).1 < 0 then aF else aw (((bX r).1,(vE r).1,(oo (vE r).2).1,()),(oo (vE r).2).2)
def Fx:List tj->dQ->Option (List fB×dQ)
 |[],r=>aw ([],r)
 |o::l,r=>match an3 r with
  |none=>aF
  |some w=>match Fx l w.2 with
   |none=>aF
   |some x=>aw ((o,w.1,())::x.1,x.2)
def aq6:eT×Bool:=(([],[],0,()),aQ)
def agl(n m:Int)(t:eT)(r:dQ):eT×Bool:=if n < 0\/m < 0\/r.2.1=aW\/0 < r.1.length\/gS t=aQ then aq6 else(t,aW)
def ag6(n m:Int)(ops:List tj)(os:List gb)(r:dQ):eT×Bool:=match Fx ops (bX r).2 with
 |none=>aq6
 |some x=>agl n m (x.1,os,(bX r).1,()) x.2
def py(b:List Int):eT×Bool:=
 let n:=zP 64 (b,aQ,())
 let ops:=Cr n.1.toNat n.2
 let m:=zP 64 ops.2
 match ER m.1.toNat m.2 with
 |none=>aq6
 |some x=>ag6 n.1 m.1 ops.1 x.1 x.2
def Zc(o:tj):List Int:=o.1++fe o.2.1
def qS(o:gb):List Int:=fe o.1++(fe (EO o.2.1).length++EO o.2.1)
def ai0(s:Sg):List Int:=gV s.1++gV s.2.1
def rq(w:FB):List Int:=fe w.1++(fe w.2.1.length++(w.2.1.flatMap ai0++gV w.2.2.1))
def aFL(t:eT):List Int:=fe t.1.length++(t.1.flatMap (λx=>Zc x.1)++(fe t.2.1.length++(t.2.1.flatMap qS++(fe t.2.2.1++t.1.flatMap λx=>rq x.2.1))))
theorem Ci{α:Type}(f:List Int->α->List Int)(w:α->List Int):∀(l:List α) (b:List Int),(∀x∈l,∀b,f b x=b++w x)->l.foldl f b=b++l.flatMap w
 |[],b,_=>by simp
 |x::l,b,h=>by rw[cS,h x bf,Ci f w l _ λy hy=>h y (aV _ hy),cI,aC]
theorem ze(b:List Int){n:Int}(h:0<=n):df b n=b++fe n:=by unfold df;rw[if_neg ak]
theorem afs{t:eT}(gT:gS t=aW):aap t=aFL t:=by
 obtain⟨⟨_,a2,a3,a4⟩,b1,b2⟩:=jO gT;have e1:∀b,t.1.foldl Iw b=b++t.1.flatMap λx=>Zc x.1:=λb=>Ci _ _ _ _ λx hx b=>by have:=qE (iD _ _ b1 x hx);unfold Iw Zc;rw[ze _ this.1,aC]
 have e2:∀b,t.2.1.foldl IV b=b++t.2.1.flatMap qS:=λb=>Ci _ _ _ _ λo ho b=>by have:=(ku _ _ b2 o ho).1;unfold IV qS;rw[ze _ this.1,aC]
 have e3:∀(l:List Sg) b,l.foldl Lp b=b++l.flatMap ai0:=λl b=>Ci _ _ _ _ λs _ b=>by unfold Lp ai0;rw[aC]
 have e4:∀b,t.1.foldl afy b=b++t.1.flatMap λx=>rq x.2.1:=λb=>Ci _ _ _ _ λx hx b=>by have:=qE (iD _ _ b1 x hx);unfold afy rq;rw[e3,ze _ this.2.2.1,ze _ ak];simp only[aC]
 unfold aap qJ aFL;rw[if_pos gT,e4,ze _ a4,e2,ze _ ak,e1,ze _ ak,aO];simp only[aC]
theorem acg{n:Nat}(a rest:List Int)(h:a.length=n):jE n (a++rest,aQ,())=(a,(rest,aQ,())):=by
 unfold jE;rw[if_neg (by
  intro x;rcases x with x | x
  ·cases x
  ·have x:(a++rest).length < n:=x;rw[ai]at x;omega)]
 show((a++rest).take n,((a++rest).drop n,aQ,()))=_;rw[kY h,kX h]
theorem aaY(a rest:List Int)(h:a.length=32):Cj (a++rest,aQ,())=(a,(rest,aQ,())):=by unfold Cj;rw[acg a rest h];simp only[h];rw[show aX 32 (ag 32 (0:Int))=[] from rfl,bn]
theorem mM(n:Int)(h:zX n)(rest:List Int):bX (fe n++rest,aQ,())=(n,(rest,aQ,())):=y6 n h rest _
theorem af5(a rest:List Int)(h:a.length<=1000000000):wA (fe a.length++(a++rest),aQ,())=(a,(rest,aQ,())):=by unfold wA;rw[mM _ (lC ak)];simp only[bU,bz,aa];exact acg a rest rfl
theorem afw{n m:Int}(h:zX n)(hm:n<=m)(rest:List Int):zP m (fe n++rest,aQ,())=(n,(rest,aQ,())):=by unfold zP;rw[mM n h];simp only[if_neg (show ¬n > m by omega)]
theorem ahv:∀(l:List tj) (rest:List Int),(∀o∈l,o.1.length=32/\zX o.2.1)->Cr l.length (l.flatMap Zc++rest,aQ,())=(l,(rest,aQ,()))
 |[],rest,_=>rfl
 |o::l,rest,h=>by
  obtain⟨h1,h2⟩:=h o bf;have e:adR ((o::l).flatMap Zc++rest,aQ,())=(o,(l.flatMap Zc++rest,aQ,())):=by unfold adR Zc;rw[cI,aC,aC,aaY _ _ h1];simp only[];rw[mM _ h2]
  rw[aE,Cr,e,ahv l rest λx hx=>h x (aV _ hx)]
theorem abt:∀(l:List gb) (rest:List Int),(∀o∈l,zX o.1/\og o.2.1=aW/\YH o.2.1)->ER l.length (l.flatMap qS++rest,aQ,())=aw (l,(rest,aQ,()))
 |[],rest,_=>rfl
 |o::l,rest,h=>by
  obtain⟨h1,h2,h3⟩:=h o bf;have hl:=Dk o.2.1;have e0:bX ((o::l).flatMap qS++rest,aQ,())=(o.1,(fe (EO o.2.1).length++(EO o.2.1++(l.flatMap qS++rest)),aQ,())):=by rw[cI];unfold qS;simp only[aC];exact mM _ h1 _
  have e1:wA (bX ((o::l).flatMap qS++rest,aQ,())).2=(EO o.2.1,(l.flatMap qS++rest,aQ,())):=by rw[e0];exact af5 _ _ ak
  have e2:Bk ((o::l).flatMap qS++rest,aQ,())=(o,(l.flatMap qS++rest,aQ,())):=by unfold Bk;rw[e1,e0,CQ h3 h2]
  rw[aE,ER,e1,CQ h3 h2,if_pos rfl,e2,abt l rest λx hx=>h x (aV _ hx)]
theorem ai3:∀(l:List Sg) (rest:List Int),(∀s∈l,iN s.1/\iN s.2.1)->Ek l.length (l.flatMap ai0++rest,aQ,())=(l,(rest,aQ,()))
 |[],rest,_=>rfl
 |s::l,rest,h=>by
  obtain⟨h1,h2⟩:=h s bf;have e:aeU ((s::l).flatMap ai0++rest,aQ,())=(s,(l.flatMap ai0++rest,aQ,())):=by unfold aeU ai0;rw[cI,aC,aC,w7 _ h1];simp only[];rw[w7 _ h2]
  rw[aE,Ek,e,ai3 l rest λx hx=>h x (aV _ hx)]
theorem ayM(w:FB)(rest:List Int)(hw:OU w)(hb:zX w.1)(Q3:w.2.1.length<=12):an3 (rq w++rest,aQ,())=aw (w,(rest,aQ,())):=by
 have e0:bX (rq w++rest,aQ,())=(w.1,(fe w.2.1.length++(w.2.1.flatMap ai0++(gV w.2.2.1++rest)),aQ,())):=by unfold rq;simp only[aC];exact mM _ hb _
 have e1:zP 12 (bX (rq w++rest,aQ,())).2=((w.2.1.length:Int),(w.2.1.flatMap ai0++(gV w.2.2.1++rest),aQ,())):=by rw[e0];exact afw (lC ak) ak _
 have e2:vE (rq w++rest,aQ,())=(w.2.1,(gV w.2.2.1++rest,aQ,())):=by unfold vE;rw[e1];exact ai3 _ _ hw.1
 unfold an3;rw[e1,if_neg (by show ¬(w.2.1.length:Int) < 0;omega),e2,e0];simp only[];rw[w7 _ hw.2]
theorem acw:∀(l:List fB) (rest:List Int),(∀x∈l,OU x.2.1/\zX x.2.1.1/\x.2.1.2.1.length<=12)->Fx (l.map (·.1)) (l.flatMap (λx=>rq x.2.1)++rest,aQ,())=aw (l,(rest,aQ,()))
 |[],rest,_=>rfl
 |x::l,rest,h=>by obtain⟨h1,h2,h3⟩:=h x bf;rw[cI,aC,bS,Fx,ayM _ _ h1 h2 h3];simp only[];rw[acw l rest λy hy=>h y (aV _ hy)]
theorem W6{t:eT}(hv:Ca t)(gT:gS t=aW):py (aap t)=(t,aW):=by
 obtain⟨⟨a1,a2,a3,a4⟩,b1,b2⟩:=jO gT;have aaZ:∀x∈t.1,_:=λx hx=>qE (iD _ _ b1 x hx)
 have aG3:=hv.2.2;rw[afs gT];have e1:=afw (n:=(t.1.length:Int)) (m:=64) (lC ak) ak (t.1.flatMap (λx=>Zc x.1)++(fe t.2.1.length++(t.2.1.flatMap qS++(fe t.2.2.1++t.1.flatMap λx=>rq x.2.1))));have ef:t.1.flatMap (λx=>Zc x.1)=(t.1.map (·.1)).flatMap Zc:=by rw[List.flatMap_map]
 have e2:=ahv (t.1.map (·.1)) (fe t.2.1.length++(t.2.1.flatMap qS++(fe t.2.2.1++t.1.flatMap λx=>rq x.2.1))) λo ho=>by obtain⟨x,hx,rfl⟩:=fm.1 ho;exact⟨(hv.2.1 x hx).1.1,(aaZ x hx).1,by have:=(aaZ x hx).2.1;omega⟩
 rw[<-ef,bR]at e2;have e3:=afw (n:=(t.2.1.length:Int)) (m:=64) (lC ak) ak (t.2.1.flatMap qS++(fe t.2.2.1++t.1.flatMap λx=>rq x.2.1));have e4:=abt t.2.1 (fe t.2.2.1++t.1.flatMap λx=>rq x.2.1) λo ho=>by have:=ku _ _ b2 o ho;exact⟨⟨this.1.1,ak⟩,this.2,(hv.1.1 o ho).1⟩
 have e5:=mM t.2.2.1 ⟨a4,aG3⟩ (t.1.flatMap λx=>rq x.2.1);have e6:=acw t.1 [] λx hx=>⟨(hv.2.1 x hx).2.1,⟨(aaZ x hx).2.2.1,by have:=(aaZ x hx).2.2.2.1;omega⟩,(aaZ x hx).2.2.2.2⟩
 rw[bn]at e6;unfold py aFL;simp only[e1,aa,e2,e3,e4];unfold ag6;simp only[e5,e6];unfold agl;rw[if_neg];rintro(x | x | x | x | x)
 ·omega
 ·omega
 ·cases x
 ·simp at x
 ·rw[show((t.1,t.2.1,t.2.2.1,()):eT)=t from rfl,gT]at x;cases x
def iB(r:dQ):Prop:=jo r/\(r.2.1=aW->r.1=[])
def Ov(r r':dQ)(e:List Int):Prop:=iB r'/\(r'.2.1=aQ->r.2.1=aQ/\r.1=e++r'.1)
theorem Ov.trans{r r1 r2:dQ}{e1 e2:List Int}(h1:Ov r r1 e1)(h2:Ov r1 r2 e2):Ov r r2 (e1++e2):=
 ⟨h2.1,λh=>⟨(h1.2 (h2.2 h).1).1,by rw[(h1.2 (h2.2 h).1).2,(h2.2 h).2,aC]⟩⟩
theorem Ov.of{r r':dQ}{e e':List Int}(h:Ov r r' e)(he:r'.2.1=aQ->e=e'):Ov r r' e':=⟨h.1,λh'=>by rw[<-he h'];exact h.2 h'⟩
theorem Ov.refl{r:dQ}(h:iB r):Ov r r []:=⟨h,λh'=>⟨h',rfl⟩⟩
theorem azr:iB EK:=⟨ac2,λ_=>rfl⟩
theorem agp(r:dQ)(e:List Int):Ov r EK e:=⟨azr,λh=>by cases h⟩
theorem TN{b:List Int}(hb:Bytes b)(hl:b.length<=1000000000):iB (b,aQ,()):=⟨W4 hb hl (aQ,()),λh=>by cases h⟩
theorem XO{r:dQ}(h:iB r)(n:Nat):Ov r (jE n r).2 (jE n r).1/\((jE n r).2.2.1=aQ->(jE n r).1.length=n):=by
 have hb:=(uE (n:=n) h.1).2.2
 revert hb
 unfold jE;split
 ·exact λ_=>⟨agp _ _,λh=>by cases h⟩
 ·rename_i hc;intro hb;have h1:r.2.1=aQ:=by cases hr:r.2.1 with | false=>rfl | true=>exact absurd (jH hr) hc
  have h2:¬r.1.length < n:=λx=>hc (ez x)
  exact⟨⟨⟨hb,λ(hx:r.2.1=aW)=>by rw[h1]at hx;cases hx⟩,λ_=>⟨h1,(dm n r.1).symm⟩⟩,λ_=>by show(r.1.take n).length=n;rw[ct];omega⟩
theorem Xk(f:Nat){d:Int}(h:d < 128):gF f d=([],d):=by
 cases f with
 |zero=>rfl
 |succ f=>rw[gF,if_neg ak]
theorem aho:∀(l:List Int) (a:Nat) (n:Int) (v:Int×Nat),Bytes l->a<=9->xe l a n= .inl v->
  ∃w rest,v.1=n+w*128^a/\0<=w/\(a=0\/0 < w)/\w < 128^(9 - a)/\l=(gF (8 - a) w).1++(gF (8 - a) w).2::rest/\v.2=a+(gF (8 - a) w).1.length+1
 |[],a,n,v,_,_,h=>by cases h
 |d::l,a,n,v,hb,ha,h=>by
  obtain⟨x1,x2⟩:=hb d bf;rw[xe]at h;split at h
  ·cases h
  rename_i hc;have aI3:a<=8:=ak;have e9:(128:Int)^(9 - a)=128^(8 - a)*128:=by rw[show 9 - a=(8 - a)+1 by omega];exact fA 128 (8 - a)
  have p8:(0:Int) < 128^(8 - a):=Int.pow_pos gw;split at h
  ·rename_i hd;cases h;refine⟨d,l,by rw[dU x1 hd],x1,ak,ak,?_,?_⟩
   ·rw[Xk _ hd];rfl
   ·rw[Xk _ hd];rfl
  ·rename_i hd;obtain⟨w,rest,e1,w0,w1,w2,e2,e3⟩:=aho l (a+1) _ v (λx hx=>hb x (aV _ hx)) ak h;have w1:0 < w:=ak;rw[show 9 - (a+1)=8 - a by omega]at w2;have aLc:a<=7:=by
    by_cases h8:a=8
    ·rw[h8]at w2;have:(128:Int)^(8 - 8)=1:=rfl;omega
    ·omega
   have er:gF (8 - a) (d%128+128*w)=((d%128+128)::(gF (8 - (a+1)) w).1,(gF (8 - (a+1)) w).2):=by rw[show 8 - a=(8 - (a+1))+1 by omega,gF,if_pos ak,show(d%128+128*w)%128=d%128 by omega,show(d%128+128*w) / 128=w by omega]
   refine⟨d%128+128*w,rest,?_,ak,ak,ak,?_,?_⟩
   ·rw[e1,fA,Int.add_mul,Int.add_assoc,jG 128 w,lY w,jG 128]
   ·rw[er,e2,show d%128+128=d by omega];rfl
   ·rw[er,e3];simp only[aE];omega
theorem gv{r:dQ}(h:iB r):Ov r (bX r).2 (fe (bX r).1)/\((bX r).2.2.1=aQ->zX (bX r).1):=by
 have hk:=iA h.1
 revert hk
 unfold bX;cases hf:xe r.1 0 0 with
 |inr _=>exact λ_=>⟨agp _ _,λh=>by cases h⟩
 |inl v=>
  intro hk;obtain⟨w,rest,e1,w0,_,w2,e2,e3⟩:=aho r.1 0 0 v h.1.2 gw hf;have h1:r.2.1=aQ:=by
   cases hr:r.2.1 with
   |false=>rfl
   |true=>rw[h.2 hr]at hf;cases hf
  have ew:v.1=w:=by rw[e1,ln];omega
  have e9:(128:Int)^(9 - 0)=9223372036854775808:=rfl;have e8:(128:Int)^(8+1)=9223372036854775808:=rfl;have e10:(128:Int)^(10+1)=151115727451828646838272:=rfl;have er:gF 10 w=gF 8 w:=II 10 8 w (by rw[e10];omega) (by rw[e8];omega);have en:fe v.1=(gF 8 w).1++ [(gF 8 w).2]:=by rw[ew];unfold fe;rw[er]
  refine⟨⟨⟨hk.2.2,λ(hx:r.2.1=aW)=>by rw[h1]at hx;cases hx⟩,λ_=>⟨h1,?_⟩⟩,λ_=>⟨hk.1,hk.2.1⟩⟩;show r.1=fe v.1++r.1.drop v.2;rw[en,e3,aC]
  conv=>rhs;rw[e2]
  rw[List.append_cons,aH,kX (by rw[ai];rfl)];exact e2
theorem auf{l:List Int}(h:l.length=8)(hb:Bytes l):gV (FF l)=l:=by
 match l,h with
 |[a,b,c,d,e,f,g,i],_=>
  have h0:=hb a (by simp);have h1:=hb b (by simp);have h2:=hb c (by simp);have h3:=hb d (by simp);have h4:=hb e (by simp);have h5:=hb f (by simp);have h6:=hb g (by simp);have h7:=hb i (by simp);unfold SB at h0 h1 h2 h3 h4 h5 h6 h7;unfold gV FF;simp only[cS,fM];congr 1
  ·omega
  congr 1
  ·omega
  congr 1
  ·omega
  congr 1
  ·omega
  congr 1
  ·omega
  congr 1
  ·omega
  congr 1
  ·omega
  congr 1;omega
theorem uM{r:dQ}(h:iB r):Ov r (oo r).2 (gV (oo r).1):=by have e:=XO h 8;exact e.1.of λhk=>(auf (e.2 hk) (uE h.1).2.1).symm
theorem Mn{r:dQ}(h:iB r):Ov r (Cj r).2 (Cj r).1:=by
 have e:=XO h 32;refine e.1.of λhk=> ?_
 unfold Cj;simp only[e.2 hk];rw[show aX 32 (ag 32 (0:Int))=[] from rfl,bn]
theorem agw{r:dQ}(h:jo r):Sm (Cj r).1:=by
 have e:=uE (n:=32) h;refine⟨?_,fX e.2.1 λx hx=> ?_⟩
 ·show((jE 32 r).1++aX (jE 32 r).1.length (ag 32 (0:Int))).length=32;rw[ai,da,cO];have:=e.1;omega
 ·obtain rfl:=(List.mem_replicate.1 (List.mem_of_mem_drop hx)).2;exact⟨gw,gw⟩
theorem L0{r:dQ}(h:iB r):Ov r (wA r).2 (fe (wA r).1.length++(wA r).1)/\Bytes (wA r).1/\(wA r).1.length<=1000000000:=by
 have e:=gv h;unfold wA;split
 ·rename_i hc;exact⟨⟨e.1.1,λhk=>by rw[hc]at hk;cases hk⟩,λx hx=>(by cases hx),aL _⟩
 ·rename_i hc;have hc:(bX r).2.2.1=aQ:=by simpa using hc
  have t:=XO e.1.1 (bX r).1.toNat;have tb:=uE (n:=(bX r).1.toNat) e.1.1.1;have n0:=(e.2 hc).1;refine⟨(e.1.trans t.1).of λhk=> ?_,tb.2.1,?_⟩
  ·rw[t.2 hk,Int.toNat_of_nonneg n0]
  ·have hl:(jE (bX r).1.toNat (bX r).2).1.length<=(bX r).2.1.length:=by
    unfold jE;split
    ·exact aL _
    ·show((bX r).2.1.take _).length<=_;rw[ct];omega
   have:=e.1.1.1.1;omega
theorem an1{r:dQ}(h:iB r){m:Int}(h0:0<=(zP m r).1):Ov r (zP m r).2 (fe (zP m r).1)/\(zP m r).1<=m:=by
 have e:=gv h;unfold zP at h0 ⊢;by_cases hc:(bX r).1 > m
 ·simp only[if_pos hc]at h0;omega
 ·simp only[if_neg hc];exact⟨e.1,ak⟩
theorem acu{r:dQ}(h:iB r)(m:Int):iB (zP m r).2:=(gv h).1.1
theorem apl{r:dQ}(h:jo r){m:Int}(hm:0<=m): -1<=(zP m r).1/\(zP m r).1<=m:=by
 have:=(iA h).1;unfold zP;split
 ·exact⟨ak,by show(-1:Int)<=m;omega⟩
 ·rename_i hc;have hc:¬(bX r).1 > m:=hc;exact⟨by show -1<=(bX r).1;omega,by show(bX r).1<=m;omega⟩
theorem adV:∀(k:Nat) {r:dQ},iB r->Ov r (Cr k r).2 ((Cr k r).1.flatMap Zc)/\(Cr k r).1.length=k/\∀o∈(Cr k r).1,Sm o.1
 | 0,r,h=>⟨Ov.refl h,rfl,λx hx=>by cases hx⟩
 |k+1,r,h=>by
  have e1:=Mn h;have e2:=gv e1.1;have ih:=adV k (r:=(adR r).2) e2.1.1;refine⟨?_,by rw[Cr,aE,ih.2.1],λo ho=> ?_⟩
  ·have:=(e1.trans e2.1).trans ih.1;rw[Cr,cI];exact this
  ·rcases cz.1 ho with rfl | ho
   ·exact agw h.1
   ·exact ih.2.2 o ho
theorem awC{r:dQ}(h:iB r):iB (Bk r).2:=(L0 (gv h).1.1).1.1
theorem VF:∀(k:Nat) {r:dQ} {x:List gb×dQ},iB r->ER k r=aw x->Ov r x.2 (x.1.flatMap qS)/\x.1.length=k/\∀o∈x.1,o.1<=9223372036854775807/\og o.2.1=aW/\aBm o.2.1
 | 0,r,x,h,hx=>by cases hx;exact⟨Ov.refl h,rfl,λx hx=>by cases hx⟩
 |k+1,r,x,h,hx=>by
  rw[ER]at hx;split at hx
  ·rename_i hr;split at hx
   ·rename_i y hy;cases hx;have e1:=gv h;have e2:=L0 e1.1.1;have ih:=VF k (awC h) hy;obtain⟨l,hl,aqt,he,hle⟩:=W5 hr;have hu:=TO e2.2.1 e2.2.2;have el:(Bk r).1.2.1=l:=by show(qA (wA (bX r).2).1).1=l;rw[he]
    refine⟨?_,by rw[aE,ih.2.1],λo ho=> ?_⟩
    ·have:=(e1.1.trans e2.1).trans ih.1;rw[cI];unfold qS;rw[el,aqt];exact this
    ·rcases cz.1 ho with rfl | ho
     ·refine⟨(iA h.1).2.1,by rw[el];exact hl,?_⟩;rw[el,hle];exact⟨hu.1,by show(rb _).length<=_;omega⟩
     ·exact ih.2.2 o ho
   ·cases hx
  ·cases hx
theorem aeV:∀(k:Nat) {r:dQ},iB r->Ov r (Ek k r).2 ((Ek k r).1.flatMap ai0)/\(Ek k r).1.length=k/\∀s∈(Ek k r).1,ay2 s
 | 0,r,h=>⟨Ov.refl h,rfl,λx hx=>by cases hx⟩
 |k+1,r,h=>by
  have e1:=uM h;have e2:=uM e1.1;have ih:=aeV k (r:=(aeU r).2) e2.1;refine⟨?_,by rw[Ek,aE,ih.2.1],λo ho=> ?_⟩
  ·have:=(e1.trans e2).trans ih.1;rw[Ek,cI];exact this
  ·rcases cz.1 ho with rfl | ho
   ·exact⟨(B5 h.1).1,(B5 e1.1.1).1⟩
   ·exact ih.2.2 o ho
theorem apm{r:dQ}(h:iB r):iB (vE r).2/\(vE r).1.length<=12/\∀s∈(vE r).1,ay2 s:=by have e1:=gv h;have ih:=aeV (zP 12 (bX r).2).1.toNat (acu e1.1.1 12);have:=apl e1.1.1.1 (m:=12) gw;exact⟨ih.1.1,by show(Ek _ _).1.length<=12;rw[ih.2.1];omega,ih.2.2⟩
theorem aBg{r:dQ}{w:FB×dQ}(h:iB r)(hw:an3 r=aw w):Ov r w.2 (rq w.1)/\OU w.1/\w.1.2.1.length<=12:=by
 unfold an3 at hw;split at hw
 ·cases hw
 ·rename_i hc;cases hw;have e1:=gv h;have hc:0<=(zP 12 (bX r).2).1:=ak;have e2:=an1 e1.1.1 hc;have e3:=aeV (zP 12 (bX r).2).1.toNat e2.1.1;have g:=apm h;have e4:=uM g.1;have hl:((vE r).1.length:Int)=(zP 12 (bX r).2).1:=by show((Ek _ _).1.length:Int)=_;rw[e3.2.1];omega
  have:=((e1.1.trans e2.1).trans e3.1).trans e4;refine⟨this.of λ_=> ?_,⟨g.2.2,(B5 g.1.1).1⟩,g.2.1⟩;unfold rq;simp only[hl,aC];rfl
theorem YD:∀(l:List tj) {r:dQ} {x:List fB×dQ},iB r->Fx l r=aw x->Ov r x.2 (x.1.flatMap λy=>rq y.2.1)/\x.1.map (·.1)=l/\∀y∈x.1,OU y.2.1/\y.2.1.2.1.length<=12
 |[],r,x,h,hx=>by cases hx;exact⟨Ov.refl h,rfl,λx hx=>by cases hx⟩
 |o::l,r,x,h,hx=>by
  rw[Fx]at hx;split at hx
  ·cases hx
  ·rename_i w hw;have e:=aBg h hw;split at hx
   ·cases hx
   ·rename_i y hy;cases hx;have ih:=YD l e.1.1 hy;refine⟨?_,by rw[bS,ih.2.1],λz hz=> ?_⟩
    ·have:=e.1.trans ih.1;rw[cI];exact this
    ·rcases cz.1 hz with rfl | hz
     ·exact e.2
     ·exact ih.2.2 z hz
theorem abP{b:List Int}(h:(py b).2=aQ):py b=aq6:=by
 revert h
 unfold py;simp only[];split
 ·exact λ_=>rfl
 ·unfold ag6;split
  ·exact λ_=>rfl
  ·unfold agl;split
   ·exact λ_=>rfl
   ·intro h;cases h
theorem abO{b:List Int}(hb:Bytes b)(hl:b.length<=1000000000)(h:(py b).2=aW):∃t,py b=(t,aW)/\gS t=aW/\Ca t/\aap t=b:=by
 have k0:=TN hb hl;have k1:=acu k0 64;have o2:=adV (zP 64 (b,aQ,())).1.toNat k1;have k3:=acu o2.1.1 64
 revert h
 unfold py;simp only[];split
 ·intro h;cases h
 rename_i x hx;have o4:=VF _ k3 hx;have o5:=gv o4.1.1;unfold ag6;split
 ·intro h;cases h
 rename_i y hy;have o6:=YD _ o5.1.1 hy;unfold agl;split
 ·intro h;cases h
 rename_i hc;intro _;have c1:0<=(zP 64 (b,aQ,())).1:=by
  have:¬(zP 64 (b,aQ,())).1 < 0:=λz=>hc (jH z)
  omega
 have c2:0<=(zP 64 (Cr (zP 64 (b,aQ,())).1.toNat (zP 64 (b,aQ,())).2).2).1:=by
  have:¬(zP 64 (Cr (zP 64 (b,aQ,())).1.toNat (zP 64 (b,aQ,())).2).2).1 < 0:=λz=>hc (ez (jH z))
  omega
 have c3:y.2.2.1=aQ:=by cases hz:y.2.2.1 with | false=>rfl | true=>exact absurd (ez (ez (jH hz))) hc
 have c4:y.2.1=[]:=bP (by
  have:¬0 < y.2.1.length:=λz=>hc (ez (ez (ez (jH z))))
  omega)
 have c5:gS (y.1,x.1,(bX x.2).1,())=aW:=by
  cases hz:gS (y.1,x.1,(bX x.2).1,()) with
  |true=>rfl
  |false=>exact absurd (ez (ez (ez (ez hz)))) hc
 have u1:=an1 k0 c1;have u3:=an1 o2.1.1 c2;have all:=((((u1.1.trans o2.1).trans u3.1).trans o4.1).trans o5.1).trans o6.1;have ON:b=_:=(all.2 c3).2;rw[c4,bn]at ON;have l1:y.1.length=(zP 64 (b,aQ,())).1.toNat:=by rw[<-o2.2.1,<-o6.2.1,bR]
 have n1:(y.1.length:Int)=(zP 64 (b,aQ,())).1:=ak;have n2:(x.1.length:Int)=(zP 64 (Cr (zP 64 (b,aQ,())).1.toNat (zP 64 (b,aQ,())).2).2).1:=by rw[o4.2.1];omega
 have hm:∀z∈y.1,z.1∈(Cr (zP 64 (b,aQ,())).1.toNat (zP 64 (b,aQ,())).2).1:=λz hz=>by rw[<-o6.2.1];exact List.mem_map_of_mem hz
 refine⟨_,rfl,c5,⟨⟨λo ho=>(o4.2.2 o ho).2.2,by show y.1.length<=_;omega,by show x.1.length<=_;omega⟩,λz hz=>⟨o2.2.2 _ (hm z hz),(o6.2.2 z hz).1,by have:=(o6.2.2 z hz).2;omega⟩,(iA o4.1.1.1).2.1⟩,?_⟩;rw[afs c5];unfold aFL;simp only[n1,n2];rw[<-List.flatMap_map (f:=λz:fB=>z.1) (g:=Zc),o6.2.1];simp only[aC]at ON;exact ON.symm
def ayV(o:tj):A8:=(o,(0,aF,0,()),())
def aGh(x:fB):A8:=(x.1,(x.2.1.1,aw x.2.1.2.1,x.2.1.2.2),())
def aHO(x:A8):fB:=(x.1,(x.2.1.1,x.2.1.2.1.getD [],x.2.1.2.2),())
theorem aCf(l:List A8):aBr (.slice rh) (.slice dM) l=l.map aHO:=cK
theorem aDy(l:List fB):(l.map aGh).map aHO=l:=by rw[lq];have:(aHO∘aGh)=id:=rfl;rw[this,jP]
theorem aAn{t:Ty}{l:List t.den}{k:Nat}{y:t.den}(h:k < l.length):nth t (l.set k y) k=y:=by simp[nth,h]
theorem aAm{t:Ty}{a b:List t.den}{k:Nat}{y:t.den}(h:a.length=k):nth t (a++y::b) k=y:=by subst h;simp[nth]
theorem aA1{α:Type}{a b:List α}{k:Nat}{y z:α}(h:a.length=k):(a++y::b).set k z=a++z::b:=by subst h;simp
theorem QD{α:Type}{l:List α}{k:Nat}{y:α}:(l.set k y).take k=l.take k:=by rw[List.take_set,List.set_eq_of_length_le (by rw[ct];omega)]
theorem O7{α:Type}{l:List α}{k:Nat}{y:α}:(l.set k y).drop (k+1)=l.drop (k+1):=List.drop_set_of_lt ak
def asI:dQ->Prop:=λr=>jo r
def ao6:dQ->(Bs×dQ):=λr=>Cj r
def Xd:Fs Tryz.prog asI bm ao6:=fg 33 Tryz.f33 (λo0=>([.ptr (.eC 0) 0 [] 0],[.obj 0 aQ (.d gK o0)])) (λx=>⟨.d tH x.1,[.obj 0 aQ (.d gK x.2)],[]⟩) [aF] [Xp]
theorem axD(o0)(k:K1 R):Xd.A o0 k=aj (Ht.call (32,o0)) λx1=>aG (decide ((ae x1.1)<=32)) (k (Xd.out ((x1.1++(aX (ae x1.1) (ag 32 0))),x1.2))) aF:=cK
theorem axE:Xd.Ok:=by intro r h;have h:jo r:=h;have e:=(uE (n:=32) h).1;rw[axD,Qp (d:=(32,r)) ⟨gw,h.1⟩];simp only[ah,bm,TQ];rw[show ab 32=32 from rfl,aI e];rfl
theorem asJ:Xd.RS:=rE [.d gK] Xd
def axF:=Xd.fh axE
def amS:dQ->Prop:=λr=>jo r
def W3:dQ->(Bs×dQ):=λr=>wA r
def Hm:Fs Tryz.prog amS bm W3:=fg 35 Tryz.f35 (λo0=>([.ptr (.eC 0) 0 [] 0],[.obj 0 aQ (.d gK o0)])) (λx=>⟨.d tB x.1,[.obj 0 aQ (.d gK x.2)],[]⟩) [aF] [TP,Xp] {res:=[aw tB],Ch:=[⟨0,[.arr],gK⟩]}
theorem asA(o0)(k:K1 R):Hm.A o0 k=aj (BU.call o0) λx1=>aG (x1.2.2.1) (k (Hm.out (([]:List Int),x1.2))) (aj (Ht.call (x1.1,x1.2)) λx2=>k (Hm.out (x2.1,x2.2))):=cK
theorem asB:Hm.Ok:=by
 intro r h;have h:jo r:=h;have e:=iA h;rw[asA,pz (d:=r) h];simp only[ah,bm,vz,bm,W3,wA];cases hc:(bX r).2.2.1
 ·rw[au,Qp (d:=((bX r).1,(bX r).2)) ⟨e.1,e.2.2.1⟩];rfl
 ·rfl
theorem amT:Hm.RS:=rE [.d gK] Hm
def asC:=Hm.fh asB
def atO:(Int×dQ)->Prop:=λ(m,r)=>jo r
def OC:(Int×dQ)->(Int×dQ):=λ(m,r)=>zP m r
def Kb:Fs Tryz.prog atO bm OC:=fg 31 Tryz.f31 (λ(most,o1)=>([.d ti most,.ptr (.eC 0) 0 [] 0],[.obj 0 aQ (.ptr (.eC 1) 0 [] 0),.obj 0 aQ (.d gK o1)])) (λx=>⟨.d ti x.1,[.obj 0 aQ (.ptr (.eC 1) 0 [] 0),.obj 0 aQ (.d gK x.2)],[]⟩) [aw ti,aF] [TP]
theorem ayB(most o1)(k:K1 R):Kb.A (most,o1) k=aj (BU.call o1) λx1=>aG (xS x1.1 most) (k (Kb.out ((-1),x1.2))) (k (Kb.out (x1.1,x1.2))):=cK
theorem ayC:Kb.Ok:=by
 rintro⟨m,r⟩ h;have h:jo r:=h;rw[ayB,pz (d:=r) h];simp only[ah,bm,vz,bm,OC,zP];by_cases hc:(bX r).1 > m
 ·rw[dk hc,if_pos hc];rfl
 ·rw[cJ hc,if_neg hc];rfl
theorem QJ:Kb.RS:=rE [.d ti,.d gK] Kb
def ayD:=Kb.fh ayC
abbrev Lw:=Int×Int×Int×(Int×Unit)×Nat×(Int×Unit)×dQ×(List A8)
abbrev X8:=Nat×dQ×(List A8)
def yA:Lw->X8->((Int×(Int×Unit)×(Int×Unit))×(Nat×dQ×(List A8))):=λ(n,t20,t21,n2,aAd,n4,aD6,ahd) y=>((n,n2,n4),y)
abbrev zJ:=Int×Int×Int×Int×(Int×Unit)×Nat×Nat×(Int×Unit)×dQ×(List A8)×(List gb)
def pG:zJ->AS:=λ(vg,m,t37,t38,gD,Rv,Jn,y5,Vd,Ru,aBW)=>⟨([bK,bK,dX 2,bK,dX 4,dX 5,.fn 31 (.cons (dX 5) (.nil)),.d ti vg,.d ti m]++a9 28 ([.d ti t37,.d ti t38]++a9 93 [])),[],([[],[],cH (.pr (.cw) (.pr (.cw) (.d (.pair ti .unit) gD))),[],cH (.pr (iw 32 Rv) (.pr (iw 58 Jn) (.d (.pair ti .unit) y5))),cH (dX 16)]++bC 10 ([cH (.d gK Vd)]++bC 15 ([cH (.vec 47 rh Ru)]++bC 25 ([cH (.vec 55 dO aBW)]++bC 73 []))))⟩
def qw:(Int×Unit)->Exit×AS:=λx=>(.ret,⟨([bK,bK,dX 2,.d .bool aQ]++a9 128 []),[],([[],[],cH (.pr (.cw) (.pr (.cw) (.d (.pair ti .unit) x)))]++bC 129 [])⟩)
abbrev Sk:=(Int×Int×(Int×Unit)×Nat×(Int×Unit)×(List A8))×(Nat×dQ×(List gb))
def yD:Sk->Exit×AS:=λ((a,b,c,e,f,g),h,i,j)=>(.exit 2,⟨([bK,bK,dX 2,bK,dX 4,dX 5,.fn 31 (.cons (dX 5) (.nil)),.d ti a,.d ti b]++a9 123 []),[],([[],[],cH (.pr (.cw) (.pr (.cw) (.d (.pair ti .unit) c))),[],cH (.pr (iw 32 e) (.pr (iw 58 h) (.d (.pair ti .unit) f))),cH (dX 16)]++bC 10 ([cH (.d gK i)]++bC 15 ([cH (.vec 47 rh g)]++bC 25 ([cH (.vec 55 dO j)]++bC 73 []))))⟩)
abbrev Ly:=((Int×Unit))⊕(Sk)
abbrev Ya:=((Int×Unit))⊕((Nat×dQ×(List gb)))
def Ev:Ly->Out (Exit×AS):=λx=> .br x.isLeft (.get x.getLeft? λa=> .ok (qw a)) (.get x.getRight? λb=> .ok (yD b))
def lV:zJ->Ya->Ly:=λ(vg,m,t37,t38,gD,Rv,Jn,y5,Vd,Ru,aBW) y=>match y with | .inl y=> .inl y | .inr z=> .inr (((vg,m,gD,Rv,y5,Ru),z))
abbrev zK:=Int×Int×Int×Int×(Int×Unit)×Nat×Nat×(Int×Unit)×dQ×(List A8)×(List gb)
def pI:zK->AS:=λ(aC2,aCR,t66,t67,kc,Rw,Vp,MV,Ve,fG,Vs)=>⟨([bK,bK,dX 2,bK,dX 4,dX 5,.fn 31 (.cons (dX 5) (.nil)),.d ti aC2,.d ti aCR]++a9 57 ([.d ti t66,.d ti t67]++a9 64 [])),[],([[],[],cH (.pr (.cw) (.pr (.cw) (.d (.pair ti .unit) kc))),[],cH (.pr (iw 32 Rw) (.pr (iw 58 Vp) (.d (.pair ti .unit) MV))),cH (dX 16)]++bC 10 ([cH (.d gK Ve)]++bC 15 ([cH (.vec 47 rh fG)]++bC 25 ([cH (.vec 55 dO Vs)]++bC 73 []))))⟩
def qx:(Int×Unit)->Exit×AS:=λx=>(.ret,⟨([bK,bK,dX 2,.d .bool aQ]++a9 128 []),[],([[],[],cH (.pr (.cw) (.pr (.cw) (.d (.pair ti .unit) x)))]++bC 129 [])⟩)
abbrev Sn:=Int×Int×(Int×Unit)×Nat×Nat×(Int×Unit)×dQ×(List A8)×(List gb)
def yF:Sn->Exit×AS:=λ(a,b,c,e,f,g,h,i,j)=>(.exit 4,⟨([bK,bK,dX 2,bK,dX 4,dX 5,bK,.d ti a,.d ti b]++a9 123 []),[],([[],[],cH (.pr (.cw) (.pr (.cw) (.d (.pair ti .unit) c))),[],cH (.pr (iw 32 e) (.pr (iw 58 f) (.d (.pair ti .unit) g))),cH (dX 16)]++bC 10 ([cH (.d gK h)]++bC 15 ([cH (.vec 47 rh i)]++bC 25 ([cH (.vec 55 dO j)]++bC 73 []))))⟩)
abbrev LA:=((Int×Unit))⊕(Sn)
abbrev Yc:=((Int×Unit))⊕((Int×Int×(Int×Unit)×Nat×Nat×(Int×Unit)×dQ×(List A8)×(List gb)))
def Ew:LA->Out (Exit×AS):=λx=> .br x.isLeft (.get x.getLeft? λa=> .ok (qx a)) (.get x.getRight? λb=> .ok (yF b))
def lW:zK->Yc->LA:=λ(aC2,aCR,t66,t67,kc,Rw,Vp,MV,Ve,fG,Vs) y=>match y with | .inl y=> .inl y | .inr z=> .inr (z)
abbrev LB:=Int×Int×Int×Int×Int×Int×(Int×Unit)×Nat×Nat×(Int×Unit)×dQ×(List A8)×tj×Int×Nat×(Int×Unit)×(List A8)×(List gb)×(List Sg)
abbrev Yd:=dQ×(List A8)×(List Sg)
def yG:LB->Yd->((Int×Int×Int×Int×(Int×Unit)×Nat×Nat×(Int×Unit)×(List gb))×(dQ×(List A8)×(List Sg))):=λ(aC3,aCS,XL,CY,t85,t86,KQ,Vq,Vr,aln,abj,abk,abl,abm,Y8,abn,Vl,Vt,aAg) y=>((aC3,aCS,XL,CY,KQ,Vq,Vr,aln,Vt),y)
def afg:Lw->Prop:=λ(n,m,i,u,L,v,r,l)=>iB r/\m<=64/\∃k:Nat,i=k/\k<=64/\L=l.length/\l.length=k
def Eu:Lw->X8:=λ(n,m,i,u,L,v,r,l)=>(L+(m - i).toNat,(Cr (m - i).toNat r).2,l++(Cr (m - i).toNat r).1.map ayV)
def yC:zJ->Prop:=λ(n,m1,m,i,u,L,L2,v,r,l,os)=>iB r/\m<=64/\∃k:Nat,i=k/\k<=64/\L2=os.length/\os.length=k
def pF:zJ->Ya:=λ(n,m1,m,i,u,L,L2,v,r,l,os)=>match ER (m - i).toNat r with | none=> .inl (0,()) | some x=> .inr (L2+x.1.length,x.2,os++x.1)
def afk:LB->Prop:=λ(n,m1,mo,io,m,i,u,L,L2,v,r,la,op,br,Ls,sc,lb,os,sg)=>iB r/\m<=12/\∃k:Nat,i=k/\k<=12/\Ls=sg.length/\sg.length=k
def Ex:LB->Yd:=λ(n,m1,mo,io,m,i,u,L,L2,v,r,la,op,br,Ls,sc,lb,os,sg)=>((Ek (m - i).toNat r).2,la++(op,(br,aw (sg++(Ek (m - i).toNat r).1),sc),())::lb,sg++(Ek (m - i).toNat r).1)
def yE:zK->Prop:=λ(n,m1,m,i,u,L,L2,v,r,l,os)=>iB r/\l.length<=64/\∃k:Nat,i=k/\k<=l.length/\m=l.length/\L=l.length/\∀x∈l.drop k,x=ayV x.1
def pH:zK->Yc:=λ(n,m1,m,i,u,L,L2,v,r,l,os)=>match Fx ((l.drop i.toNat).map (·.1)) r with | none=> .inl (0,()) | some x=> .inr (n,m1,u,L,L2,v,x.2,l.take i.toNat++x.1.map aGh,os)
def att:Bs->Prop:=λb=>Bytes b/\b.length<=1000000000
def aff:Bs->(eT×Bool):=λb=>py b
def uJ:Ls afg yA Eu:=oP (λ(n,t20,t21,n2,aAd,n4,aD6,ahd)=>⟨([bK,bK,dX 2,bK,dX 4,dX 5,.fn 31 (.cons (dX 5) (.nil)),.d ti n]++a9 12 ([.d ti t20,.d ti t21]++a9 110 [])),[],([[],[],cH (.pr (.cw) (.pr (.cw) (.d (.pair ti .unit) n2))),[],cH (.pr (iw 32 aAd) (.pr (.cw) (.d (.pair ti .unit) n4))),cH (dX 16)]++bC 10 ([cH (.d gK aD6)]++bC 15 ([cH (.vec 47 rh ahd)]++bC 99 [])))⟩) (λx=>(.exit 0,⟨([bK,bK,dX 2,bK,dX 4,dX 5,.fn 31 (.cons (dX 5) (.nil)),.d ti x.1.1]++a9 124 []),[],([[],[],cH (.pr (.cw) (.pr (.cw) (.d (.pair ti .unit) x.1.2.1))),[],cH (.pr (iw 32 x.2.1) (.pr (.cw) (.d (.pair ti .unit) x.1.2.2))),cH (dX 16)]++bC 10 ([cH (.d gK x.2.2.1)]++bC 15 ([cH (.vec 47 rh x.2.2.2)]++bC 99 [])))⟩))
def X9:=eu.fD pG yC lV pF Ev
def J3:zJ->Option Ly:=jq X9 pG
def Yb:=eu.fD pI yE lW pH Ew
def J5:zK->Option LA:=jq Yb pI
def uK:Ls afk yG Ex:=oP (λ(aC3,aCS,XL,CY,t85,t86,KQ,Vq,Vr,aln,abj,abk,abl,abm,Y8,abn,Vl,Vt,aAg)=>⟨([bK,bK,dX 2,bK,dX 4,dX 5,.fn 31 (.cons (dX 5) (.nil)),.d ti aC3,.d ti aCS]++a9 4 ([.ptr (.new 32 0) 0 [.snd,.fst,.snd,.fst] ((0+((ab CY)*36))+33)]++a9 52 ([.d ti XL,.d ti CY]++a9 17 ([.d ti t85,.d ti t86]++a9 45 [])))),[],([[],[],cH (.pr (.cw) (.pr (.cw) (.d (.pair ti .unit) KQ))),[],cH (.pr (iw 32 Vq) (.pr (iw 58 Vr) (.d (.pair ti .unit) aln))),cH (dX 16)]++bC 10 ([cH (.d gK abj)]++bC 15 ([cH (.bx 47 36 (.pr (.d (.arr (0+(ab CY)) rh) abk) (.pr (.pr (.d oS abl) (.pr (.pr (.d ti abm) (.pr (iw 99 Y8) (.d (.pair tu .unit) abn))) YQ)) (.d (.arr (ae Vl) rh) Vl))))]++bC 25 ([cH (.vec 55 dO Vt)]++bC 40 ([cH (.vec 50 oE aAg)]++bC 32 [])))))⟩) (λx=>(.exit 6,⟨([bK,bK,dX 2,bK,dX 4,dX 5,.fn 31 (.cons (dX 5) (.nil)),.d ti x.1.1,.d ti x.1.2.1]++a9 4 ([.ptr (.new 32 0) 0 [.idx (0+(ab x.1.2.2.2.1)),.snd,.fst] ((0+((ab x.1.2.2.2.1)*36))+33)]++a9 52 ([.d ti x.1.2.2.1,.d ti x.1.2.2.2.1]++a9 64 []))),[],([[],[],cH (.pr (.cw) (.pr (.cw) (.d (.pair ti .unit) x.1.2.2.2.2.1))),[],cH (.pr (iw 32 x.1.2.2.2.2.2.1) (.pr (iw 58 x.1.2.2.2.2.2.2.1) (.d (.pair ti .unit) x.1.2.2.2.2.2.2.2.1))),cH (dX 16)]++bC 10 ([cH (.d gK x.2.1)]++bC 15 ([cH (.vec 47 rh x.2.2.1)]++bC 25 ([cH (.vec 55 dO x.1.2.2.2.2.2.2.2.2)]++bC 40 ([[.obj 0 aW (.vec 50 oE x.2.2.2)]]++bC 32 [])))))⟩))
def kJ:Fs Tryz.prog att bm aff:=fg 7 Tryz.f7 (λb=>([.d tB b],[])) (λx=>⟨.cons (.d eU x.1) (.cons (.d .bool x.2) (.nil)),[],[]⟩) [aw tB] [aiE,ayD,axF,TP,asC,awd,ao9,aAN,axI,oF] {bD:=[100031,100032],loops:=oN [(6,{aY:=[2,4,5,6,7,20,21],sites:=[2,4,5,16,32],owns:=[⟨4,[.fst],32,100022⟩]}),(11,{aY:=[2,4,5,6,7,8,37,38],sites:=[2,4,5,16,32,58],owns:=[⟨4,[.snd,.fst],58,23⟩]}),(21,{aY:=[2,4,5,6,7,8,66,67],sites:=[2,4,5,16,32,58]}),(29,{aY:=[2,4,5,6,7,8,13,66,67,85,86],sites:=[2,4,5,16,32,58,99],owns:=[⟨13,[.snd,.fst],99,39⟩],aIZ:=[13]})],outs:=oM [(6,{aY:=[2,4,5,6,7],sites:=[2,4,5,16,32]},{aY:=[2,3]}),(11,{aY:=[2,4,5,6,7,8],sites:=[2,4,5,16,32,58]},{aY:=[2,3],sites:=[2]}),(21,{aY:=[2,4,5,7,8],sites:=[2,4,5,16,32,58]},{aY:=[2,3],sites:=[2]}),(29,{aY:=[2,4,5,6,7,8,13,66,67],sites:=[2,4,5,16,32,58,99],aJw:=[13]},{aY:=[2,3]})],fE:=pX [(6,uJ.E),(11,X9),(21,Yb),(29,uK.E)],res:=[aw eU,aF]}
def Lx:= @fO Tryz.prog (oc kJ.G) kJ.an 0 Tryz.f7 1 _ pG
abbrev Sj:=oT Tryz.prog (oc kJ.G) kJ.an 0 Tryz.f7 1 pG yC lV pF Ev
def Lz:= @fO Tryz.prog (oc kJ.G) kJ.an 0 Tryz.f7 2 _ pI
abbrev Sl:=oT Tryz.prog (oc kJ.G) kJ.an 0 Tryz.f7 2 pI yE lW pH Ew
theorem afh:uJ.RS:=rL [.d ti,.d ti,.d ti,.d (.pair ti .unit),.n,.d (.pair ti .unit),.d gK,.d (.slice rh)] uJ
theorem J2(n t20 t21 n2 aAd n4 aD6 ahd)(kn:K2 R)(kx:K3 R):kJ.R 0 uJ (n,t20,t21,n2,aAd,n4,aD6,ahd) kn kx=aG (fV t21 t20) (aj (Xd.call aD6) λx7=>aj (BU.call x7.2) λx8=>aG (decide (aAd<=(ae ahd))) (aG (db (aAd+1) 80) (kn (uJ.st (n,t20,(bB .i64 t21 1),n2,(aAd+1),n4,x8.2,((aP aAd ahd)++ [((x7.1,(x8.1,())),((0,(aF,(0,()))),()))])))) aF) aF) (uJ.go kx ((n,n2,n4),(aAd,aD6,ahd))):=cK
theorem afi:nw J3 yC lV pF:=qL (qF [.d ti,.d ti,.d ti,.d ti,.d (.pair ti .unit),.n,.n,.d (.pair ti .unit),.d gK,.d (.slice rh),.d (.slice dO)] λ_=>cK)
theorem Ot:qN @Lx pG yC lV pF Ev Sj:=sk
theorem J4(vg m t37 t38 gD Rv Jn y5 Vd Ru aBW)(kn:K2 R)(kx:K3 R):Lx (vg,m,t37,t38,gD,Rv,Jn,y5,Vd,Ru,aBW) kn kx=aG (fV t38 t37) (aj (BU.call Vd) λLK=>aj (Hm.call LK.2) λaGn=>aj (yW.call aGn.1) λFy=>aG (!Fy.2) (kx (qw ((0:Int),())).1 (qw ((0:Int),())).2) (aG (decide (Jn<=(ae aBW))) (aG (db (Jn+1) 32) (kn (pG (vg,m,t37,(bB .i64 t38 (1:Int)),gD,Rv,(Jn+1),y5,aGn.2,Ru,((aP Jn aBW)++ [(LK.1,(Fy.1,()))])))) aF) aF)) (kx (yD ((vg,m,gD,Rv,y5,Ru),(Jn,Vd,aBW))).1 (yD ((vg,m,gD,Rv,y5,Ru),(Jn,Vd,aBW))).2):=cK
theorem afj:nw J5 yE lW pH:=qL (qF [.d ti,.d ti,.d ti,.d ti,.d (.pair ti .unit),.n,.n,.d (.pair ti .unit),.d gK,.d (.slice rh),.d (.slice dO)] λ_=>cK)
theorem Ou:qN @Lz pI yE lW pH Ew Sl:=sk
theorem J6(aC2 aCR t66 t67 kc Rw Vp MV Ve fG Vs)(kn:K2 R)(kx:K3 R):Lz (aC2,aCR,t66,t67,kc,Rw,Vp,MV,Ve,fG,Vs) kn kx=aG (fV t67 t66) (aG (ei t67 ((Rw:Nat):Int)) (aj (BU.call Ve) λLK=>aG (decide ((0+(ab t67)) < (ae fG))) (aG (decide ((((0+(ab t67))*36)+33)=(((0+((ab t67)*36))+33)+0))) (aG (decide ((0+(ab t67)) < (ae fG))) (aj (Kb.call ((12:Int),LK.2)) λajO=>aG (fV ajO.1 (0:Int)) (kx (qx ((0:Int),())).1 (qx ((0:Int),())).2) (aG (decide ((0+(ab t67)) < (ae (eE fG (0+(ab t67)) ((nth rh fG (0+(ab t67))).1,((LK.1,(nth rh fG (0+(ab t67))).2.1.2),(nth rh fG (0+(ab t67))).2.2)))))) (aG (Option.isNone (nth rh (eE fG (0+(ab t67)) ((nth rh fG (0+(ab t67))).1,((LK.1,(nth rh fG (0+(ab t67))).2.1.2),(nth rh fG (0+(ab t67))).2.2))) (0+(ab t67))).2.1.2.1) (aj (uK.call (aC2,aCR,t66,t67,ajO.1,(0:Int),kc,Rw,Vp,MV,ajO.2,(aP (0+(ab t67)) (eE fG (0+(ab t67)) ((nth rh fG (0+(ab t67))).1,((LK.1,(nth rh fG (0+(ab t67))).2.1.2),(nth rh fG (0+(ab t67))).2.2)))),((nth rh (eE fG (0+(ab t67)) ((nth rh fG (0+(ab t67))).1,((LK.1,(nth rh fG (0+(ab t67))).2.1.2),(nth rh fG (0+(ab t67))).2.2))) (0+(ab t67))).1.1,((nth rh (eE fG (0+(ab t67)) ((nth rh fG (0+(ab t67))).1,((LK.1,(nth rh fG (0+(ab t67))).2.1.2),(nth rh fG (0+(ab t67))).2.2))) (0+(ab t67))).1.2.1,(nth rh (eE fG (0+(ab t67)) ((nth rh fG (0+(ab t67))).1,((LK.1,(nth rh fG (0+(ab t67))).2.1.2),(nth rh fG (0+(ab t67))).2.2))) (0+(ab t67))).1.2.2)),(nth rh (eE fG (0+(ab t67)) ((nth rh fG (0+(ab t67))).1,((LK.1,(nth rh fG (0+(ab t67))).2.1.2),(nth rh fG (0+(ab t67))).2.2))) (0+(ab t67))).2.1.1,0,((nth rh (eE fG (0+(ab t67)) ((nth rh fG (0+(ab t67))).1,((LK.1,(nth rh fG (0+(ab t67))).2.1.2),(nth rh fG (0+(ab t67))).2.2))) (0+(ab t67))).2.1.2.2.1,(nth rh (eE fG (0+(ab t67)) ((nth rh fG (0+(ab t67))).1,((LK.1,(nth rh fG (0+(ab t67))).2.1.2),(nth rh fG (0+(ab t67))).2.2))) (0+(ab t67))).2.1.2.2.2),(aX ((0+(ab t67))+1) (eE fG (0+(ab t67)) ((nth rh fG (0+(ab t67))).1,((LK.1,(nth rh fG (0+(ab t67))).2.1.2),(nth rh fG (0+(ab t67))).2.2)))),Vs,([]:List Sg))) λFJ=>aj (NX.call FJ.2.1) λFy=>aG (decide ((0+(ab FJ.1.2.2.2.1)) < (ae FJ.2.2.1))) (aG (decide ((((0+(ab FJ.1.2.2.2.1))*36)+35)=(((0+((ab FJ.1.2.2.2.1)*36))+33)+2))) (aG (decide ((0+(ab FJ.1.2.2.2.1)) < (ae FJ.2.2.1))) (kn (pI (FJ.1.1,FJ.1.2.1,FJ.1.2.2.1,(bB .i64 FJ.1.2.2.2.1 (1:Int)),FJ.1.2.2.2.2.1,FJ.1.2.2.2.2.2.1,FJ.1.2.2.2.2.2.2.1,FJ.1.2.2.2.2.2.2.2.1,Fy.2,(eE FJ.2.2.1 (0+(ab FJ.1.2.2.2.1)) ((nth rh FJ.2.2.1 (0+(ab FJ.1.2.2.2.1))).1,(((nth rh FJ.2.2.1 (0+(ab FJ.1.2.2.2.1))).2.1.1,((nth rh FJ.2.2.1 (0+(ab FJ.1.2.2.2.1))).2.1.2.1,(Fy.1,(nth rh FJ.2.2.1 (0+(ab FJ.1.2.2.2.1))).2.1.2.2.2))),(nth rh FJ.2.2.1 (0+(ab FJ.1.2.2.2.1))).2.2))),FJ.1.2.2.2.2.2.2.2.2))) aF) aF) aF) aF) aF)) aF) aF) aF) aF) (kx (yF (aC2,aCR,kc,Rw,Vp,MV,Ve,fG,Vs)).1 (yF (aC2,aCR,kc,Rw,Vp,MV,Ve,fG,Vs)).2):=cK
theorem afl:uK.RS:=rL [.d ti,.d ti,.d ti,.d ti,.d ti,.d ti,.d (.pair ti .unit),.n,.n,.d (.pair ti .unit),.d gK,.d (.slice rh),.d oS,.d ti,.n,.d (.pair tu .unit),.d (.slice rh),.d (.slice dO),.d (.slice oE)] uK
theorem J7(aC3 aCS XL CY t85 t86 KQ Vq Vr aln abj abk abl abm Y8 abn Vl Vt aAg)(kn:K2 R)(kx:K3 R):kJ.R 3 uK (aC3,aCS,XL,CY,t85,t86,KQ,Vq,Vr,aln,abj,abk,abl,abm,Y8,abn,Vl,Vt,aAg) kn kx=aG (fV t86 t85) (aG (decide ((((0+(ab CY))*36)+34)=(((0+((ab CY)*36))+33)+1))) (aj (NX.call abj) λx7=>aj (NX.call x7.2) λx8=>aG (decide (Y8<=(ae aAg))) (aG (db (Y8+1) 16) (aG (decide ((((0+(ab CY))*36)+34)=(((0+((ab CY)*36))+33)+1))) (kn (uK.st (aC3,aCS,XL,CY,t85,(bB .i64 t86 1),KQ,Vq,Vr,aln,x8.2,abk,abl,abm,(Y8+1),abn,Vl,Vt,((aP Y8 aAg)++ [(x7.1,(x8.1,()))])))) aF) aF) aF) aF) (aG (decide (0=0/\(0+Y8)<=(ae aAg))) (uK.go kx ((aC3,aCS,XL,CY,KQ,Vq,Vr,aln,Vt),(abj,(abk++(abl,((abm,((aw (cut aAg 0 Y8)),abn)),()))::Vl),aAg))) aF):=cK
theorem ayr(b)(k:K1 R):kJ.A b k=aj (R8.call b) λx4=>aj (Kb.call (64,x4)) λx8=>aj (uJ.call (x8.1,x8.1,0,(0,()),0,(0,()),x8.2,([]:List A8))) λFK=>aj (Kb.call (64,FK.2.2.1)) λI4=>aj (J3 (FK.1.1,I4.1,I4.1,0,FK.1.2.1,FK.2.1,0,FK.1.2.2,I4.2,FK.2.2.2,([]:List gb))) λaFV=>aG aFV.isLeft (aj aFV.getLeft? λa83=>k (kJ.out ((([]:List fB),(([]:List gb),a83)),aQ))) (aj aFV.getRight? λb84=>aj (BU.call b84.2.2.1) λaFW=>aj (J5 (b84.1.1,b84.1.2.1,((b84.1.2.2.2.1:Nat):Int),0,b84.1.2.2.1,b84.1.2.2.2.1,b84.2.1,(aFW.1,b84.1.2.2.2.2.1.2),aFW.2,b84.1.2.2.2.2.2,b84.2.2.2)) λayO=>aG ayO.isLeft (aj ayO.getLeft? λa125=>k (kJ.out ((([]:List fB),(([]:List gb),a125)),aQ))) (aj ayO.getRight? λb126=>aG (fV b126.1 0) (k (kJ.out ((([]:List fB),(([]:List gb),(0,()))),aQ))) (aG (fV b126.2.1 0) (k (kJ.out ((([]:List fB),(([]:List gb),(0,()))),aQ))) (aj (am0.call b126.2.2.2.2.2.2.1) λaBj=>aG (!aBj.2) (k (kJ.out ((([]:List fB),(([]:List gb),(0,()))),aQ))) (aj (Xe.call aBj.1) λaDD=>aG (xS aDD.2 0) (k (kJ.out ((([]:List fB),(([]:List gb),(0,()))),aQ))) (aG (decide (0=0/\(0+b126.2.2.2.1)<=(ae b126.2.2.2.2.2.2.2.1))) (aG (decide (0=0/\(0+b126.2.2.2.2.1)<=(ae b126.2.2.2.2.2.2.2.2))) (aj (eV.call ((aBr (.slice rh) (.slice dM) (cut b126.2.2.2.2.2.2.2.1 0 b126.2.2.2.1)),((cut b126.2.2.2.2.2.2.2.2 0 b126.2.2.2.2.1),b126.2.2.2.2.2.1))) λaDE=>aG (!aDE) (k (kJ.out ((([]:List fB),(([]:List gb),(0,()))),aQ))) (aG (decide (0=0/\(0+b126.2.2.2.1)<=(ae b126.2.2.2.2.2.2.2.1))) (aG (decide (0=0/\(0+b126.2.2.2.2.1)<=(ae b126.2.2.2.2.2.2.2.2))) (k (kJ.out (((aBr (.slice rh) (.slice dM) (cut b126.2.2.2.2.2.2.2.1 0 b126.2.2.2.1)),((cut b126.2.2.2.2.2.2.2.2 0 b126.2.2.2.2.1),b126.2.2.2.2.2.1)),aW))) aF) aF)) aF) aF)))))):=cK
theorem aju:(kJ.j8 0 uJ):=by
 refine(kJ.lX 0 uJ) (λ(n,m,i,u,L,v,r,l)=>(m - i).toNat) ?_
 rintro⟨n,m,i,u,L,v,r,l⟩ ⟨hr,hm,k,rfl,hk,rfl,ajQ⟩;have hr:iB r:=hr;have hm:m<=64:=hm;have ajQ:l.length=k:=ajQ;by_cases h:(k:Int) < m
 ·left;have e1:(m - (k:Int)).toNat=(m - ((k+1:Nat):Int)).toNat+1:=ak;have h1:=Mn hr;refine⟨(n,m,((k+1:Nat):Int),u,l.length+1,v,(adR r).2,l++ [ayV (adR r).1]),⟨(gv h1.1).1.1,hm,k+1,rfl,ak,by rw[ai];rfl,by rw[ai];show l.length+1=_;omega⟩,by show(m - ((k+1:Nat):Int)).toNat < (m - (k:Int)).toNat;omega,?_,λkn kx=> ?_⟩
  ·simp only[yA,Eu,e1,Cr,bS,aC,bQ];rw[show ∀a c:Nat,a+1+c=a+(c+1) from λa c=>ak]
  ·rw[J2,aU h,asJ (d:=r) hr.1];simp only[ao,ah,bm,ao6];rw[pz (d:=(Cj r).2) h1.1.1];simp only[ah,bm,vz];rw[aI (az _),cV ak ak,N.ot ak,bt];rfl
 ·right;intro R kn kx;have e1:(m - (k:Int)).toNat=0:=ak;rw[J2,aT h,au];simp only[yA,Eu,e1,Cr,eX,bn,bM]
theorem ajv:Sj:=by
 refine Ot (λ(n,m1,m,i,u,L,L2,v,r,l,os)=>(m - i).toNat) ?_
 rintro⟨n,m1,m,i,u,L,L2,v,r,l,os⟩ ⟨hr,hm,k,rfl,hk,rfl,ajQ⟩;have hr:iB r:=hr;have hm:m<=64:=hm;have ajQ:os.length=k:=ajQ;by_cases h:(k:Int) < m
 ·have e1:(m - (k:Int)).toNat=(m - ((k+1:Nat):Int)).toNat+1:=ak;have h1:=gv hr;have h2:=L0 h1.1.1;have step:∀ {R:Type} (kn:AS->Option R) (kx:Exit->AS->Option R),Lx (n,m1,m,(k:Int),u,L,os.length,v,r,l,os) kn kx=aG (!(qA (wA (bX r).2).1).2) (kx (qw (0,())).1 (qw (0,())).2) (kn (pG (n,m1,m,((k+1:Nat):Int),u,L,os.length+1,v,(Bk r).2,l,os++ [(Bk r).1]))):=by intro R kn kx;rw[J4,aU h,pz (d:=r) hr.1];simp only[ao,ah,bm,vz];rw[amT (d:=(bX r).2) h1.1.1.1];simp only[ah,bm,W3];rw[aqP (d:=(wA (bX r).2).1) ⟨h2.2.1,h2.2.2⟩];simp only[ah,bm,adz];rw[aI (az _),cV ak ak,N.ot ak,bt];rfl
  cases hp:(qA (wA (bX r).2).1).2
  ·right;refine⟨qw (0,()),?_,λkn kx=> ?_⟩
   ·simp only[lV,pF,e1,ER,hp,bU,bz];rfl
   ·rw[step,hp];rfl
  ·left;refine⟨(n,m1,m,((k+1:Nat):Int),u,L,os.length+1,v,(Bk r).2,l,os++ [(Bk r).1]),⟨h2.1.1,hm,k+1,rfl,ak,by rw[ai];rfl,by rw[ai];show os.length+1=_;omega⟩,by show(m - ((k+1:Nat):Int)).toNat < (m - (k:Int)).toNat;omega,?_,λkn kx=> ?_⟩
   ·simp only[lV,pF,e1,ER,hp,bN];cases ER (m - ((k+1:Nat):Int)).toNat (Bk r).2 with
    |none=>rfl
    |some x=>
     simp only[aE,aC,bQ];rw[show ∀a c:Nat,a+1+c=a+(c+1) from λa c=>ak]
   ·rw[step,hp];rfl
 ·right;have e1:(m - (k:Int)).toNat=0:=ak;refine⟨yD ((n,m1,u,L,v,l),(os.length,r,os)),?_,λkn kx=> ?_⟩
  ·simp only[lV,pF,e1,ER,bj,bM,bn];rfl
  ·rw[J4,aT h,au]
theorem ajx:(kJ.j8 3 uK):=by
 refine(kJ.lX 3 uK) (λ(n,m1,mo,io,m,i,u,L,L2,v,r,la,op,br,Ls,sc,lb,os,sg)=>(m - i).toNat) ?_
 rintro⟨n,m1,mo,io,m,i,u,L,L2,v,r,la,op,br,Ls,sc,lb,os,sg⟩ ⟨hr,hm,k,rfl,hk,rfl,ajQ⟩;have hr:iB r:=hr;have hm:m<=12:=hm;have ajQ:sg.length=k:=ajQ;by_cases h:(k:Int) < m
 ·left;have e1:(m - (k:Int)).toNat=(m - ((k+1:Nat):Int)).toNat+1:=ak;have h1:=uM hr;have h2:=uM h1.1;refine⟨(n,m1,mo,io,m,((k+1:Nat):Int),u,L,L2,v,(aeU r).2,la,op,br,sg.length+1,sc,lb,os,sg++ [(aeU r).1]),⟨h2.1,hm,k+1,rfl,ak,by rw[ai];rfl,by rw[ai];show sg.length+1=_;omega⟩,by show(m - ((k+1:Nat):Int)).toNat < (m - (k:Int)).toNat;omega,?_,λkn kx=> ?_⟩
  ·simp only[yG,Ex,e1,Ek,aC,bQ]
  ·rw[J7,aU h,aI ak,Hu (d:=r) hr.1];simp only[ao,ah,bm,Qq];rw[Hu (d:=(oo r).2) h1.1.1];simp only[ah,bm,Qq];rw[aI (az _),cV ak ak,N.ot ak,bt];rfl
 ·right;intro R kn kx;have e1:(m - (k:Int)).toNat=0:=ak;rw[J7,aT h,au];simp only[yG,Ex,e1,Ek,bn,aH,az,eW,bA,ao,dw]
theorem ajw:Sl:=by
 refine Ou (λ(n,m1,m,i,u,L,L2,v,r,l,os)=>l.length - i.toNat) ?_
 rintro⟨n,m1,m,i,u,L,L2,v,r,l,os⟩ ⟨hr,hl,k,rfl,hk,rfl,rfl,hg⟩;have hr:iB r:=hr;have hl:l.length<=64:=hl;have hk:k<=l.length:=hk;by_cases h:k < l.length
 ·have n1:nth rh l k=l[k]:=cC (t:=rh) h;have hd:l.drop k=l[k]::l.drop (k+1):=aq h;have dj:l[k]=ayV l[k].1:=hg _ (by rw[hd];exact bf);obtain⟨op,aFb⟩:∃op,l[k].1=op:=⟨_,rfl⟩;rw[aFb]at dj;have h1:=gv hr;have h2:=acu h1.1.1 12;have h3:=apl h1.1.1.1 (m:=12) gw;have hw:=apm hr;have hu:=uM hw.1;have zU:(l.take k).length=k:=by rw[ct];omega
  have step:∀ {R:Type} (kn:AS->Option R) (kx:Exit->AS->Option R),Lz (n,m1,(l.length:Int),(k:Int),u,l.length,L2,v,r,l,os) kn kx=aG (fV (zP 12 (bX r).2).1 0) (kx (qx (0,())).1 (qx (0,())).2) (kn (pI (n,m1,(l.length:Int),((k+1:Nat):Int),u,l.length,L2,v,(oo (vE r).2).2,l.take k++(op,((bX r).1,aw (vE r).1,(oo (vE r).2).1,()),())::l.drop (k+1),os))):=by
   intro R kn kx;rw[J6,aU ak,bo ak ak,pz (d:=r) hr.1];have ns:∀y:A8,nth rh (l.set k y) k=y:=λy=>aAn (t:=rh) h
   have nm:∀(y:A8) (b:List A8),nth rh (l.take k++y::b) k=y:=λy b=>aAm (t:=rh) zU
   simp only[ao,ah,bm,vz,aa,aH,bM,n1,dj,aI h,bA];rw[QJ (d:=(12,(bX r).2)) h1.1.1.1];simp only[ao,ah,bm,OC];refine c7 (λz=>aG _ _ z) ?_
   simp only[ed,aI h,ao,ayV,ns,QD,O7,Option.isNone_none];rw[afl (d:=(n,m1,(l.length:Int),(k:Int),(zP 12 (bX r).2).1,0,u,l.length,L2,v,(zP 12 (bX r).2).2,l.take k,op,(bX r).1,0,(0,()),l.drop (k+1),os,[])) ⟨h2,h3.2,0,rfl,gw,rfl,rfl⟩];simp only[ah,yG,Ex,iK,aO];rw[show Ek (zP 12 (bX r).2).1.toNat (zP 12 (bX r).2).2=vE r from rfl,Hu (d:=(vE r).2) hw.1.1];simp only[ah,bm,Qq,aa,nm,aA1 zU,aI (show k < (l.take k++(op,((bX r).1,aw (vE r).1,0,()),())::l.drop (k+1)).length by rw[ai,aE];omega),dz,Nat.reduceAdd,bA,ao];rw[N.ot ak]
  by_cases hp:(zP 12 (bX r).2).1 < 0
  ·right;refine⟨qx (0,()),?_,λkn kx=> ?_⟩
   ·simp only[lW,pH,aa,hd,bS,Fx,an3,if_pos hp];rfl
   ·rw[step,aU hp,ao]
  ·left;have YV:(l.take k++(op,((bX r).1,aw (vE r).1,(oo (vE r).2).1,()),())::l.drop (k+1)).length=l.length:=by rw[ai,aE,da];omega
   have aI6:(l.take k++(op,((bX r).1,aw (vE r).1,(oo (vE r).2).1,()),())::l.drop (k+1)).drop (k+1)=l.drop (k+1):=by rw[List.append_cons,kX (by rw[ai];show(l.take k).length+1=_;omega)]
   have aDX:(l.take k++(op,((bX r).1,aw (vE r).1,(oo (vE r).2).1,()),())::l.drop (k+1)).take (k+1)=l.take k++ [(op,((bX r).1,aw (vE r).1,(oo (vE r).2).1,()),())]:=by rw[List.append_cons,kY (by rw[ai];show(l.take k).length+1=_;omega)]
   refine⟨(n,m1,(l.length:Int),((k+1:Nat):Int),u,l.length,L2,v,(oo (vE r).2).2,l.take k++(op,((bX r).1,aw (vE r).1,(oo (vE r).2).1,()),())::l.drop (k+1),os),⟨hu.1,by rw[YV];exact hl,k+1,rfl,by rw[YV];omega,by rw[YV],by rw[YV],by rw[aI6];exact λx hx=>hg x (by rw[hd];exact aV _ hx)⟩,by simp only[aa,YV];omega,?_,λkn kx=> ?_⟩
   ·simp only[lW,pH,aa,aI6,aDX,hd,bS,Fx,an3,if_neg hp,aFb];cases Fx ((l.drop (k+1)).map (·.1)) (oo (vE r).2).2 with
    |none=>rfl
    |some x=>
     simp only[bS,aC,bQ];rfl
   ·rw[step,aT hp,au]
 ·right;obtain rfl:k=l.length:=ak;refine⟨yF (n,m1,u,l.length,L2,v,r,l,os),?_,λkn kx=> ?_⟩
  ·simp only[lW,pH,aa,aN,eX,Fx,bt,bn];rfl
  ·rw[J6,aT ak,au]
theorem aAa(l:List tj):(l.map ayV).map (·.1)=l:=by rw[lq];have:((λx:A8=>x.1)∘ayV)=id:=rfl;rw[this,jP]
theorem ays:kJ.Ok:=by
 rintro b ⟨hb,hl⟩;have hb:Bytes b:=hb;have hl:b.length<=1000000000:=hl;have k0:=TN hb hl;have k1:=acu k0 64;have u1:=apl k0.1 (m:=64) gw;rw[ayr,abV (d:=b) hl];simp only[ah,bm,aeN,bm,aff,py];rw[QJ (d:=(64,(b,aQ,()))) k0.1];simp only[ah,bm,OC];generalize zP 64 (b,aQ,())=n at*;have o2:=adV n.1.toNat k1;rw[afh (d:=(n.1,n.1,0,(0,()),0,(0,()),n.2,[])) ⟨k1,u1.2,0,rfl,gw,rfl,rfl⟩];simp only[ah,yA,Eu,iK,aO,aH];generalize Cr n.1.toNat n.2=ops at*;have k3:=acu o2.1.1 64;have u3:=apl o2.1.1.1 (m:=64) gw;rw[QJ (d:=(64,ops.2)) o2.1.1.1];simp only[ah,bm,OC];generalize zP 64 ops.2=m at*;rw[afi (d:=(n.1,m.1,m.1,0,(0,()),n.1.toNat,0,(0,()),m.2,ops.1.map ayV,[])) ⟨k3,u3.2,0,rfl,gw,rfl,rfl⟩];simp only[ah,lV,pF,iK,aO,aH];cases hx:ER m.1.toNat m.2 with
 |none=>rfl
 |some x=>
  have o4:=VF _ k3 hx;have o5:=gv o4.1.1;have ol:(ops.1.map ayV).length=n.1.toNat:=by rw[bR];exact o2.2.1
  simp only[fb,dW,au,ah];rw[pz (d:=x.2) o4.1.1.1];simp only[ah,bm,vz];rw[afj (d:=(n.1,m.1,(n.1.toNat:Int),0,(0,()),n.1.toNat,x.1.length,((bX x.2).1,()),(bX x.2).2,ops.1.map ayV,x.1)) ⟨o5.1.1,by rw[ol];omega,0,rfl,aL _,by rw[ol],by rw[ol],λz hz=>by
   rw[aM]at hz;obtain⟨o,_,rfl⟩:=fm.1 hz;rfl⟩]
  simp only[ah,lW,pH,aS,aM,dI,aO,aAa,ag6];cases hy:Fx ops.1 (bX x.2).2 with
  |none=>rfl
  |some y=>
   have o6:=YD _ o5.1.1 hy;have yl:y.1.length=n.1.toNat:=by rw[<-o2.2.1,<-o6.2.1,bR]
   have yl2:(y.1.map aGh).length=n.1.toNat:=by rw[bR];exact yl
   simp only[fb,dW,au,ah,agl];by_cases c1:n.1 < 0
   ·rw[aU c1,ao,if_pos (jH c1)];rfl
   rw[aT c1,au];by_cases c2:m.1 < 0
   ·rw[aU c2,ao,if_pos (ez (jH c2))];rfl
   rw[aT c2,au,axO (d:=y.2) trivial];simp only[ah,aiD,axM,Bool.not_not];cases c3:y.2.2.1
   ·rw[au,asL (d:=y.2) trivial];simp only[ah,abS,ao7];by_cases c4:0 < y.2.1.length
    ·rw[dk ak,ao,if_pos (ez (ez (ez (jH c4))))];rfl
    ·rw[cJ ak,au,aI ⟨by trivial,ak⟩,aI ⟨by trivial,ak⟩,dw yl2,dw rfl,aCf,aDy];simp only[ao];rw[jz (d:=(y.1,x.1,(bX x.2).1,())) ⟨λo ho=>(o4.2.2 o ho).2.2,by show y.1.length<=_;omega,by show x.1.length<=_;have:=o4.2.1;omega⟩];simp only[ah,bm,mQ];cases c5:gS (y.1,x.1,(bX x.2).1,())
     ·rw[if_pos (ez (ez (ez (ez (by trivial)))))];rfl
     ·rw[if_neg (by
       rintro(z | z | z | z | z)
       ·exact c1 z
       ·exact c2 z
       ·cases z
       ·exact c4 z
       ·cases z)]
      rfl
   ·rw[ao,if_pos (ez (ez (jH (by trivial))))];rfl
theorem acm:kJ.RS:=rE [.d tB] kJ
def ajy:=kJ.fh ays 4 ⟨.fD aju,⟨.fD ajv,⟨.fD ajw,⟨.fD ajx,trivial⟩⟩⟩⟩
def aFY(t:eT):Prop:=(∀x∈t.1,Sm x.1.1/\OU x.2.1)/\(∀o∈t.2.1,YH o.2.1)/\t.2.2.1<=9223372036854775807
theorem XF{t:eT}(h:Lr t=aW):t.1.length<=66/\t.2.1.length<=66/\(∀x∈t.1,x.2.1.2.1.length<=14)/\∀o∈t.2.1,o.2.1.1.length<=6/\∀b∈o.2.1.1,b.1.length<=14:=by
 unfold Lr at h;simp only[al,bh,cf]at h;refine⟨h.1.1,h.1.2,λx hx=> ?_,λo ho=> ?_⟩
 ·have:=h.2.1 x hx;unfold we at this;simpa using this
 ·have:=h.2.2 o ho;unfold re at this;simp only[al,bh,cf]at this;refine⟨this.1,λb hb=> ?_⟩;have:=this.2 b hb;unfold wc at this;simpa using this
theorem ayb{t:eT}(hg:aFY t)(h:Lr t=aW):Ca t/\CZ t/\at5 t:=by obtain⟨h1,h2,h3,h4⟩:=XF h;refine⟨⟨⟨λo ho=>⟨hg.2.1 o ho,by have:=(h4 o ho).1;omega⟩,ak,ak⟩,λx hx=>⟨(hg.1 x hx).1,(hg.1 x hx).2,by have:=h3 x hx;omega⟩,hg.2.2⟩,⟨⟨ak,λx hx=>by have:=h3 x hx;omega⟩,ak,λo ho=>⟨by have:=(h4 o ho).1;omega,λb hb=>by have:=(h4 o ho).2 b hb;omega⟩⟩,⟨ak,λx hx=>by have:=h3 x hx;omega⟩,ak,λo ho=>⟨by have:=(h4 o ho).1;omega,λb hb=>by have:=(h4 o ho).2 b hb;omega⟩⟩
theorem N9{t:eT}(h:gS t=aW):CZ t:=by
 obtain⟨⟨_,a2,a3,_⟩,b1,b2⟩:=jO h;exact⟨⟨ak,λx hx=>by have:=qE (iD _ _ b1 x hx);omega⟩,ak,λo ho=>by
  have:=adx (ku _ _ b2 o ho).2;exact⟨ak,λb hb=>by have:=this.2 b hb;omega⟩⟩
theorem C7{α:Type}{f:α->List Int}{l:List α}(h:∀x∈l,Bytes (f x)):Bytes (l.flatMap f):=λb hb=>by obtain⟨x,hx,hb⟩:=gL.1 hb;exact h x hx b hb
theorem Gf{α:Type}{f:α->List Int}{n:Nat}:∀ {l:List α},(∀x∈l,(f x).length<=n)->(l.flatMap f).length<=n*l.length
 |[],_=>aL _
 |x::l,h=>by
  rw[cI,ai,aE,Nat.mul_add,gq];have h1:=h x bf;have h2:=Gf (l:=l) λy hy=>h y (aV _ hy)
  omega
theorem aco{t:eT}(hv:Ca t):Bytes (aap t)/\(aap t).length<=1000000:=by
 cases gT:gS t
 ·unfold aap;rw[gT];exact⟨λx hx=>(by cases hx),aL _⟩
 obtain⟨⟨a1,a2,a3,a4⟩,b1,b2⟩:=jO gT;have aaZ:∀x∈t.1,_:=λx hx=>qE (iD _ _ b1 x hx)
 rw[afs gT];have n0:∀ {n:Nat},n<=1000->zX (n:Int):=λh=>lC ak
 have e1:∀x∈t.1,Bytes (Zc x.1)/\(Zc x.1).length<=43:=λx hx=>by have hi:=aaZ x hx;have hr:=kH x.1.2.1;have hs:=(hv.2.1 x hx).1;exact⟨fX hs.2 (lj ⟨hi.1,ak⟩),by unfold Zc;rw[ai,hs.1];omega⟩
 have e2:∀o∈t.2.1,Bytes (qS o)/\(qS o).length<=1022:=λo ho=>by have hi:=(ku _ _ b2 o ho).1;have hr:=kH o.1;have aow:=kH (EO o.2.1).length;have hl:=Dk o.2.1;exact⟨fX (lj ⟨hi.1,ak⟩) (fX (lj (n0 hl)) (aa9 _)),by unfold qS;rw[ai,ai];omega⟩
 have e3:∀x∈t.1,Bytes (rq x.2.1)/\(rq x.2.1).length<=300:=λx hx=>by
  have hi:=aaZ x hx;have hr:=kH x.2.1.1;have aow:=kH x.2.1.2.1.length;have hf:=Gf (f:=ai0) (n:=16) (l:=x.2.1.2.1) λs _=>by unfold ai0;rw[ai,bT,bT];omega
  refine⟨fX (lj ⟨hi.2.2.1,ak⟩) (fX (lj (n0 ak)) (fX (C7 λs _=>fX (Ce _) (Ce _)) (Ce _))),?_⟩;unfold rq;simp only[ai,bT];omega
 have f1:=Gf (f:=λx:fB=>Zc x.1) (n:=43) (l:=t.1) λx hx=>(e1 x hx).2
 have f2:=Gf (f:=qS) (n:=1022) (l:=t.2.1) λx hx=>(e2 x hx).2
 have f3:=Gf (f:=λx:fB=>rq x.2.1) (n:=300) (l:=t.1) λx hx=>(e3 x hx).2
 have r1:=kH t.1.length;have r2:=kH t.2.1.length;have r3:=kH t.2.2.1;refine⟨fX (lj (n0 ak)) (fX (C7 λx hx=>(e1 x hx).1) (fX (lj (n0 ak)) (fX (C7 λx hx=>(e2 x hx).1) (fX (lj ⟨a4,hv.2.2⟩) (C7 λx hx=>(e3 x hx).1))))),?_⟩;unfold aFL;simp only[ai];omega
section
section
variable {β:Type} {kt:Ty}
theorem aor(hc:kt.comp=aW)(o o':kt.den)(v:β):∀l:List (kt.den×β),sX kt o (sY kt o' v l)=if kt.beq o o'=aW then aw v else sX kt o l
 |[]=>by rw[aqV,vf,PH]
 |p::l=>by
  rw[U9];by_cases h:kt.beq o' p.1=aW
  ·rw[if_pos h,vf,vf];have e:=beq_eq kt _ _ hc h;by_cases h2:kt.beq o o'=aW
   ·rw[if_pos h2,if_pos h2]
   ·rw[if_neg h2,if_neg h2,if_neg (by rw[<-e];exact h2)]
  ·rw[if_neg h,vf,vf,aor hc o o' v l];by_cases h3:kt.beq o p.1=aW
   ·rw[if_pos h3,if_pos h3,if_neg];intro h4;apply h;rw[<-beq_eq kt _ _ hc h4];exact h3
   ·rw[if_neg h3,if_neg h3]
end
theorem ayh:oS.comp=aW:=rfl
theorem ay9(a b:tj):(Ty.beq oS a b=aW)↔a=b:=⟨beq_eq oS a b rfl,λh=>by rw[h];exact beq_refl oS b rfl⟩
def Bl(l:List gb):Int:=(l.map (·.1)).sum
theorem Gs(x:gb)(xs:List gb):Bl (x::xs)=x.1+Bl xs:=by simp[Bl]
abbrev R0:=Bs×Nat×Int×(List Int)
def ZS:R0->Prop:=λ(h,m,i,l)=>h.length=32/\m=l.length/\∃k:Nat,k<=32/\i=k/\l.length<=100000000+k
def AL:R0->(Nat×(List Int)):=λ(h,m,i,l)=>((l++h.drop i.toNat).length,l++h.drop i.toNat)
def amJ:(Bs×Bs)->Prop:=λ(b,h)=>b.length<=90000000/\h.length=32
def WV:(Bs×Bs)->Bs:=λ(b,h)=>b++h
def qk:Ls ZS bm AL:=oP (λ(B7,outL,i,n7)=>⟨([bK,bK,bK,.dB tH B7,bK,iw 7 outL,.d ti i]++a9 14 []),[],(bC 7 ([cH (.vec 5 tb n7)]++bC 13 []))⟩) (λx=>(.exit 0,⟨(a9 5 ([iw 7 x.1]++a9 15 [])),[],(bC 7 ([cH (.vec 5 tb x.2)]++bC 13 []))⟩))
def BR:Fs Tryz.prog amJ bm WV:=fg 114 Tryz.f114 (λ(b,h)=>([.d tB b,.d tH h],[])) (λx=>⟨.d tB x,[],[]⟩) [aw tB,aw tH] [] {bD:=[7],loops:=oN [(3,{aY:=[3,5,6],sites:=[7],owns:=[⟨5,[],7,26⟩]})],outs:=oM [(3,{aY:=[5],sites:=[7]},{aY:=[4]})],fE:=pX [(3,qk.E)],res:=[aw tB]}
theorem ZT:qk.RS:=rL [.d tH,.n,.d ti,.d tB] qk
theorem He(B7 outL i n7)(kn:K2 R)(kx:K3 R):BR.R 0 qk (B7,outL,i,n7) kn kx=aG (fV i 32) (aG (ei i 32) (aG (decide (outL<=(ae n7))) (aG (db (outL+1) 1) (kn (qk.st (B7,(outL+1),(bB .i64 i 1),((aP outL n7)++ [(nth tb B7 (ab i))])))) aF) aF) aF) (qk.go kx (outL,n7)):=cK
theorem asm(b h)(k:K1 R):BR.A (b,h) k=aG (db (0+(ae b)) 1) (aj (qk.call (h,(0+(ae b)),0,((aP 0 (ag 0 0))++b))) λx1=>aG (decide (0=0/\(0+x1.1)<=(ae x1.2))) (k (BR.out (cut x1.2 0 x1.1))) aF) aF:=cK
theorem aeE:(BR.j8 0 qk):=by
 refine(BR.lX 0 qk) (λ(_,_,i,_)=>(32 - i).toNat) ?_
 rintro⟨h,m,i,l⟩ ⟨aCn,rfl,k,hk,rfl,hl⟩;have aCn:h.length=32:=aCn;have hl:l.length<=100000000+k:=hl;by_cases jQ:k < 32
 ·left;have n1:nth tb h k=h[k]:=cC (t:=tb) ak;have el:(l++ [h[k]]).length=l.length+1:=by rw[ai];rfl
  refine⟨(h,l.length+1,((k+1:Nat):Int),l++ [h[k]]),⟨aCn,el.symm,k+1,ak,rfl,by show(l++ [h[k]]).length<=_;omega⟩,by show(32 - ((k+1:Nat):Int)).toNat < (32 - (k:Int)).toNat;omega,?_,λkn kx=> ?_⟩
  ·simp only[bm,AL,aa];rw[aq (show k < h.length by omega),aC,bQ]
  ·rw[He,aU ak,ao,bo ak ak,ao,aI (az _),ao,cV ak ak,ao,N.ot ak,aa,n1,bt]
 ·right;obtain rfl:k=32:=ak;intro T kn kx;rw[He,aT ak,au];simp only[bm,AL,aa];rw[dh ak,bn]
theorem asn:BR.Ok:=by rintro⟨b,h⟩ ⟨hb,aCn⟩;have hb:b.length<=90000000:=hb;have aCn:h.length=32:=aCn;rw[asm];simp only[aH,dI,aO];rw[cV ak ak,ao,ZT (d:=(h,b.length,0,b)) ⟨aCn,rfl,0,ak,rfl,ak⟩];simp only[ah,bm,AL,aS,aM,az,eW,bA,ao,dw,bm,WV]
theorem amK:BR.RS:=rE [.d tB,.d tB] BR
def aso:=BR.fh asn 1 ⟨.fD aeE,trivial⟩
def amL:(Bs×Int)->Prop:=λ(b,n)=>b.length<=90000000/\n<=9223372036854775807
def WW:(Bs×Int)->(Nat×(List Int)):=λ(b,n)=>((df b n).length,df b n)
def Hf:Fs Tryz.prog amL bm WW:=fg 66 Tryz.f66 (λ(b,n)=>([.d tB b,.d ti n],[])) (λx=>⟨.dx (.new 0 0) 0 [] 0 0 x.1,[],[.obj 0 aQ (.vec 5 tb x.2)]⟩) [aw tB,aw ti] [ais] {bD:=[6],owns:=[⟨4,[],6,26⟩]}
theorem asp(b n)(k:K1 R):Hf.A (b,n) k=aG (db (0+(ae b)) 1) (aG (B8 n 0) (aj (Lj n) λx1=>aG (decide ((0+(ae b))<=(ae ((aP 0 (ag 0 0))++b)))) (aG (db ((0+(ae b))+(ae x1)) 1) (k (Hf.out (((0+(ae b))+(ae x1)),((aP (0+(ae b)) ((aP 0 (ag 0 0))++b))++x1)))) aF) aF) (k (Hf.out ((0+(ae b)),((aP 0 (ag 0 0))++b))))) aF:=cK
theorem asq:Hf.Ok:=by
 rintro⟨b,n⟩ ⟨hb,hn⟩;have hb:b.length<=90000000:=hb;have hn:n<=9223372036854775807:=hn;rw[asp];simp only[aH,dI,aO,bm,WW,df,az,bA,ao,bt];rw[cV ak ak,ao];by_cases h:n>=0
 ·have hl:=kH n;rw[gf h,ao,if_neg ak,abN (d:=n) ⟨h,hn,by have e:(128:Int)^(8+1)=9223372036854775808:=rfl;rw[e];show n < _;omega⟩];simp only[ah,s6,AN];rw[cV ak ak,ai];rfl
 ·rw[eH h,if_pos ak];rfl
theorem amM:Hf.RS:=rE [.d tB,.d ti] Hf
def asr:=Hf.fh asq
def amH:(Bs×Bs)->Prop:=λ(b,c)=>b.length+c.length<=80000000
def WU:(Bs×Bs)->Bs:=λ(b,c)=>b++(fe c.length++c)
def Li:Fs Tryz.prog amH bm WU:=fg 115 Tryz.f115 (λ(b,c)=>([.d tB b,.d tB c],[])) (λx=>⟨.d tB x,[],[]⟩) [aw tB,aw tB] [asr] {res:=[aw tB]}
theorem asi(b c)(k:K1 R):Li.A (b,c) k=aj (Hf.call (b,(c.length:Int))) λx1=>aG (decide (x1.1<=(ae x1.2))) (aG (db (x1.1+(ae c)) 1) (aG (decide (0=0/\(0+(x1.1+(ae c)))<=(ae ((aP x1.1 x1.2)++c)))) (k (Li.out (cut ((aP x1.1 x1.2)++c) 0 (x1.1+(ae c))))) aF) aF) aF:=cK
theorem asj:Li.Ok:=by
 rintro⟨b,c⟩ h;have h:b.length+c.length<=80000000:=h;have hl:=eJ b c.length;have e:df b c.length=b++fe c.length:=by unfold df;rw[if_neg ak]
 have el:(b++fe c.length++c).length=(b++fe c.length).length+c.length:=ai;rw[asi,amM (d:=(b,(c.length:Int))) ⟨by show b.length<=_;omega,by show(c.length:Int)<=_;omega⟩];simp only[ah,bm,WW,az,bA,ao,bt,aH,hJ];rw[e]at hl ⊢;rw[cV ak ak,ao,aI ak,ao,dw el];simp only[bm,WU,aC]
theorem amI:Li.RS:=rE [.d tB,.d tB] Li
def asl:=Li.fh asj
def arC:FB->Prop:=λ_=>True
def aeh:FB->Bool:=λw=>xA w
def M9:Fs Tryz.prog arC bm aeh:=fg 58 Tryz.f58 (λwv=>([.d TS wv],[])) (λx=>⟨.d .bool x,[],[]⟩) [aw TS]
theorem awW(wv)(k:K1 R):M9.A wv k=aG (B8 wv.1 0) (aG (aoy wv.1 3) (k (M9.out (aoy (wv.2.1.length:Int) 12))) (k (M9.out aQ))) (k (M9.out aQ)):=cK
theorem awX:M9.Ok:=by
 rintro⟨b,ss,sc,u⟩ _;rw[awW];simp only[bm,aeh,xA];by_cases h:0<=b
 ·rw[gf h,ao];by_cases h2:b < 4
  ·rw[yV ak,ao,aI ⟨h,h2⟩,bI];by_cases h3:ss.length<=12
   ·rw[yV ak,aI h3]
   ·rw[sS ak,aJ h3]
  ·rw[sS ak,au,aJ (λx=>h2 x.2),dG]
 ·rw[eH h,au,aJ (λx=>h x.1),dG]
theorem arD:M9.RS:=rE [.d TS] M9
def awY:=M9.fh awX
def UD(pre:List fB)(o:tj):Bool:=pre.any λy=>Ty.beq oS y.1 o
def agL:List fB->List fB->Bool
 |_,[]=>aW
 |pre,x::l=>(F7 x && !(UD pre x.1)) && agL (pre++ [x]) l
theorem avT:∀(l:List fB) (m:List (tj×Bool)) (pre:List fB),(∀o,(sX oS o m).getD aQ=UD pre o)->MC m l=agL pre l
 |[],_,_,_=>rfl
 |x::l,m,pre,h=>by
  have e:Q4 m x=UD pre x.1:=h x.1;rw[MC,agL,e,avT l (sY oS x.1 aW m) (pre++ [x]) λo=> ?_,Bool.and_comm (F7 x)];rw[aor ayh];unfold UD;rw[List.any_append];simp only[List.any_cons,List.any_nil,Bool.or_false];by_cases h1:o=x.1
  ·rw[if_pos ((ay9 _ _).2 h1),(ay9 x.1 o).2 h1.symm,Bool.or_true];rfl
  ·rw[if_neg (λe=>h1 ((ay9 _ _).1 e)),h o];have:Ty.beq oS x.1 o=aQ:=by
    cases hb:Ty.beq oS x.1 o with
    |false=>rfl
    |true=>exact absurd ((ay9 _ _).1 hb).symm h1
   rw[this,Bool.or_false];rfl
def y7(o:gb):Bool:=u6 o.1 && og o.2.1
theorem ahx:∀(l:List gb) (s:Int),0<=s->s<=1125899906842624->y9 s l=(l.all y7 && decide (s+Bl l<=1125899906842624))
 |[],s,h0,h1=>by rw[aI (show s+Bl []<=1125899906842624 by show s+0<=_;omega)];rfl
 |o::l,s,h0,h1=>by
  have hc:u6 s=aW:=aI ⟨h0,h1⟩;rw[y9,fp,Gs];unfold I6;rw[hc,bI,show y7 o=(u6 o.1 && og o.2.1) from rfl];cases c1:u6 o.1 with
  |false=>rfl
  |true=>
   have c2:0<=o.1/\o.1<=1125899906842624:=of_decide_eq_true c1;rw[bI,bI];by_cases hs:s+o.1<=1125899906842624
   ·rw[aI hs,bI,ahx l (s+o.1) ak hs,Int.add_assoc,Bool.and_assoc]
   ·rw[aJ hs,dG,dG];cases hl:l.all y7 with
    |false=>cases og o.2.1 <;> rfl
    |true=>
     have key:∀l:List gb,l.all y7=aW->0<=Bl l:=by
      intro l
      induction l with
      |nil=>intro _;exact wx 0
      |cons x l ih=>
       intro h;rw[fp,al]at h;have h1:=h.1;unfold y7 at h1;rw[al]at h1;have h2:0<=x.1/\x.1<=1125899906842624:=of_decide_eq_true h1.1;have:=ih h.2;rw[Gs];omega
     have:=key l hl;rw[aJ (show ¬s+(o.1+Bl l)<=1125899906842624 by omega)];cases og o.2.1 <;> rfl
abbrev qU:=eT×Int
def kB:qU->AS:=λ(gR,i)=>⟨([bK,.dB eU gR,bK,.d ti i]++a9 100 []),[],(ag 104 [])⟩
def fa:Unit->Exit×AS:=λx=>(.ret,⟨([bK,bK,.d .bool aQ]++a9 101 []),[],(ag 104 [])⟩)
def rM:eT->Exit×AS:=λx=>(.exit 0,⟨([bK,.dB eU x]++a9 102 []),[],(ag 104 [])⟩)
abbrev BA:=(Unit)⊕(eT)
abbrev Jz:=(Unit)⊕(eT)
def xi:BA->Out (Exit×AS):=λx=> .br x.isLeft (.get x.getLeft? λa=> .ok (fa a)) (.get x.getRight? λb=> .ok (rM b))
def ij:qU->Jz->BA:=λ(gR,i) y=>match y with | .inl y=> .inl y | .inr z=> .inr (z)
abbrev qV:=eT×Int×Int×fB
def kC:qV->AS:=λ(sh,eI,kv,n4)=>⟨([bK,.dB eU sh,bK,.d ti eI,dX 4,.d ti kv]++a9 98 []),[],(bC 4 ([cH (.d dM n4)]++bC 99 []))⟩
def ld:Unit->Exit×AS:=λx=>(.ret,⟨([bK,bK,.d .bool aQ]++a9 101 []),[],(ag 104 [])⟩)
def rO:(eT×Int)->Exit×AS:=λx=>(.exit 2,⟨([bK,.dB eU x.1,bK,.d ti x.2]++a9 100 []),[],(ag 104 [])⟩)
abbrev BC:=(Unit)⊕((eT×Int))
abbrev JB:=(Unit)⊕(Unit)
def xj:BC->Out (Exit×AS):=λx=> .br x.isLeft (.get x.getLeft? λa=> .ok (ld a)) (.get x.getRight? λb=> .ok (rO b))
def ik:qV->JB->BC:=λ(sh,eI,kv,n4) y=>match y with | .inl y=> .inl y | .inr z=> .inr ((sh,eI))
abbrev qW:=eT×Int×Int
def kD:qW->AS:=λ(xt,sum,oV)=>⟨([bK,.dB eU xt]++a9 4 ([.d ti sum,.d ti oV]++a9 96 [])),[],(ag 104 [])⟩
def fT:Unit->Exit×AS:=λx=>(.ret,⟨([bK,bK,.d .bool aQ]++a9 101 []),[],(ag 104 [])⟩)
def rQ:Int->Exit×AS:=λx=>(.exit 4,⟨(a9 6 ([.d ti x]++a9 97 [])),[],(ag 104 [])⟩)
abbrev BE:=(Unit)⊕(Int)
abbrev JD:=(Unit)⊕(Int)
def xk:BE->Out (Exit×AS):=λx=> .br x.isLeft (.get x.getLeft? λa=> .ok (fT a)) (.get x.getRight? λb=> .ok (rQ b))
def il:qW->JD->BE:=λ(xt,sum,oV) y=>match y with | .inl y=> .inl y | .inr z=> .inr (z)
def rN:qV->Prop:=λ(t,i,j,x)=>∃(n k:Nat),n<=t.1.length/\k<=n/\n<=1000/\i=n/\j=k
def jW:qV->JB:=λ(t,i,j,x)=>if UD ((t.1.take i.toNat).drop j.toNat) x.1 then .inl () else .inr ()
def rK:qU->Prop:=λ(t,i)=>t.1.length<=64/\∃k:Nat,k<=t.1.length/\i=k
def jV:qU->Jz:=λ(t,i)=>if agL (t.1.take i.toNat) (t.1.drop i.toNat) then .inr t else .inl ()
def rP:qW->Prop:=λ(t,s,i)=>t.2.1.length<=64/\(∀o∈t.2.1,YH o.2.1)/\∃k:Nat,k<=t.2.1.length/\i=k/\0<=s/\s<=(k:Int)*1125899906842624
def jX:qW->JD:=λ(t,s,i)=>if(t.2.1.drop i.toNat).all y7 then .inr (s+Bl (t.2.1.drop i.toNat)) else .inl ()
def aen:eT->Prop:=λt=>aBn t
def nK:eT->Bool:=λt=>gS t
def Jy:=eu.fD kB rK ij jV xi
def CB:qU->Option BA:=jq Jy kB
def JA:=eu.fD kC rN ik jW xj
def CD:qV->Option BC:=jq JA kC
def JC:=eu.fD kD rP il jX xk
def CF:qW->Option BE:=jq JC kD
def dy:Fs Tryz.prog aen bm nK:=fg 13 Tryz.f13 (λt=>([.d eU t],[])) (λx=>⟨.d .bool x,[],[]⟩) [aw eU] [awY,GJ] {loops:=oN [(4,{aY:=[1,3]}),(10,{aY:=[1,3,4,5],sites:=[4]}),(16,{aY:=[1,6,7]})],outs:=oM [(4,{aY:=[1]},{aY:=[2]}),(10,{aY:=[1,3]},{aY:=[2]}),(16,{aY:=[6]},{aY:=[2]})],fE:=pX [(4,Jy),(10,JA),(16,JC)]}
def Bz:= @fO Tryz.prog (oc dy.G) dy.an 0 Tryz.f13 0 _ kB
abbrev GM:=oT Tryz.prog (oc dy.G) dy.an 0 Tryz.f13 0 kB rK ij jV xi
def BB:= @fO Tryz.prog (oc dy.G) dy.an 0 Tryz.f13 1 _ kC
abbrev GO:=oT Tryz.prog (oc dy.G) dy.an 0 Tryz.f13 1 kC rN ik jW xj
def BD:= @fO Tryz.prog (oc dy.G) dy.an 0 Tryz.f13 2 _ kD
abbrev GQ:=oT Tryz.prog (oc dy.G) dy.an 0 Tryz.f13 2 kD rP il jX xk
theorem S6:nw CB rK ij jV:=qL (qF [.d eU,.d ti] λ_=>cK)
theorem GN:qN @Bz kB rK ij jV xi GM:=sk
theorem CC(gR i)(kn:K2 R)(kx:K3 R):Bz (gR,i) kn kx=aG (fV i (((ae gR.1):Nat):Int)) (aG (ei i (((ae gR.1):Nat):Int)) (aG (fV (nth dM gR.1 (ab i)).1.2.1 (0:Int)) (kx (fa ()).1 (fa ()).2) (aG (xS (nth dM gR.1 (ab i)).1.2.1 (63:Int)) (kx (fa ()).1 (fa ()).2) (aj (M9.call (nth dM gR.1 (ab i)).2.1) λx1=>aG (!x1) (kx (fa ()).1 (fa ()).2) (aj (CD (gR,i,(0:Int),(nth dM gR.1 (ab i)))) λx2=>aG x2.isLeft (aj x2.getLeft? λa3=>kx (fa ()).1 (fa ()).2) (aj x2.getRight? λb4=>kn (kB (b4.1,(bB .i64 b4.2 (1:Int))))))))) aF) (kx (rM gR).1 (rM gR).2):=cK
theorem S7:nw CD rN ik jW:=qL (qF [.d eU,.d ti,.d ti,.d dM] λ_=>cK)
theorem GP:qN @BB kC rN ik jW xj GO:=sk
theorem CE(sh eI kv n4)(kn:K2 R)(kx:K3 R):BB (sh,eI,kv,n4) kn kx=aG (fV kv eI) (aG (ei kv (((ae sh.1):Nat):Int)) (aG (Ty.beq oS (nth dM sh.1 (ab kv)).1 n4.1) (kx (ld ()).1 (ld ()).2) (kn (kC (sh,eI,(bB .i64 kv (1:Int)),n4)))) aF) (kx (rO (sh,eI)).1 (rO (sh,eI)).2):=cK
theorem S8:nw CF rP il jX:=qL (qF [.d eU,.d ti,.d ti] λ_=>cK)
theorem GR:qN @BD kD rP il jX xk GQ:=sk
theorem CG(xt sum oV)(kn:K2 R)(kx:K3 R):BD (xt,sum,oV) kn kx=aG (fV oV (((ae xt.2.1):Nat):Int)) (aG (ei oV (((ae xt.2.1):Nat):Int)) (aG (fV (nth dO xt.2.1 (ab oV)).1 (0:Int)) (kx (fT ()).1 (fT ()).2) (aG (xS (nth dO xt.2.1 (ab oV)).1 (1125899906842624:Int)) (kx (fT ()).1 (fT ()).2) (aj (jC.call (nth dO xt.2.1 (ab oV)).2.1) λx1=>aG (!x1) (kx (fT ()).1 (fT ()).2) (kn (kD (xt,(bB .i64 sum (nth dO xt.2.1 (ab oV)).1),(bB .i64 oV (1:Int)))))))) aF) (kx (rQ sum).1 (rQ sum).2):=cK
theorem ah1(t)(k:K1 R):dy.A t k=aG (fV (t.1.length:Int) 1) (k (dy.out aQ)) (aG (xS (t.1.length:Int) 64) (k (dy.out aQ)) (aG (xS (t.2.1.length:Int) 64) (k (dy.out aQ)) (aG (fV t.2.2.1 0) (k (dy.out aQ)) (aj (CB (t,0)) λx5=>aG x5.isLeft (aj x5.getLeft? λa6=>k (dy.out aQ)) (aj x5.getRight? λb7=>aj (CF (b7,0,0)) λx9=>aG x9.isLeft (aj x9.getLeft? λa10=>k (dy.out aQ)) (aj x9.getRight? λb11=>k (dy.out (aoy b11 1125899906842624)))))))):=cK
theorem Wl:GO:=by
 refine GP (λ(_,i,j,_)=>(i - j).toNat) ?_
 rintro⟨t,i,j,x⟩ ⟨n,k,hn,hk,hm,rfl,rfl⟩;by_cases jQ:k < n
 ·have ayQ:k < (t.1.take n).length:=by rw[ct];omega
  have n1:nth dM t.1 k=t.1[k]:=cC (t:=dM) ak;have hd:(t.1.take n).drop k=t.1[k]::(t.1.take n).drop (k+1):=by rw[aq ayQ,List.getElem_take]
  have hh:UD ((t.1.take n).drop k) x.1=(Ty.beq oS t.1[k].1 x.1 || UD ((t.1.take n).drop (k+1)) x.1):=by rw[hd];rfl
  have step:∀ {R:Type} (kn:AS->Option R) (kx:Exit->AS->Option R),BB (t,(n:Int),(k:Int),x) kn kx=aG (Ty.beq oS t.1[k].1 x.1) (kx (ld ()).1 (ld ()).2) (kn (kC (t,(n:Int),((k+1:Nat):Int),x))):=by intro R kn kx;rw[CE,aU ak,ao,bo ak ak,ao,aa,n1,N.ot ak]
  cases hb:Ty.beq oS t.1[k].1 x.1 with
  |true=>
   right;refine⟨ld (),?_,λkn kx=> ?_⟩
   ·simp only[ik,jW,aa,hh,hb,Bool.true_or,bN];rfl
   ·rw[step,hb,ao]
  |false=>
   left;refine⟨(t,(n:Int),((k+1:Nat):Int),x),⟨n,k+1,hn,ak,hm,rfl,rfl⟩,by show((n:Int) - ((k+1:Nat):Int)).toNat < ((n:Int) - (k:Int)).toNat;omega,?_,λkn kx=> ?_⟩
   ·simp only[ik,jW,aa,hh,hb,Bool.false_or]
   ·rw[step,hb,au]
 ·right;obtain rfl:k=n:=ak;have e:(t.1.take k).drop k=[]:=dh (by rw[ct];omega);refine⟨rO (t,(k:Int)),?_,λkn kx=> ?_⟩
  ·simp only[ik,jW,aa,e];rfl
  ·rw[CE,aT ak,au]
theorem Wk:GM:=by
 refine GN (λ(t,i)=>t.1.length - i.toNat) ?_
 rintro⟨t,i⟩ ⟨yU,k,hk,rfl⟩;have yU:t.1.length<=64:=yU;have hk:k<=t.1.length:=hk;by_cases jQ:k < t.1.length
 ·have n1:nth dM t.1 k=t.1[k]:=cC (t:=dM) jQ;have hd:agL (t.1.take k) (t.1.drop k)=((F7 t.1[k] && !(UD (t.1.take k) t.1[k].1)) && agL (t.1.take (k+1)) (t.1.drop (k+1))):=by rw[aq jQ,agL,dV jQ]
  have step:∀ {R:Type} (kn:AS->Option R) (kx:Exit->AS->Option R),Bz (t,(k:Int)) kn kx=aG (F7 t.1[k] && !(UD (t.1.take k) t.1[k].1)) (kn (kB (t,((k+1:Nat):Int)))) (kx (fa ()).1 (fa ()).2):=by
   intro R kn kx;rw[CC,aU ak,ao,bo ak ak,ao,aa,n1];unfold F7;by_cases h1:t.1[k].1.2.1 < 0
   ·rw[aU h1,ao,aJ ak];rfl
   rw[aT h1,au];by_cases h2:t.1[k].1.2.1 > 63
   ·rw[dk h2,ao,aJ ak];rfl
   rw[cJ h2,au,aI ak,arD (d:=t.1[k].2.1) trivial];simp only[ah,bm,aeh,bI];cases xA t.1[k].2.1 with
   |false=>rfl
   |true=>
    rw[cd,au,bI,S7 (d:=(t,(k:Int),0,t.1[k])) ⟨k,0,hk,aL _,ak,rfl,rfl⟩];simp only[ah,ik,jW,aa,aS,aM];cases UD (t.1.take k) t.1[k].1 with
    |true=>rfl
    |false=>
     simp only[bU,bz,fb,au,dW,ah,eP,ao];rw[N.ot ak]
  cases hp:F7 t.1[k] && !(UD (t.1.take k) t.1[k].1)
  ·right;refine⟨fa (),?_,λkn kx=> ?_⟩
   ·simp only[ij,jV,aa,hd,hp,dG,bU,bz];rfl
   ·rw[step,hp,au]
  ·left;refine⟨(t,((k+1:Nat):Int)),⟨yU,k+1,ak,rfl⟩,by simp only[aa];omega,?_,λkn kx=> ?_⟩
   ·simp only[ij,jV,aa,hd,hp,bI]
   ·rw[step,hp,ao]
 ·right;obtain rfl:k=t.1.length:=ak;refine⟨rM t,?_,λkn kx=> ?_⟩
  ·simp only[ij,jV,aa,aN];rfl
  ·rw[CC,aT ak,au]
theorem Wm:GQ:=by
 refine GR (λ(t,_,i)=>t.2.1.length - i.toNat) ?_
 rintro⟨t,s,i⟩ ⟨yU,hu,k,hk,rfl,h0,h1⟩;have yU:t.2.1.length<=64:=yU;have hk:k<=t.2.1.length:=hk;have h0:0<=s:=h0;have h1:s<=(k:Int)*1125899906842624:=h1;by_cases jQ:k < t.2.1.length
 ·have n1:nth dO t.2.1 k=t.2.1[k]:=cC (t:=dO) jQ;have hd:t.2.1.drop k=t.2.1[k]::t.2.1.drop (k+1):=aq jQ;have step:∀ {R:Type} (kn:AS->Option R) (kx:Exit->AS->Option R),BD (t,s,(k:Int)) kn kx=aG (y7 t.2.1[k]) (kn (kD (t,s+t.2.1[k].1,((k+1:Nat):Int)))) (kx (fT ()).1 (fT ()).2):=by
   intro R kn kx;rw[CG,aU ak,ao,bo ak ak,ao,aa,n1];unfold y7 u6;by_cases c1:t.2.1[k].1 < 0
   ·rw[aU c1,ao,aJ ak];rfl
   rw[aT c1,au];by_cases c2:t.2.1[k].1 > 1125899906842624
   ·rw[dk c2,ao,aJ ak];rfl
   rw[cJ c2,au,aI ak,DP (d:=t.2.1[k].2.1) (hu _ (ba jQ))];simp only[ah,bm,zj,bI];rw[iC ak ak,N.ot ak];cases og t.2.1[k].2.1 <;> rfl
  cases hp:y7 t.2.1[k]
  ·right;refine⟨fT (),?_,λkn kx=> ?_⟩
   ·simp only[il,jX,aa,hd,fp,hp,dG,bU,bz];rfl
   ·rw[step,hp,au]
  ·left;have hp':=hp;unfold y7 at hp';rw[al]at hp';have c:0<=t.2.1[k].1/\t.2.1[k].1<=1125899906842624:=of_decide_eq_true hp'.1;refine⟨(t,s+t.2.1[k].1,((k+1:Nat):Int)),⟨yU,hu,k+1,ak,rfl,by show 0<=s+t.2.1[k].1;omega,by show s+t.2.1[k].1<=((k+1:Nat):Int)*1125899906842624;omega⟩,by simp only[aa];omega,?_,λkn kx=> ?_⟩
   ·simp only[il,jX,aa,hd,fp,hp,bI,Gs,Int.add_assoc]
   ·rw[step,hp,ao]
 ·right;obtain rfl:k=t.2.1.length:=ak;refine⟨rQ s,?_,λkn kx=> ?_⟩
  ·simp only[il,jX,aa,aN];rw[show s+Bl ([]:List gb)=s+0 from rfl,Int.add_zero];rfl
  ·rw[CG,aT ak,au]
theorem ah2:dy.Ok:=by
 intro t hv;have hv:aBn t:=hv;rw[ah1];simp only[bm,nK,gS,Yu];by_cases h1:t.1.length < 1
 ·rw[aU ak,aJ ak];rfl
 by_cases h2:t.1.length > 64
 ·rw[aT ak,au,dk ak,aJ ak];rfl
 by_cases h3:t.2.1.length > 64
 ·rw[aT ak,au,cJ ak,au,dk ak,aJ ak];rfl
 rw[aT ak,au,cJ ak,au,cJ ak,au];by_cases h4:t.2.2.1 < 0
 ·rw[aU h4,aJ ak];rfl
 rw[aT h4,au,aI ak,bI,S6 (d:=(t,0)) ⟨by show t.1.length<=64;omega,0,aL _,rfl⟩];simp only[ah,ij,jV,aS,aM,dI];rw[avT t.1 [] [] (λo=>by rw[PH];rfl),ahx t.2.1 0 gw gw];cases agL [] t.1 with
 |false=>rfl
 |true=>
  simp only[bN,fb,au,dW,ah,bI];rw[S8 (d:=(t,0,0)) ⟨by show t.2.1.length<=64;omega,λo ho=>(hv.1 o ho).1,0,aL _,rfl,wx 0,ak⟩];simp only[ah,il,jX,aS,aM];cases t.2.1.all y7 with
  |false=>rfl
  |true=>
   simp only[bN,fb,au,dW,ah,bI];by_cases hs:0+Bl t.2.1<=1125899906842624
   ·rw[yV hs,aI hs]
   ·rw[sS hs,aJ hs]
theorem lR:dy.RS:=rE [.d eU] dy
def nb:=dy.fh ah2 3 ⟨.fD Wk,⟨.fD Wl,⟨.fD Wm,trivial⟩⟩⟩
abbrev Bx:=eT×Bs×Int
def rI:Bx->Bs->((eT)×(Bs)):=λ(gR,b,i) y=>(gR,y)
abbrev By:=eT×Bs×Int
def rJ:By->Bs->((eT)×(Bs)):=λ(sh,fI,eI) y=>(sh,y)
def SZ:Bx->Prop:=λ(t,b,i)=>(t.1).length<=1000000000/\∃k:Nat,k<=(t.1).length/\i=k/\(t.1.length<=64)/\(∀x∈t.1,x.1.1.length=32/\x.1.2.1<=9223372036854775807)/\(b.length<=100+50*k)
def vV:Bx->Bs:=λ(t,b,i)=>(aX (ab i) t.1).foldl Iw b
def S3:By->Prop:=λ(t,b,i)=>(t.2.1).length<=1000000000/\∃k:Nat,k<=(t.2.1).length/\i=k/\(t.2.1.length<=64)/\(∀o∈t.2.1,o.1<=9223372036854775807/\YH o.2.1)/\(b.length<=4000+1100*k)
def vW:By->Bs:=λ(t,b,i)=>(aX (ab i) t.2.1).foldl IV b
def aej:eT->Prop:=λt=>gS t=aW/\Ca t
def K9:eT->Bs:=λt=>qJ t
def lO:Ls SZ rI vV:=oP (λ(gR,b,i)=>⟨([bK,.dB eU gR,bK,.d tB b,.d ti i]++a9 63 []),[],(ag 68 [])⟩) (λx=>(.exit 0,⟨([bK,.dB eU x.1,bK,.d tB x.2]++a9 64 []),[],(ag 68 [])⟩))
def lP:Ls S3 rJ vW:=oP (λ(sh,fI,eI)=>⟨([bK,.dB eU sh,bK,.d tB fI,bK,.d ti eI]++a9 62 []),[],(ag 68 [])⟩) (λx=>(.exit 2,⟨([bK,.dB eU x.1,bK,.d tB x.2]++a9 64 []),[],(ag 68 [])⟩))
def lN:Fs Tryz.prog aej bm K9:=fg 63 Tryz.f63 (λt=>([.d eU t],[])) (λx=>⟨.d tB x,[],[]⟩) [aw eU] [WT,aso,RK,asl] {loops:=oN [(3,{aY:=[1,3,4]}),(9,{aY:=[1,3,5]})],outs:=oM [(3,{aY:=[1,3]},{aY:=[2]}),(9,{aY:=[1,3]},{aY:=[2]})],fE:=pX [(3,lO.E),(9,lP.E)],res:=[aw tB]}
theorem S0:lO.RS:=rL [.d eU,.d tB,.d ti] lO
theorem Cz(gR b i)(kn:K2 R)(kx:K3 R):lN.R 0 lO (gR,b,i) kn kx=aG (fV i (gR.1.length:Int)) (aG (ei i (gR.1.length:Int)) (aj (BR.call (b,(nth dM gR.1 (ab i)).1.1)) λx1=>aG (ei i (gR.1.length:Int)) (aj (uY.call (x1,(nth dM gR.1 (ab i)).1.2.1)) λx2=>kn (lO.st (gR,x2,(bB .i64 i 1)))) aF) aF) (lO.go kx (gR,b)):=cK
theorem S4:lP.RS:=rL [.d eU,.d tB,.d ti] lP
theorem CA(sh fI eI)(kn:K2 R)(kx:K3 R):lN.R 1 lP (sh,fI,eI) kn kx=aG (fV eI (sh.2.1.length:Int)) (aG (ei eI (sh.2.1.length:Int)) (aj (uY.call (fI,(nth dO sh.2.1 (ab eI)).1)) λx1=>aG (ei eI (sh.2.1.length:Int)) (aj (ky.call (nth dO sh.2.1 (ab eI)).2.1) λx2=>aj (Li.call (x1,x2)) λx3=>kn (lP.st (sh,x3,(bB .i64 eI 1)))) aF) aF) (lP.go kx (sh,fI)):=cK
theorem ahX(t)(k:K1 R):lN.A t k=aj (uY.call (([]:List Int),(t.1.length:Int))) λx1=>aj (lO.call (t,x1,0)) λx4=>aj (uY.call (x4.2,(x4.1.2.1.length:Int))) λx5=>aj (lP.call (x4.1,x5,0)) λx9=>aj (uY.call (x9.2,x9.1.2.2.1)) λQN=>k (lN.out QN):=cK
theorem Wd:(lN.j8 0 lO):=by
 refine(lN.lX 0 lO) (λ(t,b,i)=>(t.1).length - ab i) ?_
 rintro⟨t,b,i⟩ ⟨hlen,k,hk,rfl,yU,hx,hb⟩;have hlen:(t.1).length<=1000000000:=hlen;have hk:k<=(t.1).length:=hk;have yU:t.1.length<=64:=yU;have hx:∀x∈t.1,x.1.1.length=32/\x.1.2.1<=9223372036854775807:=hx;have hb:b.length<=100+50*k:=hb;by_cases h:k < (t.1).length
 ·left;have n1:nth dM t.1 k=t.1[k]:=cC (t:=dM) h;have hd:aX k t.1=t.1[k]::aX (k+1) t.1:=aq h;refine⟨(t,(Iw b t.1[k]),((k+1:Nat):Int)),⟨hlen,k+1,ak,rfl,yU,hx,by have:=adn b t.1[k];have:=(hx _ (ba h)).1;omega⟩,by simp only[aa];omega,?_,λkn kx=> ?_⟩
  ·simp only[rI,vV,aa,hd,cS]
  ·rw[Cz,aU ak,bo ak ak,aa,n1];simp only[ao];have e:=hx _ (ba h);have e2:(b++t.1[k].1.1).length=b.length+t.1[k].1.1.length:=ai;rw[amK (d:=(b,t.1[k].1.1)) ⟨by show b.length<=_;omega,e.1⟩];simp only[ah,bm,WV];rw[mP (d:=(b++t.1[k].1.1,t.1[k].1.2.1)) ⟨by show(b++t.1[k].1.1).length<=_;omega,e.2⟩];simp only[ah,bm,rZ];rw[N.ot ak];rfl
 ·right;obtain rfl:k=(t.1).length:=ak;intro R kn kx;rw[Cz,aT ak,au];simp only[rI,vV,aa,aN,fM]
theorem We:(lN.j8 1 lP):=by
 refine(lN.lX 1 lP) (λ(t,b,i)=>(t.2.1).length - ab i) ?_
 rintro⟨t,b,i⟩ ⟨hlen,k,hk,rfl,yU,hx,hb⟩;have hlen:(t.2.1).length<=1000000000:=hlen;have hk:k<=(t.2.1).length:=hk;have yU:t.2.1.length<=64:=yU;have hx:∀o∈t.2.1,o.1<=9223372036854775807/\YH o.2.1:=hx;have hb:b.length<=4000+1100*k:=hb;by_cases h:k < (t.2.1).length
 ·left;have n1:nth dO t.2.1 k=t.2.1[k]:=cC (t:=dO) h;have hd:aX k t.2.1=t.2.1[k]::aX (k+1) t.2.1:=aq h;refine⟨(t,(IV b t.2.1[k]),((k+1:Nat):Int)),⟨hlen,k+1,ak,rfl,yU,hx,by have:=VB b t.2.1[k];omega⟩,by simp only[aa];omega,?_,λkn kx=> ?_⟩
  ·simp only[rJ,vW,aa,hd,cS]
  ·rw[CA,aU ak,bo ak ak,aa,n1];simp only[ao];have e:=hx _ (ba h);have e1:=eJ b t.2.1[k].1;have e2:=Dk t.2.1[k].2.1;rw[mP (d:=(b,t.2.1[k].1)) ⟨by show b.length<=_;omega,e.1⟩];simp only[ah,bm,rZ];rw[M8 (d:=t.2.1[k].2.1) e.2];simp only[ah,bm,DO];rw[amI (d:=(df b t.2.1[k].1,EO t.2.1[k].2.1)) (by show(df b t.2.1[k].1).length+(EO t.2.1[k].2.1).length<=_;omega)];simp only[ah,bm,WU];rw[N.ot ak];rfl
 ·right;obtain rfl:k=(t.2.1).length:=ak;intro R kn kx;rw[CA,aT ak,au];simp only[rJ,vW,aa,aN,fM]
theorem ahY:lN.Ok:=by
 rintro t ⟨gT,hv⟩;have hv:Ca t:=hv;obtain⟨⟨_,a2,a3,_⟩,b1,b2⟩:=jO gT;have h0:([]:List Int).length=0:=rfl;have l0:=eJ [] t.1.length;have l1:=Tx t.1 (df [] t.1.length) λx hx=>(hv.2.1 x hx).1.1
 have l2:=eJ (t.1.foldl Iw (df [] t.1.length)) t.2.1.length;have l3:=MZ t.2.1 (df (t.1.foldl Iw (df [] t.1.length)) t.2.1.length);rw[ahX,mP (d:=([],(t.1.length:Int))) ⟨by show([]:List Int).length<=_;omega,by show(t.1.length:Int)<=_;omega⟩];simp only[ah,bm,rZ];rw[S0 (d:=(t,df [] t.1.length,0)) ⟨by show t.1.length<=_;omega,0,aL _,rfl,a2,λx hx=>⟨(hv.2.1 x hx).1.1,by have:=qE (iD _ _ b1 x hx);omega⟩,by show(df [] t.1.length).length<=_;omega⟩];simp only[ah,rI,vV,aS,aM];rw[mP (d:=(t.1.foldl Iw (df [] t.1.length),(t.2.1.length:Int))) ⟨by show(t.1.foldl Iw (df [] t.1.length)).length<=_;omega,by show(t.2.1.length:Int)<=_;omega⟩];simp only[ah,bm,rZ];rw[S4 (d:=(t,df (t.1.foldl Iw (df [] t.1.length)) t.2.1.length,0)) ⟨by show t.2.1.length<=_;omega,0,aL _,rfl,a3,λo ho=>⟨by have:=(ku _ _ b2 o ho).1;omega,(hv.1.1 o ho).1⟩,by show(df (t.1.foldl Iw (df [] t.1.length)) t.2.1.length).length<=_;omega⟩];simp only[ah,rJ,vW,aS,aM];rw[mP (d:=(t.2.1.foldl IV (df (t.1.foldl Iw (df [] t.1.length)) t.2.1.length),t.2.2.1)) ⟨by show(t.2.1.foldl IV (df (t.1.foldl Iw (df [] t.1.length)) t.2.1.length)).length<=_;omega,hv.2.2⟩];rfl
theorem Nk:lN.RS:=rE [.d eU] lN
def RO:=lN.fh ahY 2 ⟨.fD Wd,⟨.fD We,trivial⟩⟩
def arE:eT->Prop:=λt=>Ca t
def TM:eT->Bs:=λt=>OF t
def uX:Fs Tryz.prog arE bm TM:=fg 15 Tryz.f15 (λt=>([.d eU t],[])) (λx=>⟨.d tH x,[],[]⟩) [aw eU] [nb,RO,aeO]
theorem awZ(t)(k:K1 R):uX.A t k=aj (dy.call t) λx1=>aG (!x1) (k (uX.out (ag 32 0))) (aj (lN.call t) λx2=>aj (Ti.call ((⟨#[116,120]⟩:ByteArray),[x2])) λx3=>k (uX.out x3)):=cK
theorem aw0:uX.Ok:=by
 intro t hv;have hv:Ca t:=hv;rw[awZ,lR (d:=t) hv.1];simp only[ah,bm,nK,bm,TM,OF];cases gT:gS t
 ·rfl
 ·have hl:=DM gT hv;rw[Nk (d:=t) ⟨gT,hv⟩];simp only[cd,au,bN,ah,bm,K9];rw[Xo (d:=((⟨#[116,120]⟩:ByteArray),[qJ t])) (XM gw ak)];rfl
theorem PW:uX.RS:=rE [.d eU] uX
def V8:=uX.fh aw0
end
def aw7:Int->Prop:=λa=>iN a
def al7:Int->Int:=λa=>VA a
def ZN:Fs Tryz.prog aw7 bm al7:=fg 151 Tryz.f151 (λa=>([.d tu a],[])) (λx=>⟨.d tu x,[],[]⟩) [aw tu]
theorem aAE(a)(k:K1 R):ZN.A a k=k (ZN.out (gN a 2305843009213688669)):=cK
theorem aAF:ZN.Ok:=by intro a ha;rw[aAE,jJ ha.1];rfl
theorem NA:ZN.RS:=rE [.d tu] ZN
def aoX:=ZN.fh aAF
theorem aoI(o x y q:Int):(o%q+(x%q)*y)%q=(o+x*y)%q:=by simp[lk,gH]
def aey:(Int×Int×Int)->Prop:=λ(x,y,o)=>Qn x/\(0<=y/\y < 18446744073709551616)/\Qn o
def zw:(Int×Int×Int)->Int:=λ(x,y,o)=>(o+x*y)%2305843009213688669
def arM:(Int×Int)->Prop:=λ(a,b)=>iN a/\iN b
def aex:(Int×Int)->Int:=λ(a,b)=>KL a b
def q9:Ls aey bm zw:=oP (λ(x,yv,outv)=>⟨(a9 5 ([.d tu x,.d tu yv,.d tu outv]++a9 20 [])),[],(ag 28 [])⟩) (λx=>(.exit 0,⟨(a9 7 ([.d tu x]++a9 20 [])),[],(ag 28 [])⟩))
def JO:Fs Tryz.prog arM bm aex:=fg 133 Tryz.f133 (λ(a,b)=>([.d tu a,.d tu b],[])) (λx=>⟨.d tu x,[],[]⟩) [aw tu,aw tu] [aoX] {loops:=oN [(4,{aY:=[5,6,7]})],outs:=oM [(4,{aY:=[7]},{aY:=[4]})],fE:=pX [(4,q9.E)]}
theorem aez:q9.RS:=rL [.d tu,.d tu,.d tu] q9
theorem BM(x yv outv)(kn:K2 R)(kx:K3 R):JO.R 0 q9 (x,yv,outv) kn kx=aG (xS yv 0) (aG (wD (gN yv 2) 1) (kn (q9.st ((gN (bB .u64 x x) 2305843009213688669),(qG .u64 yv 2),(gN (bB .u64 outv x) 2305843009213688669)))) (kn (q9.st ((gN (bB .u64 x x) 2305843009213688669),(qG .u64 yv 2),outv)))) (q9.go kx outv):=cK
theorem aw4(a b)(k:K1 R):JO.A (a,b) k=aj (ZN.call a) λx1=>aj (ZN.call b) λx2=>aj (q9.call (x1,x2,0)) λx3=>k (JO.out x3):=cK
theorem K7(x:Int):Qn (x%2305843009213688669):=⟨jv _ ak,iE _ ak⟩
theorem ah9:(JO.j8 0 q9):=by
 refine(JO.lX 0 q9) (λ(_,y,_)=>y.toNat) ?_
 rintro⟨x,y,o⟩ ⟨hx,hy,ho⟩;obtain⟨x0,x1⟩:=hx;obtain⟨o0,o1⟩:=ho;have x0:0<=x:=x0;have x1:x < 2305843009213688669:=x1;have o0:0<=o:=o0;have o1:o < 2305843009213688669:=o1;have hy:0<=y/\y < 18446744073709551616:=hy;have e2:bB .u64 x x=x+x:=by rw[mu];omega
 have e3:bB .u64 o x=o+x:=by rw[mu];omega
 by_cases h:0 < y
 ·left;have dv:=Int.mul_ediv_add_emod y 2;have e1:qG .u64 y 2=y / 2:=Tz hy.1 ak hy.2;by_cases hb:y%2=1
  ·refine⟨((x+x)%2305843009213688669,y / 2,(o+x)%2305843009213688669),⟨K7 _,⟨ak,ak⟩,K7 _⟩,by show(y / 2).toNat < y.toNat;omega,?_,λkn kx=> ?_⟩
   ·simp only[bm,zw];rw[aoI];have:x*y=x*(2*(y / 2)+1):=by rw[show y=2*(y / 2)+1 by omega];congr 1;omega
    have:o+x*y=o+x+(x+x)*(y / 2):=by rw[this,Int.mul_add,sL,<-lY,jG x 2,Int.two_mul];omega
    rw[this]
   ·rw[BM,dk h,ao,jJ hy.1,dJ hb,ao,e2,e3,e1,jJ ak,jJ ak]
  ·refine⟨((x+x)%2305843009213688669,y / 2,o),⟨K7 _,⟨ak,ak⟩,o0,o1⟩,by show(y / 2).toNat < y.toNat;omega,?_,λkn kx=> ?_⟩
   ·simp only[bm,zw];have eo:o%2305843009213688669=o:=dU o0 o1;have:=aoI o (x+x) (y / 2) 2305843009213688669;rw[eo]at this;rw[this];have:x*y=x*(2*(y / 2)):=by congr 1;omega
    have:o+x*y=o+(x+x)*(y / 2):=by rw[this,<-lY,jG x 2,Int.two_mul]
    rw[this]
   ·rw[BM,dk h,ao,jJ hy.1,fj hb,au,e2,e1,jJ ak]
 ·right;obtain rfl:y=0:=ak;intro R kn kx;rw[BM,cJ h,au];simp only[bm,zw,Int.mul_zero,Int.add_zero];rw[dU o0 o1]
theorem aw5:JO.Ok:=by rintro⟨a,b⟩ ⟨ha,hb⟩;have qa:Qn (VA a):=K7 a;have qb:Qn (VA b):=K7 b;rw[aw4,NA (d:=a) ha,NA (d:=b) hb];simp only[ah,bm,al7];rw[aez (d:=(VA a,VA b,0)) ⟨qa,⟨qb.1,by have:=qb.2;show VA b < _;omega⟩,gw,gw⟩];simp only[ah,bm,zw,bm,aex,KL,Int.zero_add]
theorem arN:JO.RS:=rE [.d tu,.d tu] JO
def aw6:=JO.fh aw5 1 ⟨.fD ah9,trivial⟩
def arI:(Int×Int)->Prop:=λ(a,b)=>iN a/\iN b
def aoW:(Int×Int)->Int:=λ(a,b)=>acD a b
def Ww:Fs Tryz.prog arI bm aoW:=fg 132 Tryz.f132 (λ(a,b)=>([.d tu a,.d tu b],[])) (λx=>⟨.d tu x,[],[]⟩) [aw tu,aw tu] [aoX]
theorem aw1(a b)(k:K1 R):Ww.A (a,b) k=aj (ZN.call a) λx1=>aj (ZN.call b) λx2=>k (Ww.out (gN (bB .u64 x1 x2) 2305843009213688669)):=cK
theorem aw2:Ww.Ok:=by
 rintro⟨a,b⟩ ⟨ha,hb⟩;have qa:Qn (VA a):=K7 a;have qb:Qn (VA b):=K7 b;obtain⟨a0,a1⟩:=qa;obtain⟨b0,b1⟩:=qb;rw[aw1,NA (d:=a) ha,NA (d:=b) hb];simp only[ah,bm,al7,bm,aoW,acD];have e:bB .u64 (VA a) (VA b)=VA a+VA b:=by rw[mu];omega
 rw[e,jJ ak]
theorem arJ:Ww.RS:=rE [.d tu,.d tu] Ww
def aw3:=Ww.fh aw2
def arV:Int->Prop:=λ_=>True
def aeB:Int->Bool:=λk=>decide (k < 2305843009213688669/\k≠0)
def RY:Fs Tryz.prog arV bm aeB:=fg 99 Tryz.f99 (λkv=>([.d tu kv],[])) (λx=>⟨.d .bool x,[],[]⟩) [aw tu] [ama]
theorem axb(kv)(k:K1 R):RY.A kv k=aj (D8.call kv) λx1=>aG (x1) (k (RY.out (Ak kv 0))) (k (RY.out aQ)):=cK
theorem axc:RY.Ok:=by
 intro k _;rw[axb,aib (d:=k) trivial];simp only[ah,bm,abF,bm,aeB];by_cases h:k < 2305843009213688669
 ·rw[aU h,ao];by_cases h0:k=0
  ·rw[cZ h0,aJ (λx=>x.2 h0)]
  ·rw[eR h0,aI ⟨h,h0⟩]
 ·rw[aT h,au,aJ (λx=>h x.1)]
theorem arW:RY.RS:=rE [.d tu] RY
def axd:=RY.fh axc
abbrev aim:=Int×Int×Bs×Int
def amt:aim->Prop:=λ(k,n,m,t)=>iN k/\iN n/\Sm m/\iN t
def axe:aim->Sg:=λ(k,n,m,t)=>Tm k n m t
def Lc:Fs Tryz.prog amt bm axe:=fg 102 Tryz.f102 (λ(kv,n,m,t)=>([.d tu kv,.d tu n,.d tH m,.d tu t],[])) (λx=>⟨.d oE x,[],[]⟩) [aw tu,aw tu,aw tH,aw tu] [arS,axa,amp,aw6,aw3]
theorem arX(kv n m t)(k:K1 R):Lc.A (kv,n,m,t) k=aj (G5.call n) λx1=>aj (Wz.call (x1,t)) λx2=>aj (G5.call kv) λx3=>aj (Eb.call (x2,x3,m)) λx4=>aj (JO.call (kv,x4)) λx5=>aj (Ww.call (n,x5)) λx6=>k (Lc.out (x2,(x6,()))):=cK
theorem arY:Lc.Ok:=by
 rintro⟨k,n,m,t⟩ ⟨hk,hn,hm,ht⟩;have hk:iN k:=hk;have hn:iN n:=hn;have hm:Sm m:=hm;have ht:iN t:=ht;have hc:KL k (wB (En [iX n,t]) (iX k) m)=KL (wB (En [iX n,t]) (iX k) m) k:=by unfold KL;rw[jG]
 rw[arX,WB (d:=n) hn];simp only[ah,bm,WA];rw[arP (d:=(iX n,t)) ⟨(VU _ _).u,ht⟩,WB (d:=k) hk];simp only[ah,bm,WA,bm,aeA];rw[aik (d:=(En [iX n,t],iX k,m)) ⟨(ape _).u,(VU _ _).u,hm⟩];simp only[ah,bm,abH];rw[arN (d:=(k,wB (En [iX n,t]) (iX k) m)) ⟨hk,(L7 _ _ _).u⟩];simp only[ah,bm,aex,hc];rw[arJ (d:=(n,KL (wB (En [iX n,t]) (iX k) m) k)) ⟨hn,(aoJ _ _).u⟩];rfl
theorem amu:Lc.RS:=rE [.d tu,.d tu,.d tB,.d tu] Lc
def arZ:=Lc.fh arY
def amv:(Int×Bs)->Prop:=λ(k,m)=>iN k/\Sm m
def WL:(Int×Bs)->Sg:=λ(k,m)=>pD k m
def G9:Fs Tryz.prog amv bm WL:=fg 53 Tryz.f53 (λ(kv,m)=>([.d tu kv,.d tH m],[])) (λx=>⟨.d oE x,[],[]⟩) [aw tu,aw tH] [axd,Xf,aeO,abE,arZ]
theorem ar0(kv m)(k:K1 R):G9.A (kv,m) k=aj (RY.call kv) λx1=>aG (!x1) (k (G9.out (0,(0,())))) (aj (Hp.call kv) λx2=>aG (decide (0=0/\(0+x2.1)<=(ae x2.2))) (aj (Ti.call ((⟨#[110,111,110,99,101]⟩:ByteArray),[(cut x2.2 0 x2.1),(cut m 0 32)])) λx3=>aj (zu.call x3) λx4=>aj (Lc.call (kv,x4,m,1)) λx5=>k (G9.out x5)) aF):=cK
theorem ar1:G9.Ok:=by
 rintro⟨k,m⟩ ⟨hk,hm⟩;have hk:iN k:=hk;have hm:Sm m:=hm;rw[ar0,arW (d:=k) trivial];simp only[ah,bm,aeB,bm,WL,pD];by_cases h:k < 2305843009213688669/\k≠0
 ·have SF:Xn ((⟨#[110,111,110,99,101]⟩:ByteArray),[gV k,m]):=ajh gw (by rw[bT];omega) (by rw[hm.1];omega);rw[aI h,if_pos h,Qd (d:=k) hk];simp only[cd,au,ah,bm,aeM,bT,aH,az,eW,bA,ao];rw[dw (bT _),dw hm.1,Xo SF];simp only[ah,bm,am8];rw[Wy (d:=tag (bw (⟨#[110,111,110,99,101]⟩:ByteArray)) [gV k,m]) (Qz _ _)];simp only[ah,bm,Wx];have q:=Mj (tag (bw (⟨#[110,111,110,99,101]⟩:ByteArray)) [gV k,m]);rw[amu (d:=(k,Af (tag (bw (⟨#[110,111,110,99,101]⟩:ByteArray)) [gV k,m]),m,1)) ⟨hk,⟨ak,ak⟩,hm,ak,ak⟩];rfl
 ·rw[aJ h,if_neg h];rfl
theorem amw:G9.RS:=rE [.d tu,.d tB] G9
def ar2:=G9.fh ar1
abbrev uh:=Int×Bs×eT×Int×(Int×Unit)×Int×Nat×(Int×Unit)×Bs×(List Sg)
def me:uh->AS:=λ(oe,xd,gR,i,Jl,Va,Vb,ph,Y7,awl)=>⟨([bK,.d ti oe,bK,.d tU xd,bK,.dB eU gR]++a9 4 ([dX 10,bK,dX 12,dX 13,.d ti i]++a9 73 [])),[],(bC 10 ([cH (.pr (.cw) (.pr (.cw) (.d (.pair ti .unit) Jl))),[],cH (.pr (.d ti Va) (.pr (iw 77 Vb) (.d (.pair tu .unit) ph))),cH (.d tH Y7)]++bC 63 ([cH (.vec 50 oE awl)]++bC 10 [])))⟩
def jn:(Int×Unit)->Exit×AS:=λx=>(.ret,⟨(a9 10 ([dX 10,.d ti (1:Int)]++a9 76 [])),[],(bC 10 ([cH (.pr (.cw) (.pr (.cw) (.d (.pair ti .unit) x)))]++bC 77 []))⟩)
abbrev JH:=(Int×eT×(Int×Unit))×(FB×(List Sg))
def uj:JH->Exit×AS:=λ((a,b,c),e,f)=>(.exit 0,⟨([bK,.d ti a,bK,bK,bK,.dB eU b]++a9 4 ([dX 10,bK,dX 12]++a9 75 [])),[],(bC 10 ([cH (.pr (.cw) (.pr (.cw) (.d (.pair ti .unit) c))),[],cH (.d TS e)]++bC 64 ([[.obj 0 aW (.vec 50 oE f)]]++bC 10 [])))⟩)
abbrev D7:=((Int×Unit))⊕(JH)
abbrev Nu:=((Int×Unit))⊕((FB×(List Sg)))
def zs:D7->Out (Exit×AS):=λx=> .br x.isLeft (.get x.getLeft? λa=> .ok (jn a)) (.get x.getRight? λb=> .ok (uj b))
def jm:uh->Nu->D7:=λ(oe,xd,gR,i,Jl,Va,Vb,ph,Y7,awl) y=>match y with | .inl y=> .inl y | .inr z=> .inr (((oe,gR,Jl),z))
abbrev abC:=eT×Int×Int×Bs×Int
def ui:uh->Prop:=λ(_,l,_,i,_,_,L,_,id,r)=>l.length<=1000/\(∀x∈l,iN x)/\Sm id/\∃k:Nat,k<=l.length/\i=k/\L=r.length/\r.length<=1000+k
def lU:uh->Nu:=λ(_,l,_,i,_,br,_,sc,id,r)=>if(l.drop i.toNat).any w9=aW then .inl ((0:Int),()) else .inr ((br,(r++(l.drop i.toNat).map (λk=>pD k id),sc)),r++(l.drop i.toNat).map (λk=>pD k id))
def ah4:abC->Prop:=λ(t,_,_,ks,_)=>Ca t/\(∀x∈ks,iN x)/\ks.length<=1000000000
def abD:abC->(eT×Int):=λ(t,i,br,ks,sc)=>Oa t i br ks sc
def Nt:=eu.fD me ui jm lU zs
def Fb:uh->Option D7:=jq Nt me
def jr:Fs Tryz.prog ah4 bm abD:=fg 10 Tryz.f10 (λ(t,inv,branch,keys,secret)=>([.d eU t,.d ti inv,.d ti branch,.d tU keys,.d tu secret],[])) (λx=>⟨.cons (.d eU x.1) (.cons (.d ti x.2) (.nil)),[],[]⟩) [aw eU,aw ti,aw ti,aw tU,aw tu] [nb,V8,ar2,V7] {loops:=oN [(6,{aY:=[1,3,5,10,12,13,14],sites:=[10,12,13,77],owns:=[⟨12,[.snd,.fst],77,39⟩]})],outs:=oM [(6,{aY:=[1,5,10,12],sites:=[10,12,77],Ch:=[⟨12,[.snd,.fst],(.slice oE)⟩]},{aY:=[10,11],sites:=[10]})],fE:=pX [(6,Nt)],res:=[aw eU,aF]}
def D6:= @fO Tryz.prog (oc jr.G) jr.an 0 Tryz.f10 0 _ me
abbrev JG:=oT Tryz.prog (oc jr.G) jr.an 0 Tryz.f10 0 me ui jm lU zs
theorem Wp:nw Fb ui jm lU:=qL (qF [.d ti,.d tU,.d eU,.d ti,.d (.pair ti .unit),.d ti,.n,.d (.pair tu .unit),.d tB,.d (.slice oE)] λ_=>cK)
theorem I1:qN @D6 me ui jm lU zs JG:=sk
theorem Fc(oe xd gR i Jl Va Vb ph Y7 awl)(kn:K2 R)(kx:K3 R):D6 (oe,xd,gR,i,Jl,Va,Vb,ph,Y7,awl) kn kx=aG (fV i (((ae xd):Nat):Int)) (aG (ei i (((ae xd):Nat):Int)) (aG (wD (nth tu xd (ab i)) (0:Int)) (kx (jn ((0:Int),())).1 (jn ((0:Int),())).2) (aG (ei i (((ae xd):Nat):Int)) (aG (B8 (nth tu xd (ab i)) (2305843009213688669:Int)) (kx (jn ((0:Int),())).1 (jn ((0:Int),())).2) (aG (ei i (((ae xd):Nat):Int)) (aj (G9.call ((nth tu xd (ab i)),Y7)) λx1=>aG (decide (Vb<=(ae awl))) (aG (db (Vb+1) 16) (kn (me (oe,xd,gR,(bB .i64 i (1:Int)),Jl,Va,(Vb+1),ph,Y7,((aP Vb awl)++ [x1])))) aF) aF) aF)) aF)) aF) (aG (decide (0=0/\(0+Vb)<=(ae awl))) (kx (uj ((oe,gR,Jl),((Va,((cut awl 0 Vb),ph)),awl))).1 (uj ((oe,gR,Jl),((Va,((cut awl 0 Vb),ph)),awl))).2) aF):=cK
theorem al1(t inv branch keys secret)(k:K1 R):jr.A (t,inv,branch,keys,secret) k=aj (dy.call t) λx1=>aG (!x1) (k (jr.out ((([]:List fB),(([]:List gb),(0,()))),1))) (aG (fV inv 0) (k (jr.out ((([]:List fB),(([]:List gb),(0,()))),1))) (aG (B8 inv (t.1.length:Int)) (k (jr.out ((([]:List fB),(([]:List gb),(0,()))),1))) (aG (fV branch 0) (k (jr.out ((([]:List fB),(([]:List gb),(0,()))),1))) (aG (xS branch 3) (k (jr.out ((([]:List fB),(([]:List gb),(0,()))),1))) (aG (xS (keys.length:Int) 12) (k (jr.out ((([]:List fB),(([]:List gb),(0,()))),1))) (aj (uX.call t) λx2=>aj (Fb (inv,keys,t,0,(0,()),branch,0,(secret,()),x2,([]:List Sg))) λx5=>aG x5.isLeft (aj x5.getLeft? λa6=>k (jr.out ((([]:List fB),(([]:List gb),a6)),1))) (aj x5.getRight? λb7=>aj (kR.call b7.1.2.1) λx8=>aG (ei b7.1.1 ((x8.1:Nat):Int)) (aG (decide ((0+(ab b7.1.1)) < (ae x8.2.2.2.1))) (aG (decide ((((0+(ab b7.1.1))*36)+33)=((0+((ab b7.1.1)*36))+33))) (aG (decide ((0+(ab b7.1.1)) < (ae x8.2.2.2.1))) (aG (decide (0=0/\(0+x8.1)<=(ae (eE x8.2.2.2.1 (0+(ab b7.1.1)) ((nth dM x8.2.2.2.1 (0+(ab b7.1.1))).1,(b7.2.1,(nth dM x8.2.2.2.1 (0+(ab b7.1.1))).2.2)))))) (aG (decide (0=0/\(0+x8.2.1)<=(ae x8.2.2.2.2))) (k (jr.out (((cut (eE x8.2.2.2.1 (0+(ab b7.1.1)) ((nth dM x8.2.2.2.1 (0+(ab b7.1.1))).1,(b7.2.1,(nth dM x8.2.2.2.1 (0+(ab b7.1.1))).2.2))) 0 x8.1),((cut x8.2.2.2.2 0 x8.2.1),x8.2.2.1)),0))) aF) aF) aF) aF) aF) aF))))))):=cK
theorem ZC:JG:=by
 refine I1 (λ(_,l,_,i,_,_,_,_,_,_)=>l.length - i.toNat) ?_
 rintro⟨i0,l,t,i,z,br,L,sc,id,r⟩ ⟨hlen,hu,hm,k,hk,rfl,rfl,hr⟩;have hlen:l.length<=1000:=hlen;have hk:k<=l.length:=hk;have hr:r.length<=1000+k:=hr;by_cases h:k < l.length
 ·have n1:nth tu l k=l[k]:=cC (t:=tu) h;have hd:aX k l=l[k]::aX (k+1) l:=aq h;have ayQ:=hu _ (ba h);generalize (l[k]:Int)=x at n1 hd ayQ;have ib:ei (k:Int) (l.length:Int)=aW:=bo ak ak;have step:∀ {R:Type} (kn:AS->Option R) (kx:Exit->AS->Option R),D6 (i0,l,t,(k:Int),z,br,r.length,sc,id,r) kn kx=aG (w9 x) (kx (jn ((0:Int),())).1 (jn ((0:Int),())).2) (kn (me (i0,l,t,((k+1:Nat):Int),z,br,r.length+1,sc,id,r++ [pD x id]))):=by
   intro R kn kx;rw[Fc,aU ak,ao];simp only[ib,ao,aa,n1];by_cases h0:x=0
   ·have eb:w9 x=aW:=by unfold w9;exact pa (λe=>e.2 h0)
    rw[dJ h0,ao,eb,ao]
   ·rw[fj h0,au];by_cases h1:x < 2305843009213688669
    ·have eb:w9 x=aQ:=by unfold w9;exact rz (λe=>e ⟨h1,h0⟩)
     rw[eH ak,au,eb,au,amw (d:=(x,id)) ⟨ayQ,hm⟩];simp only[ah,bm,WL];rw[aI (az _),ao,cV ak ak,ao,N.ot ak,bt]
    ·have eb:w9 x=aW:=by unfold w9;exact pa (λe=>h1 e.1)
     rw[gf ak,ao,eb,ao]
  cases hb:w9 x with
  |true=>
   right;refine⟨jn ((0:Int),()),?_,λkn kx=>by rw[step,hb,ao]⟩;simp only[jm,lU,aa,hd,List.any_cons,hb,Bool.true_or,bN];rfl
  |false=>
   left;refine⟨(i0,l,t,((k+1:Nat):Int),z,br,r.length+1,sc,id,r++ [pD x id]),⟨hlen,hu,hm,k+1,ak,rfl,by rw[ai];rfl,by rw[ai];show r.length+1<=_;omega⟩,by simp only[aa];omega,?_,λkn kx=>by rw[step,hb,au]⟩;simp only[jm,lU,aa,hd,List.any_cons,hb,Bool.false_or,bS,aC,bQ]
 ·right;obtain rfl:k=l.length:=ak;refine⟨uj ((i0,t,z),((br,(r,sc)),r)),?_,λkn kx=> ?_⟩
  ·simp only[jm,lU,aa,aN,eX,bn,List.any_nil,bU,bz];rfl
  ·rw[Fc,aT ak,au,aI ⟨rfl,ak⟩,ao,dw rfl]
theorem auO{t:eT}(gT:gS t=aW):at5 t:=by
 obtain⟨⟨_,a2,a3,_⟩,b1,b2⟩:=jO gT;refine⟨⟨ak,λx hx=> ?_⟩,ak,λx hx=> ?_⟩
 ·have:=qE (iD _ _ b1 x hx);omega
 ·have:=adx (ku _ _ b2 x hx).2;exact⟨ak,λb hb=>by have:=this.2 b hb;omega⟩
theorem al2:jr.Ok:=by
 rintro⟨t,i,br,ks,sc⟩ ⟨hv,hu,hl⟩;have hv:Ca t:=hv;have hl:ks.length<=1000000000:=hl;rw[al1,lR (d:=t) hv.1];simp only[ah,bm,nK,bm,abD,CW,uC];rcases dN (gS t) with gT | gT;rotate_left
 ·simp only[gT];rfl
 obtain⟨⟨_,a2,a3,_⟩,b1,b2⟩:=jO gT;simp only[gT,cd,au,bI];by_cases h1:i < 0
 ·rw[aU h1,ao,aJ ak];rfl
 rw[aT h1,au];by_cases h2:i>=(t.1.length:Int)
 ·rw[gf h2,ao,aJ ak];rfl
 rw[eH h2,au];by_cases h3:br < 0
 ·rw[aU h3,ao,aJ ak];rfl
 rw[aT h3,au];by_cases h4:br > 3
 ·rw[dk h4,ao,aJ ak];rfl
 rw[cJ h4,au];by_cases h5:ks.length > 12
 ·rw[dk ak,ao,aJ ak];rfl
 rw[cJ ak,au,aI (p:=0<=i/\i < (t.1.length:Int)/\0<=br/\br < 4/\ks.length<=12) ak,PW (d:=t) hv];simp only[ah,bm,TM];rw[Wp (d:=(i,ks,t,0,((0:Int),()),br,0,(sc,()),OF t,[])) ⟨by show ks.length<=_;omega,hu,aft,0,aL _,rfl,rfl,aL _⟩];simp only[ah,jm,lU,aS,aM,aO];rcases dN (ks.any w9) with hb | hb
 ·simp only[hb,bN];rfl
 ·obtain⟨k,rfl⟩:∃k:Nat,i=k:=⟨i.toNat,ak⟩;have hk:k < t.1.length:=ak;have aJg:(t.1.set k ((nth dM t.1 k).1,((br,(ks.map (λk=>pD k (OF t)),(sc,()))),(nth dM t.1 k).2.2))).length=t.1.length:=ed;simp only[hb,bU,bz,fb,dW,au,ah,eP,oq,bN];rw[RN (d:=t) (auO gT)];simp only[ah,bm,abz,aa,aH];rw[bo ak ak,ao,aI hk,ao,aI trivial,ao,ao,aJg,aI ⟨trivial,az _⟩,ao,aI ⟨trivial,az _⟩,ao,dw aJg,dw rfl];rfl
theorem ah5:jr.RS:=rE [.d eU,.d ti,.d ti,.d tU,.d tu] jr
def al3:=jr.fh al2 1 ⟨.fD ZC,trivial⟩
theorem Jb{l:List Int}(h:Bytes l):bw (cY l)=l:=by
 unfold bw cY;simp only[lq]
 conv=>rhs;rw[<-jP l]
 refine hZ λx hx=> ?_
 obtain⟨h1,h2⟩:=h x hx;simp only[Function.comp,id];rw[UInt8.toNat_ofNat'];omega
theorem axZ(x y:ByteArray):seq x y=decide (x.data=y.data):=by
 unfold seq;rw[Go.ByteArray.toList_eq,Go.ByteArray.toList_eq];by_cases h:x.data=y.data
 ·simp[h]
 ·have:¬x.data.toList=y.data.toList:=λe=>h (Array.toList_inj.1 e)
  rw[aJ h];simpa using this
theorem as3{x y:List Int}(hx:Bytes x)(hy:Bytes y):seq (cY x) (cY y)=decide (x=y):=by
 rw[axZ];by_cases h:x=y
 ·subst h;simp
 ·rw[aJ h];refine aJ λe=>h ?_
  have:cY x=cY y:=by cases hx':cY x;cases hy':cY y;rw[hx',hy']at e;simp only at e;rw[e]
  rw[<-Jb hx,this,Jb hy]
theorem ayc{x y:List Int}(hx:Bytes x)(hy:Bytes y):aGk (cY x) (cY y)= !decide (x=y):=by have:=as3 hx hy;unfold seq at this;unfold aGk;rw[this]
def A9:Nat->Int->dQ->List mr×dQ
 | 0,_,r=>([],r)
 |f+1,n,r=>if 0 < n then((oZ (min (bX r).1.toNat 13) (bX r).2).1::(A9 f (n - 1) (oZ (min (bX r).1.toNat 13) (bX r).2).2).1,(A9 f (n - 1) (oZ (min (bX r).1.toNat 13) (bX r).2).2).2) else([],r)
def wK(r:dQ):List mr×dQ:=A9 5 (bX r).1 (bX r).2
theorem auv:∀(f:Nat) (n:Int) (r:dQ),jo r->(∀b∈(A9 f n r).1,atT b)/\(A9 f n r).1.length<=f/\jo (A9 f n r).2
 | 0,n,r,h=>⟨λx hx=>(by cases hx),az _,h⟩
 |f+1,n,r,h=>by
  have h1:=iA h;have h2:=Tp (min (bX r).1.toNat 13) _ h1.2.2;have ih:=auv f (n - 1) _ h2.2.2;rw[A9];split
  ·refine⟨λx hx=> ?_,by simp only[aE];omega,ih.2.2⟩;rcases cz.1 hx with rfl | hx
   ·exact h2.1
   ·exact ih.1 x hx
  ·exact⟨λx hx=>(by cases hx),aL _,h⟩
theorem af1:∀(bs:List mr) (f:Nat) (rest:List Int),(∀b∈bs,atT b)->(∀b∈bs,aBk b)->bs.length<=f->A9 f bs.length (bs.flatMap apE++rest,aQ,())=(bs,(rest,aQ,()))
 |[],0,rest,_,_,_=>rfl
 |[],f+1,rest,_,_,_=>by rw[A9,if_neg (by show ¬(0:Int) < ((0:Nat):Int);omega)];rfl
 |b::bs,0,rest,_,_,h=>absurd h (by simp)
 |b::bs,f+1,rest,hu,hk,h=>by
  have ub:=hu b bf;have kb:=hk b bf;have h:bs.length+1<=f+1:=h;have e:(b::bs).flatMap apE++rest=fe b.1.length++(b.1.flatMap gV++(fe b.2.1++(fe b.2.2.1++(gV b.2.2.2.1++(bs.flatMap apE++rest))))):=by rw[cI,aC,afY]
  have Q3:=kb.len;rw[A9,if_pos (by rw[aE];omega),e,y6 _ (lC ak)];simp only[aa];rw[fS ak,aaE b ub kb];simp only[];rw[show((b::bs).length:Int) - 1=(bs.length:Int) by rw[aE];omega,af1 bs f rest (λx hx=>hu x (aV _ hx)) (λx hx=>hk x (aV _ hx)) ak]
theorem are{l:Lk}(hu:YH l)(gT:og l=aW)(rest:List Int):wK (EO l++rest,aQ,())=(l.1,(rest,aQ,())):=by have hk:=adw gT;unfold wK;rw[ak8 gT,aC,y6 _ (lC ak)];exact af1 l.1 5 rest hu hk.1 ak
theorem aoS{r:dQ}(h:jo r):YH ((wK r).1,())/\(wK r).1.length<=5/\jo (wK r).2:=auv 5 _ _ (iA h).2.2
theorem axt{b:List Int}(hb:Bytes b)(hl:b.length<=1000000000):(if og ((wK (b,aQ,())).1,())=aW/\EO ((wK (b,aQ,())).1,())=b then((((wK (b,aQ,())).1,()),aW):Lk×Bool) else(([],()),aQ))=qA b:=by
 have g:=aoS (W4 hb hl (aQ,()));by_cases h:og ((wK (b,aQ,())).1,())=aW/\EO ((wK (b,aQ,())).1,())=b
 ·rw[if_pos h];have e:=CQ g.1 h.1;rw[h.2]at e;exact e.symm
 ·rw[if_neg h];cases hr:(qA b).2
  ·exact(axs hr).symm
  ·exfalso;obtain⟨x,hx,aD1,_,akQ⟩:=W5 hr;have aKf:YH x:=by rw[akQ];exact(TO hb hl).1
   have e:=are aKf hx [];rw[bn,aD1]at e;apply h;rw[e];exact⟨hx,aD1⟩
abbrev GF:=Int×Int×dQ×Nat×(List mr)
abbrev zi:=Int×Int×Int×Int×dQ×Nat×Nat×(Int×(Int×(Int×Unit)))×(List Int)×(List mr)
abbrev GG:=dQ×Nat×(List Int)
def qe:zi->GG->((Int×Int×Nat×(Int×(Int×(Int×Unit)))×(List mr))×(dQ×Nat×(List Int))):=λ(vg,eI,keys,kv,als,As,ayU,n6,ajX,xw) y=>((vg,eI,As,n6,xw),y)
def PT:zi->Prop:=λ(n,i,t,j,r,m1,m2,x,ks,bs)=>jo r/\ks.length=m2/\∃k c:Nat,j=k/\t=c/\k<=min c 13/\m2=k
def tM:zi->GG:=λ(n,i,t,j,r,m1,m2,x,ks,bs)=>((mJ (min t.toNat 13 - j.toNat) r).2,m2+(min t.toNat 13 - j.toNat),ks++(mJ (min t.toNat 13 - j.toNat) r).1)
def PR:GF->Prop:=λ(n,i,r,m,bs)=>jo r/\bs.length=m/\∃k:Nat,i=k/\k<=5/\m=k
def tK:GF->(dQ×Nat×(List mr)):=λ(n,i,r,m,bs)=>((A9 (5 - i.toNat) (n - i) r).2,m+(A9 (5 - i.toNat) (n - i) r).1.length,bs++(A9 (5 - i.toNat) (n - i) r).1)
def Zo:dQ->Prop:=λr=>jo r
def RL:dQ->(Lk×dQ):=λr=>(((wK r).1,()),(wK r).2)
def iO:Ls PR bm tK:=oP (λ(n,i,fc,OP,aoK)=>⟨([.ptr (.eC 0) 0 [] 0,bK,dX 2,dX 3,.d ti n,.d ti i]++a9 48 []),cH (.d gK fc),([[],[],cH (.pr (.cw) YQ),cH (.pr (iw 51 OP) YQ)]++bC 47 [cH (.vec 69 gW aoK),[],[]])⟩) (λx=>(.exit 0,⟨([bK,bK,dX 2,dX 3]++a9 50 []),cH (.d gK x.1),([[],[],cH (.pr (.cw) YQ),cH (.pr (iw 51 x.2.1) YQ)]++bC 47 [cH (.vec 69 gW x.2.2),[],[]])⟩))
def iP:Ls PT qe tM:=oP (λ(vg,eI,keys,kv,als,As,ayU,n6,ajX,xw)=>⟨([.ptr (.eC 0) 0 [] 0,bK,dX 2,dX 3,.d ti vg,.d ti eI,dX 6,.d ti keys,.d ti kv]++a9 45 []),cH (.d gK als),([[],[],cH (.pr (.cw) YQ),cH (.pr (iw 51 As) YQ),[],[],cH (.pr (iw 36 ayU) (.d (.pair ti (.pair ti (.pair tu .unit))) n6))]++bC 29 ([cH (.vec 48 tu ajX)]++bC 14 [cH (.vec 69 gW xw),[],[]]))⟩) (λx=>(.exit 2,⟨([.ptr (.eC 0) 0 [] 0,bK,dX 2,dX 3,.d ti x.1.1,.d ti x.1.2.1,dX 6]++a9 47 []),cH (.d gK x.2.1),([[],[],cH (.pr (.cw) YQ),cH (.pr (iw 51 x.1.2.2.1) YQ),[],[],cH (.pr (iw 36 x.2.2.1) (.d (.pair ti (.pair ti (.pair tu .unit))) x.1.2.2.2.1))]++bC 29 ([cH (.vec 48 tu x.2.2.2)]++bC 14 [cH (.vec 69 gW x.1.2.2.2.2),[],[]]))⟩))
def kf:Fs Tryz.prog Zo bm RL:=fg 87 Tryz.f87 (λo0=>([.ptr (.eC 0) 0 [] 0],[.obj 0 aQ (.d gK o0)])) (λx=>⟨.d zV x.1,[.obj 0 aQ (.d gK x.2)],[]⟩) [aF] [ND,aiu] {loops:=oN [(4,{aY:=[0,2,3,4,5],sites:=[2,3,51],owns:=[⟨3,[.fst],51,51⟩]}),(9,{aY:=[0,2,3,4,5,6,7,8],sites:=[2,3,6,36,51],owns:=[⟨6,[.fst],36,67⟩]})],outs:=oM [(4,{aY:=[2,3],sites:=[2,3,51]},{aY:=[2]}),(9,{aY:=[0,2,3,4,5,6],sites:=[2,3,6,36,51]},{aY:=[2]})],fE:=pX [(4,iO.E),(9,iP.E)],res:=[aw zV]}
theorem PS:iO.RS:=rL [.d ti,.d ti,.d gK,.n,.d (.slice gW)] iO
theorem AA(n i fc OP aoK)(kn:K2 R)(kx:K3 R):kf.R 0 iO (n,i,fc,OP,aoK) kn kx=aG (fV i n) (aG (fV i 5) (aj (px.call fc) λx1=>aj (iP.call (n,i,x1.1,0,x1.2,OP,0,(0,(0,(0,()))),([]:List Int),aoK)) λx2=>aj (px.call x2.2.1) λx3=>aj (px.call x3.2) λx4=>aj (AO.call x4.2) λx5=>aG (decide (0=0/\(0+x2.2.2.1)<=(ae x2.2.2.2))) (aG (decide (x2.1.2.2.1<=(ae x2.1.2.2.2.2))) (aG (db (x2.1.2.2.1+1) 48) (kn (iO.st (x2.1.1,(bB .i64 x2.1.2.1 1),x5.2,(x2.1.2.2.1+1),((aP x2.1.2.2.1 x2.1.2.2.2.2)++ [((cut x2.2.2.2 0 x2.2.2.1),(x3.1,(x4.1,(x5.1,x2.1.2.2.2.1.2.2.2))))])))) aF) aF) aF) (iO.go kx (fc,OP,aoK))) (iO.go kx (fc,OP,aoK)):=cK
theorem PU:iP.RS:=rL [.d ti,.d ti,.d ti,.d ti,.d gK,.n,.n,.d (.pair ti (.pair ti (.pair tu .unit))),.d tU,.d (.slice gW)] iP
theorem AB(vg eI keys kv als As ayU n6 ajX xw)(kn:K2 R)(kx:K3 R):kf.R 1 iP (vg,eI,keys,kv,als,As,ayU,n6,ajX,xw) kn kx=aG (fV kv keys) (aG (fV kv 13) (aj (AO.call als) λx1=>aG (decide (ayU<=(ae ajX))) (aG (db (ayU+1) 8) (kn (iP.st (vg,eI,keys,(bB .i64 kv 1),x1.2,As,(ayU+1),n6,((aP ayU ajX)++ [x1.1]),xw))) aF) aF) (iP.go kx ((vg,eI,As,n6,xw),(als,ayU,ajX)))) (iP.go kx ((vg,eI,As,n6,xw),(als,ayU,ajX))):=cK
theorem aed(o0)(k:K1 R):kf.A o0 k=aj (px.call o0) λx1=>aj (iO.call (x1.1,0,x1.2,0,([]:List mr))) λLK=>aG (decide (0=0/\(0+LK.2.1)<=(ae LK.2.2))) (k (kf.out (((cut LK.2.2 0 LK.2.1),()),LK.1))) aF:=cK
theorem SS:(kf.j8 1 iP):=by
 refine(kf.lX 1 iP) (λ(n,i,t,j,r,m1,m2,x,ks,bs)=>min t.toNat 13 - j.toNat) ?_
 rintro⟨n,i,t,j,r,m1,m2,x,ks,bs⟩ ⟨hr,aBC,k,c,rfl,rfl,aJU,akI⟩;have hr:jo r:=hr;have aBC:ks.length=m2:=aBC;have akI:m2=k:=akI;by_cases h:k < min c 13
 ·left;have e1:min (c:Int).toNat 13 - (k:Int).toNat=(min c 13 - (k+1))+1:=by simp only[aa];omega
  have e2:min (c:Int).toNat 13 - ((k+1:Nat):Int).toNat=min c 13 - (k+1):=by simp only[aa]
  refine⟨(n,i,(c:Int),((k+1:Nat):Int),(oo r).2,m1,m2+1,x,ks++ [(oo r).1],bs),⟨(B5 hr).2,by rw[ai];show ks.length+1=_;omega,k+1,c,rfl,rfl,ak,ak⟩,by simp only[aa];omega,?_,λkn kx=> ?_⟩
  ·simp only[qe,tM,e1,e2,mJ,aC,bQ];rw[show m2+1+(min c 13 - (k+1))=m2+(min c 13 - (k+1)+1) by omega]
  ·rw[AB,aU ak,aU ak,CP (d:=r) hr];simp only[ah,ao,bm,IH];rw[aI ak,cV ak ak,N.ot ak,bg ak];rfl
 ·right;have aLj:k=min c 13:=ak;have e1:min (c:Int).toNat 13 - (k:Int).toNat=0:=by simp only[aa];omega
  intro R kn kx;rw[AB];simp only[qe,tM,e1,mJ,bn,bM];by_cases h1:k < c
  ·rw[aU ak,aT ak];rfl
  ·rw[aT ak];rfl
theorem SR:(kf.j8 0 iO):=by
 refine(kf.lX 0 iO) (λ(n,i,r,m,bs)=>5 - i.toNat) ?_
 rintro⟨n,i,r,m,bs⟩ ⟨hr,aEK,k,rfl,hk,akI⟩;have hr:jo r:=hr;have aEK:bs.length=m:=aEK;have akI:m=k:=akI;have g1:=iA hr;by_cases h:(k:Int) < n/\k < 5
 ·left;have e0:5 - (k:Int).toNat=(4 - k)+1:=by rw[aa];omega
  have e1:5 - ((k+1:Nat):Int).toNat=4 - k:=by rw[aa];omega
  have hp:0 < n - (k:Int):=ak;obtain⟨c,aEO⟩:∃c:Nat,(bX r).1=c:=⟨(bX r).1.toNat,ak⟩;have afC:=Tp (min c 13) _ g1.2.2;have gk:=TB (min c 13) _ g1.2.2;have ga:=iA gk.2.2;have gd:=iA ga.2.2;have eb:A9 ((4 - k)+1) (n - (k:Int)) r=((oZ (min c 13) (bX r).2).1::(A9 (4 - k) (n - (k:Int) - 1) (oZ (min c 13) (bX r).2).2).1,(A9 (4 - k) (n - (k:Int) - 1) (oZ (min c 13) (bX r).2).2).2):=by rw[A9,if_pos hp,aEO,aa]
  refine⟨(n,((k+1:Nat):Int),(oZ (min c 13) (bX r).2).2,m+1,bs++ [(oZ (min c 13) (bX r).2).1]),⟨afC.2.2,by rw[ai];show bs.length+1=_;omega,k+1,rfl,ak,ak⟩,by simp only[aa];omega,?_,λkn kx=> ?_⟩
  ·simp only[bm,tK,e0,e1,eb,aC,bQ,aE];rw[show n - ((k+1:Nat):Int)=n - (k:Int) - 1 by omega,show m+1+(A9 (4 - k) (n - (k:Int) - 1) (oZ (min c 13) (bX r).2).2).1.length=m+((A9 (4 - k) (n - (k:Int) - 1) (oZ (min c 13) (bX r).2).2).1.length+1) by omega]
  ·rw[AA,aU h.1,aU ak,lh (d:=r) hr];simp only[ah,ao,bm,oR];rw[aEO,PU (d:=(n,(k:Int),(c:Int),0,(bX r).2,m,0,(0,0,0,()),[],bs)) ⟨g1.2.2,rfl,0,c,rfl,rfl,aL _,rfl⟩];simp only[ah,qe,tM,aS,nu,aa,aH,aO];rw[lh (d:=(mJ (min c 13) (bX r).2).2) gk.2.2];simp only[ah,bm,oR];rw[lh (d:=(bX (mJ (min c 13) (bX r).2).2).2) ga.2.2];simp only[ah,bm,oR];rw[CP (d:=(bX (bX (mJ (min c 13) (bX r).2).2).2).2) gd.2.2];simp only[ah,bm,IH];rw[aI ⟨by trivial,by rw[gk.2.1];exact az _⟩,aI ak,cV ak ak,N.ot ak,bg ak,dw gk.2.1];rfl
 ·right;intro R kn kx;have eb:A9 (5 - k) (n - (k:Int)) r=([],r):=by
   by_cases h5:k=5
   ·subst h5;rfl
   ·rw[show 5 - k=(4 - k)+1 by omega,A9,if_neg ak]
  rw[AA];simp only[bm,tK,aa,eb,bj,bM,bn];by_cases h1:(k:Int) < n
  ·rw[aU h1,aT ak];rfl
  ·rw[aT h1];rfl
theorem aee:kf.Ok:=by intro r h;have h:jo r:=h;have g1:=iA h;rw[aed,lh (d:=r) h];simp only[ah,bm,oR];rw[PS (d:=((bX r).1,0,(bX r).2,0,[])) ⟨g1.2.2,rfl,0,rfl,gw,rfl⟩];simp only[ah,bm,tK,aS,nu,iK,aH,aO,az,eW,bA,ao,dw];rfl
theorem Zp:kf.RS:=rE [.d gK] kf
def aef:=kf.fh aee 2 ⟨.fD SR,⟨.fD SS,trivial⟩⟩
def ahM:Bs->Prop:=λb=>Bytes b/\b.length<=1000000000
def PV:Bs->(Lk×Bool):=λb=>qA b
def yf:Fs Tryz.prog ahM bm PV:=fg 43 Tryz.f43 (λb=>([.d tB b],[])) (λx=>⟨.cons (.d zV x.1) (.cons (.d .bool x.2) (.nil)),[],[]⟩) [aw tB] [abK,aef,GJ,RK] {res:=[aw zV,aF]}
theorem alK(b)(k:K1 R):yf.A b k=aj (Hd.call b) λx1=>aj (kf.call x1) λx2=>aj (jC.call x2.1) λx3=>aG (!x3) (k (yf.out ((([]:List mr),()),aQ))) (aj (ky.call x2.1) λx4=>aG (aGk (cY x4) (cY b)) (k (yf.out ((([]:List mr),()),aQ))) (k (yf.out (x2.1,aW)))):=cK
theorem alL:yf.Ok:=by
 rintro b ⟨hb,hl⟩;have hb:Bytes b:=hb;have hl:b.length<=1000000000:=hl;have g0:=W4 hb hl (aQ,());have gp:=aoS g0;rw[alK,WS (d:=b) hl];simp only[ah,bm,WR];rw[Zp (d:=(b,aQ,())) g0];simp only[ah,bm,RL,bm,PV];rw[DP (d:=((wK (b,aQ,())).1,())) gp.1,<-axt hb hl];simp only[ah,bm,zj];cases gT:og ((wK (b,aQ,())).1,())
 ·rw[if_neg (by rintro⟨x,_⟩;cases x)];rfl
 ·rw[M8 (d:=((wK (b,aQ,())).1,())) gp.1];simp only[cd,au,ah,bm,DO];have hB:=aa9 ((wK (b,aQ,())).1,());rw[ayc hB hb];by_cases hx:EO ((wK (b,aQ,())).1,())=b
  ·rw[aI hx,if_pos ⟨by trivial,hx⟩];rfl
  ·rw[aJ hx,if_neg (λy=>hx y.2)];rfl
theorem ahN:yf.RS:=rE [.d tB] yf
def alM:=yf.fh alL
def Ie(n:Int)(x:fB):Int:=if x.2.1.2.2.1=0 then n+8*x.2.1.2.1.length else n+8*x.2.1.2.1.length+4
theorem ajK:∀(l:List fB) (n:Int),l.foldl Ie (n+10*l.length)=l.foldl ED n
 |[],n=>by simp
 |x::l,n=>by
  have e:Ie (n+10*((x::l).length:Nat)) x=ED n x+10*(l.length:Nat):=by unfold Ie ED;rw[aE];split <;> omega
  rw[cS,e,ajK l];rfl
def P2:(eT×Int×Int)->Prop:=λ(t,n,i)=>(t.1).length<=1000000000/\∃k:Nat,k<=(t.1).length/\i=k/\(t.1.length<=64)/\(∀x∈t.1,x.2.1.2.1.length<=12)/\(0<=n)/\(n<=10000+200*(k:Int))
def um:(eT×Int×Int)->Int:=λ(t,n,i)=>(aX (ab i) t.1).foldl Ie n
def ZF:eT->Prop:=λt=>Ca t
def RT:eT->Int:=λt=>Ig t
def iQ:Ls P2 bm um:=oP (λ(gR,n,i)=>⟨([bK,.dB eU gR,bK,.d ti n,.d ti i]++a9 42 []),[],(ag 47 [])⟩) (λx=>(.exit 0,⟨([bK,bK,bK,.d ti x]++a9 43 []),[],(ag 47 [])⟩))
def fZ:Fs Tryz.prog ZF bm RT:=fg 17 Tryz.f17 (λt=>([.d eU t],[])) (λx=>⟨.d ti x,[],[]⟩) [aw eU] [nb] {loops:=oN [(5,{aY:=[1,3,4]})],outs:=oM [(5,{aY:=[3]},{aY:=[2]})],fE:=pX [(5,iQ.E)]}
theorem P3:iQ.RS:=rL [.d eU,.d ti,.d ti] iQ
theorem AH(gR n i)(kn:K2 R)(kx:K3 R):fZ.R 0 iQ (gR,n,i) kn kx=aG (fV i (gR.1.length:Int)) (aG (ei i (gR.1.length:Int)) (aG (ei i (gR.1.length:Int)) (aG (Ak (nth dM gR.1 (ab i)).2.1.2.2.1 0) (kn (iQ.st (gR,(bB .i64 (bB .i64 n (eB .i64 8 (((ae (nth dM gR.1 (ab i)).2.1.2.1):Nat):Int))) 4),(bB .i64 i 1)))) (kn (iQ.st (gR,(bB .i64 n (eB .i64 8 (((ae (nth dM gR.1 (ab i)).2.1.2.1):Nat):Int))),(bB .i64 i 1))))) aF) aF) (iQ.go kx n):=cK
theorem aes(t)(k:K1 R):fZ.A t k=aj (dy.call t) λx1=>aG (!x1) (k (fZ.out 0)) (aj (iQ.call (t,(bB .i64 (bB .i64 10 (eB .i64 10 (t.1.length:Int))) (eB .i64 8 (t.2.1.length:Int))),0)) λx2=>k (fZ.out x2)):=cK
theorem Tf:(fZ.j8 0 iQ):=by
 refine(fZ.lX 0 iQ) (λ(t,n,i)=>(t.1).length - ab i) ?_
 rintro⟨t,n,i⟩ ⟨hlen,k,hk,rfl,yU,hx,h0,h1⟩;have hlen:(t.1).length<=1000000000:=hlen;have hk:k<=(t.1).length:=hk;have yU:t.1.length<=64:=yU;have hx:∀x∈t.1,x.2.1.2.1.length<=12:=hx;have h0:0<=n:=h0;have h1:n<=10000+200*(k:Int):=h1;by_cases h:k < (t.1).length
 ·left;have n1:nth dM t.1 k=t.1[k]:=cC (t:=dM) h;have hd:aX k t.1=t.1[k]::aX (k+1) t.1:=aq h;refine⟨(t,(Ie n t.1[k]),((k+1:Nat):Int)),⟨hlen,k+1,ak,rfl,yU,hx,by unfold Ie;split <;> omega,by have:=hx _ (ba h);unfold Ie;split <;> omega⟩,by simp only[aa];omega,?_,λkn kx=> ?_⟩
  ·simp only[bm,um,aa,hd,cS]
  ·rw[AH,aU ak,bo ak ak,aa,n1];simp only[ao];have e:=hx _ (ba h);rw[wE (x:=8) ak ak,iC (x:=n) ak ak,N.ot ak];unfold Ie;by_cases hs:t.1[k].2.1.2.2.1=0
   ·rw[cZ hs,au,if_pos hs]
   ·rw[eR hs,ao,if_neg hs,iC ak ak]
 ·right;obtain rfl:k=(t.1).length:=ak;intro R kn kx;rw[AH,aT ak,au];simp only[bm,um,aa,aN,fM]
theorem aet:fZ.Ok:=by
 intro t hv;have hv:Ca t:=hv;rw[aes,lR (d:=t) hv.1];simp only[ah,bm,nK,bm,RT,Ig];cases gT:gS t
 ·rfl
 ·obtain⟨⟨_,a2,a3,_⟩,b1,b2⟩:=jO gT;rw[cd,au,wE (x:=10) ak ak,wE (x:=8) ak ak,iC (x:=10) ak ak,iC ak ak,P3 (d:=(t,10+10*(t.1.length:Int)+8*(t.2.1.length:Int),0)) ⟨by show t.1.length<=_;omega,0,aL _,rfl,a2,λx hx=>(qE (iD _ _ b1 x hx)).2.2.2.2,by show(0:Int)<=10+10*(t.1.length:Int)+8*(t.2.1.length:Int);omega,by show 10+10*(t.1.length:Int)+8*(t.2.1.length:Int)<=_;omega⟩];simp only[ah,bm,um,aS,aM,bN];rw[show(10+10*(t.1.length:Int)+8*(t.2.1.length:Int))=10+8*(t.2.1.length:Int)+10*(t.1.length:Int) by omega,ajK]
theorem ZG:fZ.RS:=rE [.d eU] fZ
def aeu:=fZ.fh aet 1 ⟨.fD Tf,trivial⟩
def ra:dQ->Bool->((dQ)×(Bool)):=λo0 y=>(o0,y)
def axi:dQ->Prop:=λ_=>True
def BQ:dQ->Bool:=λo=> !o.2.1
def WQ:Fs Tryz.prog axi ra BQ:=fg 41 Tryz.f41 (λo0=>([.ptr (.eC 0) 0 [] 0],[.obj 0 aQ (.d gK o0)])) (λx=>⟨.d .bool x.2,[.obj 0 aQ (.d gK x.1)],[]⟩) [aF] [] {Ch:=[⟨0,[.arr],gK⟩]}
theorem aAG(o0)(k:K1 R):WQ.A o0 k=k (WQ.out (o0,(!o0.2.1))):=cK
theorem aAH:WQ.Ok:=by intro o _;rw[aAG];rfl
theorem uq:WQ.RS:=rE [.d gK] WQ
def aoZ:=WQ.fh aAH
def WM:dQ->Int->((dQ)×(Int)):=λo0 y=>(o0,y)
def amD:dQ->Prop:=λ_=>True
def aiq:dQ->Int:=λo=>(o.1.length:Int)
def Ld:Fs Tryz.prog amD WM aiq:=fg 46 Tryz.f46 (λo0=>([.ptr (.eC 0) 0 [] 0],[.obj 0 aQ (.d gK o0)])) (λx=>⟨.d ti x.2,[.obj 0 aQ (.d gK x.1)],[]⟩) [aF] [] {Ch:=[⟨0,[.arr],gK⟩]}
theorem ar9(o0)(k:K1 R):Ld.A o0 k=k (Ld.out (o0,(o0.1.length:Int))):=cK
theorem asa:Ld.Ok:=by intro o _;rw[ar9];rfl
theorem amE:Ld.RS:=rE [.d gK] Ld
def asb:=Ld.fh asa
abbrev Ha:=Bs×Int×dQ×Bs×Bs
def BP:Ha->Bs->((dQ×Bs)×(Bs)):=λ(b,i,fc,n2,n4) y=>((fc,n2),y)
def ZQ:Ha->Prop:=λ(b,i,o,m,n)=>b.length<=32/\n.length=32/\∃k:Nat,k<=b.length/\i=k
def Hb:Ha->Bs:=λ(b,i,o,m,n)=>n.take i.toNat++(b.drop i.toNat++n.drop b.length)
def amB:dQ->Prop:=λr=>jo r
def aip:dQ->(Bs×dQ):=λr=>Cj r
theorem aA0{α:Type}{l n:List α}{k:Nat}(h:k < l.length)(hn:l.length<=n.length):(n.set k l[k]).take (k+1)++(l.drop (k+1)++(n.set k l[k]).drop l.length)=n.take k++(l.drop k++n.drop l.length):=by
 have hk:k < (n.set k l[k]).length:=by rw[ed];omega
 rw[dV hk,QD,List.getElem_set_self,List.drop_set_of_lt h,aq (i:=k) h,aC];rfl
def qj:Ls ZQ BP Hb:=oP (λ(b,i,fc,n2,n4)=>⟨([.ptr (.eC 0) 0 [] 0,bK,dX 2,.d tB b,dX 4,.d ti i]++a9 15 []),cH (.d gK fc),([[],[],cH (.d tH n2),[],cH (.d tH n4)]++bC 16 [])⟩) (λx=>(.exit 0,⟨([.ptr (.eC 0) 0 [] 0,bK,dX 2,bK,dX 4]++a9 16 []),cH (.d gK x.1.1),([[],[],cH (.d tH x.1.2),[],cH (.d tH x.2)]++bC 16 [])⟩))
def BO:Fs Tryz.prog amB bm aip:=fg 42 Tryz.f42 (λo0=>([.ptr (.eC 0) 0 [] 0],[.obj 0 aQ (.d gK o0)])) (λx=>⟨.d tH x.1,[.obj 0 aQ (.d gK x.2)],[]⟩) [aF] [P6] {loops:=oN [(4,{aY:=[0,2,3,4,5],sites:=[2,4]})],outs:=oM [(4,{aY:=[0,2,4],sites:=[2,4]},{aY:=[0,2]})],fE:=pX [(4,qj.E)],Ch:=[⟨0,[.arr],gK⟩]}
theorem ZR:qj.RS:=rL [.d tB,.d ti,.d gK,.d tB,.d tB] qj
theorem Hc(b i fc n2 n4)(kn:K2 R)(kx:K3 R):BO.R 0 qj (b,i,fc,n2,n4) kn kx=aG (fV i (b.length:Int)) (aG (ei i (b.length:Int)) (aG (ei i 32) (aG (decide ((ab i) < (ae n4))) (aG (decide ((((ab i)*1)+0)=(0+((ab i)*1)))) (aG (decide ((ab i) < (ae n4))) (kn (qj.st (b,(bB .i64 i 1),fc,n2,(eE n4 (ab i) (nth tb b (ab i)))))) aF) aF) aF) aF) aF) (qj.go kx ((fc,n2),n4)):=cK
theorem ar6(o0)(k:K1 R):BO.A o0 k=aj (zx.call (32,o0)) λx1=>aj (qj.call (x1.1,0,x1.2,(ag 32 0),(ag 32 0))) λx2=>k (BO.out (x2.2,x2.1.1)):=cK
theorem aeC:(BO.j8 0 qj):=by
 refine(BO.lX 0 qj) (λ(b,i,o,m,n)=>b.length - ab i) ?_
 rintro⟨b,i,o,m,n⟩ ⟨hb,hn,k,hk,rfl⟩;have hb:b.length<=32:=hb;have hn:n.length=32:=hn;have hk:k<=b.length:=hk;by_cases h:k < b.length
 ·left;have n1:nth tb b k=b[k]:=cC (t:=tb) h;have hl:(n.set k b[k]).length=32:=by rw[ed];exact hn
  refine⟨(b,((k+1:Nat):Int),o,m,n.set k b[k]),⟨hb,hl,k+1,ak,rfl⟩,by simp only[aa];omega,?_,λkn kx=> ?_⟩
  ·simp only[BP,Hb,aa];rw[aA0 h ak]
  ·rw[Hc,aU ak,bo ak ak,bo ak ak];simp only[aa,gq,bM,aH,n1,ao,bA];rw[aI ak,N.ot ak];rfl
 ·right;obtain rfl:k=b.length:=ak;intro R kn kx;rw[Hc,aT ak,au];simp only[BP,Hb,aa,aN,aO,dm]
theorem ar7:BO.Ok:=by intro r h;have h:jo r:=h;have e:=uE (n:=32) h;rw[ar6,Le (d:=((32:Int),r)) ⟨gw,h.1⟩];simp only[ah,bm,NB];rw[show ab 32=32 from rfl,ZR (d:=((jE 32 r).1,0,(jE 32 r).2,ag 32 0,ag 32 0)) ⟨e.1,cO,0,aL _,rfl⟩];rfl
theorem amC:BO.RS:=rE [.d gK] BO
def ar8:=BO.fh ar7 1 ⟨.fD aeC,trivial⟩
def ain:dQ->Prop:=λr=>jo r
def P5:dQ->(Bs×dQ):=λr=>wA r
def AK:Fs Tryz.prog ain bm P5:=fg 44 Tryz.f44 (λo0=>([.ptr (.eC 0) 0 [] 0],[.obj 0 aQ (.d gK o0)])) (λx=>⟨.d tB x.1,[.obj 0 aQ (.d gK x.2)],[]⟩) [aF] [ND,P6] {res:=[aw tB],Ch:=[⟨0,[.arr],gK⟩]}
theorem amx(o0)(k:K1 R):AK.A o0 k=aj (px.call o0) λx1=>aG (x1.2.2.1) (k (AK.out (([]:List Int),x1.2))) (aj (zx.call (x1.1,x1.2)) λx2=>k (AK.out (x2.1,x2.2))):=cK
theorem amy:AK.Ok:=by
 intro r h;have h:jo r:=h;have e:=iA h;rw[amx,lh (d:=r) h];simp only[ah,bm,oR,bm,P5,wA];cases hc:(bX r).2.2.1
 ·rw[au,Le (d:=((bX r).1,(bX r).2)) ⟨e.1,e.2.2.1⟩];rfl
 ·rfl
theorem aio:AK.RS:=rE [.d gK] AK
def amz:=AK.fh amy
abbrev GZ:=eT×Nat×Int×(List tj)
def P0:GZ->Prop:=λ(t,L,i,r)=>(t.1).length<=1000000/\∃k:Nat,k<=(t.1).length/\i=k/\L=(r).length/\(r).length<=1000000+k
def uk:GZ->(Nat×(List tj)):=λ(t,L,i,r)=>(L+(aX (ab i) t.1).length,r++(aX (ab i) t.1).map (λx:fB=>x.1))
def ZD:eT->Prop:=λt=>aBn t
def RR:eT->(List tj):=λt=>jt t
def jL:Ls P0 bm uk:=oP (λ(gR,outL,i,aqY)=>⟨([bK,.dB eU gR,bK,iw 23 outL,.d ti i]++a9 20 []),[],(bC 23 [cH (.vec 45 oS aqY),[]])⟩) (λx=>(.exit 0,⟨([bK,bK,bK,iw 23 x.1]++a9 21 []),[],(bC 23 [cH (.vec 45 oS x.2),[]])⟩))
def fY:Fs Tryz.prog ZD bm RR:=fg 22 Tryz.f22 (λt=>([.d eU t],[])) (λx=>⟨.d (.slice oS) x,[],[]⟩) [aw eU] [nb] {loops:=oN [(5,{aY:=[1,3,4],sites:=[23],owns:=[⟨3,[],23,60⟩]})],outs:=oM [(5,{aY:=[3],sites:=[23]},{aY:=[2]})],fE:=pX [(5,jL.E)],res:=[aw (.slice oS)]}
theorem P1:jL.RS:=rL [.d eU,.n,.d ti,.d (.slice oS)] jL
theorem AG(gR outL i aqY)(kn:K2 R)(kx:K3 R):fY.R 0 jL (gR,outL,i,aqY) kn kx=aG (fV i (gR.1.length:Int)) (aG (ei i (gR.1.length:Int)) (aG (decide (outL<=(ae aqY))) (aG (db (outL+1) 40) (kn (jL.st (gR,(outL+1),(bB .i64 i 1),((aP outL aqY)++ [(nth dM gR.1 (ab i)).1])))) aF) aF) aF) (jL.go kx (outL,aqY)):=cK
theorem aep(t)(k:K1 R):fY.A t k=aj (dy.call t) λx1=>aG (!x1) (k (fY.out ([]:List tj))) (aj (jL.call (t,0,0,([]:List tj))) λx2=>aG (decide (0=0/\(0+x2.1)<=(ae x2.2))) (k (fY.out (cut x2.2 0 x2.1))) aF):=cK
theorem Te:(fY.j8 0 jL):=by
 refine(fY.lX 0 jL) (λ(t,L,i,r)=>(t.1).length - ab i) ?_
 rintro⟨t,L,i,r⟩ ⟨hlen,k,hk,rfl,rfl,nD⟩;have hlen:(t.1).length<=1000000:=hlen;have hk:k<=(t.1).length:=hk;have nD:(r).length<=1000000+k:=nD;by_cases h:k < (t.1).length
 ·left;have n1:nth dM t.1 k=t.1[k]:=cC (t:=dM) h;have hd:aX k t.1=t.1[k]::aX (k+1) t.1:=aq h;refine⟨(t,(r).length+1,((k+1:Nat):Int),r++ [(λx:fB=>x.1) t.1[k]]),⟨hlen,k+1,ak,rfl,by rw[ai];rfl,by rw[ai];show(r).length+1<=_;omega⟩,by simp only[aa];omega,?_,λkn kx=> ?_⟩
  ·simp only[bm,uk,aa,hd,bS,aE,aC,bQ];rw[show ∀a c:Nat,a+1+c=a+(c+1) from λa c=>ak]
  ·rw[AG,aU ak,bo (show(0:Int)<=(k:Int) by omega) ak,aa,n1];simp only[ao];rw[aI (az _),cV ak ak,N.ot ak,bt];rfl
 ·right;obtain rfl:k=(t.1).length:=ak;intro R kn kx;rw[AG,aT ak,au];simp only[bm,uk,aa,aN,eX,bn,bj,bM]
theorem aeq:fY.Ok:=by
 intro t hv;have hv:aBn t:=hv;rw[aep,lR (d:=t) hv];simp only[ah,bm,nK,bm,RR,jt];cases gT:gS t
 ·rfl
 ·obtain⟨⟨_,a2,a3,_⟩,b1,b2⟩:=jO gT;rw[P1 (d:=(t,0,0,[])) ⟨by show t.1.length<=_;omega,0,aL _,rfl,rfl,aL _⟩];simp only[cd,au,bN,ah,bm,uk,aS,aM,aO,aH];rw[aI ⟨by trivial,by rw[bR];exact az _⟩,ao,dw (by rw[bR])]
theorem ZE:fY.RS:=rE [.d eU] fY
def aer:=fY.fh aeq 1 ⟨.fD Te,trivial⟩
abbrev Nj:=eT×Nat×Int×Bs×(List tj)
def Wb:Nj->Prop:=λ(t,L,i,id,r)=>t.2.1.length<=1000/\∃k:Nat,k<=t.2.1.length/\i=k/\L=r.length/\L=k
def yj:Nj->(Nat×(List tj)):=λ(t,L,i,id,r)=>(L+((t.2.1.length:Int) - i).toNat,r++Jk id i.toNat ((t.2.1.length:Int) - i).toNat)
def ahV:eT->Prop:=λt=>Ca t
def abA:eT->(List tj):=λt=>sW t
def nJ:Ls Wb bm yj:=oP (λ(gR,outL,i,n4,aqY)=>⟨([bK,.dB eU gR,bK,iw 23 outL,dX 4,.d ti i]++a9 19 []),[],(bC 4 ([cH (.d tH n4)]++bC 18 [cH (.vec 45 oS aqY),[]]))⟩) (λx=>(.exit 0,⟨([bK,bK,bK,iw 23 x.1]++a9 21 []),[],(bC 23 [cH (.vec 45 oS x.2),[]])⟩))
def jK:Fs Tryz.prog ahV bm abA:=fg 24 Tryz.f24 (λt=>([.d eU t],[])) (λx=>⟨.d (.slice oS) x,[],[]⟩) [aw eU] [nb,V8] {loops:=oN [(6,{aY:=[1,3,4,5],sites:=[4,23],owns:=[⟨3,[],23,60⟩]})],outs:=oM [(6,{aY:=[3],sites:=[23]},{aY:=[2]})],fE:=pX [(6,nJ.E)],res:=[aw (.slice oS)]}
theorem Wc:nJ.RS:=rL [.d eU,.n,.d ti,.d tB,.d (.slice oS)] nJ
theorem E0(gR outL i n4 aqY)(kn:K2 R)(kx:K3 R):jK.R 0 nJ (gR,outL,i,n4,aqY) kn kx=aG (fV i (gR.2.1.length:Int)) (aG (decide (outL<=(ae aqY))) (aG (db (outL+1) 40) (kn (nJ.st (gR,(outL+1),(bB .i64 i 1),n4,((aP outL aqY)++ [(n4,(i,()))])))) aF) aF) (nJ.go kx (outL,aqY)):=cK
theorem alS(t)(k:K1 R):jK.A t k=aj (dy.call t) λx1=>aG (!x1) (k (jK.out ([]:List tj))) (aj (uX.call t) λx2=>aj (nJ.call (t,0,0,x2,([]:List tj))) λx3=>aG (decide (0=0/\(0+x3.1)<=(ae x3.2))) (k (jK.out (cut x3.2 0 x3.1))) aF):=cK
theorem Zv:(jK.j8 0 nJ):=by
 refine(jK.lX 0 nJ) (λ(t,L,i,id,r)=>((t.2.1.length:Int) - i).toNat) ?_
 rintro⟨t,L,i,id,r⟩ ⟨hm,k,hk,rfl,rfl,aBI⟩;have aBI:r.length=k:=aBI;have hm:t.2.1.length<=1000:=hm;have hk:k<=t.2.1.length:=hk;by_cases h:k < t.2.1.length
 ·left;have e1:((t.2.1.length:Int) - (k:Int)).toNat=(t.2.1.length - (k+1))+1:=ak;have e2:((t.2.1.length:Int) - ((k+1:Nat):Int)).toNat=t.2.1.length - (k+1):=ak;refine⟨(t,r.length+1,((k+1:Nat):Int),id,r++ [(id,((k:Int),()))]),⟨hm,k+1,ak,rfl,by rw[ai];rfl,by show r.length+1=_;omega⟩,by show((t.2.1.length:Int) - ((k+1:Nat):Int)).toNat < ((t.2.1.length:Int) - (k:Int)).toNat;omega,?_,λkn kx=> ?_⟩
  ·simp only[bm,yj,e1,e2,aa,U0,aC,bQ];rw[show r.length+1+(t.2.1.length - (k+1))=r.length+(t.2.1.length - (k+1)+1) by omega]
  ·rw[E0,aU ak,aI (az _),cV ak ak,N.ot ak,bt];rfl
 ·right;obtain rfl:k=t.2.1.length:=ak;intro R kn kx;rw[E0,aT ak,au];simp only[bm,yj,Int.sub_self,aS,bM];rw[show Jk id (t.2.1.length:Int).toNat 0=[] from rfl,bn]
theorem alT:jK.Ok:=by
 intro t hv;have hv:Ca t:=hv;rw[alS,lR (d:=t) hv.1];simp only[ah,bm,nK,bm,abA,sW];cases gT:gS t
 ·rfl
 ·obtain⟨⟨_,a2,a3,_⟩,b1,b2⟩:=jO gT;have hl:=PD (OF t) 0 t.2.1.length;rw[cd,au,PW (d:=t) hv];simp only[ah,bm,TM];rw[Wc (d:=(t,0,0,OF t,[])) ⟨by show t.2.1.length<=_;omega,0,aL _,rfl,rfl,rfl⟩];simp only[bN,ah,bm,yj,iK,aa,aS,aO,aH];rw[aI ⟨by trivial,by rw[hl];exact az _⟩,ao,dw hl]
theorem ahW:jK.RS:=rE [.d eU] jK
def alU:=jK.fh alT 1 ⟨.fD Zv,trivial⟩
abbrev Bw:=eT×Bs×Int×Int×FB
def rH:Bw->Bs->((eT×Int×FB)×(Bs)):=λ(sh,fI,eI,kv,n5) y=>((sh,eI,n5),y)
def SX:Bw->Prop:=λ(t,b,i1,i,x)=>(x.2.1).length<=1000000000/\∃k:Nat,k<=(x.2.1).length/\i=k/\(x.2.1.length<=12)/\(b.length<=80000000+16*k)
def vU:Bw->Bs:=λ(t,b,i1,i,x)=>(aX (ab i) x.2.1).foldl Lp b
def SV:(eT×Bs×Int)->Prop:=λ(t,b,i)=>(t.1).length<=1000000000/\∃k:Nat,k<=(t.1).length/\i=k/\(t.1.length<=64)/\(∀x∈t.1,x.2.1.2.1.length<=12/\x.2.1.1<=9223372036854775807)/\(b.length<=100000+1000*k)
def Bv:(eT×Bs×Int)->Bs:=λ(t,b,i)=>(aX (ab i) t.1).foldl afy b
def aei:eT->Prop:=λt=>Ca t
def K8:eT->Bs:=λt=>aap t
def lH:Ls SV bm Bv:=oP (λ(gR,b,i)=>⟨([bK,.dB eU gR,bK,.d tB b,.d ti i]++a9 57 []),[],(ag 62 [])⟩) (λx=>(.exit 0,⟨([bK,bK,bK,.d tB x]++a9 58 []),[],(ag 62 [])⟩))
def lI:Ls SX rH vU:=oP (λ(sh,fI,eI,kv,n5)=>⟨([bK,.dB eU sh,bK,.d tB fI,.d ti eI,dX 5,.d ti kv]++a9 55 []),[],(bC 5 ([cH (.d TS n5)]++bC 56 []))⟩) (λx=>(.exit 2,⟨([bK,.dB eU x.1.1,bK,.d tB x.2,.d ti x.1.2.1,dX 5]++a9 56 []),[],(bC 5 ([cH (.d TS x.1.2.2)]++bC 56 []))⟩))
def fP:Fs Tryz.prog aei bm K8:=fg 19 Tryz.f19 (λt=>([.d eU t],[])) (λx=>⟨.d tB x,[],[]⟩) [aw eU] [nb,RO,WT,abL] {loops:=oN [(5,{aY:=[1,3,4]}),(11,{aY:=[1,3,4,5,6],sites:=[5]})],outs:=oM [(5,{aY:=[3]},{aY:=[2]}),(11,{aY:=[1,3,4,5],sites:=[5]},{aY:=[2]})],fE:=pX [(5,lH.E),(11,lI.E)],res:=[aw tB]}
theorem SW:lH.RS:=rL [.d eU,.d tB,.d ti] lH
theorem Cx(gR b i)(kn:K2 R)(kx:K3 R):fP.R 0 lH (gR,b,i) kn kx=aG (fV i (gR.1.length:Int)) (aG (ei i (gR.1.length:Int)) (aj (uY.call (b,(nth dM gR.1 (ab i)).2.1.1)) λx1=>aj (uY.call (x1,(((ae (nth dM gR.1 (ab i)).2.1.2.1):Nat):Int))) λx2=>aj (lI.call (gR,x2,i,0,(nth dM gR.1 (ab i)).2.1)) λx3=>aj (ur.call (x3.2,x3.1.2.2.2.2.1)) λx4=>kn (lH.st (x3.1.1,x4,(bB .i64 x3.1.2.1 1)))) aF) (lH.go kx b):=cK
theorem SY:lI.RS:=rL [.d eU,.d tB,.d ti,.d ti,.d TS] lI
theorem Cy(sh fI eI kv n5)(kn:K2 R)(kx:K3 R):fP.R 1 lI (sh,fI,eI,kv,n5) kn kx=aG (fV kv (n5.2.1.length:Int)) (aG (ei kv (n5.2.1.length:Int)) (aj (ur.call (fI,(nth oE n5.2.1 (ab kv)).1)) λx1=>aG (ei kv (n5.2.1.length:Int)) (aj (ur.call (x1,(nth oE n5.2.1 (ab kv)).2.1)) λx2=>kn (lI.st (sh,x2,eI,(bB .i64 kv 1),n5))) aF) aF) (lI.go kx ((sh,eI,n5),fI)):=cK
theorem ahQ(t)(k:K1 R):fP.A t k=aj (dy.call t) λx1=>aG (!x1) (k (fP.out ([]:List Int))) (aj (lN.call t) λx2=>aj (lH.call (t,x2,0)) λx9=>k (fP.out x9)):=cK
theorem VZ:(fP.j8 1 lI):=by
 refine(fP.lX 1 lI) (λ(t,b,i1,i,x)=>(x.2.1).length - ab i) ?_
 rintro⟨t,b,i1,i,x⟩ ⟨hlen,k,hk,rfl,Q3,hb⟩;have hlen:(x.2.1).length<=1000000000:=hlen;have hk:k<=(x.2.1).length:=hk;have Q3:x.2.1.length<=12:=Q3;have hb:b.length<=80000000+16*k:=hb;by_cases h:k < (x.2.1).length
 ·left;have n1:nth oE x.2.1 k=x.2.1[k]:=cC (t:=oE) h;have hd:aX k x.2.1=x.2.1[k]::aX (k+1) x.2.1:=aq h;refine⟨(t,(Lp b x.2.1[k]),i1,((k+1:Nat):Int),x),⟨hlen,k+1,ak,rfl,Q3,by have:=Xx b x.2.1[k];omega⟩,by simp only[aa];omega,?_,λkn kx=> ?_⟩
  ·simp only[rH,vU,aa,hd,cS]
  ·rw[Cy,aU ak,bo ak ak,aa,n1];simp only[ao];rw[zz (d:=(b,x.2.1[k].1)) (by show b.length<=_;omega)];simp only[ah,bm,CO];rw[zz (d:=(b++gV x.2.1[k].1,x.2.1[k].2.1)) (by show(b++gV x.2.1[k].1).length<=_;rw[ai,bT];omega)];simp only[ah,bm,CO];rw[N.ot ak];rfl
 ·right;obtain rfl:k=(x.2.1).length:=ak;intro R kn kx;rw[Cy,aT ak,au];simp only[rH,vU,aa,aN,fM]
theorem VY:(fP.j8 0 lH):=by
 refine(fP.lX 0 lH) (λ(t,b,i)=>(t.1).length - ab i) ?_
 rintro⟨t,b,i⟩ ⟨hlen,k,hk,rfl,yU,hx,hb⟩;have hlen:(t.1).length<=1000000000:=hlen;have hk:k<=(t.1).length:=hk;have yU:t.1.length<=64:=yU;have hx:∀x∈t.1,x.2.1.2.1.length<=12/\x.2.1.1<=9223372036854775807:=hx;have hb:b.length<=100000+1000*k:=hb;by_cases h:k < (t.1).length
 ·left;have n1:nth dM t.1 k=t.1[k]:=cC (t:=dM) h;have hd:aX k t.1=t.1[k]::aX (k+1) t.1:=aq h;refine⟨(t,(afy b t.1[k]),((k+1:Nat):Int)),⟨hlen,k+1,ak,rfl,yU,hx,by have:=ajL b t.1[k] (hx _ (ba h)).1;omega⟩,by simp only[aa];omega,?_,λkn kx=> ?_⟩
  ·simp only[bm,Bv,aa,hd,cS]
  ·rw[Cx,aU ak,bo ak ak,aa,n1];simp only[ao];have e:=hx _ (ba h);have e1:=eJ b t.1[k].2.1.1;have e2:=eJ (df b t.1[k].2.1.1) t.1[k].2.1.2.1.length;have e3:=Ob t.1[k].2.1.2.1 (df (df b t.1[k].2.1.1) t.1[k].2.1.2.1.length);rw[mP (d:=(b,t.1[k].2.1.1)) ⟨by show b.length<=_;omega,e.2⟩];simp only[ah,bm,rZ];rw[mP (d:=(df b t.1[k].2.1.1,(t.1[k].2.1.2.1.length:Int))) ⟨by show(df b t.1[k].2.1.1).length<=_;omega,by show(t.1[k].2.1.2.1.length:Int)<=_;omega⟩];simp only[ah,bm,rZ];rw[SY (d:=(t,df (df b t.1[k].2.1.1) t.1[k].2.1.2.1.length,(k:Int),0,t.1[k].2.1)) ⟨by show t.1[k].2.1.2.1.length<=_;omega,0,aL _,rfl,e.1,by show(df (df b t.1[k].2.1.1) t.1[k].2.1.2.1.length).length<=_;omega⟩];simp only[ah,rH,vU,aS,aM];rw[zz (d:=(t.1[k].2.1.2.1.foldl Lp (df (df b t.1[k].2.1.1) t.1[k].2.1.2.1.length),t.1[k].2.1.2.2.1)) (by show(t.1[k].2.1.2.1.foldl Lp (df (df b t.1[k].2.1.1) t.1[k].2.1.2.1.length)).length<=_;omega)];simp only[ah,bm,CO];rw[N.ot ak];rfl
 ·right;obtain rfl:k=(t.1).length:=ak;intro R kn kx;rw[Cx,aT ak,au];simp only[bm,Bv,aa,aN,fM]
theorem ahR:fP.Ok:=by
 intro t hv;have hv:Ca t:=hv;rw[ahQ,lR (d:=t) hv.1];simp only[ah,bm,nK,bm,K8,aap];cases gT:gS t
 ·rfl
 ·obtain⟨⟨_,a2,a3,_⟩,b1,b2⟩:=jO gT;have hl:=DM gT hv;rw[Nk (d:=t) ⟨gT,hv⟩];simp only[cd,au,bN,ah,bm,K9];rw[SW (d:=(t,qJ t,0)) ⟨by show t.1.length<=_;omega,0,aL _,rfl,a2,λx hx=>by have:=qE (iD _ _ b1 x hx);exact⟨this.2.2.2.2,ak⟩,by show(qJ t).length<=_;omega⟩];rfl
theorem Na:fP.RS:=rE [.d eU] fP
def RM:=fP.fh ahR 2 ⟨.fD VY,⟨.fD VZ,trivial⟩⟩
end Go.Ab
end
