/-
  Made short by a program of mine (wip/tools/mini.py).
-/
import Derived.Test.YtlpebgkekjfhaaaGreatS22x4
set_option linter.unusedVariables false
set_option linter.unusedSimpArgs false
set_option maxRecDepth 100000
set_option synthInstance.maxSize 5000
noncomputable section
namespace Go.Ab
open Go.Proofs
abbrev qe:Ty:=(.pair ti (.pair ti (.pair ti .unit)))
abbrev pE:=(Int×(Int×(Int×Unit)))
abbrev dI:Ty:=(.pair gX (.pair lR (.pair ti (.pair tu (.pair ti (.pair ti .unit))))))
abbrev eh:=(jm×(lS×(Int×(Int×(Int×(Int×Unit))))))
abbrev km:Ty:=(.pair (.slice dI) qe)
abbrev iD:=((List eh)×pE)
def gF(b:pE):Bool:=decide (0<=pf b.1 b.2.1/\1<=b.2.2.1/\imax (imax b.1 b.2.1) b.2.2.1<=1000)
theorem yC{b:pE}(h:gF b=true):(0<=b.1/\b.1<=1000)/\(0<=b.2.1/\b.2.1<=1000)/\1<=b.2.2.1/\b.2.2.1<=1000:=by
 have h:=of_decide_eq_true h
 unfold pf imax at h
 split at h <;> split at h <;> split at h <;> omega
def EG(b:pE):Int:=if gF b then b.2.2.1+b.1+b.2.1+1 else 0
def fO(b:pE):Int:=if gF b then b.2.2.1+b.1+b.2.1+1+12 else 0
theorem rJ(b:pE):0<=fO b/\fO b<=3013/\(gF b=true->14<=fO b):=by
 unfold fO
 split
 ·rename_i h
  have:=yC h
  exact⟨by omega,by omega,λ_=>by omega⟩
 ·rename_i h
  exact⟨by omega,by omega,λe=>absurd e h⟩
abbrev dL.D:=pE
abbrev dL.Y:=Bool
def dL.bf:dL.D->Prop:=λ_=>True
def dL.F:dL.D->dL.Y:=λb=>gF b
def dL:Fs Tryz.prog dL.bf bS dL.F:=fS 98 Tryz.f98 (λb=>([.d qe b],[])) (λx=>⟨.d .bool x,[],[]⟩) [some qe]
theorem dL.eq{R:Type}(b)(k:K1 R):dL.A b k=
  aO ((pN (pf b.1 b.2.1) 0)) (
   aO ((pN b.2.2.1 1)) (
    k (dL.out (Ct (imax (imax b.1 b.2.1) b.2.2.1) 1000))) (
    k (dL.out false))) (
   k (dL.out false)):=by kernel_rfl
theorem dL.ok:dL.Ok:=by
 intro b _
 rw[dL.eq]
 simp only[bS,dL.F,gF]
 by_cases a1:0<=pf b.1 b.2.1
 ·rw[fH a1,aj]
  by_cases a2:1<=b.2.2.1
  ·rw[fH a2,aj]
   by_cases a3:imax (imax b.1 b.2.1) b.2.2.1<=1000
   ·rw[ki a3,decide_eq_true ⟨a1,a2,a3⟩]
   ·rw[iy (by omega),decide_eq_false (λe=>a3 e.2.2)]
  ·rw[eg (by omega),aq,decide_eq_false (λe=>a2 e.2.1)]
 ·rw[eg (by omega),aq,decide_eq_false (λe=>a1 e.1)]
theorem dL.run:dL.RS:=rE [.d qe] dL
def dL.sg:=dL.gl dL.ok
abbrev fx.D:=pE
abbrev fx.Y:=Int
def fx.bf:fx.D->Prop:=λ_=>True
def fx.F:fx.D->fx.Y:=λb=>EG b
def fx:Fs Tryz.prog fx.bf bS fx.F:=fS 122 Tryz.f122 (λb=>([.d qe b],[])) (λx=>⟨.d ti x,[],[]⟩) [some qe] [dL.sg]
theorem fx.eq{R:Type}(b)(k:K1 R):fx.A b k=
  aA (dL.call b) λx1=>
  aO ((!x1)) (
   k (fx.out 0)) (
   k (fx.out (bW .i64 (bW .i64 (bW .i64 b.2.2.1 b.1) b.2.1) 1))):=by kernel_rfl
theorem fx.ok:fx.Ok:=by
 intro b _
 rw[fx.eq,dL.run (d:=b) trivial]
 simp only[ah,bS,dL.F,bS,fx.F,EG]
 cases h:gF b with
 |false=>rfl
 |true=>
  obtain⟨⟨h1,h2⟩,⟨h3,h4⟩,h5,h6⟩:=yC h
  rw[cz,aq,eP (x:=b.2.2.1) (by omega) (by omega),eP (x:=b.2.2.1+b.1) (by omega) (by omega),eP (by omega) (by omega)]
  rfl
theorem fx.run:fx.RS:=rE [.d qe] fx
def fx.sg:=fx.gl fx.ok
abbrev eQ.D:=pE
abbrev eQ.Y:=Int
def eQ.bf:eQ.D->Prop:=λ_=>True
def eQ.F:eQ.D->eQ.Y:=λb=>fO b
def eQ:Fs Tryz.prog eQ.bf bS eQ.F:=fS 57 Tryz.f57 (λb=>([.d qe b],[])) (λx=>⟨.d ti x,[],[]⟩) [some qe] [dL.sg,fx.sg]
theorem eQ.eq{R:Type}(b)(k:K1 R):eQ.A b k=
  aA (dL.call b) λx1=>
  aO ((!x1)) (
   k (eQ.out 0)) (
   aA (fx.call b) λx2=>
   k (eQ.out (bW .i64 x2 12))):=by kernel_rfl
theorem eQ.ok:eQ.Ok:=by
 intro b _
 rw[eQ.eq,dL.run (d:=b) trivial]
 simp only[ah,bS,dL.F,bS,eQ.F,fO]
 cases h:gF b with
 |false=>rfl
 |true=>
  obtain⟨⟨h1,h2⟩,⟨h3,h4⟩,h5,h6⟩:=yC h
  rw[cz,aq,fx.run (d:=b) trivial]
  simp only[ah,bS,fx.F,EG,h,if_true]
  rw[eP (by omega) (by omega)]
theorem eQ.run:eQ.RS:=rE [.d qe] eQ
def eQ.sg:=eQ.gl eQ.ok
def xe(x:eh)(h:Int):Bool:=decide (x.2.2.2.2.1<=h/\(x.2.2.2.2.2.1=0\/h < x.2.2.2.2.2.1))
def I8(n:Int)(x:eh):Int:=if x.2.2.2.1≠0 then n+18+4 else n+18
def tt(l:List eh):Int:=if l.length=0 then 0 else l.foldl I8 18
theorem Bw:∀(l:List eh) (n:Int),n+18*(l.length:Int)<=l.foldl I8 n/\l.foldl I8 n<=n+22*(l.length:Int)
 |[],n=>by simp
 |x::l,n=>by
  have h1:=Bw l (I8 n x)
  have h2:n+18<=I8 n x/\I8 n x<=n+22:=by unfold I8;split <;> omega
  rw[cO,aC]
  omega
theorem rq(l:List eh):0<=tt l/\tt l<=18+22*(l.length:Int):=by
 unfold tt
 have:=Bw l 18
 split <;> omega
abbrev alone.D:=eh×Int
abbrev alone.Y:=Bool
def alone.bf:alone.D->Prop:=λ_=>True
def alone.F:alone.D->alone.Y:=λ(x,h)=>xe x h
def alone:Fs Tryz.prog alone.bf bS alone.F:=fS 55 Tryz.f55 (λ(x,atv)=>([.d dI x,.d ti atv],[])) (λx=>⟨.d .bool x,[],[]⟩) [some dI,some ti]
theorem alone.eq{R:Type}(x atv)(k:K1 R):alone.A (x,atv) k=
  aO ((Ct x.2.2.2.2.1 atv)) (
   aO ((Ac x.2.2.2.2.2.1 0)) (
    k (alone.out true)) (
    k (alone.out (ju atv x.2.2.2.2.2.1)))) (
   k (alone.out false)):=by kernel_rfl
theorem alone.ok:alone.Ok:=by
 rintro⟨x,h⟩ _
 rw[alone.eq]
 simp only[bS,alone.F,xe]
 by_cases a1:x.2.2.2.2.1<=h
 ·rw[ki a1,aj]
  by_cases a2:x.2.2.2.2.2.1=0
  ·rw[ja a2,aj,decide_eq_true ⟨a1,.inl a2⟩]
  ·rw[gP a2,aq]
   by_cases a3:h < x.2.2.2.2.2.1
   ·rw[bq a3,decide_eq_true ⟨a1,.inr a3⟩]
   ·rw[bn a3,decide_eq_false (λe=>e.2.elim a2 a3)]
 ·rw[iy a1,aq,decide_eq_false (λe=>a1 e.1)]
theorem alone.run:alone.RS:=rE [.d dI,.d ti] alone
def alone.sg:=alone.gl alone.ok
abbrev bF.L0.D:=Int×(List eh)×Int×Int
abbrev bF.L0.Y:=Int
abbrev bF.D:=(List eh)
abbrev bF.Y:=Int
def bF.L0.bf:bF.L0.D->Prop:=λ(n,l,m,i)=>(l).length<=1000000000/\∃k:Nat,k<=(l).length/\i=k/\m=(l).length/\(0<=n)/\(n<=18+22*(k:Int))
def bF.L0.F:bF.L0.D->bF.L0.Y:=λ(n,l,m,i)=>(List.drop (Int.toNat i) l).foldl I8 n
def bF.bf:bF.D->Prop:=λl=>l.length<=1000000000
def bF.F:bF.D->bF.Y:=λl=>tt l
def bF.L0:Ls bF.L0.bf bS bF.L0.F:=so (λ(n,t9,t10,t11)=>⟨([.undef,.undef,.undef,.d ti n]++bE 5 ([.d (.slice dI) t9,.d ti t10,.d ti t11]++bE 12 [])),[],(List.replicate 24 [])⟩) (λx=>(.exit 0,⟨([.undef,.undef,.undef,.d ti x]++bE 20 []),[],(List.replicate 24 [])⟩))
def bF:Fs Tryz.prog bF.bf bS bF.F:=fS 46 Tryz.f46 (λl=>([.d (.slice dI) l],[])) (λx=>⟨.d ti x,[],[]⟩) [some (.slice dI)] [] {loops:=qP [(5,{bI:=[3,9,10,11]})],outs:=qO [(5,{bI:=[3]},{bI:=[2]})],jK:=sm [(5,bF.L0.E)]}
theorem bF.L0.run:bF.L0.RS:=rL [.d ti,.d (.slice dI),.d ti,.d ti] bF.L0
theorem bF.L0.step{R:Type}(n t9 t10 t11)(kn:K2 R)(kx:K3 R):bF.R 0 bF.L0 (n,t9,t10,t11) kn kx=
  aO ((ju t11 t10)) (
   aO (gK t11 (t9.length:Int)) (
   aO ((wV (nth dI t9 (Int.toNat t11)).2.2.2.1 0)) (
    kn (bF.L0.st ((bW .i64 (bW .i64 n 18) 4),t9,t10,(bW .i64 t11 1)))) (
    kn (bF.L0.st ((bW .i64 n 18),t9,t10,(bW .i64 t11 1))))) none) (
   bF.L0.go kx n):=by kernel_rfl
theorem bF.eq{R:Type}(l)(k:K1 R):bF.A l k=
  aO ((Ac (l.length:Int) 0)) (
   k (bF.out 0)) (
   aA (bF.L0.call (18,l,(l.length:Int),0)) λx1=>
   k (bF.out x1)):=by kernel_rfl
theorem bF.L0.ok:(bF.mf 0 bF.L0):=by
 refine(bF.nN 0 bF.L0) (λ(n,l,m,i)=>(l).length - Int.toNat i) ?_
 rintro⟨n,l,m,i⟩ ⟨hlen,k,hk,rfl,rfl,h1,h2⟩
 have hlen:(l).length<=1000000000:=hlen
 have hk:k<=(l).length:=hk
 have h1:0<=n:=h1
 have h2:n<=18+22*(k:Int):=h2
 by_cases h:k < (l).length
 ·left
  have n1:nth dI l k=l[k]:=dR (t:=dI) h
  have hd:List.drop k l=l[k]::List.drop (k+1) l:=aB h
  refine⟨((I8 n l[k]),l,((l).length:Int),((k+1:Nat):Int)),⟨hlen,k+1,by omega,rfl,rfl,by have:=(Bw [l[k]] n).1;simp only[cO,jB,aC,aZ]at this;omega,by have:=(Bw [l[k]] n).2;simp only[cO,jB,aC,aZ]at this;omega⟩,by simp only[aa];omega,?_,λkn kx=> ?_⟩
  ·simp only[bS,bF.L0.F,aa,hd,cO]
  ·rw[bF.L0.step,bq (by omega),bM (by omega) (by omega),aa,n1]
   simp only[aj]
   rw[N.rO (by omega),eP (x:=n) (by omega) (by omega),eP (x:=n+18) (by omega) (by omega)]
   unfold I8
   by_cases hs:l[k].2.2.2.1=0
   ·rw[e7 hs,aq,if_neg (λe=>e hs)]
   ·rw[iA hs,aj,if_pos hs]
 ·right
  obtain rfl:k=(l).length:=by omega
  intro R kn kx
  rw[bF.L0.step,bn (by omega),aq]
  simp only[bS,bF.L0.F,aa,bG,jB]
theorem bF.ok:bF.Ok:=by
 intro l (h:l.length<=1000000000)
 have z1:((0:Int)).toNat=0:=rfl
 rw[bF.eq]
 simp only[bS,bF.F,tt]
 by_cases h0:l.length=0
 ·rw[ja (by omega),aj,if_pos h0]
 ·rw[gP (by omega),aq,if_neg h0,bF.L0.run (d:=(18,l,(l.length:Int),0)) ⟨h,0,bj _,rfl,rfl,by decide,by decide⟩]
  simp only[ah,bS,bF.L0.F,z1,aL]
theorem bF.run:bF.RS:=rE [.d (.slice dI)] bF
def bF.sg:=bF.gl bF.ok 1 ⟨.jG bF.L0.ok,trivial⟩
abbrev bR.L0.D:=Nat×Int×Int×jm×Int×Nat×(Int×(Int×(Int×(Int×Unit))))×jm×Int×(Int×(Int×(Int×(Int×Unit))))×(List tw)
abbrev bR.L0.Y:=(List tw)
abbrev bR.L0.X:=(jm×Int×Nat×(Int×(Int×(Int×(Int×Unit))))×jm×Int×(Int×(Int×(Int×(Int×Unit)))))×((List tw))
def bR.L0.add:bR.L0.D->bR.L0.Y->bR.L0.X:=λ(GX,t17,t18,n1,vy,BC,tc,n2,pj,oA,n9) y=>((n1,vy,BC,tc,n2,pj,oA),y)
abbrev bR.D:=eh
abbrev bR.Y:=eh
def bR.L0.bf:bR.L0.D->Prop:=λ(m,t,i,_,_,n,_,_,_,_,l)=>(l.length<=1000/\∀b∈l,b.1.length<=1000000)/\∃k:Nat,k<=l.length/\i=k/\n=l.length/\m=l.length/\t=l.length
def bR.L0.F:bR.L0.D->bR.L0.Y:=λ(_,_,_,_,_,_,_,_,_,_,l)=>l
def bR.bf:bR.D->Prop:=λx=>OH x.2.1.2.1
def bR.F:bR.D->bR.Y:=λx=>x
def bR.L0:Ls bR.L0.bf bR.L0.add bR.L0.F:=so (λ(GX,t17,t18,n1,vy,BC,tc,n2,pj,oA,n9)=>⟨([.undef,.ptr (.new 1 0) 0 [] 0,.ptr (.new 2 0) 0 [] 0]++bE 13 ([.cv (.new 9 0) 0 [] 0 0 GX,.d ti t17,.d ti t18]++bE 16 [])),[],([[],[.obj 0 false (.pr (.d gX n1) (.pr (.pr (.d ti vy) (.pr (.pr (.cv (.new 9 0) 0 [] 0 0 BC) (.d .unit ())) (.d .unit ()))) (.d (.pair ti (.pair tu (.pair ti (.pair ti .unit)))) tc)))],[.obj 0 false (.pr (.d gX n2) (.pr (.pr (.d ti pj) (.pr (.pr (.c6) (.d .unit ())) (.d .unit ()))) (.d (.pair ti (.pair tu (.pair ti (.pair ti .unit)))) oA)))]]++cS 6 ([[.obj 0 false (.vec 29 o6 n9)]]++cS 25 []))⟩) (λx=>(.exit 0,⟨([.undef,.ptr (.new 1 0) 0 [] 0,.ptr (.new 2 0) 0 [] 0]++bE 32 []),[],([[],[.obj 0 false (.pr (.d gX x.1.1) (.pr (.pr (.d ti x.1.2.1) (.pr (.pr (.cv (.new 9 0) 0 [] 0 0 x.1.2.2.1) (.d .unit ())) (.d .unit ()))) (.d (.pair ti (.pair tu (.pair ti (.pair ti .unit)))) x.1.2.2.2.1)))],[.obj 0 false (.pr (.d gX x.1.2.2.2.2.1) (.pr (.pr (.d ti x.1.2.2.2.2.2.1) (.pr (.pr (.c6) (.d .unit ())) (.d .unit ()))) (.d (.pair ti (.pair tu (.pair ti (.pair ti .unit)))) x.1.2.2.2.2.2.2)))]]++cS 6 ([[.obj 0 false (.vec 29 o6 x.2)]]++cS 25 []))⟩))
def bR:Fs Tryz.prog bR.bf bS bR.F:=fS 101 Tryz.f101 (λx=>([.d dI x],[])) (λx=>⟨.d dI x,[],[]⟩) [some dI] [ke.sg,ez.sg] {bk:=[1],loops:=qP [(3,{bI:=[1,2,16,17,18],sites:=[1,2,9]})],outs:=qO [(3,{bI:=[1,2],sites:=[1,2,9]},{bI:=[2]})],jK:=sm [(3,bR.L0.E)],res:=[some dI]}
theorem bR.L0.run:bR.L0.RS:=rL [.n,.d ti,.d ti,.d gX,.d ti,.n,.d (.pair ti (.pair tu (.pair ti (.pair ti .unit)))),.d gX,.d ti,.d (.pair ti (.pair tu (.pair ti (.pair ti .unit)))),.d (.slice o6)] bR.L0
theorem bR.L0.step{R:Type}(GX t17 t18 n1 vy BC tc n2 pj oA n9)(kn:K2 R)(kx:K3 R):bR.R 0 bR.L0 (GX,t17,t18,n1,vy,BC,tc,n2,pj,oA,n9) kn kx=
  aO ((ju t18 t17)) (
   aO (gK t18 ((GX:Nat):Int)) (
   aO (decide ((0+(Int.toNat t18)) < (List.length n9))) (
   aO (decide ((((0+(Int.toNat t18))*4)+0)=(0+((Int.toNat t18)*4)))) (
   aA (ez.call (nth o6 n9 (0+(Int.toNat t18))).1) λx1=>
   aO (gK t18 ((BC:Nat):Int)) (
   aO (decide ((0+(Int.toNat t18)) < (List.length n9))) (
   aO (decide ((((0+(Int.toNat t18))*4)+0)=((0+((Int.toNat t18)*4))+0))) (
   aO (decide ((0+(Int.toNat t18)) < (List.length n9))) (
   kn (bR.L0.st (GX,t17,(bW .i64 t18 1),n1,vy,BC,tc,n2,pj,oA,(List.set n9 (0+(Int.toNat t18)) (x1,(nth o6 n9 (0+(Int.toNat t18))).2))))) none) none) none) none) none) none) none) (
   bR.L0.go kx ((n1,vy,BC,tc,n2,pj,oA),n9)):=by kernel_rfl
theorem bR.eq{R:Type}(x)(k:K1 R):bR.A x k=
 aA (ke.call x.2.1.2.1.1) λx1=>
 aA (bR.L0.call (x1.1,((x1.1:Nat):Int),0,x.1,x.2.1.1,x1.1,x.2.2,((List.replicate 32 0),(0,())),0,(0,(0,(0,(0,())))),x1.2)) λx3=>
 aO (decide (0=0/\(0+x3.1.2.2.1)<=(List.length x3.2))) (
 k (bR.out (x3.1.1,((x3.1.2.1,(((cut x3.2 0 x3.1.2.2.1),()),())),x3.1.2.2.2.1)))) none:=by kernel_rfl
theorem bR.L0.ok:(bR.mf 0 bR.L0):=by
 refine(bR.nN 0 bR.L0) (λ(_,_,i,_,_,_,_,_,_,_,l)=>l.length - i.toNat) ?_
 rintro⟨m,t,i,a1,a2,n,a3,a4,a5,a6,l⟩ ⟨⟨hlen,hx⟩,k,hk,rfl,rfl,rfl,rfl⟩
 have hlen:l.length<=1000:=hlen
 have hk:k<=l.length:=hk
 by_cases h:k < l.length
 ·left
  have n1:nth o6 l k=l[k]:=dR (t:=o6) h
  have hs:l.set k l[k]=l:=eK h
  have e:=hx _ (b6 h)
  refine⟨(l.length,(l.length:Int),((k+1:Nat):Int),a1,a2,l.length,a3,a4,a5,a6,l),⟨⟨hlen,hx⟩,k+1,by omega,rfl,rfl,rfl,rfl⟩,by simp only[aa];omega,rfl,λkn kx=> ?_⟩
  rw[bR.L0.step,bq (by omega),bM (by omega) (by omega)]
  simp only[aa,aR,ct,aj,aY h,decide_true,n1]
  rw[ez.run (d:=l[k].1) e]
  simp only[ah,bS,ez.F]
  rw[N.rO (by omega)]
  exact congrArg (λz=>kn (bR.L0.st (_,_,_,_,_,_,_,_,_,_,z))) hs
 ·right
  obtain rfl:k=l.length:=by omega
  intro R kn kx
  rw[bR.L0.step,bn (by omega),aq]
  rfl
theorem bR.ok:bR.Ok:=by
 rintro⟨a,⟨am,⟨l,u⟩,u2⟩,r⟩ ⟨h1,h2⟩
 have h1:l.length<=1000:=h1
 rw[bR.eq,ke.run (d:=l) (by show l.length<=_;omega)]
 simp only[ah,bS,ke.F]
 rw[bR.L0.run (d:=(l.length,(l.length:Int),0,a,am,l.length,r,(List.replicate 32 0,0,()),0,(0,0,0,0,()),l)) ⟨⟨h1,h2⟩,0,bj _,rfl,rfl,rfl,rfl⟩]
 simp only[ah,bR.L0.add,bR.L0.F,bS,bR.F]
 rw[aY ⟨trivial,by omega⟩,aj,gR rfl]
theorem bR.run:bR.RS:=rE [.d dI] bR
def bR.sg:=bR.gl bR.ok 1 ⟨.jG bR.L0.ok,trivial⟩
abbrev dD.D:=eh×eh
abbrev dD.Y:=Int
def dD.bf:dD.D->Prop:=λ(x,y)=>x.1.1.length=32/\y.1.1.length=32
def dD.F:dD.D->dD.Y:=λ(x,y)=>xm x.1 y.1
def dD:Fs Tryz.prog dD.bf bS dD.F:=fS 104 Tryz.f104 (λ(x,yv)=>([.d dI x,.d dI yv],[])) (λx=>⟨.d ti x,[],[]⟩) [some dI,some dI] [lj.sg,iR.sg,eX.sg]
theorem dD.eq{R:Type}(x yv)(k:K1 R):dD.A (x,yv) k=
 aA (lj.call ((cut x.1.1 0 32),(cut yv.1.1 0 32))) λx1=>
 aA (iR.call (x.1.2.1,yv.1.2.1)) λx2=>
 aA (eX.call [x1,x2]) λx3=>
 k (dD.out x3):=by kernel_rfl
theorem dD.ok:dD.Ok:=by
 rintro⟨x,y⟩ ⟨h1,h2⟩
 have h1:x.1.1.length=32:=h1
 have h2:y.1.1.length=32:=h2
 rw[dD.eq,lj.run (d:=(cut x.1.1 0 32,cut y.1.1 0 32)) trivial,gR h1,gR h2]
 simp only[ah,bS,lj.F]
 rw[iR.run (d:=(x.1.2.1,y.1.2.1)) trivial]
 simp only[ah,bS,iR.F]
 rw[eX.run (d:=[xk x.1.1 y.1.1,qF x.1.2.1 y.1.2.1]) (by show 2<=_;decide)]
 rfl
theorem dD.run:dD.RS:=rE [.d dI,.d dI] dD
def dD.sg:=dD.gl dD.ok
def nZ(x y:eh):Int:=KO [qF x.2.2.2.2.2.1 y.2.2.2.2.2.1,xm x.1 y.1]
def zd(x y:eh):Int:=xm x.1 y.1
abbrev fX.D:=eh×eh
abbrev fX.Y:=Int
def fX.bf:fX.D->Prop:=λ(x,y)=>x.1.1.length=32/\y.1.1.length=32
def fX.F:fX.D->fX.Y:=λ(x,y)=>nZ x y
def fX:Fs Tryz.prog fX.bf bS fX.F:=fS 103 Tryz.f103 (λ(x,yv)=>([.d dI x,.d dI yv],[])) (λx=>⟨.d ti x,[],[]⟩) [some dI,some dI] [iR.sg,dD.sg,eX.sg]
theorem fX.eq{R:Type}(x yv)(k:K1 R):fX.A (x,yv) k=
 aA (iR.call (x.2.2.2.2.2.1,yv.2.2.2.2.2.1)) λx1=>
 aA (dD.call (x,yv)) λx2=>
 aA (eX.call [x1,x2]) λx3=>
 k (fX.out x3):=by kernel_rfl
theorem fX.ok:fX.Ok:=by
 rintro⟨x,y⟩ h
 rw[fX.eq,iR.run (d:=(x.2.2.2.2.2.1,y.2.2.2.2.2.1)) trivial]
 simp only[ah,bS,iR.F]
 rw[dD.run (d:=(x,y)) h]
 simp only[ah,bS,dD.F]
 rw[eX.run (d:=[qF x.2.2.2.2.2.1 y.2.2.2.2.2.1,xm x.1 y.1]) (by show 2<=_;decide)]
 rfl
theorem fX.run:fX.RS:=rE [.d dI,.d dI] fX
def fX.sg:=fX.gl fX.ok
def BE(x:eh):Prop:=IZ x.1
def oK(x:eh):List Int:=x.2.2.2.2.2.1::nL x.1
theorem kr{x:eh}(h:BE x):(oK x).length=34:=by unfold oK;rw[aC,jI h]
theorem ln{x y:eh}(hx:BE x)(hy:BE y):nZ x y=lx (oK x) (oK y):=by
 unfold nZ oK
 rw[lk hx hy]
 simp only[KO]
 by_cases h:x.2.2.2.2.2.1=y.2.2.2.2.2.1
 ·have e:qF x.2.2.2.2.2.1 y.2.2.2.2.2.1=0:=by unfold qF;rw[if_neg (by omega),if_neg (by omega)]
  rw[e,if_neg (λe=>e rfl),h,w6]
  split
  ·rfl
  ·rename_i h0;exact(Classical.not_not.1 h0).symm
 ·rw[rF h]
  by_cases h1:x.2.2.2.2.2.1 < y.2.2.2.2.2.1
  ·have e:qF x.2.2.2.2.2.1 y.2.2.2.2.2.1= -1:=by unfold qF;rw[if_pos h1]
   rw[e,if_pos h1,if_pos (by decide)]
  ·have e:qF x.2.2.2.2.2.1 y.2.2.2.2.2.1=1:=by unfold qF;rw[if_neg h1,if_pos (by omega)]
   rw[e,if_neg h1,if_pos (by decide)]
theorem xl:Kc Tryz.prog dI 104 BE zd:= {
 bA:=⟨dD.E,dD.sg.h.1 (by rfl),λx y hx hy=>⟨_,dD.run (d:=(x,y)) ⟨hx.1,hy.1⟩,rfl⟩⟩
 enters:=enters_of Tryz.func104 (by kernel_rfl) rfl
 irrefl:=λx hx=>xn.irrefl _ hx
 trans:=λx y z hx hy hz=>xn.trans _ _ _ hx hy hz
 ntrans:=λx y z hx hy hz=>xn.ntrans _ _ _ hx hy hz}
theorem uY:Kc Tryz.prog dI 103 BE nZ:= {
 bA:=⟨fX.E,fX.sg.h.1 (by rfl),λx y hx hy=>⟨_,fX.run (d:=(x,y)) ⟨hx.1,hy.1⟩,rfl⟩⟩
 enters:=enters_of Tryz.func103 (by kernel_rfl) rfl
 irrefl:=λx hx=>by rw[ln hx hx,Bc];decide
 trans:=λx y z hx hy hz h1 h2=>by
  rw[ln hx hy]at h1
  rw[ln hy hz]at h2
  rw[ln hx hz]
  have:=qR (by rw[kr hx,kr hy]) (by rw[kr hy,kr hz]) (by omega:lx (oK x) (oK y)<=0) (by omega:lx (oK y) (oK z)<=0)
  have h3:=this.1
  by_cases h4:lx (oK x) (oK z)=0
  ·have:=(this.2 h4).1;omega
  ·omega
 ntrans:=λx y z hx hy hz h1 h2=>by
  rw[ln hx hy]at h1
  rw[ln hy hz]at h2
  rw[ln hx hz]
  have e1:=pR (oK x) (oK y)
  have e2:=pR (oK y) (oK z)
  have e3:=pR (oK x) (oK z)
  have:=(qR (by rw[kr hz,kr hy]) (by rw[kr hy,kr hx]) (by omega:lx (oK z) (oK y)<=0) (by omega:lx (oK y) (oK x)<=0)).1
  omega}
theorem vT{x y:eh}(hx:BE x)(hy:BE y)(h1:¬nZ x y < 0)(h2:¬nZ y x < 0):x.1=y.1:=by
 rw[ln hx hy]at h1
 rw[ln hy hx,pR]at h2
 have:=Ic (by rw[kr hx,kr hy]) (by omega:lx (oK x) (oK y)=0)
 exact CR hx hy (List.cons.inj this).2
def Nj(g:Nat):List ao->Bool:=λvs=>match vs with | [_,.fn f _]=>Nat.beq f g | _=>false
def Dg.E:Entry:=IH 104 117 dI BE zd
def Dg.call:Nat×List eh->Option (Nat×List eh):=xc 104 117 dI BE zd
theorem Dg.run{d:Nat×List eh}(h:vK (t:=dI) BE zd d):Dg.call d=some (d.1,rX (t:=dI) zd d.2):=Bp h
def Dg.sg:SG Tryz.prog:=⟨102,Nj 104,Dg.E,.of (Di Tryz.IG (by rfl) (λw=>Tryz.isAgg117 w) (λw=>Tryz.sizeOf117 w) xl) (by rfl)⟩
def Dh.E:Entry:=IH 103 117 dI BE nZ
def Dh.call:Nat×List eh->Option (Nat×List eh):=xc 103 117 dI BE nZ
theorem Dh.run{d:Nat×List eh}(h:vK (t:=dI) BE nZ d):Dh.call d=some (d.1,rX (t:=dI) nZ d.2):=Bp h
def Dh.sg:SG Tryz.prog:=⟨102,Nj 103,Dh.E,.of (Di Tryz.IG (by rfl) (λw=>Tryz.isAgg117 w) (λw=>Tryz.sizeOf117 w) uY) (by rfl)⟩
abbrev bh.L0.D:=(List eh)×Int×Int×pE×iD
abbrev bh.L0.Y:=iD
abbrev bh.L0.X:=(pE)×(iD)
def bh.L0.add:bh.L0.D->bh.L0.Y->bh.L0.X:=λ(t12,t13,t14,n2,n3) y=>(n2,y)
abbrev bh.D:=(List eh)
abbrev bh.Y:=iD
def EW(u:Int)(x:eh):Int:=if x.2.2.2.2.2.1≠0/\(u=0\/x.2.2.2.2.2.1 < u) then x.2.2.2.2.2.1 else u
def QL(l:List eh):Int:=l.foldl EW 0
def gN(l:List eh):iD:=(l,(tt l,(tt l,(QL l,()))))
def Jw(g:iD)(x:eh):iD:=(g.1,(g.2.1,(g.2.2.1,(EW g.2.2.2.1 x,g.2.2.2.2))))
theorem z7:∀(l:List eh) (g:iD),l.foldl Jw g=(g.1,(g.2.1,(g.2.2.1,(l.foldl EW g.2.2.2.1,g.2.2.2.2))))
 |[],g=>rfl
 |x::l,g=>by rw[cO,z7 l];rfl
def bh.L0.bf:bh.L0.D->Prop:=λ(l,n,i,z,g)=>(l).length<=1000000000/\∃k:Nat,k<=(l).length/\i=k/\n=(l).length
def bh.L0.F:bh.L0.D->bh.L0.Y:=λ(l,n,i,z,g)=>(List.drop (Int.toNat i) l).foldl Jw g
def bh.bf:bh.D->Prop:=λl=>l.length<=1000000000
def bh.F:bh.D->bh.Y:=λl=>gN l
def bh.L0:Ls bh.L0.bf bh.L0.add bh.L0.F:=so (λ(t12,t13,t14,n2,n3)=>⟨([.undef,.undef,.ptr (.new 2 0) 0 [] 0,.ptr (.new 3 0) 0 [] 0]++bE 8 ([.d (.slice dI) t12,.d ti t13,.d ti t14]++bE 23 [])),[],([[],[],[.obj 0 false (.pr (.c6) (.d qe n2))],[.obj 0 false (.d km n3)]]++cS 34 [])⟩) (λx=>(.exit 0,⟨([.undef,.undef,.ptr (.new 2 0) 0 [] 0,.ptr (.new 3 0) 0 [] 0]++bE 34 []),[],([[],[],[.obj 0 false (.pr (.c6) (.d qe x.1))],[.obj 0 false (.d km x.2)]]++cS 34 [])⟩))
def bh:Fs Tryz.prog bh.bf bS bh.F:=fS 105 Tryz.f105 (λl=>([.d (.slice dI) l],[])) (λx=>⟨.d km x,[],[]⟩) [some (.slice dI)] [bF.sg] {loops:=qP [(3,{bI:=[2,3,12,13,14],sites:=[2,3]})],outs:=qO [(3,{bI:=[2,3],sites:=[2,3]},{bI:=[2]})],jK:=sm [(3,bh.L0.E)]}
theorem bh.L0.run:bh.L0.RS:=rL [.d (.slice dI),.d ti,.d ti,.d qe,.d km] bh.L0
theorem bh.L0.step{R:Type}(t12 t13 t14 n2 n3)(kn:K2 R)(kx:K3 R):bh.R 0 bh.L0 (t12,t13,t14,n2,n3) kn kx=
  aO ((ju t14 t13)) (
   aO (gK t14 (t12.length:Int)) (
   aO ((wV (nth dI t12 (Int.toNat t14)).2.2.2.2.2.1 0)) (
    aO ((Ac n3.2.2.2.1 0)) (
     kn (bh.L0.st (t12,t13,(bW .i64 t14 1),n2,(n3.1,(n3.2.1,(n3.2.2.1,((nth dI t12 (Int.toNat t14)).2.2.2.2.2.1,n3.2.2.2.2))))))) (
     aO ((ju (nth dI t12 (Int.toNat t14)).2.2.2.2.2.1 n3.2.2.2.1)) (
      kn (bh.L0.st (t12,t13,(bW .i64 t14 1),n2,(n3.1,(n3.2.1,(n3.2.2.1,((nth dI t12 (Int.toNat t14)).2.2.2.2.2.1,n3.2.2.2.2))))))) (
      kn (bh.L0.st (t12,t13,(bW .i64 t14 1),n2,n3))))) (
    kn (bh.L0.st (t12,t13,(bW .i64 t14 1),n2,n3)))) none) (
   bh.L0.go kx (n2,n3)):=by kernel_rfl
theorem bh.eq{R:Type}(l)(k:K1 R):bh.A l k=
 aA (bF.call l) λx1=>
 aA (bF.call l) λx2=>
 aA (bh.L0.call (l,(l.length:Int),0,(0,(0,(0,()))),(l,(x1,(x2,(0,())))))) λx3=>
 k (bh.out x3.2):=by kernel_rfl
theorem bh.L0.ok:(bh.mf 0 bh.L0):=by
 refine(bh.nN 0 bh.L0) (λ(l,n,i,z,g)=>(l).length - Int.toNat i) ?_
 rintro⟨l,n,i,z,g⟩ ⟨hlen,k,hk,rfl,rfl⟩
 have hlen:(l).length<=1000000000:=hlen
 have hk:k<=(l).length:=hk
 by_cases h:k < (l).length
 ·left
  have n1:nth dI l k=l[k]:=dR (t:=dI) h
  have hd:List.drop k l=l[k]::List.drop (k+1) l:=aB h
  refine⟨(l,((l).length:Int),((k+1:Nat):Int),z,(Jw g l[k])),⟨hlen,k+1,by omega,rfl,rfl⟩,by simp only[aa];omega,?_,λkn kx=> ?_⟩
  ·simp only[bh.L0.add,bh.L0.F,aa,hd,cO]
  ·rw[bh.L0.step,bq (by omega),bM (by omega) (by omega),aa,n1]
   simp only[aj]
   rw[N.rO (by omega)]
   unfold Jw EW
   by_cases h1:l[k].2.2.2.2.2.1=0
   ·rw[e7 h1,aq,if_neg (λe=>e.1 h1)]
   ·rw[iA h1,aj]
    by_cases h2:g.2.2.2.1=0
    ·rw[ja h2,aj,if_pos ⟨h1,.inl h2⟩]
    ·rw[gP h2,aq]
     by_cases h3:l[k].2.2.2.2.2.1 < g.2.2.2.1
     ·rw[bq h3,aj,if_pos ⟨h1,.inr h3⟩]
     ·rw[bn h3,aq,if_neg (λe=>e.2.elim h2 h3)]
 ·right
  obtain rfl:k=(l).length:=by omega
  intro R kn kx
  rw[bh.L0.step,bn (by omega),aq]
  simp only[bh.L0.add,bh.L0.F,aa,bG,jB]
theorem bh.ok:bh.Ok:=by
 intro l (h:l.length<=1000000000)
 have z1:((0:Int)).toNat=0:=rfl
 rw[bh.eq,bF.run (d:=l) h]
 simp only[ah,bS,bF.F]
 rw[bh.L0.run (d:=(l,(l.length:Int),0,(0,(0,(0,()))),(l,(tt l,(tt l,(0,())))))) ⟨h,0,bj _,rfl,rfl⟩]
 simp only[ah,bh.L0.add,bh.L0.F,z1,aL,z7]
 rfl
theorem bh.run:bh.RS:=rE [.d (.slice dI)] bh
def bh.sg:=bh.gl bh.ok 1 ⟨.jG bh.L0.ok,trivial⟩
def OF(c:y4):Prop:=oR c.1.2.1=true/\Ke c.1.2.1/\0<=c.1.1/\c.1.1<=1125899906842624/\0<=c.2.1/\c.2.1<=1048576
def QN(a:List (jm×y4)):Prop:=(a.map (·.1)).Nodup/\∀p∈a,IZ p.1/\OF p.2
theorem QN.get{a:List (jm×y4)}(h:QN a){o:jm}{c:y4}(hg:du gX o a=some c):OF c:=(h.2 _ ((jV jf h.1).1 hg)).2
def OC:y4:=((0,(([],()),())),(0,()))
theorem OF.own{c:y4}(h:OF c):OH c.1.2.1:=by
 have:=H9 h.1
 exact⟨by omega,λb hb=>by have:=this.2 b hb;omega⟩
def Og(h:Int)(id:List Int)(a:List (jm×y4)):List iG->Int->Int⊕Int
 |[],iE=> .inr iE
 |x::l,iE=>match du gX x.1 a with
  |none=> .inl 5
  |some c=>if KN c.1.2.1 x.2.1 id h (h - c.2.1)≠0 then .inl (KN c.1.2.1 x.2.1 id h (h - c.2.1)) else Og h id a l (iE+c.1.1)
def te(l:List lS):Int:=(l.map (·.1)).sum
theorem Af{t:jh}(h:kq t=true):(np t).length=t.2.1.length:=by
 unfold np
 rw[if_pos h]
 simp[Ie]
def B6(l:List jm)(a:List (jm×y4)):List (jm×y4):=l.foldl (λm o=>jx gX o m) a
def AK(h:Int):List jm->List lS->List (jm×y4)->List (jm×y4)
 |o::l,x::xs,a=>AK h l xs (gE gX o (x,(h,())) a)
 |_,_,a=>a
def xf(t:jh)(h:Int)(a:List (jm×y4)):List (jm×y4):=AK h (np t) t.2.1 (B6 (im t) a)
theorem HV{t:jh}(h:kq t=true):(im t).length=t.1.length:=by
 unfold im
 rw[if_pos h,cj]
theorem ID(k:Int)(m:List Int):QO (qo k m):=by
 unfold qo
 split
 ·exact⟨(J6 _).u,(Jd _ _).u⟩
 ·exact⟨⟨eo 0,by decide⟩,eo 0,by decide⟩
theorem Cd:∀(l l':List iG) (b:List Int),l.map (·.1)=l'.map (·.1)->l.foldl y8 b=l'.foldl y8 b
 |[],[],_,_=>rfl
 |[],_::_,_,h=>by cases h
 |_::_,[],_,h=>by cases h
 |x::l,y::l',b,h=>by
  rw[bX,bX,dg]at h
  have e:y8 b x=y8 b y:=by unfold y8;rw[h.1]
  rw[cO,cO,e,Cd l l' _ h.2]
theorem GH{l l':List iG}(t:List lS×Int×Unit)(h:l.map (·.1)=l'.map (·.1)):qW (l,t)=qW (l',t):=by
 have hl:l.length=l'.length:=by have:=congrArg List.length h;simpa using this
 unfold qW
 simp only[hl]
 rw[Cd l l' _ h]
theorem Cu:∀(l l':List iG) (m:List (jm×Bool)),l.map (·.1)=l'.map (·.1)->rU m l=true->(∀x∈l',qp x.2.1=true)->rU m l'=true
 |[],[],_,_,_,_=>rfl
 |[],_::_,_,h,_,_=>by cases h
 |_::_,[],_,h,_,_=>by cases h
 |x::l,y::l',m,h,hi,hw=>by
  rw[bX,bX,dg]at h
  rw[rU,ae,ae]at hi ⊢
  have hx:=hi.1.2
  unfold xM at hx
  rw[ae]at hx
  refine⟨⟨?_,?_⟩,?_⟩
  ·have:=hi.1.1
   unfold vZ at this ⊢
   rw[<-h.1]
   exact this
  ·unfold xM
   rw[<-h.1,hx.1,hw y aI]
   rfl
  ·rw[<-h.1]
   exact Cu l l' _ h.2 hi.2 λz hz=>hw z (aH _ hz)
theorem IM{l l':List iG}{t:List lS×Int×Unit}(h:l.map (·.1)=l'.map (·.1))(nE:kq (l,t)=true)(hw:∀x∈l',qp x.2.1=true):kq (l',t)=true:=by
 have hl:l.length=l'.length:=by have:=congrArg List.length h;simpa using this
 unfold kq yW at nE ⊢
 rw[ae,ae]at nE ⊢
 simp only[hl]at nE
 exact⟨nE.1,Cu l l' _ h nE.2.1 hw,nE.2.2⟩
theorem FD{l l':List iG}{t:List lS×Int×Unit}(h:l.map (·.1)=l'.map (·.1))(h1:kq (l,t)=true)(h2:kq (l',t)=true):Dr (l',t)=Dr (l,t):=by
 unfold Dr
 rw[h1,h2,GH t h]
theorem EM{l l':List iG}{t:List lS×Int×Unit}(h:l.map (·.1)=l'.map (·.1))(h1:kq (l,t)=true)(h2:kq (l',t)=true):im (l',t)=im (l,t):=by
 unfold im
 rw[h1,h2]
 exact h.symm
theorem Ig{l l':List iG}{t:List lS×Int×Unit}(h:l.map (·.1)=l'.map (·.1))(h1:kq (l,t)=true)(h2:kq (l',t)=true):np (l',t)=np (l,t):=by
 unfold np
 rw[h1,h2,FD h h1 h2]
def tj(t:jh)(k:Nat)(w:DI):jh:=(t.1.set k ((nth jL t.1 k).1,w,()),t.2)
theorem uD(l:List iG)(k:Nat)(w:DI)(h:k < l.length):l.map (·.1)=(l.set k ((nth jL l k).1,w,())).map (·.1):=by
 have n1:nth jL l k=l[k]:=dR (t:=jL) h
 rw[n1,List.map_set]
 have e:(l[k].1:jm)=(l.map (·.1))[k]'(by rw[cj];exact h):=by rw[List.getElem_map]
 show _=(l.map (·.1)).set k l[k].1
 rw[e,eK]
theorem C7{l:List iG}{k:Nat}{w:DI}{x:iG}(h:k < l.length)(hx:x∈l.set k ((nth jL l k).1,w,())):x∈l\/(x.1=l[k].1/\x.2.1=w):=by
 have n1:nth jL l k=l[k]:=dR (t:=jL) h
 rw[n1]at hx
 rcases List.mem_or_eq_of_mem_set hx with h1 | h1
 ·exact .inl h1
 ·exact .inr ⟨by rw[h1],by rw[h1]⟩
theorem w9{t:jh}{k:Nat}{w:DI}(h:k < t.1.length)(nE:kq t=true)(hw:qp w=true):kq (tj t k w)=true:=by
 obtain⟨_,b1,_⟩:=vM nE
 refine IM (l:=t.1) (uD t.1 k w h) nE λx hx=> ?_
 rcases C7 h hx with h1 | h1
 ·have:=tQ _ _ b1 x h1
  unfold xM at this
  rw[ae]at this
  exact this.2
 ·rw[h1.2];exact hw
theorem Mq{t:jh}{k:Nat}{w:DI}(h:k < t.1.length)(hv:Bz t)(hu:K4 w)(hl:w.2.1.length<=9223372036854775807):Bz (tj t k w):=by
 refine⟨⟨hv.1.1,by show(t.1.set k _).length<=_;rw[iU];exact hv.1.2.1,hv.1.2.2⟩,λx hx=> ?_,hv.2.2⟩
 rcases C7 h hx with h1 | h1
 ·exact hv.2.1 x h1
 ·refine⟨?_,by rw[h1.2];exact hu,by rw[h1.2];exact hl⟩
  rw[h1.1]
  exact(hv.2.1 _ (b6 h)).1
theorem J1{t:jh}{k:Nat}{w:DI}(h:k < t.1.length)(nE:kq t=true)(hw:qp w=true):Dr (tj t k w)=Dr t/\im (tj t k w)=im t/\np (tj t k w)=np t:=
 ⟨FD (l:=t.1) (uD t.1 k w h) nE (w9 h nE hw),EM (l:=t.1) (uD t.1 k w h) nE (w9 h nE hw),Ig (l:=t.1) (uD t.1 k w h) nE (w9 h nE hw)⟩
theorem IC(t:jh)(k:Nat)(w:DI):(tj t k w).1.length=t.1.length:=iU
def wM(t:jh)(br:Int)(ks:List Int)(sc:Int):DI:=(br,ks.map (λk=>qo k (Dr t)),sc,())
theorem Da(t:jh)(i br:Int)(ks:List Int)(sc:Int):nq t i br ks sc=if oG t i br ks then(tj t i.toNat (wM t br ks sc),0) else(([],[],0,()),1):=rfl
theorem C9{t:jh}{i br:Int}{ks:List Int}(h:oG t i br ks=true):kq t=true/\(0<=i/\i < t.1.length/\0<=br/\br < 4/\ks.length<=12)/\∀k∈ks,k < 2305843009213688669/\k≠0:=by
 unfold oG at h
 simp only[ae,decide_eq_true_eq,bt]at h
 refine⟨h.1,h.2.1,λk hk=> ?_⟩
 have:=h.2.2
 rw[jr]at this
 have:=this k hk
 unfold tD at this
 simpa using this
theorem J2{t:jh}{i br:Int}{ks:List Int}(sc:Int)(h:oG t i br ks=true):qp (wM t br ks sc)=true:=by
 have e:=(C9 h).2.1
 unfold qp wM
 rw[aY ⟨e.2.2.1,e.2.2.2.1⟩,aY (by rw[cj];exact e.2.2.2.2)]
 rfl
theorem Mt(t:jh)(br:Int)(ks:List Int){sc:Int}(h:ku sc):K4 (wM t br ks sc):=⟨λs hs=>by
  obtain⟨k,_,rfl⟩:=cU.1 (show s∈ks.map λk=>qo k (Dr t) from hs)
  exact ID k _,h⟩
theorem IE{t:jh}{i br sc:Int}{ks:List Int}(hv:Bz t)(h:oG t i br ks=true)(hs:ku sc):
  kq (tj t i.toNat (wM t br ks sc))=true/\Bz (tj t i.toNat (wM t br ks sc))/\Dr (tj t i.toNat (wM t br ks sc))=Dr t/\im (tj t i.toNat (wM t br ks sc))=im t/\np (tj t i.toNat (wM t br ks sc))=np t:=by
 obtain⟨nE,e,_⟩:=C9 h
 have hk:i.toNat < t.1.length:=by omega
 have hw:=J2 sc h
 exact⟨w9 hk nE hw,Mq hk hv (Mt t br ks hs) (by show(ks.map _).length<=_;rw[cj];omega),J1 hk nE hw⟩
def O8(r:MF):Prop:=r.1.length<=1000000000/\Bytes r.1
structure Sv(b:tw):Prop where
 len:b.1.length<=12
 af:DC b.2.1
 dl:DC b.2.2.1
def Nb(r:MF):Prop:=O8 r/\(r.2.1=true->r.1=[])
def Ov(r r':MF)(e:List Int):Prop:=Nb r'/\(r'.2.1=false->r.2.1=false/\r.1=e++r'.1)
theorem Ov.trans{r r1 r2:MF}{e1 e2:List Int}(h1:Ov r r1 e1)(h2:Ov r1 r2 e2):Ov r r2 (e1++e2):=
 ⟨h2.1,λh=>⟨(h1.2 (h2.2 h).1).1,by rw[(h1.2 (h2.2 h).1).2,(h2.2 h).2,bC]⟩⟩
theorem Ov.of{r r':MF}{e e':List Int}(h:Ov r r' e)(he:r'.2.1=false->e=e'):Ov r r' e':=⟨h.1,λh'=>by rw[<-he h'];exact h.2 h'⟩
theorem Ov.refl{r:MF}(h:Nb r):Ov r r []:=⟨h,λh'=>⟨h',rfl⟩⟩
section
variable {β:Type} {kt:Ty}
theorem tJ(hc:kt.comp=true)(o o':kt.den)(v:β):∀l:List (kt.den×β),du kt o (gE kt o' v l)=if kt.beq o o'=true then some v else du kt o l
 |[]=>by rw[Gw,gZ,vp]
 |p::l=>by
  rw[s8]
  by_cases h:kt.beq o' p.1=true
  ·rw[if_pos h,gZ,gZ]
   have e:=beq_eq kt _ _ hc h
   by_cases h2:kt.beq o o'=true
   ·rw[if_pos h2,if_pos h2]
   ·rw[if_neg h2,if_neg h2,if_neg (by rw[<-e];exact h2)]
  ·rw[if_neg h,gZ,gZ,tJ hc o o' v l]
   by_cases h3:kt.beq o p.1=true
   ·rw[if_pos h3,if_pos h3,if_neg]
    intro h4
    apply h
    rw[<-beq_eq kt _ _ hc h4]
    exact h3
   ·rw[if_neg h3,if_neg h3]
theorem Ff(hc:kt.comp=true)(o o':kt.den):∀ {l:List (kt.den×β)},(l.map (·.1)).Nodup->du kt o (jx kt o' l)=if kt.beq o o'=true then none else du kt o l
 |[],_=>by rw[Gv,vp];split <;> rfl
 |p::l,hn=>by
  rw[bX,cP]at hn
  rw[sZ]
  by_cases h:kt.beq o' p.1=true
  ·rw[if_pos h,gZ]
   have e:=beq_eq kt _ _ hc h
   by_cases h2:kt.beq o o'=true
   ·rw[if_pos h2]
    have e2:=beq_eq kt _ _ hc h2
    cases hg:du kt o l with
    |none=>rfl
    |some v=>exact absurd (cU.2 ⟨_,(jV hc hn.2).1 hg,rfl⟩) (by rw[e2,e];exact hn.1)
   ·rw[if_neg h2,if_neg (by rw[<-e];exact h2)]
  ·rw[if_neg h,gZ,gZ,Ff hc o o' hn.2]
   by_cases h3:kt.beq o p.1=true
   ·rw[if_pos h3,if_pos h3,if_neg]
    intro h4
    apply h
    rw[<-beq_eq kt _ _ hc h4]
    exact h3
   ·rw[if_neg h3,if_neg h3]
theorem get_none(hc:kt.comp=true){o:kt.den}{l:List (kt.den×β)}(hn:(l.map (·.1)).Nodup):du kt o l=none↔o ∉ l.map (·.1):=by
 constructor
 ·intro h hm
  obtain⟨p,hp,e⟩:=cU.1 hm
  have e:p.1=o:=e
  have:=(jV hc hn (x:=o) (v:=p.2)).2 (by rw[<-e];exact hp)
  rw[h]at this;cases this
 ·intro h
  cases hg:du kt o l with
  |none=>rfl
  |some v=>exact absurd (cU.2 ⟨_,(jV hc hn).1 hg,rfl⟩) h
theorem sr{l:List (kt.den×β)}(hn:(l.map (·.1)).Nodup):l.Nodup:=by
 induction l with
 |nil=>exact gz
 |cons p l ih=>
  rw[bX,cP]at hn
  exact cP.2 ⟨λh=>hn.1 (cU.2 ⟨p,h,rfl⟩),ih hn.2⟩
theorem CX(hc:kt.comp=true){l l':List (kt.den×β)}(hn:(l.map (·.1)).Nodup)(hn':(l'.map (·.1)).Nodup)(h:∀o,du kt o l=du kt o l'):l.Perm l':=by
 rw[List.perm_ext_iff_of_nodup (sr hn) (sr hn')]
 rintro⟨o,v⟩
 rw[<-jV hc hn,<-jV hc hn',h]
end
theorem za(a b:jm):(Ty.beq gX a b=true)↔a=b:=⟨beq_eq gX a b rfl,λh=>by rw[h];exact beq_refl gX b rfl⟩
abbrev At:=List (jm×y4)
abbrev ou(a:At):List jm:=a.map (·.1)
theorem LB(o o':jm)(v:y4)(a:At):du gX o (gE gX o' v a)=if o=o' then some v else du gX o a:=by
 rw[tJ jf]
 by_cases h:o=o'
 ·rw[if_pos ((za _ _).2 h),if_pos h]
 ·rw[if_neg (λe=>h ((za _ _).1 e)),if_neg h]
theorem Jr(o o':jm){a:At}(hn:(ou a).Nodup):du gX o (jx gX o' a)=if o=o' then none else du gX o a:=by
 rw[Ff jf _ _ hn]
 by_cases h:o=o'
 ·rw[if_pos ((za _ _).2 h),if_pos h]
 ·rw[if_neg (λe=>h ((za _ _).1 e)),if_neg h]
theorem D9{o:jm}{v:y4}{a:At}(hn:(ou a).Nodup):(ou (gE gX o v a)).Nodup:=wo jf hn
theorem om{o:jm}{a:At}(hn:(ou a).Nodup):(ou (jx gX o a)).Nodup:=qU jf hn
theorem Nn{a a':At}(hn:(ou a).Nodup)(hn':(ou a').Nodup)(h:∀o,du gX o a=du gX o a'):a.Perm a':=CX jf hn hn' h
theorem ET{o:jm}{c:y4}{a:At}(hn:(ou a).Nodup)(hg:du gX o a=some c):a.Perm ((o,c)::jx gX o a):=by
 refine Nn hn ?_ λx=> ?_
 ·show(o::ou (jx gX o a)).Nodup
  refine cP.2 ⟨?_,om hn⟩
  have:=(get_none jf (om (o:=o) hn)).1 (by rw[Jr o o hn,if_pos rfl])
  exact this
 ·rw[gZ,Jr x o hn]
  by_cases h:x=o
  ·subst h;rw[if_pos ((za _ _).2 rfl),hg]
  ·rw[if_neg (λe=>h ((za _ _).1 e)),if_neg h]
theorem uZ(o:jm)(l:List jm)(a:At):B6 (o::l) a=B6 l (jx gX o a):=rfl
theorem xq:∀(l:List jm) {a:At},(ou a).Nodup->(ou (B6 l a)).Nodup
 |[],_,h=>h
 |o::l,a,h=>by rw[uZ];exact xq l (om h)
theorem Km(x:jm):∀(l:List jm) {a:At},(ou a).Nodup->du gX x (B6 l a)=if x∈l then none else du gX x a
 |[],a,_=>by rw[if_neg (by simp)];rfl
 |o::l,a,h=>by
  rw[uZ,Km x l (om h),Jr x o h]
  by_cases h1:x∈l
  ·rw[if_pos h1,if_pos (aH _ h1)]
  ·rw[if_neg h1]
   by_cases h2:x=o
   ·rw[if_pos h2,if_pos (by rw[h2];exact aI ..)]
   ·rw[if_neg h2,if_neg (by simp[h1,h2])]
theorem uR(h:Int)(o:jm)(l:List jm)(x:lS)(xs:List lS)(a:At):AK h (o::l) (x::xs) a=AK h l xs (gE gX o (x,(h,())) a):=rfl
theorem Kl(h:Int)(x:jm):∀(l:List jm) (xs:List lS) (a:At),x ∉ l->du gX x (AK h l xs a)=du gX x a
 |[],[],_,_=>rfl
 |[],_::_,_,_=>rfl
 |_::_,[],_,_=>rfl
 |o::l,y::xs,a,hx=>by
  rw[uR,Kl h x l xs _ (λe=>hx (aH _ e)),LB,if_neg (λe=>hx (by rw[e];exact aI ..))]
theorem Cj(h:Int):∀(l:List jm) (xs:List lS) (a:At),l.Nodup->∀(k:Nat) (hk:k < l.length) (Co:k < xs.length),du gX l[k] (AK h l xs a)=some (xs[k],(h,()))
 |[],_,_,_,k,hk,_=>by simp at hk
 |_::_,[],_,_,k,_,hk=>by simp at hk
 |o::l,y::xs,a,hn,k,hk,Co=>by
  rw[cP]at hn
  rw[uR]
  cases k with
  |zero=>
   show du gX o _=some (y,(h,()))
   rw[Kl h o l xs _ hn.1,LB,if_pos rfl]
  |succ k=>
   simp only[List.getElem_cons_succ]
   exact Cj h l xs _ hn.2 k (by simpa using hk) (by simpa using Co)
def qd(a:At)(l:List jm):Int:=(l.map λo=>((du gX o a).getD OC).1.1).sum
theorem B7:∀(l:List jm) {a:At},(ou a).Nodup->l.Nodup->(∀o∈l,(du gX o a).isSome=true)->qs (B6 l a)=qs a - qd a l/\(B6 l a).length+l.length=a.length
 |[],a,_,_,_=>by simp[B6,qd]
 |o::l,a,hn,hl,ht=>by
  rw[cP]at hl
  obtain⟨c,hc⟩:=bz.1 (ht o (aI ..))
  have hg:∀x∈l,du gX x (jx gX o a)=du gX x a:=λx hx=>by
   rw[Jr x o hn,if_neg (λe=>hl.1 (by rw[<-e];exact hx))]
  obtain⟨h1,h2⟩:=B7 l (om (o:=o) hn) hl.2 λx hx=>by rw[hg x hx];exact ht x (aH _ hx)
  have hp:=ET hn hc
  have h3:=FK hp
  have h4:=hp.length_eq
  have h5:qd (jx gX o a) l=qd a l:=by
   unfold qd
   congr 1
   exact fi λx hx=>by rw[hg x hx]
  rw[lV]at h3
  rw[aC]at h4
  rw[uZ,h1,h5,aC]
  have h6:qd a (o::l)=c.1.1+qd a l:=by simp[qd,hc]
  rw[h6]
  exact⟨by have h3:qs a=c.1.1+qs (jx gX o a):=h3;omega,by omega⟩
theorem CV(x:lS)(xs:List lS):te (x::xs)=x.1+te xs:=by simp[te]
theorem BH(h:Int):∀(l:List jm) (xs:List lS) {a:At},(ou a).Nodup->l.Nodup->l.length=xs.length->(∀o∈l,du gX o a=none)->qs (AK h l xs a)=qs a+te xs/\(AK h l xs a).length=a.length+l.length
 |[],[],a,_,_,_,_=>by simp[AK,te]
 |[],_::_,_,_,_,he,_=>by simp at he
 |_::_,[],_,_,_,he,_=>by simp at he
 |o::l,x::xs,a,hn,hl,he,ht=>by
  rw[cP]at hl
  have h0:=(get_none jf hn).1 (ht o (aI ..))
  have e:gE gX o (x,(h,())) a=a++ [(o,(x,(h,())))]:=wm jf h0
  obtain⟨h1,h2⟩:=BH h l xs (D9 (o:=o) (v:=(x,(h,()))) hn) hl.2 (by simpa using he) λy hy=>by
   rw[LB,if_neg (λe=>hl.1 (by rw[<-e];exact hy))];exact ht y (aH _ hy)
  rw[uR,h1,h2,e,BL,CV,au]
  simp only[qs,bX,fW,List.sum_cons,List.sum_nil,aC,aZ]
  omega
theorem xP:∀(l:List iG) (m:List (jm×Bool)),rU m l=true->(l.map (·.1)).Nodup/\∀x∈l,du gX x.1 m≠some true
 |[],_,_=>⟨gz,λ_ h=>by cases h⟩
 |x::l,m,h=>by
  rw[rU,ae,ae]at h
  obtain⟨⟨h1,_⟩,h2⟩:=h
  obtain⟨h3,h4⟩:=xP l _ h2
  have hs:∀y∈l,du gX y.1 (gE gX x.1 true m)≠some true:=h4
  have fL:∀y∈l,y.1≠x.1:=λy hy e=>hs y hy (by rw[tJ jf,if_pos ((za _ _).2 e)])
  refine⟨?_,λy hy=> ?_⟩
  ·rw[bX,cP]
   refine⟨λhm=> ?_,h3⟩
   obtain⟨y,hy,e⟩:=cU.1 hm
   exact fL y hy e
  ·rcases b8.1 hy with rfl | hy
   ·intro e
    unfold vZ at h1
    rw[e]at h1
    cases h1
   ·have:=hs y hy
    rw[tJ jf,if_neg (λe=>fL y hy ((za _ _).1 e))]at this
    exact this
theorem Bn(t:jh):(im t).Nodup:=by
 unfold im
 split
 ·rename_i h
  exact(xP _ _ (vM h).2.1).1
 ·exact gz
theorem yc(t:jh):(np t).Nodup:=by
 unfold np
 split
 ·unfold Ie
  refine List.Pairwise.map _ (λa b fL e=> ?_) (List.nodup_range' (s:=0) (n:=t.2.1.length) (step:=1))
  have:(a:Int)=b:=congrArg (λo:jm=>o.2.1) e
  exact fL (by omega)
 ·exact gz
structure AG(t:jh)(h:Int)(a:At)(iE:Int):Prop where
 ok:kq t=true
 h1:1<=h
 h2:h<=1048576
 ins:∃f,Og h (Dr t) a t.1 0= .inr f/\iE=f - te t.2.1
 there:∀o∈im t,(du gX o a).isSome=true
 made:∀o∈np t,du gX o a=none
 Ni:iE=qd a (im t) - te t.2.1
 pos:0<=iE
section
variable {t:jh} {h iE:Int} {a:At}
theorem AG.new(hc:AG t h a iE){k:Nat}(hk:k < (np t).length)(Co:k < t.2.1.length):du gX (np t)[k] (xf t h a)=some (t.2.1[k],(h,())):=by
 unfold xf
 exact Cj h _ _ _ (yc t) k hk Co
theorem AG.sum(hc:AG t h a iE)(ha:(ou a).Nodup):qs (xf t h a)=qs a - iE/\(xf t h a).length+t.1.length=a.length+t.2.1.length:=by
 obtain⟨d1,d2⟩:=B7 (im t) ha (Bn t) hc.there
 obtain⟨e1,e2⟩:=BH h (np t) t.2.1 (xq (im t) ha) (yc t) (Af hc.ok) λo ho=>by
  rw[Km o _ ha];split
  ·rfl
  ·exact hc.made o ho
 have hf:=hc.Ni
 have hl:=HV hc.ok
 have hm:=Af hc.ok
 unfold xf
 rw[e1,e2,d1]
 exact⟨by omega,by omega⟩
end
end Go.Ab
namespace Go.Ab
open Go.Proofs
def E3(x:eh):Bool:=decide (0<=x.2.1.1/\x.2.1.1<=1099511627776)
def oD:List (jm×Bool)->List eh->Bool
 |_,[]=>true
 |m,x::l=>if((du gX x.1 m).getD false)=true then false else if E3 x=true then oD (gE gX x.1 true m) l else false
def vD(l:List eh):Bool:=decide (l.length<=64) && oD [] l
theorem yD:∀(l:List eh) (m:List (jm×Bool)),oD m l=true↔(l.map (·.1)).Nodup/\(∀x∈l,(du gX x.1 m).getD false=false)/\∀x∈l,E3 x=true
 |[],m=>by simp[oD]
 |x::l,m=>by
  have ih:=yD l (gE gX x.1 true m)
  have hg:∀y:eh,(du gX y.1 (gE gX x.1 true m)).getD false=if y.1=x.1 then true else(du gX y.1 m).getD false:=λy=>by
   rw[tJ (kt:=gX) jf]
   by_cases e:y.1=x.1
   ·rw[if_pos ((za _ _).2 e),if_pos e];rfl
   ·rw[if_neg (λh=>e ((za _ _).1 h)),if_neg e]
  simp only[oD,bX,cP,b8,forall_eq_or_imp]
  by_cases h1:(du gX x.1 m).getD false=true
  ·rw[if_pos h1]
   refine⟨λh=>(by cases h),λh=> ?_⟩
   rw[h.2.1.1]at h1;cases h1
  ·rw[if_neg h1]
   have h1':(du gX x.1 m).getD false=false:=by simpa using h1
   by_cases h2:E3 x=true
   ·rw[if_pos h2,ih]
    constructor
    ·rintro⟨a1,a2,a3⟩
     have hx:∀y∈l,y.1≠x.1:=λy hy e=>by
      have:=a2 y hy
      rw[hg,if_pos e]at this;cases this
     refine⟨⟨λhm=> ?_,a1⟩,⟨h1',λy hy=> ?_⟩,h2,a3⟩
     ·obtain⟨y,hy,e⟩:=cU.1 hm
      exact hx y hy e
     ·have:=a2 y hy
      rwa[hg,if_neg (hx y hy)]at this
    ·rintro⟨⟨b0,b1⟩,⟨_,b2⟩,_,b3⟩
     refine⟨b1,λy hy=> ?_,b3⟩
     rw[hg,if_neg (λe=>b0 (by rw[<-e];exact ik hy))]
     exact b2 y hy
   ·rw[if_neg h2]
    exact⟨λh=>(by cases h),λh=>absurd h.2.2.1 h2⟩
theorem th(l:List eh):vD l=true↔l.length<=64/\(l.map (·.1)).Nodup/\∀x∈l,0<=x.2.1.1/\x.2.1.1<=1099511627776:=by
 unfold vD
 rw[ae,decide_eq_true_eq,yD]
 refine and_congr Iff.rfl ⟨λh=>⟨h.1,λx hx=>of_decide_eq_true (h.2.2 x hx)⟩,λh=>⟨h.1,λx _=>rfl,λx hx=>decide_eq_true (h.2 x hx)⟩⟩
abbrev aS.L0.D:=(List eh)×Int×Int×(List (jm×Bool))
def aS.L0.st:aS.L0.D->AS:=λ(t10,t11,t12,n9)=>⟨([.undef,.undef,.undef,.kT (.new 9 0) 0]++bE 6 ([.d (.slice dI) t10,.d ti t11,.d ti t12]++bE 23 [])),[],(cS 9 ([[.obj 0 false (.mp gX .bool n9)]]++cS 26 []))⟩
abbrev aS.L0.Y0:=Unit
abbrev aS.L0.X0:=Unit
def aS.L0.eR:aS.L0.X0->Exit×AS:=λx=>(.ret,⟨([.undef,.undef,.d .bool false]++bE 33 []),[],(List.replicate 36 [])⟩)
abbrev aS.L0.Y1:=Unit
abbrev aS.L0.X1:=Unit
def aS.L0.iZ:aS.L0.X1->Exit×AS:=λx=>(.exit 0,⟨(bE 36 []),[],(List.replicate 36 [])⟩)
abbrev aS.L0.X:=(aS.L0.X0)⊕(aS.L0.X1)
abbrev aS.L0.Y:=(aS.L0.Y0)⊕(aS.L0.Y1)
def aS.L0.out:aS.L0.X->Out (Exit×AS):=λx=> .br x.isLeft (.get x.getLeft? λa=> .ok (aS.L0.eR a)) (.get x.getRight? λb=> .ok (aS.L0.iZ b))
def aS.L0.add:aS.L0.D->aS.L0.Y->aS.L0.X:=λ(t10,t11,t12,n9) y=>match y with | .inl y=> .inl y | .inr z=> .inr (z)
abbrev aS.D:=(List eh)
abbrev aS.Y:=Bool
def aS.L0.bf:aS.L0.D->Prop:=λ(l,n,i,_)=>l.length<=64/\n=(l.length:Int)/\∃k:Nat,k<=l.length/\i=k
def aS.L0.F:aS.L0.D->aS.L0.Y:=λ(l,_,i,m)=>if oD m (l.drop i.toNat)=true then .inr () else .inl ()
def aS.bf:aS.D->Prop:=λ_=>True
def aS.F:aS.D->aS.Y:=λl=>vD l
def aS.L0.E:=eS.jG aS.L0.st aS.L0.bf aS.L0.add aS.L0.F aS.L0.out
def aS.L0.call:aS.L0.D->Option aS.L0.X:=mz aS.L0.E aS.L0.st
def aS:Fs Tryz.prog aS.bf bS aS.F:=fS 99 Tryz.f99 (λl=>([.d (.slice dI) l],[])) (λx=>⟨.d .bool x,[],[]⟩) [some (.slice dI)] [] {loops:=qP [(5,{bI:=[3,10,11,12],sites:=[9]})],outs:=qO [(5,{},{bI:=[2]})],jK:=sm [(5,aS.L0.E)]}
def aS.L0.R:= @jC Tryz.prog (oO aS.G) aS.an 0 Tryz.f99 0 _ aS.L0.st
abbrev aS.L0.Ok:=qq Tryz.prog (oO aS.G) aS.an 0 Tryz.f99 0 aS.L0.st aS.L0.bf aS.L0.add aS.L0.F aS.L0.out
theorem aS.L0.run:o9 aS.L0.call aS.L0.bf aS.L0.add aS.L0.F:=rW (rT [.d (.slice dI),.d ti,.d ti,.d (.slice (.pair gX .bool))] λ_=>by kernel_rfl)
theorem aS.L0.dA:rM @aS.L0.R aS.L0.st aS.L0.bf aS.L0.add aS.L0.F aS.L0.out aS.L0.Ok:=sI
theorem aS.L0.step{R:Type}(t10:(List eh))(t11:Int)(t12:Int)(n9:(List (jm×Bool)))(kn:AS->Option R)(kx:Exit->AS->Option R):aS.L0.R (t10,t11,t12,n9) kn kx=
  aO ((ju t12 t11)) (
   aO (gK t12 (((List.length t10):Nat):Int)) (
   aO (((du gX (nth dI t10 (Int.toNat t12)).1 n9).getD false)) (
    kx (aS.L0.eR ()).1 (aS.L0.eR ()).2) (
    aO ((ju (nth dI t10 (Int.toNat t12)).2.1.1 (0:Int))) (
     kx (aS.L0.eR ()).1 (aS.L0.eR ()).2) (
     aO ((pv (nth dI t10 (Int.toNat t12)).2.1.1 (1099511627776:Int))) (
      kx (aS.L0.eR ()).1 (aS.L0.eR ()).2) (
      kn (aS.L0.st (t10,t11,(bW .i64 t12 (1:Int)),(gE gX (nth dI t10 (Int.toNat t12)).1 true n9))))))) none) (
   kx (aS.L0.iZ ()).1 (aS.L0.iZ ()).2):=by kernel_rfl
theorem aS.eq{R:Type}(l)(k:K1 R):aS.A l k=
  aO ((pv (l.length:Int) 64)) (
   k (aS.out false)) (
   aA (aS.L0.call (l,(l.length:Int),0,([]:List (jm×Bool)))) λx1=>
   aO (x1.isLeft) (
    aA (x1.getLeft?) λa2=>
    k (aS.out false)) (
    aA (x1.getRight?) λb3=>
    k (aS.out true))):=by kernel_rfl
theorem aS.L0.ok:aS.L0.Ok:=by
 refine aS.L0.dA (λ(l,_,i,_)=>l.length - i.toNat) ?_
 rintro⟨l,n,i,m⟩ ⟨hl,rfl,k,hk,rfl⟩
 have hl:l.length<=64:=hl
 have hk:k<=l.length:=hk
 by_cases h:k < l.length
 ·have n1:nth dI l k=l[k]:=dR (t:=dI) h
  have hd:l.drop k=l[k]::l.drop (k+1):=aB h
  by_cases h1:(du gX l[k].1 m).getD false=true
  ·right
   refine⟨aS.L0.eR (),?_,λkn kx=> ?_⟩
   ·simp only[aS.L0.add,aS.L0.F,aa,hd,oD,if_pos h1,bN,if_false];rfl
   ·rw[aS.L0.step,bq (by omega),aj,bM (by omega) (by omega),aj,aa,n1,h1,aj]
  ·have h1':(du gX l[k].1 m).getD false=false:=by simpa using h1
   by_cases h2:E3 l[k]=true
   ·left
    have h3:=of_decide_eq_true h2
    refine⟨(l,(l.length:Int),((k+1:Nat):Int),gE gX l[k].1 true m),⟨hl,rfl,k+1,by omega,rfl⟩,by simp only[aa];omega,?_,λkn kx=> ?_⟩
    ·simp only[aS.L0.add,aS.L0.F,aa,hd,oD,if_neg h1,if_pos h2]
    ·rw[aS.L0.step,bq (by omega),aj,bM (by omega) (by omega),aj,aa,n1,h1',aq,bn (by omega),aq,cR (by omega),aq,N.rO (by omega)]
   ·right
    refine⟨aS.L0.eR (),?_,λkn kx=> ?_⟩
    ·simp only[aS.L0.add,aS.L0.F,aa,hd,oD,if_neg h1,if_neg h2,bN,if_false];rfl
    ·rw[aS.L0.step,bq (by omega),aj,bM (by omega) (by omega),aj,aa,n1,h1',aq]
     by_cases h3:l[k].2.1.1 < 0
     ·rw[bq h3,aj]
     ·rw[bn h3,aq,db,aj]
      refine gM λh4=>h2 (decide_eq_true ⟨by omega,by omega⟩)
 ·right
  obtain rfl:k=l.length:=by omega
  refine⟨aS.L0.iZ (),?_,λkn kx=> ?_⟩
  ·simp only[aS.L0.add,aS.L0.F,aa,bG,oD,if_true];rfl
  ·rw[aS.L0.step,bn (by omega),aq]
theorem aS.ok:aS.Ok:=by
 intro l _
 have z1:((0:Int)).toNat=0:=rfl
 rw[aS.eq]
 simp only[bS,aS.F,vD]
 by_cases h:l.length<=64
 ·rw[cR (by omega),aq,aS.L0.run (d:=(l,(l.length:Int),0,[])) ⟨h,rfl,0,bj _,rfl⟩,aY h]
  simp only[ah,aS.L0.add,aS.L0.F,z1,aL]
  cases oD [] l <;> rfl
 ·rw[db (by omega),aj,cg h]
  rfl
theorem aS.run:aS.RS:=rE [.d (.slice dI)] aS
def aS.sg:=aS.gl aS.ok 1 ⟨.jG aS.L0.ok,trivial⟩
def ot(h:Int)(x:eh):Bool:=xe x h && !decide (x.2.1.1 < tt [x])
def pn(b:pE)(h:Int)(x:eh):Bool:=decide (x.2.2.2.2.2.1≠0/\x.2.2.2.2.2.1 - h<=2*fO b)
abbrev fk.D:=eh×Int×pE
abbrev fk.Y:=Bool
def fk.bf:fk.D->Prop:=λ(x,h,_)=>(1<=h/\h<=1048576)/\(x.2.2.2.2.2.1=0\/h < x.2.2.2.2.2.1)/\x.2.2.2.2.2.1<=9223372036854775807
def fk.F:fk.D->fk.Y:=λ(x,h,b)=>pn b h x
def fk:Fs Tryz.prog fk.bf bS fk.F:=fS 100 Tryz.f100 (λ(x,t1,t2)=>([.d dI x,.eW ti t1,.eW qe t2],[])) (λx=>⟨.d .bool x,[],[]⟩) [some dI,none,none] [eQ.sg]
theorem fk.eq{R:Type}(x t1 t2)(k:K1 R):fk.A (x,t1,t2) k=
  aO ((wV x.2.2.2.2.2.1 0)) (
   aA (eQ.call t2) λx1=>
   k (fk.out (Ct (df .i64 x.2.2.2.2.2.1 t1) (gu .i64 2 x1)))) (
   k (fk.out false)):=by kernel_rfl
theorem fk.ok:fk.Ok:=by
 rintro⟨x,h,b⟩ ⟨⟨h1,h2⟩,h3,h4⟩
 have h3:x.2.2.2.2.2.1=0\/h < x.2.2.2.2.2.1:=h3
 have h4:x.2.2.2.2.2.1<=9223372036854775807:=h4
 have h1:1<=h:=h1
 have hs:=rJ b
 rw[fk.eq]
 simp only[bS,fk.F,pn]
 by_cases a1:x.2.2.2.2.2.1=0
 ·rw[e7 a1,aq,decide_eq_false (λe=>e.1 a1)]
 ·rw[iA a1,aj,eQ.run (d:=b) trivial]
  simp only[ah,bS,eQ.F]
  rw[dM (by omega) (by omega),pz (by omega) (by omega)]
  by_cases a2:x.2.2.2.2.2.1 - h<=2*fO b
  ·rw[ki a2,decide_eq_true ⟨a1,a2⟩]
  ·rw[iy a2,decide_eq_false (λe=>a2 e.2)]
theorem fk.run:fk.RS:=rE [.d dI,.d ti,.d qe] fk
def fk.sg:=fk.gl fk.ok
abbrev eO.D:=(List eh)×Int
abbrev eO.Y:=Unit
abbrev eO.X:=(List eh)×Int
def eO.add:eO.D->eO.Y->eO.X:=λ(sv,n) y=>(sv,n)
def eO.bf:eO.D->Prop:=λ(_,n)=>1<=n
def eO.F:eO.D->eO.Y:=λ_=>()
def eO:Fs Tryz.prog eO.bf eO.add eO.F:=fS 106 Tryz.f106 (λ(sv,n)=>([.d (.slice dI) sv,.d ti n],[])) (λx=>⟨.fn 167 (.cons (.ptr (.new 0 0) 0 [] 0) (.cons (.ptr (.new 0 1) 0 [] 0) (.nil))),[],[.obj 0 false (.d (.slice dI) x.1),.obj 0 false (.d ti x.2)]⟩) [some (.slice dI),some ti] [] {bk:=[2,3]}
theorem eO.eq{R:Type}(sv n)(k:K1 R):eO.A (sv,n) k=
  aO ((ju n 1)) (
   none) (
   k (eO.out (sv,n))):=by kernel_rfl
theorem eO.ok:eO.Ok:=by
 rintro⟨l,n⟩ h
 have h:1<=n:=h
 rw[eO.eq,bn (by omega),aq]
 rfl
theorem eO.run:eO.RS:=rE [.d (.slice dI),.d ti] eO
def eO.sg:=eO.gl eO.ok
abbrev jd.D:=(List eh)×Nat×(List iD)
abbrev jd.Y:=Nat×(List iD)
def jd.bf:jd.D->Prop:=λ(c,n,l)=>c.length<=1000000/\n=l.length/\n<=1000000
def jd.F:jd.D->jd.Y:=λ(c,n,l)=>(n+1,l++ [gN c])
def jd:Fs Tryz.prog jd.bf bS jd.F:=fS 4294968000 (KX Tryz.prog 4294968000) (λ(t106,o1L,o2)=>(([.yl (.c8 0) 0,.d (.slice dI) t106]++bE 15 ([.ptr (.c8 1) 0 [] 0]++bE 154 [])),[.obj 0 false (.mV (qb Tryz.prog 4294968000) (oa (bE 15 ([.ptr (.c8 1) 0 [] 0]++bE 154 []))) 0),.obj 0 false (.cv (.c8 2) 0 [] 0 0 o1L),.obj 0 false (.vec 105 km o2)])) (λx=>⟨.d .bool true,[.obj 0 false (.mV (qb Tryz.prog 4294968000) (oa (bE 15 ([.ptr (.c8 1) 0 [] 0]++bE 154 []))) 0),.obj 0 false (.cv (.c8 2) 1 [] 0 0 x.1),.obj 1 false (.vec 105 km x.2)],[]⟩) [none,none,none,none,none,none,none,none,none,none,none,none,none,none,none,none,none,none,none,none,none,none,none,none,none,none,none,none,none,none,none,none,none,none,none,none,none,none,none,none,none,none,none,none,none,none,none,none,none,none,none,none,none,none,none,none,none,none,none,none,none,none,none,none,none,none,none,none,none,none,none,none,none,none,none,none,none,none,none,none,none,none,none,none,none,none,none,none,none,none,none,none,none,none,none,none,none,none,none,none,none,none,none,none,none,none,none,none,none,none,none,none,none,none,none,none,none,none,none,none,none,none,none,none,none,none,none,none,none,none,none,none,none,none,none,none,none,none,none,none,none,none,none,none,none,none,none,none,none,none,none,none,none,none,none,none,none,none,none,none,none,none,none,none,none,none,none,none,none,none,none,none] [bh.sg] {nN:=some 4294968000}
theorem jd.eq{R:Type}(t106 o1L o2)(k:K1 R):jd.A (t106,o1L,o2) k=
 aA (bh.call t106) λx1=>
 aO (decide (o1L<=(List.length o2))) (
 aO (dK (o1L+1) 48) (
 k (jd.out ((o1L+1),((List.take o1L o2)++ [x1])))) none) none:=by kernel_rfl
theorem jd.ok:jd.Ok:=by
 rintro⟨c,n,l⟩ ⟨h1,rfl,h2⟩
 have h1:c.length<=1000000:=h1
 have h2:l.length<=1000000:=h2
 rw[jd.eq,bh.run (d:=c) (by show c.length<=_;omega)]
 simp only[ah,bS,bh.F]
 rw[aY (aw _),aj,fN (by omega) (by omega),aj,cX]
 rfl
theorem jd.run:jd.RS:=rE [.d (.slice dI),.n,.d (.slice km)] jd
def jd.sg:=jd.Sf jd.ok
abbrev eI.L0.D:=Int×Nat×(List iD)×(List eh)×Int
abbrev eI.L0.Y:=Nat×(List iD)
abbrev eI.L0.X:=((List eh)×Int)×(Nat×(List iD))
def eI.L0.add:eI.L0.D->eI.L0.Y->eI.L0.X:=λ(i,Ap,GB,mG,td) y=>((mG,td),y)
abbrev eI.D:=Nat×(List iD)×(List eh)×Int
abbrev eI.Y:=Nat×(List iD)×(List eh)×Int
def sK{α:Type}(n:Nat):Nat->List α->List (List α)
 | 0,_=> []
 |_+1,[]=> []
 |f+1,x::l=>(x::l).take n::sK n f ((x::l).drop n)
theorem vS{α:Type}{n:Nat}(hn:1<=n):∀(f f':Nat) (l:List α),l.length<=f->l.length<=f'->sK n f l=sK n f' l
 | 0,f',l,h,_=>by
  obtain rfl:=aJ (Nat.le_zero.1 h)
  cases f' <;> rfl
 |f+1,0,l,_,h=>by
  obtain rfl:=aJ (Nat.le_zero.1 h)
  rfl
 |f+1,f'+1,[],_,_=>rfl
 |f+1,f'+1,x::l,h,h'=>by
  rw[aC]at h h'
  have e:((x::l).drop n).length<=l.length:=by rw[cH,aC];omega
  rw[sK,sK,vS hn f f' _ (by omega) (by omega)]
def fZ{α:Type}(l:List α):List (List α):=sK 8 l.length l
theorem qE{α:Type}{l:List α}(h:0 < l.length):fZ l=l.take 8::fZ (l.drop 8):=by
 cases l with
 |nil=>cases h
 |cons x l=>
  unfold fZ
  rw[aC,sK]
  congr 1
  refine vS (by decide) _ _ _ ?_ (aw _)
  rw[cH,aC]
  omega
theorem DT{α:Type}:fZ ([]:List α)=[]:=rfl
def eI.L0.bf:eI.L0.D->Prop:=λ(i,n,o2,l,c)=>c=8/\l.length<=1000/\n=o2.length/\∃k:Nat,i=k/\k<=l.length+8/\n<=1000+k
def eI.L0.F:eI.L0.D->eI.L0.Y:=λ(i,n,o2,l,_)=>(n+(fZ (l.drop i.toNat)).length,o2++(fZ (l.drop i.toNat)).map gN)
def eI.bf:eI.D->Prop:=λ(n,o2,l,c)=>c=8/\l.length<=1000/\n=o2.length/\n<=1000
def eI.F:eI.D->eI.Y:=λ(n,o2,l,c)=>(n+(fZ l).length,o2++(fZ l).map gN,l,c)
def eI.L0:Ls eI.L0.bf eI.L0.add eI.L0.F:=so (λ(i,Ap,GB,mG,td)=>⟨([.yl (.c8 0) 0,.ptr (.c8 3) 0 [] 0,.ptr (.c8 4) 0 [] 0,.undef,.d ti i]++bE 26 []),[.obj 0 false (.mV (qb Tryz.prog 4294968000) (oa (bE 15 ([.ptr (.c8 1) 0 [] 0]++bE 154 []))) 0),.obj 0 false (.cv (.c8 2) 1 [] 0 0 Ap),.obj 1 false (.vec 105 km GB),.obj 0 false (.d (.slice dI) mG),.obj 0 false (.d ti td)],(List.replicate 31 [])⟩) (λx=>(.exit 0,⟨(bE 31 []),[.obj 0 false (.mV (qb Tryz.prog 4294968000) (oa (bE 15 ([.ptr (.c8 1) 0 [] 0]++bE 154 []))) 0),.obj 0 false (.cv (.c8 2) 1 [] 0 0 x.2.1),.obj 1 false (.vec 105 km x.2.2),.obj 0 false (.d (.slice dI) x.1.1),.obj 0 false (.d ti x.1.2)],(List.replicate 31 [])⟩))
def eI:Fs Tryz.prog eI.bf bS eI.F:=fS 167 Tryz.f167 (λ(o1L,o2,o3,o4)=>([.yl (.c8 0) 0,.ptr (.c8 3) 0 [] 0,.ptr (.c8 4) 0 [] 0],[.obj 0 false (.mV (qb Tryz.prog 4294968000) (oa (bE 15 ([.ptr (.c8 1) 0 [] 0]++bE 154 []))) 0),.obj 0 false (.cv (.c8 2) 0 [] 0 0 o1L),.obj 0 false (.vec 105 km o2),.obj 0 false (.d (.slice dI) o3),.obj 0 false (.d ti o4)])) (λx=>⟨.nil,[.obj 0 false (.mV (qb Tryz.prog 4294968000) (oa (bE 15 ([.ptr (.c8 1) 0 [] 0]++bE 154 []))) 0),.obj 0 false (.cv (.c8 2) 1 [] 0 0 x.1),.obj 1 false (.vec 105 km x.2.1),.obj 0 false (.d (.slice dI) x.2.2.1),.obj 0 false (.d ti x.2.2.2)],[]⟩) [none,none,none] [jd.sg] {loops:=qP [(1,{bI:=[0,1,2,4],K8:=[(2,1)]})],outs:=qO [(1,{K8:=[(2,1)]},{K8:=[(2,1)]})],jK:=sm [(1,eI.L0.E)]}
theorem eI.L0.run:eI.L0.RS:=rL [.d ti,.n,.d (.slice km),.d (.slice dI),.d ti] eI.L0
theorem eI.L0.step{R:Type}(i Ap GB mG td)(kn:K2 R)(kx:K3 R):eI.R 0 eI.L0 (i,Ap,GB,mG,td) kn kx=
  aO ((ju i (mG.length:Int))) (
   aO (inc i (mG.length:Int)) (
   aO (decide (0<=(bW .i64 i (pf td (((List.length (cut mG (Int.toNat i) ((List.length mG) - (Int.toNat i)))):Nat):Int)))/\(bW .i64 i (pf td (((List.length (cut mG (Int.toNat i) ((List.length mG) - (Int.toNat i)))):Nat):Int)))<=(bW .i64 i (pf td (((List.length (cut mG (Int.toNat i) ((List.length mG) - (Int.toNat i)))):Nat):Int)))/\(bW .i64 i (pf td (((List.length (cut mG (Int.toNat i) ((List.length mG) - (Int.toNat i)))):Nat):Int)))<=(mG.length:Int))) (
   aO (inc (bW .i64 i (pf td (((List.length (cut mG (Int.toNat i) ((List.length mG) - (Int.toNat i)))):Nat):Int))) (mG.length:Int)) (
   aO (inc i (((Int.toNat (bW .i64 i (pf td (((List.length (cut mG (Int.toNat i) ((List.length mG) - (Int.toNat i)))):Nat):Int)))):Nat):Int)) (
   same (qb Tryz.prog 4294968000) (qb Tryz.prog 4294968000) (
    aA (jd.call ((cut mG (Int.toNat i) ((Int.toNat (bW .i64 i (pf td (((List.length (cut mG (Int.toNat i) ((List.length mG) - (Int.toNat i)))):Nat):Int)))) - (Int.toNat i))),Ap,GB)) λx1=>
    kn (eI.L0.st ((bW .i64 i td),x1.1,x1.2,mG,td)))) none) none) none) none) (
   eI.L0.go kx ((mG,td),(Ap,GB))):=by kernel_rfl
theorem eI.eq{R:Type}(o1L o2 o3 o4)(k:K1 R):eI.A (o1L,o2,o3,o4) k=
 aA (eI.L0.call (0,o1L,o2,o3,o4)) λx2=>
 k (eI.out (x2.2.1,x2.2.2,x2.1.1,x2.1.2)):=by kernel_rfl
theorem eI.L0.ok:(eI.mf 0 eI.L0):=by
 refine(eI.nN 0 eI.L0) (λ(i,_,_,l,_)=>l.length+8 - i.toNat) ?_
 rintro⟨i,n,o2,l,c⟩ ⟨rfl,hl,rfl,k,rfl,hk,hn⟩
 have hl:l.length<=1000:=hl
 have hk:k<=l.length+8:=hk
 have hn:o2.length<=1000+k:=hn
 by_cases h:k < l.length
 ·left
  have e1:(((cut l k (l.length - k)).length:Nat):Int)=(l.length:Int) - k:=by rw[oc (by omega)];omega
  obtain⟨m,hm,Kw⟩:∃m:Nat,pf 8 ((l.length:Int) - k)=(m:Int)/\m=min 8 (l.length - k):=⟨min 8 (l.length - k),by unfold pf;split <;> omega,rfl⟩
  have e2:bW .i64 (k:Int) (m:Int)=((k+m:Nat):Int):=by rw[eP (by omega) (by omega)];omega
  have ec:cut l k m=(l.drop k).take 8:=by
   unfold cut
   rw[Kw,<-gA,bo (l:=l.drop k) (i:=l.length - k) (by rw[cH];exact aw _)]
  have hd:=qE (l:=l.drop k) (by rw[cH];omega)
  rw[eu]at hd
  refine⟨(((k+8:Nat):Int),o2.length+1,o2++ [gN ((l.drop k).take 8)],l,8),⟨rfl,hl,by simp,k+8,rfl,by omega,by show o2.length+1<=_;omega⟩,by simp only[aa];omega,?_,λkn kx=> ?_⟩
  ·simp only[eI.L0.add,eI.L0.F,aa,hd,aC,bX,bC,fp]
   rw[show o2.length+1+(fZ (l.drop (k+8))).length=o2.length+((fZ (l.drop (k+8))).length+1) by omega]
  ·rw[eI.L0.step,bq (by omega),aj,jF (by omega) (by omega),aj]
   simp only[aa,e1,hm,e2]
   rw[aY ⟨by omega,eo _,by omega⟩,aj,jF (by omega) (by omega),aj,jF (by omega) (by omega),aj,GO,fM,ec]
   rw[jd.run (d:=((l.drop k).take 8,o2.length,o2)) ⟨by show((l.drop k).take 8).length<=_;rw[cn,cH];omega,rfl,by show o2.length<=_;omega⟩]
   simp only[ah,bS,jd.F]
   rw[show bW .i64 (k:Int) 8=((k+8:Nat):Int) by rw[eP (by omega) (by omega)];omega]
 ·right
  have e0:l.drop k=[]:=List.drop_eq_nil_of_le (by omega)
  intro R kn kx
  rw[eI.L0.step,bn (by omega),aq]
  simp only[eI.L0.add,eI.L0.F,aa,e0,DT,aZ,ct,fW,cZ]
theorem eI.ok:eI.Ok:=by
 rintro⟨n,o2,l,c⟩ ⟨rfl,hl,rfl,hn⟩
 have hl:l.length<=1000:=hl
 have hn:o2.length<=1000:=hn
 have z1:((0:Int)).toNat=0:=rfl
 rw[eI.eq,eI.L0.run (d:=(0,o2.length,o2,l,8)) ⟨rfl,hl,rfl,0,rfl,by omega,by omega⟩]
 simp only[ah,eI.L0.add,eI.L0.F,z1,aL]
 rfl
theorem eI.run:eI.RS:=rE [.n,.d (.slice km),.d (.slice dI),.d ti] eI
def eI.sg:=eI.gl eI.ok 1 ⟨.jG eI.L0.ok,trivial⟩
abbrev az.L0.D:=Int×Int×Int×Int×pE×Nat×Nat×(List eh)×Int×Int×(List eh)×(List eh)
abbrev az.L0.Y:=Nat×Nat×(List eh)×(List eh)
abbrev az.L0.X:=(Int×Int)×(Nat×Nat×(List eh)×(List eh))
def az.L0.add:az.L0.D->az.L0.Y->az.L0.X:=λ(kc,lv,t9,presses,jW,firstL,restL,t48,t49,t50,I4,I5) y=>((kc,t9),y)
abbrev az.L1.D:=Int×Int×Nat×Nat×Int×Int×Nat×(List eh)×(List eh)×(List iD)
abbrev az.L1.Y:=Nat×(List iD)
abbrev az.L1.X:=(Int×Int×Nat×Nat×(List eh)×(List eh))×(Nat×(List iD))
def az.L1.add:az.L1.D->az.L1.Y->az.L1.X:=λ(nW,ES,lr,qa,t88,t89,Bf,yp,ue,n102) y=>((nW,ES,lr,qa,yp,ue),y)
abbrev az.L2.D:=Int×Nat×Nat×Int×Int×Nat×(List eh)×(List iD)
abbrev az.L2.Y:=Int×Nat
abbrev az.L2.X:=(Nat×(List eh)×(List iD))×(Int×Nat)
def az.L2.add:az.L2.D->az.L2.Y->az.L2.X:=λ(mw,mC,Ay,t113,t114,s9,wq,oz) y=>((mC,wq,oz),y)
abbrev az.L3.D:=Int×Int×Int×Nat×(List iD)
abbrev az.L3.Y:=(List iD)
abbrev az.L3.X:=(Nat)×((List iD))
def az.L3.add:az.L3.D->az.L3.Y->az.L3.X:=λ(nX,t135,t136,qV,iB) y=>(qV,y)
abbrev az.D:=(List eh)×Int×pE×Int
abbrev az.Y:=(List iD)×Int
def E0(x:eh):Prop:=BE x/\OH x.2.1.2.1/\x.2.2.2.2.2.1<=9223372036854775807
def qL(b:pE)(h:Int)(x:eh):Bool:=ot h x && pn b h x
def q9(b:pE)(h:Int)(x:eh):Bool:=ot h x && !pn b h x
def dZ(l:List eh)(b:pE)(h:Int):List eh:=rX (t:=dI) nZ (l.filter (qL b h))
def j1(l:List eh)(b:pE)(h:Int):List eh:=rX (t:=dI) zd (l.filter (q9 b h))
def l6(x:eh):iD:=gN [x]
def kF(l:List eh)(b:pE)(h:Int):List iD:=(dZ l b h).map l6++(fZ (j1 l b h)).map gN
def kg:Int->List iD->Int×List iD
 |b,[]=>(b,[])
 |b,g::l=>if g.2.1 > b then(b,[]) else((kg (b - g.2.1) l).1,g::(kg (b - g.2.1) l).2)
def xd(g:iD)(m:Int):iD:=(g.1,(g.2.1,(g.2.2.1+m,g.2.2.2)))
def lD(b:Int)(g:iD):Int:=pf b ((nth dI g.1 0).2.1.1 - g.2.1)
def iM:Nat->Int->List iD->List iD
 | 0,_,l=>l
 |_+1,_,[]=> []
 |n+1,b,g::l=>xd g (lD b g)::iM n (b - lD b g) l
def sw(l:List eh)(budget:Int)(b:pE)(h:Int):List iD:=iM (dZ l b h).length (kg budget (kF l b h)).1 (kg budget (kF l b h)).2
def j5(l:List eh)(budget:Int)(b:pE)(h:Int):Bool:=decide (0<=budget/\budget<=1125899906842624) && (gF b && (decide (1<=h/\h<=1048576) && vD l))
def uj(l:List eh)(budget:Int)(b:pE)(h:Int):List iD×Int:=if j5 l budget b h=true then(sw l budget b h,0) else([],1)
def az.L0.bf:az.L0.D->Prop:=λ(_,h,_,h',b,fl,rl,l,n,i,rs,fs)=>(∀x∈l,E0 x)/\(1<=h/\h<=1048576)/\h=h'/\fl=fs.length/\rl=rs.length/\l.length<=1000/\n=(l.length:Int)/\∃k:Nat,k<=l.length/\i=k/\fs.length<=k/\rs.length<=k
def az.L0.F:az.L0.D->az.L0.Y:=λ(_,h,_,_,b,fl,rl,l,_,i,rs,fs)=>(fl+((l.drop i.toNat).filter (qL b h)).length,rl+((l.drop i.toNat).filter (q9 b h)).length,rs++(l.drop i.toNat).filter (q9 b h),fs++(l.drop i.toNat).filter (qL b h))
def az.L1.bf:az.L1.D->Prop:=λ(_,_,fl,_,n,i,m,_,fs,all)=>fl=fs.length/\fs.length<=1000/\n=(fs.length:Int)/\m=all.length/\∃k:Nat,k<=fs.length/\i=k/\all.length<=k
def az.L1.F:az.L1.D->az.L1.Y:=λ(_,_,_,_,_,i,m,_,fs,all)=>(m+(fs.drop i.toNat).length,all++(fs.drop i.toNat).map l6)
def az.L2.bf:az.L2.D->Prop:=λ(bu,_,m,n,i,m2,_,all)=>m=all.length/\m2=all.length/\all.length<=10000/\n=(all.length:Int)/\(0<=bu/\bu<=1125899906842624)/\(∀g∈all,0<=g.2.1)/\∃k:Nat,k<=all.length/\i=k
def az.L2.F:az.L2.D->az.L2.Y:=λ(bu,_,_,_,i,_,_,all)=>((kg bu (all.drop i.toNat)).1,i.toNat+(kg bu (all.drop i.toNat)).2.length)
def M9(g:iD):Prop:=0 < g.1.length/\(0<=g.2.1/\g.2.1<=(nth dI g.1 0).2.1.1/\(nth dI g.1 0).2.1.1<=1099511627776)/\0<=g.2.2.1/\g.2.2.1<=1000000
def az.L3.bf:az.L3.D->Prop:=λ(bu,n,i,m,all)=>m<=all.length/\all.length<=10000/\(0<=bu/\bu<=1125899906842624)/\∃k j:Nat,n=j/\i=k/\k<=j/\j<=m/\∀g∈(all.take j).drop k,M9 g
def az.L3.F:az.L3.D->az.L3.Y:=λ(bu,n,i,m,all)=>all.take i.toNat++iM (n - i).toNat bu (all.drop i.toNat)
def az.bf:az.D->Prop:=λ(l,_,_,h)=>(∀x∈l,E0 x)
def az.F:az.D->az.Y:=λ(l,bu,b,h)=>uj l bu b h
def az.L0:Ls az.L0.bf az.L0.add az.L0.F:=so (λ(kc,lv,t9,presses,jW,firstL,restL,t48,t49,t50,I4,I5)=>⟨([.undef,.d ti kc]++bE 5 ([.eW ti lv,.c6,.d ti t9,.fn 100 (.cons (.eW ti presses) (.cons (.eW qe jW) (.nil))),.cv (.new 81 0) 0 [] 0 0 firstL,.cv (.new 58 0) 0 [] 0 0 restL]++bE 35 ([.d (.slice dI) t48,.d ti t49,.d ti t50]++bE 119 []))),[],(cS 58 ([[.obj 0 false (.vec 117 dI I4)]]++cS 22 ([[.obj 0 false (.vec 117 dI I5)]]++cS 88 [])))⟩) (λx=>(.exit 0,⟨([.undef,.d ti x.1.1]++bE 6 ([.c6,.d ti x.1.2,.undef,.cv (.new 81 0) 0 [] 0 0 x.2.1,.cv (.new 58 0) 0 [] 0 0 x.2.2.1]++bE 157 [])),[],(cS 58 ([[.obj 0 false (.vec 117 dI x.2.2.2.1)]]++cS 22 ([[.obj 0 false (.vec 117 dI x.2.2.2.2)]]++cS 88 [])))⟩))
def az.L1:Ls az.L1.bf az.L1.add az.L1.F:=so (λ(nW,ES,lr,qa,t88,t89,Bf,yp,ue,n102)=>⟨([.undef,.d ti nW]++bE 6 ([.c6,.d ti ES,.undef,.cv (.new 81 0) 0 [] 0 0 lr,.cv (.new 58 0) 0 [] 0 0 qa,.undef,.undef,.ptr (.new 15 0) 0 [] 0]++bE 72 ([.d ti t88,.d ti t89]++bE 80 []))),[],(cS 15 ([[.obj 0 false (.cv (.new 102 0) 0 [] 0 0 Bf)]]++cS 42 ([[.obj 0 false (.vec 117 dI yp)]]++cS 22 ([[.obj 0 true (.vec 117 dI ue)]]++cS 20 ([[.obj 0 false (.vec 105 km n102)]]++cS 67 [])))))⟩) (λx=>(.exit 3,⟨([.undef,.d ti x.1.1]++bE 6 ([.c6,.d ti x.1.2.1,.undef,.cv (.new 81 0) 0 [] 0 0 x.1.2.2.1,.cv (.new 58 0) 0 [] 0 0 x.1.2.2.2.1,.undef,.undef,.ptr (.new 15 0) 0 [] 0]++bE 154 [])),[],(cS 15 ([[.obj 0 false (.cv (.new 102 0) 0 [] 0 0 x.2.1)]]++cS 42 ([[.obj 0 false (.vec 117 dI x.1.2.2.2.2.1)]]++cS 22 ([[.obj 0 true (.vec 117 dI x.1.2.2.2.2.2)]]++cS 20 ([[.obj 0 false (.vec 105 km x.2.2)]]++cS 67 [])))))⟩))
def az.L2:Ls az.L2.bf az.L2.add az.L2.F:=so (λ(mw,mC,Ay,t113,t114,s9,wq,oz)=>⟨([.undef,.d ti mw]++bE 9 ([.cv (.new 81 0) 0 [] 0 0 mC,.undef,.undef,.undef,.ptr (.new 15 0) 0 [] 0]++bE 96 ([.cv (.new 102 0) 1 [] 0 0 Ay,.d ti t113,.d ti t114]++bE 55 []))),[],(cS 15 ([[.obj 0 false (.cv (.new 102 0) 1 [] 0 0 s9)]]++cS 65 ([[.obj 0 true (.vec 117 dI wq)]]++cS 20 ([[.obj 1 false (.vec 105 km oz)]]++cS 67 []))))⟩) (λx=>(.exit 7,⟨([.undef,.d ti x.2.1]++bE 9 ([.cv (.new 81 0) 0 [] 0 0 x.1.1,.undef,.undef,.undef,.ptr (.new 15 0) 0 [] 0]++bE 154 [])),[],(cS 15 ([[.obj 0 false (.cv (.new 102 0) 1 [] 0 0 x.2.2)]]++cS 65 ([[.obj 0 true (.vec 117 dI x.1.2.1)]]++cS 20 ([[.obj 1 false (.vec 105 km x.1.2.2)]]++cS 67 []))))⟩))
def az.L3:Ls az.L3.bf az.L3.add az.L3.F:=so (λ(nX,t135,t136,qV,iB)=>⟨([.undef,.d ti nX]++bE 13 ([.ptr (.new 15 0) 0 [] 0]++bE 119 ([.d ti t135,.d ti t136]++bE 33 []))),[],(cS 15 ([[.obj 0 false (.cv (.new 102 0) 1 [] 0 0 qV)]]++cS 86 ([[.obj 1 false (.vec 105 km iB)]]++cS 67 [])))⟩) (λx=>(.exit 9,⟨(bE 15 ([.ptr (.new 15 0) 0 [] 0]++bE 154 [])),[],(cS 15 ([[.obj 0 false (.cv (.new 102 0) 1 [] 0 0 x.1)]]++cS 86 ([[.obj 1 false (.vec 105 km x.2)]]++cS 67 [])))⟩))
def az:Fs Tryz.prog az.bf bS az.F:=fS 44 Tryz.f44 (λ(l,budget,b,height)=>([.d (.slice dI) l,.d ti budget,.d qe b,.d ti height],[])) (λx=>⟨.cons (.d (.slice km) x.1) (.cons (.d ti x.2) (.nil)),[],[]⟩) [some (.slice dI),some ti,some qe,some ti] [dL.sg,aS.sg,alone.sg,bF.sg,fk.sg,bR.sg,Dh.sg,Dg.sg,bh.sg,eO.sg,eI.sg] {loops:=qP [(6,{bI:=[1,7,8,9,10,11,12,48,49,50],sites:=[58,81],owns:=[⟨11,[],81,92⟩,⟨12,[],58,92⟩]}),(17,{bI:=[1,8,9,11,12,15,88,89],sites:=[15,58,81,102],D8:=[(.new 81 0)],owns:=[⟨15,[.arr],102,96⟩]}),(25,{bI:=[1,11,15,112,113,114],sites:=[15,81,102]}),(32,{bI:=[1,15,135,136],sites:=[15,102]})],outs:=qO [(6,{bI:=[1,8,9,11,12],sites:=[58,81]},{bI:=[8,9]}),(17,{bI:=[1,8,9,11,12,15],sites:=[15,58,81,102]},{bI:=[8,9]}),(25,{bI:=[1,11,15],sites:=[15,81,102]},{bI:=[8,9]}),(32,{bI:=[15],sites:=[15,102]},{bI:=[8,9]})],jK:=sm [(6,az.L0.E),(17,az.L1.E),(25,az.L2.E),(32,az.L3.E)],res:=[some (.slice km),none],rf:=sm [(106,(4294968000,[15]))]}
theorem az.L0.run:az.L0.RS:=rL [.d ti,.d ti,.d ti,.d ti,.d qe,.n,.n,.d (.slice dI),.d ti,.d ti,.d (.slice dI),.d (.slice dI)] az.L0
theorem az.L0.step{R:Type}(kc lv t9 presses jW firstL restL t48 t49 t50 I4 I5)(kn:K2 R)(kx:K3 R):az.R 0 az.L0 (kc,lv,t9,presses,jW,firstL,restL,t48,t49,t50,I4,I5) kn kx=
  aO ((ju t50 t49)) (
   aO (gK t50 (t48.length:Int)) (
   aA (alone.call ((nth dI t48 (Int.toNat t50)),lv)) λx1=>
   aO ((!x1)) (
    kn (az.L0.st (kc,lv,t9,presses,jW,firstL,restL,t48,t49,(bW .i64 t50 1),I4,I5))) (
    aA (bF.call [(nth dI t48 (Int.toNat t50))]) λx2=>
    aO ((ju (nth dI t48 (Int.toNat t50)).2.1.1 x2)) (
     kn (az.L0.st (kc,lv,t9,presses,jW,firstL,restL,t48,t49,(bW .i64 t50 1),I4,I5))) (
     aA (fk.call ((nth dI t48 (Int.toNat t50)),presses,jW)) λx3=>
     aO (x3) (
      aA (bR.call (nth dI t48 (Int.toNat t50))) λx4=>
      aO (decide (firstL<=(List.length I5))) (
      aO (dK (firstL+1) 104) (
      kn (az.L0.st (kc,lv,t9,presses,jW,(firstL+1),restL,t48,t49,(bW .i64 t50 1),I4,((List.take firstL I5)++ [x4])))) none) none) (
      aA (bR.call (nth dI t48 (Int.toNat t50))) λx5=>
      aO (decide (restL<=(List.length I4))) (
      aO (dK (restL+1) 104) (
      kn (az.L0.st (kc,lv,t9,presses,jW,firstL,(restL+1),t48,t49,(bW .i64 t50 1),((List.take restL I4)++ [x5]),I5))) none) none)))) none) (
   az.L0.go kx ((kc,t9),(firstL,restL,I4,I5))):=by kernel_rfl
theorem az.L1.run:az.L1.RS:=rL [.d ti,.d ti,.n,.n,.d ti,.d ti,.n,.d (.slice dI),.d (.slice dI),.d (.slice km)] az.L1
theorem az.L1.step{R:Type}(nW ES lr qa t88 t89 Bf yp ue n102)(kn:K2 R)(kx:K3 R):az.R 1 az.L1 (nW,ES,lr,qa,t88,t89,Bf,yp,ue,n102) kn kx=
  aO ((ju t89 t88)) (
   aO (decide (0<=(bW .i64 t89 1)/\(bW .i64 t89 1)<=(bW .i64 t89 1)/\(bW .i64 t89 1)<=((lr:Nat):Int))) (
   aO (inc (bW .i64 t89 1) ((lr:Nat):Int)) (
   aO (inc t89 (((Int.toNat (bW .i64 t89 1)):Nat):Int)) (
   aO (decide ((0+((0+(Int.toNat t89))*39))=(0+((Int.toNat t89)*39))/\((0+(Int.toNat t89))+((Int.toNat (bW .i64 t89 1)) - (Int.toNat t89)))<=(List.length ue))) (
   aA (bh.call (cut ue (0+(Int.toNat t89)) ((Int.toNat (bW .i64 t89 1)) - (Int.toNat t89)))) λx1=>
   aO (decide (Bf<=(List.length n102))) (
   aO (dK (Bf+1) 48) (
   kn (az.L1.st (nW,ES,lr,qa,t88,(bW .i64 t89 1),(Bf+1),yp,ue,((List.take Bf n102)++ [x1])))) none) none) none) none) none) none) (
   az.L1.go kx ((nW,ES,lr,qa,yp,ue),(Bf,n102))):=by kernel_rfl
theorem az.L2.run:az.L2.RS:=rL [.d ti,.n,.n,.d ti,.d ti,.n,.d (.slice dI),.d (.slice km)] az.L2
theorem az.L2.step{R:Type}(mw mC Ay t113 t114 s9 wq oz)(kn:K2 R)(kx:K3 R):az.R 2 az.L2 (mw,mC,Ay,t113,t114,s9,wq,oz) kn kx=
  aO ((ju t114 t113)) (
   aO (gK t114 ((Ay:Nat):Int)) (
   aO (decide ((0+(Int.toNat t114)) < (List.length oz))) (
   aO (decide ((((0+(Int.toNat t114))*4)+0)=(0+((Int.toNat t114)*4)))) (
   aO ((pv (nth km oz (0+(Int.toNat t114))).2.1 mw)) (
    aO (inc t114 ((s9:Nat):Int)) (
    az.L2.go kx ((mC,wq,oz),(mw,((Int.toNat t114) - 0)))) none) (
    kn (az.L2.st ((df .i64 mw (nth km oz (0+(Int.toNat t114))).2.1),mC,Ay,t113,(bW .i64 t114 1),s9,wq,oz)))) none) none) none) (
   az.L2.go kx ((mC,wq,oz),(mw,s9))):=by kernel_rfl
theorem az.L3.run:az.L3.RS:=rL [.d ti,.d ti,.d ti,.n,.d (.slice km)] az.L3
theorem az.L3.step{R:Type}(nX t135 t136 qV iB)(kn:K2 R)(kx:K3 R):az.R 3 az.L3 (nX,t135,t136,qV,iB) kn kx=
  aO ((ju t136 t135)) (
   aO (gK t136 ((qV:Nat):Int)) (
   aO (decide ((0+(Int.toNat t136)) < (List.length iB))) (
   aO (decide ((((0+(Int.toNat t136))*4)+0)=((0+((Int.toNat t136)*4))+0))) (
   aO (gK 0 (((List.length (nth km iB (0+(Int.toNat t136))).1):Nat):Int)) (
   aO (decide ((0+(Int.toNat t136)) < (List.length iB))) (
   aO (decide ((((0+(Int.toNat t136))*4)+1)=((0+((Int.toNat t136)*4))+1))) (
   aO (decide ((0+(Int.toNat t136)) < (List.length iB))) (
   aO (decide ((((0+(Int.toNat t136))*4)+2)=((0+((Int.toNat t136)*4))+2))) (
   aO (decide ((0+(Int.toNat t136)) < (List.length iB))) (
   aO (decide ((((0+(Int.toNat t136))*4)+2)=((0+((Int.toNat t136)*4))+2))) (
   aO (decide ((0+(Int.toNat t136)) < (List.length iB))) (
   kn (az.L3.st ((df .i64 nX (pf nX (df .i64 (nth dI (nth km iB (0+(Int.toNat t136))).1 0).2.1.1 (nth km iB (0+(Int.toNat t136))).2.1))),t135,(bW .i64 t136 1),qV,(List.set iB (0+(Int.toNat t136)) ((nth km iB (0+(Int.toNat t136))).1,((nth km iB (0+(Int.toNat t136))).2.1,((bW .i64 (nth km iB (0+(Int.toNat t136))).2.2.1 (pf nX (df .i64 (nth dI (nth km iB (0+(Int.toNat t136))).1 0).2.1.1 (nth km iB (0+(Int.toNat t136))).2.1))),(nth km iB (0+(Int.toNat t136))).2.2.2))))))) none) none) none) none) none) none) none) none) none) none) none) (
   az.L3.go kx (qV,iB)):=by kernel_rfl
theorem az.eq{R:Type}(l budget b height)(k:K1 R):az.A (l,budget,b,height) k=
  aO ((ju budget 0)) (
   k (az.out (([]:List iD),1))) (
   aO ((pv budget 1125899906842624)) (
    k (az.out (([]:List iD),1))) (
    aA (dL.call b) λx1=>
    aO ((!x1)) (
     k (az.out (([]:List iD),1))) (
     aO ((ju height 1)) (
      k (az.out (([]:List iD),1))) (
      aO ((pv height 1048576)) (
       k (az.out (([]:List iD),1))) (
       aA (aS.call l) λx2=>
       aO ((!x2)) (
        k (az.out (([]:List iD),1))) (
        aA (az.L0.call (budget,height,0,height,b,0,0,l,(l.length:Int),0,([]:List eh),([]:List eh))) λFF=>
        aA (Dh.call (FF.2.1,FF.2.2.2.2)) λM5=>
        aA (Dg.call (FF.2.2.1,FF.2.2.2.1)) λM6=>
        aA (az.L1.call (FF.1.1,FF.1.2,FF.2.1,FF.2.2.1,((FF.2.1:Nat):Int),0,0,M6.2,M5.2,([]:List iD))) λKb=>
        aO (decide (0=0/\(0+Kb.1.2.2.2.1)<=(List.length Kb.1.2.2.2.2.1))) (
        aA (eO.call ((cut Kb.1.2.2.2.2.1 0 Kb.1.2.2.2.1),8)) λOB=>
        aA (eI.call (Kb.2.1,Kb.2.2,OB.1,OB.2)) λO3=>
        aA (az.L2.call (Kb.1.1,Kb.1.2.2.1,O3.1,((O3.1:Nat):Int),0,O3.1,Kb.1.2.2.2.2.2,O3.2.1)) λAF=>
        aA (az.L3.call (AF.2.1,(pf ((AF.2.2:Nat):Int) ((AF.1.1:Nat):Int)),0,AF.2.2,AF.1.2.2)) λO4=>
        aO (decide (0=0/\(0+O4.1)<=(List.length O4.2))) (
        k (az.out ((cut O4.2 0 O4.1),0))) none) none)))))):=by kernel_rfl
theorem xT{h:Int}{x:eh}(e:xe x h=true):x.2.2.2.2.2.1=0\/h < x.2.2.2.2.2.1:=(of_decide_eq_true e).2
theorem az.L0.ok:(az.mf 0 az.L0):=by
 refine(az.nN 0 az.L0) (λ(_,_,_,_,_,_,_,l,_,i,_,_)=>l.length - i.toNat) ?_
 rintro⟨bu,h,t9,h',b,fl,rl,l,n,i,rs,fs⟩ ⟨hx,hh,rfl,rfl,rfl,hl,rfl,k,hk,rfl,hf,hr⟩
 have hl:l.length<=1000:=hl
 have hk:k<=l.length:=hk
 have hf:fs.length<=k:=hf
 have hr:rs.length<=k:=hr
 by_cases gO:k < l.length
 ·left
  have n1:nth dI l k=l[k]:=dR (t:=dI) gO
  have hd:l.drop k=l[k]::l.drop (k+1):=aB gO
  obtain⟨hq,hb,hu⟩:=hx _ (b6 gO)
  have ca:=alone.run (d:=(l[k],h)) trivial
  have cw:=bF.run (d:=[l[k]]) (by show 1<=_;decide)
  have cc:=bR.run (d:=l[k]) hb
  have skip:ot h l[k]=false->∀ {R:Type} (kn:K2 R) (kx:K3 R),az.R 0 az.L0 (bu,h,t9,h,b,fs.length,rs.length,l,(l.length:Int),(k:Int),rs,fs) kn kx=kn (az.L0.st (bu,h,t9,h,b,fs.length,rs.length,l,(l.length:Int),((k+1:Nat):Int),rs,fs)):=by
   intro G9 R kn kx
   rw[az.L0.step,bq (by omega),aj,bM (by omega) (by omega),aj,aa,n1,ca]
   simp only[ah,bS,alone.F]
   unfold ot at G9
   cases ha:xe l[k] h with
   |false=>rw[dG,aj,N.rO (by omega)]
   |true=>
    rw[ha,ck,Bool.not_eq_false']at G9
    rw[cz,aq,cw]
    simp only[ah,bS,bF.F]
    rw[bq (of_decide_eq_true G9),aj,N.rO (by omega)]
  cases G9:ot h l[k]with
  |false=>
   have e1:qL b h l[k]=false:=by unfold qL;rw[G9];rfl
   have e2:q9 b h l[k]=false:=by unfold q9;rw[G9];rfl
   refine⟨(bu,h,t9,h,b,fs.length,rs.length,l,(l.length:Int),((k+1:Nat):Int),rs,fs),⟨hx,hh,rfl,rfl,rfl,hl,rfl,k+1,by omega,rfl,by show fs.length<=_;omega,by show rs.length<=_;omega⟩,by simp only[aa];omega,?_,λkn kx=>skip G9 kn kx⟩
   simp only[az.L0.add,az.L0.F,aa,hd,ir,e1,e2,bN,if_false]
  |true=>
   have LS:=G9
   unfold ot at LS
   rw[ae,bt]at LS
   obtain⟨ha,hw⟩:=LS
   have cp:=fk.run (d:=(l[k],h,b)) ⟨hh,xT ha,hu⟩
   cases hp:pn b h l[k]with
   |true=>
    have e1:qL b h l[k]=true:=by unfold qL;rw[G9,hp];rfl
    have e2:q9 b h l[k]=false:=by unfold q9;rw[G9,hp];rfl
    refine⟨(bu,h,t9,h,b,fs.length+1,rs.length,l,(l.length:Int),((k+1:Nat):Int),rs,fs++ [l[k]]),⟨hx,hh,rfl,by simp,rfl,hl,rfl,k+1,by omega,rfl,by rw[au];show fs.length+1<=_;omega,by show rs.length<=_;omega⟩,by simp only[aa];omega,?_,λkn kx=> ?_⟩
    ·simp only[az.L0.add,az.L0.F,aa,hd,ir,e1,e2,bN,if_false,if_true,aC,bC,fp]
     rw[dB,Nat.add_comm 1]
    ·rw[az.L0.step,bq (by omega),aj,bM (by omega) (by omega),aj,aa,n1,ca]
     simp only[ah,bS,alone.F,ha,cz,aq]
     rw[cw]
     simp only[ah,bS,bF.F]
     rw[bn (of_decide_eq_false hw),aq,cp]
     simp only[ah,bS,fk.F,hp,aj]
     rw[cc]
     simp only[ah,bS,bR.F]
     rw[aY (aw _),aj,fN (by omega) (by omega),aj,cX,N.rO (by omega)]
   |false=>
    have e1:qL b h l[k]=false:=by unfold qL;rw[G9,hp];rfl
    have e2:q9 b h l[k]=true:=by unfold q9;rw[G9,hp];rfl
    refine⟨(bu,h,t9,h,b,fs.length,rs.length+1,l,(l.length:Int),((k+1:Nat):Int),rs++ [l[k]],fs),⟨hx,hh,rfl,rfl,by simp,hl,rfl,k+1,by omega,rfl,by show fs.length<=_;omega,by rw[au];show rs.length+1<=_;omega⟩,by simp only[aa];omega,?_,λkn kx=> ?_⟩
    ·simp only[az.L0.add,az.L0.F,aa,hd,ir,e1,e2,bN,if_false,if_true,aC,bC,fp]
     rw[dB rs.length,Nat.add_comm 1]
    ·rw[az.L0.step,bq (by omega),aj,bM (by omega) (by omega),aj,aa,n1,ca]
     simp only[ah,bS,alone.F,ha,cz,aq]
     rw[cw]
     simp only[ah,bS,bF.F]
     rw[bn (of_decide_eq_false hw),aq,cp]
     simp only[ah,bS,fk.F,hp,aq]
     rw[cc]
     simp only[ah,bS,bR.F]
     rw[aY (aw _),aj,fN (by omega) (by omega),aj,cX,N.rO (by omega)]
 ·right
  obtain rfl:k=l.length:=by omega
  intro R kn kx
  rw[az.L0.step,bn (by omega),aq]
  simp only[az.L0.add,az.L0.F,aa,bG,List.filter_nil,aZ,ct,cZ]
theorem az.L1.ok:(az.mf 1 az.L1):=by
 refine(az.nN 1 az.L1) (λ(_,_,_,_,_,i,_,_,fs,_)=>fs.length - i.toNat) ?_
 rintro⟨bu,t9,fl,rl,n,i,m,rs,fs,all⟩ ⟨rfl,hl,rfl,rfl,k,hk,rfl,ha⟩
 have hl:fs.length<=1000:=hl
 have hk:k<=fs.length:=hk
 have ha:all.length<=k:=ha
 by_cases gO:k < fs.length
 ·left
  have hd:fs.drop k=fs[k]::fs.drop (k+1):=aB gO
  have ec:cut fs k 1=[fs[k]]:=by unfold cut;rw[hd];rfl
  refine⟨(bu,t9,fs.length,rl,(fs.length:Int),((k+1:Nat):Int),all.length+1,rs,fs,all++ [l6 fs[k]]),⟨rfl,hl,rfl,by simp,k+1,by omega,rfl,by rw[au];show all.length+1<=_;omega⟩,by simp only[aa];omega,?_,λkn kx=> ?_⟩
  ·simp only[az.L1.add,az.L1.F,aa,hd,aC,bX,bC,fp]
   rw[dB,Nat.add_comm 1]
  ·rw[az.L1.step,bq (by omega),aj,N.rO (by omega),aY ⟨by omega,eo _,by omega⟩,aj,jF (by omega) (by omega),aj]
   simp only[aa,aR,fM]
   rw[jF (by omega) (by omega),aj,aY ⟨trivial,by omega⟩,aj,ec,bh.run (d:=[fs[k]]) (by show 1<=_;decide)]
   simp only[ah,bS,bh.F]
   rw[aY (aw _),aj,fN (by omega) (by omega),aj,cX]
   rfl
 ·right
  obtain rfl:k=fs.length:=by omega
  intro R kn kx
  rw[az.L1.step,bn (by omega),aq]
  simp only[az.L1.add,az.L1.F,aa,bG,aZ,ct,fW,cZ]
theorem az.L2.ok:(az.mf 2 az.L2):=by
 refine(az.nN 2 az.L2) (λ(_,_,_,_,i,_,_,all)=>all.length - i.toNat) ?_
 rintro⟨bu,fl,m,n,i,m2,fs,all⟩ ⟨rfl,rfl,hl,rfl,hb,hg,k,hk,rfl⟩
 have hl:all.length<=10000:=hl
 have hk:k<=all.length:=hk
 have hb:0<=bu/\bu<=1125899906842624:=hb
 by_cases gO:k < all.length
 ·have n1:nth km all k=all[k]:=dR (t:=km) gO
  have hd:all.drop k=all[k]::all.drop (k+1):=aB gO
  have LL:=hg _ (b6 gO)
  by_cases hc:all[k].2.1 > bu
  ·right
   intro R kn kx
   rw[az.L2.step,bq (by omega),aj,bM (by omega) (by omega),aj]
   simp only[aa,aR,ct,aY gO,aj,decide_true,n1]
   rw[db hc,aj,jF (by omega) (by omega),aj]
   simp only[az.L2.add,az.L2.F,aa,hd,kg,if_pos hc,aZ,ct,Nat.sub_zero]
  ·left
   refine⟨(bu - all[k].2.1,fl,all.length,(all.length:Int),((k+1:Nat):Int),all.length,fs,all),⟨rfl,rfl,hl,rfl,⟨by omega,by omega⟩,hg,k+1,by omega,rfl⟩,by simp only[aa];omega,?_,λkn kx=> ?_⟩
   ·simp only[az.L2.add,az.L2.F,aa,hd,kg,if_neg hc,aC]
    rw[dB,Nat.add_comm 1]
   ·rw[az.L2.step,bq (by omega),aj,bM (by omega) (by omega),aj]
    simp only[aa,aR,ct,aY gO,aj,decide_true,n1]
    rw[cR hc,aq,dM (by omega) (by omega),N.rO (by omega)]
 ·right
  obtain rfl:k=all.length:=by omega
  intro R kn kx
  rw[az.L2.step,bn (by omega),aq]
  simp only[az.L2.add,az.L2.F,aa,bG,kg,aZ,ct]
theorem Fv{b:Int}{g:iD}(hg:M9 g)(hb:0<=b/\b<=1125899906842624):0<=lD b g/\lD b g<=b/\lD b g<=(nth dI g.1 0).2.1.1 - g.2.1:=by
 obtain⟨_,h1,_⟩:=hg
 unfold lD pf
 split <;> omega
theorem az.L3.ok:(az.mf 3 az.L3):=by
 refine(az.nN 3 az.L3) (λ(_,n,i,_,_)=>(n - i).toNat) ?_
 rintro⟨bu,n,i,m,all⟩ ⟨hm,hl,hb,k,j,rfl,rfl,hk,hj,hg⟩
 have hm:m<=all.length:=hm
 have hl:all.length<=10000:=hl
 have hk:k<=j:=hk
 have hj:j<=m:=hj
 have hb:0<=bu/\bu<=1125899906842624:=hb
 by_cases gO:k < j
 ·left
  obtain⟨q,hq⟩:∃q,j=k+1+q:=⟨j - (k+1),by omega⟩
  have ek:k < all.length:=by omega
  have n1:nth km all k=all[k]:=dR (t:=km) ek
  have hd:all.drop k=all[k]::all.drop (k+1):=aB ek
  have e1:((j:Int) - (k:Int)).toNat=q+1:=by omega
  have e2:((j:Int) - ((k+1:Nat):Int)).toNat=q:=by omega
  have RJ:k < (all.take j).length:=by rw[cn];omega
  have Ry:(all.take j).drop k=all[k]::(all.take j).drop (k+1):=by rw[aB RJ,List.getElem_take]
  rw[Ry]at hg
  have LL:=hg _ aI
  obtain⟨g1,g2,g3⟩:=id LL
  have OS:=Fv LL hb
  have g2:(0:Int)<=all[k].2.1/\ @LE.le Int _ all[k].2.1 (nth dI all[k].1 0).2.1.1/\ @LE.le Int _ (nth dI all[k].1 0).2.1.1 1099511627776:=g2
  have es:all.set k (xd all[k] (lD bu all[k]))=all.take k++xd all[k] (lD bu all[k])::all.drop (k+1):=List.set_eq_take_append_cons_drop▸if_pos ek
  have et:(all.set k (xd all[k] (lD bu all[k]))).take (k+1)=all.take k++ [xd all[k] (lD bu all[k])]:=by
   rw[es,iv,cn,dY (by omega),bo (by rw[cn];omega),show k+1 - k=1 by omega]
   rfl
  have eD:(all.set k (xd all[k] (lD bu all[k]))).drop (k+1)=all.drop (k+1):=List.drop_set_of_lt (by omega)
  refine⟨(bu - lD bu all[k],(j:Int),((k+1:Nat):Int),m,all.set k (xd all[k] (lD bu all[k]))),⟨by rw[iU];exact hm,by rw[iU];exact hl,⟨by omega,by omega⟩,k+1,j,rfl,rfl,by omega,hj,λg QY=> ?_⟩,by simp only[e1,e2];omega,?_,λkn kx=> ?_⟩
  ·have:((all.set k (xd all[k] (lD bu all[k]))).take j).drop (k+1)=(all.take j).drop (k+1):=by
    rw[List.take_set,List.drop_set_of_lt (by omega)]
   rw[this]at QY
   exact hg g (aH _ QY)
  ·simp only[az.L3.add,az.L3.F,aa,e1,e2,hd,iM,et,eD,bC,fp]
  ·rw[az.L3.step,bq (by omega),aj,bM (by omega) (by omega),aj]
   simp only[aa,aR,ct,aY ek,aj,decide_true,n1]
   rw[bM (by omega) (by omega),aj,dM (x:=(nth dI all[k].1 0).2.1.1) (by omega) (by omega)]
   rw[show pf bu ((nth dI all[k].1 0).2.1.1 - all[k].2.1)=lD bu all[k] from rfl,dM (by omega) (by omega),eP (x:=all[k].2.2.1) (by omega) (by omega),N.rO (by omega)]
   rfl
 ·right
  obtain rfl:k=j:=by omega
  intro R kn kx
  have e1:((k:Int) - (k:Int)).toNat=0:=by omega
  rw[az.L3.step,bn (by omega),aq]
  simp only[az.L3.add,az.L3.F,aa,e1,iM,cQ]
theorem zP:∀ {l:List eh},(l.map (·.1)).Nodup->∀ {x y:eh},x∈l->y∈l->x.1=y.1->x=y
 |[],_,_,_,hx,_,_=>by cases hx
 |a::l,hn,x,y,hx,hy,e=>by
  rw[bX,cP]at hn
  rcases b8.1 hx with h1 | h1
  ·rcases b8.1 hy with h2 | h2
   ·rw[h1,h2]
   ·exact absurd (by rw[<-h1,e];exact ik h2) hn.1
  ·rcases b8.1 hy with h2 | h2
   ·exact absurd (by rw[<-h2,<-e];exact ik h1) hn.1
   ·exact zP hn.2 h1 h2 e
theorem vo:∀(n:Nat) (b:Int) (l:List iD),(iM n b l).length=l.length
 | 0,_,_=>rfl
 |_+1,_,[]=>rfl
 |n+1,b,g::l=>by rw[iM,aC,aC,vo n]
theorem gT{l:List eh}(hx:∀x∈l,E0 x)(hn:(l.map (·.1)).Nodup)(p:eh->Bool):(∀x∈l.filter p,BE x)/\(∀x∈l.filter p,∀y∈l.filter p,x.1=y.1->x=y):=by
 refine⟨λx h=>(hx x (dX.1 h).1).1,λx h y h2 e=> ?_⟩
 exact zP hn (dX.1 h).1 (dX.1 h2).1 e
theorem Hx:∀(l:List iD) (b:Int),(∀g∈l,0<=g.2.1)->0<=b->(0<=(kg b l).1/\(kg b l).1<=b)/\∃k,k<=l.length/\(kg b l).2=l.take k
 |[],b,_,hb=>⟨⟨hb,eo _⟩,0,aw _,rfl⟩
 |g::l,b,h,hb=>by
  unfold kg
  by_cases hc:g.2.1 > b
  ·rw[if_pos hc]
   exact⟨⟨hb,eo _⟩,0,bj _,rfl⟩
  ·rw[if_neg hc]
   have h0:=h g aI
   obtain⟨⟨i1,i2⟩,k,i3,i4⟩:=Hx l (b - g.2.1) (λx hx=>h x (aH _ hx)) (by omega)
   refine⟨⟨i1,by show(kg (b - g.2.1) l).1<=b;omega⟩,k+1,by rw[aC];omega,?_⟩
   show g::(kg (b - g.2.1) l).2=_
   rw[i4]
   rfl
theorem ye:∀(n:Nat) (b:Int) (l:List iD) (m:Nat),(iM n b l).take m=iM n b (l.take m)
 | 0,_,_,_=>rfl
 |_+1,_,[],m=>by simp[iM]
 |n+1,b,g::l,0=>by simp[iM]
 |n+1,b,g::l,m+1=>by
  rw[j3,iM,iM,j3,ye]
theorem Ai:∀(n:Nat) (b:Int) (l:List iD),iM (min l.length n) b l=iM n b l
 | 0,_,l=>by rw[Nat.min_zero]
 |_+1,_,[]=>rfl
 |n+1,b,g::l=>by
  rw[aC,Nat.succ_min_succ,iM,iM,Ai n]
theorem sJ{α:Type}:∀(n:Nat) (l:List α),l.length<=n->(fZ l).length<=l.length/\∀c∈fZ l,1<=c.length/\c.length<=8
 | 0,l,h=>by
  obtain rfl:=aJ (Nat.le_zero.1 h)
  exact⟨aw _,λc hc=>(by cases hc)⟩
 |n+1,l,h=>by
  by_cases h0:0 < l.length
  ·have hd:(l.drop 8).length<=l.length - 1:=by rw[cH];omega
   obtain⟨i1,i2⟩:=sJ n (l.drop 8) (by omega)
   rw[qE h0]
   refine⟨by rw[aC];omega,λc hc=> ?_⟩
   rcases b8.1 hc with rfl | hc
   ·rw[cn];omega
   ·exact i2 c hc
  ·obtain rfl:=aJ (by omega:l.length=0)
   exact⟨aw _,λc hc=>(by cases hc)⟩
section
variable {l:List eh} {b:pE} {h:Int}
theorem xw(hx:∀x∈l,E0 x):DE (t:=dI) nZ (l.filter (qL b h)) (dZ l b h):=Bo uY λx hm=>(hx x (dX.1 hm).1).1
theorem Bk(hx:∀x∈l,E0 x):DE (t:=dI) zd (l.filter (q9 b h)) (j1 l b h):=Bo xl λx hm=>(hx x (dX.1 hm).1).1
theorem xx(hx:∀x∈l,E0 x){x:eh}(hm:x∈dZ l b h):x∈l/\ot h x=true/\pn b h x=true:=by
 obtain⟨h1,h2⟩:=dX.1 ((xw hx).1.mem_iff.1 hm)
 unfold qL at h2
 rw[ae]at h2
 exact⟨h1,h2⟩
theorem CS{x:eh}(ha:0<=x.2.1.1/\x.2.1.1<=1099511627776)(hk:ot h x=true):M9 (l6 x):=by
 have h1:=rq [x]
 unfold ot at hk
 rw[ae,bt]at hk
 have h2:=of_decide_eq_false hk.2
 have h3:tt [x]<=40:=h1.2
 exact⟨by show 0 < 1;decide,⟨h1.1,by show tt [x]<=x.2.1.1;omega,ha.2⟩,h1.1,by show tt [x]<=_;omega⟩
theorem BJ{g:iD}(hg:g∈kF l b h):0<=g.2.1:=by
 unfold kF at hg
 rcases aX.1 hg with hg | hg
 ·obtain⟨x,_,rfl⟩:=cU.1 hg
  exact(rq [x]).1
 ·obtain⟨c,_,rfl⟩:=cU.1 hg
  exact(rq c).1
end
theorem az.ok:az.Ok:=by
 rintro⟨l,bu,b,h⟩ hx
 have hx:∀x∈l,E0 x:=hx
 have z1:((0:Int)).toNat=0:=rfl
 rw[az.eq]
 simp only[bS,az.F,uj]
 by_cases a1:0<=bu
 rotate_left
 ·rw[bq (by omega),aj,if_neg (λe=>by unfold j5 at e;rw[ae]at e;exact a1 (of_decide_eq_true e.1).1)]
 rw[bn (by omega),aq]
 by_cases a2:bu<=1125899906842624
 rotate_left
 ·rw[db (by omega),aj,if_neg (λe=>by unfold j5 at e;rw[ae]at e;exact a2 (of_decide_eq_true e.1).2)]
 rw[cR (by omega),aq,dL.run (d:=b) trivial]
 simp only[ah,bS,dL.F]
 cases a3:gF b with
 |false=>rw[dG,aj,if_neg (λe=>by unfold j5 at e;rw[a3,eM,Bool.and_false]at e;cases e)]
 |true=>
 rw[cz,aq]
 by_cases a4:1<=h
 rotate_left
 ·rw[bq (by omega),aj,if_neg (λe=>by unfold j5 at e;rw[ae,ae,ae]at e;exact a4 (of_decide_eq_true e.2.2.1).1)]
 rw[bn (by omega),aq]
 by_cases a5:h<=1048576
 rotate_left
 ·rw[db (by omega),aj,if_neg (λe=>by unfold j5 at e;rw[ae,ae,ae]at e;exact a5 (of_decide_eq_true e.2.2.1).2)]
 rw[cR (by omega),aq,aS.run (d:=l) trivial]
 simp only[ah,bS,aS.F]
 cases a6:vD l with
 |false=>rw[dG,aj,if_neg (λe=>by unfold j5 at e;rw[a6,Bool.and_false,Bool.and_false,Bool.and_false]at e;cases e)]
 |true=>
 have nE:j5 l bu b h=true:=by unfold j5;rw[aY ⟨a1,a2⟩,a3,aY ⟨a4,a5⟩,a6];rfl
 rw[if_pos nE,cz,aq]
 obtain⟨r1,r2,r3⟩:=(th l).1 a6
 rw[az.L0.run (d:=(bu,h,0,h,b,0,0,l,(l.length:Int),0,[],[])) ⟨hx,⟨a4,a5⟩,rfl,rfl,rfl,by omega,rfl,0,bj _,rfl,aw _,aw _⟩]
 simp only[ah,az.L0.add,az.L0.F,z1,aL,aR,aT]
 have fl:∀p,(l.filter p).length<=64:=λp=>Nat.le_trans (List.length_filter_le p l) r1
 have s1:=Dh.run (d:=((l.filter (qL b h)).length,l.filter (qL b h))) ⟨rfl,Nat.lt_of_le_of_lt (fl _) (by decide),(gT hx r2 _).1,λx hm y Kw e1 e2=>(gT hx r2 _).2 x hm y Kw (vT ((gT hx r2 _).1 x hm) ((gT hx r2 _).1 y Kw) e1 e2)⟩
 have s2:=Dg.run (d:=((l.filter (q9 b h)).length,l.filter (q9 b h))) ⟨rfl,Nat.lt_of_le_of_lt (fl _) (by decide),(gT hx r2 _).1,λx hm y Kw e1 e2=>(gT hx r2 _).2 x hm y Kw (xo ((gT hx r2 _).1 x hm) ((gT hx r2 _).1 y Kw) e1 e2)⟩
 have f1:(l.filter (qL b h)).length=(dZ l b h).length:=(xw hx).1.length_eq.symm
 have f2:(l.filter (q9 b h)).length=(j1 l b h).length:=(Bk hx).1.length_eq.symm
 have g1:(dZ l b h).length<=64:=by rw[<-f1];exact fl _
 have g2:(j1 l b h).length<=64:=by rw[<-f2];exact fl _
 rw[s1]
 simp only[ah]
 rw[s2]
 simp only[ah]
 rw[show rX (t:=dI) nZ (l.filter (qL b h))=dZ l b h from rfl,show rX (t:=dI) zd (l.filter (q9 b h))=j1 l b h from rfl,f1,f2]
 rw[az.L1.run (d:=(bu,0,(dZ l b h).length,(j1 l b h).length,((dZ l b h).length:Int),0,0,j1 l b h,dZ l b h,[])) ⟨rfl,by omega,rfl,rfl,0,bj _,rfl,aw _⟩]
 simp only[ah,az.L1.add,az.L1.F,z1,aL,aR,aT]
 rw[aY ⟨trivial,by omega⟩,aj,gR rfl,eO.run (d:=(j1 l b h,8)) (by show(1:Int)<=8;decide)]
 simp only[ah,eO.add,eO.F]
 rw[eI.run (d:=((dZ l b h).length,(dZ l b h).map l6,j1 l b h,8)) ⟨rfl,by show(j1 l b h).length<=_;omega,by rw[cj],by show(dZ l b h).length<=_;omega⟩]
 simp only[ah,bS,eI.F]
 have pM:(dZ l b h).length+(fZ (j1 l b h)).length=(kF l b h).length:=by unfold kF;rw[au,cj,cj]
 have hlen:(kF l b h).length<=1000:=by
  have:=(sJ _ (j1 l b h) (aw _)).1
  omega
 have kM:∀g∈kF l b h,0<=g.2.1:=λg hg=>BJ hg
 rw[show(dZ l b h).map l6++(fZ (j1 l b h)).map gN=kF l b h from rfl,pM]
 rw[az.L2.run (d:=(bu,(dZ l b h).length,(kF l b h).length,((kF l b h).length:Int),0,(kF l b h).length,dZ l b h,kF l b h)) ⟨rfl,rfl,by omega,rfl,⟨a1,a2⟩,kM,0,bj _,rfl⟩]
 simp only[ah,az.L2.add,az.L2.F,z1,aL,aR]
 obtain⟨⟨c1,c2⟩,k,c3,c4⟩:=Hx (kF l b h) bu kM a1
 have c5:(kg bu (kF l b h)).2.length=k:=by rw[c4,cn];omega
 have ej:pf (k:Int) ((dZ l b h).length:Int)=((min k (dZ l b h).length:Nat):Int):=by unfold pf;split <;> omega
 unfold sw
 rw[c5,c4,ej]
 generalize (kg bu (kF l b h)).1=bu2 at c1 c2 ⊢
 have pd:∀g∈((kF l b h).take (min k (dZ l b h).length)).drop 0,M9 g:=λg hg=>by
  rw[aL]at hg
  have hg:g∈((dZ l b h).map l6).take (min k (dZ l b h).length):=by
   have e:(kF l b h).take (min k (dZ l b h).length)=((dZ l b h).map l6).take (min k (dZ l b h).length):=by
    unfold kF
    rw[eH (by rw[cj];omega)]
   rw[e]at hg
   exact hg
  obtain⟨x,hm,rfl⟩:=cU.1 (List.mem_of_mem_take hg)
  obtain⟨m1,m2,_⟩:=xx hx hm
  exact CS (r3 x m1) m2
 rw[az.L3.run (d:=(bu2,((min k (dZ l b h).length:Nat):Int),0,k,kF l b h)) ⟨c3,by omega,⟨c1,by omega⟩,0,min k (dZ l b h).length,rfl,rfl,bj _,Nat.min_le_left _ _,pd⟩]
 have e0:(((min k (dZ l b h).length:Nat):Int) - 0).toNat=min k (dZ l b h).length:=by omega
 simp only[ah,az.L3.add,az.L3.F,z1,aL,eN,aT,e0,aR]
 have em:∀(n:Nat) (c:Int) (L:List iD),(iM n c L).length=L.length:=vo
 rw[aY ⟨trivial,by rw[em];exact c3⟩,aj]
 have ec:cut (iM (min k (dZ l b h).length) bu2 (kF l b h)) 0 k=iM (dZ l b h).length bu2 ((kF l b h).take k):=by
  unfold cut
  rw[aL,ye,<-Ai (dZ l b h).length,cn,dY c3]
 rw[ec]
theorem az.run:az.RS:=rE [.d (.slice dI),.d ti,.d qe,.d ti] az
def az.sg:=az.gl az.ok 4 ⟨.jG az.L0.ok,⟨.jG az.L1.ok,⟨.jG az.L2.ok,⟨.jG az.L3.ok,trivial⟩⟩⟩⟩
end Go.Ab
namespace Go.Ab
open Go.Proofs
abbrev gL.D:=Int×Int×Int
abbrev gL.Y:=Int×Bool×Bool
def gL.bf:gL.D->Prop:=λ(a,n,d)=>(0<=a/\a<=1125899906842624)/\(0<=n/\n<=d)/\1<=d/\d<=10000
def gL.F:gL.D->gL.Y:=λ(a,n,d)=>(a*n / d,pv (a*n%d) 0,true)
def gL:Fs Tryz.prog gL.bf bS gL.F:=fS 175 Tryz.f175 (λ(a,num,den)=>([.d ti a,.d ti num,.d ti den],[])) (λx=>⟨.cons (.d ti x.1) (.cons (.d .bool x.2.1) (.cons (.d .bool x.2.2) (.nil))),[],[]⟩) [some ti,some ti,some ti] [eG.sg,fJ.sg,bJ.sg]
theorem gL.eq{R:Type}(a num den)(k:K1 R):gL.A (a,num,den) k=
  aA (eG.call a) λx1=>
  aO ((!x1)) (
   k (gL.out (0,false,false))) (
   aO ((ju num 0)) (
    k (gL.out (0,false,false))) (
    aO ((ju den 1)) (
     k (gL.out (0,false,false))) (
     aA (fJ.call ((dF .u64 a),(dF .u64 num))) λx2=>
     aO ((pN x2.1 (dF .u64 den))) (
      k (gL.out (0,false,false))) (
      aA (bJ.call (x2.1,x2.2,(dF .u64 den))) λx3=>
      aO ((pv x3.1 1125899906842624)) (
       k (gL.out (0,false,false))) (
       k (gL.out ((dF .i64 x3.1),(pv x3.2 0),true))))))):=by kernel_rfl
theorem gL.ok:gL.Ok:=by
 rintro⟨a,n,d⟩ ⟨⟨h1,h2⟩,⟨h3,h4⟩,h5,h6⟩
 have h1:0<=a:=h1
 have h2:a<=1125899906842624:=h2
 have h3:0<=n:=h3
 have h4:n<=d:=h4
 have h5:1<=d:=h5
 have h6:d<=10000:=h6
 have k1:0<=a*n:=lb h1 h3
 have k2:a*n<=a*d:=Int.mul_le_mul_of_nonneg_left h4 h1
 have k3:a*d<=1125899906842624*d:=Int.mul_le_mul_of_nonneg_right h2 (by omega)
 have k4:a*n / d<=a:=Int.ediv_le_of_le_mul (by omega) k2
 have k5:0<=a*n / d:=Int.ediv_nonneg k1 (by omega)
 have e0:lq a=true:=aY ⟨h1,h2⟩
 have c1:dF .u64 a=a:=by rw[vf];omega
 have c2:dF .u64 n=n:=by rw[vf];omega
 have c3:dF .u64 d=d:=by rw[vf];omega
 rw[gL.eq,eG.run (d:=a) trivial]
 simp only[ah,bS,eG.F,e0,cz,aq]
 rw[bn (by omega),aq,bn (by omega),aq,c1,c2,c3,fJ.run (d:=(a,n)) ⟨⟨h1,by show a < _;omega⟩,h3,by show n < _;omega⟩]
 simp only[ah,bS,fJ.F]
 have e1:a*n / 18446744073709551616=0:=by omega
 have e2:a*n%18446744073709551616=a*n:=by omega
 rw[e1,e2,eg (by omega),aq,bJ.run (d:=(0,a*n,d)) ⟨.inr ⟨rfl,by show 0 < d;omega,by show d < _;omega⟩,eo 0,by show 0 < d;omega,k1,by show a*n < _;omega⟩]
 simp only[ah,bS,bJ.F,Int.zero_mul,Int.zero_add]
 rw[cR (by omega),aq,Fj (by omega) (by omega)]
 rfl
theorem gL.run:gL.RS:=rE [.d ti,.d ti,.d ti] gL
def gL.sg:=gL.gl gL.ok
def I7(a n d:Int):Int:=if 0 < a*n%d then a*n / d+1 else a*n / d
theorem KU{a n d:Int}(h1:0<=a)(h3:0<=n)(h4:n<=d)(h5:1<=d):0<=I7 a n d/\I7 a n d<=a/\(0 < a*n%d->a*n / d+1<=a):=by
 have k1:0<=a*n:=lb h1 h3
 have k2:a*n<=a*d:=Int.mul_le_mul_of_nonneg_left h4 h1
 have k4:a*n / d<=a:=Int.ediv_le_of_le_mul (by omega) k2
 have k5:0<=a*n / d:=Int.ediv_nonneg k1 (by omega)
 have k6:0 < a*n%d->a*n / d+1<=a:=λh=>by
  have e:=Int.mul_ediv_add_emod (a*n) d
  refine gM λhc=> ?_
  have:a=a*n / d:=by omega
  rw[<-this,Int.mul_comm d a]at e
  omega
 unfold I7
 split
 ·rename_i h
  exact⟨by omega,k6 h,k6⟩
 ·exact⟨k5,k4,k6⟩
abbrev uO.D:=Int×Int×Int
abbrev uO.Y:=Int×Bool
def uO.bf:uO.D->Prop:=λ(a,n,d)=>(0<=a/\a<=1125899906842624)/\(0<=n/\n<=d)/\1<=d/\d<=10000
def uO.F:uO.D->uO.Y:=λ(a,n,d)=>(I7 a n d,true)
def uO:Fs Tryz.prog uO.bf bS uO.F:=fS 116 Tryz.f116 (λ(a,num,den)=>([.d ti a,.d ti num,.d ti den],[])) (λx=>⟨.cons (.d ti x.1) (.cons (.d .bool x.2) (.nil)),[],[]⟩) [some ti,some ti,some ti] [gL.sg,jc.sg]
theorem uO.eq{R:Type}(a num den)(k:K1 R):uO.A (a,num,den) k=
  aA (gL.call (a,num,den)) λx1=>
  aO (x1.2.2) (
   aO (x1.2.1) (
    aA (jc.call (x1.1,1)) λx2=>
    k (uO.out (x2.1,x2.2))) (
    k (uO.out (x1.1,x1.2.2)))) (
   k (uO.out (x1.1,x1.2.2))):=by kernel_rfl
theorem uO.ok:uO.Ok:=by
 rintro⟨a,n,d⟩ h
 obtain⟨⟨h1,h2⟩,⟨h3,h4⟩,h5,h6⟩:=id h
 obtain⟨f1,f2,f3⟩:=KU (a:=a) (n:=n) (d:=d) h1 h3 h4 h5
 have h2:a<=1125899906842624:=h2
 rw[uO.eq,gL.run (d:=(a,n,d)) h]
 simp only[ah,bS,gL.F,aj,bS,uO.F,I7]at f1 f2 ⊢
 by_cases hr:0 < a*n%d
 ·have:=f3 hr
  rw[if_pos hr]at f1
  have k5:0<=a*n / d:=Int.ediv_nonneg (lb h1 h3) (by have:1<=d:=h5;omega)
  have e:oT (a*n / d) 1=true:=by
   unfold oT lq
   rw[aY ⟨k5,by omega⟩,aY ⟨by decide,by decide⟩,aY (by omega)]
   rfl
  rw[db hr,aj,jc.run (d:=(a*n / d,1)) trivial,if_pos hr]
  simp only[ah,bS,jc.F,e,cond_true]
 ·rw[cR hr,aq,if_neg hr]
theorem uO.run:uO.RS:=rE [.d ti,.d ti,.d ti] uO
def uO.sg:=uO.gl uO.ok
abbrev jo.D:=iD×Int×pE
abbrev jo.Y:=Int
def kJ(g:iD)(h:Int)(b:pE):Int:=
 if g.2.2.2.1=0\/gF b=false\/g.2.2.2.1 - h>=2*fO b then g.2.1
 else if g.2.2.2.1 - h<=fO b then g.2.2.1
 else g.2.1+I7 (g.2.2.1 - g.2.1) (2*fO b - (g.2.2.2.1 - h)) (fO b)
def Kd(g:iD):Prop:=(0<=g.2.1/\g.2.1<=g.2.2.1/\g.2.2.1<=1125899906842624)/\0<=g.2.2.2.1/\g.2.2.2.1<=9223372036854775807
def jo.bf:jo.D->Prop:=λ(g,h,_)=>Kd g/\0<=h/\h<=9223372036854775807
def jo.F:jo.D->jo.Y:=λ(g,h,b)=>kJ g h b
def jo:Fs Tryz.prog jo.bf bS jo.F:=fS 52 Tryz.f52 (λ(g,atv,b)=>([.d km g,.d ti atv,.d qe b],[])) (λx=>⟨.d ti x,[],[]⟩) [some km,some ti,some qe] [eQ.sg,dL.sg,uO.sg]
theorem jo.eq{R:Type}(g atv b)(k:K1 R):jo.A (g,atv,b) k=
  aA (eQ.call b) λx1=>
  aO ((Ac g.2.2.2.1 0)) (
   k (jo.out g.2.1)) (
   aA (dL.call b) λx2=>
   aO ((!x2)) (
    k (jo.out g.2.1)) (
    aO ((pN (df .i64 g.2.2.2.1 atv) (gu .i64 2 x1))) (
     k (jo.out g.2.1)) (
     aO ((Ct (df .i64 g.2.2.2.1 atv) x1)) (
      k (jo.out g.2.2.1)) (
      aA (uO.call ((df .i64 g.2.2.1 g.2.1),(df .i64 (gu .i64 2 x1) (df .i64 g.2.2.2.1 atv)),x1)) λx3=>
      k (jo.out (bW .i64 g.2.1 x3.1)))))):=by kernel_rfl
theorem u7{g:iD}{h:Int}{b:pE}(hg:Kd g):g.2.1<=kJ g h b/\kJ g h b<=g.2.2.1:=by
 obtain⟨⟨g1,g2,g3⟩,_⟩:=hg
 unfold kJ
 split
 ·omega
 ·rename_i h1
  split
  ·omega
  ·rename_i h2
   have hs:=rJ b
   have hr:gF b=true:=by cases h:gF b with | true=>rfl | false=>exact absurd (.inr (.inl h)) h1
   have:=KU (a:=g.2.2.1 - g.2.1) (n:=2*fO b - (g.2.2.2.1 - h)) (d:=fO b) (by omega) (by omega) (by omega) (by have:=hs.2.2 hr;omega)
   omega
theorem jo.ok:jo.Ok:=by
 rintro⟨g,h,b⟩ ⟨hg,h0,h1⟩
 obtain⟨⟨g1,g2,g3⟩,g4,g5⟩:=id hg
 have h0:0<=h:=h0
 have h1:h<=9223372036854775807:=h1
 have hs:=rJ b
 have hf:=u7 (h:=h) (b:=b) hg
 rw[jo.eq,eQ.run (d:=b) trivial]
 simp only[ah,bS,eQ.F,bS,jo.F]at hf ⊢
 unfold kJ at hf ⊢
 by_cases a1:g.2.2.2.1=0
 ·rw[ja a1,aj,if_pos (.inl a1)]
 rw[gP a1,aq,dL.run (d:=b) trivial]
 simp only[ah,bS,dL.F]
 cases a2:gF b with
 |false=>rw[dG,aj,if_pos (.inr (.inl rfl))]
 |true=>
 have hp:=hs.2.2 a2
 rw[cz,aq,dM (x:=g.2.2.2.1) (by omega) (by omega),pz (by omega) (by omega)]
 by_cases a3:g.2.2.2.1 - h>=2*fO b
 ·rw[fH a3,aj,if_pos (.inr (.inr a3))]
 rw[eg a3,aq]
 have hn:¬(g.2.2.2.1=0\/true=false\/g.2.2.2.1 - h>=2*fO b):=λe=>e.elim a1 λe=>e.elim (λe=>by cases e) a3
 rw[if_neg hn]
 rw[a2,if_neg hn]at hf
 by_cases a4:g.2.2.2.1 - h<=fO b
 ·rw[ki a4,aj,if_pos a4]
 rw[iy a4,aq,if_neg a4]
 rw[if_neg a4]at hf
 rw[dM (x:=g.2.2.1) (by omega) (by omega),dM (x:=2*fO b) (by omega) (by omega),uO.run (d:=(g.2.2.1 - g.2.1,2*fO b - (g.2.2.2.1 - h),fO b)) ⟨⟨by show 0<=g.2.2.1 - g.2.1;omega,by show g.2.2.1 - g.2.1<=_;omega⟩,⟨by show 0<=2*fO b - (g.2.2.2.1 - h);omega,by show 2*fO b - (g.2.2.2.1 - h)<=fO b;omega⟩,by show 1<=fO b;omega,by show fO b<=_;omega⟩]
 simp only[ah,bS,uO.F]
 rw[eP (x:=g.2.1) (by omega) (by omega)]
theorem jo.run:jo.RS:=rE [.d km,.d ti,.d qe] jo
def jo.sg:=jo.gl jo.ok
abbrev kf.D:=iG×eh
abbrev kf.Y:=Bool
abbrev kf.X:=(eh)×(Bool)
def kf.add:kf.D->kf.Y->kf.X:=λ(i,o0) y=>(o0,y)
def mZ(x:eh)(i:iG):Bool:=Ty.beq gX i.1 x.1
def kf.bf:kf.D->Prop:=λ_=>True
def kf.F:kf.D->kf.Y:=λ(i,x)=>mZ x i
def kf:Fs Tryz.prog kf.bf kf.add kf.F:=fS 172 Tryz.f172 (λ(i,o0)=>([.d jL i,.ptr (.c8 0) 0 [] 0],[.obj 0 false (.d dI o0)])) (λx=>⟨.d .bool x.2,[.obj 0 false (.d dI x.1)],[]⟩) [some jL,none]
theorem kf.eq{R:Type}(i o0)(k:K1 R):kf.A (i,o0) k=
 k (kf.out (o0,(Ty.beq gX i.1 o0.1))):=by kernel_rfl
theorem kf.ok:kf.Ok:=by
 rintro⟨i,x⟩ _
 rw[kf.eq]
 rfl
theorem kf.run:kf.RS:=rE [.d jL,.d dI] kf
def kf.sg:=kf.gl kf.ok
abbrev aU.L0.D:=Nat×Int×Int×(List iG)×eh
def aU.L0.st:aU.L0.D->AS:=λ(GN,t7,t8,vz,Ew)=>⟨([.cv (.c8 0) 0 [] 0 0 GN,.fn 172 (.cons (.ptr (.c8 1) 0 [] 0) (.nil))]++bE 5 ([.d ti t7,.d ti t8]++bE 10 [])),[.obj 0 false (.vec 52 jL vz),.obj 0 false (.d dI Ew)],(List.replicate 19 [])⟩
abbrev aU.L0.Y0:=Int×eh
abbrev aU.L0.X0:=((List iG))×(Int×eh)
def aU.L0.eR:aU.L0.X0->Exit×AS:=λx=>(.ret,⟨(bE 4 ([.d ti x.2.1]++bE 14 [])),[.obj 0 false (.vec 52 jL x.1),.obj 0 false (.d dI x.2.2)],(List.replicate 19 [])⟩)
abbrev aU.L0.Y1:=eh
abbrev aU.L0.X1:=((List iG))×(eh)
def aU.L0.iZ:aU.L0.X1->Exit×AS:=λx=>(.exit 0,⟨(bE 19 []),[.obj 0 false (.vec 52 jL x.1),.obj 0 false (.d dI x.2)],(List.replicate 19 [])⟩)
abbrev aU.L0.X:=(aU.L0.X0)⊕(aU.L0.X1)
abbrev aU.L0.Y:=(aU.L0.Y0)⊕(aU.L0.Y1)
def aU.L0.out:aU.L0.X->Out (Exit×AS):=λx=> .br x.isLeft (.get x.getLeft? λa=> .ok (aU.L0.eR a)) (.get x.getRight? λb=> .ok (aU.L0.iZ b))
def aU.L0.add:aU.L0.D->aU.L0.Y->aU.L0.X:=λ(GN,t7,t8,vz,Ew) y=>match y with | .inl y=> .inl (vz,y) | .inr z=> .inr ((vz,z))
abbrev aU.D:=Nat×(List iG)×eh
abbrev aU.Y:=Int×(List iG)×eh
def aU.L0.bf:aU.L0.D->Prop:=λ(m,n,i,l,_)=>l.length<=1000000000/\m=l.length/\n=l.length/\∃k:Nat,k<=l.length/\i=k
def aU.L0.F:aU.L0.D->aU.L0.Y:=λ(_,_,i,l,x)=>match vg (mZ x) (l.drop i.toNat) i with | .inl j=> .inl (j,x) | .inr _=> .inr x
def aU.bf:aU.D->Prop:=λ(m,l,_)=>l.length<=1000000000/\m=l.length
def aU.F:aU.D->aU.Y:=λ(_,l,x)=>(Gl (mZ x) l,l,x)
def aU.L0.E:=eS.jG aU.L0.st aU.L0.bf aU.L0.add aU.L0.F aU.L0.out
def aU.L0.call:aU.L0.D->Option aU.L0.X:=mz aU.L0.E aU.L0.st
def aU:Fs Tryz.prog aU.bf bS aU.F:=fS 234 Tryz.f234 (λ(sL,o0,o1)=>([.cv (.c8 0) 0 [] 0 0 sL,.fn 172 (.cons (.ptr (.c8 1) 0 [] 0) (.nil))],[.obj 0 false (.vec 52 jL o0),.obj 0 false (.d dI o1)])) (λx=>⟨.d ti x.1,[.obj 0 false (.vec 52 jL x.2.1),.obj 0 false (.d dI x.2.2)],[]⟩) [none,none] [kf.sg] {loops:=qP [(2,{bI:=[0,1,7,8]})],outs:=qO [(2,{},{bI:=[4]})],jK:=sm [(2,aU.L0.E)]}
def aU.L0.R:= @jC Tryz.prog (oO aU.G) aU.an 0 Tryz.f234 0 _ aU.L0.st
abbrev aU.L0.Ok:=qq Tryz.prog (oO aU.G) aU.an 0 Tryz.f234 0 aU.L0.st aU.L0.bf aU.L0.add aU.L0.F aU.L0.out
theorem aU.L0.run:o9 aU.L0.call aU.L0.bf aU.L0.add aU.L0.F:=rW (rT [.n,.d ti,.d ti,.d (.slice jL),.d dI] λ_=>by kernel_rfl)
theorem aU.L0.dA:rM @aU.L0.R aU.L0.st aU.L0.bf aU.L0.add aU.L0.F aU.L0.out aU.L0.Ok:=sI
theorem aU.L0.step{R:Type}(GN:Nat)(t7:Int)(t8:Int)(vz:(List iG))(Ew:eh)(kn:AS->Option R)(kx:Exit->AS->Option R):aU.L0.R (GN,t7,t8,vz,Ew) kn kx=
  aO ((ju t8 t7)) (
   aO (gK t8 ((GN:Nat):Int)) (
   aO (decide ((0+(Int.toNat t8)) < (List.length vz))) (
   aO (decide ((((0+(Int.toNat t8))*36)+0)=(0+((Int.toNat t8)*36)))) (
   aA (kf.call ((nth jL vz (0+(Int.toNat t8))),Ew)) λx1=>
   aO (x1.2) (
    kx (aU.L0.eR (vz,(t8,x1.1))).1 (aU.L0.eR (vz,(t8,x1.1))).2) (
    kn (aU.L0.st (GN,t7,(bW .i64 t8 (1:Int)),vz,x1.1)))) none) none) none) (
   kx (aU.L0.iZ (vz,Ew)).1 (aU.L0.iZ (vz,Ew)).2):=by kernel_rfl
theorem aU.eq{R:Type}(sL o0 o1)(k:K1 R):aU.A (sL,o0,o1) k=
  aA (aU.L0.call (sL,((sL:Nat):Int),0,o0,o1)) λx2=>
  aO (x2.isLeft) (
   aA (x2.getLeft?) λa3=>
   k (aU.out (a3.2.1,a3.1,a3.2.2))) (
   aA (x2.getRight?) λb4=>
   k (aU.out ((-1),b4.1,b4.2))):=by kernel_rfl
theorem aU.L0.ok:aU.L0.Ok:=by
 refine aU.L0.dA (λ(_,_,i,l,_)=>l.length - i.toNat) ?_
 rintro⟨m,n,i,l,x⟩ ⟨hb,rfl,rfl,k,hk,rfl⟩
 have hb:l.length<=1000000000:=hb
 have hk:k<=l.length:=hk
 by_cases h:k < l.length
 ·have n1:nth jL l k=l[k]:=dR (t:=jL) h
  have hd:vg (mZ x) (l.drop k) k=if mZ x l[k] then .inl (k:Int) else vg (mZ x) (l.drop (k+1)) ((k+1:Nat):Int):=by rw[aB h];rfl
  have step:∀ {R:Type} (kn:AS->Option R) (kx:Exit->AS->Option R),aU.L0.R (l.length,(l.length:Int),(k:Int),l,x) kn kx=aO (mZ x l[k]) (kx (aU.L0.eR (l,((k:Int),x))).1 (aU.L0.eR (l,((k:Int),x))).2) (kn (aU.L0.st (l.length,(l.length:Int),((k+1:Nat):Int),l,x))):=by
   intro R kn kx
   rw[aU.L0.step,bq (by omega),aj,bM (by omega) (by omega),aj]
   simp only[aa,aR,ct,aY h,aj,decide_true,n1]
   rw[kf.run (d:=(l[k],x)) trivial]
   simp only[ah,kf.add,kf.F]
   rw[N.rO (by omega)]
  cases hp:mZ x l[k]
  ·left
   refine⟨(l.length,(l.length:Int),((k+1:Nat):Int),l,x),⟨hb,rfl,rfl,k+1,by omega,rfl⟩,by simp only[aa];omega,?_,λkn kx=> ?_⟩
   ·simp only[aU.L0.add,aU.L0.F,aa,hd,hp,bN,if_false]
   ·rw[step,hp,aq]
  ·right
   refine⟨aU.L0.eR (l,((k:Int),x)),?_,λkn kx=> ?_⟩
   ·simp only[aU.L0.add,aU.L0.F,aa,hd,hp,if_true]
    rfl
   ·rw[step,hp,aj]
 ·right
  obtain rfl:k=l.length:=by omega
  refine⟨aU.L0.iZ (l,x),?_,λkn kx=> ?_⟩
  ·simp only[aU.L0.add,aU.L0.F,aa,bG]
   rfl
  ·rw[aU.L0.step,bn (by omega),aq]
theorem aU.ok:aU.Ok:=by
 rintro⟨m,l,x⟩ ⟨hb,rfl⟩
 rw[aU.eq,aU.L0.run (d:=(l.length,(l.length:Int),0,l,x)) ⟨hb,rfl,rfl,0,bj _,rfl⟩]
 simp only[ah,aU.L0.add,aU.L0.F,cV,aL,bS,aU.F,Gl]
 cases vg (mZ x) l 0 <;> rfl
theorem aU.run:aU.RS:=rE [.n,.d (.slice jL),.d dI] aU
def aU.sg:=aU.gl aU.ok 1 ⟨.jG aU.L0.ok,trivial⟩
abbrev fI.D:=Nat×(List iG)×eh
abbrev fI.Y:=Bool×(List iG)×eh
def fI.bf:fI.D->Prop:=λ(m,l,_)=>l.length<=1000000000/\m=l.length
def fI.F:fI.D->fI.Y:=λ(_,l,x)=>(l.any (mZ x),l,x)
def fI:Fs Tryz.prog fI.bf bS fI.F:=fS 171 Tryz.f171 (λ(sL,o0,o1)=>([.cv (.c8 0) 0 [] 0 0 sL,.fn 172 (.cons (.ptr (.c8 1) 0 [] 0) (.nil))],[.obj 0 false (.vec 52 jL o0),.obj 0 false (.d dI o1)])) (λx=>⟨.d .bool x.1,[.obj 0 false (.vec 52 jL x.2.1),.obj 0 false (.d dI x.2.2)],[]⟩) [none,none] [aU.sg]
theorem fI.eq{R:Type}(sL o0 o1)(k:K1 R):fI.A (sL,o0,o1) k=
 aA (aU.call (sL,o0,o1)) λx1=>
 k (fI.out ((pN x1.1 0),x1.2.1,x1.2.2)):=by kernel_rfl
theorem fI.ok:fI.Ok:=by
 rintro⟨m,l,x⟩ h
 rw[fI.eq,aU.run (d:=(m,l,x)) h]
 simp only[ah,bS,aU.F,Cr]
 rfl
theorem fI.run:fI.RS:=rE [.n,.d (.slice jL),.d dI] fI
def fI.sg:=fI.gl fI.ok
abbrev ba.L0.D:=(List eh)×Bs×Int×Lk×Int×(List eh)×Int×Int×(Int×Unit)×Nat×(Int×Unit)×(List iG)
def ba.L0.st:ba.L0.D->AS:=λ(sk,wI,vV,Dq,sum,t41,t42,t43,n8,yg,n10,Mh)=>⟨([.d (.slice dI) sk,.d tU wI,.undef,.d ti vV,.undef,.undef,.eW wN Dq,.undef,.ptr (.new 8 0) 0 [] 0,.undef,.ptr (.new 10 0) 0 [] 0,.d ti sum]++bE 29 ([.d (.slice dI) t41,.d ti t42,.d ti t43]++bE 90 [])),[],(cS 8 ([[.obj 0 false (.pr (.c6) (.pr (.c6) (.d (.pair ti .unit) n8)))],[],[.obj 0 false (.pr (.cv (.new 88 0) 0 [] 0 0 yg) (.pr (.c6) (.d (.pair ti .unit) n10)))]]++cS 77 ([[.obj 0 false (.vec 52 jL Mh)]]++cS 45 [])))⟩
abbrev ba.L0.Y0:=(Int×Unit)
abbrev ba.L0.X0:=(Int×Unit)
def ba.L0.eR:ba.L0.X0->Exit×AS:=λx=>(.ret,⟨(bE 8 ([.ptr (.new 8 0) 0 [] 0,.d ti (1:Int)]++bE 124 [])),[],(cS 8 ([[.obj 0 false (.pr (.c6) (.pr (.c6) (.d (.pair ti .unit) x)))]]++cS 125 []))⟩)
abbrev ba.L0.Y1:=Int×Nat×(List iG)
abbrev ba.L0.X1:=((List eh)×Bs×Int×Lk×(Int×Unit)×(Int×Unit))×(Int×Nat×(List iG))
def ba.L0.iZ:ba.L0.X1->Exit×AS:=λx=>(.exit 0,⟨([.d (.slice dI) x.1.1,.d tU x.1.2.1,.undef,.d ti x.1.2.2.1,.undef,.undef,.eW wN x.1.2.2.2.1,.undef,.ptr (.new 8 0) 0 [] 0,.undef,.ptr (.new 10 0) 0 [] 0,.d ti x.2.1]++bE 122 []),[],(cS 8 ([[.obj 0 false (.pr (.c6) (.pr (.c6) (.d (.pair ti .unit) x.1.2.2.2.2.1)))],[],[.obj 0 false (.pr (.cv (.new 88 0) 0 [] 0 0 x.2.2.1) (.pr (.c6) (.d (.pair ti .unit) x.1.2.2.2.2.2)))]]++cS 77 ([[.obj 0 false (.vec 52 jL x.2.2.2)]]++cS 45 [])))⟩)
abbrev ba.L0.X:=(ba.L0.X0)⊕(ba.L0.X1)
abbrev ba.L0.Y:=(ba.L0.Y0)⊕(ba.L0.Y1)
def ba.L0.out:ba.L0.X->Out (Exit×AS):=λx=> .br x.isLeft (.get x.getLeft? λa=> .ok (ba.L0.eR a)) (.get x.getRight? λb=> .ok (ba.L0.iZ b))
def ba.L0.add:ba.L0.D->ba.L0.Y->ba.L0.X:=λ(sk,wI,vV,Dq,sum,t41,t42,t43,n8,yg,n10,Mh) y=>match y with | .inl y=> .inl y | .inr z=> .inr (((sk,wI,vV,Dq,n8,n10),z))
abbrev ba.L1.D:=Bs×(List eh)×Int×Int×(Int×Unit)×jh
def ba.L1.st:ba.L1.D->AS:=λ(Em,t106,t107,t108,CO,yh)=>⟨([.undef,.d tU Em]++bE 6 ([.ptr (.new 8 0) 0 [] 0,.undef,.ptr (.new 10 0) 0 [] 0]++bE 95 ([.d (.slice dI) t106,.d ti t107,.d ti t108]++bE 25 []))),[],(cS 8 ([[.obj 0 false (.pr (.c6) (.pr (.c6) (.d (.pair ti .unit) CO)))],[],[.obj 0 false (.d nU yh)]]++cS 123 []))⟩
abbrev ba.L1.Y0:=Int×(Int×Unit)
abbrev ba.L1.X0:=Int×(Int×Unit)
def ba.L1.eR:ba.L1.X0->Exit×AS:=λx=>(.ret,⟨(bE 8 ([.ptr (.new 8 0) 0 [] 0,.d ti x.1]++bE 124 [])),[],(cS 8 ([[.obj 0 false (.pr (.c6) (.pr (.c6) (.d (.pair ti .unit) x.2)))]]++cS 125 []))⟩)
abbrev ba.L1.Y1:=jh
abbrev ba.L1.X1:=((Int×Unit))×(jh)
def ba.L1.iZ:ba.L1.X1->Exit×AS:=λx=>(.exit 2,⟨(bE 8 ([.ptr (.new 8 0) 0 [] 0,.undef,.ptr (.new 10 0) 0 [] 0]++bE 123 [])),[],(cS 8 ([[.obj 0 false (.pr (.c6) (.pr (.c6) (.d (.pair ti .unit) x.1)))],[],[.obj 0 false (.d nU x.2)]]++cS 123 []))⟩)
abbrev ba.L1.X:=(ba.L1.X0)⊕(ba.L1.X1)
abbrev ba.L1.Y:=(ba.L1.Y0)⊕(ba.L1.Y1)
def ba.L1.out:ba.L1.X->Out (Exit×AS):=λx=> .br x.isLeft (.get x.getLeft? λa=> .ok (ba.L1.eR a)) (.get x.getRight? λb=> .ok (ba.L1.iZ b))
def ba.L1.add:ba.L1.D->ba.L1.Y->ba.L1.X:=λ(Em,t106,t107,t108,CO,yh) y=>match y with | .inl y=> .inl y | .inr z=> .inr ((CO,z))
abbrev ba.D:=(List eh)×Bs×Lk×Int
abbrev ba.Y:=jh×Int
def EZ:jh:=(([]:List iG),(([]:List lS),((0:Int),())))
def zh(x:eh):iG:=(x.1,(((0:Int),(([]:List Sg),((0:Int),()))),()))
def Gu(s:Int)(ins:List iG)(x:eh)(k:Int):Bool:=oT s x.2.1.1 && (!(ins.any (mZ x)) && decide (k≠0/\k < 2305843009213688669))
def qk:Int->List iG->List eh->List Int->Option (Int×List iG)
 |s,ins,x::l,k::ks=>if Gu s ins x k=true then qk (s+x.2.1.1) (ins++ [zh x]) l ks else none
 |s,ins,_,_=>some (s,ins)
def sA:jh->Nat->List eh->List Int->jh⊕Int
 |t,i,x::l,k::ks=>if(nq t i x.2.2.1 [k] x.2.2.2.1).2=0 then sA (nq t i x.2.2.1 [k] x.2.2.2.1).1 (i+1) l ks else .inr (nq t i x.2.2.1 [k] x.2.2.2.1).2
 |t,_,_,_=> .inl t
def tY(l:List eh)(ks:List Int)(to:Lk)(iE:Int):jh×Int:=
 if 1<=l.length/\l.length<=64/\l.length=ks.length/\oR to=true then
  match qk 0 [] l ks with
  |none=>(EZ,1)
  |some r=>if iE < 0\/iE > r.1 then(EZ,8) else match sA (r.2,([(r.1 - iE,(to,()))],((0:Int),()))) 0 l ks with | .inl t=>(t,0) | .inr e=>(EZ,e)
 else(EZ,1)
def KY(x:eh):Prop:=Sm x.1.1/\ku x.2.2.2.1
def ba.L0.bf:ba.L0.D->Prop:=λ(_,ks,_,_,s,l,n,i,_,m,_,ins)=>l.length<=64/\l.length=ks.length/\n=(l.length:Int)/\m=ins.length/\∃k:Nat,k<=l.length/\i=k/\ins.length<=k
def ba.L0.F:ba.L0.D->ba.L0.Y:=λ(_,ks,_,_,s,l,_,i,_,_,_,ins)=>match qk s ins (l.drop i.toNat) (ks.drop i.toNat) with
 |none=> .inl ((0:Int),())
 |some r=> .inr (r.1,r.2.length,r.2)
def ba.L1.bf:ba.L1.D->Prop:=λ(ks,l,n,i,_,t)=>Bz t/\(∀x∈l,ku x.2.2.2.1)/\(∀k∈ks,ku k)/\l.length<=64/\l.length=ks.length/\n=(l.length:Int)/\∃k:Nat,k<=l.length/\i=k
def ba.L1.F:ba.L1.D->ba.L1.Y:=λ(ks,l,_,i,_,t)=>match sA t i.toNat (l.drop i.toNat) (ks.drop i.toNat) with
 | .inl t=> .inr t
 | .inr e=> .inl (e,((0:Int),()))
def ba.bf:ba.D->Prop:=λ(l,ks,to,iE)=>(∀x∈l,KY x)/\(∀k∈ks,ku k)/\IY to/\l.length<=1000000000/\ks.length<=1000000000/\(-1125899906842624<=iE/\iE<=9223372036854775807)
def ba.F:ba.D->ba.Y:=λ(l,ks,to,iE)=>tY l ks to iE
def ba.L0.E:=eS.jG ba.L0.st ba.L0.bf ba.L0.add ba.L0.F ba.L0.out
def ba.L0.call:ba.L0.D->Option ba.L0.X:=mz ba.L0.E ba.L0.st
def ba.L1.E:=eS.jG ba.L1.st ba.L1.bf ba.L1.add ba.L1.F ba.L1.out
def ba.L1.call:ba.L1.D->Option ba.L1.X:=mz ba.L1.E ba.L1.st
def ba:Fs Tryz.prog ba.bf bS ba.F:=fS 114 Tryz.f114 (λ(l,ks,to,iE)=>([.d (.slice dI) l,.d tU ks,.d wN to,.d ti iE],[])) (λx=>⟨.cons (.d nU x.1) (.cons (.d ti x.2) (.nil)),[],[]⟩) [some (.slice dI),some tU,some wN,some ti] [aK.sg,jc.sg,fI.sg,eB.sg,cY.sg] {loops:=qP [(6,{bI:=[0,1,3,6,8,10,11,41,42,43],sites:=[8,10,88],owns:=[⟨10,[.fst],88,38⟩]}),(19,{bI:=[1,8,10,106,107,108],sites:=[8,10],DY:=[⟨10,[.arr],nU⟩]})],outs:=qO [(6,{bI:=[0,1,3,6,8,10,11],sites:=[8,10,88]},{bI:=[8,9],sites:=[8]}),(19,{bI:=[8,10],sites:=[8,10]},{bI:=[8,9],sites:=[8]})],jK:=sm [(6,ba.L0.E),(19,ba.L1.E)],res:=[some nU,none]}
def ba.L0.R:= @jC Tryz.prog (oO ba.G) ba.an 0 Tryz.f114 0 _ ba.L0.st
abbrev ba.L0.Ok:=qq Tryz.prog (oO ba.G) ba.an 0 Tryz.f114 0 ba.L0.st ba.L0.bf ba.L0.add ba.L0.F ba.L0.out
def ba.L1.R:= @jC Tryz.prog (oO ba.G) ba.an 0 Tryz.f114 1 _ ba.L1.st
abbrev ba.L1.Ok:=qq Tryz.prog (oO ba.G) ba.an 0 Tryz.f114 1 ba.L1.st ba.L1.bf ba.L1.add ba.L1.F ba.L1.out
theorem ba.L0.run:o9 ba.L0.call ba.L0.bf ba.L0.add ba.L0.F:=rW (rT [.d (.slice dI),.d tU,.d ti,.d wN,.d ti,.d (.slice dI),.d ti,.d ti,.d (.pair ti .unit),.n,.d (.pair ti .unit),.d (.slice jL)] λ_=>by kernel_rfl)
theorem ba.L0.dA:rM @ba.L0.R ba.L0.st ba.L0.bf ba.L0.add ba.L0.F ba.L0.out ba.L0.Ok:=sI
theorem ba.L0.step{R:Type}(sk:(List eh))(wI:Bs)(vV:Int)(Dq:Lk)(sum:Int)(t41:(List eh))(t42:Int)(t43:Int)(n8:(Int×Unit))(yg:Nat)(n10:(Int×Unit))(Mh:(List iG))(kn:AS->Option R)(kx:Exit->AS->Option R):ba.L0.R (sk,wI,vV,Dq,sum,t41,t42,t43,n8,yg,n10,Mh) kn kx=
  aO ((ju t43 t42)) (
   aO (gK t43 (((List.length t41):Nat):Int)) (
   aA (jc.call (sum,(nth dI t41 (Int.toNat t43)).2.1.1)) λx1=>
   aA (fI.call (yg,Mh,(nth dI t41 (Int.toNat t43)))) λx2=>
   aO ((!x1.2)) (
    kx (ba.L0.eR ((0:Int),())).1 (ba.L0.eR ((0:Int),())).2) (
    aO (x2.1) (
     kx (ba.L0.eR ((0:Int),())).1 (ba.L0.eR ((0:Int),())).2) (
     aO (gK t43 (((List.length wI):Nat):Int)) (
     aO ((Ac (nth tu wI (Int.toNat t43)) (0:Int))) (
      kx (ba.L0.eR ((0:Int),())).1 (ba.L0.eR ((0:Int),())).2) (
      aO (gK t43 (((List.length wI):Nat):Int)) (
      aA (eB.call (nth tu wI (Int.toNat t43))) λx3=>
      aO ((!x3)) (
       kx (ba.L0.eR ((0:Int),())).1 (ba.L0.eR ((0:Int),())).2) (
       aO (decide (yg<=(List.length x2.2.1))) (
       aO (dK (yg+1) 80) (
       kn (ba.L0.st (sk,wI,vV,Dq,x1.1,t41,t42,(bW .i64 t43 (1:Int)),n8,(yg+1),n10,((List.take yg x2.2.1)++ [(x2.2.2.1,(((0:Int),(([]:List Sg),((0:Int),()))),()))])))) none) none)) none)) none))) none) (
   kx (ba.L0.iZ ((sk,wI,vV,Dq,n8,n10),(sum,yg,Mh))).1 (ba.L0.iZ ((sk,wI,vV,Dq,n8,n10),(sum,yg,Mh))).2):=by kernel_rfl
theorem ba.L1.run:o9 ba.L1.call ba.L1.bf ba.L1.add ba.L1.F:=rW (rT [.d tU,.d (.slice dI),.d ti,.d ti,.d (.pair ti .unit),.d nU] λ_=>by kernel_rfl)
theorem ba.L1.dA:rM @ba.L1.R ba.L1.st ba.L1.bf ba.L1.add ba.L1.F ba.L1.out ba.L1.Ok:=sI
theorem ba.L1.step{R:Type}(Em:Bs)(t106:(List eh))(t107:Int)(t108:Int)(CO:(Int×Unit))(yh:jh)(kn:AS->Option R)(kx:Exit->AS->Option R):ba.L1.R (Em,t106,t107,t108,CO,yh) kn kx=
  aO ((ju t108 t107)) (
   aO (gK t108 (((List.length t106):Nat):Int)) (
   aO (gK t108 (((List.length Em):Nat):Int)) (
   aA (cY.call (yh,t108,(nth dI t106 (Int.toNat t108)).2.2.1,[(nth tu Em (Int.toNat t108))],(nth dI t106 (Int.toNat t108)).2.2.2.1)) λx1=>
   aO ((wV x1.2 (0:Int))) (
    kx (ba.L1.eR (x1.2,((0:Int),()))).1 (ba.L1.eR (x1.2,((0:Int),()))).2) (
    kn (ba.L1.st (Em,t106,t107,(bW .i64 t108 (1:Int)),CO,x1.1)))) none) none) (
   kx (ba.L1.iZ (CO,yh)).1 (ba.L1.iZ (CO,yh)).2):=by kernel_rfl
theorem ba.eq{R:Type}(l ks to iE)(k:K1 R):ba.A (l,ks,to,iE) k=
  aO ((ju (l.length:Int) 1)) (
   k (ba.out ((([]:List iG),(([]:List lS),(0,()))),1))) (
   aO ((pv (l.length:Int) 64)) (
    k (ba.out ((([]:List iG),(([]:List lS),(0,()))),1))) (
    aO ((wV (l.length:Int) (ks.length:Int))) (
     k (ba.out ((([]:List iG),(([]:List lS),(0,()))),1))) (
     aA (aK.call to) λx1=>
     aO ((!x1)) (
      k (ba.out ((([]:List iG),(([]:List lS),(0,()))),1))) (
      aA (ba.L0.call (l,ks,iE,to,0,l,(l.length:Int),0,(0,()),0,(0,()),([]:List iG))) λx5=>
      aO (x5.isLeft) (
       aA (x5.getLeft?) λa6=>
       k (ba.out ((([]:List iG),(([]:List lS),a6)),1))) (
       aA (x5.getRight?) λb7=>
       aO ((ju b7.1.2.2.1 0)) (
        k (ba.out ((([]:List iG),(([]:List lS),(0,()))),8))) (
        aO ((pv b7.1.2.2.1 b7.2.1)) (
         k (ba.out ((([]:List iG),(([]:List lS),(0,()))),8))) (
         aO (decide (0=0/\(0+b7.2.2.1)<=(List.length b7.2.2.2))) (
         aA (ba.L1.call (b7.1.2.1,b7.1.1,(b7.1.1.length:Int),0,b7.1.2.2.2.2.1,((cut b7.2.2.2 0 b7.2.2.1),([((df .i64 b7.2.1 b7.1.2.2.1),(b7.1.2.2.2.1,()))],b7.1.2.2.2.2.2)))) λx9=>
         aO (x9.isLeft) (
          aA (x9.getLeft?) λa10=>
          k (ba.out ((([]:List iG),(([]:List lS),a10.2)),a10.1))) (
          aA (x9.getRight?) λb11=>
          k (ba.out (b11.2,0)))) none))))))):=by kernel_rfl
theorem J3{t:jh}{i br sc:Int}{ks:List Int}(hv:Bz t)(hs:ku sc)(h:(nq t i br ks sc).2=0):Bz (nq t i br ks sc).1/\oG t i br ks=true:=by
 rw[Da]at h ⊢
 by_cases e:oG t i br ks=true
 ·rw[if_pos e]
  exact⟨(IE hv e hs).2.1,e⟩
 ·rw[if_neg e]at h
  exact absurd h (by decide)
theorem Fe:∀(l:List eh) (ks:List Int) (s:Int) (ins:List iG) {r:Int×List iG},l.length=ks.length->0<=s->s<=1125899906842624->qk s ins l ks=some r->0<=r.1/\r.1<=1125899906842624/\r.2=ins++l.map zh
 |[],ks,s,ins,r,hl,h0,h1,h=>by
  have:ks=[]:=aJ hl.symm
  subst this
  obtain rfl:=aN h
  exact⟨h0,h1,by simp⟩
 |x::l,[],s,ins,r,hl,_,_,h=>by cases hl
 |x::l,k::ks,s,ins,r,hl,h0,h1,h=>by
  unfold qk at h
  by_cases ho:Gu s ins x k=true
  ·rw[if_pos ho]at h
   unfold Gu oT lq at ho
   simp only[ae,decide_eq_true_eq]at ho
   obtain⟨⟨o1,o2,o3⟩,_⟩:=ho
   obtain⟨i1,i2,i3⟩:=Fe l ks _ _ (Nat.succ.inj hl) (by omega) (by omega) h
   exact⟨i1,i2,by rw[i3];simp⟩
  ·rw[if_neg ho]at h;cases h
theorem ba.L0.ok:ba.L0.Ok:=by
 refine ba.L0.dA (λ(_,_,_,_,_,l,_,i,_,_,_,_)=>l.length - i.toNat) ?_
 rintro⟨l0,ks,iE,to,s,l,n,i,z,m,z2,ins⟩ ⟨hl,Co,rfl,rfl,k,hk,rfl,hi⟩
 have hl:l.length<=64:=hl
 have Co:l.length=ks.length:=Co
 have hk:k<=l.length:=hk
 have hi:ins.length<=k:=hi
 by_cases h:k < l.length
 ·have hq:k < ks.length:=by omega
  have n1:nth dI l k=l[k]:=dR (t:=dI) h
  have n2:nth tu ks k=ks[k]:=dR (t:=tu) hq
  have hd:l.drop k=l[k]::l.drop (k+1):=aB h
  have OM:ks.drop k=ks[k]::ks.drop (k+1):=aB hq
  have ca:=jc.run (d:=(s,l[k].2.1.1)) trivial
  have ci:=fI.run (d:=(ins.length,ins,l[k])) ⟨by show ins.length<=_;omega,rfl⟩
  have cf:=eB.run (d:=ks[k]) trivial
  by_cases ho:Gu s ins l[k] ks[k]=true
  ·left
   have NY:=ho
   unfold Gu at NY
   simp only[ae,decide_eq_true_eq,bt]at NY
   obtain⟨o1,o2,o3,o4⟩:=NY
   refine⟨(l0,ks,iE,to,s+l[k].2.1.1,l,(l.length:Int),((k+1:Nat):Int),z,ins.length+1,z2,ins++ [zh l[k]]),⟨hl,Co,rfl,by simp,k+1,by omega,rfl,by rw[au];show ins.length+1<=_;omega⟩,by simp only[aa];omega,?_,λkn kx=> ?_⟩
   ·simp only[ba.L0.add,ba.L0.F,aa,hd,OM]
    rw[show qk s ins (l[k]::l.drop (k+1)) (ks[k]::ks.drop (k+1))=qk (s+l[k].2.1.1) (ins++ [zh l[k]]) (l.drop (k+1)) (ks.drop (k+1)) by rw[qk,if_pos ho]]
   ·rw[ba.L0.step,bq (by omega),aj,bM (by omega) (by omega),aj]
    simp only[aa,n1,n2]
    rw[ca]
    simp only[ah,bS,jc.F]
    rw[ci]
    simp only[ah,bS,fI.F,o1,o2,cz,aq,cond_true]
    rw[bM (by omega) (by omega),aj,gP o3,aq,aj,cf]
    simp only[ah,bS,eB.F]
    rw[bq o4,cz,aq,aY (aw _),aj,fN (by omega) (by omega),aj,cX,N.rO (by omega)]
    rfl
  ·right
   refine⟨ba.L0.eR ((0:Int),()),?_,λkn kx=> ?_⟩
   ·simp only[ba.L0.add,ba.L0.F,aa,hd,OM]
    rw[show qk s ins (l[k]::l.drop (k+1)) (ks[k]::ks.drop (k+1))=none by rw[qk,if_neg ho]]
    rfl
   ·rw[ba.L0.step,bq (by omega),aj,bM (by omega) (by omega),aj]
    simp only[aa,n1,n2]
    rw[ca]
    simp only[ah,bS,jc.F]
    rw[ci]
    simp only[ah,bS,fI.F]
    unfold Gu at ho
    cases o1:oT s l[k].2.1.1 with
    |false=>rw[dG,aj]
    |true=>
     rw[o1,ck]at ho
     rw[cz,aq]
     cases o2:ins.any (mZ l[k]) with
     |true=>rw[aj]
     |false=>
      rw[o2,dG,ck,decide_eq_true_eq]at ho
      rw[aq,bM (by omega) (by omega),aj]
      by_cases o3:ks[k]=0
      ·rw[ja o3,aj]
      ·rw[gP o3,aq,aj,cf]
       simp only[ah,bS,eB.F]
       rw[bn (λe=>ho ⟨o3,e⟩),dG,aj]
 ·right
  obtain rfl:k=l.length:=by omega
  refine⟨ba.L0.iZ ((l0,ks,iE,to,z,z2),(s,ins.length,ins)),?_,λkn kx=> ?_⟩
  ·simp only[ba.L0.add,ba.L0.F,aa,bG]
   rfl
  ·rw[ba.L0.step,bn (by omega),aq]
theorem ba.L1.ok:ba.L1.Ok:=by
 refine ba.L1.dA (λ(_,l,_,i,_,_)=>l.length - i.toNat) ?_
 rintro⟨ks,l,n,i,z,t⟩ ⟨hv,hx,hu,hl,Co,rfl,k,hk,rfl⟩
 have hv:Bz t:=hv
 have hl:l.length<=64:=hl
 have Co:l.length=ks.length:=Co
 have hk:k<=l.length:=hk
 by_cases h:k < l.length
 ·have hq:k < ks.length:=by omega
  have n1:nth dI l k=l[k]:=dR (t:=dI) h
  have n2:nth tu ks k=ks[k]:=dR (t:=tu) hq
  have hd:l.drop k=l[k]::l.drop (k+1):=aB h
  have OM:ks.drop k=ks[k]::ks.drop (k+1):=aB hq
  have hs:=hx _ (b6 h)
  have c1:cY.call (t,(k:Int),l[k].2.2.1,[ks[k]],l[k].2.2.2.1)=some (nq t k l[k].2.2.1 [ks[k]] l[k].2.2.2.1):=cY.run (d:=(t,(k:Int),l[k].2.2.1,[ks[k]],l[k].2.2.2.1)) ⟨hv,λx hx=>by rw[bD.1 hx];exact hu _ (b6 hq),by show 1<=1000000000;decide⟩
  have tP:(nq t k l[k].2.2.1 [ks[k]] l[k].2.2.2.1).2=0->Bz (nq t k l[k].2.2.1 [ks[k]] l[k].2.2.2.1).1:=λhz=>(J3 hv hs hz).1
  have e:sA t k (l.drop k) (ks.drop k)=if(nq t k l[k].2.2.1 [ks[k]] l[k].2.2.2.1).2=0 then sA (nq t k l[k].2.2.1 [ks[k]] l[k].2.2.2.1).1 (k+1) (l.drop (k+1)) (ks.drop (k+1)) else .inr (nq t k l[k].2.2.1 [ks[k]] l[k].2.2.2.1).2:=by rw[hd,OM,sA]
  generalize nq t k l[k].2.2.1 [ks[k]] l[k].2.2.2.1=r at c1 tP e
  have step:∀ {R:Type} (kn:AS->Option R) (kx:Exit->AS->Option R),ba.L1.R (ks,l,(l.length:Int),(k:Int),z,t) kn kx=aO (wV r.2 0) (kx (ba.L1.eR (r.2,((0:Int),()))).1 (ba.L1.eR (r.2,((0:Int),()))).2) (kn (ba.L1.st (ks,l,(l.length:Int),((k+1:Nat):Int),z,r.1))):=by
   intro R kn kx
   rw[ba.L1.step,bq (by omega),aj,bM (by omega) (by omega),aj,bM (by omega) (by omega),aj]
   simp only[aa,n1,n2]
   rw[c1,ah,N.rO (by omega)]
  by_cases hz:r.2=0
  ·left
   refine⟨(ks,l,(l.length:Int),((k+1:Nat):Int),z,r.1),⟨tP hz,hx,hu,hl,Co,rfl,k+1,by omega,rfl⟩,by simp only[aa];omega,?_,λkn kx=> ?_⟩
   ·simp only[ba.L1.add,ba.L1.F,aa,e,if_pos hz]
   ·rw[step,e7 hz,aq]
  ·right
   refine⟨ba.L1.eR (r.2,((0:Int),())),?_,λkn kx=> ?_⟩
   ·simp only[ba.L1.add,ba.L1.F,aa,e,if_neg hz]
    rfl
   ·rw[step,iA hz,aj]
 ·right
  obtain rfl:k=l.length:=by omega
  refine⟨ba.L1.iZ (z,t),?_,λkn kx=> ?_⟩
  ·simp only[ba.L1.add,ba.L1.F,aa,bG]
   rfl
  ·rw[ba.L1.step,bn (by omega),aq]
theorem Of{l:List eh}{to:Lk}{n:Int}(hl:l.length<=64)(hx:∀x∈l,KY x)(y7:IY to):Bz (l.map zh,([(n,(to,()))],((0:Int),()))):=by
 refine⟨⟨λo ho=> ?_,by show(l.map zh).length<=_;rw[cj];omega,by show 1<=_;decide⟩,λx h=> ?_,by show(0:Int)<=_;decide⟩
 ·rw[bD.1 (show o∈ [(n,(to,()))] from ho)]
  exact y7
 ·obtain⟨y,hy,rfl⟩:=cU.1 (show x∈l.map zh from h)
  exact⟨(hx y hy).1,⟨λs hs=>(by cases hs),eo 0,by show(0:Int) < 18446744073709551616;decide⟩,bj _⟩
theorem ba.ok:ba.Ok:=by
 rintro⟨l,ks,to,iE⟩ ⟨hx,hu,y7,Ku,Kt,hf⟩
 have hx:∀x∈l,KY x:=hx
 have y7:IY to:=y7
 have Ku:l.length<=1000000000:=Ku
 have Kt:ks.length<=1000000000:=Kt
 have hf: -1125899906842624<=iE/\iE<=9223372036854775807:=hf
 have z1:((0:Int)).toNat=0:=rfl
 rw[ba.eq]
 simp only[bS,ba.F,tY]
 by_cases a1:1<=l.length
 rotate_left
 ·rw[bq (by omega),aj,if_neg (λe=>a1 e.1)]
  rfl
 rw[bn (by omega),aq]
 by_cases a2:l.length<=64
 rotate_left
 ·rw[db (by omega),aj,if_neg (λe=>a2 e.2.1)]
  rfl
 rw[cR (by omega),aq]
 by_cases a3:l.length=ks.length
 rotate_left
 ·rw[iA (by omega),aj,if_neg (λe=>a3 e.2.2.1)]
  rfl
 rw[e7 (by omega),aq,aK.run (d:=to) ⟨y7.1,y7.2⟩]
 simp only[ah,bS,aK.F]
 cases a4:oR to with
 |false=>
  rw[dG,aj,if_neg (λe=>by cases e.2.2.2)]
  rfl
 |true=>
 rw[cz,aq,if_pos ⟨a1,a2,a3,rfl⟩,ba.L0.run (d:=(l,ks,iE,to,0,l,(l.length:Int),0,(0,()),0,(0,()),[])) ⟨a2,a3,rfl,rfl,0,bj _,rfl,aw _⟩]
 simp only[ah,ba.L0.add,ba.L0.F,z1,aL]
 cases hm:qk 0 [] l ks with
 |none=>rfl
 |some r=>
  obtain⟨r1,r2,r3⟩:=Fe l ks 0 [] a3 (eo 0) (by decide) hm
  simp only[Sum.isLeft_inr,aq,Sum.getRight?_inr,ah]
  by_cases b1:iE < 0
  ·rw[bq b1,aj,if_pos (.inl b1)]
   rfl
  rw[bn b1,aq]
  by_cases b2:iE > r.1
  ·rw[db b2,aj,if_pos (.inr b2)]
   rfl
  rw[cR b2,aq,if_neg (λe=>e.elim b1 b2),aY ⟨trivial,by omega⟩,aj,gR rfl,dM (by omega) (by omega)]
  rw[aT]at r3
  have hv:Bz (r.2,([(r.1 - iE,(to,()))],((0:Int),()))):=by rw[r3];exact Of a2 hx y7
  rw[ba.L1.run (d:=(ks,l,(l.length:Int),0,(0,()),(r.2,([(r.1 - iE,(to,()))],((0:Int),()))))) ⟨hv,λx h=>(hx x h).2,hu,a2,a3,rfl,0,bj _,rfl⟩]
  simp only[ah,ba.L1.add,ba.L1.F,z1,aL]
  generalize sA _ 0 l ks=q
  cases q with
  |inl t=>rfl
  |inr e=>rfl
theorem ba.run:ba.RS:=rE [.d (.slice dI),.d tU,.d wN,.d ti] ba
def ba.sg:=ba.gl ba.ok 2 ⟨.jG ba.L0.ok,⟨.jG ba.L1.ok,trivial⟩⟩
abbrev dr.D:=iD×Bs×Lk×Int×pE×Int
abbrev dr.Y:=jh×Int×Int
def sq(g:iD)(ks:List Int)(to:Lk)(h:Int)(b:pE)(c8:Int):jh×Int×Int:=
 if c8 > 0/\kJ g h b<=c8 then(EZ,0,4) else
 if(if c8 > 0 then imax (kJ g h b) (c8+tt g.1) else kJ g h b) > g.2.2.1 then(EZ,0,13) else
 if(tY g.1 ks to (if c8 > 0 then imax (kJ g h b) (c8+tt g.1) else kJ g h b)).2≠0 then(EZ,0,(tY g.1 ks to (if c8 > 0 then imax (kJ g h b) (c8+tt g.1) else kJ g h b)).2) else((tY g.1 ks to (if c8 > 0 then imax (kJ g h b) (c8+tt g.1) else kJ g h b)).1,(if c8 > 0 then imax (kJ g h b) (c8+tt g.1) else kJ g h b),0)
def dr.bf:dr.D->Prop:=λ(g,ks,to,h,b,c8)=>Kd g/\(0<=h/\h<=9223372036854775807)/\(∀x∈g.1,KY x)/\(∀k∈ks,ku k)/\IY to/\g.1.length<=1000000/\ks.length<=1000000000/\c8<=1125899906842624
def dr.F:dr.D->dr.Y:=λ(g,ks,to,h,b,c8)=>sq g ks to h b c8
def dr:Fs Tryz.prog dr.bf bS dr.F:=fS 50 Tryz.f50 (λ(g,keys,to,atv,b,c8)=>([.d km g,.d tU keys,.d wN to,.d ti atv,.d qe b,.d ti c8],[])) (λx=>⟨.cons (.d nU x.1) (.cons (.d ti x.2.1) (.cons (.d ti x.2.2) (.nil))),[],[]⟩) [some km,some tU,some wN,some ti,some qe,some ti] [jo.sg,bF.sg,ba.sg] {res:=[some nU,none,none]}
theorem dr.eq{R:Type}(g keys to atv b c8)(k:K1 R):dr.A (g,keys,to,atv,b,c8) k=
  aA (jo.call (g,atv,b)) λx1=>
  aO ((pv c8 0)) (
   aO ((Ct x1 c8)) (
    k (dr.out ((([]:List iG),(([]:List lS),(0,()))),0,4))) (
    aA (bF.call g.1) λx2=>
    aO ((pv (imax x1 (bW .i64 c8 x2)) g.2.2.1)) (
     k (dr.out ((([]:List iG),(([]:List lS),(0,()))),0,13))) (
     aA (ba.call (g.1,keys,to,(imax x1 (bW .i64 c8 x2)))) λx3=>
     aO ((wV x3.2 0)) (
      k (dr.out ((([]:List iG),(([]:List lS),(0,()))),0,x3.2))) (
      k (dr.out (x3.1,(imax x1 (bW .i64 c8 x2)),0)))))) (
   aO ((pv x1 g.2.2.1)) (
    k (dr.out ((([]:List iG),(([]:List lS),(0,()))),0,13))) (
    aA (ba.call (g.1,keys,to,x1)) λx4=>
    aO ((wV x4.2 0)) (
     k (dr.out ((([]:List iG),(([]:List lS),(0,()))),0,x4.2))) (
     k (dr.out (x4.1,x1,0))))):=by kernel_rfl
theorem dr.ok:dr.Ok:=by
 rintro⟨g,ks,to,h,b,c8⟩ ⟨hg,hh,hx,hu,y7,hl,hk,ho⟩
 have hl:g.1.length<=1000000:=hl
 have ho:c8<=1125899906842624:=ho
 have hf:=u7 (h:=h) (b:=b) hg
 have hw:=rq g.1
 obtain⟨⟨g1,g2,g3⟩,_⟩:=id hg
 have cm:∀iE:Int,0<=iE->iE<=1125899906842624->ba.call (g.1,ks,to,iE)=some (tY g.1 ks to iE):=λiE h0 h1=>ba.run (d:=(g.1,ks,to,iE)) ⟨hx,hu,y7,by show g.1.length<=_;omega,hk,by show -1125899906842624<=iE;omega,by show iE<=_;omega⟩
 rw[dr.eq,jo.run (d:=(g,h,b)) ⟨hg,hh.1,hh.2⟩]
 simp only[ah,bS,jo.F,bS,dr.F,sq]
 generalize kJ g h b=f at hf
 by_cases a1:c8 > 0
 ·rw[db a1,aj]
  by_cases a2:f<=c8
  ·rw[ki a2,aj,if_pos ⟨a1,a2⟩]
   rfl
  ·rw[iy a2,aq,if_neg (λe=>a2 e.2),bF.run (d:=g.1) (by show g.1.length<=_;omega)]
   simp only[ah,bS,bF.F,if_pos a1]
   rw[eP (x:=c8) (by omega) (by omega)]
   have h1:0<=imax f (c8+tt g.1):=by unfold imax;split <;> omega
   generalize imax f (c8+tt g.1)=q at h1
   by_cases a3:q > g.2.2.1
   ·rw[db a3,aj,if_pos a3]
    rfl
   ·rw[cR a3,aq,if_neg a3,cm q h1 (by omega)]
    simp only[ah]
    generalize tY g.1 ks to q=r
    by_cases a4:r.2=0
    ·rw[e7 a4,aq,if_neg (λe=>e a4)]
    ·rw[iA a4,aj,if_pos a4]
     rfl
 ·rw[cR a1,aq,if_neg (λe=>a1 e.1),if_neg a1]
  by_cases a3:f > g.2.2.1
  ·rw[db a3,aj,if_pos a3]
   rfl
  ·rw[cR a3,aq,if_neg a3,cm f (by omega) (by omega)]
   simp only[ah]
   generalize tY g.1 ks to f=r
   by_cases a4:r.2=0
   ·rw[e7 a4,aq,if_neg (λe=>e a4)]
   ·rw[iA a4,aj,if_pos a4]
    rfl
theorem dr.run:dr.RS:=rE [.d km,.d tU,.d wN,.d ti,.d qe,.d ti] dr
def dr.sg:=dr.gl dr.ok
def mT:List Int:=[152,45,158,62,185,150,245,89,230,51,244,209,148,222,243,118,29,144,159,90,59,100,125,26,133,31,234,214,124,50,201,209]
theorem s3:qo 3 mT=(2066670005889522986,1913675330412042729,()):=by decide+kernel
theorem s5:qo 5 mT=(1601457595092860225,1871270319440231866,()):=by decide+kernel
theorem u0:ku 0:=⟨eo 0,by decide⟩
theorem JM{ks:List Int}(h:zD ks):Ke (gB ks):=λb hb=>by
 have hb:b∈ [(ks,(0:Int),(0:Int),(0:Int),())]:=hb
 rw[bD]at hb
 subst hb
 exact⟨h,u0⟩
theorem OV:wG 0=true:=rfl
theorem Jf(ks:List Int)(a d:Int)(h:ks.length<=12):sH (ks,a,d,0,())=(ks.all vi && (wG a && wG d)):=by
 have e:sH (ks,a,d,0,())=(decide (ks.length<=12) && (ks.all vi && (wG a && (wG d && true)))):=rfl
 rw[e,aY h,ck,j8]
theorem H7(ks:List Int)(h:ks.length<=12):oR (gB ks)=ks.all vi:=by
 have e:oR (gB ks)=((sH (ks,0,0,0,()) && true) && true):=rfl
 rw[e,Jf _ _ _ h,OV,j8,j8,j8,j8]
theorem KR{R:Type}{c:Bool}{x y r:Option R}(h:c=true)(h2:x=r):aO c x y=r:=by rw[h];exact h2
theorem qt{X R:Type}{x:Option X}{a:X}{f:X->Option R}{r:Option R}(h:x=some a)(h2:f a=r):aA x f=r:=by rw[h];exact h2
def oC(n a u:Int):eh:=((List.replicate 32 0,(n,())),((a,(gB [kb (n+2)],())),(0,(0,(0,(u,()))))))
abbrev gW.D:=Int×Int×Int
abbrev gW.Y:=eh
def gW.bf:gW.D->Prop:=λ(n,_,_)=>0<=n/\n<=100
def gW.F:gW.D->gW.Y:=λ(n,a,u)=>oC n a u
def gW:Fs Tryz.prog gW.bf bS gW.F:=fS 97 Tryz.f97 (λ(n,amount,untilv)=>([.d ti n,.d ti amount,.d ti untilv],[])) (λx=>⟨.d dI x,[],[]⟩) [some ti,some ti,some ti] [gk.sg,kR.sg]
theorem gW.eq{R:Type}(n amount untilv)(k:K1 R):gW.A (n,amount,untilv) k=
 aA (gk.call (dF .u64 (bW .i64 n 2))) λx1=>
 aA (kR.call x1) λx2=>
 k (gW.out (((List.replicate 32 0),(n,())),((amount,(x2,())),(0,(0,(0,(untilv,()))))))):=by kernel_rfl
theorem gW.ok:gW.Ok:=by
 rintro⟨n,a,u⟩ ⟨h0,h1⟩
 have h0:0<=n:=h0
 have h1:n<=100:=h1
 have e:dF .u64 (bW .i64 n 2)=n+2:=by rw[eP (by omega) (by omega),vf];omega
 rw[gW.eq,e,gk.run (d:=n+2) ⟨by omega,by omega⟩]
 simp only[ah,bS,gk.F]
 rw[kR.run (d:=kb (n+2)) trivial]
 rfl
theorem gW.run:gW.RS:=rE [.d ti,.d ti,.d ti] gW
def gW.sg:=gW.gl gW.ok
abbrev bB.L0.D:=(List eh)×Int
def bB.L0.st:bB.L0.D->AS:=λ(sk,i)=>⟨([.d (.slice dI) sk,.undef,.undef,.d ti i]++bE 22 []),[],(List.replicate 26 [])⟩
abbrev bB.L0.Y0:=Unit
abbrev bB.L0.X0:=Unit
def bB.L0.eR:bB.L0.X0->Exit×AS:=λx=>(.ret,⟨([.undef,.undef,.d .bool false]++bE 23 []),[],(List.replicate 26 [])⟩)
abbrev bB.L0.Y1:=Unit
abbrev bB.L0.X1:=(List eh)
def bB.L0.iZ:bB.L0.X1->Exit×AS:=λx=>(.exit 0,⟨([.d (.slice dI) x]++bE 25 []),[],(List.replicate 26 [])⟩)
abbrev bB.L0.X:=(bB.L0.X0)⊕(bB.L0.X1)
abbrev bB.L0.Y:=(bB.L0.Y0)⊕(bB.L0.Y1)
def bB.L0.out:bB.L0.X->Out (Exit×AS):=λx=> .br x.isLeft (.get x.getLeft? λa=> .ok (bB.L0.eR a)) (.get x.getRight? λb=> .ok (bB.L0.iZ b))
def bB.L0.add:bB.L0.D->bB.L0.Y->bB.L0.X:=λ(sk,i) y=>match y with | .inl y=> .inl y | .inr z=> .inr (sk)
abbrev bB.D:=(List eh)
abbrev bB.Y:=Bool
def yM(x:eh):Bool:=vJ ([],([x.2.1],((0:Int),())))
def F5(l:List eh):Bool:=(l.take 80).all yM && decide (l.length<=70)
theorem Ly{l:List eh}(h:F5 l=true):l.length<=70/\∀x∈l,OH x.2.1.2.1:=by
 unfold F5 at h
 rw[ae,decide_eq_true_eq]at h
 obtain⟨h1,h2⟩:=h
 rw[bo (by omega)]at h1
 refine⟨h2,λx hx=> ?_⟩
 have:=cG.1 h1 x hx
 unfold yM vJ kk at this
 simp only[fD,List.all_nil,ae,decide_eq_true_eq,cG]at this
 refine⟨by omega,λb hb=> ?_⟩
 have h3:=this.2.2.1.2 b hb
 unfold mo at h3
 have h3:=of_decide_eq_true h3
 omega
def bB.L0.bf:bB.L0.D->Prop:=λ(l,i)=>∃k:Nat,k<=l.length/\k<=80/\i=k
def bB.L0.F:bB.L0.D->bB.L0.Y:=λ(l,i)=>if((l.take 80).drop i.toNat).all yM=true then .inr () else .inl ()
def bB.bf:bB.D->Prop:=λ_=>True
def bB.F:bB.D->bB.Y:=λl=>F5 l
def bB.L0.E:=eS.jG bB.L0.st bB.L0.bf bB.L0.add bB.L0.F bB.L0.out
def bB.L0.call:bB.L0.D->Option bB.L0.X:=mz bB.L0.E bB.L0.st
def bB:Fs Tryz.prog bB.bf bS bB.F:=fS 43 Tryz.f43 (λl=>([.d (.slice dI) l],[])) (λx=>⟨.d .bool x,[],[]⟩) [some (.slice dI)] [ab.sg] {loops:=qP [(2,{bI:=[0,3]})],outs:=qO [(2,{bI:=[0]},{bI:=[2]})],jK:=sm [(2,bB.L0.E)]}
def bB.L0.R:= @jC Tryz.prog (oO bB.G) bB.an 0 Tryz.f43 0 _ bB.L0.st
abbrev bB.L0.Ok:=qq Tryz.prog (oO bB.G) bB.an 0 Tryz.f43 0 bB.L0.st bB.L0.bf bB.L0.add bB.L0.F bB.L0.out
theorem bB.L0.run:o9 bB.L0.call bB.L0.bf bB.L0.add bB.L0.F:=rW (rT [.d (.slice dI),.d ti] λ_=>by kernel_rfl)
theorem bB.L0.dA:rM @bB.L0.R bB.L0.st bB.L0.bf bB.L0.add bB.L0.F bB.L0.out bB.L0.Ok:=sI
theorem bB.L0.step{R:Type}(sk:(List eh))(i:Int)(kn:AS->Option R)(kx:Exit->AS->Option R):bB.L0.R (sk,i) kn kx=
  aO ((ju i (((List.length sk):Nat):Int))) (
   aO ((ju i (80:Int))) (
    aO (gK i (((List.length sk):Nat):Int)) (
    aA (ab.call (([]:List iG),([(nth dI sk (Int.toNat i)).2.1],((0:Int),())))) λx1=>
    aO ((!x1)) (
     kx (bB.L0.eR ()).1 (bB.L0.eR ()).2) (
     kn (bB.L0.st (sk,(bW .i64 i (1:Int)))))) none) (
    kx (bB.L0.iZ sk).1 (bB.L0.iZ sk).2)) (
   kx (bB.L0.iZ sk).1 (bB.L0.iZ sk).2):=by kernel_rfl
theorem bB.eq{R:Type}(l)(k:K1 R):bB.A l k=
  aA (bB.L0.call (l,0)) λx2=>
  aO (x2.isLeft) (
   aA (x2.getLeft?) λa3=>
   k (bB.out false)) (
   aA (x2.getRight?) λb4=>
   k (bB.out (Ct (b4.length:Int) 70))):=by kernel_rfl
theorem bB.L0.ok:bB.L0.Ok:=by
 refine bB.L0.dA (λ(l,i)=>80 - i.toNat) ?_
 rintro⟨l,i⟩ ⟨k,hk,Co,rfl⟩
 have hk:k<=l.length:=hk
 have Co:k<=80:=Co
 have stop:(l.length<=k\/80<=k)->bB.L0.F (l,(k:Int))= .inr ():=λh=>by
  have e:(l.take 80).drop k=[]:=List.drop_eq_nil_of_le (by rw[cn];omega)
  simp only[bB.L0.F,aa,e]
  rfl
 by_cases h:k < l.length
 ·by_cases h8:k < 80
  ·have n1:nth dI l k=l[k]:=dR (t:=dI) h
   have hd:(l.take 80).drop k=l[k]::(l.take 80).drop (k+1):=by
    have:=aB (l:=l.take 80) (i:=k) (by rw[cn];omega)
    rwa[List.getElem_take]at this
   have cs:=ab.run (d:=(([]:List iG),([l[k].2.1],((0:Int),())))) trivial
   cases hs:yM l[k]with
   |false=>
    right
    refine⟨bB.L0.eR (),?_,λkn kx=> ?_⟩
    ·simp only[bB.L0.add,bB.L0.F,aa,hd,fD,hs,eM,bN,if_false]
     rfl
    ·rw[bB.L0.step,bq (by omega),aj,bq (by omega),aj,bM (by omega) (by omega),aj,aa,n1,cs]
     simp only[ah,bS,ab.F]
     rw[show vJ ([],[l[k].2.1],0,())=false from hs,dG,aj]
   |true=>
    left
    refine⟨(l,((k+1:Nat):Int)),⟨k+1,by omega,by omega,rfl⟩,by simp only[aa];omega,?_,λkn kx=> ?_⟩
    ·simp only[bB.L0.add,bB.L0.F,aa,hd,fD,hs,ck]
    ·rw[bB.L0.step,bq (by omega),aj,bq (by omega),aj,bM (by omega) (by omega),aj,aa,n1,cs]
     simp only[ah,bS,ab.F]
     rw[show vJ ([],[l[k].2.1],0,())=true from hs,cz,aq,N.rO (by omega)]
  ·right
   refine⟨bB.L0.iZ l,?_,λkn kx=> ?_⟩
   ·show(bB.L0.out (bB.L0.add (l,(k:Int)) (bB.L0.F (l,(k:Int))))).eval=_
    rw[stop (.inr (by omega))]
    rfl
   ·rw[bB.L0.step,bq (by omega),aj,bn (by omega),aq]
 ·right
  refine⟨bB.L0.iZ l,?_,λkn kx=> ?_⟩
  ·show(bB.L0.out (bB.L0.add (l,(k:Int)) (bB.L0.F (l,(k:Int))))).eval=_
   rw[stop (.inl (by omega))]
   rfl
  ·rw[bB.L0.step,bn (by omega),aq]
theorem bB.ok:bB.Ok:=by
 intro l _
 have z1:((0:Int)).toNat=0:=rfl
 rw[bB.eq,bB.L0.run (d:=(l,0)) ⟨0,bj _,bj _,rfl⟩]
 simp only[ah,bB.L0.F,z1,aL,bS,bB.F,F5]
 cases(l.take 80).all yM with
 |false=>rfl
 |true=>
  rw[ck]
  by_cases h:l.length<=70
  ·rw[aY h]
   refine congrArg (λb=>some (bB.out b)) ?_
   exact ki (by show((l.length:Nat):Int)<=70;omega)
  ·rw[cg h]
   refine congrArg (λb=>some (bB.out b)) ?_
   exact iy (by show ¬((l.length:Nat):Int)<=70;omega)
theorem bB.run:bB.RS:=rE [.d (.slice dI)] bB
def bB.sg:=bB.gl bB.ok 1 ⟨.jG bB.L0.ok,trivial⟩
def Ad:List eh:=[oC 3 1000 0,oC 1 500 50,oC 2 35 0,oC 5 700 0,oC 4 300 30]
def qu:pE:=(2,(1,(4,())))
theorem G5:∀x∈List.replicate 32 (0:Int),0<=x/\x < 256:=λx hx=>by rw[(List.mem_replicate.1 hx).2];exact⟨by decide,by decide⟩
theorem GC(n a u:Int)(hu:u<=100):E0 (oC n a u):=⟨⟨cd,G5⟩,⟨by show 1<=_;decide,λb hb=>by
 rw[bD.1 (show b∈ [([kb (n+2)],(0,(0,(0,()))))] from hb)]
 show 1<=_
 decide⟩,by show u<=_;omega⟩
theorem Mn(n a u:Int):KY (oC n a u):=⟨⟨cd,G5⟩,eo 0,by show(0:Int) < 18446744073709551616;decide⟩
theorem H2:∀x∈Ad,E0 x:=λx hx=>by
 unfold Ad at hx
 simp only[b8,gr,or_false]at hx
 rcases hx with rfl | rfl | rfl | rfl | rfl
 ·exact GC _ _ _ (by decide)
 ·exact GC _ _ _ (by decide)
 ·exact GC _ _ _ (by decide)
 ·exact GC _ _ _ (by decide)
 ·exact GC _ _ _ (by decide)
theorem Jk:nZ (oC 1 500 50) (oC 4 300 30)=1:=by
 unfold nZ qF
 rfl
theorem Jj:zd (oC 5 700 0) (oC 3 1000 0)=1:=by
 unfold zd
 rw[lk ⟨cd,G5⟩ ⟨cd,G5⟩]
 decide
theorem Fc:dZ Ad qu 10=[oC 4 300 30,oC 1 500 50]:=by
 have e:Ad.filter (qL qu 10)=[oC 1 500 50,oC 4 300 30]:=by kernel_rfl
 have hq:∀x∈ [oC 1 500 50,oC 4 300 30],BE x:=λx hx=>by
  simp only[b8,gr,or_false]at hx
  rcases hx with rfl | rfl <;> exact⟨cd,G5⟩
 unfold dZ
 rw[e]
 refine(tl uY hq (λx hx y hy h1 h2=> ?_) ⟨List.Perm.swap ..,?_⟩).symm
 ·have:=vT (hq x hx) (hq y hy) h1 h2
  simp only[b8,gr,or_false]at hx hy
  rcases hx with rfl | rfl <;> rcases hy with rfl | rfl
  ·rfl
  ·cases congrArg (λo:jm=>o.2.1) this
  ·cases congrArg (λo:jm=>o.2.1) this
  ·rfl
 ·refine kD.2 ⟨λy hy=> ?_,List.pairwise_singleton _ _⟩
  rw[bD.1 hy,Jk]
  decide
theorem Iy:j1 Ad qu 10=[oC 3 1000 0,oC 5 700 0]:=by
 have e:Ad.filter (q9 qu 10)=[oC 3 1000 0,oC 5 700 0]:=by kernel_rfl
 have hq:∀x∈ [oC 3 1000 0,oC 5 700 0],BE x:=λx hx=>by
  simp only[b8,gr,or_false]at hx
  rcases hx with rfl | rfl <;> exact⟨cd,G5⟩
 unfold j1
 rw[e]
 refine(tl xl hq (λx hx y hy h1 h2=> ?_) ⟨jA _,?_⟩).symm
 ·have:x.1=y.1:=xo (hq x hx) (hq y hy) h1 h2
  simp only[b8,gr,or_false]at hx hy
  rcases hx with rfl | rfl <;> rcases hy with rfl | rfl
  ·rfl
  ·cases congrArg (λo:jm=>o.2.1) this
  ·cases congrArg (λo:jm=>o.2.1) this
  ·rfl
 ·refine kD.2 ⟨λy hy=> ?_,List.pairwise_singleton _ _⟩
  rw[bD.1 hy,Jj]
  decide
def Lz:iD:=([oC 4 300 30],(36,(300,(30,()))))
def lX(m:Int):iD:=([oC 1 500 50],(36,(m,(50,()))))
def xA:iD:=([oC 3 1000 0,oC 5 700 0],(54,(54,(0,()))))
def LA:iD:=([oC 4 300 30],(36,(54,(30,()))))
theorem JV:uj Ad 800 qu 10=([Lz,lX 446,xA],0):=by
 have e:j5 Ad 800 qu 10=true:=by kernel_rfl
 unfold uj sw kF
 rw[if_pos e,Fc,Iy]
 exact(by kernel_rfl:(iM 2 (kg 800 ([oC 4 300 30,oC 1 500 50].map l6++(fZ [oC 3 1000 0,oC 5 700 0]).map gN)).1 (kg 800 ([oC 4 300 30,oC 1 500 50].map l6++(fZ [oC 3 1000 0,oC 5 700 0]).map gN)).2,(0:Int))=([Lz,lX 446,xA],0))
theorem JW:uj Ad 90 qu 10=([LA,lX 36],0):=by
 have e:j5 Ad 90 qu 10=true:=by kernel_rfl
 unfold uj sw kF
 rw[if_pos e,Fc,Iy]
 exact(by kernel_rfl:(iM 2 (kg 90 ([oC 4 300 30,oC 1 500 50].map l6++(fZ [oC 3 1000 0,oC 5 700 0]).map gN)).1 (kg 90 ([oC 4 300 30,oC 1 500 50].map l6++(fZ [oC 3 1000 0,oC 5 700 0]).map gN)).2,(0:Int))=([LA,lX 36],0))
theorem JX:uj (Ad++ [oC 3 1000 0]) 90 qu 10=([],1):=by
 unfold uj
 rw[if_neg]
 intro h
 unfold j5 at h
 simp only[ae]at h
 have:=((th _).1 h.2.2.2).2.1
 exact absurd this (by unfold Ad;simp[oC])
theorem Oj(P:Int)(hP:vi P=true)(hu:ku P)(iE:Int)(h0:0<=iE)(h1:iE<=500):∃t:jh,tY [oC 1 500 50] [3] (gB [P]) iE=(t,0)/\t.1.length=1/\t.2.1.length=1:=by
 have hl:oR (gB [P])=true:=by
  rw[H7 [P] (by show 1<=12;decide)]
  simp only[fD,List.all_nil,hP,j8]
 have hg:qk 0 [] [oC 1 500 50] [3]=some (500,[zh (oC 1 500 50)]):=by kernel_rfl
 have nE:kq ([zh (oC 1 500 50)],([(500 - iE,(gB [P],()))],((0:Int),())))=true:=by
  have e1:rU [] [zh (oC 1 500 50)]=true:=by kernel_rfl
  unfold kq yW
  show(decide (1<=1/\1<=64/\1<=64/\(0:Int)<=0) && (rU [] [zh (oC 1 500 50)] && (((lq 0 && (lq (500 - iE) && decide (0+(500 - iE)<=1125899906842624))) && oR (gB [P])) && true)))=true
  have e2:lq (500 - iE)=true:=aY ⟨by omega,by omega⟩
  rw[e1,hl,e2,aY (p:=0+(500 - iE)<=1125899906842624) (by omega)]
  rfl
 have hs:oG ([zh (oC 1 500 50)],([(500 - iE,(gB [P],()))],((0:Int),()))) 0 0 [3]=true:=by
  unfold oG
  rw[nE,aY ⟨by decide,by show(0:Int) < ((1:Nat):Int);decide,by decide,by decide,by show 1<=12;decide⟩]
  rfl
 have hv:nq ([zh (oC 1 500 50)],([(500 - iE,(gB [P],()))],((0:Int),()))) ((0:Nat):Int) 0 [3] 0=(tj ([zh (oC 1 500 50)],([(500 - iE,(gB [P],()))],((0:Int),()))) 0 (wM ([zh (oC 1 500 50)],([(500 - iE,(gB [P],()))],((0:Int),()))) 0 [3] 0),0):=by
  rw[show((0:Nat):Int)=0 from rfl,Da,if_pos hs]
  rfl
 refine⟨tj ([zh (oC 1 500 50)],([(500 - iE,(gB [P],()))],((0:Int),()))) 0 (wM ([zh (oC 1 500 50)],([(500 - iE,(gB [P],()))],((0:Int),()))) 0 [3] 0),?_,by rw[IC];rfl,rfl⟩
 unfold tY
 rw[if_pos ⟨by show 1<=1;decide,by show 1<=64;decide,rfl,hl⟩,hg]
 show(if iE < 0\/iE > 500 then(EZ,8) else match sA ([zh (oC 1 500 50)],([(500 - iE,(gB [P],()))],((0:Int),()))) 0 [oC 1 500 50] [3]with | .inl t=>(t,0) | .inr e=>(EZ,e))=_
 have es:sA ([zh (oC 1 500 50)],([(500 - iE,(gB [P],()))],((0:Int),()))) 0 [oC 1 500 50] [3]= .inl (tj ([zh (oC 1 500 50)],([(500 - iE,(gB [P],()))],((0:Int),()))) 0 (wM ([zh (oC 1 500 50)],([(500 - iE,(gB [P],()))],((0:Int),()))) 0 [3] 0)):=by
  rw[sA,show(oC 1 500 50).2.2.1=0 from rfl,show(oC 1 500 50).2.2.2.1=0 from rfl,hv,if_pos rfl]
  rfl
 rw[if_neg (by omega),es]
theorem Mf:vi 4=true:=by decide+kernel
def tq(P iE:Int):jh:=(tY [oC 1 500 50] [3] (gB [P]) iE).1
theorem Bt{P:Int}(hP:vi P=true)(hu:ku P){iE:Int}(h0:0<=iE)(h1:iE<=500):tY [oC 1 500 50] [3] (gB [P]) iE=(tq P iE,0)/\(tq P iE).1.length=1/\(tq P iE).2.1.length=1:=by
 obtain⟨t,h2,h3,h4⟩:=Oj P hP hu iE h0 h1
 have e:tq P iE=t:=by
  unfold tq
  rw[h2]
 rw[e]
 exact⟨h2,h3,h4⟩
def M0:List iD×Int:=([Lz,lX 446,xA],0)
def M1:List iD×Int:=([LA,lX 36],0)
def M3:List iD×Int:=([],1)
def MY:jh×Int×Int:=(tq 4 36,36,0)
def MZ:jh×Int×Int:=(tq 4 446,446,0)
def On:jh×Int×Int:=(EZ,0,4)
def Oo:jh×Int×Int:=(EZ,0,13)
open Classical in
def ig{X:Type}(x0 x:X):Option Unit:=if x=x0 then some () else none
theorem mI{X:Type}{x0:X}(x:X)(z:Unit)(h:ig x0 x=some z):x=(λ_:Unit=>x0) z:=by
 unfold ig at h
 split at h
 ·assumption
 ·cases h
theorem oW{X:Type}(x0:X):lT (ig x0) (some x0)=some ():=by
 unfold lT ig
 exact if_pos rfl
def Ek(n:Int)(m:Bool):List ao->Bool:=λvs=>match vs with | [.d _ _,.d (.int _) k,_,_]=>decide ((k:Int)=n) && !m | [.cv ..,.d (.int _) k,_,_]=>decide ((k:Int)=n) && m | _=>false
def Ba(h o:Int):List ao->Bool:=λvs=>match vs with | [_,_,_,.d (.int _) k,_,.d (.int _) j]=>decide ((k:Int)=h) && decide ((j:Int)=o) | _=>false
def GS:Int:=20
def Ph.E:Entry:=Entry.half [some (.slice dI),some ti,some qe,some ti] (X:=az.Y) (Z:=Unit) az.E.run az.E.out (λ_=>M0) (ig M0)
def Ph.sg:SG Tryz.prog:=⟨44,(Ek 800 false),Ph.E,nh.of (j2.half mI (az.sg.h.1 (by rfl))) (by rfl)⟩
def Pj.E:Entry:=Entry.half [some (.slice dI),some ti,some qe,some ti] (X:=az.Y) (Z:=Unit) az.E.run az.E.out (λ_=>M1) (ig M1)
def Pj.sg:SG Tryz.prog:=⟨44,(Ek 90 false),Pj.E,nh.of (j2.half mI (az.sg.h.1 (by rfl))) (by rfl)⟩
def Pk.E:Entry:=Entry.half [some (.slice dI),some ti,some qe,some ti] (X:=az.Y) (Z:=Unit) az.E.run az.E.out (λ_=>M3) (ig M3)
def Pk.sg:SG Tryz.prog:=⟨44,(Ek 90 true),Pk.E,nh.of (j2.half mI (az.sg.h.1 (by rfl))) (by rfl)⟩
def Pd.E:Entry:=Entry.half [some km,some tU,some wN,some ti,some qe,some ti] (X:=dr.Y) (Z:=Unit) dr.E.run dr.E.out (λ_=>MY) (ig MY)
def Pd.sg:SG Tryz.prog:=⟨50,(Ba (10) 0),Pd.E,nh.of (j2.half mI (dr.sg.h.1 (by rfl))) (by rfl)⟩
def Pe.E:Entry:=Entry.half [some km,some tU,some wN,some ti,some qe,some ti] (X:=dr.Y) (Z:=Unit) dr.E.run dr.E.out (λ_=>MZ) (ig MZ)
def Pe.sg:SG Tryz.prog:=⟨50,(Ba (30) 36),Pe.E,nh.of (j2.half mI (dr.sg.h.1 (by rfl))) (by rfl)⟩
def Pf.E:Entry:=Entry.half [some km,some tU,some wN,some ti,some qe,some ti] (X:=dr.Y) (Z:=Unit) dr.E.run dr.E.out (λ_=>On) (ig On)
def Pf.sg:SG Tryz.prog:=⟨50,(Ba (30) 446),Pf.E,nh.of (j2.half mI (dr.sg.h.1 (by rfl))) (by rfl)⟩
def Pg.E:Entry:=Entry.half [some km,some tU,some wN,some ti,some qe,some ti] (X:=dr.Y) (Z:=Unit) dr.E.run dr.E.out (λ_=>Oo) (ig Oo)
def Pg.sg:SG Tryz.prog:=⟨50,(Ba (60) 36),Pg.E,nh.of (j2.half mI (dr.sg.h.1 (by rfl))) (by rfl)⟩
def Pm.E:Entry:=Entry.half [some qe] (X:=eQ.Y) (Z:=Unit) eQ.E.run eQ.E.out (λ_=>GS) (ig GS)
def Pm.sg:SG Tryz.prog:=⟨57,wO,Pm.E,nh.of (j2.half mI (eQ.sg.h.1 (by rfl))) (by rfl)⟩
abbrev eC.D:=Unit
abbrev eC.Y:=Bool
def eC.bf:eC.D->Prop:=λ_=>True
def eC.F:eC.D->eC.Y:=λ_=>true
def eC:Fs Tryz.prog eC.bf bS eC.F:=fS 42 Tryz.f42 (λ_=>([],[])) (λx=>⟨.d .bool x,[],[]⟩) [] [gW.sg,Ph.sg,Pj.sg,Pk.sg,Pm.sg,kR.sg,Pd.sg,Pe.sg,Pf.sg,Pg.sg,bF.sg] {bk:=[44]}
theorem eC.eq{R:Type}(d)(k:K1 R):eC.A d k=
  aA (gW.call (3,1000,0)) λHg=>
  aA (gW.call (1,500,50)) λFF=>
  aA (gW.call (2,35,0)) λM5=>
  aA (gW.call (5,700,0)) λM6=>
  aA (gW.call (4,300,30)) λKW=>
  aA (lT (ig M0) (az.call ([Hg,FF,M5,M6,KW],800,(2,(1,(4,()))),10))) λOB=>
  aA (lT (ig M1) (az.call ([Hg,FF,M5,M6,KW],90,(2,(1,(4,()))),10))) λSH=>
  aA (lT (ig M3) (az.call ([Hg,FF,M5,M6,KW,Hg],90,(2,(1,(4,()))),10))) λSI=>
  aA (lT (ig GS) (eQ.call (2,(1,(4,()))))) λSJ=>
  aA (kR.call 4) λSp=>
  aA (lT (ig MY) (dr.call (([(((List.replicate 32 0),(1,())),((500,((gB [kb (1+2)]),())),(0,(0,(0,(50,()))))))],(36,(446,(50,())))),[3],Sp,10,(2,(1,(4,()))),0))) λSK=>
  aA (kR.call 4) λSq=>
  aA (lT (ig MZ) (dr.call (([(((List.replicate 32 0),(1,())),((500,((gB [kb (1+2)]),())),(0,(0,(0,(50,()))))))],(36,(446,(50,())))),[3],Sq,30,(2,(1,(4,()))),36))) λSL=>
  aA (kR.call 4) λSr=>
  aA (lT (ig On) (dr.call (([(((List.replicate 32 0),(1,())),((500,((gB [kb (1+2)]),())),(0,(0,(0,(50,()))))))],(36,(446,(50,())))),[3],Sr,30,(2,(1,(4,()))),446))) λSM=>
  aA (kR.call 4) λSs=>
  aA (lT (ig Oo) (dr.call (([(((List.replicate 32 0),(3,())),((1000,((gB [kb (3+2)]),())),(0,(0,(0,(0,())))))),(((List.replicate 32 0),(5,())),((700,((gB [kb (5+2)]),())),(0,(0,(0,(0,()))))))],(54,(54,(0,())))),[5,7],Ss,60,(2,(1,(4,()))),36))) λSN=>
  aO ((Ac (MY.1.1.length:Int) 1)) (
   aO ((Ac (MZ.1.2.1.length:Int) 1)) (
    aA (bF.call [Hg,FF,M5,M6,KW]) λSu=>
    k (eC.out (Ac Su 108))) (
    k (eC.out false))) (
   k (eC.out false)):=by kernel_rfl
theorem Mk{P:Int}(hp:vi P=true)(hu:ku P):dr.call (lX 446,[3],gB [P],10,qu,0)=some (tq P 36,36,0)/\dr.call (lX 446,[3],gB [P],30,qu,36)=some (tq P 446,446,0)/\dr.call (lX 446,[3],gB [P],30,qu,446)=some (EZ,0,4)/\dr.call (xA,[5,7],gB [P],60,qu,36)=some (EZ,0,13):=by
 obtain⟨ht,_⟩:=Bt (iE:=36) hp hu (by decide) (by decide)
 obtain⟨ht',_⟩:=Bt (iE:=446) hp hu (by decide) (by decide)
 have gb:Kd (lX 446):=⟨⟨by show(0:Int)<=36;decide,by show(36:Int)<=446;decide,by show(446:Int)<=1125899906842624;decide⟩,by show(0:Int)<=50;decide,by show(50:Int)<=9223372036854775807;decide⟩
 have gc:Kd xA:=⟨⟨by show(0:Int)<=54;decide,by show(54:Int)<=54;decide,by show(54:Int)<=1125899906842624;decide⟩,by show(0:Int)<=0;decide,by show(0:Int)<=9223372036854775807;decide⟩
 have lp:IY (gB [P]):=⟨JM (λk hk=>by rw[bD.1 hk];exact hu),by show 1<=9223372036854775807;decide⟩
 have k3:∀k∈([3]:List Int),ku k:=λk hk=>by rw[bD.1 hk];exact⟨by decide,by decide⟩
 have xb:∀m,∀x∈(lX m).1,KY x:=λm x hx=>by rw[bD.1 (show x∈ [oC 1 500 50] from hx)];exact Mn _ _ _
 have f1:kJ (lX 446) 10 qu=36:=by kernel_rfl
 have f2:kJ (lX 446) 30 qu=446:=by kernel_rfl
 have n1:dr.call (lX 446,[3],gB [P],10,qu,0)=some (tq P 36,36,0):=by
  rw[dr.run (d:=(lX 446,[3],gB [P],10,qu,0)) ⟨gb,⟨by decide,by decide⟩,xb _,k3,lp,by show 1<=1000000;decide,by show 1<=1000000000;decide,by show(0:Int)<=_;decide⟩]
  refine congrArg some ?_
  show sq (lX 446) [3] (gB [P]) 10 qu 0=_
  unfold sq
  rw[f1,if_neg (λe=>absurd e.1 (by decide)),if_neg (show ¬(0:Int) > 0 by decide),if_neg (show ¬(36:Int) > (lX 446).2.2.1 from(by show ¬(36:Int) > 446;decide)),show tY (lX 446).1 [3] (gB [P]) 36=(tq P 36,0) from ht,if_neg (λe=>e rfl)]
 have n2:dr.call (lX 446,[3],gB [P],30,qu,36)=some (tq P 446,446,0):=by
  rw[dr.run (d:=(lX 446,[3],gB [P],30,qu,36)) ⟨gb,⟨by decide,by decide⟩,xb _,k3,lp,by show 1<=1000000;decide,by show 1<=1000000000;decide,by show(36:Int)<=_;decide⟩]
  refine congrArg some ?_
  show sq (lX 446) [3] (gB [P]) 30 qu 36=_
  unfold sq
  rw[f2,if_neg (λe=>absurd e.2 (by decide)),if_pos (show(36:Int) > 0 by decide),show imax 446 (36+tt (lX 446).1)=446 by kernel_rfl,if_neg (show ¬(446:Int) > (lX 446).2.2.1 from(by show ¬(446:Int) > 446;decide)),show tY (lX 446).1 [3] (gB [P]) 446=(tq P 446,0) from ht',if_neg (λe=>e rfl)]
 have n3:dr.call (lX 446,[3],gB [P],30,qu,446)=some (EZ,0,4):=by
  rw[dr.run (d:=(lX 446,[3],gB [P],30,qu,446)) ⟨gb,⟨by decide,by decide⟩,xb _,k3,lp,by show 1<=1000000;decide,by show 1<=1000000000;decide,by show(446:Int)<=_;decide⟩]
  refine congrArg some ?_
  show sq (lX 446) [3] (gB [P]) 30 qu 446=_
  unfold sq
  rw[f2,if_pos ⟨by decide,by decide⟩]
 have n4:dr.call (xA,[5,7],gB [P],60,qu,36)=some (EZ,0,13):=by
  rw[dr.run (d:=(xA,[5,7],gB [P],60,qu,36)) ⟨gc,⟨by decide,by decide⟩,λx hx=>by
   rcases b8.1 (show x∈ [oC 3 1000 0,oC 5 700 0] from hx) with rfl | hx
   ·exact Mn _ _ _
   ·rw[bD.1 hx];exact Mn _ _ _,λk hk=>by
   rcases b8.1 hk with rfl | hk
   ·exact⟨by decide,by decide⟩
   ·rw[bD.1 hk];exact⟨by decide,by decide⟩,lp,by show 2<=1000000;decide,by show 2<=1000000000;decide,by show(36:Int)<=_;decide⟩]
  refine congrArg some ?_
  show sq xA [5,7] (gB [P]) 60 qu 36=_
  have f3:kJ xA 60 qu=54:=by kernel_rfl
  unfold sq
  rw[f3,if_neg (λe=>absurd e.2 (by decide)),if_pos (show(36:Int) > 0 by decide),show imax 54 (36+tt xA.1)=90 by kernel_rfl,if_pos (show(90:Int) > xA.2.2.1 from(by show(90:Int) > 54;decide))]
 exact⟨n1,n2,n3,n4⟩
theorem eC.ok:eC.Ok:=by
 rintro⟨⟩ _
 have u4:ku 4:=⟨by decide,by decide⟩
 obtain⟨n1,n2,n3,n4⟩:=Mk Mf u4
 obtain⟨_,t1,_⟩:=Bt (iE:=36) Mf u4 (by decide) (by decide)
 obtain⟨_,_,t2⟩:=Bt (iE:=446) Mf u4 (by decide) (by decide)
 have cl:kR.call 4=some (gB [4]):=kR.run (d:=4) trivial
 have c1:∀n a u:Int,0<=n->n<=100->gW.call (n,a,u)=some (oC n a u):=λn a u h0 h1=>gW.run (d:=(n,a,u)) ⟨h0,h1⟩
 have p1:az.call (Ad,800,qu,10)=some M0:=(az.run (d:=(Ad,800,qu,10)) H2).trans (congrArg some JV)
 have p2:az.call (Ad,90,qu,10)=some M1:=(az.run (d:=(Ad,90,qu,10)) H2).trans (congrArg some JW)
 have p3:az.call (Ad++ [oC 3 1000 0],90,qu,10)=some M3:=(az.run (d:=(Ad++ [oC 3 1000 0],90,qu,10)) (λx hx=>by
  rcases aX.1 hx with hx | hx
  ·exact H2 x hx
  ·rw[bD.1 hx];exact GC _ _ _ (by decide))).trans (congrArg some JX)
 have cs:eQ.call qu=some GS:=(eQ.run (d:=qu) trivial).trans (by rfl)
 have w1:bF.call Ad=some 108:=(bF.run (d:=Ad) (by show 5<=1000000000;decide)).trans (by kernel_rfl)
 rw[eC.eq]
 refine qt (c1 3 1000 0 (by decide) (by decide)) ?_
 refine qt (c1 1 500 50 (by decide) (by decide)) ?_
 refine qt (c1 2 35 0 (by decide) (by decide)) ?_
 refine qt (c1 5 700 0 (by decide) (by decide)) ?_
 refine qt (c1 4 300 30 (by decide) (by decide)) ?_
 refine qt ((congrArg (lT (ig M0)) p1).trans (oW M0)) ?_
 refine qt ((congrArg (lT (ig M1)) p2).trans (oW M1)) ?_
 refine qt ((congrArg (lT (ig M3)) p3).trans (oW M3)) ?_
 refine qt ((congrArg (lT (ig GS)) cs).trans (oW GS)) ?_
 refine qt cl ?_
 refine qt ((congrArg (lT (ig MY)) n1).trans (oW MY)) ?_
 refine qt cl ?_
 refine qt ((congrArg (lT (ig MZ)) n2).trans (oW MZ)) ?_
 refine qt cl ?_
 refine qt ((congrArg (lT (ig On)) n3).trans (oW On)) ?_
 refine qt cl ?_
 refine qt ((congrArg (lT (ig Oo)) n4).trans (oW Oo)) ?_
 refine KR (ja (by show(((tq 4 36).1.length:Nat):Int)=1;rw[t1];rfl)) ?_
 refine KR (ja (by show(((tq 4 446).2.1.length:Nat):Int)=1;rw[t2];rfl)) ?_
 refine qt w1 ?_
 rfl
theorem eC.run:eC.RS:=rE [] eC
def eC.sg:=eC.gl eC.ok
end Go.Ab
namespace Go.Ab
open Go.Proofs
def vX:Int->List iD->List iD
 |_,[]=> []
 |b,g::l=>xd g (lD b g)::vX (b - lD b g) l
theorem Ah:∀(A B:List iD) (b:Int),iM A.length b (A++B)=vX b A++B
 |[],B,b=>rfl
 |g::A,B,b=>by
  rw[aC,jN,iM,Ah A,vX,jN]
theorem CM:∀(n:Nat) (b:Int) (l:List iD),l.length<=n->iM n b l=vX b l
 |n,b,[],_=>by cases n <;> rfl
 | 0,b,g::l,h=>by cases h
 |n+1,b,g::l,h=>by rw[iM,vX,CM n _ l (Nat.le_of_succ_le_succ h)]
def qQ(l:List iD):Int:=(l.map (·.2.1)).sum
theorem Ib:qQ []=0:=rfl
theorem vm(g:iD)(l:List iD):qQ (g::l)=g.2.1+qQ l:=by unfold qQ;rw[bX,List.sum_cons]
theorem CG(l l':List iD):qQ (l++l')=qQ l+qQ l':=by unfold qQ;rw[List.map_append,List.sum_append]
theorem tX:∀ {l:List iD},(∀g∈l,0<=g.2.1)->0<=qQ l
 |[],_=>eo 0
 |a::l,h=>by
  have h1:=h a aI
  have h2:=tX (l:=l) λx hx=>h x (aH _ hx)
  rw[vm]
  omega
theorem xZ:∀ {l:List iD} {g:iD},(∀g∈l,0<=g.2.1)->g∈l->g.2.1<=qQ l
 |[],_,_,h=>by cases h
 |a::l,g,h0,h=>by
  have h1:=h0 a aI
  have h2:0<=qQ l:=tX λx hx=>h0 x (aH _ hx)
  rw[vm]
  rcases b8.1 h with rfl | h
  ·omega
  ·have:=xZ (λx hx=>h0 x (aH _ hx)) h
   omega
theorem zO:∀(l:List iD) (b:Int),(∀g∈l,0<=g.2.1)->0<=b->∃K R,l=K++R/\(kg b l).2=K/\(kg b l).1+qQ K=b/\0<=(kg b l).1/\∀g R',R=g::R'->(kg b l).1 < g.2.1
 |[],b,_,hb=>⟨[],[],rfl,rfl,by show b+0=b;omega,hb,λg R' h=>by cases h⟩
 |g::l,b,h,hb=>by
  unfold kg
  by_cases hc:g.2.1 > b
  ·rw[if_pos hc]
   refine⟨[],g::l,rfl,rfl,by show b+0=b;omega,hb,λg' R' e=> ?_⟩
   rw[<-(List.cons.inj e).1]
   show b < g.2.1
   omega
  ·rw[if_neg hc]
   have h0:=h g aI
   obtain⟨K,R,e1,e2,e3,e4,e5⟩:=zO l (b - g.2.1) (λx hx=>h x (aH _ hx)) (by omega)
   refine⟨g::K,R,by rw[e1];rfl,by rw[<-e2],?_,e4,e5⟩
   rw[vm]
   show(kg (b - g.2.1) l).1+(g.2.1+qQ K)=b
   omega
theorem xj{α:Type}:∀(n:Nat) (l:List α),l.length<=n->(fZ l).flatten=l
 | 0,l,h=>by
  obtain rfl:=aJ (Nat.le_zero.1 h)
  rfl
 |n+1,l,h=>by
  by_cases h0:0 < l.length
  ·rw[qE h0,ff,xj n (l.drop 8) (by rw[cH];omega),cQ]
  ·obtain rfl:=aJ (by omega:l.length=0)
   rfl
section
variable {l:List eh} {b:pE} {h:Int}
theorem GK(hx:∀x∈l,E0 x){x:eh}(hm:x∈j1 l b h):x∈l/\ot h x=true/\pn b h x=false:=by
 obtain⟨h1,h2⟩:=dX.1 ((Bk hx).1.mem_iff.1 hm)
 unfold q9 at h2
 rw[ae,bt]at h2
 exact⟨h1,h2⟩
theorem FX(hx:∀x∈l,E0 x){c:List eh}(hc:c∈fZ (j1 l b h)){x:eh}(hm:x∈c):x∈l/\ot h x=true/\pn b h x=false:=by
 refine GK (b:=b) hx ?_
 have:=xj _ (j1 l b h) (aw _)
 rw[<-this]
 exact List.mem_flatten.2 ⟨c,hc,hm⟩
theorem EC{bu:Int}(h0:0<=bu):∃(A A2:List eh) (B B2:List (List eh)) (b':Int),dZ l b h=A++A2/\fZ (j1 l b h)=B++B2/\sw l bu b h=vX b' (A.map l6)++B.map gN/\(B=[]\/A2=[])/\0<=b'/\b'+qQ (A.map l6)+qQ (B.map gN)=bu/\
  (∀x A3,A2=x::A3->b' < tt [x])/\(A2=[]->∀c B3,B2=c::B3->b' < tt c):=by
 obtain⟨K,R,e1,e2,e3,e4,e5⟩:=zO (kF l b h) bu (λg hg=>BJ hg) h0
 unfold sw
 rw[e2]
 generalize (kg bu (kF l b h)).1=b' at e3 e4 e5
 unfold kF at e1
 rcases List.append_eq_append_iff.1 e1 with⟨a',h1,h2⟩ | ⟨c',h1,h2⟩
 ·obtain⟨B,B2,h3,h4,h5⟩:=List.map_eq_append_iff.1 h2
  subst h4
  refine⟨dZ l b h,[],B,B2,b',by simp,h3,?_,.inr rfl,e4,?_,λx A3 e=>(by cases e),λ_ c B3 e=> ?_⟩
  ·rw[h1,show(dZ l b h).length=((dZ l b h).map l6).length by rw[cj],Ah]
  ·rw[h1,CG]at e3
   omega
  ·subst e
   exact e5 (gN c) (B3.map gN) h5.symm
 ·obtain⟨A,A2,h3,h4,h5⟩:=List.map_eq_append_iff.1 h1
  subst h4
  refine⟨A,A2,[],fZ (j1 l b h),b',h3,rfl,?_,.inl rfl,e4,?_,λx A3 e=> ?_,λe c B3 e'=> ?_⟩
  ·rw[CM _ _ _ (by rw[cj,h3,au];omega),fW,cZ]
  ·rw[fW,Ib]
   omega
  ·subst e
   exact e5 (l6 x) (A3.map l6++(fZ (j1 l b h)).map gN) (by rw[h2,<-h5];rfl)
  ·subst e
   have h5:c'=[]:=h5.symm
   rw[h5,aT,e']at h2
   exact e5 (gN c) (B3.map gN) h2
end
theorem zW:∀(A:List eh) (b:Int),(∀x∈A,M9 (l6 x))->0<=b->b<=1125899906842624->∀g∈vX b (A.map l6),∃x∈A,∃m,0<=m/\m<=b/\m<=x.2.1.1 - tt [x]/\g=xd (l6 x) m
 |[],_,_,_,_,g,hg=>by cases hg
 |x::A,b,hx,h0,h1,g,hg=>by
  have hm:=Fv (hx x aI) ⟨h0,h1⟩
  rcases b8.1 (show g∈xd (l6 x) (lD b (l6 x))::vX (b - lD b (l6 x)) (A.map l6) from hg) with rfl | hg
  ·exact⟨x,aI,_,hm.1,hm.2.1,hm.2.2,rfl⟩
  ·obtain⟨y,hy,m,m1,m2,m3,m4⟩:=zW A _ (λy hy=>hx y (aH _ hy)) (by omega) (by omega) g hg
   exact⟨y,aH _ hy,m,m1,by omega,m3,m4⟩
theorem IP{c:List eh}(hc:∀x∈c,0<=x.2.2.2.2.2.1/\x.2.2.2.2.2.1<=9223372036854775807):∀u:Int,0<=u->u<=9223372036854775807->0<=c.foldl EW u/\c.foldl EW u<=9223372036854775807:=by
 induction c with
 |nil=>exact λu h0 h1=>⟨h0,h1⟩
 |cons x c ih=>
  intro u h0 h1
  have:=hc x aI
  rw[cO]
  refine ih (λy hy=>hc y (aH _ hy)) _ ?_ ?_ <;> (unfold EW;split <;> omega)
theorem Cy{h:Int}{x:eh}(h1:1<=h)(hk:ot h x=true):0<=x.2.2.2.2.2.1:=by
 unfold ot at hk
 rw[ae]at hk
 rcases xT hk.1 with e | e <;> omega
theorem CY{l:List eh}{bu:Int}{b:pE}{h:Int}(e:j5 l bu b h=true):(0<=bu/\bu<=1125899906842624)/\gF b=true/\(1<=h/\h<=1048576)/\l.length<=64/\(l.map (·.1)).Nodup/\∀x∈l,0<=x.2.1.1/\x.2.1.1<=1099511627776:=by
 unfold j5 at e
 simp only[ae,decide_eq_true_eq]at e
 exact⟨e.1,e.2.1,e.2.2.1,(th l).1 e.2.2.2⟩
theorem Is{l:List eh}{bu:Int}{b:pE}{h:Int}(hx:∀x∈l,E0 x)(nE:j5 l bu b h=true):∀g∈sw l bu b h,Kd g:=by
 obtain⟨hb,_,hh,_,_,ha⟩:=CY nE
 obtain⟨A,A2,B,B2,b',s1,s2,s3,_,s5,s6,_,_⟩:=EC (l:=l) (b:=b) (h:=h) hb.1
 have hA:∀x∈A,x∈l/\ot h x=true/\pn b h x=true:=λx hm=>xx hx (by rw[s1];exact List.mem_append_left _ hm)
 have hB:∀c∈B,∀x∈c,x∈l/\ot h x=true/\pn b h x=false:=λc hc x hm=>FX hx (by rw[s2];exact List.mem_append_left _ hc) hm
 have pA:∀g∈A.map l6,0<=g.2.1:=λg hg=>by obtain⟨x,_,rfl⟩:=cU.1 hg;exact(rq [x]).1
 have pB:∀g∈B.map gN,0<=g.2.1:=λg hg=>by obtain⟨c,_,rfl⟩:=cU.1 hg;exact(rq c).1
 have qA:=tX pA
 have qB:=tX pB
 intro g hg
 rw[s3]at hg
 rcases aX.1 hg with hg | hg
 ·obtain⟨x,hm,m,m1,m2,m3,rfl⟩:=zW A b' (λx hm=>CS (ha x (hA x hm).1) (hA x hm).2.1) s5 (by omega) g hg
  have h1:=xZ pA (ik (f:=l6) hm)
  have h1:tt [x]<=qQ (A.map l6):=h1
  have h2:=(rq [x]).1
  have h3:=IP (c:=[x]) (λy hy=>by rw[bD.1 hy];exact⟨Cy hh.1 (hA x hm).2.1,(hx x (hA x hm).1).2.2⟩) 0 (eo 0) (by decide)
  exact⟨⟨h2,by show tt [x]<=tt [x]+m;omega,by show tt [x]+m<=_;omega⟩,h3.1,h3.2⟩
 ·obtain⟨c,hm,rfl⟩:=cU.1 hg
  have h1:=xZ pB (ik (f:=gN) hm)
  have h1:tt c<=qQ (B.map gN):=h1
  have h2:=(rq c).1
  have h3:=IP (c:=c) (λy hy=>⟨Cy hh.1 (hB c hm y hy).2.1,(hx y (hB c hm y hy).1).2.2⟩) 0 (eo 0) (by decide)
  exact⟨⟨h2,eo _,by show tt c<=_;omega⟩,h3.1,h3.2⟩
theorem IQ{a n d:Int}(hd:1<=d)(q:Int):I7 a n d<=q↔a*n<=q*d:=by
 unfold I7
 generalize a*n=N
 have e:=Int.mul_ediv_add_emod N d
 have m0:=fP N (show d≠0 by omega)
 have m1:=fw N (show 0 < d by omega)
 rw[Int.mul_comm]at e
 have mono:∀x y:Int,x<=y->x*d<=y*d:=λx y h=>Int.mul_le_mul_of_nonneg_right h (by omega)
 have e1:∀x:Int,(x+1)*d=x*d+d:=λx=>by rw[Int.add_mul,Int.one_mul]
 split
 ·constructor
  ·intro h
   have:=mono _ _ h
   rw[e1]at this
   omega
  ·intro h
   refine gM λhc=> ?_
   have:=mono q (N / d) (by omega)
   omega
 ·constructor
  ·intro h
   have:=mono _ _ h
   omega
  ·intro h
   refine gM λhc=> ?_
   have:=mono (q+1) (N / d) (by omega)
   rw[e1]at this
   omega
theorem IS{a n n' d:Int}(ha:0<=a)(hn:n<=n')(hd:1<=d):I7 a n d<=I7 a n' d:=
 (IQ hd _).2 (Int.le_trans (Int.mul_le_mul_of_nonneg_left hn ha) ((IQ hd _).1 (eo _)))
theorem F2{g:iD}{h h':Int}{b:pE}(hg:Kd g)(hr:gF b=true)(hh:h<=h'):kJ g h b<=kJ g h' b:=by
 have hf:=u7 (h:=h) (b:=b) hg
 have hf':=u7 (h:=h') (b:=b) hg
 have hs:=(rJ b).2.2 hr
 obtain⟨⟨g1,g2,g3⟩,_⟩:=hg
 have nr:¬gF b=false:=by rw[hr];decide
 by_cases a1:g.2.2.2.1=0\/gF b=false\/g.2.2.2.1 - h>=2*fO b
 ·have e:kJ g h b=g.2.1:=by unfold kJ;rw[if_pos a1]
  omega
 ·have n1:¬g.2.2.2.1=0:=λe=>a1 (.inl e)
  have n2:¬g.2.2.2.1 - h>=2*fO b:=λe=>a1 (.inr (.inr e))
  have a1':¬(g.2.2.2.1=0\/gF b=false\/g.2.2.2.1 - h'>=2*fO b):=λe=>e.elim n1 λe=>e.elim nr (λe=>n2 (by omega))
  by_cases a2:g.2.2.2.1 - h'<=fO b
  ·have e:kJ g h' b=g.2.2.1:=by unfold kJ;rw[if_neg a1',if_pos a2]
   omega
  ·unfold kJ
   rw[if_neg a1,if_neg a1',if_neg a2,if_neg (by omega)]
   have:=IS (a:=g.2.2.1 - g.2.1) (n:=2*fO b - (g.2.2.2.1 - h)) (n':=2*fO b - (g.2.2.2.1 - h')) (d:=fO b) (by omega) (by omega) (by omega)
   omega
theorem F3{g:iD}{h:Int}{b:pE}(hr:gF b=true)(hu:¬g.2.2.2.1=0)(hh:h>=g.2.2.2.1 - fO b):kJ g h b=g.2.2.1:=by
 have hs:=(rJ b).2.2 hr
 have nr:¬gF b=false:=by rw[hr];decide
 unfold kJ
 rw[if_neg (λe=>e.elim hu λe=>e.elim nr (λe=>by omega)),if_pos (by omega)]
theorem F4{g:iD}{h:Int}{b:pE}(hu:g.2.2.2.1=0):kJ g h b=g.2.1:=by
 unfold kJ
 rw[if_pos (.inl hu)]
def OE(x:eh):Prop:=KY x/\Ke x.2.1.2.1/\x.2.2.2.2.2.1<=9223372036854775807
theorem Le{l:List eh}(hr:∀x∈l,OE x)(hf:F5 l=true):∀x∈l,E0 x:=λx hx=>⟨(hr x hx).1.1,(Ly hf).2 x hx,(hr x hx).2.2⟩
abbrev aG.L0.D:=Int×Int×pE×Bool×(List iD)×Int
def aG.L0.st:aG.L0.D->AS:=λ(oU,ow,qh,head,g,i)=>⟨(bE 4 ([.d ti oU,.d ti ow,.undef,.undef,.eW qe qh]++bE 4 ([.d .bool head,.d (.slice km) g,.undef,.d ti i]++bE 127 []))),[],(List.replicate 144 [])⟩
abbrev aG.L0.Y0:=Unit
abbrev aG.L0.X0:=Unit
def aG.L0.eR:aG.L0.X0->Exit×AS:=λx=>(.ret,⟨(bE 12 ([.d .bool false]++bE 131 [])),[],(List.replicate 144 [])⟩)
abbrev aG.L0.Y1:=Unit
abbrev aG.L0.X1:=Bool
def aG.L0.iZ:aG.L0.X1->Exit×AS:=λx=>(.exit 0,⟨(bE 13 ([.d .bool x]++bE 130 [])),[],(List.replicate 144 [])⟩)
abbrev aG.L0.X:=(aG.L0.X0)⊕(aG.L0.X1)
abbrev aG.L0.Y:=(aG.L0.Y0)⊕(aG.L0.Y1)
def aG.L0.out:aG.L0.X->Out (Exit×AS):=λx=> .br x.isLeft (.get x.getLeft? λa=> .ok (aG.L0.eR a)) (.get x.getRight? λb=> .ok (aG.L0.iZ b))
def aG.L0.add:aG.L0.D->aG.L0.Y->aG.L0.X:=λ(oU,ow,qh,head,g,i) y=>match y with | .inl y=> .inl y | .inr z=> .inr (head)
abbrev aG.D:=(List eh)×Int×pE×Int×Int×Int
abbrev aG.Y:=Bool
def aG.L0.bf:aG.L0.D->Prop:=λ(h,m,b,_,gs,i)=>(∀g∈gs,Kd g)/\gF b=true/\(0<=h/\h<=1073741824)/\(0<=m/\m<=1073741824)/\gs.length<=1000000/\∃k:Nat,k<=gs.length/\i=k
def aG.L0.F:aG.L0.D->aG.L0.Y:=λ_=> .inr ()
def aG.bf:aG.D->Prop:=λ(l,_,_,_,_,_)=>∀x∈l,OE x
def aG.F:aG.D->aG.Y:=λ_=>true
def aG.L0.E:=eS.jG aG.L0.st aG.L0.bf aG.L0.add aG.L0.F aG.L0.out
def aG.L0.call:aG.L0.D->Option aG.L0.X:=mz aG.L0.E aG.L0.st
def aG:Fs Tryz.prog aG.bf bS aG.F:=fS 12 Tryz.f12 (λ(l,budget,b,height,atv,more)=>([.d (.slice dI) l,.d ti budget,.d qe b,.d ti height,.d ti atv,.d ti more],[])) (λx=>⟨.d .bool x,[],[]⟩) [some (.slice dI),some ti,some qe,some ti,some ti,some ti] [eC.sg,bB.sg,az.sg,jo.sg,eQ.sg] {loops:=qP [(8,{bI:=[4,5,8,13,14,16]})],outs:=qO [(8,{bI:=[13]},{bI:=[12]})],jK:=sm [(8,aG.L0.E)]}
def aG.L0.R:= @jC Tryz.prog (oO aG.G) aG.an 0 Tryz.f12 0 _ aG.L0.st
abbrev aG.L0.Ok:=qq Tryz.prog (oO aG.G) aG.an 0 Tryz.f12 0 aG.L0.st aG.L0.bf aG.L0.add aG.L0.F aG.L0.out
theorem aG.L0.run:o9 aG.L0.call aG.L0.bf aG.L0.add aG.L0.F:=rW (rT [.d ti,.d ti,.d qe,.d .bool,.d (.slice km),.d ti] λ_=>by kernel_rfl)
theorem aG.L0.dA:rM @aG.L0.R aG.L0.st aG.L0.bf aG.L0.add aG.L0.F aG.L0.out aG.L0.Ok:=sI
theorem aG.L0.step{R:Type}(oU:Int)(ow:Int)(qh:pE)(head:Bool)(g:(List iD))(i:Int)(kn:AS->Option R)(kx:Exit->AS->Option R):aG.L0.R (oU,ow,qh,head,g,i) kn kx=
  aO ((ju i (((List.length g):Nat):Int))) (
   aO (gK i (((List.length g):Nat):Int)) (
   aA (jo.call ((nth km g (Int.toNat i)),oU,qh)) λHg=>
   aO (gK i (((List.length g):Nat):Int)) (
   aA (jo.call ((nth km g (Int.toNat i)),(bW .i64 oU ow),qh)) λKW=>
   aO ((pv Hg KW)) (
    kx (aG.L0.eR ()).1 (aG.L0.eR ()).2) (
    aO (gK i (((List.length g):Nat):Int)) (
    aO ((ju Hg (nth km g (Int.toNat i)).2.1)) (
     kx (aG.L0.eR ()).1 (aG.L0.eR ()).2) (
     aO (gK i (((List.length g):Nat):Int)) (
     aO ((pv KW (nth km g (Int.toNat i)).2.2.1)) (
      kx (aG.L0.eR ()).1 (aG.L0.eR ()).2) (
      aO (gK i (((List.length g):Nat):Int)) (
      aO ((Ac (nth km g (Int.toNat i)).2.2.2.1 (0:Int))) (
       aO (gK i (((List.length g):Nat):Int)) (
       aO ((wV KW (nth km g (Int.toNat i)).2.1)) (
        kx (aG.L0.eR ()).1 (aG.L0.eR ()).2) (
        aO (gK i (((List.length g):Nat):Int)) (
        aO ((wV (nth km g (Int.toNat i)).2.2.2.1 (0:Int))) (
         aO (gK i (((List.length g):Nat):Int)) (
         aA (eQ.call qh) λSn=>
         aO ((pN oU (df .i64 (nth km g (Int.toNat i)).2.2.2.1 Sn))) (
          aO (gK i (((List.length g):Nat):Int)) (
          aO ((wV Hg (nth km g (Int.toNat i)).2.2.1)) (
           kx (aG.L0.eR ()).1 (aG.L0.eR ()).2) (
           kn (aG.L0.st (oU,ow,qh,head,g,(bW .i64 i (1:Int)))))) none) (
          kn (aG.L0.st (oU,ow,qh,head,g,(bW .i64 i (1:Int)))))) none) (
         kn (aG.L0.st (oU,ow,qh,head,g,(bW .i64 i (1:Int)))))) none)) none) (
       aO (gK i (((List.length g):Nat):Int)) (
       aO ((wV (nth km g (Int.toNat i)).2.2.2.1 (0:Int))) (
        aO (gK i (((List.length g):Nat):Int)) (
        aA (eQ.call qh) λOB=>
        aO ((pN oU (df .i64 (nth km g (Int.toNat i)).2.2.2.1 OB))) (
         aO (gK i (((List.length g):Nat):Int)) (
         aO ((wV Hg (nth km g (Int.toNat i)).2.2.1)) (
          kx (aG.L0.eR ()).1 (aG.L0.eR ()).2) (
          kn (aG.L0.st (oU,ow,qh,head,g,(bW .i64 i (1:Int)))))) none) (
         kn (aG.L0.st (oU,ow,qh,head,g,(bW .i64 i (1:Int)))))) none) (
        kn (aG.L0.st (oU,ow,qh,head,g,(bW .i64 i (1:Int)))))) none)) none)) none)) none)) none) none) (
   kx (aG.L0.iZ head).1 (aG.L0.iZ head).2):=by kernel_rfl
theorem aG.eq{R:Type}(l budget b height atv more)(k:K1 R):aG.A (l,budget,b,height,atv,more) k=
  aA (eC.call ()) λx4=>
  aA (bB.call l) λx8=>
  aO ((!x8)) (
   k (aG.out x4)) (
   aO ((ju atv 0)) (
    k (aG.out x4)) (
    aO ((pv atv 1073741824)) (
     k (aG.out x4)) (
     aO ((ju more 0)) (
      k (aG.out x4)) (
      aO ((pv more 1073741824)) (
       k (aG.out x4)) (
       aA (az.call (l,budget,b,height)) λIW=>
       aO ((wV IW.2 0)) (
        aO (x4) (
         k (aG.out (Ac (IW.1.length:Int) 0))) (
         k (aG.out false))) (
        aA (aG.L0.call (atv,more,b,x4,IW.1,0)) λQM=>
        aO (QM.isLeft) (
         aA (QM.getLeft?) λa41=>
         k (aG.out false)) (
         aA (QM.getRight?) λb42=>
         k (aG.out b42)))))))):=by kernel_rfl
theorem aG.L0.ok:aG.L0.Ok:=by
 refine aG.L0.dA (λ(_,_,_,_,gs,i)=>gs.length - i.toNat) ?_
 rintro⟨h,m,b,hd,gs,i⟩ ⟨hg,hr,hh,hm,hl,k,hk,rfl⟩
 have hr:gF b=true:=hr
 have hh:0<=h/\h<=1073741824:=hh
 have hm:0<=m/\m<=1073741824:=hm
 have hl:gs.length<=1000000:=hl
 have hk:k<=gs.length:=hk
 by_cases gO:k < gs.length
 ·left
  have n1:nth km gs k=gs[k]:=dR (t:=km) gO
  have LM:=hg _ (b6 gO)
  generalize gs[k]=g at n1 LM
  have c1:=jo.run (d:=(g,h,b)) ⟨LM,hh.1,by show h<=_;omega⟩
  have c2:=jo.run (d:=(g,h+m,b)) ⟨LM,by show 0<=h+m;omega,by show h+m<=_;omega⟩
  have f1:=u7 (h:=h) (b:=b) LM
  have f2:=u7 (h:=h+m) (b:=b) LM
  have f3:=F2 (h:=h) (h':=h+m) LM hr (by omega)
  have hs:=rJ b
  have hu:=LM.2
  have cs:=eQ.run (d:=b) trivial
  refine⟨(h,m,b,hd,gs,((k+1:Nat):Int)),⟨hg,hr,hh,hm,hl,k+1,by omega,rfl⟩,by simp only[aa];omega,rfl,λkn kx=> ?_⟩
  rw[aG.L0.step,bq (by omega),aj]
  simp only[bM (show(0:Int)<=(k:Int) by omega) (show(k:Int) < (gs.length:Int) by omega),aj,aa,n1]
  rw[c1]
  simp only[ah,bS,jo.F]
  rw[eP (x:=h) (by omega) (by omega),c2]
  simp only[ah,bS,jo.F]
  rw[cR (by omega),aq,bn (by omega),aq,cR (by omega),aq,N.rO (by omega)]
  by_cases u0:g.2.2.2.1=0
  ·rw[ja u0,aj,e7 (F4 u0),aq,e7 u0,aq]
  ·rw[gP u0,aq,iA u0,aj,cs]
   simp only[ah,bS,eQ.F]
   rw[dM (by omega) (by omega)]
   by_cases u1:h>=g.2.2.2.1 - fO b
   ·rw[fH u1,aj,e7 (F3 hr u0 u1),aq]
   ·rw[eg u1,aq]
 ·right
  refine⟨aG.L0.iZ hd,rfl,λkn kx=> ?_⟩
  rw[aG.L0.step,bn (by omega),aq]
theorem GI{l:List eh}{bu:Int}{b:pE}{h:Int}(hx:∀x∈l,E0 x)(hl:l.length<=64):(sw l bu b h).length<=1000:=by
 have h1:=(xw (b:=b) (h:=h) hx).1.length_eq
 have h2:=(Bk (b:=b) (h:=h) hx).1.length_eq
 have h3:=(sJ _ (j1 l b h) (aw _)).1
 have h4:=List.length_filter_le (qL b h) l
 have h5:=List.length_filter_le (q9 b h) l
 have h6:(kg bu (kF l b h)).2.length<=(kF l b h).length:=by
  have:∀(L:List iD) (c:Int),(kg c L).2.length<=L.length:=by
   intro L
   induction L with
   |nil=>exact λc=>aw _
   |cons g L ih=>
    intro c
    unfold kg
    split
    ·exact bj _
    ·show((kg (c - g.2.1) L).2).length+1<=L.length+1
     have:=ih (c - g.2.1)
     omega
  exact this _ _
 unfold sw
 rw[vo]
 unfold kF at h6
 rw[au,cj,cj]at h6
 unfold kF
 omega
theorem aG.ok:aG.Ok:=by
 rintro⟨l,bu,b,h,at',m⟩ hr
 have hr:∀x∈l,OE x:=hr
 rw[aG.eq,eC.run (d:=()) trivial]
 simp only[ah,bS,eC.F,bS,aG.F]
 rw[bB.run (d:=l) trivial]
 simp only[ah,bS,bB.F]
 cases hf:F5 l with
 |false=>rfl
 |true=>
 rw[cz,aq]
 by_cases a1:at' < 0
 ·rw[bq a1,aj]
 rw[bn a1,aq]
 by_cases a2:at' > 1073741824
 ·rw[db a2,aj]
 rw[cR a2,aq]
 by_cases a3:m < 0
 ·rw[bq a3,aj]
 rw[bn a3,aq]
 by_cases a4:m > 1073741824
 ·rw[db a4,aj]
 have hx:=Le hr hf
 rw[cR a4,aq,az.run (d:=(l,bu,b,h)) hx]
 simp only[ah,bS,az.F,uj]
 by_cases nE:j5 l bu b h=true
 ·rw[if_pos nE,e7 rfl,aq]
  obtain⟨_,k2,_,k4,_⟩:=CY nE
  rw[aG.L0.run (d:=(at',m,b,true,sw l bu b h,0)) ⟨Is hx nE,k2,⟨by show 0<=at';omega,by show at'<=_;omega⟩,⟨by show 0<=m;omega,by show m<=_;omega⟩,Nat.le_trans (GI hx k4) (by decide),0,bj _,rfl⟩]
  rfl
 ·rw[if_neg nE]
  rfl
theorem aG.run:aG.RS:=rE [.d (.slice dI),.d ti,.d qe,.d ti,.d ti,.d ti] aG
def aG.sg:=aG.gl aG.ok 1 ⟨.jG aG.L0.ok,trivial⟩
end Go.Ab
end
