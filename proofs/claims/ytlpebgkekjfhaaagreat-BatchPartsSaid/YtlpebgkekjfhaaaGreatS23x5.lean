/-
  Made short by a program of mine (wip/tools/mini.py).
-/
import Derived.Test.YtlpebgkekjfhaaaGreatS23x4
set_option linter.unusedVariables false
set_option linter.unusedSimpArgs false
set_option maxRecDepth 100000
set_option synthInstance.maxSize 5000
noncomputable section
namespace Go.Ab
open Go.Proofs
abbrev pQ:Ty:=(.pair ti (.pair ti (.pair ti .unit)))
abbrev pD:=(Int×(Int×(Int×Unit)))
abbrev c9:Ty:=(.pair fA (.pair mu (.pair ti (.pair tu (.pair ti (.pair ti .unit))))))
abbrev dh:=(iK×(mw×(Int×(Int×(Int×(Int×Unit))))))
abbrev fi:Ty:=(.pair (.slice c9) pQ)
abbrev gD:=((List dh)×pD)
def lG(b:pD):Bool:=decide (0<=p9 b.1 b.2.1/\1<=b.2.2.1/\imax (imax b.1 b.2.1) b.2.2.1<=1000)
theorem zr{b:pD}(h:lG b=true):(0<=b.1/\b.1<=1000)/\(0<=b.2.1/\b.2.1<=1000)/\1<=b.2.2.1/\b.2.2.1<=1000:=by
 have h:=of_decide_eq_true h
 unfold p9 imax at h
 split at h <;> split at h <;> split at h <;> omega
def FN(b:pD):Int:=if lG b then b.2.2.1+b.1+b.2.1+1 else 0
def jk(b:pD):Int:=if lG b then b.2.2.1+b.1+b.2.1+1+12 else 0
theorem xZ(b:pD):0<=jk b/\jk b<=3013/\(lG b=true->14<=jk b):=by
 unfold jk
 split
 ·rename_i h
  have:=zr h
  exact⟨by omega,by omega,λ_=>by omega⟩
 ·rename_i h
  exact⟨by omega,by omega,λe=>absurd e h⟩
abbrev dV.D:=pD
abbrev dV.Y:=Bool
def dV.aY:dV.D->Prop:=λ_=>True
def dV.F:dV.D->dV.Y:=λb=>lG b
def dV:Fs Tryz.prog dV.aY bU dV.F:=gh 98 Tryz.f98 (λb=>([.d pQ b],[])) (λx=>⟨.d .bool x,[],[]⟩) [some pQ]
theorem dV.eq{R:Type}(b)(k:K1 R):dV.A b k=
  aK ((qP (p9 b.1 b.2.1) 0)) (
   aK ((qP b.2.2.1 1)) (
    k (dV.out (Ct (imax (imax b.1 b.2.1) b.2.2.1) 1000))) (
    k (dV.out false))) (
   k (dV.out false)):=by kernel_rfl
theorem dV.ok:dV.Ok:=by
 intro b _
 rw[dV.eq]
 simp only[bU,dV.F,lG]
 by_cases a1:0<=p9 b.1 b.2.1
 ·rw[fW a1,aj]
  by_cases a2:1<=b.2.2.1
  ·rw[fW a2,aj]
   by_cases a3:imax (imax b.1 b.2.1) b.2.2.1<=1000
   ·rw[kO a3,decide_eq_true ⟨a1,a2,a3⟩]
   ·rw[iW (by omega),decide_eq_false (λe=>a3 e.2.2)]
  ·rw[eu (by omega),au,decide_eq_false (λe=>a2 e.2.1)]
 ·rw[eu (by omega),au,decide_eq_false (λe=>a1 e.1)]
theorem dV.run:dV.RS:=rE [.d pQ] dV
def dV.sg:=dV.gC dV.ok
abbrev fN.D:=pD
abbrev fN.Y:=Int
def fN.aY:fN.D->Prop:=λ_=>True
def fN.F:fN.D->fN.Y:=λb=>FN b
def fN:Fs Tryz.prog fN.aY bU fN.F:=gh 122 Tryz.f122 (λb=>([.d pQ b],[])) (λx=>⟨.d ti x,[],[]⟩) [some pQ] [dV.sg]
theorem fN.eq{R:Type}(b)(k:K1 R):fN.A b k=
  aA (dV.call b) λx1=>
  aK ((!x1)) (
   k (fN.out 0)) (
   k (fN.out (bN .i64 (bN .i64 (bN .i64 b.2.2.1 b.1) b.2.1) 1))):=by kernel_rfl
theorem fN.ok:fN.Ok:=by
 intro b _
 rw[fN.eq,dV.run (d:=b) trivial]
 simp only[ah,bU,dV.F,bU,fN.F,FN]
 cases h:lG b with
 |false=>rfl
 |true=>
  obtain⟨⟨h1,h2⟩,⟨h3,h4⟩,h5,h6⟩:=zr h
  rw[b8,au,eH (x:=b.2.2.1) (by omega) (by omega),eH (x:=b.2.2.1+b.1) (by omega) (by omega),eH (by omega) (by omega)]
  rfl
theorem fN.run:fN.RS:=rE [.d pQ] fN
def fN.sg:=fN.gC fN.ok
abbrev fc.D:=pD
abbrev fc.Y:=Int
def fc.aY:fc.D->Prop:=λ_=>True
def fc.F:fc.D->fc.Y:=λb=>jk b
def fc:Fs Tryz.prog fc.aY bU fc.F:=gh 57 Tryz.f57 (λb=>([.d pQ b],[])) (λx=>⟨.d ti x,[],[]⟩) [some pQ] [dV.sg,fN.sg]
theorem fc.eq{R:Type}(b)(k:K1 R):fc.A b k=
  aA (dV.call b) λx1=>
  aK ((!x1)) (
   k (fc.out 0)) (
   aA (fN.call b) λx2=>
   k (fc.out (bN .i64 x2 12))):=by kernel_rfl
theorem fc.ok:fc.Ok:=by
 intro b _
 rw[fc.eq,dV.run (d:=b) trivial]
 simp only[ah,bU,dV.F,bU,fc.F,jk]
 cases h:lG b with
 |false=>rfl
 |true=>
  obtain⟨⟨h1,h2⟩,⟨h3,h4⟩,h5,h6⟩:=zr h
  rw[b8,au,fN.run (d:=b) trivial]
  simp only[ah,bU,fN.F,FN,h,if_true]
  rw[eH (by omega) (by omega)]
theorem fc.run:fc.RS:=rE [.d pQ] fc
def fc.sg:=fc.gC fc.ok
def rN(x:dh)(h:Int):Bool:=decide (x.2.2.2.2.1<=h/\(x.2.2.2.2.2.1=0\/h < x.2.2.2.2.2.1))
def EC(n:Int)(x:dh):Int:=if x.2.2.2.1≠0 then n+18+4 else n+18
def qE(l:List dh):Int:=if l.length=0 then 0 else l.foldl EC 18
theorem Cn:∀(l:List dh) (n:Int),n+18*(l.length:Int)<=l.foldl EC n/\l.foldl EC n<=n+22*(l.length:Int)
 |[],n=>by simp
 |x::l,n=>by
  have h1:=Cn l (EC n x)
  have h2:n+18<=EC n x/\EC n x<=n+22:=by unfold EC;split <;> omega
  rw[cU,aD]
  omega
theorem py(l:List dh):0<=qE l/\qE l<=18+22*(l.length:Int):=by
 unfold qE
 have:=Cn l 18
 split <;> omega
abbrev alone.D:=dh×Int
abbrev alone.Y:=Bool
def alone.aY:alone.D->Prop:=λ_=>True
def alone.F:alone.D->alone.Y:=λ(x,h)=>rN x h
def alone:Fs Tryz.prog alone.aY bU alone.F:=gh 55 Tryz.f55 (λ(x,atv)=>([.d c9 x,.d ti atv],[])) (λx=>⟨.d .bool x,[],[]⟩) [some c9,some ti]
theorem alone.eq{R:Type}(x atv)(k:K1 R):alone.A (x,atv) k=
  aK ((Ct x.2.2.2.2.1 atv)) (
   aK ((BX x.2.2.2.2.2.1 0)) (
    k (alone.out true)) (
    k (alone.out (iI atv x.2.2.2.2.2.1)))) (
   k (alone.out false)):=by kernel_rfl
theorem alone.ok:alone.Ok:=by
 rintro⟨x,h⟩ _
 rw[alone.eq]
 simp only[bU,alone.F,rN]
 by_cases a1:x.2.2.2.2.1<=h
 ·rw[kO a1,aj]
  by_cases a2:x.2.2.2.2.2.1=0
  ·rw[j6 a2,aj,decide_eq_true ⟨a1,.inl a2⟩]
  ·rw[iV a2,au]
   by_cases a3:h < x.2.2.2.2.2.1
   ·rw[bA a3,decide_eq_true ⟨a1,.inr a3⟩]
   ·rw[bl a3,decide_eq_false (λe=>e.2.elim a2 a3)]
 ·rw[iW a1,au,decide_eq_false (λe=>a1 e.1)]
theorem alone.run:alone.RS:=rE [.d c9,.d ti] alone
def alone.sg:=alone.gC alone.ok
abbrev bm.L0.D:=Int×(List dh)×Int×Int
abbrev bm.L0.Y:=Int
abbrev bm.D:=(List dh)
abbrev bm.Y:=Int
def bm.L0.aY:bm.L0.D->Prop:=λ(n,l,m,i)=>(l).length<=1000000000/\∃k:Nat,k<=(l).length/\i=k/\m=(l).length/\(0<=n)/\(n<=18+22*(k:Int))
def bm.L0.F:bm.L0.D->bm.L0.Y:=λ(n,l,m,i)=>(List.drop (Int.toNat i) l).foldl EC n
def bm.aY:bm.D->Prop:=λl=>l.length<=1000000000
def bm.F:bm.D->bm.Y:=λl=>qE l
def bm.L0:Ls bm.L0.aY bU bm.L0.F:=tq (λ(n,t9,t10,t11)=>⟨([.undef,.undef,.undef,.d ti n]++bB 5 ([.d (.slice c9) t9,.d ti t10,.d ti t11]++bB 12 [])),[],(List.replicate 24 [])⟩) (λx=>(.exit 0,⟨([.undef,.undef,.undef,.d ti x]++bB 20 []),[],(List.replicate 24 [])⟩))
def bm:Fs Tryz.prog bm.aY bU bm.F:=gh 46 Tryz.f46 (λl=>([.d (.slice c9) l],[])) (λx=>⟨.d ti x,[],[]⟩) [some (.slice c9)] [] {loops:=rH [(5,{bI:=[3,9,10,11]})],outs:=rG [(5,{bI:=[3]},{bI:=[2]})],jP:=sh [(5,bm.L0.E)]}
theorem bm.L0.run:bm.L0.RS:=rL [.d ti,.d (.slice c9),.d ti,.d ti] bm.L0
theorem bm.L0.step{R:Type}(n t9 t10 t11)(kn:K2 R)(kx:K3 R):bm.R 0 bm.L0 (n,t9,t10,t11) kn kx=
  aK ((iI t11 t10)) (
   aK (fa t11 (t9.length:Int)) (
   aK ((uD (nth c9 t9 (Int.toNat t11)).2.2.2.1 0)) (
    kn (bm.L0.st ((bN .i64 (bN .i64 n 18) 4),t9,t10,(bN .i64 t11 1)))) (
    kn (bm.L0.st ((bN .i64 n 18),t9,t10,(bN .i64 t11 1))))) none) (
   bm.L0.go kx n):=by kernel_rfl
theorem bm.eq{R:Type}(l)(k:K1 R):bm.A l k=
  aK ((BX (l.length:Int) 0)) (
   k (bm.out 0)) (
   aA (bm.L0.call (18,l,(l.length:Int),0)) λx1=>
   k (bm.out x1)):=by kernel_rfl
theorem bm.L0.ok:(bm.mO 0 bm.L0):=by
 refine(bm.oG 0 bm.L0) (λ(n,l,m,i)=>(l).length - Int.toNat i) ?_
 rintro⟨n,l,m,i⟩ ⟨hlen,k,hk,rfl,rfl,h1,h2⟩
 have hlen:(l).length<=1000000000:=hlen
 have hk:k<=(l).length:=hk
 have h1:0<=n:=h1
 have h2:n<=18+22*(k:Int):=h2
 by_cases h:k < (l).length
 ·left
  have n1:nth c9 l k=l[k]:=dM (t:=c9) h
  have hd:List.drop k l=l[k]::List.drop (k+1) l:=aC h
  refine⟨((EC n l[k]),l,((l).length:Int),((k+1:Nat):Int)),⟨hlen,k+1,by omega,rfl,rfl,by have:=(Cn [l[k]] n).1;simp only[cU,j1,aD,ba]at this;omega,by have:=(Cn [l[k]] n).2;simp only[cU,j1,aD,ba]at this;omega⟩,by simp only[aa];omega,?_,λkn kx=> ?_⟩
  ·simp only[bU,bm.L0.F,aa,hd,cU]
  ·rw[bm.L0.step,bA (by omega),bJ (by omega) (by omega),aa,n1]
   simp only[aj]
   rw[N.rD (by omega),eH (x:=n) (by omega) (by omega),eH (x:=n+18) (by omega) (by omega)]
   unfold EC
   by_cases hs:l[k].2.2.2.1=0
   ·rw[eX hs,au,if_neg (λe=>e hs)]
   ·rw[iX hs,aj,if_pos hs]
 ·right
  obtain rfl:k=(l).length:=by omega
  intro R kn kx
  rw[bm.L0.step,bl (by omega),au]
  simp only[bU,bm.L0.F,aa,bq,j1]
theorem bm.ok:bm.Ok:=by
 intro l (h:l.length<=1000000000)
 have z1:((0:Int)).toNat=0:=rfl
 rw[bm.eq]
 simp only[bU,bm.F,qE]
 by_cases h0:l.length=0
 ·rw[j6 (by omega),aj,if_pos h0]
 ·rw[iV (by omega),au,if_neg h0,bm.L0.run (d:=(18,l,(l.length:Int),0)) ⟨h,0,bh _,rfl,rfl,by decide,by decide⟩]
  simp only[ah,bU,bm.L0.F,z1,aJ]
theorem bm.run:bm.RS:=rE [.d (.slice c9)] bm
def bm.sg:=bm.gC bm.ok 1 ⟨.js bm.L0.ok,trivial⟩
abbrev bW.L0.D:=Nat×Int×Int×iK×Int×Nat×(Int×(Int×(Int×(Int×Unit))))×iK×Int×(Int×(Int×(Int×(Int×Unit))))×(List uB)
abbrev bW.L0.Y:=(List uB)
abbrev bW.L0.X:=(iK×Int×Nat×(Int×(Int×(Int×(Int×Unit))))×iK×Int×(Int×(Int×(Int×(Int×Unit)))))×((List uB))
def bW.L0.add:bW.L0.D->bW.L0.Y->bW.L0.X:=λ(H3,t17,t18,n1,wB,Cu,ug,n2,qd,pd,n9) y=>((n1,wB,Cu,ug,n2,qd,pd),y)
abbrev bW.D:=dh
abbrev bW.Y:=dh
def bW.L0.aY:bW.L0.D->Prop:=λ(m,t,i,_,_,n,_,_,_,_,l)=>(l.length<=1000/\∀b∈l,b.1.length<=1000000)/\∃k:Nat,k<=l.length/\i=k/\n=l.length/\m=l.length/\t=l.length
def bW.L0.F:bW.L0.D->bW.L0.Y:=λ(_,_,_,_,_,_,_,_,_,_,l)=>l
def bW.aY:bW.D->Prop:=λx=>PQ x.2.1.2.1
def bW.F:bW.D->bW.Y:=λx=>x
def bW.L0:Ls bW.L0.aY bW.L0.add bW.L0.F:=tq (λ(H3,t17,t18,n1,wB,Cu,ug,n2,qd,pd,n9)=>⟨([.undef,.ptr (.new 1 0) 0 [] 0,.ptr (.new 2 0) 0 [] 0]++bB 13 ([.cD (.new 9 0) 0 [] 0 0 H3,.d ti t17,.d ti t18]++bB 16 [])),[],([[],[.obj 0 false (.pr (.d fA n1) (.pr (.pr (.d ti wB) (.pr (.pr (.cD (.new 9 0) 0 [] 0 0 Cu) (.d .unit ())) (.d .unit ()))) (.d (.pair ti (.pair tu (.pair ti (.pair ti .unit)))) ug)))],[.obj 0 false (.pr (.d fA n2) (.pr (.pr (.d ti qd) (.pr (.pr (.db) (.d .unit ())) (.d .unit ()))) (.d (.pair ti (.pair tu (.pair ti (.pair ti .unit)))) pd)))]]++cR 6 ([[.obj 0 false (.vec 29 pR n9)]]++cR 25 []))⟩) (λx=>(.exit 0,⟨([.undef,.ptr (.new 1 0) 0 [] 0,.ptr (.new 2 0) 0 [] 0]++bB 32 []),[],([[],[.obj 0 false (.pr (.d fA x.1.1) (.pr (.pr (.d ti x.1.2.1) (.pr (.pr (.cD (.new 9 0) 0 [] 0 0 x.1.2.2.1) (.d .unit ())) (.d .unit ()))) (.d (.pair ti (.pair tu (.pair ti (.pair ti .unit)))) x.1.2.2.2.1)))],[.obj 0 false (.pr (.d fA x.1.2.2.2.2.1) (.pr (.pr (.d ti x.1.2.2.2.2.2.1) (.pr (.pr (.db) (.d .unit ())) (.d .unit ()))) (.d (.pair ti (.pair tu (.pair ti (.pair ti .unit)))) x.1.2.2.2.2.2.2)))]]++cR 6 ([[.obj 0 false (.vec 29 pR x.2)]]++cR 25 []))⟩))
def bW:Fs Tryz.prog bW.aY bU bW.F:=gh 101 Tryz.f101 (λx=>([.d c9 x],[])) (λx=>⟨.d c9 x,[],[]⟩) [some c9] [kK.sg,eI.sg] {bo:=[1],loops:=rH [(3,{bI:=[1,2,16,17,18],sites:=[1,2,9]})],outs:=rG [(3,{bI:=[1,2],sites:=[1,2,9]},{bI:=[2]})],jP:=sh [(3,bW.L0.E)],res:=[some c9]}
theorem bW.L0.run:bW.L0.RS:=rL [.n,.d ti,.d ti,.d fA,.d ti,.n,.d (.pair ti (.pair tu (.pair ti (.pair ti .unit)))),.d fA,.d ti,.d (.pair ti (.pair tu (.pair ti (.pair ti .unit)))),.d (.slice pR)] bW.L0
theorem bW.L0.step{R:Type}(H3 t17 t18 n1 wB Cu ug n2 qd pd n9)(kn:K2 R)(kx:K3 R):bW.R 0 bW.L0 (H3,t17,t18,n1,wB,Cu,ug,n2,qd,pd,n9) kn kx=
  aK ((iI t18 t17)) (
   aK (fa t18 ((H3:Nat):Int)) (
   aK (decide ((0+(Int.toNat t18)) < (List.length n9))) (
   aK (decide ((((0+(Int.toNat t18))*4)+0)=(0+((Int.toNat t18)*4)))) (
   aA (eI.call (nth pR n9 (0+(Int.toNat t18))).1) λx1=>
   aK (fa t18 ((Cu:Nat):Int)) (
   aK (decide ((0+(Int.toNat t18)) < (List.length n9))) (
   aK (decide ((((0+(Int.toNat t18))*4)+0)=((0+((Int.toNat t18)*4))+0))) (
   aK (decide ((0+(Int.toNat t18)) < (List.length n9))) (
   kn (bW.L0.st (H3,t17,(bN .i64 t18 1),n1,wB,Cu,ug,n2,qd,pd,(List.set n9 (0+(Int.toNat t18)) (x1,(nth pR n9 (0+(Int.toNat t18))).2))))) none) none) none) none) none) none) none) (
   bW.L0.go kx ((n1,wB,Cu,ug,n2,qd,pd),n9)):=by kernel_rfl
theorem bW.eq{R:Type}(x)(k:K1 R):bW.A x k=
 aA (kK.call x.2.1.2.1.1) λx1=>
 aA (bW.L0.call (x1.1,((x1.1:Nat):Int),0,x.1,x.2.1.1,x1.1,x.2.2,((List.replicate 32 0),(0,())),0,(0,(0,(0,(0,())))),x1.2)) λx3=>
 aK (decide (0=0/\(0+x3.1.2.2.1)<=(List.length x3.2))) (
 k (bW.out (x3.1.1,((x3.1.2.1,(((cut x3.2 0 x3.1.2.2.1),()),())),x3.1.2.2.2.1)))) none:=by kernel_rfl
theorem bW.L0.ok:(bW.mO 0 bW.L0):=by
 refine(bW.oG 0 bW.L0) (λ(_,_,i,_,_,_,_,_,_,_,l)=>l.length - i.toNat) ?_
 rintro⟨m,t,i,a1,a2,n,a3,a4,a5,a6,l⟩ ⟨⟨hlen,hx⟩,k,hk,rfl,rfl,rfl,rfl⟩
 have hlen:l.length<=1000:=hlen
 have hk:k<=l.length:=hk
 by_cases h:k < l.length
 ·left
  have n1:nth pR l k=l[k]:=dM (t:=pR) h
  have hs:l.set k l[k]=l:=eU h
  have e:=hx _ (b5 h)
  refine⟨(l.length,(l.length:Int),((k+1:Nat):Int),a1,a2,l.length,a3,a4,a5,a6,l),⟨⟨hlen,hx⟩,k+1,by omega,rfl,rfl,rfl,rfl⟩,by simp only[aa];omega,rfl,λkn kx=> ?_⟩
  rw[bW.L0.step,bA (by omega),bJ (by omega) (by omega)]
  simp only[aa,aN,cq,aj,aX h,decide_true,n1]
  rw[eI.run (d:=l[k].1) e]
  simp only[ah,bU,eI.F]
  rw[N.rD (by omega)]
  exact congrArg (λz=>kn (bW.L0.st (_,_,_,_,_,_,_,_,_,_,z))) hs
 ·right
  obtain rfl:k=l.length:=by omega
  intro R kn kx
  rw[bW.L0.step,bl (by omega),au]
  rfl
theorem bW.ok:bW.Ok:=by
 rintro⟨a,⟨am,⟨l,u⟩,u2⟩,r⟩ ⟨h1,h2⟩
 have h1:l.length<=1000:=h1
 rw[bW.eq,kK.run (d:=l) (by show l.length<=_;omega)]
 simp only[ah,bU,kK.F]
 rw[bW.L0.run (d:=(l.length,(l.length:Int),0,a,am,l.length,r,(List.replicate 32 0,0,()),0,(0,0,0,0,()),l)) ⟨⟨h1,h2⟩,0,bh _,rfl,rfl,rfl,rfl⟩]
 simp only[ah,bW.L0.add,bW.L0.F,bU,bW.F]
 rw[aX ⟨trivial,by omega⟩,aj,iq rfl]
theorem bW.run:bW.RS:=rE [.d c9] bW
def bW.sg:=bW.gC bW.ok 1 ⟨.js bW.L0.ok,trivial⟩
abbrev dN.D:=dh×dh
abbrev dN.Y:=Int
def dN.aY:dN.D->Prop:=λ(x,y)=>x.1.1.length=32/\y.1.1.length=32
def dN.F:dN.D->dN.Y:=λ(x,y)=>yk x.1 y.1
def dN:Fs Tryz.prog dN.aY bU dN.F:=gh 104 Tryz.f104 (λ(x,yv)=>([.d c9 x,.d c9 yv],[])) (λx=>⟨.d ti x,[],[]⟩) [some c9,some c9] [lW.sg,jq.sg,fh.sg]
theorem dN.eq{R:Type}(x yv)(k:K1 R):dN.A (x,yv) k=
 aA (lW.call ((cut x.1.1 0 32),(cut yv.1.1 0 32))) λx1=>
 aA (jq.call (x.1.2.1,yv.1.2.1)) λx2=>
 aA (fh.call [x1,x2]) λx3=>
 k (dN.out x3):=by kernel_rfl
theorem dN.ok:dN.Ok:=by
 rintro⟨x,y⟩ ⟨h1,h2⟩
 have h1:x.1.1.length=32:=h1
 have h2:y.1.1.length=32:=h2
 rw[dN.eq,lW.run (d:=(cut x.1.1 0 32,cut y.1.1 0 32)) trivial,iq h1,iq h2]
 simp only[ah,bU,lW.F]
 rw[jq.run (d:=(x.1.2.1,y.1.2.1)) trivial]
 simp only[ah,bU,jq.F]
 rw[fh.run (d:=[yi x.1.1 y.1.1,rT x.1.2.1 y.1.2.1]) (by show 2<=_;decide)]
 rfl
theorem dN.run:dN.RS:=rE [.d c9,.d c9] dN
def dN.sg:=dN.gC dN.ok
def oT(x y:dh):Int:=LX [rT x.2.2.2.2.2.1 y.2.2.2.2.2.1,yk x.1 y.1]
def z6(x y:dh):Int:=yk x.1 y.1
abbrev gu.D:=dh×dh
abbrev gu.Y:=Int
def gu.aY:gu.D->Prop:=λ(x,y)=>x.1.1.length=32/\y.1.1.length=32
def gu.F:gu.D->gu.Y:=λ(x,y)=>oT x y
def gu:Fs Tryz.prog gu.aY bU gu.F:=gh 103 Tryz.f103 (λ(x,yv)=>([.d c9 x,.d c9 yv],[])) (λx=>⟨.d ti x,[],[]⟩) [some c9,some c9] [jq.sg,dN.sg,fh.sg]
theorem gu.eq{R:Type}(x yv)(k:K1 R):gu.A (x,yv) k=
 aA (jq.call (x.2.2.2.2.2.1,yv.2.2.2.2.2.1)) λx1=>
 aA (dN.call (x,yv)) λx2=>
 aA (fh.call [x1,x2]) λx3=>
 k (gu.out x3):=by kernel_rfl
theorem gu.ok:gu.Ok:=by
 rintro⟨x,y⟩ h
 rw[gu.eq,jq.run (d:=(x.2.2.2.2.2.1,y.2.2.2.2.2.1)) trivial]
 simp only[ah,bU,jq.F]
 rw[dN.run (d:=(x,y)) h]
 simp only[ah,bU,dN.F]
 rw[fh.run (d:=[rT x.2.2.2.2.2.1 y.2.2.2.2.2.1,yk x.1 y.1]) (by show 2<=_;decide)]
 rfl
theorem gu.run:gu.RS:=rE [.d c9,.d c9] gu
def gu.sg:=gu.gC gu.ok
def Cx(x:dh):Prop:=J2 x.1
def pt(x:dh):List Int:=x.2.2.2.2.2.1::oE x.1
theorem kV{x:dh}(h:Cx x):(pt x).length=34:=by unfold pt;rw[aD,j8 h]
theorem lY{x y:dh}(hx:Cx x)(hy:Cx y):oT x y=lx (pt x) (pt y):=by
 unfold oT pt
 rw[lX hx hy]
 simp only[LX]
 by_cases h:x.2.2.2.2.2.1=y.2.2.2.2.2.1
 ·have e:rT x.2.2.2.2.2.1 y.2.2.2.2.2.1=0:=by unfold rT;rw[if_neg (by omega),if_neg (by omega)]
  rw[e,if_neg (λe=>e rfl),h,xV]
  split
  ·rfl
  ·rename_i h0;exact(Classical.not_not.1 h0).symm
 ·rw[sQ h]
  by_cases h1:x.2.2.2.2.2.1 < y.2.2.2.2.2.1
  ·have e:rT x.2.2.2.2.2.1 y.2.2.2.2.2.1= -1:=by unfold rT;rw[if_pos h1]
   rw[e,if_pos h1,if_pos (by decide)]
  ·have e:rT x.2.2.2.2.2.1 y.2.2.2.2.2.1=1:=by unfold rT;rw[if_neg h1,if_pos (by omega)]
   rw[e,if_neg h1,if_pos (by decide)]
theorem yj:Lh Tryz.prog c9 104 Cx z6:= {
 bG:=⟨dN.E,dN.sg.h.1 (by rfl),λx y hx hy=>⟨_,dN.run (d:=(x,y)) ⟨hx.1,hy.1⟩,rfl⟩⟩
 enters:=enters_of Tryz.func104 (by kernel_rfl) rfl
 irrefl:=λx hx=>ym.irrefl _ hx
 trans:=λx y z hx hy hz=>ym.trans _ _ _ hx hy hz
 ntrans:=λx y z hx hy hz=>ym.ntrans _ _ _ hx hy hz}
theorem vY:Lh Tryz.prog c9 103 Cx oT:= {
 bG:=⟨gu.E,gu.sg.h.1 (by rfl),λx y hx hy=>⟨_,gu.run (d:=(x,y)) ⟨hx.1,hy.1⟩,rfl⟩⟩
 enters:=enters_of Tryz.func103 (by kernel_rfl) rfl
 irrefl:=λx hx=>by rw[lY hx hx,B4];decide
 trans:=λx y z hx hy hz h1 h2=>by
  rw[lY hx hy]at h1
  rw[lY hy hz]at h2
  rw[lY hx hz]
  have:=si (by rw[kV hx,kV hy]) (by rw[kV hy,kV hz]) (by omega:lx (pt x) (pt y)<=0) (by omega:lx (pt y) (pt z)<=0)
  have h3:=this.1
  by_cases h4:lx (pt x) (pt z)=0
  ·have:=(this.2 h4).1;omega
  ·omega
 ntrans:=λx y z hx hy hz h1 h2=>by
  rw[lY hx hy]at h1
  rw[lY hy hz]at h2
  rw[lY hx hz]
  have e1:=qT (pt x) (pt y)
  have e2:=qT (pt y) (pt z)
  have e3:=qT (pt x) (pt z)
  have:=(si (by rw[kV hz,kV hy]) (by rw[kV hy,kV hx]) (by omega:lx (pt z) (pt y)<=0) (by omega:lx (pt y) (pt x)<=0)).1
  omega}
theorem wV{x y:dh}(hx:Cx x)(hy:Cx y)(h1:¬oT x y < 0)(h2:¬oT y x < 0):x.1=y.1:=by
 rw[lY hx hy]at h1
 rw[lY hy hx,qT]at h2
 have:=Jo (by rw[kV hx,kV hy]) (by omega:lx (pt x) (pt y)=0)
 exact DP hx hy (List.cons.inj this).2
def Ox(g:Nat):List av->Bool:=λvs=>match vs with | [_,.fn f _]=>Nat.beq f g | _=>false
def Eg.E:Entry:=JQ 104 117 c9 Cx z6
def Eg.call:Nat×List dh->Option (Nat×List dh):=yc 104 117 c9 Cx z6
theorem Eg.run{d:Nat×List dh}(h:wM (t:=c9) Cx z6 d):Eg.call d=some (d.1,tf (t:=c9) z6 d.2):=Ch h
def Eg.sg:SG Tryz.prog:=⟨102,Ox 104,Eg.E,.of (Ei Tryz.JP (by rfl) (λw=>Tryz.isAgg117 w) (λw=>Tryz.sizeOf117 w) yj) (by rfl)⟩
def Eh.E:Entry:=JQ 103 117 c9 Cx oT
def Eh.call:Nat×List dh->Option (Nat×List dh):=yc 103 117 c9 Cx oT
theorem Eh.run{d:Nat×List dh}(h:wM (t:=c9) Cx oT d):Eh.call d=some (d.1,tf (t:=c9) oT d.2):=Ch h
def Eh.sg:SG Tryz.prog:=⟨102,Ox 103,Eh.E,.of (Ei Tryz.JP (by rfl) (λw=>Tryz.isAgg117 w) (λw=>Tryz.sizeOf117 w) vY) (by rfl)⟩
abbrev bn.L0.D:=(List dh)×Int×Int×pD×gD
abbrev bn.L0.Y:=gD
abbrev bn.L0.X:=(pD)×(gD)
def bn.L0.add:bn.L0.D->bn.L0.Y->bn.L0.X:=λ(t12,t13,t14,n2,n3) y=>(n2,y)
abbrev bn.D:=(List dh)
abbrev bn.Y:=gD
def La(u:Int)(x:dh):Int:=if x.2.2.2.2.2.1≠0/\(u=0\/x.2.2.2.2.2.1 < u) then x.2.2.2.2.2.1 else u
def RV(l:List dh):Int:=l.foldl La 0
def fp(l:List dh):gD:=(l,(qE l,(qE l,(RV l,()))))
def Ku(g:gD)(x:dh):gD:=(g.1,(g.2.1,(g.2.2.1,(La g.2.2.2.1 x,g.2.2.2.2))))
theorem AY:∀(l:List dh) (g:gD),l.foldl Ku g=(g.1,(g.2.1,(g.2.2.1,(l.foldl La g.2.2.2.1,g.2.2.2.2))))
 |[],g=>rfl
 |x::l,g=>by rw[cU,AY l];rfl
def bn.L0.aY:bn.L0.D->Prop:=λ(l,n,i,z,g)=>(l).length<=1000000000/\∃k:Nat,k<=(l).length/\i=k/\n=(l).length
def bn.L0.F:bn.L0.D->bn.L0.Y:=λ(l,n,i,z,g)=>(List.drop (Int.toNat i) l).foldl Ku g
def bn.aY:bn.D->Prop:=λl=>l.length<=1000000000
def bn.F:bn.D->bn.Y:=λl=>fp l
def bn.L0:Ls bn.L0.aY bn.L0.add bn.L0.F:=tq (λ(t12,t13,t14,n2,n3)=>⟨([.undef,.undef,.ptr (.new 2 0) 0 [] 0,.ptr (.new 3 0) 0 [] 0]++bB 8 ([.d (.slice c9) t12,.d ti t13,.d ti t14]++bB 23 [])),[],([[],[],[.obj 0 false (.pr (.db) (.d pQ n2))],[.obj 0 false (.d fi n3)]]++cR 34 [])⟩) (λx=>(.exit 0,⟨([.undef,.undef,.ptr (.new 2 0) 0 [] 0,.ptr (.new 3 0) 0 [] 0]++bB 34 []),[],([[],[],[.obj 0 false (.pr (.db) (.d pQ x.1))],[.obj 0 false (.d fi x.2)]]++cR 34 [])⟩))
def bn:Fs Tryz.prog bn.aY bU bn.F:=gh 105 Tryz.f105 (λl=>([.d (.slice c9) l],[])) (λx=>⟨.d fi x,[],[]⟩) [some (.slice c9)] [bm.sg] {loops:=rH [(3,{bI:=[2,3,12,13,14],sites:=[2,3]})],outs:=rG [(3,{bI:=[2,3],sites:=[2,3]},{bI:=[2]})],jP:=sh [(3,bn.L0.E)]}
theorem bn.L0.run:bn.L0.RS:=rL [.d (.slice c9),.d ti,.d ti,.d pQ,.d fi] bn.L0
theorem bn.L0.step{R:Type}(t12 t13 t14 n2 n3)(kn:K2 R)(kx:K3 R):bn.R 0 bn.L0 (t12,t13,t14,n2,n3) kn kx=
  aK ((iI t14 t13)) (
   aK (fa t14 (t12.length:Int)) (
   aK ((uD (nth c9 t12 (Int.toNat t14)).2.2.2.2.2.1 0)) (
    aK ((BX n3.2.2.2.1 0)) (
     kn (bn.L0.st (t12,t13,(bN .i64 t14 1),n2,(n3.1,(n3.2.1,(n3.2.2.1,((nth c9 t12 (Int.toNat t14)).2.2.2.2.2.1,n3.2.2.2.2))))))) (
     aK ((iI (nth c9 t12 (Int.toNat t14)).2.2.2.2.2.1 n3.2.2.2.1)) (
      kn (bn.L0.st (t12,t13,(bN .i64 t14 1),n2,(n3.1,(n3.2.1,(n3.2.2.1,((nth c9 t12 (Int.toNat t14)).2.2.2.2.2.1,n3.2.2.2.2))))))) (
      kn (bn.L0.st (t12,t13,(bN .i64 t14 1),n2,n3))))) (
    kn (bn.L0.st (t12,t13,(bN .i64 t14 1),n2,n3)))) none) (
   bn.L0.go kx (n2,n3)):=by kernel_rfl
theorem bn.eq{R:Type}(l)(k:K1 R):bn.A l k=
 aA (bm.call l) λx1=>
 aA (bm.call l) λx2=>
 aA (bn.L0.call (l,(l.length:Int),0,(0,(0,(0,()))),(l,(x1,(x2,(0,())))))) λx3=>
 k (bn.out x3.2):=by kernel_rfl
theorem bn.L0.ok:(bn.mO 0 bn.L0):=by
 refine(bn.oG 0 bn.L0) (λ(l,n,i,z,g)=>(l).length - Int.toNat i) ?_
 rintro⟨l,n,i,z,g⟩ ⟨hlen,k,hk,rfl,rfl⟩
 have hlen:(l).length<=1000000000:=hlen
 have hk:k<=(l).length:=hk
 by_cases h:k < (l).length
 ·left
  have n1:nth c9 l k=l[k]:=dM (t:=c9) h
  have hd:List.drop k l=l[k]::List.drop (k+1) l:=aC h
  refine⟨(l,((l).length:Int),((k+1:Nat):Int),z,(Ku g l[k])),⟨hlen,k+1,by omega,rfl,rfl⟩,by simp only[aa];omega,?_,λkn kx=> ?_⟩
  ·simp only[bn.L0.add,bn.L0.F,aa,hd,cU]
  ·rw[bn.L0.step,bA (by omega),bJ (by omega) (by omega),aa,n1]
   simp only[aj]
   rw[N.rD (by omega)]
   unfold Ku La
   by_cases h1:l[k].2.2.2.2.2.1=0
   ·rw[eX h1,au,if_neg (λe=>e.1 h1)]
   ·rw[iX h1,aj]
    by_cases h2:g.2.2.2.1=0
    ·rw[j6 h2,aj,if_pos ⟨h1,.inl h2⟩]
    ·rw[iV h2,au]
     by_cases h3:l[k].2.2.2.2.2.1 < g.2.2.2.1
     ·rw[bA h3,aj,if_pos ⟨h1,.inr h3⟩]
     ·rw[bl h3,au,if_neg (λe=>e.2.elim h2 h3)]
 ·right
  obtain rfl:k=(l).length:=by omega
  intro R kn kx
  rw[bn.L0.step,bl (by omega),au]
  simp only[bn.L0.add,bn.L0.F,aa,bq,j1]
theorem bn.ok:bn.Ok:=by
 intro l (h:l.length<=1000000000)
 have z1:((0:Int)).toNat=0:=rfl
 rw[bn.eq,bm.run (d:=l) h]
 simp only[ah,bU,bm.F]
 rw[bn.L0.run (d:=(l,(l.length:Int),0,(0,(0,(0,()))),(l,(qE l,(qE l,(0,())))))) ⟨h,0,bh _,rfl,rfl⟩]
 simp only[ah,bn.L0.add,bn.L0.F,z1,aJ,AY]
 rfl
theorem bn.run:bn.RS:=rE [.d (.slice c9)] bn
def bn.sg:=bn.gC bn.ok 1 ⟨.js bn.L0.ok,trivial⟩
def PN(c:zS):Prop:=pH c.1.2.1=true/\Li c.1.2.1/\0<=c.1.1/\c.1.1<=1125899906842624/\0<=c.2.1/\c.2.1<=1048576
def RY(a:List (iK×zS)):Prop:=(a.map (·.1)).Nodup/\∀p∈a,J2 p.1/\PN p.2
theorem RY.get{a:List (iK×zS)}(h:RY a){o:iK}{c:zS}(hg:dD fA o a=some c):PN c:=(h.2 _ ((km jG h.1).1 hg)).2
def PK:zS:=((0,(([],()),())),(0,()))
theorem PN.own{c:zS}(h:PN c):PQ c.1.2.1:=by
 have:=Jm h.1
 exact⟨by omega,λb hb=>by have:=this.2 b hb;omega⟩
def Pv(h:Int)(id:List Int)(a:List (iK×zS)):List jd->Int->Int⊕Int
 |[],jb=> .inr jb
 |x::l,jb=>match dD fA x.1 a with
  |none=> .inl 5
  |some c=>if LW c.1.2.1 x.2.1 id h (h - c.2.1)≠0 then .inl (LW c.1.2.1 x.2.1 id h (h - c.2.1)) else Pv h id a l (jb+c.1.1)
def ui(l:List mw):Int:=(l.map (·.1)).sum
theorem A5{t:jI}(h:kU t=true):(nX t).length=t.2.1.length:=by
 unfold nX
 rw[if_pos h]
 simp[Jp]
def CX(l:List iK)(a:List (iK×zS)):List (iK×zS):=l.foldl (λm o=>jV fA o m) a
def BB(h:Int):List iK->List mw->List (iK×zS)->List (iK×zS)
 |o::l,x::xs,a=>BB h l xs (gX fA o (x,(h,())) a)
 |_,_,a=>a
def ye(t:jI)(h:Int)(a:List (iK×zS)):List (iK×zS):=BB h (nX t) t.2.1 (CX (iN t) a)
theorem I7{t:jI}(h:kU t=true):(iN t).length=t.1.length:=by
 unfold iN
 rw[if_pos h,ct]
theorem JM(k:Int)(m:List Int):RZ (rB k m):=by
 unfold rB
 split
 ·exact⟨(K7 _).u,(Kb _ _).u⟩
 ·exact⟨⟨dW 0,by decide⟩,dW 0,by decide⟩
theorem C4:∀(l l':List jd) (b:List Int),l.map (·.1)=l'.map (·.1)->l.foldl zW b=l'.foldl zW b
 |[],[],_,_=>rfl
 |[],_::_,_,h=>by cases h
 |_::_,[],_,h=>by cases h
 |x::l,y::l',b,h=>by
  rw[bE,bE,dp]at h
  have e:zW b x=zW b y:=by unfold zW;rw[h.1]
  rw[cU,cU,e,C4 l l' _ h.2]
theorem HN{l l':List jd}(t:List mw×Int×Unit)(h:l.map (·.1)=l'.map (·.1)):sq (l,t)=sq (l',t):=by
 have hl:l.length=l'.length:=by have:=congrArg List.length h;simpa using this
 unfold sq
 simp only[hl]
 rw[C4 l l' _ h]
theorem Ds:∀(l l':List jd) (m:List (iK×Bool)),l.map (·.1)=l'.map (·.1)->td m l=true->(∀x∈l',rC x.2.1=true)->td m l'=true
 |[],[],_,_,_,_=>rfl
 |[],_::_,_,h,_,_=>by cases h
 |_::_,[],_,h,_,_=>by cases h
 |x::l,y::l',m,h,hi,hw=>by
  rw[bE,bE,dp]at h
  rw[td,ag,ag]at hi ⊢
  have hx:=hi.1.2
  unfold yO at hx
  rw[ag]at hx
  refine⟨⟨?_,?_⟩,?_⟩
  ·have:=hi.1.1
   unfold w5 at this ⊢
   rw[<-h.1]
   exact this
  ·unfold yO
   rw[<-h.1,hx.1,hw y aG]
   rfl
  ·rw[<-h.1]
   exact Ds l l' _ h.2 hi.2 λz hz=>hw z (aF _ hz)
theorem JV{l l':List jd}{t:List mw×Int×Unit}(h:l.map (·.1)=l'.map (·.1))(oo:kU (l,t)=true)(hw:∀x∈l',rC x.2.1=true):kU (l',t)=true:=by
 have hl:l.length=l'.length:=by have:=congrArg List.length h;simpa using this
 unfold kU zN at oo ⊢
 rw[ag,ag]at oo ⊢
 simp only[hl]at oo
 exact⟨oo.1,Ds l l' _ h oo.2.1 hw,oo.2.2⟩
theorem GO{l l':List jd}{t:List mw×Int×Unit}(h:l.map (·.1)=l'.map (·.1))(h1:kU (l,t)=true)(h2:kU (l',t)=true):Er (l',t)=Er (l,t):=by
 unfold Er
 rw[h1,h2,HN t h]
theorem FU{l l':List jd}{t:List mw×Int×Unit}(h:l.map (·.1)=l'.map (·.1))(h1:kU (l,t)=true)(h2:kU (l',t)=true):iN (l',t)=iN (l,t):=by
 unfold iN
 rw[h1,h2]
 exact h.symm
theorem Jq{l l':List jd}{t:List mw×Int×Unit}(h:l.map (·.1)=l'.map (·.1))(h1:kU (l,t)=true)(h2:kU (l',t)=true):nX (l',t)=nX (l,t):=by
 unfold nX
 rw[h1,h2,GO h h1 h2]
def uo(t:jI)(k:Nat)(w:EJ):jI:=(t.1.set k ((nth ka t.1 k).1,w,()),t.2)
theorem vD(l:List jd)(k:Nat)(w:EJ)(h:k < l.length):l.map (·.1)=(l.set k ((nth ka l k).1,w,())).map (·.1):=by
 have n1:nth ka l k=l[k]:=dM (t:=ka) h
 rw[n1,List.map_set]
 have e:(l[k].1:iK)=(l.map (·.1))[k]'(by rw[ct];exact h):=by rw[List.getElem_map]
 show _=(l.map (·.1)).set k l[k].1
 rw[e,eU]
theorem D7{l:List jd}{k:Nat}{w:EJ}{x:jd}(h:k < l.length)(hx:x∈l.set k ((nth ka l k).1,w,())):x∈l\/(x.1=l[k].1/\x.2.1=w):=by
 have n1:nth ka l k=l[k]:=dM (t:=ka) h
 rw[n1]at hx
 rcases List.mem_or_eq_of_mem_set hx with h1 | h1
 ·exact .inl h1
 ·exact .inr ⟨by rw[h1],by rw[h1]⟩
theorem xY{t:jI}{k:Nat}{w:EJ}(h:k < t.1.length)(oo:kU t=true)(hw:rC w=true):kU (uo t k w)=true:=by
 obtain⟨_,b1,_⟩:=wO oo
 refine JV (l:=t.1) (vD t.1 k w h) oo λx hx=> ?_
 rcases D7 h hx with h1 | h1
 ·have:=uU _ _ b1 x h1
  unfold yO at this
  rw[ag]at this
  exact this.2
 ·rw[h1.2];exact hw
theorem Nu{t:jI}{k:Nat}{w:EJ}(h:k < t.1.length)(hv:Cq t)(hu:Mf w)(hl:w.2.1.length<=9223372036854775807):Cq (uo t k w):=by
 refine⟨⟨hv.1.1,by show(t.1.set k _).length<=_;rw[jw];exact hv.1.2.1,hv.1.2.2⟩,λx hx=> ?_,hv.2.2⟩
 rcases D7 h hx with h1 | h1
 ·exact hv.2.1 x h1
 ·refine⟨?_,by rw[h1.2];exact hu,by rw[h1.2];exact hl⟩
  rw[h1.1]
  exact(hv.2.1 _ (b5 h)).1
theorem KY{t:jI}{k:Nat}{w:EJ}(h:k < t.1.length)(oo:kU t=true)(hw:rC w=true):Er (uo t k w)=Er t/\iN (uo t k w)=iN t/\nX (uo t k w)=nX t:=
 ⟨GO (l:=t.1) (vD t.1 k w h) oo (xY h oo hw),FU (l:=t.1) (vD t.1 k w h) oo (xY h oo hw),Jq (l:=t.1) (vD t.1 k w h) oo (xY h oo hw)⟩
theorem JL(t:jI)(k:Nat)(w:EJ):(uo t k w).1.length=t.1.length:=jw
def xH(t:jI)(br:Int)(ks:List Int)(sc:Int):EJ:=(br,ks.map (λk=>rB k (Er t)),sc,())
theorem Ea(t:jI)(i br:Int)(ks:List Int)(sc:Int):nY t i br ks sc=if pk t i br ks then(uo t i.toNat (xH t br ks sc),0) else(([],[],0,()),1):=rfl
theorem D9{t:jI}{i br:Int}{ks:List Int}(h:pk t i br ks=true):kU t=true/\(0<=i/\i < t.1.length/\0<=br/\br < 4/\ks.length<=12)/\∀k∈ks,k < 2305843009213688669/\k≠0:=by
 unfold pk at h
 simp only[ag,decide_eq_true_eq,bp]at h
 refine⟨h.1,h.2.1,λk hk=> ?_⟩
 have:=h.2.2
 rw[ik]at this
 have:=this k hk
 unfold uI at this
 simpa using this
theorem KZ{t:jI}{i br:Int}{ks:List Int}(sc:Int)(h:pk t i br ks=true):rC (xH t br ks sc)=true:=by
 have e:=(D9 h).2.1
 unfold rC xH
 rw[aX ⟨e.2.2.1,e.2.2.2.1⟩,aX (by rw[ct];exact e.2.2.2.2)]
 rfl
theorem Nx(t:jI)(br:Int)(ks:List Int){sc:Int}(h:kX sc):Mf (xH t br ks sc):=⟨λs hs=>by
  obtain⟨k,_,rfl⟩:=cX.1 (show s∈ks.map λk=>rB k (Er t) from hs)
  exact JM k _,h⟩
theorem JN{t:jI}{i br sc:Int}{ks:List Int}(hv:Cq t)(h:pk t i br ks=true)(hs:kX sc):
  kU (uo t i.toNat (xH t br ks sc))=true/\Cq (uo t i.toNat (xH t br ks sc))/\Er (uo t i.toNat (xH t br ks sc))=Er t/\iN (uo t i.toNat (xH t br ks sc))=iN t/\nX (uo t i.toNat (xH t br ks sc))=nX t:=by
 obtain⟨oo,e,_⟩:=D9 h
 have hk:i.toNat < t.1.length:=by omega
 have hw:=KZ sc h
 exact⟨xY hk oo hw,Nu hk hv (Nx t br ks hs) (by show(ks.map _).length<=_;rw[ct];omega),KY hk oo hw⟩
def Qj(r:NN):Prop:=r.1.length<=1000000000/\Bytes r.1
structure TS(b:uB):Prop where
 len:b.1.length<=12
 af:ED b.2.1
 dl:ED b.2.2.1
def Om(r:NN):Prop:=Qj r/\(r.2.1=true->r.1=[])
def Ov(r r':NN)(e:List Int):Prop:=Om r'/\(r'.2.1=false->r.2.1=false/\r.1=e++r'.1)
theorem Ov.trans{r r1 r2:NN}{e1 e2:List Int}(h1:Ov r r1 e1)(h2:Ov r1 r2 e2):Ov r r2 (e1++e2):=
 ⟨h2.1,λh=>⟨(h1.2 (h2.2 h).1).1,by rw[(h1.2 (h2.2 h).1).2,(h2.2 h).2,bg]⟩⟩
theorem Ov.of{r r':NN}{e e':List Int}(h:Ov r r' e)(he:r'.2.1=false->e=e'):Ov r r' e':=⟨h.1,λh'=>by rw[<-he h'];exact h.2 h'⟩
theorem Ov.refl{r:NN}(h:Om r):Ov r r []:=⟨h,λh'=>⟨h',rfl⟩⟩
section
variable {β:Type} {kt:Ty}
theorem uO(hc:kt.comp=true)(o o':kt.den)(v:β):∀l:List (kt.den×β),dD kt o (gX kt o' v l)=if kt.beq o o'=true then some v else dD kt o l
 |[]=>by rw[HD,iD,wz]
 |p::l=>by
  rw[uc]
  by_cases h:kt.beq o' p.1=true
  ·rw[if_pos h,iD,iD]
   have e:=beq_eq kt _ _ hc h
   by_cases h2:kt.beq o o'=true
   ·rw[if_pos h2,if_pos h2]
   ·rw[if_neg h2,if_neg h2,if_neg (by rw[<-e];exact h2)]
  ·rw[if_neg h,iD,iD,uO hc o o' v l]
   by_cases h3:kt.beq o p.1=true
   ·rw[if_pos h3,if_pos h3,if_neg]
    intro h4
    apply h
    rw[<-beq_eq kt _ _ hc h4]
    exact h3
   ·rw[if_neg h3,if_neg h3]
theorem Gn(hc:kt.comp=true)(o o':kt.den):∀ {l:List (kt.den×β)},(l.map (·.1)).Nodup->dD kt o (jV kt o' l)=if kt.beq o o'=true then none else dD kt o l
 |[],_=>by rw[HC,wz];split <;> rfl
 |p::l,hn=>by
  rw[bE,cV]at hn
  rw[ub]
  by_cases h:kt.beq o' p.1=true
  ·rw[if_pos h,iD]
   have e:=beq_eq kt _ _ hc h
   by_cases h2:kt.beq o o'=true
   ·rw[if_pos h2]
    have e2:=beq_eq kt _ _ hc h2
    cases hg:dD kt o l with
    |none=>rfl
    |some v=>exact absurd (cX.2 ⟨_,(km hc hn.2).1 hg,rfl⟩) (by rw[e2,e];exact hn.1)
   ·rw[if_neg h2,if_neg (by rw[<-e];exact h2)]
  ·rw[if_neg h,iD,iD,Gn hc o o' hn.2]
   by_cases h3:kt.beq o p.1=true
   ·rw[if_pos h3,if_pos h3,if_neg]
    intro h4
    apply h
    rw[<-beq_eq kt _ _ hc h4]
    exact h3
   ·rw[if_neg h3,if_neg h3]
theorem get_none(hc:kt.comp=true){o:kt.den}{l:List (kt.den×β)}(hn:(l.map (·.1)).Nodup):dD kt o l=none↔o ∉ l.map (·.1):=by
 constructor
 ·intro h hm
  obtain⟨p,hp,e⟩:=cX.1 hm
  have e:p.1=o:=e
  have:=(km hc hn (x:=o) (v:=p.2)).2 (by rw[<-e];exact hp)
  rw[h]at this;cases this
 ·intro h
  cases hg:dD kt o l with
  |none=>rfl
  |some v=>exact absurd (cX.2 ⟨_,(km hc hn).1 hg,rfl⟩) h
theorem tt{l:List (kt.den×β)}(hn:(l.map (·.1)).Nodup):l.Nodup:=by
 induction l with
 |nil=>exact gQ
 |cons p l ih=>
  rw[bE,cV]at hn
  exact cV.2 ⟨λh=>hn.1 (cX.2 ⟨p,h,rfl⟩),ih hn.2⟩
theorem DW(hc:kt.comp=true){l l':List (kt.den×β)}(hn:(l.map (·.1)).Nodup)(hn':(l'.map (·.1)).Nodup)(h:∀o,dD kt o l=dD kt o l'):l.Perm l':=by
 rw[List.perm_ext_iff_of_nodup (tt hn) (tt hn')]
 rintro⟨o,v⟩
 rw[<-km hc hn,<-km hc hn',h]
end
theorem zY(a b:iK):(Ty.beq fA a b=true)↔a=b:=⟨beq_eq fA a b rfl,λh=>by rw[h];exact beq_refl fA b rfl⟩
abbrev At:=List (iK×zS)
abbrev pa(a:At):List iK:=a.map (·.1)
theorem MJ(o o':iK)(v:zS)(a:At):dD fA o (gX fA o' v a)=if o=o' then some v else dD fA o a:=by
 rw[uO jG]
 by_cases h:o=o'
 ·rw[if_pos ((zY _ _).2 h),if_pos h]
 ·rw[if_neg (λe=>h ((zY _ _).1 e)),if_neg h]
theorem Kp(o o':iK){a:At}(hn:(pa a).Nodup):dD fA o (jV fA o' a)=if o=o' then none else dD fA o a:=by
 rw[Gn jG _ _ hn]
 by_cases h:o=o'
 ·rw[if_pos ((zY _ _).2 h),if_pos h]
 ·rw[if_neg (λe=>h ((zY _ _).1 e)),if_neg h]
theorem E9{o:iK}{v:zS}{a:At}(hn:(pa a).Nodup):(pa (gX fA o v a)).Nodup:=xl jG hn
theorem o5{o:iK}{a:At}(hn:(pa a).Nodup):(pa (jV fA o a)).Nodup:=sm jG hn
theorem OA{a a':At}(hn:(pa a).Nodup)(hn':(pa a').Nodup)(h:∀o,dD fA o a=dD fA o a'):a.Perm a':=DW jG hn hn' h
theorem F0{o:iK}{c:zS}{a:At}(hn:(pa a).Nodup)(hg:dD fA o a=some c):a.Perm ((o,c)::jV fA o a):=by
 refine OA hn ?_ λx=> ?_
 ·show(o::pa (jV fA o a)).Nodup
  refine cV.2 ⟨?_,o5 hn⟩
  have:=(get_none jG (o5 (o:=o) hn)).1 (by rw[Kp o o hn,if_pos rfl])
  exact this
 ·rw[iD,Kp x o hn]
  by_cases h:x=o
  ·subst h;rw[if_pos ((zY _ _).2 rfl),hg]
  ·rw[if_neg (λe=>h ((zY _ _).1 e)),if_neg h]
theorem v7(o:iK)(l:List iK)(a:At):CX (o::l) a=CX l (jV fA o a):=rfl
theorem yq:∀(l:List iK) {a:At},(pa a).Nodup->(pa (CX l a)).Nodup
 |[],_,h=>h
 |o::l,a,h=>by rw[v7];exact yq l (o5 h)
theorem Lt(x:iK):∀(l:List iK) {a:At},(pa a).Nodup->dD fA x (CX l a)=if x∈l then none else dD fA x a
 |[],a,_=>by rw[if_neg (by simp)];rfl
 |o::l,a,h=>by
  rw[v7,Lt x l (o5 h),Kp x o h]
  by_cases h1:x∈l
  ·rw[if_pos h1,if_pos (aF _ h1)]
  ·rw[if_neg h1]
   by_cases h2:x=o
   ·rw[if_pos h2,if_pos (by rw[h2];exact aG ..)]
   ·rw[if_neg h2,if_neg (by simp[h1,h2])]
theorem vR(h:Int)(o:iK)(l:List iK)(x:mw)(xs:List mw)(a:At):BB h (o::l) (x::xs) a=BB h l xs (gX fA o (x,(h,())) a):=rfl
theorem Lr(h:Int)(x:iK):∀(l:List iK) (xs:List mw) (a:At),x ∉ l->dD fA x (BB h l xs a)=dD fA x a
 |[],[],_,_=>rfl
 |[],_::_,_,_=>rfl
 |_::_,[],_,_=>rfl
 |o::l,y::xs,a,hx=>by
  rw[vR,Lr h x l xs _ (λe=>hx (aF _ e)),MJ,if_neg (λe=>hx (by rw[e];exact aG ..))]
theorem Da(h:Int):∀(l:List iK) (xs:List mw) (a:At),l.Nodup->∀(k:Nat) (hk:k < l.length) (Dl:k < xs.length),dD fA l[k] (BB h l xs a)=some (xs[k],(h,()))
 |[],_,_,_,k,hk,_=>by simp at hk
 |_::_,[],_,_,k,_,hk=>by simp at hk
 |o::l,y::xs,a,hn,k,hk,Dl=>by
  rw[cV]at hn
  rw[vR]
  cases k with
  |zero=>
   show dD fA o _=some (y,(h,()))
   rw[Lr h o l xs _ hn.1,MJ,if_pos rfl]
  |succ k=>
   simp only[List.getElem_cons_succ]
   exact Da h l xs _ hn.2 k (by simpa using hk) (by simpa using Dl)
def rj(a:At)(l:List iK):Int:=(l.map λo=>((dD fA o a).getD PK).1.1).sum
theorem CY:∀(l:List iK) {a:At},(pa a).Nodup->l.Nodup->(∀o∈l,(dD fA o a).isSome=true)->rF (CX l a)=rF a - rj a l/\(CX l a).length+l.length=a.length
 |[],a,_,_,_=>by simp[CX,rj]
 |o::l,a,hn,hl,ht=>by
  rw[cV]at hl
  obtain⟨c,hc⟩:=bF.1 (ht o (aG ..))
  have hg:∀x∈l,dD fA x (jV fA o a)=dD fA x a:=λx hx=>by
   rw[Kp x o hn,if_neg (λe=>hl.1 (by rw[<-e];exact hx))]
  obtain⟨h1,h2⟩:=CY l (o5 (o:=o) hn) hl.2 λx hx=>by rw[hg x hx];exact ht x (aF _ hx)
  have hp:=F0 hn hc
  have h3:=GW hp
  have h4:=hp.length_eq
  have h5:rj (jV fA o a) l=rj a l:=by
   unfold rj
   congr 1
   exact fB λx hx=>by rw[hg x hx]
  rw[mB]at h3
  rw[aD]at h4
  rw[v7,h1,h5,aD]
  have h6:rj a (o::l)=c.1.1+rj a l:=by simp[rj,hc]
  rw[h6]
  exact⟨by have h3:rF a=c.1.1+rF (jV fA o a):=h3;omega,by omega⟩
theorem DT(x:mw)(xs:List mw):ui (x::xs)=x.1+ui xs:=by simp[ui]
theorem CA(h:Int):∀(l:List iK) (xs:List mw) {a:At},(pa a).Nodup->l.Nodup->l.length=xs.length->(∀o∈l,dD fA o a=none)->rF (BB h l xs a)=rF a+ui xs/\(BB h l xs a).length=a.length+l.length
 |[],[],a,_,_,_,_=>by simp[BB,ui]
 |[],_::_,_,_,_,he,_=>by simp at he
 |_::_,[],_,_,_,he,_=>by simp at he
 |o::l,x::xs,a,hn,hl,he,ht=>by
  rw[cV]at hl
  have h0:=(get_none jG hn).1 (ht o (aG ..))
  have e:gX fA o (x,(h,())) a=a++ [(o,(x,(h,())))]:=xk jG h0
  obtain⟨h1,h2⟩:=CA h l xs (E9 (o:=o) (v:=(x,(h,()))) hn) hl.2 (by simpa using he) λy hy=>by
   rw[MJ,if_neg (λe=>hl.1 (by rw[<-e];exact hy))];exact ht y (aF _ hy)
  rw[vR,h1,h2,e,CE,DT,aq]
  simp only[rF,bE,gr,List.sum_cons,List.sum_nil,aD,ba]
  omega
theorem yR:∀(l:List jd) (m:List (iK×Bool)),td m l=true->(l.map (·.1)).Nodup/\∀x∈l,dD fA x.1 m≠some true
 |[],_,_=>⟨gQ,λ_ h=>by cases h⟩
 |x::l,m,h=>by
  rw[td,ag,ag]at h
  obtain⟨⟨h1,_⟩,h2⟩:=h
  obtain⟨h3,h4⟩:=yR l _ h2
  have hs:∀y∈l,dD fA y.1 (gX fA x.1 true m)≠some true:=h4
  have ga:∀y∈l,y.1≠x.1:=λy hy e=>hs y hy (by rw[uO jG,if_pos ((zY _ _).2 e)])
  refine⟨?_,λy hy=> ?_⟩
  ·rw[bE,cV]
   refine⟨λhm=> ?_,h3⟩
   obtain⟨y,hy,e⟩:=cX.1 hm
   exact ga y hy e
  ·rcases cv.1 hy with rfl | hy
   ·intro e
    unfold w5 at h1
    rw[e]at h1
    cases h1
   ·have:=hs y hy
    rw[uO jG,if_neg (λe=>ga y hy ((zY _ _).1 e))]at this
    exact this
theorem Cf(t:jI):(iN t).Nodup:=by
 unfold iN
 split
 ·rename_i h
  exact(yR _ _ (wO h).2.1).1
 ·exact gQ
theorem y4(t:jI):(nX t).Nodup:=by
 unfold nX
 split
 ·unfold Jp
  refine List.Pairwise.map _ (λa b ga e=> ?_) (List.nodup_range' (s:=0) (n:=t.2.1.length) (step:=1))
  have:(a:Int)=b:=congrArg (λo:iK=>o.2.1) e
  exact ga (by omega)
 ·exact gQ
structure Bx(t:jI)(h:Int)(a:At)(jb:Int):Prop where
 ok:kU t=true
 h1:1<=h
 h2:h<=1048576
 ins:∃f,Pv h (Er t) a t.1 0= .inr f/\jb=f - ui t.2.1
 there:∀o∈iN t,(dD fA o a).isSome=true
 made:∀o∈nX t,dD fA o a=none
 Ow:jb=rj a (iN t) - ui t.2.1
 pos:0<=jb
section
variable {t:jI} {h jb:Int} {a:At}
theorem Bx.new(hc:Bx t h a jb){k:Nat}(hk:k < (nX t).length)(Dl:k < t.2.1.length):dD fA (nX t)[k] (ye t h a)=some (t.2.1[k],(h,())):=by
 unfold ye
 exact Da h _ _ _ (y4 t) k hk Dl
theorem Bx.sum(hc:Bx t h a jb)(ha:(pa a).Nodup):rF (ye t h a)=rF a - jb/\(ye t h a).length+t.1.length=a.length+t.2.1.length:=by
 obtain⟨d1,d2⟩:=CY (iN t) ha (Cf t) hc.there
 obtain⟨e1,e2⟩:=CA h (nX t) t.2.1 (yq (iN t) ha) (y4 t) (A5 hc.ok) λo ho=>by
  rw[Lt o _ ha];split
  ·rfl
  ·exact hc.made o ho
 have hf:=hc.Ow
 have hl:=I7 hc.ok
 have hm:=A5 hc.ok
 unfold ye
 rw[e1,e2,d1]
 exact⟨by omega,by omega⟩
end
end Go.Ab
namespace Go.Ab
open Go.Proofs
def Gc(x:dh):Bool:=decide (0<=x.2.1.1/\x.2.1.1<=1099511627776)
def pg:List (iK×Bool)->List dh->Bool
 |_,[]=>true
 |m,x::l=>if((dD fA x.1 m).getD false)=true then false else if Gc x=true then pg (gX fA x.1 true m) l else false
def wF(l:List dh):Bool:=decide (l.length<=64) && pg [] l
theorem zs:∀(l:List dh) (m:List (iK×Bool)),pg m l=true↔(l.map (·.1)).Nodup/\(∀x∈l,(dD fA x.1 m).getD false=false)/\∀x∈l,Gc x=true
 |[],m=>by simp[pg]
 |x::l,m=>by
  have ih:=zs l (gX fA x.1 true m)
  have hg:∀y:dh,(dD fA y.1 (gX fA x.1 true m)).getD false=if y.1=x.1 then true else(dD fA y.1 m).getD false:=λy=>by
   rw[uO (kt:=fA) jG]
   by_cases e:y.1=x.1
   ·rw[if_pos ((zY _ _).2 e),if_pos e];rfl
   ·rw[if_neg (λh=>e ((zY _ _).1 h)),if_neg e]
  simp only[pg,bE,cV,cv,forall_eq_or_imp]
  by_cases h1:(dD fA x.1 m).getD false=true
  ·rw[if_pos h1]
   refine⟨λh=>(by cases h),λh=> ?_⟩
   rw[h.2.1.1]at h1;cases h1
  ·rw[if_neg h1]
   have h1':(dD fA x.1 m).getD false=false:=by simpa using h1
   by_cases h2:Gc x=true
   ·rw[if_pos h2,ih]
    constructor
    ·rintro⟨a1,a2,a3⟩
     have hx:∀y∈l,y.1≠x.1:=λy hy e=>by
      have:=a2 y hy
      rw[hg,if_pos e]at this;cases this
     refine⟨⟨λhm=> ?_,a1⟩,⟨h1',λy hy=> ?_⟩,h2,a3⟩
     ·obtain⟨y,hy,e⟩:=cX.1 hm
      exact hx y hy e
     ·have:=a2 y hy
      rwa[hg,if_neg (hx y hy)]at this
    ·rintro⟨⟨b0,b1⟩,⟨_,b2⟩,_,b3⟩
     refine⟨b1,λy hy=> ?_,b3⟩
     rw[hg,if_neg (λe=>b0 (by rw[<-e];exact gk hy))]
     exact b2 y hy
   ·rw[if_neg h2]
    exact⟨λh=>(by cases h),λh=>absurd h.2.2.1 h2⟩
theorem um(l:List dh):wF l=true↔l.length<=64/\(l.map (·.1)).Nodup/\∀x∈l,0<=x.2.1.1/\x.2.1.1<=1099511627776:=by
 unfold wF
 rw[ag,decide_eq_true_eq,zs]
 refine and_congr Iff.rfl ⟨λh=>⟨h.1,λx hx=>of_decide_eq_true (h.2.2 x hx)⟩,λh=>⟨h.1,λx _=>rfl,λx hx=>decide_eq_true (h.2 x hx)⟩⟩
abbrev aT.L0.D:=(List dh)×Int×Int×(List (iK×Bool))
def aT.L0.st:aT.L0.D->AS:=λ(t10,t11,t12,n9)=>⟨([.undef,.undef,.undef,.lF (.new 9 0) 0]++bB 6 ([.d (.slice c9) t10,.d ti t11,.d ti t12]++bB 23 [])),[],(cR 9 ([[.obj 0 false (.mp fA .bool n9)]]++cR 26 []))⟩
abbrev aT.L0.Y0:=Unit
abbrev aT.L0.X0:=Unit
def aT.L0.dm:aT.L0.X0->Exit×AS:=λx=>(.ret,⟨([.undef,.undef,.d .bool false]++bB 33 []),[],(List.replicate 36 [])⟩)
abbrev aT.L0.Y1:=Unit
abbrev aT.L0.X1:=Unit
def aT.L0.gL:aT.L0.X1->Exit×AS:=λx=>(.exit 0,⟨(bB 36 []),[],(List.replicate 36 [])⟩)
abbrev aT.L0.X:=(aT.L0.X0)⊕(aT.L0.X1)
abbrev aT.L0.Y:=(aT.L0.Y0)⊕(aT.L0.Y1)
def aT.L0.out:aT.L0.X->Out (Exit×AS):=λx=> .br x.isLeft (.get x.getLeft? λa=> .ok (aT.L0.dm a)) (.get x.getRight? λb=> .ok (aT.L0.gL b))
def aT.L0.add:aT.L0.D->aT.L0.Y->aT.L0.X:=λ(t10,t11,t12,n9) y=>match y with | .inl y=> .inl y | .inr z=> .inr (z)
abbrev aT.D:=(List dh)
abbrev aT.Y:=Bool
def aT.L0.aY:aT.L0.D->Prop:=λ(l,n,i,_)=>l.length<=64/\n=(l.length:Int)/\∃k:Nat,k<=l.length/\i=k
def aT.L0.F:aT.L0.D->aT.L0.Y:=λ(l,_,i,m)=>if pg m (l.drop i.toNat)=true then .inr () else .inl ()
def aT.aY:aT.D->Prop:=λ_=>True
def aT.F:aT.D->aT.Y:=λl=>wF l
def aT.L0.E:=eE.js aT.L0.st aT.L0.aY aT.L0.add aT.L0.F aT.L0.out
def aT.L0.call:aT.L0.D->Option aT.L0.X:=kJ aT.L0.E aT.L0.st
def aT:Fs Tryz.prog aT.aY bU aT.F:=gh 99 Tryz.f99 (λl=>([.d (.slice c9) l],[])) (λx=>⟨.d .bool x,[],[]⟩) [some (.slice c9)] [] {loops:=rH [(5,{bI:=[3,10,11,12],sites:=[9]})],outs:=rG [(5,{},{bI:=[2]})],jP:=sh [(5,aT.L0.E)]}
def aT.L0.R:= @iA Tryz.prog (mR aT.G) aT.an 0 Tryz.f99 0 _ aT.L0.st
abbrev aT.L0.Ok:=pE Tryz.prog (mR aT.G) aT.an 0 Tryz.f99 0 aT.L0.st aT.L0.aY aT.L0.add aT.L0.F aT.L0.out
theorem aT.L0.run:nI aT.L0.call aT.L0.aY aT.L0.add aT.L0.F:=qz (qa [.d (.slice c9),.d ti,.d ti,.d (.slice (.pair fA .bool))] λ_=>by kernel_rfl)
theorem aT.L0.c8:qk @aT.L0.R aT.L0.st aT.L0.aY aT.L0.add aT.L0.F aT.L0.out aT.L0.Ok:=qI
theorem aT.L0.step{R:Type}(t10:(List dh))(t11:Int)(t12:Int)(n9:(List (iK×Bool)))(kn:AS->Option R)(kx:Exit->AS->Option R):aT.L0.R (t10,t11,t12,n9) kn kx=
  aK ((iI t12 t11)) (
   aK (fa t12 (((List.length t10):Nat):Int)) (
   aK (((dD fA (nth c9 t10 (Int.toNat t12)).1 n9).getD false)) (
    kx (aT.L0.dm ()).1 (aT.L0.dm ()).2) (
    aK ((iI (nth c9 t10 (Int.toNat t12)).2.1.1 (0:Int))) (
     kx (aT.L0.dm ()).1 (aT.L0.dm ()).2) (
     aK ((ot (nth c9 t10 (Int.toNat t12)).2.1.1 (1099511627776:Int))) (
      kx (aT.L0.dm ()).1 (aT.L0.dm ()).2) (
      kn (aT.L0.st (t10,t11,(bN .i64 t12 (1:Int)),(gX fA (nth c9 t10 (Int.toNat t12)).1 true n9))))))) none) (
   kx (aT.L0.gL ()).1 (aT.L0.gL ()).2):=by kernel_rfl
theorem aT.eq{R:Type}(l)(k:K1 R):aT.A l k=
  aK ((ot (l.length:Int) 64)) (
   k (aT.out false)) (
   aA (aT.L0.call (l,(l.length:Int),0,([]:List (iK×Bool)))) λx1=>
   aK (x1.isLeft) (
    aA (x1.getLeft?) λa2=>
    k (aT.out false)) (
    aA (x1.getRight?) λb3=>
    k (aT.out true))):=by kernel_rfl
theorem aT.L0.ok:aT.L0.Ok:=by
 refine aT.L0.c8 (λ(l,_,i,_)=>l.length - i.toNat) ?_
 rintro⟨l,n,i,m⟩ ⟨hl,rfl,k,hk,rfl⟩
 have hl:l.length<=64:=hl
 have hk:k<=l.length:=hk
 by_cases h:k < l.length
 ·have n1:nth c9 l k=l[k]:=dM (t:=c9) h
  have hd:l.drop k=l[k]::l.drop (k+1):=aC h
  by_cases h1:(dD fA l[k].1 m).getD false=true
  ·right
   refine⟨aT.L0.dm (),?_,λkn kx=> ?_⟩
   ·simp only[aT.L0.add,aT.L0.F,aa,hd,pg,if_pos h1,bK,if_false];rfl
   ·rw[aT.L0.step,bA (by omega),aj,bJ (by omega) (by omega),aj,aa,n1,h1,aj]
  ·have h1':(dD fA l[k].1 m).getD false=false:=by simpa using h1
   by_cases h2:Gc l[k]=true
   ·left
    have h3:=of_decide_eq_true h2
    refine⟨(l,(l.length:Int),((k+1:Nat):Int),gX fA l[k].1 true m),⟨hl,rfl,k+1,by omega,rfl⟩,by simp only[aa];omega,?_,λkn kx=> ?_⟩
    ·simp only[aT.L0.add,aT.L0.F,aa,hd,pg,if_neg h1,if_pos h2]
    ·rw[aT.L0.step,bA (by omega),aj,bJ (by omega) (by omega),aj,aa,n1,h1',au,bl (by omega),au,cZ (by omega),au,N.rD (by omega)]
   ·right
    refine⟨aT.L0.dm (),?_,λkn kx=> ?_⟩
    ·simp only[aT.L0.add,aT.L0.F,aa,hd,pg,if_neg h1,if_neg h2,bK,if_false];rfl
    ·rw[aT.L0.step,bA (by omega),aj,bJ (by omega) (by omega),aj,aa,n1,h1',au]
     by_cases h3:l[k].2.1.1 < 0
     ·rw[bA h3,aj]
     ·rw[bl h3,au,dv,aj]
      refine Classical.byContradiction λh4=>h2 (decide_eq_true ⟨by omega,by omega⟩)
 ·right
  obtain rfl:k=l.length:=by omega
  refine⟨aT.L0.gL (),?_,λkn kx=> ?_⟩
  ·simp only[aT.L0.add,aT.L0.F,aa,bq,pg,if_true];rfl
  ·rw[aT.L0.step,bl (by omega),au]
theorem aT.ok:aT.Ok:=by
 intro l _
 have z1:((0:Int)).toNat=0:=rfl
 rw[aT.eq]
 simp only[bU,aT.F,wF]
 by_cases h:l.length<=64
 ·rw[cZ (by omega),au,aT.L0.run (d:=(l,(l.length:Int),0,[])) ⟨h,rfl,0,bh _,rfl⟩,aX h]
  simp only[ah,aT.L0.add,aT.L0.F,z1,aJ]
  cases pg [] l <;> rfl
 ·rw[dv (by omega),aj,cn h]
  rfl
theorem aT.run:aT.RS:=rE [.d (.slice c9)] aT
def aT.sg:=aT.gC aT.ok 1 ⟨.js aT.L0.ok,trivial⟩
def iY(h:Int)(x:dh):Bool:=rN x h && !decide (x.2.1.1 < qE [x])
def gY(b:pD)(h:Int)(x:dh):Bool:=decide (x.2.2.2.2.2.1≠0/\x.2.2.2.2.2.1 - h<=2*jk b)
abbrev fC.D:=dh×Int×pD
abbrev fC.Y:=Bool
def fC.aY:fC.D->Prop:=λ(x,h,_)=>(1<=h/\h<=1048576)/\(x.2.2.2.2.2.1=0\/h < x.2.2.2.2.2.1)/\x.2.2.2.2.2.1<=9223372036854775807
def fC.F:fC.D->fC.Y:=λ(x,h,b)=>gY b h x
def fC:Fs Tryz.prog fC.aY bU fC.F:=gh 100 Tryz.f100 (λ(x,t1,t2)=>([.d c9 x,.eO ti t1,.eO pQ t2],[])) (λx=>⟨.d .bool x,[],[]⟩) [some c9,none,none] [fc.sg]
theorem fC.eq{R:Type}(x t1 t2)(k:K1 R):fC.A (x,t1,t2) k=
  aK ((uD x.2.2.2.2.2.1 0)) (
   aA (fc.call t2) λx1=>
   k (fC.out (Ct (dn .i64 x.2.2.2.2.2.1 t1) (gz .i64 2 x1)))) (
   k (fC.out false)):=by kernel_rfl
theorem fC.ok:fC.Ok:=by
 rintro⟨x,h,b⟩ ⟨⟨h1,h2⟩,h3,h4⟩
 have h3:x.2.2.2.2.2.1=0\/h < x.2.2.2.2.2.1:=h3
 have h4:x.2.2.2.2.2.1<=9223372036854775807:=h4
 have h1:1<=h:=h1
 have hs:=xZ b
 rw[fC.eq]
 simp only[bU,fC.F,gY]
 by_cases a1:x.2.2.2.2.2.1=0
 ·rw[eX a1,au,decide_eq_false (λe=>e.1 a1)]
 ·rw[iX a1,aj,fc.run (d:=b) trivial]
  simp only[ah,bU,fc.F]
  rw[dS (by omega) (by omega),o9 (by omega) (by omega)]
  by_cases a2:x.2.2.2.2.2.1 - h<=2*jk b
  ·rw[kO a2,decide_eq_true ⟨a1,a2⟩]
  ·rw[iW a2,decide_eq_false (λe=>a2 e.2)]
theorem fC.run:fC.RS:=rE [.d c9,.d ti,.d pQ] fC
def fC.sg:=fC.gC fC.ok
abbrev eZ.D:=(List dh)×Int
abbrev eZ.Y:=Unit
abbrev eZ.X:=(List dh)×Int
def eZ.add:eZ.D->eZ.Y->eZ.X:=λ(sv,n) y=>(sv,n)
def eZ.aY:eZ.D->Prop:=λ(_,n)=>1<=n
def eZ.F:eZ.D->eZ.Y:=λ_=>()
def eZ:Fs Tryz.prog eZ.aY eZ.add eZ.F:=gh 106 Tryz.f106 (λ(sv,n)=>([.d (.slice c9) sv,.d ti n],[])) (λx=>⟨.fn 167 (.cons (.ptr (.new 0 0) 0 [] 0) (.cons (.ptr (.new 0 1) 0 [] 0) (.nil))),[],[.obj 0 false (.d (.slice c9) x.1),.obj 0 false (.d ti x.2)]⟩) [some (.slice c9),some ti] [] {bo:=[2,3]}
theorem eZ.eq{R:Type}(sv n)(k:K1 R):eZ.A (sv,n) k=
  aK ((iI n 1)) (
   none) (
   k (eZ.out (sv,n))):=by kernel_rfl
theorem eZ.ok:eZ.Ok:=by
 rintro⟨l,n⟩ h
 have h:1<=n:=h
 rw[eZ.eq,bl (by omega),au]
 rfl
theorem eZ.run:eZ.RS:=rE [.d (.slice c9),.d ti] eZ
def eZ.sg:=eZ.gC eZ.ok
abbrev jE.D:=(List dh)×Nat×(List gD)
abbrev jE.Y:=Nat×(List gD)
def jE.aY:jE.D->Prop:=λ(c,n,l)=>c.length<=1000000/\n=l.length/\n<=1000000
def jE.F:jE.D->jE.Y:=λ(c,n,l)=>(n+1,l++ [fp c])
def jE:Fs Tryz.prog jE.aY bU jE.F:=gh 4294968000 (Mb Tryz.prog 4294968000) (λ(t106,o1L,o2)=>(([.yl (.dd 0) 0,.d (.slice c9) t106]++bB 15 ([.ptr (.dd 1) 0 [] 0]++bB 154 [])),[.obj 0 false (.nH (rh Tryz.prog 4294968000) (oU (bB 15 ([.ptr (.dd 1) 0 [] 0]++bB 154 []))) 0),.obj 0 false (.cD (.dd 2) 0 [] 0 0 o1L),.obj 0 false (.vec 105 fi o2)])) (λx=>⟨.d .bool true,[.obj 0 false (.nH (rh Tryz.prog 4294968000) (oU (bB 15 ([.ptr (.dd 1) 0 [] 0]++bB 154 []))) 0),.obj 0 false (.cD (.dd 2) 1 [] 0 0 x.1),.obj 1 false (.vec 105 fi x.2)],[]⟩) [none,none,none,none,none,none,none,none,none,none,none,none,none,none,none,none,none,none,none,none,none,none,none,none,none,none,none,none,none,none,none,none,none,none,none,none,none,none,none,none,none,none,none,none,none,none,none,none,none,none,none,none,none,none,none,none,none,none,none,none,none,none,none,none,none,none,none,none,none,none,none,none,none,none,none,none,none,none,none,none,none,none,none,none,none,none,none,none,none,none,none,none,none,none,none,none,none,none,none,none,none,none,none,none,none,none,none,none,none,none,none,none,none,none,none,none,none,none,none,none,none,none,none,none,none,none,none,none,none,none,none,none,none,none,none,none,none,none,none,none,none,none,none,none,none,none,none,none,none,none,none,none,none,none,none,none,none,none,none,none,none,none,none,none,none,none,none,none,none,none,none,none] [bn.sg] {oG:=some 4294968000}
theorem jE.eq{R:Type}(t106 o1L o2)(k:K1 R):jE.A (t106,o1L,o2) k=
 aA (bn.call t106) λx1=>
 aK (decide (o1L<=(List.length o2))) (
 aK (dT (o1L+1) 48) (
 k (jE.out ((o1L+1),((List.take o1L o2)++ [x1])))) none) none:=by kernel_rfl
theorem jE.ok:jE.Ok:=by
 rintro⟨c,n,l⟩ ⟨h1,rfl,h2⟩
 have h1:c.length<=1000000:=h1
 have h2:l.length<=1000000:=h2
 rw[jE.eq,bn.run (d:=c) (by show c.length<=_;omega)]
 simp only[ah,bU,bn.F]
 rw[aX (ax _),aj,fL (by omega) (by omega),aj,cY]
 rfl
theorem jE.run:jE.RS:=rE [.d (.slice c9),.n,.d (.slice fi)] jE
def jE.sg:=jE.TE jE.ok
abbrev eS.L0.D:=Int×Nat×(List gD)×(List dh)×Int
abbrev eS.L0.Y:=Nat×(List gD)
abbrev eS.L0.X:=((List dh)×Int)×(Nat×(List gD))
def eS.L0.add:eS.L0.D->eS.L0.Y->eS.L0.X:=λ(i,Bf,HI,np,uh) y=>((np,uh),y)
abbrev eS.D:=Nat×(List gD)×(List dh)×Int
abbrev eS.Y:=Nat×(List gD)×(List dh)×Int
def tM{α:Type}(n:Nat):Nat->List α->List (List α)
 | 0,_=> []
 |_+1,[]=> []
 |f+1,x::l=>(x::l).take n::tM n f ((x::l).drop n)
theorem wU{α:Type}{n:Nat}(hn:1<=n):∀(f f':Nat) (l:List α),l.length<=f->l.length<=f'->tM n f l=tM n f' l
 | 0,f',l,h,_=>by
  obtain rfl:=aL (Nat.le_zero.1 h)
  cases f' <;> rfl
 |f+1,0,l,_,h=>by
  obtain rfl:=aL (Nat.le_zero.1 h)
  rfl
 |f+1,f'+1,[],_,_=>rfl
 |f+1,f'+1,x::l,h,h'=>by
  rw[aD]at h h'
  have e:((x::l).drop n).length<=l.length:=by rw[cO,aD];omega
  rw[tM,tM,wU hn f f' _ (by omega) (by omega)]
def gf{α:Type}(l:List α):List (List α):=tM 8 l.length l
theorem rS{α:Type}{l:List α}(h:0 < l.length):gf l=l.take 8::gf (l.drop 8):=by
 cases l with
 |nil=>cases h
 |cons x l=>
  unfold gf
  rw[aD,tM]
  congr 1
  refine wU (by decide) _ _ _ ?_ (ax _)
  rw[cO,aD]
  omega
theorem EV{α:Type}:gf ([]:List α)=[]:=rfl
def eS.L0.aY:eS.L0.D->Prop:=λ(i,n,o2,l,c)=>c=8/\l.length<=1000/\n=o2.length/\∃k:Nat,i=k/\k<=l.length+8/\n<=1000+k
def eS.L0.F:eS.L0.D->eS.L0.Y:=λ(i,n,o2,l,_)=>(n+(gf (l.drop i.toNat)).length,o2++(gf (l.drop i.toNat)).map fp)
def eS.aY:eS.D->Prop:=λ(n,o2,l,c)=>c=8/\l.length<=1000/\n=o2.length/\n<=1000
def eS.F:eS.D->eS.Y:=λ(n,o2,l,c)=>(n+(gf l).length,o2++(gf l).map fp,l,c)
def eS.L0:Ls eS.L0.aY eS.L0.add eS.L0.F:=tq (λ(i,Bf,HI,np,uh)=>⟨([.yl (.dd 0) 0,.ptr (.dd 3) 0 [] 0,.ptr (.dd 4) 0 [] 0,.undef,.d ti i]++bB 26 []),[.obj 0 false (.nH (rh Tryz.prog 4294968000) (oU (bB 15 ([.ptr (.dd 1) 0 [] 0]++bB 154 []))) 0),.obj 0 false (.cD (.dd 2) 1 [] 0 0 Bf),.obj 1 false (.vec 105 fi HI),.obj 0 false (.d (.slice c9) np),.obj 0 false (.d ti uh)],(List.replicate 31 [])⟩) (λx=>(.exit 0,⟨(bB 31 []),[.obj 0 false (.nH (rh Tryz.prog 4294968000) (oU (bB 15 ([.ptr (.dd 1) 0 [] 0]++bB 154 []))) 0),.obj 0 false (.cD (.dd 2) 1 [] 0 0 x.2.1),.obj 1 false (.vec 105 fi x.2.2),.obj 0 false (.d (.slice c9) x.1.1),.obj 0 false (.d ti x.1.2)],(List.replicate 31 [])⟩))
def eS:Fs Tryz.prog eS.aY bU eS.F:=gh 167 Tryz.f167 (λ(o1L,o2,o3,o4)=>([.yl (.dd 0) 0,.ptr (.dd 3) 0 [] 0,.ptr (.dd 4) 0 [] 0],[.obj 0 false (.nH (rh Tryz.prog 4294968000) (oU (bB 15 ([.ptr (.dd 1) 0 [] 0]++bB 154 []))) 0),.obj 0 false (.cD (.dd 2) 0 [] 0 0 o1L),.obj 0 false (.vec 105 fi o2),.obj 0 false (.d (.slice c9) o3),.obj 0 false (.d ti o4)])) (λx=>⟨.nil,[.obj 0 false (.nH (rh Tryz.prog 4294968000) (oU (bB 15 ([.ptr (.dd 1) 0 [] 0]++bB 154 []))) 0),.obj 0 false (.cD (.dd 2) 1 [] 0 0 x.1),.obj 1 false (.vec 105 fi x.2.1),.obj 0 false (.d (.slice c9) x.2.2.1),.obj 0 false (.d ti x.2.2.2)],[]⟩) [none,none,none] [jE.sg] {loops:=rH [(1,{bI:=[0,1,2,4],Mj:=[(2,1)]})],outs:=rG [(1,{Mj:=[(2,1)]},{Mj:=[(2,1)]})],jP:=sh [(1,eS.L0.E)]}
theorem eS.L0.run:eS.L0.RS:=rL [.d ti,.n,.d (.slice fi),.d (.slice c9),.d ti] eS.L0
theorem eS.L0.step{R:Type}(i Bf HI np uh)(kn:K2 R)(kx:K3 R):eS.R 0 eS.L0 (i,Bf,HI,np,uh) kn kx=
  aK ((iI i (np.length:Int))) (
   aK (inc i (np.length:Int)) (
   aK (decide (0<=(bN .i64 i (p9 uh (((List.length (cut np (Int.toNat i) ((List.length np) - (Int.toNat i)))):Nat):Int)))/\(bN .i64 i (p9 uh (((List.length (cut np (Int.toNat i) ((List.length np) - (Int.toNat i)))):Nat):Int)))<=(bN .i64 i (p9 uh (((List.length (cut np (Int.toNat i) ((List.length np) - (Int.toNat i)))):Nat):Int)))/\(bN .i64 i (p9 uh (((List.length (cut np (Int.toNat i) ((List.length np) - (Int.toNat i)))):Nat):Int)))<=(np.length:Int))) (
   aK (inc (bN .i64 i (p9 uh (((List.length (cut np (Int.toNat i) ((List.length np) - (Int.toNat i)))):Nat):Int))) (np.length:Int)) (
   aK (inc i (((Int.toNat (bN .i64 i (p9 uh (((List.length (cut np (Int.toNat i) ((List.length np) - (Int.toNat i)))):Nat):Int)))):Nat):Int)) (
   same (rh Tryz.prog 4294968000) (rh Tryz.prog 4294968000) (
    aA (jE.call ((cut np (Int.toNat i) ((Int.toNat (bN .i64 i (p9 uh (((List.length (cut np (Int.toNat i) ((List.length np) - (Int.toNat i)))):Nat):Int)))) - (Int.toNat i))),Bf,HI)) λx1=>
    kn (eS.L0.st ((bN .i64 i uh),x1.1,x1.2,np,uh)))) none) none) none) none) (
   eS.L0.go kx ((np,uh),(Bf,HI))):=by kernel_rfl
theorem eS.eq{R:Type}(o1L o2 o3 o4)(k:K1 R):eS.A (o1L,o2,o3,o4) k=
 aA (eS.L0.call (0,o1L,o2,o3,o4)) λx2=>
 k (eS.out (x2.2.1,x2.2.2,x2.1.1,x2.1.2)):=by kernel_rfl
theorem eS.L0.ok:(eS.mO 0 eS.L0):=by
 refine(eS.oG 0 eS.L0) (λ(i,_,_,l,_)=>l.length+8 - i.toNat) ?_
 rintro⟨i,n,o2,l,c⟩ ⟨rfl,hl,rfl,k,rfl,hk,hn⟩
 have hl:l.length<=1000:=hl
 have hk:k<=l.length+8:=hk
 have hn:o2.length<=1000+k:=hn
 by_cases h:k < l.length
 ·left
  have e1:(((cut l k (l.length - k)).length:Nat):Int)=(l.length:Int) - k:=by rw[oV (by omega)];omega
  obtain⟨m,hm,LF⟩:∃m:Nat,p9 8 ((l.length:Int) - k)=(m:Int)/\m=min 8 (l.length - k):=⟨min 8 (l.length - k),by unfold p9;split <;> omega,rfl⟩
  have e2:bN .i64 (k:Int) (m:Int)=((k+m:Nat):Int):=by rw[eH (by omega) (by omega)];omega
  have ec:cut l k m=(l.drop k).take 8:=by
   unfold cut
   rw[LF,<-gS,bz (l:=l.drop k) (i:=l.length - k) (by rw[cO];exact ax _)]
  have hd:=rS (l:=l.drop k) (by rw[cO];omega)
  rw[eF]at hd
  refine⟨(((k+8:Nat):Int),o2.length+1,o2++ [fp ((l.drop k).take 8)],l,8),⟨rfl,hl,by simp,k+8,rfl,by omega,by show o2.length+1<=_;omega⟩,by simp only[aa];omega,?_,λkn kx=> ?_⟩
  ·simp only[eS.L0.add,eS.L0.F,aa,hd,aD,bE,bg,eV]
   rw[show o2.length+1+(gf (l.drop (k+8))).length=o2.length+((gf (l.drop (k+8))).length+1) by omega]
  ·rw[eS.L0.step,bA (by omega),aj,gV (by omega) (by omega),aj]
   simp only[aa,e1,hm,e2]
   rw[aX ⟨by omega,dW _,by omega⟩,aj,gV (by omega) (by omega),aj,gV (by omega) (by omega),aj,HV,gd,ec]
   rw[jE.run (d:=((l.drop k).take 8,o2.length,o2)) ⟨by show((l.drop k).take 8).length<=_;rw[cz,cO];omega,rfl,by show o2.length<=_;omega⟩]
   simp only[ah,bU,jE.F]
   rw[show bN .i64 (k:Int) 8=((k+8:Nat):Int) by rw[eH (by omega) (by omega)];omega]
 ·right
  have e0:l.drop k=[]:=List.drop_eq_nil_of_le (by omega)
  intro R kn kx
  rw[eS.L0.step,bl (by omega),au]
  simp only[eS.L0.add,eS.L0.F,aa,e0,EV,ba,cq,gr,cH]
theorem eS.ok:eS.Ok:=by
 rintro⟨n,o2,l,c⟩ ⟨rfl,hl,rfl,hn⟩
 have hl:l.length<=1000:=hl
 have hn:o2.length<=1000:=hn
 have z1:((0:Int)).toNat=0:=rfl
 rw[eS.eq,eS.L0.run (d:=(0,o2.length,o2,l,8)) ⟨rfl,hl,rfl,0,rfl,by omega,by omega⟩]
 simp only[ah,eS.L0.add,eS.L0.F,z1,aJ]
 rfl
theorem eS.run:eS.RS:=rE [.n,.d (.slice fi),.d (.slice c9),.d ti] eS
def eS.sg:=eS.gC eS.ok 1 ⟨.js eS.L0.ok,trivial⟩
abbrev aB.L0.D:=Int×Int×Int×Int×pD×Nat×Nat×(List dh)×Int×Int×(List dh)×(List dh)
abbrev aB.L0.Y:=Nat×Nat×(List dh)×(List dh)
abbrev aB.L0.X:=(Int×Int)×(Nat×Nat×(List dh)×(List dh))
def aB.L0.add:aB.L0.D->aB.L0.Y->aB.L0.X:=λ(fG,fV,t9,presses,ko,firstL,restL,t48,t49,t50,J5,J6) y=>((fG,t9),y)
abbrev aB.L1.D:=Int×Int×Nat×Nat×Int×Int×Nat×(List dh)×(List dh)×(List gD)
abbrev aB.L1.Y:=Nat×(List gD)
abbrev aB.L1.X:=(Int×Int×Nat×Nat×(List dh)×(List dh))×(Nat×(List gD))
def aB.L1.add:aB.L1.D->aB.L1.Y->aB.L1.X:=λ(fH,FZ,l5,re,t88,t89,B8,zh,vd,n102) y=>((fH,FZ,l5,re,zh,vd),y)
abbrev aB.L2.D:=Int×Nat×Nat×Int×Int×Nat×(List dh)×(List gD)
abbrev aB.L2.Y:=Int×Nat
abbrev aB.L2.X:=(Nat×(List dh)×(List gD))×(Int×Nat)
def aB.L2.add:aB.L2.D->aB.L2.Y->aB.L2.X:=λ(fI,ni,Bo,t113,t114,uf,xm,pc) y=>((ni,xm,pc),y)
abbrev aB.L3.D:=Int×Int×Int×Nat×(List gD)
abbrev aB.L3.Y:=(List gD)
abbrev aB.L3.X:=(Nat)×((List gD))
def aB.L3.add:aB.L3.D->aB.L3.Y->aB.L3.X:=λ(oR,t135,t136,so,iZ) y=>(so,y)
abbrev aB.D:=(List dh)×Int×pD×Int
abbrev aB.Y:=(List gD)×Int
def Cw(x:dh):Prop:=Cx x/\PQ x.2.1.2.1/\x.2.2.2.2.2.1<=9223372036854775807
def qo(b:pD)(h:Int)(x:dh):Bool:=iY h x && gY b h x
def qw(b:pD)(h:Int)(x:dh):Bool:=iY h x && !gY b h x
def dL(l:List dh)(b:pD)(h:Int):List dh:=tf (t:=c9) oT (l.filter (qo b h))
def iy(l:List dh)(b:pD)(h:Int):List dh:=tf (t:=c9) z6 (l.filter (qw b h))
def jt(x:dh):gD:=fp [x]
def lj(l:List dh)(b:pD)(h:Int):List gD:=(dL l b h).map jt++(gf (iy l b h)).map fp
def kM:Int->List gD->Int×List gD
 |b,[]=>(b,[])
 |b,g::l=>if g.2.1 > b then(b,[]) else((kM (b - g.2.1) l).1,g::(kM (b - g.2.1) l).2)
def xt(g:gD)(m:Int):gD:=(g.1,(g.2.1,(g.2.2.1+m,g.2.2.2)))
def kQ(b:Int)(g:gD):Int:=p9 b ((nth c9 g.1 0).2.1.1 - g.2.1)
def jj:Nat->Int->List gD->List gD
 | 0,_,l=>l
 |_+1,_,[]=> []
 |n+1,b,g::l=>xt g (kQ b g)::jj n (b - kQ b g) l
def jW(l:List dh)(budget:Int)(b:pD)(h:Int):List gD:=jj (dL l b h).length (kM budget (lj l b h)).1 (kM budget (lj l b h)).2
def kB(l:List dh)(budget:Int)(b:pD)(h:Int):Bool:=decide (0<=budget/\budget<=1125899906842624) && (lG b && (decide (1<=h/\h<=1048576) && wF l))
def vj(l:List dh)(budget:Int)(b:pD)(h:Int):List gD×Int:=if kB l budget b h=true then(jW l budget b h,0) else([],1)
def aB.L0.aY:aB.L0.D->Prop:=λ(_,h,_,h',b,fl,rl,l,n,i,rs,fs)=>(∀x∈l,Cw x)/\(1<=h/\h<=1048576)/\h=h'/\fl=fs.length/\rl=rs.length/\l.length<=1000/\n=(l.length:Int)/\∃k:Nat,k<=l.length/\i=k/\fs.length<=k/\rs.length<=k
def aB.L0.F:aB.L0.D->aB.L0.Y:=λ(_,h,_,_,b,fl,rl,l,_,i,rs,fs)=>(fl+((l.drop i.toNat).filter (qo b h)).length,rl+((l.drop i.toNat).filter (qw b h)).length,rs++(l.drop i.toNat).filter (qw b h),fs++(l.drop i.toNat).filter (qo b h))
def aB.L1.aY:aB.L1.D->Prop:=λ(_,_,fl,_,n,i,m,_,fs,all)=>fl=fs.length/\fs.length<=1000/\n=(fs.length:Int)/\m=all.length/\∃k:Nat,k<=fs.length/\i=k/\all.length<=k
def aB.L1.F:aB.L1.D->aB.L1.Y:=λ(_,_,_,_,_,i,m,_,fs,all)=>(m+(fs.drop i.toNat).length,all++(fs.drop i.toNat).map jt)
def aB.L2.aY:aB.L2.D->Prop:=λ(bu,_,m,n,i,m2,_,all)=>m=all.length/\m2=all.length/\all.length<=10000/\n=(all.length:Int)/\(0<=bu/\bu<=1125899906842624)/\(∀g∈all,0<=g.2.1)/\∃k:Nat,k<=all.length/\i=k
def aB.L2.F:aB.L2.D->aB.L2.Y:=λ(bu,_,_,_,i,_,_,all)=>((kM bu (all.drop i.toNat)).1,i.toNat+(kM bu (all.drop i.toNat)).2.length)
def Md(g:gD):Prop:=0 < g.1.length/\(0<=g.2.1/\g.2.1<=(nth c9 g.1 0).2.1.1/\(nth c9 g.1 0).2.1.1<=1099511627776)/\0<=g.2.2.1/\g.2.2.1<=1000000
def aB.L3.aY:aB.L3.D->Prop:=λ(bu,n,i,m,all)=>m<=all.length/\all.length<=10000/\(0<=bu/\bu<=1125899906842624)/\∃k j:Nat,n=j/\i=k/\k<=j/\j<=m/\∀g∈(all.take j).drop k,Md g
def aB.L3.F:aB.L3.D->aB.L3.Y:=λ(bu,n,i,m,all)=>all.take i.toNat++jj (n - i).toNat bu (all.drop i.toNat)
def aB.aY:aB.D->Prop:=λ(l,_,_,h)=>(∀x∈l,Cw x)
def aB.F:aB.D->aB.Y:=λ(l,bu,b,h)=>vj l bu b h
def aB.L0:Ls aB.L0.aY aB.L0.add aB.L0.F:=tq (λ(fG,fV,t9,presses,ko,firstL,restL,t48,t49,t50,J5,J6)=>⟨([.undef,.d ti fG]++bB 5 ([.eO ti fV,.db,.d ti t9,.fn 100 (.cons (.eO ti presses) (.cons (.eO pQ ko) (.nil))),.cD (.new 81 0) 0 [] 0 0 firstL,.cD (.new 58 0) 0 [] 0 0 restL]++bB 35 ([.d (.slice c9) t48,.d ti t49,.d ti t50]++bB 119 []))),[],(cR 58 ([[.obj 0 false (.vec 117 c9 J5)]]++cR 22 ([[.obj 0 false (.vec 117 c9 J6)]]++cR 88 [])))⟩) (λx=>(.exit 0,⟨([.undef,.d ti x.1.1]++bB 6 ([.db,.d ti x.1.2,.undef,.cD (.new 81 0) 0 [] 0 0 x.2.1,.cD (.new 58 0) 0 [] 0 0 x.2.2.1]++bB 157 [])),[],(cR 58 ([[.obj 0 false (.vec 117 c9 x.2.2.2.1)]]++cR 22 ([[.obj 0 false (.vec 117 c9 x.2.2.2.2)]]++cR 88 [])))⟩))
def aB.L1:Ls aB.L1.aY aB.L1.add aB.L1.F:=tq (λ(fH,FZ,l5,re,t88,t89,B8,zh,vd,n102)=>⟨([.undef,.d ti fH]++bB 6 ([.db,.d ti FZ,.undef,.cD (.new 81 0) 0 [] 0 0 l5,.cD (.new 58 0) 0 [] 0 0 re,.undef,.undef,.ptr (.new 15 0) 0 [] 0]++bB 72 ([.d ti t88,.d ti t89]++bB 80 []))),[],(cR 15 ([[.obj 0 false (.cD (.new 102 0) 0 [] 0 0 B8)]]++cR 42 ([[.obj 0 false (.vec 117 c9 zh)]]++cR 22 ([[.obj 0 true (.vec 117 c9 vd)]]++cR 20 ([[.obj 0 false (.vec 105 fi n102)]]++cR 67 [])))))⟩) (λx=>(.exit 3,⟨([.undef,.d ti x.1.1]++bB 6 ([.db,.d ti x.1.2.1,.undef,.cD (.new 81 0) 0 [] 0 0 x.1.2.2.1,.cD (.new 58 0) 0 [] 0 0 x.1.2.2.2.1,.undef,.undef,.ptr (.new 15 0) 0 [] 0]++bB 154 [])),[],(cR 15 ([[.obj 0 false (.cD (.new 102 0) 0 [] 0 0 x.2.1)]]++cR 42 ([[.obj 0 false (.vec 117 c9 x.1.2.2.2.2.1)]]++cR 22 ([[.obj 0 true (.vec 117 c9 x.1.2.2.2.2.2)]]++cR 20 ([[.obj 0 false (.vec 105 fi x.2.2)]]++cR 67 [])))))⟩))
def aB.L2:Ls aB.L2.aY aB.L2.add aB.L2.F:=tq (λ(fI,ni,Bo,t113,t114,uf,xm,pc)=>⟨([.undef,.d ti fI]++bB 9 ([.cD (.new 81 0) 0 [] 0 0 ni,.undef,.undef,.undef,.ptr (.new 15 0) 0 [] 0]++bB 96 ([.cD (.new 102 0) 1 [] 0 0 Bo,.d ti t113,.d ti t114]++bB 55 []))),[],(cR 15 ([[.obj 0 false (.cD (.new 102 0) 1 [] 0 0 uf)]]++cR 65 ([[.obj 0 true (.vec 117 c9 xm)]]++cR 20 ([[.obj 1 false (.vec 105 fi pc)]]++cR 67 []))))⟩) (λx=>(.exit 7,⟨([.undef,.d ti x.2.1]++bB 9 ([.cD (.new 81 0) 0 [] 0 0 x.1.1,.undef,.undef,.undef,.ptr (.new 15 0) 0 [] 0]++bB 154 [])),[],(cR 15 ([[.obj 0 false (.cD (.new 102 0) 1 [] 0 0 x.2.2)]]++cR 65 ([[.obj 0 true (.vec 117 c9 x.1.2.1)]]++cR 20 ([[.obj 1 false (.vec 105 fi x.1.2.2)]]++cR 67 []))))⟩))
def aB.L3:Ls aB.L3.aY aB.L3.add aB.L3.F:=tq (λ(oR,t135,t136,so,iZ)=>⟨([.undef,.d ti oR]++bB 13 ([.ptr (.new 15 0) 0 [] 0]++bB 119 ([.d ti t135,.d ti t136]++bB 33 []))),[],(cR 15 ([[.obj 0 false (.cD (.new 102 0) 1 [] 0 0 so)]]++cR 86 ([[.obj 1 false (.vec 105 fi iZ)]]++cR 67 [])))⟩) (λx=>(.exit 9,⟨(bB 15 ([.ptr (.new 15 0) 0 [] 0]++bB 154 [])),[],(cR 15 ([[.obj 0 false (.cD (.new 102 0) 1 [] 0 0 x.1)]]++cR 86 ([[.obj 1 false (.vec 105 fi x.2)]]++cR 67 [])))⟩))
def aB:Fs Tryz.prog aB.aY bU aB.F:=gh 44 Tryz.f44 (λ(l,budget,b,height)=>([.d (.slice c9) l,.d ti budget,.d pQ b,.d ti height],[])) (λx=>⟨.cons (.d (.slice fi) x.1) (.cons (.d ti x.2) (.nil)),[],[]⟩) [some (.slice c9),some ti,some pQ,some ti] [dV.sg,aT.sg,alone.sg,bm.sg,fC.sg,bW.sg,Eh.sg,Eg.sg,bn.sg,eZ.sg,eS.sg] {loops:=rH [(6,{bI:=[1,7,8,9,10,11,12,48,49,50],sites:=[58,81],owns:=[⟨11,[],81,92⟩,⟨12,[],58,92⟩]}),(17,{bI:=[1,8,9,11,12,15,88,89],sites:=[15,58,81,102],E8:=[(.new 81 0)],owns:=[⟨15,[.arr],102,96⟩]}),(25,{bI:=[1,11,15,112,113,114],sites:=[15,81,102]}),(32,{bI:=[1,15,135,136],sites:=[15,102]})],outs:=rG [(6,{bI:=[1,8,9,11,12],sites:=[58,81]},{bI:=[8,9]}),(17,{bI:=[1,8,9,11,12,15],sites:=[15,58,81,102]},{bI:=[8,9]}),(25,{bI:=[1,11,15],sites:=[15,81,102]},{bI:=[8,9]}),(32,{bI:=[15],sites:=[15,102]},{bI:=[8,9]})],jP:=sh [(6,aB.L0.E),(17,aB.L1.E),(25,aB.L2.E),(32,aB.L3.E)],res:=[some (.slice fi),none],rf:=sh [(106,(4294968000,[15]))]}
theorem aB.L0.run:aB.L0.RS:=rL [.d ti,.d ti,.d ti,.d ti,.d pQ,.n,.n,.d (.slice c9),.d ti,.d ti,.d (.slice c9),.d (.slice c9)] aB.L0
theorem aB.L0.step{R:Type}(fG fV t9 presses ko firstL restL t48 t49 t50 J5 J6)(kn:K2 R)(kx:K3 R):aB.R 0 aB.L0 (fG,fV,t9,presses,ko,firstL,restL,t48,t49,t50,J5,J6) kn kx=
  aK ((iI t50 t49)) (
   aK (fa t50 (t48.length:Int)) (
   aA (alone.call ((nth c9 t48 (Int.toNat t50)),fV)) λx1=>
   aK ((!x1)) (
    kn (aB.L0.st (fG,fV,t9,presses,ko,firstL,restL,t48,t49,(bN .i64 t50 1),J5,J6))) (
    aA (bm.call [(nth c9 t48 (Int.toNat t50))]) λx2=>
    aK ((iI (nth c9 t48 (Int.toNat t50)).2.1.1 x2)) (
     kn (aB.L0.st (fG,fV,t9,presses,ko,firstL,restL,t48,t49,(bN .i64 t50 1),J5,J6))) (
     aA (fC.call ((nth c9 t48 (Int.toNat t50)),presses,ko)) λx3=>
     aK (x3) (
      aA (bW.call (nth c9 t48 (Int.toNat t50))) λx4=>
      aK (decide (firstL<=(List.length J6))) (
      aK (dT (firstL+1) 104) (
      kn (aB.L0.st (fG,fV,t9,presses,ko,(firstL+1),restL,t48,t49,(bN .i64 t50 1),J5,((List.take firstL J6)++ [x4])))) none) none) (
      aA (bW.call (nth c9 t48 (Int.toNat t50))) λx5=>
      aK (decide (restL<=(List.length J5))) (
      aK (dT (restL+1) 104) (
      kn (aB.L0.st (fG,fV,t9,presses,ko,firstL,(restL+1),t48,t49,(bN .i64 t50 1),((List.take restL J5)++ [x5]),J6))) none) none)))) none) (
   aB.L0.go kx ((fG,t9),(firstL,restL,J5,J6))):=by kernel_rfl
theorem aB.L1.run:aB.L1.RS:=rL [.d ti,.d ti,.n,.n,.d ti,.d ti,.n,.d (.slice c9),.d (.slice c9),.d (.slice fi)] aB.L1
theorem aB.L1.step{R:Type}(fH FZ l5 re t88 t89 B8 zh vd n102)(kn:K2 R)(kx:K3 R):aB.R 1 aB.L1 (fH,FZ,l5,re,t88,t89,B8,zh,vd,n102) kn kx=
  aK ((iI t89 t88)) (
   aK (decide (0<=(bN .i64 t89 1)/\(bN .i64 t89 1)<=(bN .i64 t89 1)/\(bN .i64 t89 1)<=((l5:Nat):Int))) (
   aK (inc (bN .i64 t89 1) ((l5:Nat):Int)) (
   aK (inc t89 (((Int.toNat (bN .i64 t89 1)):Nat):Int)) (
   aK (decide ((0+((0+(Int.toNat t89))*39))=(0+((Int.toNat t89)*39))/\((0+(Int.toNat t89))+((Int.toNat (bN .i64 t89 1)) - (Int.toNat t89)))<=(List.length vd))) (
   aA (bn.call (cut vd (0+(Int.toNat t89)) ((Int.toNat (bN .i64 t89 1)) - (Int.toNat t89)))) λx1=>
   aK (decide (B8<=(List.length n102))) (
   aK (dT (B8+1) 48) (
   kn (aB.L1.st (fH,FZ,l5,re,t88,(bN .i64 t89 1),(B8+1),zh,vd,((List.take B8 n102)++ [x1])))) none) none) none) none) none) none) (
   aB.L1.go kx ((fH,FZ,l5,re,zh,vd),(B8,n102))):=by kernel_rfl
theorem aB.L2.run:aB.L2.RS:=rL [.d ti,.n,.n,.d ti,.d ti,.n,.d (.slice c9),.d (.slice fi)] aB.L2
theorem aB.L2.step{R:Type}(fI ni Bo t113 t114 uf xm pc)(kn:K2 R)(kx:K3 R):aB.R 2 aB.L2 (fI,ni,Bo,t113,t114,uf,xm,pc) kn kx=
  aK ((iI t114 t113)) (
   aK (fa t114 ((Bo:Nat):Int)) (
   aK (decide ((0+(Int.toNat t114)) < (List.length pc))) (
   aK (decide ((((0+(Int.toNat t114))*4)+0)=(0+((Int.toNat t114)*4)))) (
   aK ((ot (nth fi pc (0+(Int.toNat t114))).2.1 fI)) (
    aK (inc t114 ((uf:Nat):Int)) (
    aB.L2.go kx ((ni,xm,pc),(fI,((Int.toNat t114) - 0)))) none) (
    kn (aB.L2.st ((dn .i64 fI (nth fi pc (0+(Int.toNat t114))).2.1),ni,Bo,t113,(bN .i64 t114 1),uf,xm,pc)))) none) none) none) (
   aB.L2.go kx ((ni,xm,pc),(fI,uf))):=by kernel_rfl
theorem aB.L3.run:aB.L3.RS:=rL [.d ti,.d ti,.d ti,.n,.d (.slice fi)] aB.L3
theorem aB.L3.step{R:Type}(oR t135 t136 so iZ)(kn:K2 R)(kx:K3 R):aB.R 3 aB.L3 (oR,t135,t136,so,iZ) kn kx=
  aK ((iI t136 t135)) (
   aK (fa t136 ((so:Nat):Int)) (
   aK (decide ((0+(Int.toNat t136)) < (List.length iZ))) (
   aK (decide ((((0+(Int.toNat t136))*4)+0)=((0+((Int.toNat t136)*4))+0))) (
   aK (fa 0 (((List.length (nth fi iZ (0+(Int.toNat t136))).1):Nat):Int)) (
   aK (decide ((0+(Int.toNat t136)) < (List.length iZ))) (
   aK (decide ((((0+(Int.toNat t136))*4)+1)=((0+((Int.toNat t136)*4))+1))) (
   aK (decide ((0+(Int.toNat t136)) < (List.length iZ))) (
   aK (decide ((((0+(Int.toNat t136))*4)+2)=((0+((Int.toNat t136)*4))+2))) (
   aK (decide ((0+(Int.toNat t136)) < (List.length iZ))) (
   aK (decide ((((0+(Int.toNat t136))*4)+2)=((0+((Int.toNat t136)*4))+2))) (
   aK (decide ((0+(Int.toNat t136)) < (List.length iZ))) (
   kn (aB.L3.st ((dn .i64 oR (p9 oR (dn .i64 (nth c9 (nth fi iZ (0+(Int.toNat t136))).1 0).2.1.1 (nth fi iZ (0+(Int.toNat t136))).2.1))),t135,(bN .i64 t136 1),so,(List.set iZ (0+(Int.toNat t136)) ((nth fi iZ (0+(Int.toNat t136))).1,((nth fi iZ (0+(Int.toNat t136))).2.1,((bN .i64 (nth fi iZ (0+(Int.toNat t136))).2.2.1 (p9 oR (dn .i64 (nth c9 (nth fi iZ (0+(Int.toNat t136))).1 0).2.1.1 (nth fi iZ (0+(Int.toNat t136))).2.1))),(nth fi iZ (0+(Int.toNat t136))).2.2.2))))))) none) none) none) none) none) none) none) none) none) none) none) (
   aB.L3.go kx (so,iZ)):=by kernel_rfl
theorem aB.eq{R:Type}(l budget b height)(k:K1 R):aB.A (l,budget,b,height) k=
  aK ((iI budget 0)) (
   k (aB.out (([]:List gD),1))) (
   aK ((ot budget 1125899906842624)) (
    k (aB.out (([]:List gD),1))) (
    aA (dV.call b) λx1=>
    aK ((!x1)) (
     k (aB.out (([]:List gD),1))) (
     aK ((iI height 1)) (
      k (aB.out (([]:List gD),1))) (
      aK ((ot height 1048576)) (
       k (aB.out (([]:List gD),1))) (
       aA (aT.call l) λx2=>
       aK ((!x2)) (
        k (aB.out (([]:List gD),1))) (
        aA (aB.L0.call (budget,height,0,height,b,0,0,l,(l.length:Int),0,([]:List dh),([]:List dh))) λGR=>
        aA (Eh.call (GR.2.1,GR.2.2.2.2)) λOf=>
        aA (Eg.call (GR.2.2.1,GR.2.2.2.1)) λOg=>
        aA (aB.L1.call (GR.1.1,GR.1.2,GR.2.1,GR.2.2.1,((GR.2.1:Nat):Int),0,0,Og.2,Of.2,([]:List gD))) λLg=>
        aK (decide (0=0/\(0+Lg.1.2.2.2.1)<=(List.length Lg.1.2.2.2.2.1))) (
        aA (eZ.call ((cut Lg.1.2.2.2.2.1 0 Lg.1.2.2.2.1),8)) λRX=>
        aA (eS.call (Lg.2.1,Lg.2.2,RX.1,RX.2)) λQe=>
        aA (aB.L2.call (Lg.1.1,Lg.1.2.2.1,Qe.1,((Qe.1:Nat):Int),0,Qe.1,Lg.1.2.2.2.2.2,Qe.2.1)) λBv=>
        aA (aB.L3.call (Bv.2.1,(p9 ((Bv.2.2:Nat):Int) ((Bv.1.1:Nat):Int)),0,Bv.2.2,Bv.1.2.2)) λQf=>
        aK (decide (0=0/\(0+Qf.1)<=(List.length Qf.2))) (
        k (aB.out ((cut Qf.2 0 Qf.1),0))) none) none)))))):=by kernel_rfl
theorem yV{h:Int}{x:dh}(e:rN x h=true):x.2.2.2.2.2.1=0\/h < x.2.2.2.2.2.1:=(of_decide_eq_true e).2
theorem aB.L0.ok:(aB.mO 0 aB.L0):=by
 refine(aB.oG 0 aB.L0) (λ(_,_,_,_,_,_,_,l,_,i,_,_)=>l.length - i.toNat) ?_
 rintro⟨bu,h,t9,h',b,fl,rl,l,n,i,rs,fs⟩ ⟨hx,hh,rfl,rfl,rfl,hl,rfl,k,hk,rfl,hf,hr⟩
 have hl:l.length<=1000:=hl
 have hk:k<=l.length:=hk
 have hf:fs.length<=k:=hf
 have hr:rs.length<=k:=hr
 by_cases iC:k < l.length
 ·left
  have n1:nth c9 l k=l[k]:=dM (t:=c9) iC
  have hd:l.drop k=l[k]::l.drop (k+1):=aC iC
  obtain⟨hq,hb,hu⟩:=hx _ (b5 iC)
  have ca:=alone.run (d:=(l[k],h)) trivial
  have cw:=bm.run (d:=[l[k]]) (by show 1<=_;decide)
  have cc:=bW.run (d:=l[k]) hb
  have skip:iY h l[k]=false->∀ {R:Type} (kn:K2 R) (kx:K3 R),aB.R 0 aB.L0 (bu,h,t9,h,b,fs.length,rs.length,l,(l.length:Int),(k:Int),rs,fs) kn kx=kn (aB.L0.st (bu,h,t9,h,b,fs.length,rs.length,l,(l.length:Int),((k+1:Nat):Int),rs,fs)):=by
   intro Ih R kn kx
   rw[aB.L0.step,bA (by omega),aj,bJ (by omega) (by omega),aj,aa,n1,ca]
   simp only[ah,bU,alone.F]
   unfold iY at Ih
   cases ha:rN l[k] h with
   |false=>rw[dr,aj,N.rD (by omega)]
   |true=>
    rw[ha,bX,Bool.not_eq_false']at Ih
    rw[b8,au,cw]
    simp only[ah,bU,bm.F]
    rw[bA (of_decide_eq_true Ih),aj,N.rD (by omega)]
  cases Ih:iY h l[k]with
  |false=>
   have e1:qo b h l[k]=false:=by unfold qo;rw[Ih];rfl
   have e2:qw b h l[k]=false:=by unfold qw;rw[Ih];rfl
   refine⟨(bu,h,t9,h,b,fs.length,rs.length,l,(l.length:Int),((k+1:Nat):Int),rs,fs),⟨hx,hh,rfl,rfl,rfl,hl,rfl,k+1,by omega,rfl,by show fs.length<=_;omega,by show rs.length<=_;omega⟩,by simp only[aa];omega,?_,λkn kx=>skip Ih kn kx⟩
   simp only[aB.L0.add,aB.L0.F,aa,hd,iP,e1,e2,bK,if_false]
  |true=>
   have MY:=Ih
   unfold iY at MY
   rw[ag,bp]at MY
   obtain⟨ha,hw⟩:=MY
   have cp:=fC.run (d:=(l[k],h,b)) ⟨hh,yV ha,hu⟩
   cases hp:gY b h l[k]with
   |true=>
    have e1:qo b h l[k]=true:=by unfold qo;rw[Ih,hp];rfl
    have e2:qw b h l[k]=false:=by unfold qw;rw[Ih,hp];rfl
    refine⟨(bu,h,t9,h,b,fs.length+1,rs.length,l,(l.length:Int),((k+1:Nat):Int),rs,fs++ [l[k]]),⟨hx,hh,rfl,by simp,rfl,hl,rfl,k+1,by omega,rfl,by rw[aq];show fs.length+1<=_;omega,by show rs.length<=_;omega⟩,by simp only[aa];omega,?_,λkn kx=> ?_⟩
    ·simp only[aB.L0.add,aB.L0.F,aa,hd,iP,e1,e2,bK,if_false,if_true,aD,bg,eV]
     rw[dz,Nat.add_comm 1]
    ·rw[aB.L0.step,bA (by omega),aj,bJ (by omega) (by omega),aj,aa,n1,ca]
     simp only[ah,bU,alone.F,ha,b8,au]
     rw[cw]
     simp only[ah,bU,bm.F]
     rw[bl (of_decide_eq_false hw),au,cp]
     simp only[ah,bU,fC.F,hp,aj]
     rw[cc]
     simp only[ah,bU,bW.F]
     rw[aX (ax _),aj,fL (by omega) (by omega),aj,cY,N.rD (by omega)]
   |false=>
    have e1:qo b h l[k]=false:=by unfold qo;rw[Ih,hp];rfl
    have e2:qw b h l[k]=true:=by unfold qw;rw[Ih,hp];rfl
    refine⟨(bu,h,t9,h,b,fs.length,rs.length+1,l,(l.length:Int),((k+1:Nat):Int),rs++ [l[k]],fs),⟨hx,hh,rfl,rfl,by simp,hl,rfl,k+1,by omega,rfl,by show fs.length<=_;omega,by rw[aq];show rs.length+1<=_;omega⟩,by simp only[aa];omega,?_,λkn kx=> ?_⟩
    ·simp only[aB.L0.add,aB.L0.F,aa,hd,iP,e1,e2,bK,if_false,if_true,aD,bg,eV]
     rw[dz rs.length,Nat.add_comm 1]
    ·rw[aB.L0.step,bA (by omega),aj,bJ (by omega) (by omega),aj,aa,n1,ca]
     simp only[ah,bU,alone.F,ha,b8,au]
     rw[cw]
     simp only[ah,bU,bm.F]
     rw[bl (of_decide_eq_false hw),au,cp]
     simp only[ah,bU,fC.F,hp,au]
     rw[cc]
     simp only[ah,bU,bW.F]
     rw[aX (ax _),aj,fL (by omega) (by omega),aj,cY,N.rD (by omega)]
 ·right
  obtain rfl:k=l.length:=by omega
  intro R kn kx
  rw[aB.L0.step,bl (by omega),au]
  simp only[aB.L0.add,aB.L0.F,aa,bq,List.filter_nil,ba,cq,cH]
theorem aB.L1.ok:(aB.mO 1 aB.L1):=by
 refine(aB.oG 1 aB.L1) (λ(_,_,_,_,_,i,_,_,fs,_)=>fs.length - i.toNat) ?_
 rintro⟨bu,t9,fl,rl,n,i,m,rs,fs,all⟩ ⟨rfl,hl,rfl,rfl,k,hk,rfl,ha⟩
 have hl:fs.length<=1000:=hl
 have hk:k<=fs.length:=hk
 have ha:all.length<=k:=ha
 by_cases iC:k < fs.length
 ·left
  have hd:fs.drop k=fs[k]::fs.drop (k+1):=aC iC
  have ec:cut fs k 1=[fs[k]]:=by unfold cut;rw[hd];rfl
  refine⟨(bu,t9,fs.length,rl,(fs.length:Int),((k+1:Nat):Int),all.length+1,rs,fs,all++ [jt fs[k]]),⟨rfl,hl,rfl,by simp,k+1,by omega,rfl,by rw[aq];show all.length+1<=_;omega⟩,by simp only[aa];omega,?_,λkn kx=> ?_⟩
  ·simp only[aB.L1.add,aB.L1.F,aa,hd,aD,bE,bg,eV]
   rw[dz,Nat.add_comm 1]
  ·rw[aB.L1.step,bA (by omega),aj,N.rD (by omega),aX ⟨by omega,dW _,by omega⟩,aj,gV (by omega) (by omega),aj]
   simp only[aa,aN,gd]
   rw[gV (by omega) (by omega),aj,aX ⟨trivial,by omega⟩,aj,ec,bn.run (d:=[fs[k]]) (by show 1<=_;decide)]
   simp only[ah,bU,bn.F]
   rw[aX (ax _),aj,fL (by omega) (by omega),aj,cY]
   rfl
 ·right
  obtain rfl:k=fs.length:=by omega
  intro R kn kx
  rw[aB.L1.step,bl (by omega),au]
  simp only[aB.L1.add,aB.L1.F,aa,bq,ba,cq,gr,cH]
theorem aB.L2.ok:(aB.mO 2 aB.L2):=by
 refine(aB.oG 2 aB.L2) (λ(_,_,_,_,i,_,_,all)=>all.length - i.toNat) ?_
 rintro⟨bu,fl,m,n,i,m2,fs,all⟩ ⟨rfl,rfl,hl,rfl,hb,hg,k,hk,rfl⟩
 have hl:all.length<=10000:=hl
 have hk:k<=all.length:=hk
 have hb:0<=bu/\bu<=1125899906842624:=hb
 by_cases iC:k < all.length
 ·have n1:nth fi all k=all[k]:=dM (t:=fi) iC
  have hd:all.drop k=all[k]::all.drop (k+1):=aC iC
  have MS:=hg _ (b5 iC)
  by_cases hc:all[k].2.1 > bu
  ·right
   intro R kn kx
   rw[aB.L2.step,bA (by omega),aj,bJ (by omega) (by omega),aj]
   simp only[aa,aN,cq,aX iC,aj,decide_true,n1]
   rw[dv hc,aj,gV (by omega) (by omega),aj]
   simp only[aB.L2.add,aB.L2.F,aa,hd,kM,if_pos hc,ba,cq,Nat.sub_zero]
  ·left
   refine⟨(bu - all[k].2.1,fl,all.length,(all.length:Int),((k+1:Nat):Int),all.length,fs,all),⟨rfl,rfl,hl,rfl,⟨by omega,by omega⟩,hg,k+1,by omega,rfl⟩,by simp only[aa];omega,?_,λkn kx=> ?_⟩
   ·simp only[aB.L2.add,aB.L2.F,aa,hd,kM,if_neg hc,aD]
    rw[dz,Nat.add_comm 1]
   ·rw[aB.L2.step,bA (by omega),aj,bJ (by omega) (by omega),aj]
    simp only[aa,aN,cq,aX iC,aj,decide_true,n1]
    rw[cZ hc,au,dS (by omega) (by omega),N.rD (by omega)]
 ·right
  obtain rfl:k=all.length:=by omega
  intro R kn kx
  rw[aB.L2.step,bl (by omega),au]
  simp only[aB.L2.add,aB.L2.F,aa,bq,kM,ba,cq]
theorem B7{b:Int}{g:gD}(hg:Md g)(hb:0<=b/\b<=1125899906842624):0<=kQ b g/\kQ b g<=b/\kQ b g<=(nth c9 g.1 0).2.1.1 - g.2.1:=by
 obtain⟨_,h1,_⟩:=hg
 unfold kQ p9
 split <;> omega
theorem aB.L3.ok:(aB.mO 3 aB.L3):=by
 refine(aB.oG 3 aB.L3) (λ(_,n,i,_,_)=>(n - i).toNat) ?_
 rintro⟨bu,n,i,m,all⟩ ⟨hm,hl,hb,k,j,rfl,rfl,hk,hj,hg⟩
 have hm:m<=all.length:=hm
 have hl:all.length<=10000:=hl
 have hk:k<=j:=hk
 have hj:j<=m:=hj
 have hb:0<=bu/\bu<=1125899906842624:=hb
 by_cases iC:k < j
 ·left
  obtain⟨q,hq⟩:∃q,j=k+1+q:=⟨j - (k+1),by omega⟩
  have ek:k < all.length:=by omega
  have n1:nth fi all k=all[k]:=dM (t:=fi) ek
  have hd:all.drop k=all[k]::all.drop (k+1):=aC ek
  have e1:((j:Int) - (k:Int)).toNat=q+1:=by omega
  have e2:((j:Int) - ((k+1:Nat):Int)).toNat=q:=by omega
  have S6:k < (all.take j).length:=by rw[cz];omega
  have SR:(all.take j).drop k=all[k]::(all.take j).drop (k+1):=by rw[aC S6,List.getElem_take]
  rw[SR]at hg
  have MS:=hg _ aG
  obtain⟨g1,g2,g3⟩:=id MS
  have P2:=B7 MS hb
  have g2:(0:Int)<=all[k].2.1/\ @LE.le Int _ all[k].2.1 (nth c9 all[k].1 0).2.1.1/\ @LE.le Int _ (nth c9 all[k].1 0).2.1.1 1099511627776:=g2
  have es:all.set k (xt all[k] (kQ bu all[k]))=all.take k++xt all[k] (kQ bu all[k])::all.drop (k+1):=List.set_eq_take_append_cons_drop▸if_pos ek
  have et:(all.set k (xt all[k] (kQ bu all[k]))).take (k+1)=all.take k++ [xt all[k] (kQ bu all[k])]:=by
   rw[es,iS,cz,ei (by omega),bz (by rw[cz];omega),show k+1 - k=1 by omega]
   rfl
  have eD:(all.set k (xt all[k] (kQ bu all[k]))).drop (k+1)=all.drop (k+1):=List.drop_set_of_lt (by omega)
  refine⟨(bu - kQ bu all[k],(j:Int),((k+1:Nat):Int),m,all.set k (xt all[k] (kQ bu all[k]))),⟨by rw[jw];exact hm,by rw[jw];exact hl,⟨by omega,by omega⟩,k+1,j,rfl,rfl,by omega,hj,λg R8=> ?_⟩,by simp only[e1,e2];omega,?_,λkn kx=> ?_⟩
  ·have:((all.set k (xt all[k] (kQ bu all[k]))).take j).drop (k+1)=(all.take j).drop (k+1):=by
    rw[List.take_set,List.drop_set_of_lt (by omega)]
   rw[this]at R8
   exact hg g (aF _ R8)
  ·simp only[aB.L3.add,aB.L3.F,aa,e1,e2,hd,jj,et,eD,bg,eV]
  ·rw[aB.L3.step,bA (by omega),aj,bJ (by omega) (by omega),aj]
   simp only[aa,aN,cq,aX ek,aj,decide_true,n1]
   rw[bJ (by omega) (by omega),aj,dS (x:=(nth c9 all[k].1 0).2.1.1) (by omega) (by omega)]
   rw[show p9 bu ((nth c9 all[k].1 0).2.1.1 - all[k].2.1)=kQ bu all[k] from rfl,dS (by omega) (by omega),eH (x:=all[k].2.2.1) (by omega) (by omega),N.rD (by omega)]
   rfl
 ·right
  obtain rfl:k=j:=by omega
  intro R kn kx
  have e1:((k:Int) - (k:Int)).toNat=0:=by omega
  rw[aB.L3.step,bl (by omega),au]
  simp only[aB.L3.add,aB.L3.F,aa,e1,jj,cW]
theorem AK:∀ {l:List dh},(l.map (·.1)).Nodup->∀ {x y:dh},x∈l->y∈l->x.1=y.1->x=y
 |[],_,_,_,hx,_,_=>by cases hx
 |a::l,hn,x,y,hx,hy,e=>by
  rw[bE,cV]at hn
  rcases cv.1 hx with h1 | h1
  ·rcases cv.1 hy with h2 | h2
   ·rw[h1,h2]
   ·exact absurd (by rw[<-h1,e];exact gk h2) hn.1
  ·rcases cv.1 hy with h2 | h2
   ·exact absurd (by rw[<-h2,<-e];exact gk h1) hn.1
   ·exact AK hn.2 h1 h2 e
theorem wy:∀(n:Nat) (b:Int) (l:List gD),(jj n b l).length=l.length
 | 0,_,_=>rfl
 |_+1,_,[]=>rfl
 |n+1,b,g::l=>by rw[jj,aD,aD,wy n]
theorem iu{l:List dh}(hx:∀x∈l,Cw x)(hn:(l.map (·.1)).Nodup)(p:dh->Bool):(∀x∈l.filter p,Cx x)/\(∀x∈l.filter p,∀y∈l.filter p,x.1=y.1->x=y):=by
 refine⟨λx h=>(hx x (dE.1 h).1).1,λx h y h2 e=> ?_⟩
 exact AK hn (dE.1 h).1 (dE.1 h2).1 e
theorem IG:∀(l:List gD) (b:Int),(∀g∈l,0<=g.2.1)->0<=b->(0<=(kM b l).1/\(kM b l).1<=b)/\∃k,k<=l.length/\(kM b l).2=l.take k
 |[],b,_,hb=>⟨⟨hb,dW _⟩,0,ax _,rfl⟩
 |g::l,b,h,hb=>by
  unfold kM
  by_cases hc:g.2.1 > b
  ·rw[if_pos hc]
   exact⟨⟨hb,dW _⟩,0,bh _,rfl⟩
  ·rw[if_neg hc]
   have h0:=h g aG
   obtain⟨⟨i1,i2⟩,k,i3,i4⟩:=IG l (b - g.2.1) (λx hx=>h x (aF _ hx)) (by omega)
   refine⟨⟨i1,by show(kM (b - g.2.1) l).1<=b;omega⟩,k+1,by rw[aD];omega,?_⟩
   show g::(kM (b - g.2.1) l).2=_
   rw[i4]
   rfl
theorem y6:∀(n:Nat) (b:Int) (l:List gD) (m:Nat),(jj n b l).take m=jj n b (l.take m)
 | 0,_,_,_=>rfl
 |_+1,_,[],m=>by simp[jj]
 |n+1,b,g::l,0=>by simp[jj]
 |n+1,b,g::l,m+1=>by
  rw[kz,jj,jj,kz,y6]
theorem A8:∀(n:Nat) (b:Int) (l:List gD),jj (min l.length n) b l=jj n b l
 | 0,_,l=>by rw[Nat.min_zero]
 |_+1,_,[]=>rfl
 |n+1,b,g::l=>by
  rw[aD,Nat.succ_min_succ,jj,jj,A8 n]
theorem qJ{α:Type}:∀(n:Nat) (l:List α),l.length<=n->(gf l).length<=l.length/\∀c∈gf l,1<=c.length/\c.length<=8
 | 0,l,h=>by
  obtain rfl:=aL (Nat.le_zero.1 h)
  exact⟨ax _,λc hc=>(by cases hc)⟩
 |n+1,l,h=>by
  by_cases h0:0 < l.length
  ·have hd:(l.drop 8).length<=l.length - 1:=by rw[cO];omega
   obtain⟨i1,i2⟩:=qJ n (l.drop 8) (by omega)
   rw[rS h0]
   refine⟨by rw[aD];omega,λc hc=> ?_⟩
   rcases cv.1 hc with rfl | hc
   ·rw[cz];omega
   ·exact i2 c hc
  ·obtain rfl:=aL (by omega:l.length=0)
   exact⟨ax _,λc hc=>(by cases hc)⟩
section
variable {l:List dh} {b:pD} {h:Int}
theorem qn(hx:∀x∈l,Cw x):EF (t:=c9) oT (l.filter (qo b h)) (dL l b h):=Cg vY λx hm=>(hx x (dE.1 hm).1).1
theorem sU(hx:∀x∈l,Cw x):EF (t:=c9) z6 (l.filter (qw b h)) (iy l b h):=Cg yj λx hm=>(hx x (dE.1 hm).1).1
theorem yx(hx:∀x∈l,Cw x){x:dh}(hm:x∈dL l b h):x∈l/\iY h x=true/\gY b h x=true:=by
 obtain⟨h1,h2⟩:=dE.1 ((qn hx).1.mem_iff.1 hm)
 unfold qo at h2
 rw[ag]at h2
 exact⟨h1,h2⟩
theorem DQ{x:dh}(ha:0<=x.2.1.1/\x.2.1.1<=1099511627776)(hk:iY h x=true):Md (jt x):=by
 have h1:=py [x]
 unfold iY at hk
 rw[ag,bp]at hk
 have h2:=of_decide_eq_false hk.2
 have h3:qE [x]<=40:=h1.2
 exact⟨by show 0 < 1;decide,⟨h1.1,by show qE [x]<=x.2.1.1;omega,ha.2⟩,h1.1,by show qE [x]<=_;omega⟩
theorem CC{g:gD}(hg:g∈lj l b h):0<=g.2.1:=by
 unfold lj at hg
 rcases bf.1 hg with hg | hg
 ·obtain⟨x,_,rfl⟩:=cX.1 hg
  exact(py [x]).1
 ·obtain⟨c,_,rfl⟩:=cX.1 hg
  exact(py c).1
end
theorem aB.ok:aB.Ok:=by
 rintro⟨l,bu,b,h⟩ hx
 have hx:∀x∈l,Cw x:=hx
 have z1:((0:Int)).toNat=0:=rfl
 rw[aB.eq]
 simp only[bU,aB.F,vj]
 by_cases a1:0<=bu
 rotate_left
 ·rw[bA (by omega),aj,if_neg (λe=>by unfold kB at e;rw[ag]at e;exact a1 (of_decide_eq_true e.1).1)]
 rw[bl (by omega),au]
 by_cases a2:bu<=1125899906842624
 rotate_left
 ·rw[dv (by omega),aj,if_neg (λe=>by unfold kB at e;rw[ag]at e;exact a2 (of_decide_eq_true e.1).2)]
 rw[cZ (by omega),au,dV.run (d:=b) trivial]
 simp only[ah,bU,dV.F]
 cases a3:lG b with
 |false=>rw[dr,aj,if_neg (λe=>by unfold kB at e;rw[a3,dQ,Bool.and_false]at e;cases e)]
 |true=>
 rw[b8,au]
 by_cases a4:1<=h
 rotate_left
 ·rw[bA (by omega),aj,if_neg (λe=>by unfold kB at e;rw[ag,ag,ag]at e;exact a4 (of_decide_eq_true e.2.2.1).1)]
 rw[bl (by omega),au]
 by_cases a5:h<=1048576
 rotate_left
 ·rw[dv (by omega),aj,if_neg (λe=>by unfold kB at e;rw[ag,ag,ag]at e;exact a5 (of_decide_eq_true e.2.2.1).2)]
 rw[cZ (by omega),au,aT.run (d:=l) trivial]
 simp only[ah,bU,aT.F]
 cases a6:wF l with
 |false=>rw[dr,aj,if_neg (λe=>by unfold kB at e;rw[a6,Bool.and_false,Bool.and_false,Bool.and_false]at e;cases e)]
 |true=>
 have oo:kB l bu b h=true:=by unfold kB;rw[aX ⟨a1,a2⟩,a3,aX ⟨a4,a5⟩,a6];rfl
 rw[if_pos oo,b8,au]
 obtain⟨r1,r2,r3⟩:=(um l).1 a6
 rw[aB.L0.run (d:=(bu,h,0,h,b,0,0,l,(l.length:Int),0,[],[])) ⟨hx,⟨a4,a5⟩,rfl,rfl,rfl,by omega,rfl,0,bh _,rfl,ax _,ax _⟩]
 simp only[ah,aB.L0.add,aB.L0.F,z1,aJ,aN,aS]
 have fl:∀p,(l.filter p).length<=64:=λp=>Nat.le_trans (hM p l) r1
 have s1:=Eh.run (d:=((l.filter (qo b h)).length,l.filter (qo b h))) ⟨rfl,Nat.lt_of_le_of_lt (fl _) (by decide),(iu hx r2 _).1,λx hm y LF e1 e2=>(iu hx r2 _).2 x hm y LF (wV ((iu hx r2 _).1 x hm) ((iu hx r2 _).1 y LF) e1 e2)⟩
 have s2:=Eg.run (d:=((l.filter (qw b h)).length,l.filter (qw b h))) ⟨rfl,Nat.lt_of_le_of_lt (fl _) (by decide),(iu hx r2 _).1,λx hm y LF e1 e2=>(iu hx r2 _).2 x hm y LF (yn ((iu hx r2 _).1 x hm) ((iu hx r2 _).1 y LF) e1 e2)⟩
 have f1:(l.filter (qo b h)).length=(dL l b h).length:=(qn hx).1.length_eq.symm
 have f2:(l.filter (qw b h)).length=(iy l b h).length:=(sU hx).1.length_eq.symm
 have g1:(dL l b h).length<=64:=by rw[<-f1];exact fl _
 have g2:(iy l b h).length<=64:=by rw[<-f2];exact fl _
 rw[s1]
 simp only[ah]
 rw[s2]
 simp only[ah]
 rw[show tf (t:=c9) oT (l.filter (qo b h))=dL l b h from rfl,show tf (t:=c9) z6 (l.filter (qw b h))=iy l b h from rfl,f1,f2]
 rw[aB.L1.run (d:=(bu,0,(dL l b h).length,(iy l b h).length,((dL l b h).length:Int),0,0,iy l b h,dL l b h,[])) ⟨rfl,by omega,rfl,rfl,0,bh _,rfl,ax _⟩]
 simp only[ah,aB.L1.add,aB.L1.F,z1,aJ,aN,aS]
 rw[aX ⟨trivial,by omega⟩,aj,iq rfl,eZ.run (d:=(iy l b h,8)) (by show(1:Int)<=8;decide)]
 simp only[ah,eZ.add,eZ.F]
 rw[eS.run (d:=((dL l b h).length,(dL l b h).map jt,iy l b h,8)) ⟨rfl,by show(iy l b h).length<=_;omega,by rw[ct],by show(dL l b h).length<=_;omega⟩]
 simp only[ah,bU,eS.F]
 have qO:(dL l b h).length+(gf (iy l b h)).length=(lj l b h).length:=by unfold lj;rw[aq,ct,ct]
 have hlen:(lj l b h).length<=1000:=by
  have:=(qJ _ (iy l b h) (ax _)).1
  omega
 have lv:∀g∈lj l b h,0<=g.2.1:=λg hg=>CC hg
 rw[show(dL l b h).map jt++(gf (iy l b h)).map fp=lj l b h from rfl,qO]
 rw[aB.L2.run (d:=(bu,(dL l b h).length,(lj l b h).length,((lj l b h).length:Int),0,(lj l b h).length,dL l b h,lj l b h)) ⟨rfl,rfl,by omega,rfl,⟨a1,a2⟩,lv,0,bh _,rfl⟩]
 simp only[ah,aB.L2.add,aB.L2.F,z1,aJ,aN]
 obtain⟨⟨c1,c2⟩,k,c3,c4⟩:=IG (lj l b h) bu lv a1
 have c5:(kM bu (lj l b h)).2.length=k:=by rw[c4,cz];omega
 have ej:p9 (k:Int) ((dL l b h).length:Int)=((min k (dL l b h).length:Nat):Int):=by unfold p9;split <;> omega
 unfold jW
 rw[c5,c4,ej]
 generalize (kM bu (lj l b h)).1=bu2 at c1 c2 ⊢
 have pZ:∀g∈((lj l b h).take (min k (dL l b h).length)).drop 0,Md g:=λg hg=>by
  rw[aJ]at hg
  have hg:g∈((dL l b h).map jt).take (min k (dL l b h).length):=by
   have e:(lj l b h).take (min k (dL l b h).length)=((dL l b h).map jt).take (min k (dL l b h).length):=by
    unfold lj
    rw[eR (by rw[ct];omega)]
   rw[e]at hg
   exact hg
  obtain⟨x,hm,rfl⟩:=cX.1 (List.mem_of_mem_take hg)
  obtain⟨m1,m2,_⟩:=yx hx hm
  exact DQ (r3 x m1) m2
 rw[aB.L3.run (d:=(bu2,((min k (dL l b h).length:Nat):Int),0,k,lj l b h)) ⟨c3,by omega,⟨c1,by omega⟩,0,min k (dL l b h).length,rfl,rfl,bh _,Nat.min_le_left _ _,pZ⟩]
 have e0:(((min k (dL l b h).length:Nat):Int) - 0).toNat=min k (dL l b h).length:=by omega
 simp only[ah,aB.L3.add,aB.L3.F,z1,aJ,eY,aS,e0,aN]
 have em:∀(n:Nat) (c:Int) (L:List gD),(jj n c L).length=L.length:=wy
 rw[aX ⟨trivial,by rw[em];exact c3⟩,aj]
 have ec:cut (jj (min k (dL l b h).length) bu2 (lj l b h)) 0 k=jj (dL l b h).length bu2 ((lj l b h).take k):=by
  unfold cut
  rw[aJ,y6,<-A8 (dL l b h).length,cz,ei c3]
 rw[ec]
theorem aB.run:aB.RS:=rE [.d (.slice c9),.d ti,.d pQ,.d ti] aB
def aB.sg:=aB.gC aB.ok 4 ⟨.js aB.L0.ok,⟨.js aB.L1.ok,⟨.js aB.L2.ok,⟨.js aB.L3.ok,trivial⟩⟩⟩⟩
end Go.Ab
namespace Go.Ab
open Go.Proofs
abbrev ig.D:=Int×Int×Int
abbrev ig.Y:=Int×Bool×Bool
def ig.aY:ig.D->Prop:=λ(a,n,d)=>(0<=a/\a<=1125899906842624)/\(0<=n/\n<=d)/\1<=d/\d<=10000
def ig.F:ig.D->ig.Y:=λ(a,n,d)=>(a*n / d,ot (a*n%d) 0,true)
def ig:Fs Tryz.prog ig.aY bU ig.F:=gh 175 Tryz.f175 (λ(a,num,den)=>([.d ti a,.d ti num,.d ti den],[])) (λx=>⟨.cons (.d ti x.1) (.cons (.d .bool x.2.1) (.cons (.d .bool x.2.2) (.nil))),[],[]⟩) [some ti,some ti,some ti] [eQ.sg,fY.sg,bQ.sg]
theorem ig.eq{R:Type}(a num den)(k:K1 R):ig.A (a,num,den) k=
  aA (eQ.call a) λx1=>
  aK ((!x1)) (
   k (ig.out (0,false,false))) (
   aK ((iI num 0)) (
    k (ig.out (0,false,false))) (
    aK ((iI den 1)) (
     k (ig.out (0,false,false))) (
     aA (fY.call ((dP .u64 a),(dP .u64 num))) λx2=>
     aK ((qP x2.1 (dP .u64 den))) (
      k (ig.out (0,false,false))) (
      aA (bQ.call (x2.1,x2.2,(dP .u64 den))) λx3=>
      aK ((ot x3.1 1125899906842624)) (
       k (ig.out (0,false,false))) (
       k (ig.out ((dP .i64 x3.1),(ot x3.2 0),true))))))):=by kernel_rfl
theorem ig.ok:ig.Ok:=by
 rintro⟨a,n,d⟩ ⟨⟨h1,h2⟩,⟨h3,h4⟩,h5,h6⟩
 have h1:0<=a:=h1
 have h2:a<=1125899906842624:=h2
 have h3:0<=n:=h3
 have h4:n<=d:=h4
 have h5:1<=d:=h5
 have h6:d<=10000:=h6
 have k1:0<=a*n:=lS h1 h3
 have k2:a*n<=a*d:=Int.mul_le_mul_of_nonneg_left h4 h1
 have k3:a*d<=1125899906842624*d:=Int.mul_le_mul_of_nonneg_right h2 (by omega)
 have k4:a*n / d<=a:=Int.ediv_le_of_le_mul (by omega) k2
 have k5:0<=a*n / d:=Int.ediv_nonneg k1 (by omega)
 have e0:lZ a=true:=aX ⟨h1,h2⟩
 have c1:dP .u64 a=a:=by rw[wi];omega
 have c2:dP .u64 n=n:=by rw[wi];omega
 have c3:dP .u64 d=d:=by rw[wi];omega
 rw[ig.eq,eQ.run (d:=a) trivial]
 simp only[ah,bU,eQ.F,e0,b8,au]
 rw[bl (by omega),au,bl (by omega),au,c1,c2,c3,fY.run (d:=(a,n)) ⟨⟨h1,by show a < _;omega⟩,h3,by show n < _;omega⟩]
 simp only[ah,bU,fY.F]
 have e1:a*n / 18446744073709551616=0:=by omega
 have e2:a*n%18446744073709551616=a*n:=by omega
 rw[e1,e2,eu (by omega),au,bQ.run (d:=(0,a*n,d)) ⟨.inr ⟨rfl,by show 0 < d;omega,by show d < _;omega⟩,dW 0,by show 0 < d;omega,k1,by show a*n < _;omega⟩]
 simp only[ah,bU,bQ.F,Int.zero_mul,Int.zero_add]
 rw[cZ (by omega),au,Gw (by omega) (by omega)]
 rfl
theorem ig.run:ig.RS:=rE [.d ti,.d ti,.d ti] ig
def ig.sg:=ig.gC ig.ok
def Oe(a n d:Int):Int:=if 0 < a*n%d then a*n / d+1 else a*n / d
theorem L9{a n d:Int}(h1:0<=a)(h3:0<=n)(h4:n<=d)(h5:1<=d):0<=Oe a n d/\Oe a n d<=a/\(0 < a*n%d->a*n / d+1<=a):=by
 have k1:0<=a*n:=lS h1 h3
 have k2:a*n<=a*d:=Int.mul_le_mul_of_nonneg_left h4 h1
 have k4:a*n / d<=a:=Int.ediv_le_of_le_mul (by omega) k2
 have k5:0<=a*n / d:=Int.ediv_nonneg k1 (by omega)
 have k6:0 < a*n%d->a*n / d+1<=a:=λh=>by
  have e:=Int.mul_ediv_add_emod (a*n) d
  refine Classical.byContradiction λhc=> ?_
  have:a=a*n / d:=by omega
  rw[<-this,Int.mul_comm d a]at e
  omega
 unfold Oe
 split
 ·rename_i h
  exact⟨by omega,k6 h,k6⟩
 ·exact⟨k5,k4,k6⟩
abbrev vO.D:=Int×Int×Int
abbrev vO.Y:=Int×Bool
def vO.aY:vO.D->Prop:=λ(a,n,d)=>(0<=a/\a<=1125899906842624)/\(0<=n/\n<=d)/\1<=d/\d<=10000
def vO.F:vO.D->vO.Y:=λ(a,n,d)=>(Oe a n d,true)
def vO:Fs Tryz.prog vO.aY bU vO.F:=gh 116 Tryz.f116 (λ(a,num,den)=>([.d ti a,.d ti num,.d ti den],[])) (λx=>⟨.cons (.d ti x.1) (.cons (.d .bool x.2) (.nil)),[],[]⟩) [some ti,some ti,some ti] [ig.sg,jD.sg]
theorem vO.eq{R:Type}(a num den)(k:K1 R):vO.A (a,num,den) k=
  aA (ig.call (a,num,den)) λx1=>
  aK (x1.2.2) (
   aK (x1.2.1) (
    aA (jD.call (x1.1,1)) λx2=>
    k (vO.out (x2.1,x2.2))) (
    k (vO.out (x1.1,x1.2.2)))) (
   k (vO.out (x1.1,x1.2.2))):=by kernel_rfl
theorem vO.ok:vO.Ok:=by
 rintro⟨a,n,d⟩ h
 obtain⟨⟨h1,h2⟩,⟨h3,h4⟩,h5,h6⟩:=id h
 obtain⟨f1,f2,f3⟩:=L9 (a:=a) (n:=n) (d:=d) h1 h3 h4 h5
 have h2:a<=1125899906842624:=h2
 rw[vO.eq,ig.run (d:=(a,n,d)) h]
 simp only[ah,bU,ig.F,aj,bU,vO.F,Oe]at f1 f2 ⊢
 by_cases hr:0 < a*n%d
 ·have:=f3 hr
  rw[if_pos hr]at f1
  have k5:0<=a*n / d:=Int.ediv_nonneg (lS h1 h3) (by have:1<=d:=h5;omega)
  have e:pJ (a*n / d) 1=true:=by
   unfold pJ lZ
   rw[aX ⟨k5,by omega⟩,aX ⟨by decide,by decide⟩,aX (by omega)]
   rfl
  rw[dv hr,aj,jD.run (d:=(a*n / d,1)) trivial,if_pos hr]
  simp only[ah,bU,jD.F,e,cond_true]
 ·rw[cZ hr,au,if_neg hr]
theorem vO.run:vO.RS:=rE [.d ti,.d ti,.d ti] vO
def vO.sg:=vO.gC vO.ok
abbrev lN.D:=gD×Int×pD
abbrev lN.Y:=Int
def qm(g:gD)(h:Int)(b:pD):Int:=
 if g.2.2.2.1=0\/lG b=false\/g.2.2.2.1 - h>=2*jk b then g.2.1
 else if g.2.2.2.1 - h<=jk b then g.2.2.1
 else g.2.1+Oe (g.2.2.1 - g.2.1) (2*jk b - (g.2.2.2.1 - h)) (jk b)
def Oj(g:gD):Prop:=(0<=g.2.1/\g.2.1<=g.2.2.1/\g.2.2.1<=1125899906842624)/\0<=g.2.2.2.1/\g.2.2.2.1<=9223372036854775807
def lN.aY:lN.D->Prop:=λ(g,h,_)=>Oj g/\0<=h/\h<=9223372036854775807
def lN.F:lN.D->lN.Y:=λ(g,h,b)=>qm g h b
def lN:Fs Tryz.prog lN.aY bU lN.F:=gh 52 Tryz.f52 (λ(g,atv,b)=>([.d fi g,.d ti atv,.d pQ b],[])) (λx=>⟨.d ti x,[],[]⟩) [some fi,some ti,some pQ] [fc.sg,dV.sg,vO.sg]
theorem lN.eq{R:Type}(g atv b)(k:K1 R):lN.A (g,atv,b) k=
  aA (fc.call b) λx1=>
  aK ((BX g.2.2.2.1 0)) (
   k (lN.out g.2.1)) (
   aA (dV.call b) λx2=>
   aK ((!x2)) (
    k (lN.out g.2.1)) (
    aK ((qP (dn .i64 g.2.2.2.1 atv) (gz .i64 2 x1))) (
     k (lN.out g.2.1)) (
     aK ((Ct (dn .i64 g.2.2.2.1 atv) x1)) (
      k (lN.out g.2.2.1)) (
      aA (vO.call ((dn .i64 g.2.2.1 g.2.1),(dn .i64 (gz .i64 2 x1) (dn .i64 g.2.2.2.1 atv)),x1)) λx3=>
      k (lN.out (bN .i64 g.2.1 x3.1)))))):=by kernel_rfl
theorem IQ{g:gD}{h:Int}{b:pD}(hg:Oj g):g.2.1<=qm g h b/\qm g h b<=g.2.2.1:=by
 obtain⟨⟨g1,g2,g3⟩,_⟩:=hg
 unfold qm
 split
 ·omega
 ·rename_i h1
  split
  ·omega
  ·rename_i h2
   have hs:=xZ b
   have hr:lG b=true:=by cases h:lG b with | true=>rfl | false=>exact absurd (.inr (.inl h)) h1
   have:=L9 (a:=g.2.2.1 - g.2.1) (n:=2*jk b - (g.2.2.2.1 - h)) (d:=jk b) (by omega) (by omega) (by omega) (by have:=hs.2.2 hr;omega)
   omega
theorem lN.ok:lN.Ok:=by
 rintro⟨g,h,b⟩ ⟨hg,h0,h1⟩
 obtain⟨⟨g1,g2,g3⟩,g4,g5⟩:=id hg
 have h0:0<=h:=h0
 have h1:h<=9223372036854775807:=h1
 have hs:=xZ b
 have hf:=IQ (h:=h) (b:=b) hg
 rw[lN.eq,fc.run (d:=b) trivial]
 simp only[ah,bU,fc.F,bU,lN.F]at hf ⊢
 unfold qm at hf ⊢
 by_cases a1:g.2.2.2.1=0
 ·rw[j6 a1,aj,if_pos (.inl a1)]
 rw[iV a1,au,dV.run (d:=b) trivial]
 simp only[ah,bU,dV.F]
 cases a2:lG b with
 |false=>rw[dr,aj,if_pos (.inr (.inl rfl))]
 |true=>
 have hp:=hs.2.2 a2
 rw[b8,au,dS (x:=g.2.2.2.1) (by omega) (by omega),o9 (by omega) (by omega)]
 by_cases a3:g.2.2.2.1 - h>=2*jk b
 ·rw[fW a3,aj,if_pos (.inr (.inr a3))]
 rw[eu a3,au]
 have hn:¬(g.2.2.2.1=0\/true=false\/g.2.2.2.1 - h>=2*jk b):=λe=>e.elim a1 λe=>e.elim (λe=>by cases e) a3
 rw[if_neg hn]
 rw[a2,if_neg hn]at hf
 by_cases a4:g.2.2.2.1 - h<=jk b
 ·rw[kO a4,aj,if_pos a4]
 rw[iW a4,au,if_neg a4]
 rw[if_neg a4]at hf
 rw[dS (x:=g.2.2.1) (by omega) (by omega),dS (x:=2*jk b) (by omega) (by omega),vO.run (d:=(g.2.2.1 - g.2.1,2*jk b - (g.2.2.2.1 - h),jk b)) ⟨⟨by show 0<=g.2.2.1 - g.2.1;omega,by show g.2.2.1 - g.2.1<=_;omega⟩,⟨by show 0<=2*jk b - (g.2.2.2.1 - h);omega,by show 2*jk b - (g.2.2.2.1 - h)<=jk b;omega⟩,by show 1<=jk b;omega,by show jk b<=_;omega⟩]
 simp only[ah,bU,vO.F]
 rw[eH (x:=g.2.1) (by omega) (by omega)]
theorem lN.run:lN.RS:=rE [.d fi,.d ti,.d pQ] lN
def lN.sg:=lN.gC lN.ok
abbrev kL.D:=jd×dh
abbrev kL.Y:=Bool
abbrev kL.X:=(dh)×(Bool)
def kL.add:kL.D->kL.Y->kL.X:=λ(i,o0) y=>(o0,y)
def nM(x:dh)(i:jd):Bool:=Ty.beq fA i.1 x.1
def kL.aY:kL.D->Prop:=λ_=>True
def kL.F:kL.D->kL.Y:=λ(i,x)=>nM x i
def kL:Fs Tryz.prog kL.aY kL.add kL.F:=gh 172 Tryz.f172 (λ(i,o0)=>([.d ka i,.ptr (.dd 0) 0 [] 0],[.obj 0 false (.d c9 o0)])) (λx=>⟨.d .bool x.2,[.obj 0 false (.d c9 x.1)],[]⟩) [some ka,none]
theorem kL.eq{R:Type}(i o0)(k:K1 R):kL.A (i,o0) k=
 k (kL.out (o0,(Ty.beq fA i.1 o0.1))):=by kernel_rfl
theorem kL.ok:kL.Ok:=by
 rintro⟨i,x⟩ _
 rw[kL.eq]
 rfl
theorem kL.run:kL.RS:=rE [.d ka,.d c9] kL
def kL.sg:=kL.gC kL.ok
abbrev aV.L0.D:=Nat×Int×Int×(List jd)×dh
def aV.L0.st:aV.L0.D->AS:=λ(HU,t7,t8,mH,FB)=>⟨([.cD (.dd 0) 0 [] 0 0 HU,.fn 172 (.cons (.ptr (.dd 1) 0 [] 0) (.nil))]++bB 5 ([.d ti t7,.d ti t8]++bB 10 [])),[.obj 0 false (.vec 52 ka mH),.obj 0 false (.d c9 FB)],(List.replicate 19 [])⟩
abbrev aV.L0.Y0:=Int×dh
abbrev aV.L0.X0:=((List jd))×(Int×dh)
def aV.L0.dm:aV.L0.X0->Exit×AS:=λx=>(.ret,⟨(bB 4 ([.d ti x.2.1]++bB 14 [])),[.obj 0 false (.vec 52 ka x.1),.obj 0 false (.d c9 x.2.2)],(List.replicate 19 [])⟩)
abbrev aV.L0.Y1:=dh
abbrev aV.L0.X1:=((List jd))×(dh)
def aV.L0.gL:aV.L0.X1->Exit×AS:=λx=>(.exit 0,⟨(bB 19 []),[.obj 0 false (.vec 52 ka x.1),.obj 0 false (.d c9 x.2)],(List.replicate 19 [])⟩)
abbrev aV.L0.X:=(aV.L0.X0)⊕(aV.L0.X1)
abbrev aV.L0.Y:=(aV.L0.Y0)⊕(aV.L0.Y1)
def aV.L0.out:aV.L0.X->Out (Exit×AS):=λx=> .br x.isLeft (.get x.getLeft? λa=> .ok (aV.L0.dm a)) (.get x.getRight? λb=> .ok (aV.L0.gL b))
def aV.L0.add:aV.L0.D->aV.L0.Y->aV.L0.X:=λ(HU,t7,t8,mH,FB) y=>match y with | .inl y=> .inl (mH,y) | .inr z=> .inr ((mH,z))
abbrev aV.D:=Nat×(List jd)×dh
abbrev aV.Y:=Int×(List jd)×dh
def aV.L0.aY:aV.L0.D->Prop:=λ(m,n,i,l,_)=>l.length<=1000000000/\m=l.length/\n=l.length/\∃k:Nat,k<=l.length/\i=k
def aV.L0.F:aV.L0.D->aV.L0.Y:=λ(_,_,i,l,x)=>match wj (nM x) (l.drop i.toNat) i with | .inl j=> .inl (j,x) | .inr _=> .inr x
def aV.aY:aV.D->Prop:=λ(m,l,_)=>l.length<=1000000000/\m=l.length
def aV.F:aV.D->aV.Y:=λ(_,l,x)=>(Ht (nM x) l,l,x)
def aV.L0.E:=eE.js aV.L0.st aV.L0.aY aV.L0.add aV.L0.F aV.L0.out
def aV.L0.call:aV.L0.D->Option aV.L0.X:=kJ aV.L0.E aV.L0.st
def aV:Fs Tryz.prog aV.aY bU aV.F:=gh 234 Tryz.f234 (λ(sL,o0,o1)=>([.cD (.dd 0) 0 [] 0 0 sL,.fn 172 (.cons (.ptr (.dd 1) 0 [] 0) (.nil))],[.obj 0 false (.vec 52 ka o0),.obj 0 false (.d c9 o1)])) (λx=>⟨.d ti x.1,[.obj 0 false (.vec 52 ka x.2.1),.obj 0 false (.d c9 x.2.2)],[]⟩) [none,none] [kL.sg] {loops:=rH [(2,{bI:=[0,1,7,8]})],outs:=rG [(2,{},{bI:=[4]})],jP:=sh [(2,aV.L0.E)]}
def aV.L0.R:= @iA Tryz.prog (mR aV.G) aV.an 0 Tryz.f234 0 _ aV.L0.st
abbrev aV.L0.Ok:=pE Tryz.prog (mR aV.G) aV.an 0 Tryz.f234 0 aV.L0.st aV.L0.aY aV.L0.add aV.L0.F aV.L0.out
theorem aV.L0.run:nI aV.L0.call aV.L0.aY aV.L0.add aV.L0.F:=qz (qa [.n,.d ti,.d ti,.d (.slice ka),.d c9] λ_=>by kernel_rfl)
theorem aV.L0.c8:qk @aV.L0.R aV.L0.st aV.L0.aY aV.L0.add aV.L0.F aV.L0.out aV.L0.Ok:=qI
theorem aV.L0.step{R:Type}(HU:Nat)(t7:Int)(t8:Int)(mH:(List jd))(FB:dh)(kn:AS->Option R)(kx:Exit->AS->Option R):aV.L0.R (HU,t7,t8,mH,FB) kn kx=
  aK ((iI t8 t7)) (
   aK (fa t8 ((HU:Nat):Int)) (
   aK (decide ((0+(Int.toNat t8)) < (List.length mH))) (
   aK (decide ((((0+(Int.toNat t8))*36)+0)=(0+((Int.toNat t8)*36)))) (
   aA (kL.call ((nth ka mH (0+(Int.toNat t8))),FB)) λx1=>
   aK (x1.2) (
    kx (aV.L0.dm (mH,(t8,x1.1))).1 (aV.L0.dm (mH,(t8,x1.1))).2) (
    kn (aV.L0.st (HU,t7,(bN .i64 t8 (1:Int)),mH,x1.1)))) none) none) none) (
   kx (aV.L0.gL (mH,FB)).1 (aV.L0.gL (mH,FB)).2):=by kernel_rfl
theorem aV.eq{R:Type}(sL o0 o1)(k:K1 R):aV.A (sL,o0,o1) k=
  aA (aV.L0.call (sL,((sL:Nat):Int),0,o0,o1)) λx2=>
  aK (x2.isLeft) (
   aA (x2.getLeft?) λa3=>
   k (aV.out (a3.2.1,a3.1,a3.2.2))) (
   aA (x2.getRight?) λb4=>
   k (aV.out ((-1),b4.1,b4.2))):=by kernel_rfl
theorem aV.L0.ok:aV.L0.Ok:=by
 refine aV.L0.c8 (λ(_,_,i,l,_)=>l.length - i.toNat) ?_
 rintro⟨m,n,i,l,x⟩ ⟨hb,rfl,rfl,k,hk,rfl⟩
 have hb:l.length<=1000000000:=hb
 have hk:k<=l.length:=hk
 by_cases h:k < l.length
 ·have n1:nth ka l k=l[k]:=dM (t:=ka) h
  have hd:wj (nM x) (l.drop k) k=if nM x l[k] then .inl (k:Int) else wj (nM x) (l.drop (k+1)) ((k+1:Nat):Int):=by rw[aC h];rfl
  have step:∀ {R:Type} (kn:AS->Option R) (kx:Exit->AS->Option R),aV.L0.R (l.length,(l.length:Int),(k:Int),l,x) kn kx=aK (nM x l[k]) (kx (aV.L0.dm (l,((k:Int),x))).1 (aV.L0.dm (l,((k:Int),x))).2) (kn (aV.L0.st (l.length,(l.length:Int),((k+1:Nat):Int),l,x))):=by
   intro R kn kx
   rw[aV.L0.step,bA (by omega),aj,bJ (by omega) (by omega),aj]
   simp only[aa,aN,cq,aX h,aj,decide_true,n1]
   rw[kL.run (d:=(l[k],x)) trivial]
   simp only[ah,kL.add,kL.F]
   rw[N.rD (by omega)]
  cases hp:nM x l[k]
  ·left
   refine⟨(l.length,(l.length:Int),((k+1:Nat):Int),l,x),⟨hb,rfl,rfl,k+1,by omega,rfl⟩,by simp only[aa];omega,?_,λkn kx=> ?_⟩
   ·simp only[aV.L0.add,aV.L0.F,aa,hd,hp,bK,if_false]
   ·rw[step,hp,au]
  ·right
   refine⟨aV.L0.dm (l,((k:Int),x)),?_,λkn kx=> ?_⟩
   ·simp only[aV.L0.add,aV.L0.F,aa,hd,hp,if_true]
    rfl
   ·rw[step,hp,aj]
 ·right
  obtain rfl:k=l.length:=by omega
  refine⟨aV.L0.gL (l,x),?_,λkn kx=> ?_⟩
  ·simp only[aV.L0.add,aV.L0.F,aa,bq]
   rfl
  ·rw[aV.L0.step,bl (by omega),au]
theorem aV.ok:aV.Ok:=by
 rintro⟨m,l,x⟩ ⟨hb,rfl⟩
 rw[aV.eq,aV.L0.run (d:=(l.length,(l.length:Int),0,l,x)) ⟨hb,rfl,rfl,0,bh _,rfl⟩]
 simp only[ah,aV.L0.add,aV.L0.F,cF,aJ,bU,aV.F,Ht]
 cases wj (nM x) l 0 <;> rfl
theorem aV.run:aV.RS:=rE [.n,.d (.slice ka),.d c9] aV
def aV.sg:=aV.gC aV.ok 1 ⟨.js aV.L0.ok,trivial⟩
abbrev fX.D:=Nat×(List jd)×dh
abbrev fX.Y:=Bool×(List jd)×dh
def fX.aY:fX.D->Prop:=λ(m,l,_)=>l.length<=1000000000/\m=l.length
def fX.F:fX.D->fX.Y:=λ(_,l,x)=>(l.any (nM x),l,x)
def fX:Fs Tryz.prog fX.aY bU fX.F:=gh 171 Tryz.f171 (λ(sL,o0,o1)=>([.cD (.dd 0) 0 [] 0 0 sL,.fn 172 (.cons (.ptr (.dd 1) 0 [] 0) (.nil))],[.obj 0 false (.vec 52 ka o0),.obj 0 false (.d c9 o1)])) (λx=>⟨.d .bool x.1,[.obj 0 false (.vec 52 ka x.2.1),.obj 0 false (.d c9 x.2.2)],[]⟩) [none,none] [aV.sg]
theorem fX.eq{R:Type}(sL o0 o1)(k:K1 R):fX.A (sL,o0,o1) k=
 aA (aV.call (sL,o0,o1)) λx1=>
 k (fX.out ((qP x1.1 0),x1.2.1,x1.2.2)):=by kernel_rfl
theorem fX.ok:fX.Ok:=by
 rintro⟨m,l,x⟩ h
 rw[fX.eq,aV.run (d:=(m,l,x)) h]
 simp only[ah,bU,aV.F,Dq]
 rfl
theorem fX.run:fX.RS:=rE [.n,.d (.slice ka),.d c9] fX
def fX.sg:=fX.gC fX.ok
abbrev bj.L0.D:=(List dh)×Bs×Int×Lk×Int×(List dh)×Int×Int×(Int×Unit)×Nat×(Int×Unit)×(List jd)
def bj.L0.st:bj.L0.D->AS:=λ(oz,xD,wX,Ep,sum,t41,t42,t43,n8,y8,n10,Nj)=>⟨([.d (.slice c9) oz,.d tU xD,.undef,.d ti wX,.undef,.undef,.eO xI Ep,.undef,.ptr (.new 8 0) 0 [] 0,.undef,.ptr (.new 10 0) 0 [] 0,.d ti sum]++bB 29 ([.d (.slice c9) t41,.d ti t42,.d ti t43]++bB 90 [])),[],(cR 8 ([[.obj 0 false (.pr (.db) (.pr (.db) (.d (.pair ti .unit) n8)))],[],[.obj 0 false (.pr (.cD (.new 88 0) 0 [] 0 0 y8) (.pr (.db) (.d (.pair ti .unit) n10)))]]++cR 77 ([[.obj 0 false (.vec 52 ka Nj)]]++cR 45 [])))⟩
abbrev bj.L0.Y0:=(Int×Unit)
abbrev bj.L0.X0:=(Int×Unit)
def bj.L0.dm:bj.L0.X0->Exit×AS:=λx=>(.ret,⟨(bB 8 ([.ptr (.new 8 0) 0 [] 0,.d ti (1:Int)]++bB 124 [])),[],(cR 8 ([[.obj 0 false (.pr (.db) (.pr (.db) (.d (.pair ti .unit) x)))]]++cR 125 []))⟩)
abbrev bj.L0.Y1:=Int×Nat×(List jd)
abbrev bj.L0.X1:=((List dh)×Bs×Int×Lk×(Int×Unit)×(Int×Unit))×(Int×Nat×(List jd))
def bj.L0.gL:bj.L0.X1->Exit×AS:=λx=>(.exit 0,⟨([.d (.slice c9) x.1.1,.d tU x.1.2.1,.undef,.d ti x.1.2.2.1,.undef,.undef,.eO xI x.1.2.2.2.1,.undef,.ptr (.new 8 0) 0 [] 0,.undef,.ptr (.new 10 0) 0 [] 0,.d ti x.2.1]++bB 122 []),[],(cR 8 ([[.obj 0 false (.pr (.db) (.pr (.db) (.d (.pair ti .unit) x.1.2.2.2.2.1)))],[],[.obj 0 false (.pr (.cD (.new 88 0) 0 [] 0 0 x.2.2.1) (.pr (.db) (.d (.pair ti .unit) x.1.2.2.2.2.2)))]]++cR 77 ([[.obj 0 false (.vec 52 ka x.2.2.2)]]++cR 45 [])))⟩)
abbrev bj.L0.X:=(bj.L0.X0)⊕(bj.L0.X1)
abbrev bj.L0.Y:=(bj.L0.Y0)⊕(bj.L0.Y1)
def bj.L0.out:bj.L0.X->Out (Exit×AS):=λx=> .br x.isLeft (.get x.getLeft? λa=> .ok (bj.L0.dm a)) (.get x.getRight? λb=> .ok (bj.L0.gL b))
def bj.L0.add:bj.L0.D->bj.L0.Y->bj.L0.X:=λ(oz,xD,wX,Ep,sum,t41,t42,t43,n8,y8,n10,Nj) y=>match y with | .inl y=> .inl y | .inr z=> .inr (((oz,xD,wX,Ep,n8,n10),z))
abbrev bj.L1.D:=Bs×(List dh)×Int×Int×(Int×Unit)×jI
def bj.L1.st:bj.L1.D->AS:=λ(Fp,t106,t107,t108,DM,y9)=>⟨([.undef,.d tU Fp]++bB 6 ([.ptr (.new 8 0) 0 [] 0,.undef,.ptr (.new 10 0) 0 [] 0]++bB 95 ([.d (.slice c9) t106,.d ti t107,.d ti t108]++bB 25 []))),[],(cR 8 ([[.obj 0 false (.pr (.db) (.pr (.db) (.d (.pair ti .unit) DM)))],[],[.obj 0 false (.d oO y9)]]++cR 123 []))⟩
abbrev bj.L1.Y0:=Int×(Int×Unit)
abbrev bj.L1.X0:=Int×(Int×Unit)
def bj.L1.dm:bj.L1.X0->Exit×AS:=λx=>(.ret,⟨(bB 8 ([.ptr (.new 8 0) 0 [] 0,.d ti x.1]++bB 124 [])),[],(cR 8 ([[.obj 0 false (.pr (.db) (.pr (.db) (.d (.pair ti .unit) x.2)))]]++cR 125 []))⟩)
abbrev bj.L1.Y1:=jI
abbrev bj.L1.X1:=((Int×Unit))×(jI)
def bj.L1.gL:bj.L1.X1->Exit×AS:=λx=>(.exit 2,⟨(bB 8 ([.ptr (.new 8 0) 0 [] 0,.undef,.ptr (.new 10 0) 0 [] 0]++bB 123 [])),[],(cR 8 ([[.obj 0 false (.pr (.db) (.pr (.db) (.d (.pair ti .unit) x.1)))],[],[.obj 0 false (.d oO x.2)]]++cR 123 []))⟩)
abbrev bj.L1.X:=(bj.L1.X0)⊕(bj.L1.X1)
abbrev bj.L1.Y:=(bj.L1.Y0)⊕(bj.L1.Y1)
def bj.L1.out:bj.L1.X->Out (Exit×AS):=λx=> .br x.isLeft (.get x.getLeft? λa=> .ok (bj.L1.dm a)) (.get x.getRight? λb=> .ok (bj.L1.gL b))
def bj.L1.add:bj.L1.D->bj.L1.Y->bj.L1.X:=λ(Fp,t106,t107,t108,DM,y9) y=>match y with | .inl y=> .inl y | .inr z=> .inr ((DM,z))
abbrev bj.D:=(List dh)×Bs×Lk×Int
abbrev bj.Y:=jI×Int
def F6:jI:=(([]:List jd),(([]:List mw),((0:Int),())))
def Ac(x:dh):jd:=(x.1,(((0:Int),(([]:List Sg),((0:Int),()))),()))
def HB(s:Int)(ins:List jd)(x:dh)(k:Int):Bool:=pJ s x.2.1.1 && (!(ins.any (nM x)) && decide (k≠0/\k < 2305843009213688669))
def rr:Int->List jd->List dh->List Int->Option (Int×List jd)
 |s,ins,x::l,k::ks=>if HB s ins x k=true then rr (s+x.2.1.1) (ins++ [Ac x]) l ks else none
 |s,ins,_,_=>some (s,ins)
def tz:jI->Nat->List dh->List Int->jI⊕Int
 |t,i,x::l,k::ks=>if(nY t i x.2.2.1 [k] x.2.2.2.1).2=0 then tz (nY t i x.2.2.1 [k] x.2.2.2.1).1 (i+1) l ks else .inr (nY t i x.2.2.1 [k] x.2.2.2.1).2
 |t,_,_,_=> .inl t
def u6(l:List dh)(ks:List Int)(to:Lk)(jb:Int):jI×Int:=
 if 1<=l.length/\l.length<=64/\l.length=ks.length/\pH to=true then
  match rr 0 [] l ks with
  |none=>(F6,1)
  |some r=>if jb < 0\/jb > r.1 then(F6,8) else match tz (r.2,([(r.1 - jb,(to,()))],((0:Int),()))) 0 l ks with | .inl t=>(t,0) | .inr e=>(F6,e)
 else(F6,1)
def Mc(x:dh):Prop:=Sm x.1.1/\kX x.2.2.2.1
def bj.L0.aY:bj.L0.D->Prop:=λ(_,ks,_,_,s,l,n,i,_,m,_,ins)=>l.length<=64/\l.length=ks.length/\n=(l.length:Int)/\m=ins.length/\∃k:Nat,k<=l.length/\i=k/\ins.length<=k
def bj.L0.F:bj.L0.D->bj.L0.Y:=λ(_,ks,_,_,s,l,_,i,_,_,_,ins)=>match rr s ins (l.drop i.toNat) (ks.drop i.toNat) with
 |none=> .inl ((0:Int),())
 |some r=> .inr (r.1,r.2.length,r.2)
def bj.L1.aY:bj.L1.D->Prop:=λ(ks,l,n,i,_,t)=>Cq t/\(∀x∈l,kX x.2.2.2.1)/\(∀k∈ks,kX k)/\l.length<=64/\l.length=ks.length/\n=(l.length:Int)/\∃k:Nat,k<=l.length/\i=k
def bj.L1.F:bj.L1.D->bj.L1.Y:=λ(ks,l,_,i,_,t)=>match tz t i.toNat (l.drop i.toNat) (ks.drop i.toNat) with
 | .inl t=> .inr t
 | .inr e=> .inl (e,((0:Int),()))
def bj.aY:bj.D->Prop:=λ(l,ks,to,jb)=>(∀x∈l,Mc x)/\(∀k∈ks,kX k)/\J1 to/\l.length<=1000000000/\ks.length<=1000000000/\(-1125899906842624<=jb/\jb<=9223372036854775807)
def bj.F:bj.D->bj.Y:=λ(l,ks,to,jb)=>u6 l ks to jb
def bj.L0.E:=eE.js bj.L0.st bj.L0.aY bj.L0.add bj.L0.F bj.L0.out
def bj.L0.call:bj.L0.D->Option bj.L0.X:=kJ bj.L0.E bj.L0.st
def bj.L1.E:=eE.js bj.L1.st bj.L1.aY bj.L1.add bj.L1.F bj.L1.out
def bj.L1.call:bj.L1.D->Option bj.L1.X:=kJ bj.L1.E bj.L1.st
def bj:Fs Tryz.prog bj.aY bU bj.F:=gh 114 Tryz.f114 (λ(l,ks,to,jb)=>([.d (.slice c9) l,.d tU ks,.d xI to,.d ti jb],[])) (λx=>⟨.cons (.d oO x.1) (.cons (.d ti x.2) (.nil)),[],[]⟩) [some (.slice c9),some tU,some xI,some ti] [aM.sg,jD.sg,fX.sg,eL.sg,da.sg] {loops:=rH [(6,{bI:=[0,1,3,6,8,10,11,41,42,43],sites:=[8,10,88],owns:=[⟨10,[.fst],88,38⟩]}),(19,{bI:=[1,8,10,106,107,108],sites:=[8,10],EZ:=[⟨10,[.arr],oO⟩]})],outs:=rG [(6,{bI:=[0,1,3,6,8,10,11],sites:=[8,10,88]},{bI:=[8,9],sites:=[8]}),(19,{bI:=[8,10],sites:=[8,10]},{bI:=[8,9],sites:=[8]})],jP:=sh [(6,bj.L0.E),(19,bj.L1.E)],res:=[some oO,none]}
def bj.L0.R:= @iA Tryz.prog (mR bj.G) bj.an 0 Tryz.f114 0 _ bj.L0.st
abbrev bj.L0.Ok:=pE Tryz.prog (mR bj.G) bj.an 0 Tryz.f114 0 bj.L0.st bj.L0.aY bj.L0.add bj.L0.F bj.L0.out
def bj.L1.R:= @iA Tryz.prog (mR bj.G) bj.an 0 Tryz.f114 1 _ bj.L1.st
abbrev bj.L1.Ok:=pE Tryz.prog (mR bj.G) bj.an 0 Tryz.f114 1 bj.L1.st bj.L1.aY bj.L1.add bj.L1.F bj.L1.out
theorem bj.L0.run:nI bj.L0.call bj.L0.aY bj.L0.add bj.L0.F:=qz (qa [.d (.slice c9),.d tU,.d ti,.d xI,.d ti,.d (.slice c9),.d ti,.d ti,.d (.pair ti .unit),.n,.d (.pair ti .unit),.d (.slice ka)] λ_=>by kernel_rfl)
theorem bj.L0.c8:qk @bj.L0.R bj.L0.st bj.L0.aY bj.L0.add bj.L0.F bj.L0.out bj.L0.Ok:=qI
theorem bj.L0.step{R:Type}(oz:(List dh))(xD:Bs)(wX:Int)(Ep:Lk)(sum:Int)(t41:(List dh))(t42:Int)(t43:Int)(n8:(Int×Unit))(y8:Nat)(n10:(Int×Unit))(Nj:(List jd))(kn:AS->Option R)(kx:Exit->AS->Option R):bj.L0.R (oz,xD,wX,Ep,sum,t41,t42,t43,n8,y8,n10,Nj) kn kx=
  aK ((iI t43 t42)) (
   aK (fa t43 (((List.length t41):Nat):Int)) (
   aA (jD.call (sum,(nth c9 t41 (Int.toNat t43)).2.1.1)) λx1=>
   aA (fX.call (y8,Nj,(nth c9 t41 (Int.toNat t43)))) λx2=>
   aK ((!x1.2)) (
    kx (bj.L0.dm ((0:Int),())).1 (bj.L0.dm ((0:Int),())).2) (
    aK (x2.1) (
     kx (bj.L0.dm ((0:Int),())).1 (bj.L0.dm ((0:Int),())).2) (
     aK (fa t43 (((List.length xD):Nat):Int)) (
     aK ((BX (nth tu xD (Int.toNat t43)) (0:Int))) (
      kx (bj.L0.dm ((0:Int),())).1 (bj.L0.dm ((0:Int),())).2) (
      aK (fa t43 (((List.length xD):Nat):Int)) (
      aA (eL.call (nth tu xD (Int.toNat t43))) λx3=>
      aK ((!x3)) (
       kx (bj.L0.dm ((0:Int),())).1 (bj.L0.dm ((0:Int),())).2) (
       aK (decide (y8<=(List.length x2.2.1))) (
       aK (dT (y8+1) 80) (
       kn (bj.L0.st (oz,xD,wX,Ep,x1.1,t41,t42,(bN .i64 t43 (1:Int)),n8,(y8+1),n10,((List.take y8 x2.2.1)++ [(x2.2.2.1,(((0:Int),(([]:List Sg),((0:Int),()))),()))])))) none) none)) none)) none))) none) (
   kx (bj.L0.gL ((oz,xD,wX,Ep,n8,n10),(sum,y8,Nj))).1 (bj.L0.gL ((oz,xD,wX,Ep,n8,n10),(sum,y8,Nj))).2):=by kernel_rfl
theorem bj.L1.run:nI bj.L1.call bj.L1.aY bj.L1.add bj.L1.F:=qz (qa [.d tU,.d (.slice c9),.d ti,.d ti,.d (.pair ti .unit),.d oO] λ_=>by kernel_rfl)
theorem bj.L1.c8:qk @bj.L1.R bj.L1.st bj.L1.aY bj.L1.add bj.L1.F bj.L1.out bj.L1.Ok:=qI
theorem bj.L1.step{R:Type}(Fp:Bs)(t106:(List dh))(t107:Int)(t108:Int)(DM:(Int×Unit))(y9:jI)(kn:AS->Option R)(kx:Exit->AS->Option R):bj.L1.R (Fp,t106,t107,t108,DM,y9) kn kx=
  aK ((iI t108 t107)) (
   aK (fa t108 (((List.length t106):Nat):Int)) (
   aK (fa t108 (((List.length Fp):Nat):Int)) (
   aA (da.call (y9,t108,(nth c9 t106 (Int.toNat t108)).2.2.1,[(nth tu Fp (Int.toNat t108))],(nth c9 t106 (Int.toNat t108)).2.2.2.1)) λx1=>
   aK ((uD x1.2 (0:Int))) (
    kx (bj.L1.dm (x1.2,((0:Int),()))).1 (bj.L1.dm (x1.2,((0:Int),()))).2) (
    kn (bj.L1.st (Fp,t106,t107,(bN .i64 t108 (1:Int)),DM,x1.1)))) none) none) (
   kx (bj.L1.gL (DM,y9)).1 (bj.L1.gL (DM,y9)).2):=by kernel_rfl
theorem bj.eq{R:Type}(l ks to jb)(k:K1 R):bj.A (l,ks,to,jb) k=
  aK ((iI (l.length:Int) 1)) (
   k (bj.out ((([]:List jd),(([]:List mw),(0,()))),1))) (
   aK ((ot (l.length:Int) 64)) (
    k (bj.out ((([]:List jd),(([]:List mw),(0,()))),1))) (
    aK ((uD (l.length:Int) (ks.length:Int))) (
     k (bj.out ((([]:List jd),(([]:List mw),(0,()))),1))) (
     aA (aM.call to) λx1=>
     aK ((!x1)) (
      k (bj.out ((([]:List jd),(([]:List mw),(0,()))),1))) (
      aA (bj.L0.call (l,ks,jb,to,0,l,(l.length:Int),0,(0,()),0,(0,()),([]:List jd))) λx5=>
      aK (x5.isLeft) (
       aA (x5.getLeft?) λa6=>
       k (bj.out ((([]:List jd),(([]:List mw),a6)),1))) (
       aA (x5.getRight?) λb7=>
       aK ((iI b7.1.2.2.1 0)) (
        k (bj.out ((([]:List jd),(([]:List mw),(0,()))),8))) (
        aK ((ot b7.1.2.2.1 b7.2.1)) (
         k (bj.out ((([]:List jd),(([]:List mw),(0,()))),8))) (
         aK (decide (0=0/\(0+b7.2.2.1)<=(List.length b7.2.2.2))) (
         aA (bj.L1.call (b7.1.2.1,b7.1.1,(b7.1.1.length:Int),0,b7.1.2.2.2.2.1,((cut b7.2.2.2 0 b7.2.2.1),([((dn .i64 b7.2.1 b7.1.2.2.1),(b7.1.2.2.2.1,()))],b7.1.2.2.2.2.2)))) λx9=>
         aK (x9.isLeft) (
          aA (x9.getLeft?) λa10=>
          k (bj.out ((([]:List jd),(([]:List mw),a10.2)),a10.1))) (
          aA (x9.getRight?) λb11=>
          k (bj.out (b11.2,0)))) none))))))):=by kernel_rfl
theorem K4{t:jI}{i br sc:Int}{ks:List Int}(hv:Cq t)(hs:kX sc)(h:(nY t i br ks sc).2=0):Cq (nY t i br ks sc).1/\pk t i br ks=true:=by
 rw[Ea]at h ⊢
 by_cases e:pk t i br ks=true
 ·rw[if_pos e]
  exact⟨(JN hv e hs).2.1,e⟩
 ·rw[if_neg e]at h
  exact absurd h (by decide)
theorem Gm:∀(l:List dh) (ks:List Int) (s:Int) (ins:List jd) {r:Int×List jd},l.length=ks.length->0<=s->s<=1125899906842624->rr s ins l ks=some r->0<=r.1/\r.1<=1125899906842624/\r.2=ins++l.map Ac
 |[],ks,s,ins,r,hl,h0,h1,h=>by
  have:ks=[]:=aL hl.symm
  subst this
  obtain rfl:=aP h
  exact⟨h0,h1,by simp⟩
 |x::l,[],s,ins,r,hl,_,_,h=>by cases hl
 |x::l,k::ks,s,ins,r,hl,h0,h1,h=>by
  unfold rr at h
  by_cases ho:HB s ins x k=true
  ·rw[if_pos ho]at h
   unfold HB pJ lZ at ho
   simp only[ag,decide_eq_true_eq]at ho
   obtain⟨⟨o1,o2,o3⟩,_⟩:=ho
   obtain⟨i1,i2,i3⟩:=Gm l ks _ _ (Nat.succ.inj hl) (by omega) (by omega) h
   exact⟨i1,i2,by rw[i3];simp⟩
  ·rw[if_neg ho]at h;cases h
theorem bj.L0.ok:bj.L0.Ok:=by
 refine bj.L0.c8 (λ(_,_,_,_,_,l,_,i,_,_,_,_)=>l.length - i.toNat) ?_
 rintro⟨l0,ks,jb,to,s,l,n,i,z,m,z2,ins⟩ ⟨hl,Dl,rfl,rfl,k,hk,rfl,hi⟩
 have hl:l.length<=64:=hl
 have Dl:l.length=ks.length:=Dl
 have hk:k<=l.length:=hk
 have hi:ins.length<=k:=hi
 by_cases h:k < l.length
 ·have hq:k < ks.length:=by omega
  have n1:nth c9 l k=l[k]:=dM (t:=c9) h
  have n2:nth tu ks k=ks[k]:=dM (t:=tu) hq
  have hd:l.drop k=l[k]::l.drop (k+1):=aC h
  have PV:ks.drop k=ks[k]::ks.drop (k+1):=aC hq
  have ca:=jD.run (d:=(s,l[k].2.1.1)) trivial
  have ci:=fX.run (d:=(ins.length,ins,l[k])) ⟨by show ins.length<=_;omega,rfl⟩
  have cf:=eL.run (d:=ks[k]) trivial
  by_cases ho:HB s ins l[k] ks[k]=true
  ·left
   have Pa:=ho
   unfold HB at Pa
   simp only[ag,decide_eq_true_eq,bp]at Pa
   obtain⟨o1,o2,o3,o4⟩:=Pa
   refine⟨(l0,ks,jb,to,s+l[k].2.1.1,l,(l.length:Int),((k+1:Nat):Int),z,ins.length+1,z2,ins++ [Ac l[k]]),⟨hl,Dl,rfl,by simp,k+1,by omega,rfl,by rw[aq];show ins.length+1<=_;omega⟩,by simp only[aa];omega,?_,λkn kx=> ?_⟩
   ·simp only[bj.L0.add,bj.L0.F,aa,hd,PV]
    rw[show rr s ins (l[k]::l.drop (k+1)) (ks[k]::ks.drop (k+1))=rr (s+l[k].2.1.1) (ins++ [Ac l[k]]) (l.drop (k+1)) (ks.drop (k+1)) by rw[rr,if_pos ho]]
   ·rw[bj.L0.step,bA (by omega),aj,bJ (by omega) (by omega),aj]
    simp only[aa,n1,n2]
    rw[ca]
    simp only[ah,bU,jD.F]
    rw[ci]
    simp only[ah,bU,fX.F,o1,o2,b8,au,cond_true]
    rw[bJ (by omega) (by omega),aj,iV o3,au,aj,cf]
    simp only[ah,bU,eL.F]
    rw[bA o4,b8,au,aX (ax _),aj,fL (by omega) (by omega),aj,cY,N.rD (by omega)]
    rfl
  ·right
   refine⟨bj.L0.dm ((0:Int),()),?_,λkn kx=> ?_⟩
   ·simp only[bj.L0.add,bj.L0.F,aa,hd,PV]
    rw[show rr s ins (l[k]::l.drop (k+1)) (ks[k]::ks.drop (k+1))=none by rw[rr,if_neg ho]]
    rfl
   ·rw[bj.L0.step,bA (by omega),aj,bJ (by omega) (by omega),aj]
    simp only[aa,n1,n2]
    rw[ca]
    simp only[ah,bU,jD.F]
    rw[ci]
    simp only[ah,bU,fX.F]
    unfold HB at ho
    cases o1:pJ s l[k].2.1.1 with
    |false=>rw[dr,aj]
    |true=>
     rw[o1,bX]at ho
     rw[b8,au]
     cases o2:ins.any (nM l[k]) with
     |true=>rw[aj]
     |false=>
      rw[o2,dr,bX,decide_eq_true_eq]at ho
      rw[au,bJ (by omega) (by omega),aj]
      by_cases o3:ks[k]=0
      ·rw[j6 o3,aj]
      ·rw[iV o3,au,aj,cf]
       simp only[ah,bU,eL.F]
       rw[bl (λe=>ho ⟨o3,e⟩),dr,aj]
 ·right
  obtain rfl:k=l.length:=by omega
  refine⟨bj.L0.gL ((l0,ks,jb,to,z,z2),(s,ins.length,ins)),?_,λkn kx=> ?_⟩
  ·simp only[bj.L0.add,bj.L0.F,aa,bq]
   rfl
  ·rw[bj.L0.step,bl (by omega),au]
theorem bj.L1.ok:bj.L1.Ok:=by
 refine bj.L1.c8 (λ(_,l,_,i,_,_)=>l.length - i.toNat) ?_
 rintro⟨ks,l,n,i,z,t⟩ ⟨hv,hx,hu,hl,Dl,rfl,k,hk,rfl⟩
 have hv:Cq t:=hv
 have hl:l.length<=64:=hl
 have Dl:l.length=ks.length:=Dl
 have hk:k<=l.length:=hk
 by_cases h:k < l.length
 ·have hq:k < ks.length:=by omega
  have n1:nth c9 l k=l[k]:=dM (t:=c9) h
  have n2:nth tu ks k=ks[k]:=dM (t:=tu) hq
  have hd:l.drop k=l[k]::l.drop (k+1):=aC h
  have PV:ks.drop k=ks[k]::ks.drop (k+1):=aC hq
  have hs:=hx _ (b5 h)
  have c1:da.call (t,(k:Int),l[k].2.2.1,[ks[k]],l[k].2.2.2.1)=some (nY t k l[k].2.2.1 [ks[k]] l[k].2.2.2.1):=da.run (d:=(t,(k:Int),l[k].2.2.1,[ks[k]],l[k].2.2.2.1)) ⟨hv,λx hx=>by rw[bM.1 hx];exact hu _ (b5 hq),by show 1<=1000000000;decide⟩
  have uT:(nY t k l[k].2.2.1 [ks[k]] l[k].2.2.2.1).2=0->Cq (nY t k l[k].2.2.1 [ks[k]] l[k].2.2.2.1).1:=λhz=>(K4 hv hs hz).1
  have e:tz t k (l.drop k) (ks.drop k)=if(nY t k l[k].2.2.1 [ks[k]] l[k].2.2.2.1).2=0 then tz (nY t k l[k].2.2.1 [ks[k]] l[k].2.2.2.1).1 (k+1) (l.drop (k+1)) (ks.drop (k+1)) else .inr (nY t k l[k].2.2.1 [ks[k]] l[k].2.2.2.1).2:=by rw[hd,PV,tz]
  generalize nY t k l[k].2.2.1 [ks[k]] l[k].2.2.2.1=r at c1 uT e
  have step:∀ {R:Type} (kn:AS->Option R) (kx:Exit->AS->Option R),bj.L1.R (ks,l,(l.length:Int),(k:Int),z,t) kn kx=aK (uD r.2 0) (kx (bj.L1.dm (r.2,((0:Int),()))).1 (bj.L1.dm (r.2,((0:Int),()))).2) (kn (bj.L1.st (ks,l,(l.length:Int),((k+1:Nat):Int),z,r.1))):=by
   intro R kn kx
   rw[bj.L1.step,bA (by omega),aj,bJ (by omega) (by omega),aj,bJ (by omega) (by omega),aj]
   simp only[aa,n1,n2]
   rw[c1,ah,N.rD (by omega)]
  by_cases hz:r.2=0
  ·left
   refine⟨(ks,l,(l.length:Int),((k+1:Nat):Int),z,r.1),⟨uT hz,hx,hu,hl,Dl,rfl,k+1,by omega,rfl⟩,by simp only[aa];omega,?_,λkn kx=> ?_⟩
   ·simp only[bj.L1.add,bj.L1.F,aa,e,if_pos hz]
   ·rw[step,eX hz,au]
  ·right
   refine⟨bj.L1.dm (r.2,((0:Int),())),?_,λkn kx=> ?_⟩
   ·simp only[bj.L1.add,bj.L1.F,aa,e,if_neg hz]
    rfl
   ·rw[step,iX hz,aj]
 ·right
  obtain rfl:k=l.length:=by omega
  refine⟨bj.L1.gL (z,t),?_,λkn kx=> ?_⟩
  ·simp only[bj.L1.add,bj.L1.F,aa,bq]
   rfl
  ·rw[bj.L1.step,bl (by omega),au]
theorem Pu{l:List dh}{to:Lk}{n:Int}(hl:l.length<=64)(hx:∀x∈l,Mc x)(zV:J1 to):Cq (l.map Ac,([(n,(to,()))],((0:Int),()))):=by
 refine⟨⟨λo ho=> ?_,by show(l.map Ac).length<=_;rw[ct];omega,by show 1<=_;decide⟩,λx h=> ?_,by show(0:Int)<=_;decide⟩
 ·rw[bM.1 (show o∈ [(n,(to,()))] from ho)]
  exact zV
 ·obtain⟨y,hy,rfl⟩:=cX.1 (show x∈l.map Ac from h)
  exact⟨(hx y hy).1,⟨λs hs=>(by cases hs),dW 0,by show(0:Int) < 18446744073709551616;decide⟩,bh _⟩
theorem bj.ok:bj.Ok:=by
 rintro⟨l,ks,to,jb⟩ ⟨hx,hu,zV,LC,LB,hf⟩
 have hx:∀x∈l,Mc x:=hx
 have zV:J1 to:=zV
 have LC:l.length<=1000000000:=LC
 have LB:ks.length<=1000000000:=LB
 have hf: -1125899906842624<=jb/\jb<=9223372036854775807:=hf
 have z1:((0:Int)).toNat=0:=rfl
 rw[bj.eq]
 simp only[bU,bj.F,u6]
 by_cases a1:1<=l.length
 rotate_left
 ·rw[bA (by omega),aj,if_neg (λe=>a1 e.1)]
  rfl
 rw[bl (by omega),au]
 by_cases a2:l.length<=64
 rotate_left
 ·rw[dv (by omega),aj,if_neg (λe=>a2 e.2.1)]
  rfl
 rw[cZ (by omega),au]
 by_cases a3:l.length=ks.length
 rotate_left
 ·rw[iX (by omega),aj,if_neg (λe=>a3 e.2.2.1)]
  rfl
 rw[eX (by omega),au,aM.run (d:=to) ⟨zV.1,zV.2⟩]
 simp only[ah,bU,aM.F]
 cases a4:pH to with
 |false=>
  rw[dr,aj,if_neg (λe=>by cases e.2.2.2)]
  rfl
 |true=>
 rw[b8,au,if_pos ⟨a1,a2,a3,rfl⟩,bj.L0.run (d:=(l,ks,jb,to,0,l,(l.length:Int),0,(0,()),0,(0,()),[])) ⟨a2,a3,rfl,rfl,0,bh _,rfl,ax _⟩]
 simp only[ah,bj.L0.add,bj.L0.F,z1,aJ]
 cases hm:rr 0 [] l ks with
 |none=>rfl
 |some r=>
  obtain⟨r1,r2,r3⟩:=Gm l ks 0 [] a3 (dW 0) (by decide) hm
  simp only[j3,au,im,ah]
  by_cases b1:jb < 0
  ·rw[bA b1,aj,if_pos (.inl b1)]
   rfl
  rw[bl b1,au]
  by_cases b2:jb > r.1
  ·rw[dv b2,aj,if_pos (.inr b2)]
   rfl
  rw[cZ b2,au,if_neg (λe=>e.elim b1 b2),aX ⟨trivial,by omega⟩,aj,iq rfl,dS (by omega) (by omega)]
  rw[aS]at r3
  have hv:Cq (r.2,([(r.1 - jb,(to,()))],((0:Int),()))):=by rw[r3];exact Pu a2 hx zV
  rw[bj.L1.run (d:=(ks,l,(l.length:Int),0,(0,()),(r.2,([(r.1 - jb,(to,()))],((0:Int),()))))) ⟨hv,λx h=>(hx x h).2,hu,a2,a3,rfl,0,bh _,rfl⟩]
  simp only[ah,bj.L1.add,bj.L1.F,z1,aJ]
  generalize tz _ 0 l ks=q
  cases q with
  |inl t=>rfl
  |inr e=>rfl
theorem bj.run:bj.RS:=rE [.d (.slice c9),.d tU,.d xI,.d ti] bj
def bj.sg:=bj.gC bj.ok 2 ⟨.js bj.L0.ok,⟨.js bj.L1.ok,trivial⟩⟩
abbrev dC.D:=gD×Bs×Lk×Int×pD×Int
abbrev dC.Y:=jI×Int×Int
def tr(g:gD)(ks:List Int)(to:Lk)(h:Int)(b:pD)(dd:Int):jI×Int×Int:=
 if dd > 0/\qm g h b<=dd then(F6,0,4) else
 if(if dd > 0 then imax (qm g h b) (dd+qE g.1) else qm g h b) > g.2.2.1 then(F6,0,13) else
 if(u6 g.1 ks to (if dd > 0 then imax (qm g h b) (dd+qE g.1) else qm g h b)).2≠0 then(F6,0,(u6 g.1 ks to (if dd > 0 then imax (qm g h b) (dd+qE g.1) else qm g h b)).2) else((u6 g.1 ks to (if dd > 0 then imax (qm g h b) (dd+qE g.1) else qm g h b)).1,(if dd > 0 then imax (qm g h b) (dd+qE g.1) else qm g h b),0)
def dC.aY:dC.D->Prop:=λ(g,ks,to,h,b,dd)=>Oj g/\(0<=h/\h<=9223372036854775807)/\(∀x∈g.1,Mc x)/\(∀k∈ks,kX k)/\J1 to/\g.1.length<=1000000/\ks.length<=1000000000/\dd<=1125899906842624
def dC.F:dC.D->dC.Y:=λ(g,ks,to,h,b,dd)=>tr g ks to h b dd
def dC:Fs Tryz.prog dC.aY bU dC.F:=gh 50 Tryz.f50 (λ(g,keys,to,atv,b,dd)=>([.d fi g,.d tU keys,.d xI to,.d ti atv,.d pQ b,.d ti dd],[])) (λx=>⟨.cons (.d oO x.1) (.cons (.d ti x.2.1) (.cons (.d ti x.2.2) (.nil))),[],[]⟩) [some fi,some tU,some xI,some ti,some pQ,some ti] [lN.sg,bm.sg,bj.sg] {res:=[some oO,none,none]}
theorem dC.eq{R:Type}(g keys to atv b dd)(k:K1 R):dC.A (g,keys,to,atv,b,dd) k=
  aA (lN.call (g,atv,b)) λx1=>
  aK ((ot dd 0)) (
   aK ((Ct x1 dd)) (
    k (dC.out ((([]:List jd),(([]:List mw),(0,()))),0,4))) (
    aA (bm.call g.1) λx2=>
    aK ((ot (imax x1 (bN .i64 dd x2)) g.2.2.1)) (
     k (dC.out ((([]:List jd),(([]:List mw),(0,()))),0,13))) (
     aA (bj.call (g.1,keys,to,(imax x1 (bN .i64 dd x2)))) λx3=>
     aK ((uD x3.2 0)) (
      k (dC.out ((([]:List jd),(([]:List mw),(0,()))),0,x3.2))) (
      k (dC.out (x3.1,(imax x1 (bN .i64 dd x2)),0)))))) (
   aK ((ot x1 g.2.2.1)) (
    k (dC.out ((([]:List jd),(([]:List mw),(0,()))),0,13))) (
    aA (bj.call (g.1,keys,to,x1)) λx4=>
    aK ((uD x4.2 0)) (
     k (dC.out ((([]:List jd),(([]:List mw),(0,()))),0,x4.2))) (
     k (dC.out (x4.1,x1,0))))):=by kernel_rfl
theorem dC.ok:dC.Ok:=by
 rintro⟨g,ks,to,h,b,dd⟩ ⟨hg,hh,hx,hu,zV,hl,hk,ho⟩
 have hl:g.1.length<=1000000:=hl
 have ho:dd<=1125899906842624:=ho
 have hf:=IQ (h:=h) (b:=b) hg
 have hw:=py g.1
 obtain⟨⟨g1,g2,g3⟩,_⟩:=id hg
 have cm:∀jb:Int,0<=jb->jb<=1125899906842624->bj.call (g.1,ks,to,jb)=some (u6 g.1 ks to jb):=λjb h0 h1=>bj.run (d:=(g.1,ks,to,jb)) ⟨hx,hu,zV,by show g.1.length<=_;omega,hk,by show -1125899906842624<=jb;omega,by show jb<=_;omega⟩
 rw[dC.eq,lN.run (d:=(g,h,b)) ⟨hg,hh.1,hh.2⟩]
 simp only[ah,bU,lN.F,bU,dC.F,tr]
 generalize qm g h b=f at hf
 by_cases a1:dd > 0
 ·rw[dv a1,aj]
  by_cases a2:f<=dd
  ·rw[kO a2,aj,if_pos ⟨a1,a2⟩]
   rfl
  ·rw[iW a2,au,if_neg (λe=>a2 e.2),bm.run (d:=g.1) (by show g.1.length<=_;omega)]
   simp only[ah,bU,bm.F,if_pos a1]
   rw[eH (x:=dd) (by omega) (by omega)]
   have h1:0<=imax f (dd+qE g.1):=by unfold imax;split <;> omega
   generalize imax f (dd+qE g.1)=q at h1
   by_cases a3:q > g.2.2.1
   ·rw[dv a3,aj,if_pos a3]
    rfl
   ·rw[cZ a3,au,if_neg a3,cm q h1 (by omega)]
    simp only[ah]
    generalize u6 g.1 ks to q=r
    by_cases a4:r.2=0
    ·rw[eX a4,au,if_neg (λe=>e a4)]
    ·rw[iX a4,aj,if_pos a4]
     rfl
 ·rw[cZ a1,au,if_neg (λe=>a1 e.1),if_neg a1]
  by_cases a3:f > g.2.2.1
  ·rw[dv a3,aj,if_pos a3]
   rfl
  ·rw[cZ a3,au,if_neg a3,cm f (by omega) (by omega)]
   simp only[ah]
   generalize u6 g.1 ks to f=r
   by_cases a4:r.2=0
   ·rw[eX a4,au,if_neg (λe=>e a4)]
   ·rw[iX a4,aj,if_pos a4]
    rfl
theorem dC.run:dC.RS:=rE [.d fi,.d tU,.d xI,.d ti,.d pQ,.d ti] dC
def dC.sg:=dC.gC dC.ok
def mT:List Int:=[152,45,158,62,185,150,245,89,230,51,244,209,148,222,243,118,29,144,159,90,59,100,125,26,133,31,234,214,124,50,201,209]
theorem s3:rB 3 mT=(2066670005889522986,1913675330412042729,()):=by decide+kernel
theorem s5:rB 5 mT=(1601457595092860225,1871270319440231866,()):=by decide+kernel
theorem u0:kX 0:=⟨dW 0,by decide⟩
theorem KJ{ks:List Int}(h:Ay ks):Li (gT ks):=λb hb=>by
 have hb:b∈ [(ks,(0:Int),(0:Int),(0:Int),())]:=hb
 rw[bM]at hb
 subst hb
 exact⟨h,u0⟩
theorem P5:xB 0=true:=rfl
theorem Kd(ks:List Int)(a d:Int)(h:ks.length<=12):tJ (ks,a,d,0,())=(ks.all wm && (xB a && xB d)):=by
 have e:tJ (ks,a,d,0,())=(decide (ks.length<=12) && (ks.all wm && (xB a && (xB d && true)))):=rfl
 rw[e,aX h,bX,kE]
theorem Jk(ks:List Int)(h:ks.length<=12):pH (gT ks)=ks.all wm:=by
 have e:pH (gT ks)=((tJ (ks,0,0,0,()) && true) && true):=rfl
 rw[e,Kd _ _ _ h,P5,kE,kE,kE,kE]
theorem L4{R:Type}{c:Bool}{x y r:Option R}(h:c=true)(h2:x=r):aK c x y=r:=by rw[h];exact h2
theorem rI{X R:Type}{x:Option X}{a:X}{f:X->Option R}{r:Option R}(h:x=some a)(h2:f a=r):aA x f=r:=by rw[h];exact h2
def oC(n a u:Int):dh:=((List.replicate 32 0,(n,())),((a,(gT [kI (n+2)],())),(0,(0,(0,(u,()))))))
abbrev ix.D:=Int×Int×Int
abbrev ix.Y:=dh
def ix.aY:ix.D->Prop:=λ(n,_,_)=>0<=n/\n<=100
def ix.F:ix.D->ix.Y:=λ(n,a,u)=>oC n a u
def ix:Fs Tryz.prog ix.aY bU ix.F:=gh 97 Tryz.f97 (λ(n,amount,untilv)=>([.d ti n,.d ti amount,.d ti untilv],[])) (λx=>⟨.d c9 x,[],[]⟩) [some ti,some ti,some ti] [gH.sg,lD.sg]
theorem ix.eq{R:Type}(n amount untilv)(k:K1 R):ix.A (n,amount,untilv) k=
 aA (gH.call (dP .u64 (bN .i64 n 2))) λx1=>
 aA (lD.call x1) λx2=>
 k (ix.out (((List.replicate 32 0),(n,())),((amount,(x2,())),(0,(0,(0,(untilv,()))))))):=by kernel_rfl
theorem ix.ok:ix.Ok:=by
 rintro⟨n,a,u⟩ ⟨h0,h1⟩
 have h0:0<=n:=h0
 have h1:n<=100:=h1
 have e:dP .u64 (bN .i64 n 2)=n+2:=by rw[eH (by omega) (by omega),wi];omega
 rw[ix.eq,e,gH.run (d:=n+2) ⟨by omega,by omega⟩]
 simp only[ah,bU,gH.F]
 rw[lD.run (d:=kI (n+2)) trivial]
 rfl
theorem ix.run:ix.RS:=rE [.d ti,.d ti,.d ti] ix
def ix.sg:=ix.gC ix.ok
abbrev bH.L0.D:=(List dh)×Int
def bH.L0.st:bH.L0.D->AS:=λ(oz,i)=>⟨([.d (.slice c9) oz,.undef,.undef,.d ti i]++bB 22 []),[],(List.replicate 26 [])⟩
abbrev bH.L0.Y0:=Unit
abbrev bH.L0.X0:=Unit
def bH.L0.dm:bH.L0.X0->Exit×AS:=λx=>(.ret,⟨([.undef,.undef,.d .bool false]++bB 23 []),[],(List.replicate 26 [])⟩)
abbrev bH.L0.Y1:=Unit
abbrev bH.L0.X1:=(List dh)
def bH.L0.gL:bH.L0.X1->Exit×AS:=λx=>(.exit 0,⟨([.d (.slice c9) x]++bB 25 []),[],(List.replicate 26 [])⟩)
abbrev bH.L0.X:=(bH.L0.X0)⊕(bH.L0.X1)
abbrev bH.L0.Y:=(bH.L0.Y0)⊕(bH.L0.Y1)
def bH.L0.out:bH.L0.X->Out (Exit×AS):=λx=> .br x.isLeft (.get x.getLeft? λa=> .ok (bH.L0.dm a)) (.get x.getRight? λb=> .ok (bH.L0.gL b))
def bH.L0.add:bH.L0.D->bH.L0.Y->bH.L0.X:=λ(oz,i) y=>match y with | .inl y=> .inl y | .inr z=> .inr (oz)
abbrev bH.D:=(List dh)
abbrev bH.Y:=Bool
def zC(x:dh):Bool:=wL ([],([x.2.1],((0:Int),())))
def Hd(l:List dh):Bool:=(l.take 80).all zC && decide (l.length<=70)
theorem MG{l:List dh}(h:Hd l=true):l.length<=70/\∀x∈l,PQ x.2.1.2.1:=by
 unfold Hd at h
 rw[ag,decide_eq_true_eq]at h
 obtain⟨h1,h2⟩:=h
 rw[bz (by omega)]at h1
 refine⟨h2,λx hx=> ?_⟩
 have:=cM.1 h1 x hx
 unfold zC wL kS at this
 simp only[eJ,List.all_nil,ag,decide_eq_true_eq,cM]at this
 refine⟨by omega,λb hb=> ?_⟩
 have h3:=this.2.2.1.2 b hb
 unfold mZ at h3
 have h3:=of_decide_eq_true h3
 omega
def bH.L0.aY:bH.L0.D->Prop:=λ(l,i)=>∃k:Nat,k<=l.length/\k<=80/\i=k
def bH.L0.F:bH.L0.D->bH.L0.Y:=λ(l,i)=>if((l.take 80).drop i.toNat).all zC=true then .inr () else .inl ()
def bH.aY:bH.D->Prop:=λ_=>True
def bH.F:bH.D->bH.Y:=λl=>Hd l
def bH.L0.E:=eE.js bH.L0.st bH.L0.aY bH.L0.add bH.L0.F bH.L0.out
def bH.L0.call:bH.L0.D->Option bH.L0.X:=kJ bH.L0.E bH.L0.st
def bH:Fs Tryz.prog bH.aY bU bH.F:=gh 43 Tryz.f43 (λl=>([.d (.slice c9) l],[])) (λx=>⟨.d .bool x,[],[]⟩) [some (.slice c9)] [ab.sg] {loops:=rH [(2,{bI:=[0,3]})],outs:=rG [(2,{bI:=[0]},{bI:=[2]})],jP:=sh [(2,bH.L0.E)]}
def bH.L0.R:= @iA Tryz.prog (mR bH.G) bH.an 0 Tryz.f43 0 _ bH.L0.st
abbrev bH.L0.Ok:=pE Tryz.prog (mR bH.G) bH.an 0 Tryz.f43 0 bH.L0.st bH.L0.aY bH.L0.add bH.L0.F bH.L0.out
theorem bH.L0.run:nI bH.L0.call bH.L0.aY bH.L0.add bH.L0.F:=qz (qa [.d (.slice c9),.d ti] λ_=>by kernel_rfl)
theorem bH.L0.c8:qk @bH.L0.R bH.L0.st bH.L0.aY bH.L0.add bH.L0.F bH.L0.out bH.L0.Ok:=qI
theorem bH.L0.step{R:Type}(oz:(List dh))(i:Int)(kn:AS->Option R)(kx:Exit->AS->Option R):bH.L0.R (oz,i) kn kx=
  aK ((iI i (((List.length oz):Nat):Int))) (
   aK ((iI i (80:Int))) (
    aK (fa i (((List.length oz):Nat):Int)) (
    aA (ab.call (([]:List jd),([(nth c9 oz (Int.toNat i)).2.1],((0:Int),())))) λx1=>
    aK ((!x1)) (
     kx (bH.L0.dm ()).1 (bH.L0.dm ()).2) (
     kn (bH.L0.st (oz,(bN .i64 i (1:Int)))))) none) (
    kx (bH.L0.gL oz).1 (bH.L0.gL oz).2)) (
   kx (bH.L0.gL oz).1 (bH.L0.gL oz).2):=by kernel_rfl
theorem bH.eq{R:Type}(l)(k:K1 R):bH.A l k=
  aA (bH.L0.call (l,0)) λx2=>
  aK (x2.isLeft) (
   aA (x2.getLeft?) λa3=>
   k (bH.out false)) (
   aA (x2.getRight?) λb4=>
   k (bH.out (Ct (b4.length:Int) 70))):=by kernel_rfl
theorem bH.L0.ok:bH.L0.Ok:=by
 refine bH.L0.c8 (λ(l,i)=>80 - i.toNat) ?_
 rintro⟨l,i⟩ ⟨k,hk,Dl,rfl⟩
 have hk:k<=l.length:=hk
 have Dl:k<=80:=Dl
 have stop:(l.length<=k\/80<=k)->bH.L0.F (l,(k:Int))= .inr ():=λh=>by
  have e:(l.take 80).drop k=[]:=List.drop_eq_nil_of_le (by rw[cz];omega)
  simp only[bH.L0.F,aa,e]
  rfl
 by_cases h:k < l.length
 ·by_cases h8:k < 80
  ·have n1:nth c9 l k=l[k]:=dM (t:=c9) h
   have hd:(l.take 80).drop k=l[k]::(l.take 80).drop (k+1):=by
    have:=aC (l:=l.take 80) (i:=k) (by rw[cz];omega)
    rwa[List.getElem_take]at this
   have cs:=ab.run (d:=(([]:List jd),([l[k].2.1],((0:Int),())))) trivial
   cases hs:zC l[k]with
   |false=>
    right
    refine⟨bH.L0.dm (),?_,λkn kx=> ?_⟩
    ·simp only[bH.L0.add,bH.L0.F,aa,hd,eJ,hs,dQ,bK,if_false]
     rfl
    ·rw[bH.L0.step,bA (by omega),aj,bA (by omega),aj,bJ (by omega) (by omega),aj,aa,n1,cs]
     simp only[ah,bU,ab.F]
     rw[show wL ([],[l[k].2.1],0,())=false from hs,dr,aj]
   |true=>
    left
    refine⟨(l,((k+1:Nat):Int)),⟨k+1,by omega,by omega,rfl⟩,by simp only[aa];omega,?_,λkn kx=> ?_⟩
    ·simp only[bH.L0.add,bH.L0.F,aa,hd,eJ,hs,bX]
    ·rw[bH.L0.step,bA (by omega),aj,bA (by omega),aj,bJ (by omega) (by omega),aj,aa,n1,cs]
     simp only[ah,bU,ab.F]
     rw[show wL ([],[l[k].2.1],0,())=true from hs,b8,au,N.rD (by omega)]
  ·right
   refine⟨bH.L0.gL l,?_,λkn kx=> ?_⟩
   ·show(bH.L0.out (bH.L0.add (l,(k:Int)) (bH.L0.F (l,(k:Int))))).eval=_
    rw[stop (.inr (by omega))]
    rfl
   ·rw[bH.L0.step,bA (by omega),aj,bl (by omega),au]
 ·right
  refine⟨bH.L0.gL l,?_,λkn kx=> ?_⟩
  ·show(bH.L0.out (bH.L0.add (l,(k:Int)) (bH.L0.F (l,(k:Int))))).eval=_
   rw[stop (.inl (by omega))]
   rfl
  ·rw[bH.L0.step,bl (by omega),au]
theorem bH.ok:bH.Ok:=by
 intro l _
 have z1:((0:Int)).toNat=0:=rfl
 rw[bH.eq,bH.L0.run (d:=(l,0)) ⟨0,bh _,bh _,rfl⟩]
 simp only[ah,bH.L0.F,z1,aJ,bU,bH.F,Hd]
 cases(l.take 80).all zC with
 |false=>rfl
 |true=>
  rw[bX]
  by_cases h:l.length<=70
  ·rw[aX h]
   refine congrArg (λb=>some (bH.out b)) ?_
   exact kO (by show((l.length:Nat):Int)<=70;omega)
  ·rw[cn h]
   refine congrArg (λb=>some (bH.out b)) ?_
   exact iW (by show ¬((l.length:Nat):Int)<=70;omega)
theorem bH.run:bH.RS:=rE [.d (.slice c9)] bH
def bH.sg:=bH.gC bH.ok 1 ⟨.js bH.L0.ok,trivial⟩
def A1:List dh:=[oC 3 1000 0,oC 1 500 50,oC 2 35 0,oC 5 700 0,oC 4 300 30]
def rJ:pD:=(2,(1,(4,())))
theorem Ic:∀x∈List.replicate 32 (0:Int),0<=x/\x < 256:=λx hx=>by rw[(List.mem_replicate.1 hx).2];exact⟨by decide,by decide⟩
theorem HJ(n a u:Int)(hu:u<=100):Cw (oC n a u):=⟨⟨ck,Ic⟩,⟨by show 1<=_;decide,λb hb=>by
 rw[bM.1 (show b∈ [([kI (n+2)],(0,(0,(0,()))))] from hb)]
 show 1<=_
 decide⟩,by show u<=_;omega⟩
theorem Nq(n a u:Int):Mc (oC n a u):=⟨⟨ck,Ic⟩,dW 0,by show(0:Int) < 18446744073709551616;decide⟩
theorem Je:∀x∈A1,Cw x:=λx hx=>by
 unfold A1 at hx
 simp only[cv,gK,or_false]at hx
 rcases hx with rfl | rfl | rfl | rfl | rfl
 ·exact HJ _ _ _ (by decide)
 ·exact HJ _ _ _ (by decide)
 ·exact HJ _ _ _ (by decide)
 ·exact HJ _ _ _ (by decide)
 ·exact HJ _ _ _ (by decide)
theorem Ki:oT (oC 1 500 50) (oC 4 300 30)=1:=by
 unfold oT rT
 rfl
theorem Kh:z6 (oC 5 700 0) (oC 3 1000 0)=1:=by
 unfold z6
 rw[lX ⟨ck,Ic⟩ ⟨ck,Ic⟩]
 decide
theorem Gl:dL A1 rJ 10=[oC 4 300 30,oC 1 500 50]:=by
 have e:A1.filter (qo rJ 10)=[oC 1 500 50,oC 4 300 30]:=by kernel_rfl
 have hq:∀x∈ [oC 1 500 50,oC 4 300 30],Cx x:=λx hx=>by
  simp only[cv,gK,or_false]at hx
  rcases hx with rfl | rfl <;> exact⟨ck,Ic⟩
 unfold dL
 rw[e]
 refine(uq vY hq (λx hx y hy h1 h2=> ?_) ⟨List.Perm.swap ..,?_⟩).symm
 ·have:=wV (hq x hx) (hq y hy) h1 h2
  simp only[cv,gK,or_false]at hx hy
  rcases hx with rfl | rfl <;> rcases hy with rfl | rfl
  ·rfl
  ·cases congrArg (λo:iK=>o.2.1) this
  ·cases congrArg (λo:iK=>o.2.1) this
  ·rfl
 ·refine gR.2 ⟨λy hy=> ?_,List.pairwise_singleton _ _⟩
  rw[bM.1 hy,Ki]
  decide
theorem JG:iy A1 rJ 10=[oC 3 1000 0,oC 5 700 0]:=by
 have e:A1.filter (qw rJ 10)=[oC 3 1000 0,oC 5 700 0]:=by kernel_rfl
 have hq:∀x∈ [oC 3 1000 0,oC 5 700 0],Cx x:=λx hx=>by
  simp only[cv,gK,or_false]at hx
  rcases hx with rfl | rfl <;> exact⟨ck,Ic⟩
 unfold iy
 rw[e]
 refine(uq yj hq (λx hx y hy h1 h2=> ?_) ⟨jZ _,?_⟩).symm
 ·have:x.1=y.1:=yn (hq x hx) (hq y hy) h1 h2
  simp only[cv,gK,or_false]at hx hy
  rcases hx with rfl | rfl <;> rcases hy with rfl | rfl
  ·rfl
  ·cases congrArg (λo:iK=>o.2.1) this
  ·cases congrArg (λo:iK=>o.2.1) this
  ·rfl
 ·refine gR.2 ⟨λy hy=> ?_,List.pairwise_singleton _ _⟩
  rw[bM.1 hy,Kh]
  decide
def MH:gD:=([oC 4 300 30],(36,(300,(30,()))))
def mD(m:Int):gD:=([oC 1 500 50],(36,(m,(50,()))))
def yA:gD:=([oC 3 1000 0,oC 5 700 0],(54,(54,(0,()))))
def MI:gD:=([oC 4 300 30],(36,(54,(30,()))))
theorem KS:vj A1 800 rJ 10=([MH,mD 446,yA],0):=by
 have e:kB A1 800 rJ 10=true:=by kernel_rfl
 unfold vj jW lj
 rw[if_pos e,Gl,JG]
 exact(by kernel_rfl:(jj 2 (kM 800 ([oC 4 300 30,oC 1 500 50].map jt++(gf [oC 3 1000 0,oC 5 700 0]).map fp)).1 (kM 800 ([oC 4 300 30,oC 1 500 50].map jt++(gf [oC 3 1000 0,oC 5 700 0]).map fp)).2,(0:Int))=([MH,mD 446,yA],0))
theorem KT:vj A1 90 rJ 10=([MI,mD 36],0):=by
 have e:kB A1 90 rJ 10=true:=by kernel_rfl
 unfold vj jW lj
 rw[if_pos e,Gl,JG]
 exact(by kernel_rfl:(jj 2 (kM 90 ([oC 4 300 30,oC 1 500 50].map jt++(gf [oC 3 1000 0,oC 5 700 0]).map fp)).1 (kM 90 ([oC 4 300 30,oC 1 500 50].map jt++(gf [oC 3 1000 0,oC 5 700 0]).map fp)).2,(0:Int))=([MI,mD 36],0))
theorem KU:vj (A1++ [oC 3 1000 0]) 90 rJ 10=([],1):=by
 unfold vj
 rw[if_neg]
 intro h
 unfold kB at h
 simp only[ag]at h
 have:=((um _).1 h.2.2.2).2.1
 exact absurd this (by unfold A1;simp[oC])
theorem Px(P:Int)(hP:wm P=true)(hu:kX P)(jb:Int)(h0:0<=jb)(h1:jb<=500):∃t:jI,u6 [oC 1 500 50] [3] (gT [P]) jb=(t,0)/\t.1.length=1/\t.2.1.length=1:=by
 have hl:pH (gT [P])=true:=by
  rw[Jk [P] (by show 1<=12;decide)]
  simp only[eJ,List.all_nil,hP,kE]
 have hg:rr 0 [] [oC 1 500 50] [3]=some (500,[Ac (oC 1 500 50)]):=by kernel_rfl
 have oo:kU ([Ac (oC 1 500 50)],([(500 - jb,(gT [P],()))],((0:Int),())))=true:=by
  have e1:td [] [Ac (oC 1 500 50)]=true:=by kernel_rfl
  unfold kU zN
  show(decide (1<=1/\1<=64/\1<=64/\(0:Int)<=0) && (td [] [Ac (oC 1 500 50)] && (((lZ 0 && (lZ (500 - jb) && decide (0+(500 - jb)<=1125899906842624))) && pH (gT [P])) && true)))=true
  have e2:lZ (500 - jb)=true:=aX ⟨by omega,by omega⟩
  rw[e1,hl,e2,aX (p:=0+(500 - jb)<=1125899906842624) (by omega)]
  rfl
 have hs:pk ([Ac (oC 1 500 50)],([(500 - jb,(gT [P],()))],((0:Int),()))) 0 0 [3]=true:=by
  unfold pk
  rw[oo,aX ⟨by decide,by show(0:Int) < ((1:Nat):Int);decide,by decide,by decide,by show 1<=12;decide⟩]
  rfl
 have hv:nY ([Ac (oC 1 500 50)],([(500 - jb,(gT [P],()))],((0:Int),()))) ((0:Nat):Int) 0 [3] 0=(uo ([Ac (oC 1 500 50)],([(500 - jb,(gT [P],()))],((0:Int),()))) 0 (xH ([Ac (oC 1 500 50)],([(500 - jb,(gT [P],()))],((0:Int),()))) 0 [3] 0),0):=by
  rw[show((0:Nat):Int)=0 from rfl,Ea,if_pos hs]
  rfl
 refine⟨uo ([Ac (oC 1 500 50)],([(500 - jb,(gT [P],()))],((0:Int),()))) 0 (xH ([Ac (oC 1 500 50)],([(500 - jb,(gT [P],()))],((0:Int),()))) 0 [3] 0),?_,by rw[JL];rfl,rfl⟩
 unfold u6
 rw[if_pos ⟨by show 1<=1;decide,by show 1<=64;decide,rfl,hl⟩,hg]
 show(if jb < 0\/jb > 500 then(F6,8) else match tz ([Ac (oC 1 500 50)],([(500 - jb,(gT [P],()))],((0:Int),()))) 0 [oC 1 500 50] [3]with | .inl t=>(t,0) | .inr e=>(F6,e))=_
 have es:tz ([Ac (oC 1 500 50)],([(500 - jb,(gT [P],()))],((0:Int),()))) 0 [oC 1 500 50] [3]= .inl (uo ([Ac (oC 1 500 50)],([(500 - jb,(gT [P],()))],((0:Int),()))) 0 (xH ([Ac (oC 1 500 50)],([(500 - jb,(gT [P],()))],((0:Int),()))) 0 [3] 0)):=by
  rw[tz,show(oC 1 500 50).2.2.1=0 from rfl,show(oC 1 500 50).2.2.2.1=0 from rfl,hv,if_pos rfl]
  rfl
 rw[if_neg (by omega),es]
theorem Nh:wm 4=true:=by decide+kernel
def uw(P jb:Int):jI:=(u6 [oC 1 500 50] [3] (gT [P]) jb).1
theorem Ck{P:Int}(hP:wm P=true)(hu:kX P){jb:Int}(h0:0<=jb)(h1:jb<=500):u6 [oC 1 500 50] [3] (gT [P]) jb=(uw P jb,0)/\(uw P jb).1.length=1/\(uw P jb).2.1.length=1:=by
 obtain⟨t,h2,h3,h4⟩:=Px P hP hu jb h0 h1
 have e:uw P jb=t:=by
  unfold uw
  rw[h2]
 rw[e]
 exact⟨h2,h3,h4⟩
def Oa:List gD×Int:=([MH,mD 446,yA],0)
def Ob:List gD×Int:=([MI,mD 36],0)
def Oc:List gD×Int:=([],1)
def N8:jI×Int×Int:=(uw 4 36,36,0)
def N9:jI×Int×Int:=(uw 4 446,446,0)
def PA:jI×Int×Int:=(F6,0,4)
def PB:jI×Int×Int:=(F6,0,13)
open Classical in
def iJ{X:Type}(x0 x:X):Option Unit:=if x=x0 then some () else none
theorem nr{X:Type}{x0:X}(x:X)(z:Unit)(h:iJ x0 x=some z):x=(λ_:Unit=>x0) z:=by
 unfold iJ at h
 split at h
 ·assumption
 ·cases h
theorem pL{X:Type}(x0:X):mz (iJ x0) (some x0)=some ():=by
 unfold mz iJ
 exact if_pos rfl
def Fm(n:Int)(m:Bool):List av->Bool:=λvs=>match vs with | [.d _ _,.d (.int _) k,_,_]=>decide ((k:Int)=n) && !m | [.cD ..,.d (.int _) k,_,_]=>decide ((k:Int)=n) && m | _=>false
def B0(h o:Int):List av->Bool:=λvs=>match vs with | [_,_,_,.d (.int _) k,_,.d (.int _) j]=>decide ((k:Int)=h) && decide ((j:Int)=o) | _=>false
def HZ:Int:=20
def Qt.E:Entry:=Entry.half [some (.slice c9),some ti,some pQ,some ti] (X:=aB.Y) (Z:=Unit) aB.E.run aB.E.out (λ_=>Oa) (iJ Oa)
def Qt.sg:SG Tryz.prog:=⟨44,(Fm 800 false),Qt.E,nS.of (ky.half nr (aB.sg.h.1 (by rfl))) (by rfl)⟩
def Qu.E:Entry:=Entry.half [some (.slice c9),some ti,some pQ,some ti] (X:=aB.Y) (Z:=Unit) aB.E.run aB.E.out (λ_=>Ob) (iJ Ob)
def Qu.sg:SG Tryz.prog:=⟨44,(Fm 90 false),Qu.E,nS.of (ky.half nr (aB.sg.h.1 (by rfl))) (by rfl)⟩
def Qv.E:Entry:=Entry.half [some (.slice c9),some ti,some pQ,some ti] (X:=aB.Y) (Z:=Unit) aB.E.run aB.E.out (λ_=>Oc) (iJ Oc)
def Qv.sg:SG Tryz.prog:=⟨44,(Fm 90 true),Qv.E,nS.of (ky.half nr (aB.sg.h.1 (by rfl))) (by rfl)⟩
def Qp.E:Entry:=Entry.half [some fi,some tU,some xI,some ti,some pQ,some ti] (X:=dC.Y) (Z:=Unit) dC.E.run dC.E.out (λ_=>N8) (iJ N8)
def Qp.sg:SG Tryz.prog:=⟨50,(B0 (10) 0),Qp.E,nS.of (ky.half nr (dC.sg.h.1 (by rfl))) (by rfl)⟩
def Qq.E:Entry:=Entry.half [some fi,some tU,some xI,some ti,some pQ,some ti] (X:=dC.Y) (Z:=Unit) dC.E.run dC.E.out (λ_=>N9) (iJ N9)
def Qq.sg:SG Tryz.prog:=⟨50,(B0 (30) 36),Qq.E,nS.of (ky.half nr (dC.sg.h.1 (by rfl))) (by rfl)⟩
def Qr.E:Entry:=Entry.half [some fi,some tU,some xI,some ti,some pQ,some ti] (X:=dC.Y) (Z:=Unit) dC.E.run dC.E.out (λ_=>PA) (iJ PA)
def Qr.sg:SG Tryz.prog:=⟨50,(B0 (30) 446),Qr.E,nS.of (ky.half nr (dC.sg.h.1 (by rfl))) (by rfl)⟩
def Qs.E:Entry:=Entry.half [some fi,some tU,some xI,some ti,some pQ,some ti] (X:=dC.Y) (Z:=Unit) dC.E.run dC.E.out (λ_=>PB) (iJ PB)
def Qs.sg:SG Tryz.prog:=⟨50,(B0 (60) 36),Qs.E,nS.of (ky.half nr (dC.sg.h.1 (by rfl))) (by rfl)⟩
def Qw.E:Entry:=Entry.half [some pQ] (X:=fc.Y) (Z:=Unit) fc.E.run fc.E.out (λ_=>HZ) (iJ HZ)
def Qw.sg:SG Tryz.prog:=⟨57,xJ,Qw.E,nS.of (ky.half nr (fc.sg.h.1 (by rfl))) (by rfl)⟩
abbrev eM.D:=Unit
abbrev eM.Y:=Bool
def eM.aY:eM.D->Prop:=λ_=>True
def eM.F:eM.D->eM.Y:=λ_=>true
def eM:Fs Tryz.prog eM.aY bU eM.F:=gh 42 Tryz.f42 (λ_=>([],[])) (λx=>⟨.d .bool x,[],[]⟩) [] [ix.sg,Qt.sg,Qu.sg,Qv.sg,Qw.sg,lD.sg,Qp.sg,Qq.sg,Qr.sg,Qs.sg,bm.sg] {bo:=[44]}
theorem eM.eq{R:Type}(d)(k:K1 R):eM.A d k=
  aA (ix.call (3,1000,0)) λNK=>
  aA (ix.call (1,500,50)) λGR=>
  aA (ix.call (2,35,0)) λOf=>
  aA (ix.call (5,700,0)) λOg=>
  aA (ix.call (4,300,30)) λQd=>
  aA (mz (iJ Oa) (aB.call ([NK,GR,Of,Og,Qd],800,(2,(1,(4,()))),10))) λRX=>
  aA (mz (iJ Ob) (aB.call ([NK,GR,Of,Og,Qd],90,(2,(1,(4,()))),10))) λT1=>
  aA (mz (iJ Oc) (aB.call ([NK,GR,Of,Og,Qd,NK],90,(2,(1,(4,()))),10))) λSy=>
  aA (mz (iJ HZ) (fc.call (2,(1,(4,()))))) λSz=>
  aA (lD.call 4) λqj=>
  aA (mz (iJ N8) (dC.call (([(((List.replicate 32 0),(1,())),((500,((gT [kI (1+2)]),())),(0,(0,(0,(50,()))))))],(36,(446,(50,())))),[3],qj,10,(2,(1,(4,()))),0))) λT3=>
  aA (lD.call 4) λTO=>
  aA (mz (iJ N9) (dC.call (([(((List.replicate 32 0),(1,())),((500,((gT [kI (1+2)]),())),(0,(0,(0,(50,()))))))],(36,(446,(50,())))),[3],TO,30,(2,(1,(4,()))),36))) λSB=>
  aA (lD.call 4) λTP=>
  aA (mz (iJ PA) (dC.call (([(((List.replicate 32 0),(1,())),((500,((gT [kI (1+2)]),())),(0,(0,(0,(50,()))))))],(36,(446,(50,())))),[3],TP,30,(2,(1,(4,()))),446))) λT4=>
  aA (lD.call 4) λTQ=>
  aA (mz (iJ PB) (dC.call (([(((List.replicate 32 0),(3,())),((1000,((gT [kI (3+2)]),())),(0,(0,(0,(0,())))))),(((List.replicate 32 0),(5,())),((700,((gT [kI (5+2)]),())),(0,(0,(0,(0,()))))))],(54,(54,(0,())))),[5,7],TQ,60,(2,(1,(4,()))),36))) λT5=>
  aK ((BX (N8.1.1.length:Int) 1)) (
   aK ((BX (N9.1.2.1.length:Int) 1)) (
    aA (bm.call [NK,GR,Of,Og,Qd]) λTR=>
    k (eM.out (BX TR 108))) (
    k (eM.out false))) (
   k (eM.out false)):=by kernel_rfl
theorem Nn{P:Int}(hp:wm P=true)(hu:kX P):dC.call (mD 446,[3],gT [P],10,rJ,0)=some (uw P 36,36,0)/\dC.call (mD 446,[3],gT [P],30,rJ,36)=some (uw P 446,446,0)/\dC.call (mD 446,[3],gT [P],30,rJ,446)=some (F6,0,4)/\dC.call (yA,[5,7],gT [P],60,rJ,36)=some (F6,0,13):=by
 obtain⟨ht,_⟩:=Ck (jb:=36) hp hu (by decide) (by decide)
 obtain⟨ht',_⟩:=Ck (jb:=446) hp hu (by decide) (by decide)
 have gb:Oj (mD 446):=⟨⟨by show(0:Int)<=36;decide,by show(36:Int)<=446;decide,by show(446:Int)<=1125899906842624;decide⟩,by show(0:Int)<=50;decide,by show(50:Int)<=9223372036854775807;decide⟩
 have gc:Oj yA:=⟨⟨by show(0:Int)<=54;decide,by show(54:Int)<=54;decide,by show(54:Int)<=1125899906842624;decide⟩,by show(0:Int)<=0;decide,by show(0:Int)<=9223372036854775807;decide⟩
 have lp:J1 (gT [P]):=⟨KJ (λk hk=>by rw[bM.1 hk];exact hu),by show 1<=9223372036854775807;decide⟩
 have k3:∀k∈([3]:List Int),kX k:=λk hk=>by rw[bM.1 hk];exact⟨by decide,by decide⟩
 have xb:∀m,∀x∈(mD m).1,Mc x:=λm x hx=>by rw[bM.1 (show x∈ [oC 1 500 50] from hx)];exact Nq _ _ _
 have f1:qm (mD 446) 10 rJ=36:=by kernel_rfl
 have f2:qm (mD 446) 30 rJ=446:=by kernel_rfl
 have n1:dC.call (mD 446,[3],gT [P],10,rJ,0)=some (uw P 36,36,0):=by
  rw[dC.run (d:=(mD 446,[3],gT [P],10,rJ,0)) ⟨gb,⟨by decide,by decide⟩,xb _,k3,lp,by show 1<=1000000;decide,by show 1<=1000000000;decide,by show(0:Int)<=_;decide⟩]
  refine congrArg some ?_
  show tr (mD 446) [3] (gT [P]) 10 rJ 0=_
  unfold tr
  rw[f1,if_neg (λe=>absurd e.1 (by decide)),if_neg (show ¬(0:Int) > 0 by decide),if_neg (show ¬(36:Int) > (mD 446).2.2.1 from(by show ¬(36:Int) > 446;decide)),show u6 (mD 446).1 [3] (gT [P]) 36=(uw P 36,0) from ht,if_neg (λe=>e rfl)]
 have n2:dC.call (mD 446,[3],gT [P],30,rJ,36)=some (uw P 446,446,0):=by
  rw[dC.run (d:=(mD 446,[3],gT [P],30,rJ,36)) ⟨gb,⟨by decide,by decide⟩,xb _,k3,lp,by show 1<=1000000;decide,by show 1<=1000000000;decide,by show(36:Int)<=_;decide⟩]
  refine congrArg some ?_
  show tr (mD 446) [3] (gT [P]) 30 rJ 36=_
  unfold tr
  rw[f2,if_neg (λe=>absurd e.2 (by decide)),if_pos (show(36:Int) > 0 by decide),show imax 446 (36+qE (mD 446).1)=446 by kernel_rfl,if_neg (show ¬(446:Int) > (mD 446).2.2.1 from(by show ¬(446:Int) > 446;decide)),show u6 (mD 446).1 [3] (gT [P]) 446=(uw P 446,0) from ht',if_neg (λe=>e rfl)]
 have n3:dC.call (mD 446,[3],gT [P],30,rJ,446)=some (F6,0,4):=by
  rw[dC.run (d:=(mD 446,[3],gT [P],30,rJ,446)) ⟨gb,⟨by decide,by decide⟩,xb _,k3,lp,by show 1<=1000000;decide,by show 1<=1000000000;decide,by show(446:Int)<=_;decide⟩]
  refine congrArg some ?_
  show tr (mD 446) [3] (gT [P]) 30 rJ 446=_
  unfold tr
  rw[f2,if_pos ⟨by decide,by decide⟩]
 have n4:dC.call (yA,[5,7],gT [P],60,rJ,36)=some (F6,0,13):=by
  rw[dC.run (d:=(yA,[5,7],gT [P],60,rJ,36)) ⟨gc,⟨by decide,by decide⟩,λx hx=>by
   rcases cv.1 (show x∈ [oC 3 1000 0,oC 5 700 0] from hx) with rfl | hx
   ·exact Nq _ _ _
   ·rw[bM.1 hx];exact Nq _ _ _,λk hk=>by
   rcases cv.1 hk with rfl | hk
   ·exact⟨by decide,by decide⟩
   ·rw[bM.1 hk];exact⟨by decide,by decide⟩,lp,by show 2<=1000000;decide,by show 2<=1000000000;decide,by show(36:Int)<=_;decide⟩]
  refine congrArg some ?_
  show tr yA [5,7] (gT [P]) 60 rJ 36=_
  have f3:qm yA 60 rJ=54:=by kernel_rfl
  unfold tr
  rw[f3,if_neg (λe=>absurd e.2 (by decide)),if_pos (show(36:Int) > 0 by decide),show imax 54 (36+qE yA.1)=90 by kernel_rfl,if_pos (show(90:Int) > yA.2.2.1 from(by show(90:Int) > 54;decide))]
 exact⟨n1,n2,n3,n4⟩
theorem eM.ok:eM.Ok:=by
 rintro⟨⟩ _
 have u4:kX 4:=⟨by decide,by decide⟩
 obtain⟨n1,n2,n3,n4⟩:=Nn Nh u4
 obtain⟨_,t1,_⟩:=Ck (jb:=36) Nh u4 (by decide) (by decide)
 obtain⟨_,_,t2⟩:=Ck (jb:=446) Nh u4 (by decide) (by decide)
 have cl:lD.call 4=some (gT [4]):=lD.run (d:=4) trivial
 have c1:∀n a u:Int,0<=n->n<=100->ix.call (n,a,u)=some (oC n a u):=λn a u h0 h1=>ix.run (d:=(n,a,u)) ⟨h0,h1⟩
 have p1:aB.call (A1,800,rJ,10)=some Oa:=(aB.run (d:=(A1,800,rJ,10)) Je).trans (congrArg some KS)
 have p2:aB.call (A1,90,rJ,10)=some Ob:=(aB.run (d:=(A1,90,rJ,10)) Je).trans (congrArg some KT)
 have p3:aB.call (A1++ [oC 3 1000 0],90,rJ,10)=some Oc:=(aB.run (d:=(A1++ [oC 3 1000 0],90,rJ,10)) (λx hx=>by
  rcases bf.1 hx with hx | hx
  ·exact Je x hx
  ·rw[bM.1 hx];exact HJ _ _ _ (by decide))).trans (congrArg some KU)
 have cs:fc.call rJ=some HZ:=(fc.run (d:=rJ) trivial).trans (by rfl)
 have w1:bm.call A1=some 108:=(bm.run (d:=A1) (by show 5<=1000000000;decide)).trans (by kernel_rfl)
 rw[eM.eq]
 refine rI (c1 3 1000 0 (by decide) (by decide)) ?_
 refine rI (c1 1 500 50 (by decide) (by decide)) ?_
 refine rI (c1 2 35 0 (by decide) (by decide)) ?_
 refine rI (c1 5 700 0 (by decide) (by decide)) ?_
 refine rI (c1 4 300 30 (by decide) (by decide)) ?_
 refine rI ((congrArg (mz (iJ Oa)) p1).trans (pL Oa)) ?_
 refine rI ((congrArg (mz (iJ Ob)) p2).trans (pL Ob)) ?_
 refine rI ((congrArg (mz (iJ Oc)) p3).trans (pL Oc)) ?_
 refine rI ((congrArg (mz (iJ HZ)) cs).trans (pL HZ)) ?_
 refine rI cl ?_
 refine rI ((congrArg (mz (iJ N8)) n1).trans (pL N8)) ?_
 refine rI cl ?_
 refine rI ((congrArg (mz (iJ N9)) n2).trans (pL N9)) ?_
 refine rI cl ?_
 refine rI ((congrArg (mz (iJ PA)) n3).trans (pL PA)) ?_
 refine rI cl ?_
 refine rI ((congrArg (mz (iJ PB)) n4).trans (pL PB)) ?_
 refine L4 (j6 (by show(((uw 4 36).1.length:Nat):Int)=1;rw[t1];rfl)) ?_
 refine L4 (j6 (by show(((uw 4 446).2.1.length:Nat):Int)=1;rw[t2];rfl)) ?_
 refine rI w1 ?_
 rfl
theorem eM.run:eM.RS:=rE [] eM
def eM.sg:=eM.gC eM.ok
end Go.Ab
namespace Go.Ab
open Go.Proofs
def my:Int->List gD->List gD
 |_,[]=> []
 |b,g::l=>xt g (kQ b g)::my (b - kQ b g) l
theorem A7:∀(A B:List gD) (b:Int),jj A.length b (A++B)=my b A++B
 |[],B,b=>rfl
 |g::A,B,b=>by
  rw[aD,ke,jj,A7 A,my,ke]
theorem DK:∀(n:Nat) (b:Int) (l:List gD),l.length<=n->jj n b l=my b l
 |n,b,[],_=>by cases n <;> rfl
 | 0,b,g::l,h=>by cases h
 |n+1,b,g::l,h=>by rw[jj,my,DK n _ l (Nat.le_of_succ_le_succ h)]
def lO(l:List gD):Int:=(l.map (·.2.1)).sum
theorem DE:lO []=0:=rfl
theorem lK(g:gD)(l:List gD):lO (g::l)=g.2.1+lO l:=by unfold lO;rw[bE,List.sum_cons]
theorem xd(l l':List gD):lO (l++l')=lO l+lO l':=by unfold lO;rw[kW,List.sum_append]
theorem u5:∀ {l:List gD},(∀g∈l,0<=g.2.1)->0<=lO l
 |[],_=>dW 0
 |a::l,h=>by
  have h1:=h a aG
  have h2:=u5 (l:=l) λx hx=>h x (aF _ hx)
  rw[lK]
  omega
theorem AJ:∀(l:List gD) (b:Int),(∀g∈l,0<=g.2.1)->0<=b->∃K R,l=K++R/\(kM b l).2=K/\(kM b l).1+lO K=b/\0<=(kM b l).1/\∀g R',R=g::R'->(kM b l).1 < g.2.1
 |[],b,_,hb=>⟨[],[],rfl,rfl,by show b+0=b;omega,hb,λg R' h=>by cases h⟩
 |g::l,b,h,hb=>by
  unfold kM
  by_cases hc:g.2.1 > b
  ·rw[if_pos hc]
   refine⟨[],g::l,rfl,rfl,by show b+0=b;omega,hb,λg' R' e=> ?_⟩
   rw[<-(List.cons.inj e).1]
   show b < g.2.1
   omega
  ·rw[if_neg hc]
   have h0:=h g aG
   obtain⟨K,R,e1,e2,e3,e4,e5⟩:=AJ l (b - g.2.1) (λx hx=>h x (aF _ hx)) (by omega)
   refine⟨g::K,R,by rw[e1];rfl,by rw[<-e2],?_,e4,e5⟩
   rw[lK]
   show(kM (b - g.2.1) l).1+(g.2.1+lO K)=b
   omega
theorem tK{α:Type}:∀(n:Nat) (l:List α),l.length<=n->(gf l).flatten=l
 | 0,l,h=>by
  obtain rfl:=aL (Nat.le_zero.1 h)
  rfl
 |n+1,l,h=>by
  by_cases h0:0 < l.length
  ·rw[rS h0,fw,tK n (l.drop 8) (by rw[cO];omega),cW]
  ·obtain rfl:=aL (by omega:l.length=0)
   rfl
section
variable {l:List dh} {b:pD} {h:Int}
theorem HR(hx:∀x∈l,Cw x){x:dh}(hm:x∈iy l b h):x∈l/\iY h x=true/\gY b h x=false:=by
 obtain⟨h1,h2⟩:=dE.1 ((sU hx).1.mem_iff.1 hm)
 unfold qw at h2
 rw[ag,bp]at h2
 exact⟨h1,h2⟩
theorem G8(hx:∀x∈l,Cw x){c:List dh}(hc:c∈gf (iy l b h)){x:dh}(hm:x∈c):x∈l/\iY h x=true/\gY b h x=false:=by
 refine HR (b:=b) hx ?_
 have:=tK _ (iy l b h) (ax _)
 rw[<-this]
 exact List.mem_flatten.2 ⟨c,hc,hm⟩
theorem FI{bu:Int}(h0:0<=bu):∃(A A2:List dh) (B B2:List (List dh)) (b':Int),dL l b h=A++A2/\gf (iy l b h)=B++B2/\jW l bu b h=my b' (A.map jt)++B.map fp/\(B=[]\/A2=[])/\0<=b'/\b'+lO (A.map jt)+lO (B.map fp)=bu/\
  (∀x A3,A2=x::A3->b' < qE [x])/\(A2=[]->∀c B3,B2=c::B3->b' < qE c):=by
 obtain⟨K,R,e1,e2,e3,e4,e5⟩:=AJ (lj l b h) bu (λg hg=>CC hg) h0
 unfold jW
 rw[e2]
 generalize (kM bu (lj l b h)).1=b' at e3 e4 e5
 unfold lj at e1
 rcases List.append_eq_append_iff.1 e1 with⟨a',h1,h2⟩ | ⟨c',h1,h2⟩
 ·obtain⟨B,B2,h3,h4,h5⟩:=List.map_eq_append_iff.1 h2
  subst h4
  refine⟨dL l b h,[],B,B2,b',by simp,h3,?_,.inr rfl,e4,?_,λx A3 e=>(by cases e),λ_ c B3 e=> ?_⟩
  ·rw[h1,show(dL l b h).length=((dL l b h).map jt).length by rw[ct],A7]
  ·rw[h1,xd]at e3
   omega
  ·subst e
   exact e5 (fp c) (B3.map fp) h5.symm
 ·obtain⟨A,A2,h3,h4,h5⟩:=List.map_eq_append_iff.1 h1
  subst h4
  refine⟨A,A2,[],gf (iy l b h),b',h3,rfl,?_,.inl rfl,e4,?_,λx A3 e=> ?_,λe c B3 e'=> ?_⟩
  ·rw[DK _ _ _ (by rw[ct,h3,aq];omega),gr,cH]
  ·rw[gr,DE]
   omega
  ·subst e
   exact e5 (jt x) (A3.map jt++(gf (iy l b h)).map fp) (by rw[h2,<-h5];rfl)
  ·subst e
   have h5:c'=[]:=h5.symm
   rw[h5,aS,e']at h2
   exact e5 (fp c) (B3.map fp) h2
end
theorem AT:∀(A:List dh) (b:Int),(∀x∈A,Md (jt x))->0<=b->b<=1125899906842624->∀g∈my b (A.map jt),∃x∈A,∃m,0<=m/\m<=b/\m<=x.2.1.1 - qE [x]/\g=xt (jt x) m
 |[],_,_,_,_,g,hg=>by cases hg
 |x::A,b,hx,h0,h1,g,hg=>by
  have hm:=B7 (hx x aG) ⟨h0,h1⟩
  rcases cv.1 (show g∈xt (jt x) (kQ b (jt x))::my (b - kQ b (jt x)) (A.map jt) from hg) with rfl | hg
  ·exact⟨x,aG,_,hm.1,hm.2.1,hm.2.2,rfl⟩
  ·obtain⟨y,hy,m,m1,m2,m3,m4⟩:=AT A _ (λy hy=>hx y (aF _ hy)) (by omega) (by omega) g hg
   exact⟨y,aF _ hy,m,m1,by omega,m3,m4⟩
theorem Jc{h:Int}{x:dh}(h1:1<=h)(hk:iY h x=true):0<=x.2.2.2.2.2.1:=by
 unfold iY at hk
 rw[ag]at hk
 rcases yV hk.1 with e | e <;> omega
theorem DX{l:List dh}{bu:Int}{b:pD}{h:Int}(e:kB l bu b h=true):(0<=bu/\bu<=1125899906842624)/\lG b=true/\(1<=h/\h<=1048576)/\l.length<=64/\(l.map (·.1)).Nodup/\∀x∈l,0<=x.2.1.1/\x.2.1.1<=1099511627776:=by
 unfold kB at e
 simp only[ag,decide_eq_true_eq]at e
 exact⟨e.1,e.2.1,e.2.2.1,(um l).1 e.2.2.2⟩
def PM(x:dh):Prop:=Mc x/\Li x.2.1.2.1/\x.2.2.2.2.2.1<=9223372036854775807
theorem Mp{l:List dh}(hr:∀x∈l,PM x)(hf:Hd l=true):∀x∈l,Cw x:=λx hx=>⟨(hr x hx).1.1,(MG hf).2 x hx,(hr x hx).2.2⟩
theorem HO{l:List dh}{bu:Int}{b:pD}{h:Int}(hx:∀x∈l,Cw x)(hl:l.length<=64):(jW l bu b h).length<=1000:=by
 have h1:=(qn (b:=b) (h:=h) hx).1.length_eq
 have h2:=(sU (b:=b) (h:=h) hx).1.length_eq
 have h3:=(qJ _ (iy l b h) (ax _)).1
 have h4:=hM (qo b h) l
 have h5:=hM (qw b h) l
 have h6:(kM bu (lj l b h)).2.length<=(lj l b h).length:=by
  have:∀(L:List gD) (c:Int),(kM c L).2.length<=L.length:=by
   intro L
   induction L with
   |nil=>exact λc=>ax _
   |cons g L ih=>
    intro c
    unfold kM
    split
    ·exact bh _
    ·show((kM (c - g.2.1) L).2).length+1<=L.length+1
     have:=ih (c - g.2.1)
     omega
  exact this _ _
 unfold jW
 rw[wy]
 unfold lj at h6
 rw[aq,ct,ct]at h6
 unfold lj
 omega
end Go.Ab
namespace Go.Ab
open Go.Proofs
def xw(l:List dh)(o:iK):Bool:=l.any λx=>Ty.beq fA x.1 o
theorem Lm(a b:iK):Ty.beq fA a b=true↔a=b:=⟨beq_eq fA a b rfl,λh=>by rw[h];exact beq_refl fA b rfl⟩
theorem yF{l:List dh}{o:iK}:xw l o=true↔o∈l.map (·.1):=by
 unfold xw
 rw[kc,cX]
 exact⟨λ⟨x,h1,h2⟩=>⟨x,h1,(Lm _ _).1 h2⟩,λ⟨x,h1,h2⟩=>⟨x,h1,(Lm _ _).2 h2⟩⟩
theorem Dk(l:List dh)(o:iK):l.all (λx=> !Ty.beq fA x.1 o)= !xw l o:=by
 unfold xw
 induction l with
 |nil=>rfl
 |cons x l ih=>rw[eJ,List.any_cons,ih,Bool.not_or]
def yp(l:List dh):Int:=(l.map (·.2.1.1)).sum
def sZ(l:List gD):Int:=(l.map (·.2.2.1)).sum
def qp(l:List gD):List dh:=l.flatMap (·.1)
def EA(b:pD)(h:Int)(g:gD):Bool:=g.1.any (gY b h)
theorem vZ(x:dh)(l:List dh):yp (x::l)=x.2.1.1+yp l:=by unfold yp;rw[bE,List.sum_cons]
theorem qs(g:gD)(l:List gD):sZ (g::l)=g.2.2.1+sZ l:=by unfold sZ;rw[bE,List.sum_cons]
theorem Df(l l':List gD):sZ (l++l')=sZ l+sZ l':=by unfold sZ;rw[kW,List.sum_append]
theorem qq(g:gD)(l:List gD):qp (g::l)=g.1++qp l:=by unfold qp;rw[List.flatMap_cons]
theorem Db(l l':List gD):qp (l++l')=qp l++qp l':=by unfold qp;rw[List.flatMap_append]
theorem Dh:∀ {l:List gD},(∀g∈l,0<=g.2.2.1)->0<=sZ l
 |[],_=>dW 0
 |a::l,h=>by
  have h1:=h a aG
  have h2:=Dh (l:=l) λx hx=>h x (aF _ hx)
  rw[qs]
  omega
theorem GQ:∀(c:List dh) (n:Int),(∀x∈c,qE [x]<=x.2.1.1)->c.foldl EC n+18*(c.length:Int)<=n+yp c
 |[],n,_=>by show n+18*((0:Nat):Int)<=n+0;omega
 |x::c,n,h=>by
  have h1:EC 18 x<=x.2.1.1:=h x aG
  have h2:=GQ c (EC n x) λy hy=>h y (aF _ hy)
  have h3:EC n x=n+EC 18 x - 18:=by unfold EC;split <;> omega
  rw[cU,vZ,aD]
  omega
theorem Lc{c:List dh}(h0:1<=c.length)(h:∀x∈c,qE [x]<=x.2.1.1):qE c<=yp c:=by
 have:=GQ c 18 h
 unfold qE
 rw[if_neg (by omega)]
 omega
theorem GA{h:Int}{x:dh}(e:iY h x=true):rN x h=true/\qE [x]<=x.2.1.1:=by
 unfold iY at e
 rw[ag,bp]at e
 have:=of_decide_eq_false e.2
 exact⟨e.1,by omega⟩
theorem Ld{h:Int}{x:dh}(h1:rN x h=true)(h2:qE [x]<=x.2.1.1):iY h x=true:=by
 unfold iY
 rw[h1,decide_eq_false (by omega)]
 rfl
theorem FJ{R:gD->gD->Prop}:∀ {L:List gD},(∀g∈L,∀g'∈L,R g g')->L.Pairwise R
 |[],_=> .nil
 |a::L,h=> .cons (λg hg=>h a aG g (aF _ hg)) (FJ λg hg g' hg'=>h g (aF _ hg) g' (aF _ hg'))
theorem AR:∀(A:List dh) (b:Int),qp (my b (A.map jt))=A
 |[],b=>rfl
 |x::A,b=>by rw[bE,my,qq,AR A];rfl
theorem Gq:∀(L:List gD) (b:Int),lO (my b L)=lO L
 |[],b=>rfl
 |g::L,b=>by rw[my,lK,lK,Gq L];rfl
theorem Gp:∀(A:List dh) (b:Int),(∀x∈A,Md (jt x))->0<=b->b<=1125899906842624->sZ (my b (A.map jt))<=lO (A.map jt)+b
 |[],b,_,h0,_=>by show(0:Int)<=0+b;omega
 |x::A,b,hx,h0,h1=>by
  have hm:=B7 (hx x aG) ⟨h0,h1⟩
  have ih:=Gp A (b - kQ b (jt x)) (λy hy=>hx y (aF _ hy)) (by omega) (by omega)
  rw[bE,my,qs,lK]
  show qE [x]+kQ b (jt x)+_<=qE [x]+_+b
  omega
theorem Dg:∀B:List (List dh),sZ (B.map fp)=lO (B.map fp)
 |[]=>rfl
 |c::B=>by rw[bE,qs,lK,Dg B];rfl
theorem Dc:∀B:List (List dh),qp (B.map fp)=B.flatten
 |[]=>rfl
 |c::B=>by rw[bE,qq,Dc B];rfl
def F8(l:List dh)(b:pD)(h:Int)(g:gD):Prop:=(1<=g.1.length/\g.1.length<=8)/\g.2.1=qE g.1/\g.2.1<=g.2.2.1/\g.2.2.1<=yp g.1/\(∀x∈g.1,x∈l/\iY h x=true)/\(EA b h g=true->g.1.length=1)/\(EA b h g=false->g.2.2.1=g.2.1)
section
variable {l:List dh} {b:pD} {h:Int}
theorem H9(hx:∀x∈l,Cw x)(hn:(l.map (·.1)).Nodup):((dL l b h++iy l b h).map (·.1)).Nodup:=by
 have hp:(dL l b h++iy l b h).Perm (l.filter (qo b h)++l.filter (qw b h)):=(qn hx).1.append (sU hx).1
 have e1:l.filter (qo b h)=(l.filter (iY h)).filter (gY b h):=by
  rw[lg]
  exact List.filter_congr λx _=>Bool.and_comm _ _
 have e2:l.filter (qw b h)=(l.filter (iY h)).filter (λx=> !gY b h x):=by
  rw[lg]
  exact List.filter_congr λx _=>Bool.and_comm _ _
 rw[e1,e2]at hp
 exact((hp.trans (List.filter_append_perm _ _)).map (·.1)).nodup_iff.2 (hn.sublist (List.filter_sublist.map _))
theorem He(hx:∀x∈l,Cw x){x:dh}(h1:x∈l)(h2:iY h x=true)(h3:gY b h x=true):x∈dL l b h:=by
 refine(qn hx).1.mem_iff.2 (dE.2 ⟨h1,?_⟩)
 unfold qo
 rw[h2,h3]
 rfl
theorem JH(hx:∀x∈l,Cw x){x:dh}(h1:x∈l)(h2:iY h x=true)(h3:gY b h x=false):x∈iy l b h:=by
 refine(sU hx).1.mem_iff.2 (dE.2 ⟨h1,?_⟩)
 unfold qw
 rw[h2,h3]
 rfl
theorem FH{bu:Int}(hx:∀x∈l,Cw x)(oo:kB l bu b h=true):(∀g∈jW l bu b h,F8 l b h g)/\(jW l bu b h).Pairwise (λg g'=>EA b h g'=true->EA b h g=true)/\((qp (jW l bu b h)).map (·.1)).Nodup/\(qp (jW l bu b h)).length<=128/\sZ (jW l bu b h)<=bu/\0<=lO (jW l bu b h)/\lO (jW l bu b h)<=bu/\∀x∈l,iY h x=true->x.1 ∉ (qp (jW l bu b h)).map (·.1)->bu - lO (jW l bu b h) < 194:=by
 obtain⟨hb,_,hh,hl,hn,ha⟩:=DX oo
 have Se:(dL l b h).length<=64:=by
  rw[(qn hx).1.length_eq]
  exact Nat.le_trans (hM _ _) hl
 have Gu:(iy l b h).length<=64:=by
  rw[(sU hx).1.length_eq]
  exact Nat.le_trans (hM _ _) hl
 have Gv:=H9 (b:=b) (h:=h) hx hn
 have hc:=(qJ _ (iy l b h) (ax _)).2
 have PX:=tK _ (iy l b h) (ax _)
 have kF:=λ(x:dh) (hm:x∈dL l b h)=>yx hx hm
 have kR:=λ(c:List dh) (hm:c∈gf (iy l b h)) (x:dh) (h':x∈c)=>G8 hx hm h'
 obtain⟨A,A2,B,B2,b',s1,s2,s3,s4,s5,s6,s7,s8⟩:=FI (l:=l) (b:=b) (h:=h) hb.1
 have fM:=λ(x:dh)=>He (b:=b) (h:=h) hx (x:=x)
 have rM:=λ(x:dh)=>JH (b:=b) (h:=h) hx (x:=x)
 rw[<-PX]at Gu Gv rM
 rw[s1]at Se Gv kF fM
 rw[s2]at Gu Gv hc kR rM
 rw[s3]
 have hA:∀x∈A,x∈l/\iY h x=true/\gY b h x=true:=λx hm=>kF x (j2 _ hm)
 have hB:∀c∈B,∀x∈c,x∈l/\iY h x=true/\gY b h x=false:=λc hm x h'=>kR c (j2 _ hm) x h'
 have gM:∀x∈A,Md (jt x):=λx hm=>DQ (ha x (hA x hm).1) (hA x hm).2.1
 have pA:∀g∈A.map jt,0<=g.2.1:=λg hg=>by obtain⟨x,_,rfl⟩:=cX.1 hg;exact(py [x]).1
 have pB:∀g∈B.map fp,0<=g.2.1:=λg hg=>by obtain⟨c,_,rfl⟩:=cX.1 hg;exact(py c).1
 have qA:=u5 pA
 have qB:=u5 pB
 have tA:∀g∈my b' (A.map jt),EA b h g=true/\F8 l b h g:=λg hg=>by
  obtain⟨x,hm,m,m1,m2,m3,rfl⟩:=AT A b' gM s5 (by omega) g hg
  obtain⟨k1,k2,k3⟩:=hA x hm
  have hp:EA b h (xt (jt x) m)=true:=by
   show(gY b h x || false)=true
   rw[k3];rfl
  have hs:yp [x]=x.2.1.1+0:=vZ x []
  refine⟨hp,⟨by show 1<=1;decide,by show 1<=8;decide⟩,rfl,by show qE [x]<=qE [x]+m;omega,by show qE [x]+m<=yp [x];omega,λy hy=> ?_,λ_=>rfl,λe=> ?_⟩
  ·rw[bM.1 (show y∈ [x] from hy)]
   exact⟨k1,k2⟩
  ·rw[hp]at e
   cases e
 have tB:∀g∈B.map fp,EA b h g=false/\F8 l b h g:=λg hg=>by
  obtain⟨c,hm,rfl⟩:=cX.1 hg
  have hp:EA b h (fp c)=false:=by
   show c.any (gY b h)=false
   rw[ik]
   intro x h'
   rw[(hB c hm x h').2.2]
   decide
  have Fc:=hc c (j2 _ hm)
  refine⟨hp,Fc,rfl,dW _,Lc Fc.1 λx h'=>(GA (hB c hm x h').2.1).2,λx h'=>⟨(hB c hm x h').1,(hB c hm x h').2.1⟩,λe=> ?_,λ_=>rfl⟩
  rw[hp]at e
  cases e
 have eg:qp (my b' (A.map jt)++B.map fp)=A++B.flatten:=by rw[Db,AR,Dc]
 have el:lO (my b' (A.map jt)++B.map fp)=lO (A.map jt)+lO (B.map fp):=by rw[xd,Gq]
 have es:sZ (my b' (A.map jt)++B.map fp)<=lO (A.map jt)+b'+lO (B.map fp):=by
  have:=Gp A b' gM s5 (by omega)
  rw[Df,Dg]
  omega
 rw[eg,el]
 rw[List.flatten_append]at Gv Gu rM
 refine⟨λg hg=>(bf.1 hg).elim (λh'=>(tA g h').2) (λh'=>(tB g h').2),List.pairwise_append.2 ⟨FJ λg hg g' _ _=>(tA g hg).1,FJ λg _ g' hg' e=> ?_,λg hg g' _ _=>(tA g hg).1⟩,?_,?_,by omega,by omega,by omega,λx h1 h2 h3=> ?_⟩
 ·rw[(tB g' hg').1]at e
  cases e
 ·refine List.Nodup.sublist (List.Sublist.map _ ?_) Gv
  exact(List.sublist_append_left A A2).append (List.sublist_append_left B.flatten B2.flatten)
 ·rw[aq]at Se Gu ⊢
  omega
 ·have n1:x ∉ A:=λe=>h3 (gk (j2 _ e))
  have n2:x ∉ B.flatten:=λe=>h3 (gk (List.mem_append_right _ e))
  have d1:A2≠ []->b' < 194:=λe=>by
   match A2,e,s7 with
   |y::A3,_,s7=>
    have h4:=s7 y A3 rfl
    have h5:qE [y]<=18+22*((1:Nat):Int):=(py [y]).2
    omega
  have d2:A2=[]->B2≠ []->b' < 194:=λe e'=>by
   match B2,e',s8,hc with
   |c::B3,_,s8,hc=>
    have h4:=s8 e c B3 rfl
    have h5:=(py c).2
    have h6:=(hc c (List.mem_append_right _ aG)).2
    omega
  have d:b' < 194:=by
   cases hp:gY b h x with
   |true=>
    refine d1 λe=> ?_
    have:=fM x h1 h2 hp
    rw[e,cH]at this
    exact n1 this
   |false=>
    by_cases e:A2=[]
    ·refine d2 e λe'=> ?_
     have:=rM x h1 h2 hp
     rw[e',iQ,cH]at this
     exact n2 this
    ·exact d1 e
  omega
end
abbrev aU.L0.D:=Nat×iK×Int×(List dh)
def aU.L0.st:aU.L0.D->AS:=λ(Fq,ki,i,mH)=>⟨([.cD (.dd 0) 0 [] 0 0 Fq,.undef,.undef,.eO fA ki,.undef,.d ti i]++bB 13 []),[.obj 0 false (.vec 117 c9 mH)],(List.replicate 19 [])⟩
abbrev aU.L0.Y0:=Unit
abbrev aU.L0.X0:=(List dh)
def aU.L0.dm:aU.L0.X0->Exit×AS:=λx=>(.ret,⟨(bB 4 ([.d .bool true]++bB 14 [])),[.obj 0 false (.vec 117 c9 x)],(List.replicate 19 [])⟩)
abbrev aU.L0.Y1:=Unit
abbrev aU.L0.X1:=(List dh)
def aU.L0.gL:aU.L0.X1->Exit×AS:=λx=>(.exit 0,⟨(bB 19 []),[.obj 0 false (.vec 117 c9 x)],(List.replicate 19 [])⟩)
abbrev aU.L0.X:=(aU.L0.X0)⊕(aU.L0.X1)
abbrev aU.L0.Y:=(aU.L0.Y0)⊕(aU.L0.Y1)
def aU.L0.out:aU.L0.X->Out (Exit×AS):=λx=> .br x.isLeft (.get x.getLeft? λa=> .ok (aU.L0.dm a)) (.get x.getRight? λb=> .ok (aU.L0.gL b))
def aU.L0.add:aU.L0.D->aU.L0.Y->aU.L0.X:=λ(Fq,ki,i,mH) y=>match y with | .inl y=> .inl mH | .inr z=> .inr (mH)
abbrev aU.D:=Nat×iK×(List dh)
abbrev aU.Y:=Bool×(List dh)
def aU.L0.aY:aU.L0.D->Prop:=λ(m,o,i,l)=>l.length<=1000000000/\∃k:Nat,k<=l.length/\i=k/\(m=l.length)
def aU.L0.F:aU.L0.D->aU.L0.Y:=λ(m,o,i,l)=>if(List.drop (Int.toNat i) l).all (λx=> !Ty.beq fA x.1 o) then .inr () else .inl ()
def aU.aY:aU.D->Prop:=λ(m,_,l)=>l.length<=1000000000/\m=l.length
def aU.F:aU.D->aU.Y:=λ(_,o,l)=>(xw l o,l)
def aU.L0.E:=eE.js aU.L0.st aU.L0.aY aU.L0.add aU.L0.F aU.L0.out
def aU.L0.call:aU.L0.D->Option aU.L0.X:=kJ aU.L0.E aU.L0.st
def aU:Fs Tryz.prog aU.aY bU aU.F:=gh 56 Tryz.f56 (λ(lL,fromv,o0)=>([.cD (.dd 0) 0 [] 0 0 lL,.d fA fromv],[.obj 0 false (.vec 117 c9 o0)])) (λx=>⟨.d .bool x.1,[.obj 0 false (.vec 117 c9 x.2)],[]⟩) [none,some fA] [] {loops:=rH [(2,{bI:=[0,3,5]})],outs:=rG [(2,{},{bI:=[4]})],jP:=sh [(2,aU.L0.E)]}
def aU.L0.R:= @iA Tryz.prog (mR aU.G) aU.an 0 Tryz.f56 0 _ aU.L0.st
abbrev aU.L0.Ok:=pE Tryz.prog (mR aU.G) aU.an 0 Tryz.f56 0 aU.L0.st aU.L0.aY aU.L0.add aU.L0.F aU.L0.out
theorem aU.L0.run:nI aU.L0.call aU.L0.aY aU.L0.add aU.L0.F:=qz (qa [.n,.d fA,.d ti,.d (.slice c9)] λ_=>by kernel_rfl)
theorem aU.L0.c8:qk @aU.L0.R aU.L0.st aU.L0.aY aU.L0.add aU.L0.F aU.L0.out aU.L0.Ok:=qI
theorem aU.L0.step{R:Type}(Fq:Nat)(ki:iK)(i:Int)(mH:(List dh))(kn:AS->Option R)(kx:Exit->AS->Option R):aU.L0.R (Fq,ki,i,mH) kn kx=
  aK ((iI i ((Fq:Nat):Int))) (
   aK (fa i ((Fq:Nat):Int)) (
   aK (decide ((0+(Int.toNat i)) < (List.length mH))) (
   aK (decide ((((0+(Int.toNat i))*39)+0)=((0+((Int.toNat i)*39))+0))) (
   aK ((Ty.beq fA (nth c9 mH (0+(Int.toNat i))).1 ki)) (
    kx (aU.L0.dm mH).1 (aU.L0.dm mH).2) (
    kn (aU.L0.st (Fq,ki,(bN .i64 i (1:Int)),mH)))) none) none) none) (
   kx (aU.L0.gL mH).1 (aU.L0.gL mH).2):=by kernel_rfl
theorem aU.eq{R:Type}(lL fromv o0)(k:K1 R):aU.A (lL,fromv,o0) k=
  aA (aU.L0.call (lL,fromv,0,o0)) λx1=>
  aK (x1.isLeft) (
   aA (x1.getLeft?) λa2=>
   k (aU.out (true,a2))) (
   aA (x1.getRight?) λb3=>
   k (aU.out (false,b3))):=by kernel_rfl
theorem aU.L0.ok:aU.L0.Ok:=by
 refine aU.L0.c8 (λ(m,o,i,l)=>l.length - Int.toNat i) ?_
 rintro⟨m,o,i,l⟩ ⟨hlen,k,hk,rfl,hm⟩
 have hlen:l.length<=1000000000:=hlen
 have hk:k<=l.length:=hk
 have hm:m=l.length:=hm
 by_cases h:k < l.length
 ·have n1:nth c9 l k=l[k]:=dM (t:=c9) h
  have hd:(List.drop k l).all (λx=> !Ty.beq fA x.1 o)=((λx=> !Ty.beq fA x.1 o) l[k] && (List.drop (k+1) l).all (λx=> !Ty.beq fA x.1 o)):=by rw[aC h,eJ]
  have step:∀ {R:Type} (kn:AS->Option R) (kx:Exit->AS->Option R),aU.L0.R (m,o,(k:Int),l) kn kx=aK ((λx=> !Ty.beq fA x.1 o) l[k]) (kn (aU.L0.st (m,o,((k+1:Nat):Int),l))) (kx (aU.L0.dm l).1 (aU.L0.dm l).2):=by
   intro R kn kx
   rw[aU.L0.step,aN,bA (by omega),bJ (show(0:Int)<=(k:Int) by omega) (by omega),aa,n1]
   simp only[aj]
   simp only[aN,cq,aX h,aj,decide_true]
   rw[N.rD (by omega)]
   cases Ty.beq fA l[k].1 o <;> rfl
  cases hp:(λx=> !Ty.beq fA x.1 o) l[k]
  ·right
   refine⟨aU.L0.dm l,?_,λkn kx=> ?_⟩
   ·simp only[aU.L0.add,aU.L0.F,aa,hd,hp,dQ,bK,if_false]
    rfl
   ·rw[step,hp,au]
  ·left
   refine⟨(m,o,((k+1:Nat):Int),l),⟨hlen,k+1,by omega,rfl,hm⟩,by simp only[aa];omega,?_,λkn kx=> ?_⟩
   ·simp only[aU.L0.add,aU.L0.F,aa,hd,hp,bX]
   ·rw[step,hp,aj]
 ·right
  obtain rfl:k=l.length:=by omega
  refine⟨aU.L0.gL l,?_,λkn kx=> ?_⟩
  ·simp only[aU.L0.add,aU.L0.F,aa,bq]
   rfl
  ·rw[aU.L0.step,aN,bl (by omega),au]
theorem aU.ok:aU.Ok:=by
 rintro⟨m,o,l⟩ ⟨h,rfl⟩
 rw[aU.eq,aU.L0.run (d:=(l.length,o,0,l)) ⟨h,0,bh _,rfl,rfl⟩]
 simp only[ah,aU.L0.add,aU.L0.F,bU,aU.F,cF,aJ,Dk]
 cases xw l o <;> rfl
theorem aU.run:aU.RS:=rE [.n,.d fA,.d (.slice c9)] aU
def aU.sg:=aU.Qb Bn aU.ok 1 ⟨.js aU.L0.ok,trivial⟩
abbrev bP.L0.D:=(List dh)×iK×Int
def bP.L0.st:bP.L0.D->AS:=λ(oz,ki,i)=>⟨([.d (.slice c9) oz,.undef,.undef,.eO fA ki,.undef,.d ti i]++bB 13 []),[],(List.replicate 19 [])⟩
abbrev bP.L0.Y0:=Unit
abbrev bP.L0.X0:=Unit
def bP.L0.dm:bP.L0.X0->Exit×AS:=λx=>(.ret,⟨(bB 4 ([.d .bool true]++bB 14 [])),[],(List.replicate 19 [])⟩)
abbrev bP.L0.Y1:=Unit
abbrev bP.L0.X1:=Unit
def bP.L0.gL:bP.L0.X1->Exit×AS:=λx=>(.exit 0,⟨(bB 19 []),[],(List.replicate 19 [])⟩)
abbrev bP.L0.X:=(bP.L0.X0)⊕(bP.L0.X1)
abbrev bP.L0.Y:=(bP.L0.Y0)⊕(bP.L0.Y1)
def bP.L0.out:bP.L0.X->Out (Exit×AS):=λx=> .br x.isLeft (.get x.getLeft? λa=> .ok (bP.L0.dm a)) (.get x.getRight? λb=> .ok (bP.L0.gL b))
def bP.L0.add:bP.L0.D->bP.L0.Y->bP.L0.X:=λ(oz,ki,i) y=>match y with | .inl y=> .inl y | .inr z=> .inr (z)
abbrev bP.D:=(List dh)×iK
abbrev bP.Y:=Bool
def bP.L0.aY:bP.L0.D->Prop:=λ(l,o,i)=>l.length<=1000000000/\∃k:Nat,k<=l.length/\i=k
def bP.L0.F:bP.L0.D->bP.L0.Y:=λ(l,o,i)=>if(List.drop (Int.toNat i) l).all (λx=> !Ty.beq fA x.1 o) then .inr () else .inl ()
def bP.aY:bP.D->Prop:=λ(l,_)=>l.length<=1000000000
def bP.F:bP.D->bP.Y:=λ(l,o)=>xw l o
def bP.L0.E:=eE.js bP.L0.st bP.L0.aY bP.L0.add bP.L0.F bP.L0.out
def bP.L0.call:bP.L0.D->Option bP.L0.X:=kJ bP.L0.E bP.L0.st
def bP:Fs Tryz.prog bP.aY bU bP.F:=gh 56 Tryz.f56 (λ(l,fromv)=>([.d (.slice c9) l,.d fA fromv],[])) (λx=>⟨.d .bool x,[],[]⟩) [some (.slice c9),some fA] [] {loops:=rH [(2,{bI:=[0,3,5]})],outs:=rG [(2,{},{bI:=[4]})],jP:=sh [(2,bP.L0.E)]}
def bP.L0.R:= @iA Tryz.prog (mR bP.G) bP.an 0 Tryz.f56 0 _ bP.L0.st
abbrev bP.L0.Ok:=pE Tryz.prog (mR bP.G) bP.an 0 Tryz.f56 0 bP.L0.st bP.L0.aY bP.L0.add bP.L0.F bP.L0.out
theorem bP.L0.run:nI bP.L0.call bP.L0.aY bP.L0.add bP.L0.F:=qz (qa [.d (.slice c9),.d fA,.d ti] λ_=>by kernel_rfl)
theorem bP.L0.c8:qk @bP.L0.R bP.L0.st bP.L0.aY bP.L0.add bP.L0.F bP.L0.out bP.L0.Ok:=qI
theorem bP.L0.step{R:Type}(oz:(List dh))(ki:iK)(i:Int)(kn:AS->Option R)(kx:Exit->AS->Option R):bP.L0.R (oz,ki,i) kn kx=
  aK ((iI i (((List.length oz):Nat):Int))) (
   aK (fa i (((List.length oz):Nat):Int)) (
   aK ((Ty.beq fA (nth c9 oz (Int.toNat i)).1 ki)) (
    kx (bP.L0.dm ()).1 (bP.L0.dm ()).2) (
    kn (bP.L0.st (oz,ki,(bN .i64 i (1:Int)))))) none) (
   kx (bP.L0.gL ()).1 (bP.L0.gL ()).2):=by kernel_rfl
theorem bP.eq{R:Type}(l fromv)(k:K1 R):bP.A (l,fromv) k=
  aA (bP.L0.call (l,fromv,0)) λx1=>
  aK (x1.isLeft) (
   aA (x1.getLeft?) λa2=>
   k (bP.out true)) (
   aA (x1.getRight?) λb3=>
   k (bP.out false)):=by kernel_rfl
theorem bP.L0.ok:bP.L0.Ok:=by
 refine bP.L0.c8 (λ(l,o,i)=>l.length - Int.toNat i) ?_
 rintro⟨l,o,i⟩ ⟨hlen,k,hk,rfl⟩
 have hlen:l.length<=1000000000:=hlen
 have hk:k<=l.length:=hk
 by_cases h:k < l.length
 ·have n1:nth c9 l k=l[k]:=dM (t:=c9) h
  have hd:(List.drop k l).all (λx=> !Ty.beq fA x.1 o)=((λx=> !Ty.beq fA x.1 o) l[k] && (List.drop (k+1) l).all (λx=> !Ty.beq fA x.1 o)):=by rw[aC h,eJ]
  have step:∀ {R:Type} (kn:AS->Option R) (kx:Exit->AS->Option R),bP.L0.R (l,o,(k:Int)) kn kx=aK ((λx=> !Ty.beq fA x.1 o) l[k]) (kn (bP.L0.st (l,o,((k+1:Nat):Int)))) (kx (bP.L0.dm ()).1 (bP.L0.dm ()).2):=by
   intro R kn kx
   rw[bP.L0.step,bA (by omega),bJ (show(0:Int)<=(k:Int) by omega) (by omega),aa,n1]
   simp only[aj]
   rw[N.rD (by omega)]
   cases Ty.beq fA l[k].1 o <;> rfl
  cases hp:(λx=> !Ty.beq fA x.1 o) l[k]
  ·right
   refine⟨bP.L0.dm (),?_,λkn kx=> ?_⟩
   ·simp only[bP.L0.add,bP.L0.F,aa,hd,hp,dQ,bK,if_false]
    rfl
   ·rw[step,hp,au]
  ·left
   refine⟨(l,o,((k+1:Nat):Int)),⟨hlen,k+1,by omega,rfl⟩,by simp only[aa];omega,?_,λkn kx=> ?_⟩
   ·simp only[bP.L0.add,bP.L0.F,aa,hd,hp,bX]
   ·rw[step,hp,aj]
 ·right
  obtain rfl:k=l.length:=by omega
  refine⟨bP.L0.gL (),?_,λkn kx=> ?_⟩
  ·simp only[bP.L0.add,bP.L0.F,aa,bq]
   rfl
  ·rw[bP.L0.step,bl (by omega),au]
theorem bP.ok:bP.Ok:=by
 rintro⟨l,o⟩ h
 rw[bP.eq,bP.L0.run (d:=(l,o,0)) ⟨h,0,bh _,rfl⟩]
 simp only[ah,bP.L0.add,bP.L0.F,bU,bP.F,cF,aJ,Dk]
 cases xw l o <;> rfl
theorem bP.run:bP.RS:=rE [.d (.slice c9),.d fA] bP
def bP.sg:=bP.gC bP.ok 1 ⟨.js bP.L0.ok,trivial⟩
abbrev ae.L0.D:=(List dh)×Int×Int×pD×Bool×(List gD)×Int×Int×Nat×Bool×Int×(List dh)
def ae.L0.st:ae.L0.D->AS:=λ(oz,fG,fV,uH,head,g,paid,least,seenL,calm,i,n108)=>⟨([.d (.slice c9) oz,.d ti fG,.undef,.d ti fV,.undef,.undef,.eO pQ uH,.undef,.undef,.d .bool head,.d (.slice fi) g,.undef,.d ti paid,.d ti least,.cD (.new 108 0) 0 [] 0 0 seenL,.d .bool calm,.d ti i]++bB 256 []),[],(cR 108 ([[.obj 0 false (.vec 117 c9 n108)]]++cR 164 []))⟩
abbrev ae.L0.Y0:=Unit
abbrev ae.L0.X0:=Unit
def ae.L0.dm:ae.L0.X0->Exit×AS:=λx=>(.ret,⟨(bB 8 ([.d .bool false]++bB 264 [])),[],(List.replicate 273 [])⟩)
abbrev ae.L0.Y1:=(List dh)×Int×Int×Bool×Int×Int×Nat×(List dh)
abbrev ae.L0.X1:=(List dh)×Int×Int×Bool×Int×Int×Nat×(List dh)
def ae.L0.gL:ae.L0.X1->Exit×AS:=λx=>(.exit 0,⟨([.d (.slice c9) x.1,.d ti x.2.1,.undef,.d ti x.2.2.1]++bB 5 ([.d .bool x.2.2.2.1,.undef,.undef,.d ti x.2.2.2.2.1,.d ti x.2.2.2.2.2.1,.cD (.new 108 0) 0 [] 0 0 x.2.2.2.2.2.2.1]++bB 258 [])),[],(cR 108 ([[.obj 0 false (.vec 117 c9 x.2.2.2.2.2.2.2)]]++cR 164 []))⟩)
abbrev ae.L0.X:=(ae.L0.X0)⊕(ae.L0.X1)
abbrev ae.L0.Y:=(ae.L0.Y0)⊕(ae.L0.Y1)
def ae.L0.out:ae.L0.X->Out (Exit×AS):=λx=> .br x.isLeft (.get x.getLeft? λa=> .ok (ae.L0.dm a)) (.get x.getRight? λb=> .ok (ae.L0.gL b))
def ae.L0.add:ae.L0.D->ae.L0.Y->ae.L0.X:=λ(oz,fG,fV,uH,head,g,paid,least,seenL,calm,i,n108) y=>match y with | .inl y=> .inl y | .inr z=> .inr (z)
abbrev ae.L1.D:=(List dh)×Int×Int×pD×Bool×(List gD)×Int×Int×Nat×Bool×Int×Int×Bool×Int×(List dh)
def ae.L1.st:ae.L1.D->AS:=λ(Jf,fH,jB,zT,pY,uN,qf,mU,ju,pW,ru,sum,press,kv,ud)=>⟨([.d (.slice c9) Jf,.d ti fH,.undef,.d ti jB,.undef,.undef,.eO pQ zT,.undef,.undef,.d .bool pY,.d (.slice fi) uN,.undef,.d ti qf,.d ti mU,.cD (.new 108 0) 0 [] 0 0 ju,.d .bool pW,.d ti ru,.d ti sum,.d .bool press,.d ti kv]++bB 253 []),[],(cR 108 ([[.obj 0 false (.vec 117 c9 ud)]]++cR 164 []))⟩
abbrev ae.L1.Y0:=Unit
abbrev ae.L1.X0:=Unit
def ae.L1.dm:ae.L1.X0->Exit×AS:=λx=>(.ret,⟨(bB 8 ([.d .bool false]++bB 264 [])),[],(List.replicate 273 [])⟩)
abbrev ae.L1.Y1:=Nat×Int×Bool×(List dh)
abbrev ae.L1.X1:=((List dh)×Int×Int×pD×Bool×(List gD)×Int×Int×Bool×Int)×(Nat×Int×Bool×(List dh))
def ae.L1.gL:ae.L1.X1->Exit×AS:=λx=>(.exit 2,⟨([.d (.slice c9) x.1.1,.d ti x.1.2.1,.undef,.d ti x.1.2.2.1,.undef,.undef,.eO pQ x.1.2.2.2.1,.undef,.undef,.d .bool x.1.2.2.2.2.1,.d (.slice fi) x.1.2.2.2.2.2.1,.undef,.d ti x.1.2.2.2.2.2.2.1,.d ti x.1.2.2.2.2.2.2.2.1,.cD (.new 108 0) 0 [] 0 0 x.2.1,.d .bool x.1.2.2.2.2.2.2.2.2.1,.d ti x.1.2.2.2.2.2.2.2.2.2,.d ti x.2.2.1,.d .bool x.2.2.2.1]++bB 254 []),[],(cR 108 ([[.obj 0 false (.vec 117 c9 x.2.2.2.2)]]++cR 164 []))⟩)
abbrev ae.L1.X:=(ae.L1.X0)⊕(ae.L1.X1)
abbrev ae.L1.Y:=(ae.L1.Y0)⊕(ae.L1.Y1)
def ae.L1.out:ae.L1.X->Out (Exit×AS):=λx=> .br x.isLeft (.get x.getLeft? λa=> .ok (ae.L1.dm a)) (.get x.getRight? λb=> .ok (ae.L1.gL b))
def ae.L1.add:ae.L1.D->ae.L1.Y->ae.L1.X:=λ(Jf,fH,jB,zT,pY,uN,qf,mU,ju,pW,ru,sum,press,kv,ud) y=>match y with | .inl y=> .inl y | .inr z=> .inr (((Jf,fH,jB,zT,pY,uN,qf,mU,pW,ru),z))
abbrev ae.L2.D:=(List dh)×Int×Int×Bool×Int×Nat×Int×(List dh)
def ae.L2.st:ae.L2.D->AS:=λ(Dy,fI,l7,o6,oB,oH,r9,ue)=>⟨([.d (.slice c9) Dy,.d ti fI,.undef,.d ti l7]++bB 5 ([.d .bool o6,.undef,.undef,.undef,.d ti oB,.cD (.new 108 0) 0 [] 0 0 oH]++bB 6 ([.d ti r9]++bB 251 []))),[],(cR 108 ([[.obj 0 false (.vec 117 c9 ue)]]++cR 164 []))⟩
abbrev ae.L2.Y0:=Unit
abbrev ae.L2.X0:=Unit
def ae.L2.dm:ae.L2.X0->Exit×AS:=λx=>(.ret,⟨(bB 8 ([.d .bool false]++bB 264 [])),[],(List.replicate 273 [])⟩)
abbrev ae.L2.Y1:=Unit
abbrev ae.L2.X1:=Bool
def ae.L2.gL:ae.L2.X1->Exit×AS:=λx=>(.exit 4,⟨(bB 9 ([.d .bool x]++bB 263 [])),[],(List.replicate 273 [])⟩)
abbrev ae.L2.X:=(ae.L2.X0)⊕(ae.L2.X1)
abbrev ae.L2.Y:=(ae.L2.Y0)⊕(ae.L2.Y1)
def ae.L2.out:ae.L2.X->Out (Exit×AS):=λx=> .br x.isLeft (.get x.getLeft? λa=> .ok (ae.L2.dm a)) (.get x.getRight? λb=> .ok (ae.L2.gL b))
def ae.L2.add:ae.L2.D->ae.L2.Y->ae.L2.X:=λ(Dy,fI,l7,o6,oB,oH,r9,ue) y=>match y with | .inl y=> .inl y | .inr z=> .inr (o6)
abbrev ae.oP.X:=(List dh)×Int×Int×pD×Bool×(List gD)×Int×Int×Nat×Bool×Int×Int×(List dh)
def ae.oP.st:ae.oP.X->AS:=λ(l,budget,height,b,head,g,paid,least,seenL,calm,i,sum,n108)=>⟨([.d (.slice c9) l,.d ti budget,.undef,.d ti height,.undef,.undef,.eO pQ b,.undef,.undef,.d .bool head,.d (.slice fi) g,.undef,.d ti paid,.d ti least,.cD (.new 108 0) 0 [] 0 0 seenL,.d .bool calm,.d ti i,.d ti sum]++bB 255 []),[],(cR 108 ([[.obj 0 false (.vec 117 c9 n108)]]++cR 164 []))⟩
def ae.oP.J:yd:=yd.of {bI:=[0,1,3,6,9,10,12,13,14,15,16,17],sites:=[108]} ae.oP.st
def ae.oP.fin:ae.oP.X->Option ae.oP.X:=λx=>(ae.oP.J).N6 .normal (ae.oP.st x)
theorem ae.oP.IS(x:ae.oP.X):ae.oP.fin x=some x:=yd.Nr (qa [.d (.slice c9),.d ti,.d ti,.d pQ,.d .bool,.d (.slice fi),.d ti,.d ti,.n,.d .bool,.d ti,.d ti,.d (.slice c9)] λ_=>by kernel_rfl) x
abbrev ae.D:=(List dh)×Int×pD×Int
abbrev ae.Y:=Bool
def F9(l:List dh)(h:Int):Prop:=(1<=h/\h<=1048576)/\l.length<=64/\∀x∈l,(0<=x.2.1.1/\x.2.1.1<=1099511627776)/\x.2.2.2.2.2.1<=9223372036854775807
def Ga(l:List dh)(b:pD)(h:Int)(G:List gD)(paid least:Int)(m:Nat)(calm:Bool)(seen:List dh):Prop:=(∀g∈G,F8 l b h g)/\G.Pairwise (λg g'=>EA b h g'=true->EA b h g=true)/\(calm=true->∀g∈G,EA b h g=false)/\((seen++qp G).map (·.1)).Nodup/\m=seen.length/\(seen++qp G).length<=128/\(0<=paid/\paid+sZ G<=1125899906842624)/\(0<=least/\least+lO G<=1125899906842624)
theorem Ga.next{l:List dh}{b:pD}{h:Int}{g:gD}{G:List gD}{paid least:Int}{m:Nat}{calm:Bool}{seen:List dh}(hI:Ga l b h (g::G) paid least m calm seen):Ga l b h G (paid+g.2.2.1) (least+g.2.1) (m+g.1.length) (calm || !EA b h g) (seen++g.1)/\paid+g.2.2.1<=1125899906842624/\least+g.2.1<=1125899906842624:=by
 obtain⟨h1,h2,h3,h4,h5,h6,h7,h8⟩:=hI
 have g1:=h1 g aG
 have hw:∀g∈G,0<=g.2.1/\0<=g.2.2.1:=λg' hg'=>by
  obtain⟨_,k1,k2,_⟩:=h1 g' (aF _ hg')
  have:=(py g'.1).1
  omega
 have w1:=u5 λg hg=>(hw g hg).1
 have w2:=Dh λg hg=>(hw g hg).2
 have w3:=(py g.1).1
 obtain⟨_,k1,k2,_⟩:=g1
 rw[qq,<-bg]at h4 h6
 rw[qs]at h7
 rw[lK]at h8
 refine⟨⟨λg' hg'=>h1 g' (aF _ hg'),(gR.1 h2).2,λe g' hg'=> ?_,h4,by rw[aq,h5],h6,⟨by omega,by omega⟩,⟨by omega,by omega⟩⟩,by omega,by omega⟩
 rw[fb,bp]at e
 rcases e with e | e
 ·exact h3 e g' (aF _ hg')
 ·cases hp:EA b h g' with
  |false=>rfl
  |true=>
   rw[(gR.1 h2).1 g' hg' hp]at e
   cases e
def ae.L1.aY:ae.L1.D->Prop:=λ(l,_,h,_,_,G,_,_,m,_,i,sum,_,kv,seen)=>F9 l h/\∃j k:Nat,j < G.length/\i=j/\kv=k/\k<=(nth fi G j).1.length/\(nth fi G j).1.length<=8/\(∀x∈(nth fi G j).1,x∈l/\iY h x=true)/\m=seen.length/\((seen++(nth fi G j).1.drop k).map (·.1)).Nodup/\(seen++(nth fi G j).1.drop k).length<=128/\0<=sum/\sum<=1099511627776*(k:Int)
def ae.L1.F:ae.L1.D->ae.L1.Y:=λ(_,_,h,b,_,G,_,_,m,_,i,sum,press,kv,seen)=> .inr (m+((nth fi G i.toNat).1.drop kv.toNat).length,sum+yp ((nth fi G i.toNat).1.drop kv.toNat),press || ((nth fi G i.toNat).1.drop kv.toNat).any (gY b h),seen++(nth fi G i.toNat).1.drop kv.toNat)
def ae.L0.aY:ae.L0.D->Prop:=λ(l,_,h,b,_,G,paid,least,m,calm,i,seen)=>F9 l h/\G.length<=1000/\∃k:Nat,k<=G.length/\i=k/\Ga l b h (G.drop k) paid least m calm seen
def ae.L0.F:ae.L0.D->ae.L0.Y:=λ(l,bu,h,_,hd,G,paid,least,m,_,i,seen)=> .inr (l,bu,h,hd,paid+sZ (G.drop i.toNat),least+lO (G.drop i.toNat),m+(qp (G.drop i.toNat)).length,seen++qp (G.drop i.toNat))
def ae.L2.aY:ae.L2.D->Prop:=λ(l,bu,h,_,least,m,i,seen)=>F9 l h/\m=seen.length/\seen.length<=128/\(0<=bu/\bu<=1125899906842624)/\(0<=least/\least<=1125899906842624)/\(∀x∈l,iY h x=true->x.1 ∉ seen.map (·.1)->bu - least < 194)/\∃k:Nat,k<=l.length/\i=k
def ae.L2.F:ae.L2.D->ae.L2.Y:=λ_=> .inr ()
def ae.aY:ae.D->Prop:=λ(l,_,_,_)=>∀x∈l,PM x
def ae.F:ae.D->ae.Y:=λ_=>true
def ae.L0.E:=eE.js ae.L0.st ae.L0.aY ae.L0.add ae.L0.F ae.L0.out
def ae.L0.call:ae.L0.D->Option ae.L0.X:=kJ ae.L0.E ae.L0.st
def ae.L1.E:=eE.js ae.L1.st ae.L1.aY ae.L1.add ae.L1.F ae.L1.out
def ae.L1.call:ae.L1.D->Option ae.L1.X:=kJ ae.L1.E ae.L1.st
def ae.L2.E:=eE.js ae.L2.st ae.L2.aY ae.L2.add ae.L2.F ae.L2.out
def ae.L2.call:ae.L2.D->Option ae.L2.X:=kJ ae.L2.E ae.L2.st
def ae:Fs Tryz.prog ae.aY bU ae.F:=gh 11 Tryz.f11 (λ(l,budget,b,height)=>([.d (.slice c9) l,.d ti budget,.d pQ b,.d ti height],[])) (λx=>⟨.d .bool x,[],[]⟩) [some (.slice c9),some ti,some pQ,some ti] [eM.sg,bH.sg,aB.sg,alone.sg,bm.sg,aU.sg,bP.sg,fc.sg] {loops:=rH [(12,{bI:=[0,1,3,6,9,10,12,13,14,15,16],sites:=[108],owns:=[⟨14,[],108,92⟩]}),(17,{bI:=[0,1,3,6,9,10,12,13,14,15,16,17,18,19],sites:=[108],owns:=[⟨14,[],108,92⟩]}),(35,{bI:=[0,1,3,9,13,14,21],sites:=[108]})],outs:=rG [(12,{bI:=[0,1,3,9,12,13,14],sites:=[108]},{bI:=[8]}),(17,{bI:=[0,1,3,6,9,10,12,13,14,15,16,17,18],sites:=[108]},{bI:=[8]}),(35,{bI:=[9]},{bI:=[8]})],jP:=sh [(12,ae.L0.E),(17,ae.L1.E),(35,ae.L2.E)],LQ:=sh [(28,ae.oP.J)]}
def ae.L0.R:= @iA Tryz.prog (mR ae.G) ae.an 0 Tryz.f11 0 _ ae.L0.st
abbrev ae.L0.Ok:=pE Tryz.prog (mR ae.G) ae.an 0 Tryz.f11 0 ae.L0.st ae.L0.aY ae.L0.add ae.L0.F ae.L0.out
def ae.L1.R:= @iA Tryz.prog (mR ae.G) ae.an 0 Tryz.f11 1 _ ae.L1.st
abbrev ae.L1.Ok:=pE Tryz.prog (mR ae.G) ae.an 0 Tryz.f11 1 ae.L1.st ae.L1.aY ae.L1.add ae.L1.F ae.L1.out
def ae.L2.R:= @iA Tryz.prog (mR ae.G) ae.an 0 Tryz.f11 2 _ ae.L2.st
abbrev ae.L2.Ok:=pE Tryz.prog (mR ae.G) ae.an 0 Tryz.f11 2 ae.L2.st ae.L2.aY ae.L2.add ae.L2.F ae.L2.out
theorem ae.L0.run:nI ae.L0.call ae.L0.aY ae.L0.add ae.L0.F:=qz (qa [.d (.slice c9),.d ti,.d ti,.d pQ,.d .bool,.d (.slice fi),.d ti,.d ti,.n,.d .bool,.d ti,.d (.slice c9)] λ_=>by kernel_rfl)
theorem ae.L0.c8:qk @ae.L0.R ae.L0.st ae.L0.aY ae.L0.add ae.L0.F ae.L0.out ae.L0.Ok:=qI
theorem ae.L0.step{R:Type}(oz:(List dh))(fG:Int)(fV:Int)(uH:pD)(head:Bool)(g:(List gD))(paid:Int)(least:Int)(seenL:Nat)(calm:Bool)(i:Int)(n108:(List dh))(kn:AS->Option R)(kx:Exit->AS->Option R):ae.L0.R (oz,fG,fV,uH,head,g,paid,least,seenL,calm,i,n108) kn kx=
  aK ((iI i (((List.length g):Nat):Int))) (
   aA (ae.L1.call (oz,fG,fV,uH,head,g,paid,least,seenL,calm,i,(0:Int),false,(0:Int),n108)) λBw=>
   aK (Bw.isLeft) (
    aA (Bw.getLeft?) λa31=>
    kx (ae.L0.dm ()).1 (ae.L0.dm ()).2) (
    aA (Bw.getRight?) λb32=>
    aK (b32.2.2.2.1) (
     aK (b32.1.2.2.2.2.2.2.2.2.1) (
      kx (ae.L0.dm ()).1 (ae.L0.dm ()).2) (
      aK (fa b32.1.2.2.2.2.2.2.2.2.2 (((List.length b32.1.2.2.2.2.2.1):Nat):Int)) (
      aK ((uD (((List.length (nth fi b32.1.2.2.2.2.2.1 (Int.toNat b32.1.2.2.2.2.2.2.2.2.2)).1):Nat):Int) (1:Int))) (
       kx (ae.L0.dm ()).1 (ae.L0.dm ()).2) (
       aK ((!b32.2.2.2.1)) (
        aK (fa b32.1.2.2.2.2.2.2.2.2.2 (((List.length b32.1.2.2.2.2.2.1):Nat):Int)) (
        aK (fa b32.1.2.2.2.2.2.2.2.2.2 (((List.length b32.1.2.2.2.2.2.1):Nat):Int)) (
        aK ((uD (nth fi b32.1.2.2.2.2.2.1 (Int.toNat b32.1.2.2.2.2.2.2.2.2.2)).2.2.1 (nth fi b32.1.2.2.2.2.2.1 (Int.toNat b32.1.2.2.2.2.2.2.2.2.2)).2.1)) (
         kx (ae.L0.dm ()).1 (ae.L0.dm ()).2) (
         aK (fa b32.1.2.2.2.2.2.2.2.2.2 (((List.length b32.1.2.2.2.2.2.1):Nat):Int)) (
         aK ((iI (((List.length (nth fi b32.1.2.2.2.2.2.1 (Int.toNat b32.1.2.2.2.2.2.2.2.2.2)).1):Nat):Int) (1:Int))) (
          kx (ae.L0.dm ()).1 (ae.L0.dm ()).2) (
          aK (fa b32.1.2.2.2.2.2.2.2.2.2 (((List.length b32.1.2.2.2.2.2.1):Nat):Int)) (
          aK ((ot (((List.length (nth fi b32.1.2.2.2.2.2.1 (Int.toNat b32.1.2.2.2.2.2.2.2.2.2)).1):Nat):Int) (8:Int))) (
           kx (ae.L0.dm ()).1 (ae.L0.dm ()).2) (
           aA (
            aK (b32.1.2.2.2.2.2.2.2.2.1) (
             ae.oP.fin (b32.1.1,b32.1.2.1,b32.1.2.2.1,b32.1.2.2.2.1,b32.1.2.2.2.2.1,b32.1.2.2.2.2.2.1,b32.1.2.2.2.2.2.2.1,b32.1.2.2.2.2.2.2.2.1,b32.2.1,true,b32.1.2.2.2.2.2.2.2.2.2,b32.2.2.1,b32.2.2.2.2)) (
             ae.oP.fin (b32.1.1,b32.1.2.1,b32.1.2.2.1,b32.1.2.2.2.1,b32.1.2.2.2.2.1,b32.1.2.2.2.2.2.1,b32.1.2.2.2.2.2.2.1,b32.1.2.2.2.2.2.2.2.1,b32.2.1,(!b32.2.2.2.1),b32.1.2.2.2.2.2.2.2.2.2,b32.2.2.1,b32.2.2.2.2))) λpz=>
           aK (fa pz.2.2.2.2.2.2.2.2.2.2.1 (((List.length pz.2.2.2.2.2.1):Nat):Int)) (
           aK (fa pz.2.2.2.2.2.2.2.2.2.2.1 (((List.length pz.2.2.2.2.2.1):Nat):Int)) (
           aA (bm.call (nth fi pz.2.2.2.2.2.1 (Int.toNat pz.2.2.2.2.2.2.2.2.2.2.1)).1) λTL=>
           aK ((uD (nth fi pz.2.2.2.2.2.1 (Int.toNat pz.2.2.2.2.2.2.2.2.2.2.1)).2.1 TL)) (
            kx (ae.L0.dm ()).1 (ae.L0.dm ()).2) (
            aK (fa pz.2.2.2.2.2.2.2.2.2.2.1 (((List.length pz.2.2.2.2.2.1):Nat):Int)) (
            aK (fa pz.2.2.2.2.2.2.2.2.2.2.1 (((List.length pz.2.2.2.2.2.1):Nat):Int)) (
            aK ((iI (nth fi pz.2.2.2.2.2.1 (Int.toNat pz.2.2.2.2.2.2.2.2.2.2.1)).2.2.1 (nth fi pz.2.2.2.2.2.1 (Int.toNat pz.2.2.2.2.2.2.2.2.2.2.1)).2.1)) (
             kx (ae.L0.dm ()).1 (ae.L0.dm ()).2) (
             aK (fa pz.2.2.2.2.2.2.2.2.2.2.1 (((List.length pz.2.2.2.2.2.1):Nat):Int)) (
             aK ((ot (nth fi pz.2.2.2.2.2.1 (Int.toNat pz.2.2.2.2.2.2.2.2.2.2.1)).2.2.1 pz.2.2.2.2.2.2.2.2.2.2.2.1)) (
              kx (ae.L0.dm ()).1 (ae.L0.dm ()).2) (
              aK (fa pz.2.2.2.2.2.2.2.2.2.2.1 (((List.length pz.2.2.2.2.2.1):Nat):Int)) (
              aK (fa pz.2.2.2.2.2.2.2.2.2.2.1 (((List.length pz.2.2.2.2.2.1):Nat):Int)) (
              kn (ae.L0.st (pz.1,pz.2.1,pz.2.2.1,pz.2.2.2.1,pz.2.2.2.2.1,pz.2.2.2.2.2.1,(bN .i64 pz.2.2.2.2.2.2.1 (nth fi pz.2.2.2.2.2.1 (Int.toNat pz.2.2.2.2.2.2.2.2.2.2.1)).2.2.1),(bN .i64 pz.2.2.2.2.2.2.2.1 (nth fi pz.2.2.2.2.2.1 (Int.toNat pz.2.2.2.2.2.2.2.2.2.2.1)).2.1),pz.2.2.2.2.2.2.2.2.1,pz.2.2.2.2.2.2.2.2.2.1,(bN .i64 pz.2.2.2.2.2.2.2.2.2.2.1 (1:Int)),pz.2.2.2.2.2.2.2.2.2.2.2.2))) none) none)) none)) none) none)) none) none)) none)) none)) none) none) (
        aK (fa b32.1.2.2.2.2.2.2.2.2.2 (((List.length b32.1.2.2.2.2.2.1):Nat):Int)) (
        aK ((iI (((List.length (nth fi b32.1.2.2.2.2.2.1 (Int.toNat b32.1.2.2.2.2.2.2.2.2.2)).1):Nat):Int) (1:Int))) (
         kx (ae.L0.dm ()).1 (ae.L0.dm ()).2) (
         aK (fa b32.1.2.2.2.2.2.2.2.2.2 (((List.length b32.1.2.2.2.2.2.1):Nat):Int)) (
         aK ((ot (((List.length (nth fi b32.1.2.2.2.2.2.1 (Int.toNat b32.1.2.2.2.2.2.2.2.2.2)).1):Nat):Int) (8:Int))) (
          kx (ae.L0.dm ()).1 (ae.L0.dm ()).2) (
          aA (
           aK (b32.1.2.2.2.2.2.2.2.2.1) (
            ae.oP.fin (b32.1.1,b32.1.2.1,b32.1.2.2.1,b32.1.2.2.2.1,b32.1.2.2.2.2.1,b32.1.2.2.2.2.2.1,b32.1.2.2.2.2.2.2.1,b32.1.2.2.2.2.2.2.2.1,b32.2.1,true,b32.1.2.2.2.2.2.2.2.2.2,b32.2.2.1,b32.2.2.2.2)) (
            ae.oP.fin (b32.1.1,b32.1.2.1,b32.1.2.2.1,b32.1.2.2.2.1,b32.1.2.2.2.2.1,b32.1.2.2.2.2.2.1,b32.1.2.2.2.2.2.2.1,b32.1.2.2.2.2.2.2.2.1,b32.2.1,(!b32.2.2.2.1),b32.1.2.2.2.2.2.2.2.2.2,b32.2.2.1,b32.2.2.2.2))) λqC=>
          aK (fa qC.2.2.2.2.2.2.2.2.2.2.1 (((List.length qC.2.2.2.2.2.1):Nat):Int)) (
          aK (fa qC.2.2.2.2.2.2.2.2.2.2.1 (((List.length qC.2.2.2.2.2.1):Nat):Int)) (
          aA (bm.call (nth fi qC.2.2.2.2.2.1 (Int.toNat qC.2.2.2.2.2.2.2.2.2.2.1)).1) λTM=>
          aK ((uD (nth fi qC.2.2.2.2.2.1 (Int.toNat qC.2.2.2.2.2.2.2.2.2.2.1)).2.1 TM)) (
           kx (ae.L0.dm ()).1 (ae.L0.dm ()).2) (
           aK (fa qC.2.2.2.2.2.2.2.2.2.2.1 (((List.length qC.2.2.2.2.2.1):Nat):Int)) (
           aK (fa qC.2.2.2.2.2.2.2.2.2.2.1 (((List.length qC.2.2.2.2.2.1):Nat):Int)) (
           aK ((iI (nth fi qC.2.2.2.2.2.1 (Int.toNat qC.2.2.2.2.2.2.2.2.2.2.1)).2.2.1 (nth fi qC.2.2.2.2.2.1 (Int.toNat qC.2.2.2.2.2.2.2.2.2.2.1)).2.1)) (
            kx (ae.L0.dm ()).1 (ae.L0.dm ()).2) (
            aK (fa qC.2.2.2.2.2.2.2.2.2.2.1 (((List.length qC.2.2.2.2.2.1):Nat):Int)) (
            aK ((ot (nth fi qC.2.2.2.2.2.1 (Int.toNat qC.2.2.2.2.2.2.2.2.2.2.1)).2.2.1 qC.2.2.2.2.2.2.2.2.2.2.2.1)) (
             kx (ae.L0.dm ()).1 (ae.L0.dm ()).2) (
             aK (fa qC.2.2.2.2.2.2.2.2.2.2.1 (((List.length qC.2.2.2.2.2.1):Nat):Int)) (
             aK (fa qC.2.2.2.2.2.2.2.2.2.2.1 (((List.length qC.2.2.2.2.2.1):Nat):Int)) (
             kn (ae.L0.st (qC.1,qC.2.1,qC.2.2.1,qC.2.2.2.1,qC.2.2.2.2.1,qC.2.2.2.2.2.1,(bN .i64 qC.2.2.2.2.2.2.1 (nth fi qC.2.2.2.2.2.1 (Int.toNat qC.2.2.2.2.2.2.2.2.2.2.1)).2.2.1),(bN .i64 qC.2.2.2.2.2.2.2.1 (nth fi qC.2.2.2.2.2.1 (Int.toNat qC.2.2.2.2.2.2.2.2.2.2.1)).2.1),qC.2.2.2.2.2.2.2.2.1,qC.2.2.2.2.2.2.2.2.2.1,(bN .i64 qC.2.2.2.2.2.2.2.2.2.2.1 (1:Int)),qC.2.2.2.2.2.2.2.2.2.2.2.2))) none) none)) none)) none) none)) none) none)) none)) none))) none)) (
     aK ((!b32.2.2.2.1)) (
      aK (fa b32.1.2.2.2.2.2.2.2.2.2 (((List.length b32.1.2.2.2.2.2.1):Nat):Int)) (
      aK (fa b32.1.2.2.2.2.2.2.2.2.2 (((List.length b32.1.2.2.2.2.2.1):Nat):Int)) (
      aK ((uD (nth fi b32.1.2.2.2.2.2.1 (Int.toNat b32.1.2.2.2.2.2.2.2.2.2)).2.2.1 (nth fi b32.1.2.2.2.2.2.1 (Int.toNat b32.1.2.2.2.2.2.2.2.2.2)).2.1)) (
       kx (ae.L0.dm ()).1 (ae.L0.dm ()).2) (
       aK (fa b32.1.2.2.2.2.2.2.2.2.2 (((List.length b32.1.2.2.2.2.2.1):Nat):Int)) (
       aK ((iI (((List.length (nth fi b32.1.2.2.2.2.2.1 (Int.toNat b32.1.2.2.2.2.2.2.2.2.2)).1):Nat):Int) (1:Int))) (
        kx (ae.L0.dm ()).1 (ae.L0.dm ()).2) (
        aK (fa b32.1.2.2.2.2.2.2.2.2.2 (((List.length b32.1.2.2.2.2.2.1):Nat):Int)) (
        aK ((ot (((List.length (nth fi b32.1.2.2.2.2.2.1 (Int.toNat b32.1.2.2.2.2.2.2.2.2.2)).1):Nat):Int) (8:Int))) (
         kx (ae.L0.dm ()).1 (ae.L0.dm ()).2) (
         aA (
          aK (b32.1.2.2.2.2.2.2.2.2.1) (
           ae.oP.fin (b32.1.1,b32.1.2.1,b32.1.2.2.1,b32.1.2.2.2.1,b32.1.2.2.2.2.1,b32.1.2.2.2.2.2.1,b32.1.2.2.2.2.2.2.1,b32.1.2.2.2.2.2.2.2.1,b32.2.1,true,b32.1.2.2.2.2.2.2.2.2.2,b32.2.2.1,b32.2.2.2.2)) (
           ae.oP.fin (b32.1.1,b32.1.2.1,b32.1.2.2.1,b32.1.2.2.2.1,b32.1.2.2.2.2.1,b32.1.2.2.2.2.2.1,b32.1.2.2.2.2.2.2.1,b32.1.2.2.2.2.2.2.2.1,b32.2.1,(!b32.2.2.2.1),b32.1.2.2.2.2.2.2.2.2.2,b32.2.2.1,b32.2.2.2.2))) λqj=>
         aK (fa qj.2.2.2.2.2.2.2.2.2.2.1 (((List.length qj.2.2.2.2.2.1):Nat):Int)) (
         aK (fa qj.2.2.2.2.2.2.2.2.2.2.1 (((List.length qj.2.2.2.2.2.1):Nat):Int)) (
         aA (bm.call (nth fi qj.2.2.2.2.2.1 (Int.toNat qj.2.2.2.2.2.2.2.2.2.2.1)).1) λTN=>
         aK ((uD (nth fi qj.2.2.2.2.2.1 (Int.toNat qj.2.2.2.2.2.2.2.2.2.2.1)).2.1 TN)) (
          kx (ae.L0.dm ()).1 (ae.L0.dm ()).2) (
          aK (fa qj.2.2.2.2.2.2.2.2.2.2.1 (((List.length qj.2.2.2.2.2.1):Nat):Int)) (
          aK (fa qj.2.2.2.2.2.2.2.2.2.2.1 (((List.length qj.2.2.2.2.2.1):Nat):Int)) (
          aK ((iI (nth fi qj.2.2.2.2.2.1 (Int.toNat qj.2.2.2.2.2.2.2.2.2.2.1)).2.2.1 (nth fi qj.2.2.2.2.2.1 (Int.toNat qj.2.2.2.2.2.2.2.2.2.2.1)).2.1)) (
           kx (ae.L0.dm ()).1 (ae.L0.dm ()).2) (
           aK (fa qj.2.2.2.2.2.2.2.2.2.2.1 (((List.length qj.2.2.2.2.2.1):Nat):Int)) (
           aK ((ot (nth fi qj.2.2.2.2.2.1 (Int.toNat qj.2.2.2.2.2.2.2.2.2.2.1)).2.2.1 qj.2.2.2.2.2.2.2.2.2.2.2.1)) (
            kx (ae.L0.dm ()).1 (ae.L0.dm ()).2) (
            aK (fa qj.2.2.2.2.2.2.2.2.2.2.1 (((List.length qj.2.2.2.2.2.1):Nat):Int)) (
            aK (fa qj.2.2.2.2.2.2.2.2.2.2.1 (((List.length qj.2.2.2.2.2.1):Nat):Int)) (
            kn (ae.L0.st (qj.1,qj.2.1,qj.2.2.1,qj.2.2.2.1,qj.2.2.2.2.1,qj.2.2.2.2.2.1,(bN .i64 qj.2.2.2.2.2.2.1 (nth fi qj.2.2.2.2.2.1 (Int.toNat qj.2.2.2.2.2.2.2.2.2.2.1)).2.2.1),(bN .i64 qj.2.2.2.2.2.2.2.1 (nth fi qj.2.2.2.2.2.1 (Int.toNat qj.2.2.2.2.2.2.2.2.2.2.1)).2.1),qj.2.2.2.2.2.2.2.2.1,qj.2.2.2.2.2.2.2.2.2.1,(bN .i64 qj.2.2.2.2.2.2.2.2.2.2.1 (1:Int)),qj.2.2.2.2.2.2.2.2.2.2.2.2))) none) none)) none)) none) none)) none) none)) none)) none)) none) none) (
      aK (fa b32.1.2.2.2.2.2.2.2.2.2 (((List.length b32.1.2.2.2.2.2.1):Nat):Int)) (
      aK ((iI (((List.length (nth fi b32.1.2.2.2.2.2.1 (Int.toNat b32.1.2.2.2.2.2.2.2.2.2)).1):Nat):Int) (1:Int))) (
       kx (ae.L0.dm ()).1 (ae.L0.dm ()).2) (
       aK (fa b32.1.2.2.2.2.2.2.2.2.2 (((List.length b32.1.2.2.2.2.2.1):Nat):Int)) (
       aK ((ot (((List.length (nth fi b32.1.2.2.2.2.2.1 (Int.toNat b32.1.2.2.2.2.2.2.2.2.2)).1):Nat):Int) (8:Int))) (
        kx (ae.L0.dm ()).1 (ae.L0.dm ()).2) (
        aA (
         aK (b32.1.2.2.2.2.2.2.2.2.1) (
          ae.oP.fin (b32.1.1,b32.1.2.1,b32.1.2.2.1,b32.1.2.2.2.1,b32.1.2.2.2.2.1,b32.1.2.2.2.2.2.1,b32.1.2.2.2.2.2.2.1,b32.1.2.2.2.2.2.2.2.1,b32.2.1,true,b32.1.2.2.2.2.2.2.2.2.2,b32.2.2.1,b32.2.2.2.2)) (
          ae.oP.fin (b32.1.1,b32.1.2.1,b32.1.2.2.1,b32.1.2.2.2.1,b32.1.2.2.2.2.1,b32.1.2.2.2.2.2.1,b32.1.2.2.2.2.2.2.1,b32.1.2.2.2.2.2.2.2.1,b32.2.1,(!b32.2.2.2.1),b32.1.2.2.2.2.2.2.2.2.2,b32.2.2.1,b32.2.2.2.2))) λqD=>
        aK (fa qD.2.2.2.2.2.2.2.2.2.2.1 (((List.length qD.2.2.2.2.2.1):Nat):Int)) (
        aK (fa qD.2.2.2.2.2.2.2.2.2.2.1 (((List.length qD.2.2.2.2.2.1):Nat):Int)) (
        aA (bm.call (nth fi qD.2.2.2.2.2.1 (Int.toNat qD.2.2.2.2.2.2.2.2.2.2.1)).1) λSB=>
        aK ((uD (nth fi qD.2.2.2.2.2.1 (Int.toNat qD.2.2.2.2.2.2.2.2.2.2.1)).2.1 SB)) (
         kx (ae.L0.dm ()).1 (ae.L0.dm ()).2) (
         aK (fa qD.2.2.2.2.2.2.2.2.2.2.1 (((List.length qD.2.2.2.2.2.1):Nat):Int)) (
         aK (fa qD.2.2.2.2.2.2.2.2.2.2.1 (((List.length qD.2.2.2.2.2.1):Nat):Int)) (
         aK ((iI (nth fi qD.2.2.2.2.2.1 (Int.toNat qD.2.2.2.2.2.2.2.2.2.2.1)).2.2.1 (nth fi qD.2.2.2.2.2.1 (Int.toNat qD.2.2.2.2.2.2.2.2.2.2.1)).2.1)) (
          kx (ae.L0.dm ()).1 (ae.L0.dm ()).2) (
          aK (fa qD.2.2.2.2.2.2.2.2.2.2.1 (((List.length qD.2.2.2.2.2.1):Nat):Int)) (
          aK ((ot (nth fi qD.2.2.2.2.2.1 (Int.toNat qD.2.2.2.2.2.2.2.2.2.2.1)).2.2.1 qD.2.2.2.2.2.2.2.2.2.2.2.1)) (
           kx (ae.L0.dm ()).1 (ae.L0.dm ()).2) (
           aK (fa qD.2.2.2.2.2.2.2.2.2.2.1 (((List.length qD.2.2.2.2.2.1):Nat):Int)) (
           aK (fa qD.2.2.2.2.2.2.2.2.2.2.1 (((List.length qD.2.2.2.2.2.1):Nat):Int)) (
           kn (ae.L0.st (qD.1,qD.2.1,qD.2.2.1,qD.2.2.2.1,qD.2.2.2.2.1,qD.2.2.2.2.2.1,(bN .i64 qD.2.2.2.2.2.2.1 (nth fi qD.2.2.2.2.2.1 (Int.toNat qD.2.2.2.2.2.2.2.2.2.2.1)).2.2.1),(bN .i64 qD.2.2.2.2.2.2.2.1 (nth fi qD.2.2.2.2.2.1 (Int.toNat qD.2.2.2.2.2.2.2.2.2.2.1)).2.1),qD.2.2.2.2.2.2.2.2.1,qD.2.2.2.2.2.2.2.2.2.1,(bN .i64 qD.2.2.2.2.2.2.2.2.2.2.1 (1:Int)),qD.2.2.2.2.2.2.2.2.2.2.2.2))) none) none)) none)) none) none)) none) none)) none)) none)))) (
   kx (ae.L0.gL (oz,fG,fV,head,paid,least,seenL,n108)).1 (ae.L0.gL (oz,fG,fV,head,paid,least,seenL,n108)).2):=by kernel_rfl
theorem ae.L1.run:nI ae.L1.call ae.L1.aY ae.L1.add ae.L1.F:=qz (qa [.d (.slice c9),.d ti,.d ti,.d pQ,.d .bool,.d (.slice fi),.d ti,.d ti,.n,.d .bool,.d ti,.d ti,.d .bool,.d ti,.d (.slice c9)] λ_=>by kernel_rfl)
theorem ae.L1.c8:qk @ae.L1.R ae.L1.st ae.L1.aY ae.L1.add ae.L1.F ae.L1.out ae.L1.Ok:=qI
theorem ae.L1.step{R:Type}(Jf:(List dh))(fH:Int)(jB:Int)(zT:pD)(pY:Bool)(uN:(List gD))(qf:Int)(mU:Int)(ju:Nat)(pW:Bool)(ru:Int)(sum:Int)(press:Bool)(kv:Int)(ud:(List dh))(kn:AS->Option R)(kx:Exit->AS->Option R):ae.L1.R (Jf,fH,jB,zT,pY,uN,qf,mU,ju,pW,ru,sum,press,kv,ud) kn kx=
  aK (fa ru (((List.length uN):Nat):Int)) (
  aK ((iI kv (((List.length (nth fi uN (Int.toNat ru)).1):Nat):Int))) (
   aK (fa ru (((List.length uN):Nat):Int)) (
   aK (fa kv (((List.length (nth fi uN (Int.toNat ru)).1):Nat):Int)) (
   aA (alone.call ((nth c9 (nth fi uN (Int.toNat ru)).1 (Int.toNat kv)),jB)) λTJ=>
   aK ((!TJ)) (
    kx (ae.L1.dm ()).1 (ae.L1.dm ()).2) (
    aK (fa ru (((List.length uN):Nat):Int)) (
    aK (inc (bN .i64 kv (1:Int)) (((List.length (nth fi uN (Int.toNat ru)).1):Nat):Int)) (
    aK (inc kv (((Int.toNat (bN .i64 kv (1:Int))):Nat):Int)) (
    aA (bm.call (cut (nth fi uN (Int.toNat ru)).1 (Int.toNat kv) ((Int.toNat (bN .i64 kv (1:Int))) - (Int.toNat kv)))) λSy=>
    aK ((iI (nth c9 (nth fi uN (Int.toNat ru)).1 (Int.toNat kv)).2.1.1 Sy)) (
     kx (ae.L1.dm ()).1 (ae.L1.dm ()).2) (
     aA (aU.call (ju,(nth c9 (nth fi uN (Int.toNat ru)).1 (Int.toNat kv)).1,ud)) λpz=>
     aK (pz.1) (
      kx (ae.L1.dm ()).1 (ae.L1.dm ()).2) (
      aA (bP.call (Jf,(nth c9 (nth fi uN (Int.toNat ru)).1 (Int.toNat kv)).1)) λTK=>
      aK ((!TK)) (
       kx (ae.L1.dm ()).1 (ae.L1.dm ()).2) (
       aK (decide (ju<=(List.length pz.2))) (
       aK (dT (ju+1) 104) (
       aK (press) (
        kn (ae.L1.st (Jf,fH,jB,zT,pY,uN,qf,mU,(ju+1),pW,ru,(bN .i64 sum (nth c9 (nth fi uN (Int.toNat ru)).1 (Int.toNat kv)).2.1.1),true,(bN .i64 kv (1:Int)),((List.take ju pz.2)++ [(nth c9 (nth fi uN (Int.toNat ru)).1 (Int.toNat kv))])))) (
        aK ((uD (nth c9 (nth fi uN (Int.toNat ru)).1 (Int.toNat kv)).2.2.2.2.2.1 (0:Int))) (
         aA (fc.call zT) λSz=>
         kn (ae.L1.st (Jf,fH,jB,zT,pY,uN,qf,mU,(ju+1),pW,ru,(bN .i64 sum (nth c9 (nth fi uN (Int.toNat ru)).1 (Int.toNat kv)).2.1.1),(Ct (dn .i64 (nth c9 (nth fi uN (Int.toNat ru)).1 (Int.toNat kv)).2.2.2.2.2.1 jB) (gz .i64 (2:Int) Sz)),(bN .i64 kv (1:Int)),((List.take ju pz.2)++ [(nth c9 (nth fi uN (Int.toNat ru)).1 (Int.toNat kv))])))) (
         kn (ae.L1.st (Jf,fH,jB,zT,pY,uN,qf,mU,(ju+1),pW,ru,(bN .i64 sum (nth c9 (nth fi uN (Int.toNat ru)).1 (Int.toNat kv)).2.1.1),false,(bN .i64 kv (1:Int)),((List.take ju pz.2)++ [(nth c9 (nth fi uN (Int.toNat ru)).1 (Int.toNat kv))])))))) none) none)))) none) none) none)) none) none) (
   kx (ae.L1.gL ((Jf,fH,jB,zT,pY,uN,qf,mU,pW,ru),(ju,sum,press,ud))).1 (ae.L1.gL ((Jf,fH,jB,zT,pY,uN,qf,mU,pW,ru),(ju,sum,press,ud))).2)) none:=by kernel_rfl
theorem ae.L2.run:nI ae.L2.call ae.L2.aY ae.L2.add ae.L2.F:=qz (qa [.d (.slice c9),.d ti,.d ti,.d .bool,.d ti,.n,.d ti,.d (.slice c9)] λ_=>by kernel_rfl)
theorem ae.L2.c8:qk @ae.L2.R ae.L2.st ae.L2.aY ae.L2.add ae.L2.F ae.L2.out ae.L2.Ok:=qI
theorem ae.L2.step{R:Type}(Dy:(List dh))(fI:Int)(l7:Int)(o6:Bool)(oB:Int)(oH:Nat)(r9:Int)(ue:(List dh))(kn:AS->Option R)(kx:Exit->AS->Option R):ae.L2.R (Dy,fI,l7,o6,oB,oH,r9,ue) kn kx=
  aK ((iI r9 (((List.length Dy):Nat):Int))) (
   aK (fa r9 (((List.length Dy):Nat):Int)) (
   aA (alone.call ((nth c9 Dy (Int.toNat r9)),l7)) λIp=>
   aK (Ip) (
    aK (fa r9 (((List.length Dy):Nat):Int)) (
    aK (inc (bN .i64 r9 (1:Int)) (((List.length Dy):Nat):Int)) (
    aK (inc r9 (((Int.toNat (bN .i64 r9 (1:Int))):Nat):Int)) (
    aA (bm.call (cut Dy (Int.toNat r9) ((Int.toNat (bN .i64 r9 (1:Int))) - (Int.toNat r9)))) λRW=>
    aK ((qP (nth c9 Dy (Int.toNat r9)).2.1.1 RW)) (
     aK (fa r9 (((List.length Dy):Nat):Int)) (
     aA (aU.call (oH,(nth c9 Dy (Int.toNat r9)).1,ue)) λF3=>
     aK ((!F3.1)) (
      aK ((qP (dn .i64 fI oB) (194:Int))) (
       kx (ae.L2.dm ()).1 (ae.L2.dm ()).2) (
       kn (ae.L2.st (Dy,fI,l7,o6,oB,oH,(bN .i64 r9 (1:Int)),F3.2)))) (
      kn (ae.L2.st (Dy,fI,l7,o6,oB,oH,(bN .i64 r9 (1:Int)),F3.2)))) none) (
     kn (ae.L2.st (Dy,fI,l7,o6,oB,oH,(bN .i64 r9 (1:Int)),ue)))) none) none) none) (
    kn (ae.L2.st (Dy,fI,l7,o6,oB,oH,(bN .i64 r9 (1:Int)),ue)))) none) (
   kx (ae.L2.gL o6).1 (ae.L2.gL o6).2):=by kernel_rfl
theorem ae.eq{R:Type}(l budget b height)(k:K1 R):ae.A (l,budget,b,height) k=
  aA (eM.call ()) λx4=>
  aA (bH.call l) λx8=>
  aK ((!x8)) (
   k (ae.out x4)) (
   aA (aB.call (l,budget,b,height)) λF3=>
   aK ((uD F3.2 0)) (
    aK (x4) (
     k (ae.out (BX (F3.1.length:Int) 0))) (
     k (ae.out false))) (
    aA (ae.L0.call (l,budget,height,b,x4,F3.1,0,0,0,false,0,([]:List dh))) λNI=>
    aK (NI.isLeft) (
     aA (NI.getLeft?) λa105=>
     k (ae.out false)) (
     aA (NI.getRight?) λb106=>
     aK ((ot b106.2.2.2.2.1 b106.2.1)) (
      k (ae.out false)) (
      aA (ae.L2.call (b106.1,b106.2.1,b106.2.2.1,b106.2.2.2.1,b106.2.2.2.2.2.1,b106.2.2.2.2.2.2.1,0,b106.2.2.2.2.2.2.2)) λNJ=>
      aK (NJ.isLeft) (
       aA (NJ.getLeft?) λa123=>
       k (ae.out false)) (
       aA (NJ.getRight?) λb124=>
       k (ae.out b124)))))):=by kernel_rfl
theorem HP(b:pD)(h:Int)(x:dh):gY b h x=(decide (x.2.2.2.2.2.1≠0) && decide (x.2.2.2.2.2.1 - h<=2*jk b)):=by
 unfold gY
 rw[Bool.decide_and]
theorem ae.L1.ok:ae.L1.Ok:=by
 refine ae.L1.c8 (λ(_,_,_,_,_,G,_,_,_,_,i,_,_,kv,_)=>(nth fi G i.toNat).1.length - kv.toNat) ?_
 rintro⟨l,bu,h,b,hd,G,paid,least,m,calm,i,sum,press,kv,seen⟩ ⟨hB,j,k,hj,rfl,rfl,hk,h8,hx,rfl,hn,hl,Rn,xA⟩
 obtain⟨hh,MZ,Fj⟩:=hB
 have hj:j < G.length:=hj
 generalize hg:nth fi G j=g at hk h8 hx hn hl
 have hk:k<=g.1.length:=hk
 have Rn:0<=sum:=Rn
 have xA:sum<=1099511627776*(k:Int):=xA
 by_cases h':k < g.1.length
 ·left
  have n1:nth c9 g.1 k=g.1[k]:=dM (t:=c9) h'
  have Lw:g.1.drop k=g.1[k]::g.1.drop (k+1):=aC h'
  have ec:cut g.1 k (k+1 - k)=[g.1[k]]:=by
   unfold cut
   rw[Lw,show k+1 - k=1 by omega]
   rfl
  obtain⟨hm,Q0⟩:=hx _ (b5 h')
  obtain⟨k1,k2⟩:=GA Q0
  have k3:=Fj _ hm
  generalize g.1[k]=x at n1 Lw ec hm Q0 k1 k2 k3
  rw[Lw]at hn hl
  have hn':((seen++ [x]++g.1.drop (k+1)).map (·.1)).Nodup:=by rw[bg];exact hn
  have hl':(seen++ [x]++g.1.drop (k+1)).length<=128:=by rw[bg];exact hl
  have Dn:seen.length < 128:=by rw[aq,aq]at hl';have: [x].length=1:=rfl;omega
  have s1:xw seen x.1=false:=by
   cases e:xw seen x.1 with
   |false=>rfl
   |true=>
    rw[kW,List.nodup_append]at hn
    exact absurd rfl (hn.2.2 _ (yF.1 e) x.1 (by rw[bE];exact aG))
  have s2:xw l x.1=true:=yF.2 (gk hm)
  have s0:=Jc hh.1 Q0
  have ca:=alone.run (d:=(x,h)) trivial
  have cw:=bm.run (d:=[x]) (by show 1<=1000000000;decide)
  have cr:=aU.run (d:=(seen.length,x.1,seen)) ⟨by show seen.length<=_;omega,rfl⟩
  have ch:=bP.run (d:=(l,x.1)) (by show l.length<=_;omega)
  have cs:=fc.run (d:=b) trivial
  have Ij:=xZ b
  refine⟨(l,bu,h,b,hd,G,paid,least,seen.length+1,calm,(j:Int),sum+x.2.1.1,press || gY b h x,((k+1:Nat):Int),seen++ [x]),⟨⟨hh,MZ,Fj⟩,j,k+1,hj,rfl,rfl,by rw[hg];exact h',by rw[hg];exact h8,by rw[hg];exact hx,by rw[aq];rfl,by rw[hg];exact hn',by rw[hg];exact hl',by omega,by omega⟩,by simp only[aa,hg];omega,?_,λkn kx=> ?_⟩
  ·simp only[ae.L1.add,ae.L1.F,aa,hg,Lw,aD,vZ,List.any_cons,bg,eV,Bool.or_assoc,Int.add_assoc]
   rw[show seen.length+1+(g.1.drop (k+1)).length=seen.length+((g.1.drop (k+1)).length+1) by omega]
  ·rw[ae.L1.step]
   simp only[bJ (show(0:Int)<=(j:Int) by omega) (show(j:Int) < (G.length:Int) by omega),aj,aa,hg,n1]
   rw[bA (by omega),aj]
   simp only[bJ (show(0:Int)<=(k:Int) by omega) (show(k:Int) < (g.1.length:Int) by omega),aj]
   rw[ca]
   simp only[ah,bU,alone.F,k1,b8,au]
   have e7:bN .i64 (k:Int) 1=((k+1:Nat):Int):=N.rD (by omega)
   simp only[e7,aa]
   rw[gV (by omega) (by omega),aj,gV (by omega) (by omega),aj,ec,cw]
   simp only[ah,bU,bm.F]
   rw[bl (by omega),au,cr]
   simp only[ah,bU,aU.F,s1,au]
   rw[ch]
   simp only[ah,bU,bP.F,s2,b8,au]
   rw[aX (ax _),aj,fL (by omega) (by omega),aj,cY,eH (x:=sum) (by omega) (by omega)]
   cases press with
   |true=>rw[aj,Bool.true_or]
   |false=>
    rw[au,Bool.false_or,HP]
    by_cases u0:x.2.2.2.2.2.1=0
    ·rw[eX u0,au,decide_eq_false (λe=>e u0),dQ]
    ·rw[iX u0,aj,cs]
     simp only[ah,bU,fc.F]
     rw[dS (by omega) (by omega),o9 (by omega) (by omega),decide_eq_true u0,bX]
     rfl
 ·right
  obtain rfl:k=g.1.length:=by omega
  refine⟨ae.L1.gL ((l,bu,h,b,hd,G,paid,least,calm,(j:Int)),(seen.length,sum,press,seen)),?_,λkn kx=> ?_⟩
  ·simp only[ae.L1.add,ae.L1.F,aa,hg,bq,ba,List.any_nil,Bool.or_false,cH,cq]
   rw[show sum+yp []=sum from Int.add_zero _]
   rfl
  ·rw[ae.L1.step]
   simp only[bJ (show(0:Int)<=(j:Int) by omega) (show(j:Int) < (G.length:Int) by omega),aj,aa,hg]
   rw[bl (by omega),au]
theorem ae.L0.ok:ae.L0.Ok:=by
 refine ae.L0.c8 (λ(_,_,_,_,_,G,_,_,_,_,i,_)=>G.length - i.toNat) ?_
 rintro⟨l,bu,h,b,hd,G,paid,least,m,calm,i,seen⟩ ⟨hB,hG,k,hk,rfl,hI⟩
 have hG:G.length<=1000:=hG
 have hk:k<=G.length:=hk
 by_cases h':k < G.length
 ·left
  have n1:nth fi G k=G[k]:=dM (t:=fi) h'
  have Lw:G.drop k=G[k]::G.drop (k+1):=aC h'
  generalize G[k]=g at n1 Lw
  rw[Lw]at hI
  obtain⟨hN,b1,b2⟩:=hI.next
  obtain⟨i1,i2,i3,i4,rfl,i6,i7,i8⟩:=hI
  obtain⟨⟨g1,g2⟩,g3,g4,g5,g6,g7,g8⟩:=i1 g aG
  rw[qq,<-bg]at i4 i6
  have c1:=ae.L1.run (d:=(l,bu,h,b,hd,G,paid,least,seen.length,calm,(k:Int),0,false,0,seen)) ⟨hB,k,0,h',rfl,rfl,bh _,by rw[n1];exact g2,by rw[n1];exact g6,rfl,by
   rw[n1,aJ]
   exact List.Nodup.sublist (List.Sublist.map _ (List.sublist_append_left _ _)) i4,by
   rw[n1,aJ]
   rw[aq]at i6
   omega,dW 0,dW _⟩
  simp only[ae.L1.add,ae.L1.F,aa,cF,aJ,n1,Int.zero_add,Bool.false_or]at c1
  have hp:g.1.any (gY b h)=EA b h g:=rfl
  rw[hp]at c1
  have cw:=bm.run (d:=g.1) (by show g.1.length<=_;omega)
  have w0:=(py g.1).1
  refine⟨(l,bu,h,b,hd,G,paid+g.2.2.1,least+g.2.1,seen.length+g.1.length,calm || !EA b h g,((k+1:Nat):Int),seen++g.1),⟨hB,hG,k+1,h',rfl,hN⟩,by simp only[aa];omega,?_,λkn kx=> ?_⟩
  ·simp only[ae.L0.add,ae.L0.F,aa,Lw,qs,lK,qq,aq,bg,Int.add_assoc,dz]
  ·rw[ae.L0.step,bA (by omega),aj,c1]
   have i0:fa (k:Int) (G.length:Int)=true:=bJ (by omega) (by omega)
   have e0:bN .i64 paid g.2.2.1=paid+g.2.2.1:=eH (by omega) (by omega)
   have e1:bN .i64 least g.2.1=least+g.2.1:=eH (by omega) (by omega)
   have e2:iI (g.1.length:Int) 1=false:=bl (by omega)
   have e3:ot (g.1.length:Int) 8=false:=cZ (by omega)
   have e4:uD g.2.1 (qE g.1)=false:=eX g3
   have e5:iI g.2.2.1 g.2.1=false:=bl (by omega)
   have e6:ot g.2.2.1 (yp g.1)=false:=cZ (by omega)
   have e7:bN .i64 (k:Int) 1=((k+1:Nat):Int):=N.rD (by omega)
   cases N0:EA b h g with
   |true=>
    have hc:calm=false:=by
     cases calm with
     |false=>rfl
     |true=>rw[i3 rfl g aG]at N0;cases N0
    subst hc
    have e8:uD (g.1.length:Int) 1=false:=eX (by have:=g7 N0;omega)
    simp only[ah,j3,im,au,aj,N0,aa,n1,i0,e8,e2,e3,b8,ae.oP.IS]
    rw[cw]
    simp only[ah,bU,bm.F,e4,e5,e6,e0,e1,e7,au,aj,i0,n1,aa]
    rfl
   |false=>
    have e9:uD g.2.2.1 g.2.1=false:=eX (g8 N0)
    simp only[ah,j3,im,au,aj,N0,aa,n1,i0,e9,e2,e3,dr,ae.oP.IS]
    cases calm <;> (simp only[au,aj,ah,n1,i0,aa];rw[cw];simp only[ah,bU,bm.F,e4,e5,e6,e0,e1,e7,au,aj,i0,n1,aa];rfl)
 ·right
  obtain rfl:k=G.length:=by omega
  refine⟨ae.L0.gL (l,bu,h,hd,paid,least,m,seen),?_,λkn kx=> ?_⟩
  ·simp only[ae.L0.add,ae.L0.F,aa,bq]
   rw[show qp []=[] from rfl,show sZ []=0 from rfl,DE,cH,Int.add_zero,Int.add_zero]
   rfl
  ·rw[ae.L0.step,bl (by omega),au]
theorem ae.L2.ok:ae.L2.Ok:=by
 refine ae.L2.c8 (λ(l,_,_,_,_,_,i,_)=>l.length - i.toNat) ?_
 rintro⟨l,bu,h,hd,least,m,i,seen⟩ ⟨hB,rfl,Dn,hb,Ta,hx,k,hk,rfl⟩
 obtain⟨hh,MZ,Fj⟩:=hB
 have hk:k<=l.length:=hk
 have Dn:seen.length<=128:=Dn
 by_cases h':k < l.length
 ·left
  have n1:nth c9 l k=l[k]:=dM (t:=c9) h'
  have hm:=b5 h'
  have ec:cut l k (k+1 - k)=[l[k]]:=by
   unfold cut
   rw[aC h',show k+1 - k=1 by omega]
   rfl
  generalize l[k]=x at n1 hm ec
  have ca:=alone.run (d:=(x,h)) trivial
  have cw:=bm.run (d:=[x]) (by show 1<=1000000000;decide)
  have cr:=aU.run (d:=(seen.length,x.1,seen)) ⟨by show seen.length<=_;omega,rfl⟩
  refine⟨(l,bu,h,hd,least,seen.length,((k+1:Nat):Int),seen),⟨⟨hh,MZ,Fj⟩,rfl,Dn,hb,Ta,hx,k+1,h',rfl⟩,by simp only[aa];omega,rfl,λkn kx=> ?_⟩
  have e7:bN .i64 (k:Int) 1=((k+1:Nat):Int):=N.rD (by omega)
  rw[ae.L2.step,bA (by omega),aj]
  simp only[bJ (show(0:Int)<=(k:Int) by omega) (show(k:Int) < (l.length:Int) by omega),aj,aa,n1,e7]
  rw[ca]
  simp only[ah,bU,alone.F]
  cases a1:rN x h with
  |false=>rw[au]
  |true=>
   rw[aj,gV (by omega) (by omega),aj,gV (by omega) (by omega),aj,ec,cw]
   simp only[ah,bU,bm.F]
   by_cases a2:qE [x]<=x.2.1.1
   ·rw[fW a2,aj,cr]
    simp only[ah,bU,aU.F]
    cases a3:xw seen x.1 with
    |true=>rw[b8,au]
    |false=>
     have:=hx x hm (Ld a1 a2) (λe=>by rw[yF.2 e]at a3;cases a3)
     rw[dr,aj,dS (by omega) (by omega),eu (by omega),au]
   ·rw[eu a2,au]
 ·right
  obtain rfl:k=l.length:=by omega
  refine⟨ae.L2.gL hd,rfl,λkn kx=> ?_⟩
  rw[ae.L2.step,bl (by omega),au]
theorem ae.ok:ae.Ok:=by
 rintro⟨l,bu,b,h⟩ hr
 have hr:∀x∈l,PM x:=hr
 rw[ae.eq,eM.run (d:=()) trivial]
 simp only[ah,bU,eM.F,bU,ae.F]
 rw[bH.run (d:=l) trivial]
 simp only[ah,bU,bH.F]
 cases hf:Hd l with
 |false=>rfl
 |true=>
 have hx:=Mp hr hf
 rw[b8,au,aB.run (d:=(l,bu,b,h)) hx]
 simp only[ah,bU,aB.F,vj]
 by_cases oo:kB l bu b h=true
 ·obtain⟨hb,_,hh,hl,_,ha⟩:=DX oo
  obtain⟨p1,p2,p3,p4,p5,p6,p7,p8⟩:=FH hx oo
  have hB:F9 l h:=⟨hh,hl,λx hm=>⟨ha x hm,(hx x hm).2.2⟩⟩
  have pl:=HO (bu:=bu) (b:=b) (h:=h) hx hl
  rw[if_pos oo,eX rfl,au,ae.L0.run (d:=(l,bu,h,b,true,jW l bu b h,0,0,0,false,0,[])) ⟨hB,pl,0,bh _,rfl,p1,p2,λe=>(by cases e),p3,rfl,p4,⟨dW 0,by show 0+sZ (jW l bu b h)<=_;omega⟩,⟨dW 0,by show 0+lO (jW l bu b h)<=_;omega⟩⟩]
  simp only[ah,ae.L0.add,ae.L0.F,cF,aJ,j3,im,au,Int.zero_add,aN,aS]
  rw[cZ (by omega),au,ae.L2.run (d:=(l,bu,h,true,lO (jW l bu b h),(qp (jW l bu b h)).length,0,qp (jW l bu b h))) ⟨hB,rfl,p4,hb,⟨p6,by show lO (jW l bu b h)<=_;omega⟩,p8,0,bh _,rfl⟩]
  rfl
 ·rw[if_neg oo]
  rfl
theorem ae.run:ae.RS:=rE [.d (.slice c9),.d ti,.d pQ,.d ti] ae
def ae.sg:=ae.gC ae.ok 3 ⟨.js ae.L0.ok,⟨.js ae.L1.ok,⟨.js ae.L2.ok,trivial⟩⟩⟩
end Go.Ab
end
