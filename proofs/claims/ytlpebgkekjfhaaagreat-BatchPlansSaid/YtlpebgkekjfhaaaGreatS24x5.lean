/-
  Made short by a program of mine (wip/tools/mini.py).
-/
import Derived.Test.YtlpebgkekjfhaaaGreatS24x4
set_option linter.unusedVariables false
set_option linter.unusedSimpArgs false
set_option maxRecDepth 100000
set_option synthInstance.maxSize 5000
noncomputable section
namespace Go.Ab
open Go.Proofs
abbrev mm:Ty:=(.pair ti (.pair ti (.pair ti .unit)))
abbrev oR:=(Int×(Int×(Int×Unit)))
abbrev cF:Ty:=(.pair gz (.pair mZ (.pair ti (.pair tu (.pair ti (.pair ti .unit))))))
abbrev db:=(jm×(na×(Int×(Int×(Int×(Int×Unit))))))
abbrev iF:Ty:=(.pair (.slice cF) mm)
abbrev fZ:=((List db)×oR)
def jq(b:oR):Bool:=decide (0<=mh b.1 b.2.1/\1<=b.2.2.1/\imax (imax b.1 b.2.1) b.2.2.1<=1000)
theorem sY{b:oR}(h:jq b=true):(0<=b.1/\b.1<=1000)/\(0<=b.2.1/\b.2.1<=1000)/\1<=b.2.2.1/\b.2.2.1<=1000:=by
 have h:=of_decide_eq_true h
 unfold mh imax at h
 split at h <;> split at h <;> split at h <;> omega
def xo(b:oR):Int:=if jq b then b.2.2.1+b.1+b.2.1+1 else 0
def jw(b:oR):Int:=if jq b then b.2.2.1+b.1+b.2.1+1+12 else 0
theorem yW(b:oR):0<=jw b/\jw b<=3013/\(jq b=true->14<=jw b):=by
 unfold jw
 split
 ·rename_i h
  have:=sY h
  exact⟨by omega,by omega,λ_=>by omega⟩
 ·rename_i h
  exact⟨by omega,by omega,λe=>absurd e h⟩
abbrev eA.D:=oR
abbrev eA.Y:=Bool
def eA.bf:eA.D->Prop:=λ_=>True
def eA.F:eA.D->eA.Y:=λb=>jq b
def eA:Fs Tryz.prog eA.bf bV eA.F:=gf 98 Tryz.f98 (λb=>([.d mm b],[])) (λx=>⟨.d .bool x,[],[]⟩) [some mm]
theorem eA.eq{R:Type}(b)(k:K1 R):eA.A b k=
  aN ((qT (mh b.1 b.2.1) 0)) (
   aN ((qT b.2.2.1 1)) (
    k (eA.out (zt (imax (imax b.1 b.2.1) b.2.2.1) 1000))) (
    k (eA.out false))) (
   k (eA.out false)):=by kernel_rfl
theorem eA.ok:eA.Ok:=by
 intro b _
 rw[eA.eq]
 simp only[bV,eA.F,jq]
 by_cases a1:0<=mh b.1 b.2.1
 ·rw[fC a1,ag]
  by_cases a2:1<=b.2.2.1
  ·rw[fC a2,ag]
   by_cases a3:imax (imax b.1 b.2.1) b.2.2.1<=1000
   ·rw[hZ a3,decide_eq_true ⟨a1,a2,a3⟩]
   ·rw[fO (by omega),decide_eq_false (λe=>a3 e.2.2)]
  ·rw[ea (by omega),ai,decide_eq_false (λe=>a2 e.2.1)]
 ·rw[ea (by omega),ai,decide_eq_false (λe=>a1 e.1)]
theorem eA.run:eA.RS:=rE [.d mm] eA
def eA.sg:=eA.gk eA.ok
abbrev gC.D:=oR
abbrev gC.Y:=Int
def gC.bf:gC.D->Prop:=λ_=>True
def gC.F:gC.D->gC.Y:=λb=>xo b
def gC:Fs Tryz.prog gC.bf bV gC.F:=gf 122 Tryz.f122 (λb=>([.d mm b],[])) (λx=>⟨.d ti x,[],[]⟩) [some mm] [eA.sg]
theorem gC.eq{R:Type}(b)(k:K1 R):gC.A b k=
  aB (eA.call b) λx1=>
  aN ((!x1)) (
   k (gC.out 0)) (
   k (gC.out (bQ .i64 (bQ .i64 (bQ .i64 b.2.2.1 b.1) b.2.1) 1))):=by kernel_rfl
theorem gC.ok:gC.Ok:=by
 intro b _
 rw[gC.eq,eA.run (d:=b) trivial]
 simp only[ae,bV,eA.F,bV,gC.F,xo]
 cases h:jq b with
 |false=>rfl
 |true=>
  obtain⟨⟨h1,h2⟩,⟨h3,h4⟩,h5,h6⟩:=sY h
  rw[bM,ai,dL (x:=b.2.2.1) (by omega) (by omega),dL (x:=b.2.2.1+b.1) (by omega) (by omega),dL (by omega) (by omega)]
  rfl
theorem gC.run:gC.RS:=rE [.d mm] gC
def gC.sg:=gC.gk gC.ok
abbrev gg.D:=oR
abbrev gg.Y:=Int
def gg.bf:gg.D->Prop:=λ_=>True
def gg.F:gg.D->gg.Y:=λb=>jw b
def gg:Fs Tryz.prog gg.bf bV gg.F:=gf 57 Tryz.f57 (λb=>([.d mm b],[])) (λx=>⟨.d ti x,[],[]⟩) [some mm] [eA.sg,gC.sg]
theorem gg.eq{R:Type}(b)(k:K1 R):gg.A b k=
  aB (eA.call b) λx1=>
  aN ((!x1)) (
   k (gg.out 0)) (
   aB (gC.call b) λx2=>
   k (gg.out (bQ .i64 x2 12))):=by kernel_rfl
theorem gg.ok:gg.Ok:=by
 intro b _
 rw[gg.eq,eA.run (d:=b) trivial]
 simp only[ae,bV,eA.F,bV,gg.F,jw]
 cases h:jq b with
 |false=>rfl
 |true=>
  obtain⟨⟨h1,h2⟩,⟨h3,h4⟩,h5,h6⟩:=sY h
  rw[bM,ai,gC.run (d:=b) trivial]
  simp only[ae,bV,gC.F,xo,h,if_true]
  rw[dL (by omega) (by omega)]
theorem gg.run:gg.RS:=rE [.d mm] gg
def gg.sg:=gg.gk gg.ok
def rq(x:db)(h:Int):Bool:=decide (x.2.2.2.2.1<=h/\(x.2.2.2.2.2.1=0\/h < x.2.2.2.2.2.1))
def CZ(n:Int)(x:db):Int:=if x.2.2.2.1≠0 then n+18+4 else n+18
def rh(l:List db):Int:=if l.length=0 then 0 else l.foldl CZ 18
theorem xB:∀(l:List db) (n:Int),n+18*(l.length:Int)<=l.foldl CZ n/\l.foldl CZ n<=n+22*(l.length:Int)
 |[],n=>by simp
 |x::l,n=>by
  have h1:=xB l (CZ n x)
  have h2:n+18<=CZ n x/\CZ n x<=n+22:=by unfold CZ;split <;> omega
  rw[cG,aG]
  omega
theorem qR(l:List db):0<=rh l/\rh l<=18+22*(l.length:Int):=by
 unfold rh
 have:=xB l 18
 split <;> omega
abbrev alone.D:=db×Int
abbrev alone.Y:=Bool
def alone.bf:alone.D->Prop:=λ_=>True
def alone.F:alone.D->alone.Y:=λ(x,h)=>rq x h
def alone:Fs Tryz.prog alone.bf bV alone.F:=gf 55 Tryz.f55 (λ(x,atv)=>([.d cF x,.d ti atv],[])) (λx=>⟨.d .bool x,[],[]⟩) [some cF,some ti]
theorem alone.eq{R:Type}(x atv)(k:K1 R):alone.A (x,atv) k=
  aN ((zt x.2.2.2.2.1 atv)) (
   aN ((xS x.2.2.2.2.2.1 0)) (
    k (alone.out true)) (
    k (alone.out (iX atv x.2.2.2.2.2.1)))) (
   k (alone.out false)):=by kernel_rfl
theorem alone.ok:alone.Ok:=by
 rintro⟨x,h⟩ _
 rw[alone.eq]
 simp only[bV,alone.F,rq]
 by_cases a1:x.2.2.2.2.1<=h
 ·rw[hZ a1,ag]
  by_cases a2:x.2.2.2.2.2.1=0
  ·rw[gq a2,ag,decide_eq_true ⟨a1,.inl a2⟩]
  ·rw[gB a2,ai]
   by_cases a3:h < x.2.2.2.2.2.1
   ·rw[aU a3,decide_eq_true ⟨a1,.inr a3⟩]
   ·rw[aW a3,decide_eq_false (λe=>e.2.elim a2 a3)]
 ·rw[fO a1,ai,decide_eq_false (λe=>a1 e.1)]
theorem alone.run:alone.RS:=rE [.d cF,.d ti] alone
def alone.sg:=alone.gk alone.ok
abbrev bP.L0.D:=Int×(List db)×Int×Int
abbrev bP.L0.Y:=Int
abbrev bP.D:=(List db)
abbrev bP.Y:=Int
def bP.L0.bf:bP.L0.D->Prop:=λ(n,l,m,i)=>(l).length<=1000000000/\∃k:Nat,k<=(l).length/\i=k/\m=(l).length/\(0<=n)/\(n<=18+22*(k:Int))
def bP.L0.F:bP.L0.D->bP.L0.Y:=λ(n,l,m,i)=>(List.drop (Int.toNat i) l).foldl CZ n
def bP.bf:bP.D->Prop:=λl=>l.length<=1000000000
def bP.F:bP.D->bP.Y:=λl=>rh l
def bP.L0:Ls bP.L0.bf bV bP.L0.F:=ra (λ(n,t9,t10,t11)=>⟨([.undef,.undef,.undef,.d ti n]++bm 5 ([.d (.slice cF) t9,.d ti t10,.d ti t11]++bm 12 [])),[],(List.replicate 24 [])⟩) (λx=>(.exit 0,⟨([.undef,.undef,.undef,.d ti x]++bm 20 []),[],(List.replicate 24 [])⟩))
def bP:Fs Tryz.prog bP.bf bV bP.F:=gf 46 Tryz.f46 (λl=>([.d (.slice cF) l],[])) (λx=>⟨.d ti x,[],[]⟩) [some (.slice cF)] [] {loops:=qu [(5,{bA:=[3,9,10,11]})],outs:=qt [(5,{bA:=[3]},{bA:=[2]})],jl:=qU [(5,bP.L0.E)]}
theorem bP.L0.run:bP.L0.RS:=rL [.d ti,.d (.slice cF),.d ti,.d ti] bP.L0
theorem bP.L0.step{R:Type}(n t9 t10 t11)(kn:K2 R)(kx:K3 R):bP.R 0 bP.L0 (n,t9,t10,t11) kn kx=
  aN ((iX t11 t10)) (
   aN (gw t11 (t9.length:Int)) (
   aN ((sx (nth cF t9 (Int.toNat t11)).2.2.2.1 0)) (
    kn (bP.L0.st ((bQ .i64 (bQ .i64 n 18) 4),t9,t10,(bQ .i64 t11 1)))) (
    kn (bP.L0.st ((bQ .i64 n 18),t9,t10,(bQ .i64 t11 1))))) none) (
   bP.L0.go kx n):=by kernel_rfl
theorem bP.eq{R:Type}(l)(k:K1 R):bP.A l k=
  aN ((xS (l.length:Int) 0)) (
   k (bP.out 0)) (
   aB (bP.L0.call (18,l,(l.length:Int),0)) λx1=>
   k (bP.out x1)):=by kernel_rfl
theorem bP.L0.ok:(bP.lP 0 bP.L0):=by
 refine(bP.mS 0 bP.L0) (λ(n,l,m,i)=>(l).length - Int.toNat i) ?_
 rintro⟨n,l,m,i⟩ ⟨hlen,k,hk,rfl,rfl,h1,h2⟩
 have hlen:(l).length<=1000000000:=hlen
 have hk:k<=(l).length:=hk
 have h1:0<=n:=h1
 have h2:n<=18+22*(k:Int):=h2
 by_cases h:k < (l).length
 ·left
  have n1:nth cF l k=l[k]:=dq (t:=cF) h
  have hd:List.drop k l=l[k]::List.drop (k+1) l:=ax h
  refine⟨((CZ n l[k]),l,((l).length:Int),((k+1:Nat):Int)),⟨hlen,k+1,by omega,rfl,rfl,by have:=(xB [l[k]] n).1;simp only[cG,fy,aG,aZ]at this;omega,by have:=(xB [l[k]] n).2;simp only[cG,fy,aG,aZ]at this;omega⟩,by simp only[aa];omega,?_,λkn kx=> ?_⟩
  ·simp only[bV,bP.L0.F,aa,hd,cG]
  ·rw[bP.L0.step,aU (by omega),bt (by omega) (by omega),aa,n1]
   simp only[ag]
   rw[N.py (by omega),dL (x:=n) (by omega) (by omega),dL (x:=n+18) (by omega) (by omega)]
   unfold CZ
   by_cases hs:l[k].2.2.2.1=0
   ·rw[cU hs,ai,if_neg (λe=>e hs)]
   ·rw[fj hs,ag,if_pos hs]
 ·right
  obtain rfl:k=(l).length:=by omega
  intro R kn kx
  rw[bP.L0.step,aW (by omega),ai]
  simp only[bV,bP.L0.F,aa,aY,fy]
theorem bP.ok:bP.Ok:=by
 intro l (h:l.length<=1000000000)
 have z1:((0:Int)).toNat=0:=rfl
 rw[bP.eq]
 simp only[bV,bP.F,rh]
 by_cases h0:l.length=0
 ·rw[gq (by omega),ag,if_pos h0]
 ·rw[gB (by omega),ai,if_neg h0,bP.L0.run (d:=(18,l,(l.length:Int),0)) ⟨h,0,aP _,rfl,rfl,by decide,by decide⟩]
  simp only[ae,bV,bP.L0.F,z1,aI]
theorem bP.run:bP.RS:=rE [.d (.slice cF)] bP
def bP.sg:=bP.gk bP.ok 1 ⟨.iY bP.L0.ok,trivial⟩
abbrev ct.L0.D:=Nat×Int×Int×jm×Int×Nat×(Int×(Int×(Int×(Int×Unit))))×jm×Int×(Int×(Int×(Int×(Int×Unit))))×(List tl)
abbrev ct.L0.Y:=(List tl)
abbrev ct.L0.X:=(jm×Int×Nat×(Int×(Int×(Int×(Int×Unit))))×jm×Int×(Int×(Int×(Int×(Int×Unit)))))×((List tl))
def ct.L0.add:ct.L0.D->ct.L0.Y->ct.L0.X:=λ(IJ,t17,t18,n1,xl,C5,uU,n2,qM,pT,n9) y=>((n1,xl,C5,uU,n2,qM,pT),y)
abbrev ct.D:=db
abbrev ct.Y:=db
def ct.L0.bf:ct.L0.D->Prop:=λ(m,t,i,_,_,n,_,_,_,_,l)=>(l.length<=1000/\∀b∈l,b.1.length<=1000000)/\∃k:Nat,k<=l.length/\i=k/\n=l.length/\m=l.length/\t=l.length
def ct.L0.F:ct.L0.D->ct.L0.Y:=λ(_,_,_,_,_,_,_,_,_,_,l)=>l
def ct.bf:ct.D->Prop:=λx=>KR x.2.1.2.1
def ct.F:ct.D->ct.Y:=λx=>x
def ct.L0:Ls ct.L0.bf ct.L0.add ct.L0.F:=ra (λ(IJ,t17,t18,n1,xl,C5,uU,n2,qM,pT,n9)=>⟨([.undef,.ptr (.new 1 0) 0 [] 0,.ptr (.new 2 0) 0 [] 0]++bm 13 ([.cO (.new 9 0) 0 [] 0 0 IJ,.d ti t17,.d ti t18]++bm 16 [])),[],([[],[.obj 0 false (.pr (.d gz n1) (.pr (.pr (.d ti xl) (.pr (.pr (.cO (.new 9 0) 0 [] 0 0 C5) (.d .unit ())) (.d .unit ()))) (.d (.pair ti (.pair tu (.pair ti (.pair ti .unit)))) uU)))],[.obj 0 false (.pr (.d gz n2) (.pr (.pr (.d ti qM) (.pr (.pr (.dp) (.d .unit ())) (.d .unit ()))) (.d (.pair ti (.pair tu (.pair ti (.pair ti .unit)))) pT)))]]++cS 6 ([[.obj 0 false (.vec 29 mU n9)]]++cS 25 []))⟩) (λx=>(.exit 0,⟨([.undef,.ptr (.new 1 0) 0 [] 0,.ptr (.new 2 0) 0 [] 0]++bm 32 []),[],([[],[.obj 0 false (.pr (.d gz x.1.1) (.pr (.pr (.d ti x.1.2.1) (.pr (.pr (.cO (.new 9 0) 0 [] 0 0 x.1.2.2.1) (.d .unit ())) (.d .unit ()))) (.d (.pair ti (.pair tu (.pair ti (.pair ti .unit)))) x.1.2.2.2.1)))],[.obj 0 false (.pr (.d gz x.1.2.2.2.2.1) (.pr (.pr (.d ti x.1.2.2.2.2.2.1) (.pr (.pr (.dp) (.d .unit ())) (.d .unit ()))) (.d (.pair ti (.pair tu (.pair ti (.pair ti .unit)))) x.1.2.2.2.2.2.2)))]]++cS 6 ([[.obj 0 false (.vec 29 mU x.2)]]++cS 25 []))⟩))
def ct:Fs Tryz.prog ct.bf bV ct.F:=gf 101 Tryz.f101 (λx=>([.d cF x],[])) (λx=>⟨.d cF x,[],[]⟩) [some cF] [lv.sg,fa.sg] {bE:=[1],loops:=qu [(3,{bA:=[1,2,16,17,18],sites:=[1,2,9]})],outs:=qt [(3,{bA:=[1,2],sites:=[1,2,9]},{bA:=[2]})],jl:=qU [(3,ct.L0.E)],res:=[some cF]}
theorem ct.L0.run:ct.L0.RS:=rL [.n,.d ti,.d ti,.d gz,.d ti,.n,.d (.pair ti (.pair tu (.pair ti (.pair ti .unit)))),.d gz,.d ti,.d (.pair ti (.pair tu (.pair ti (.pair ti .unit)))),.d (.slice mU)] ct.L0
theorem ct.L0.step{R:Type}(IJ t17 t18 n1 xl C5 uU n2 qM pT n9)(kn:K2 R)(kx:K3 R):ct.R 0 ct.L0 (IJ,t17,t18,n1,xl,C5,uU,n2,qM,pT,n9) kn kx=
  aN ((iX t18 t17)) (
   aN (gw t18 ((IJ:Nat):Int)) (
   aN (decide ((0+(Int.toNat t18)) < (List.length n9))) (
   aN (decide ((((0+(Int.toNat t18))*4)+0)=(0+((Int.toNat t18)*4)))) (
   aB (fa.call (nth mU n9 (0+(Int.toNat t18))).1) λx1=>
   aN (gw t18 ((C5:Nat):Int)) (
   aN (decide ((0+(Int.toNat t18)) < (List.length n9))) (
   aN (decide ((((0+(Int.toNat t18))*4)+0)=((0+((Int.toNat t18)*4))+0))) (
   aN (decide ((0+(Int.toNat t18)) < (List.length n9))) (
   kn (ct.L0.st (IJ,t17,(bQ .i64 t18 1),n1,xl,C5,uU,n2,qM,pT,(List.set n9 (0+(Int.toNat t18)) (x1,(nth mU n9 (0+(Int.toNat t18))).2))))) none) none) none) none) none) none) none) (
   ct.L0.go kx ((n1,xl,C5,uU,n2,qM,pT),n9)):=by kernel_rfl
theorem ct.eq{R:Type}(x)(k:K1 R):ct.A x k=
 aB (lv.call x.2.1.2.1.1) λx1=>
 aB (ct.L0.call (x1.1,((x1.1:Nat):Int),0,x.1,x.2.1.1,x1.1,x.2.2,((List.replicate 32 0),(0,())),0,(0,(0,(0,(0,())))),x1.2)) λx3=>
 aN (decide (0=0/\(0+x3.1.2.2.1)<=(List.length x3.2))) (
 k (ct.out (x3.1.1,((x3.1.2.1,(((cut x3.2 0 x3.1.2.2.1),()),())),x3.1.2.2.2.1)))) none:=by kernel_rfl
theorem ct.L0.ok:(ct.lP 0 ct.L0):=by
 refine(ct.mS 0 ct.L0) (λ(_,_,i,_,_,_,_,_,_,_,l)=>l.length - i.toNat) ?_
 rintro⟨m,t,i,a1,a2,n,a3,a4,a5,a6,l⟩ ⟨⟨hlen,hx⟩,k,hk,rfl,rfl,rfl,rfl⟩
 have hlen:l.length<=1000:=hlen
 have hk:k<=l.length:=hk
 by_cases h:k < l.length
 ·left
  have n1:nth mU l k=l[k]:=dq (t:=mU) h
  have hs:l.set k l[k]=l:=fw h
  have e:=hx _ (bH h)
  refine⟨(l.length,(l.length:Int),((k+1:Nat):Int),a1,a2,l.length,a3,a4,a5,a6,l),⟨⟨hlen,hx⟩,k+1,by omega,rfl,rfl,rfl,rfl⟩,by simp only[aa];omega,rfl,λkn kx=> ?_⟩
  rw[ct.L0.step,aU (by omega),bt (by omega) (by omega)]
  simp only[aa,aR,cn,ag,aX h,decide_true,n1]
  rw[fa.run (d:=l[k].1) e]
  simp only[ae,bV,fa.F]
  rw[N.py (by omega)]
  exact congrArg (λz=>kn (ct.L0.st (_,_,_,_,_,_,_,_,_,_,z))) hs
 ·right
  obtain rfl:k=l.length:=by omega
  intro R kn kx
  rw[ct.L0.step,aW (by omega),ai]
  rfl
theorem ct.ok:ct.Ok:=by
 rintro⟨a,⟨am,⟨l,u⟩,u2⟩,r⟩ ⟨h1,h2⟩
 have h1:l.length<=1000:=h1
 rw[ct.eq,lv.run (d:=l) (by show l.length<=_;omega)]
 simp only[ae,bV,lv.F]
 rw[ct.L0.run (d:=(l.length,(l.length:Int),0,a,am,l.length,r,(List.replicate 32 0,0,()),0,(0,0,0,0,()),l)) ⟨⟨h1,h2⟩,0,aP _,rfl,rfl,rfl,rfl⟩]
 simp only[ae,ct.L0.add,ct.L0.F,bV,ct.F]
 rw[aX ⟨trivial,by omega⟩,ag,iW rfl]
theorem ct.run:ct.RS:=rE [.d cF] ct
def ct.sg:=ct.gk ct.ok 1 ⟨.iY ct.L0.ok,trivial⟩
abbrev ed.D:=db×db
abbrev ed.Y:=Int
def ed.bf:ed.D->Prop:=λ(x,y)=>x.1.1.length=32/\y.1.1.length=32
def ed.F:ed.D->ed.Y:=λ(x,y)=>tK x.1 y.1
def ed:Fs Tryz.prog ed.bf bV ed.F:=gf 104 Tryz.f104 (λ(x,yv)=>([.d cF x,.d cF yv],[])) (λx=>⟨.d ti x,[],[]⟩) [some cF,some cF] [my.sg,jZ.sg,fJ.sg]
theorem ed.eq{R:Type}(x yv)(k:K1 R):ed.A (x,yv) k=
 aB (my.call ((cut x.1.1 0 32),(cut yv.1.1 0 32))) λx1=>
 aB (jZ.call (x.1.2.1,yv.1.2.1)) λx2=>
 aB (fJ.call [x1,x2]) λx3=>
 k (ed.out x3):=by kernel_rfl
theorem ed.ok:ed.Ok:=by
 rintro⟨x,y⟩ ⟨h1,h2⟩
 have h1:x.1.1.length=32:=h1
 have h2:y.1.1.length=32:=h2
 rw[ed.eq,my.run (d:=(cut x.1.1 0 32,cut y.1.1 0 32)) trivial,iW h1,iW h2]
 simp only[ae,bV,my.F]
 rw[jZ.run (d:=(x.1.2.1,y.1.2.1)) trivial]
 simp only[ae,bV,jZ.F]
 rw[fJ.run (d:=[y7 x.1.1 y.1.1,qW x.1.2.1 y.1.2.1]) (by show 2<=_;decide)]
 rfl
theorem ed.run:ed.RS:=rE [.d cF,.d cF] ed
def ed.sg:=ed.gk ed.ok
def mz(x y:db):Int:=LN [qW x.2.2.2.2.2.1 y.2.2.2.2.2.1,tK x.1 y.1]
def yp(x y:db):Int:=tK x.1 y.1
abbrev iq.D:=db×db
abbrev iq.Y:=Int
def iq.bf:iq.D->Prop:=λ(x,y)=>x.1.1.length=32/\y.1.1.length=32
def iq.F:iq.D->iq.Y:=λ(x,y)=>mz x y
def iq:Fs Tryz.prog iq.bf bV iq.F:=gf 103 Tryz.f103 (λ(x,yv)=>([.d cF x,.d cF yv],[])) (λx=>⟨.d ti x,[],[]⟩) [some cF,some cF] [jZ.sg,ed.sg,fJ.sg]
theorem iq.eq{R:Type}(x yv)(k:K1 R):iq.A (x,yv) k=
 aB (jZ.call (x.2.2.2.2.2.1,yv.2.2.2.2.2.1)) λx1=>
 aB (ed.call (x,yv)) λx2=>
 aB (fJ.call [x1,x2]) λx3=>
 k (iq.out x3):=by kernel_rfl
theorem iq.ok:iq.Ok:=by
 rintro⟨x,y⟩ h
 rw[iq.eq,jZ.run (d:=(x.2.2.2.2.2.1,y.2.2.2.2.2.1)) trivial]
 simp only[ae,bV,jZ.F]
 rw[ed.run (d:=(x,y)) h]
 simp only[ae,bV,ed.F]
 rw[fJ.run (d:=[qW x.2.2.2.2.2.1 y.2.2.2.2.2.1,tK x.1 y.1]) (by show 2<=_;decide)]
 rfl
theorem iq.run:iq.RS:=rE [.d cF,.d cF] iq
def iq.sg:=iq.gk iq.ok
def tm(x:db):Prop:=IY x.1
def qd(x:db):List Int:=x.2.2.2.2.2.1::pd x.1
theorem lF{x:db}(h:tm x):(qd x).length=34:=by unfold qd;rw[aG,kJ h]
theorem mA{x y:db}(hx:tm x)(hy:tm y):mz x y=lx (qd x) (qd y):=by
 unfold mz qd
 rw[lI hx hy]
 simp only[LN]
 by_cases h:x.2.2.2.2.2.1=y.2.2.2.2.2.1
 ·have e:qW x.2.2.2.2.2.1 y.2.2.2.2.2.1=0:=by unfold qW;rw[if_neg (by omega),if_neg (by omega)]
  rw[e,if_neg (λe=>e rfl),h,vP]
  split
  ·rfl
  ·rename_i h0;exact(Classical.not_not.1 h0).symm
 ·rw[q9 h]
  by_cases h1:x.2.2.2.2.2.1 < y.2.2.2.2.2.1
  ·have e:qW x.2.2.2.2.2.1 y.2.2.2.2.2.1= -1:=by unfold qW;rw[if_pos h1]
   rw[e,if_pos h1,if_pos (by decide)]
  ·have e:qW x.2.2.2.2.2.1 y.2.2.2.2.2.1=1:=by unfold qW;rw[if_neg h1,if_pos (by omega)]
   rw[e,if_neg h1,if_pos (by decide)]
theorem pE:Mj Tryz.prog cF 104 tm yp:= {
 bT:=⟨ed.E,ed.sg.h.1 (by rfl),λx y hx hy=>⟨_,ed.run (d:=(x,y)) ⟨hx.1,hy.1⟩,rfl⟩⟩
 enters:=enters_of Tryz.func104 (by kernel_rfl) rfl
 irrefl:=λx hx=>y8.irrefl _ hx
 trans:=λx y z hx hy hz=>y8.trans _ _ _ hx hy hz
 ntrans:=λx y z hx hy hz=>y8.ntrans _ _ _ hx hy hz}
theorem nj:Mj Tryz.prog cF 103 tm mz:= {
 bT:=⟨iq.E,iq.sg.h.1 (by rfl),λx y hx hy=>⟨_,iq.run (d:=(x,y)) ⟨hx.1,hy.1⟩,rfl⟩⟩
 enters:=enters_of Tryz.func103 (by kernel_rfl) rfl
 irrefl:=λx hx=>by rw[mA hx hx,CH];decide
 trans:=λx y z hx hy hz h1 h2=>by
  rw[mA hx hy]at h1
  rw[mA hy hz]at h2
  rw[mA hx hz]
  have:=sP (by rw[lF hx,lF hy]) (by rw[lF hy,lF hz]) (by omega:lx (qd x) (qd y)<=0) (by omega:lx (qd y) (qd z)<=0)
  have h3:=this.1
  by_cases h4:lx (qd x) (qd z)=0
  ·have:=(this.2 h4).1;omega
  ·omega
 ntrans:=λx y z hx hy hz h1 h2=>by
  rw[mA hx hy]at h1
  rw[mA hy hz]at h2
  rw[mA hx hz]
  have e1:=rH (qd x) (qd y)
  have e2:=rH (qd y) (qd z)
  have e3:=rH (qd x) (qd z)
  have:=(sP (by rw[lF hz,lF hy]) (by rw[lF hy,lF hx]) (by omega:lx (qd z) (qd y)<=0) (by omega:lx (qd y) (qd x)<=0)).1
  omega}
theorem sG{x y:db}(hx:tm x)(hy:tm y)(h1:¬mz x y < 0)(h2:¬mz y x < 0):x.1=y.1:=by
 rw[mA hx hy]at h1
 rw[mA hy hx,rH]at h2
 have:=J7 (by rw[lF hx,lF hy]) (by omega:lx (qd x) (qd y)=0)
 exact Eo hx hy (List.cons.inj this).2
def Pm(g:Nat):List aw->Bool:=λvs=>match vs with | [_,.fn f _]=>Nat.beq f g | _=>false
def EN.E:Entry:=KB 104 117 cF tm yp
def EN.call:Nat×List db->Option (Nat×List db):=yX 104 117 cF tm yp
theorem EN.run{d:Nat×List db}(h:xy (t:=cF) tm yp d):EN.call d=some (d.1,tS (t:=cF) yp d.2):=CT h
def EN.sg:SG Tryz.prog:=⟨102,Pm 104,EN.E,.of (EP Tryz.KA (by rfl) (λw=>Tryz.isAgg117 w) (λw=>Tryz.sizeOf117 w) pE) (by rfl)⟩
def EO.E:Entry:=KB 103 117 cF tm mz
def EO.call:Nat×List db->Option (Nat×List db):=yX 103 117 cF tm mz
theorem EO.run{d:Nat×List db}(h:xy (t:=cF) tm mz d):EO.call d=some (d.1,tS (t:=cF) mz d.2):=CT h
def EO.sg:SG Tryz.prog:=⟨102,Pm 103,EO.E,.of (EP Tryz.KA (by rfl) (λw=>Tryz.isAgg117 w) (λw=>Tryz.sizeOf117 w) nj) (by rfl)⟩
abbrev bD.L0.D:=(List db)×Int×Int×oR×fZ
abbrev bD.L0.Y:=fZ
abbrev bD.L0.X:=(oR)×(fZ)
def bD.L0.add:bD.L0.D->bD.L0.Y->bD.L0.X:=λ(t12,t13,t14,n2,n3) y=>(n2,y)
abbrev bD.D:=(List db)
abbrev bD.Y:=fZ
def KJ(u:Int)(x:db):Int:=if x.2.2.2.2.2.1≠0/\(u=0\/x.2.2.2.2.2.1 < u) then x.2.2.2.2.2.1 else u
def SN(l:List db):Int:=l.foldl KJ 0
def fe(l:List db):fZ:=(l,(rh l,(rh l,(SN l,()))))
def FJ(g:fZ)(x:db):fZ:=(g.1,(g.2.1,(g.2.2.1,(KJ g.2.2.2.1 x,g.2.2.2.2))))
theorem w5:∀(l:List db) (g:fZ),l.foldl FJ g=(g.1,(g.2.1,(g.2.2.1,(l.foldl KJ g.2.2.2.1,g.2.2.2.2))))
 |[],g=>rfl
 |x::l,g=>by rw[cG,w5 l];rfl
def bD.L0.bf:bD.L0.D->Prop:=λ(l,n,i,z,g)=>(l).length<=1000000000/\∃k:Nat,k<=(l).length/\i=k/\n=(l).length
def bD.L0.F:bD.L0.D->bD.L0.Y:=λ(l,n,i,z,g)=>(List.drop (Int.toNat i) l).foldl FJ g
def bD.bf:bD.D->Prop:=λl=>l.length<=1000000000
def bD.F:bD.D->bD.Y:=λl=>fe l
def bD.L0:Ls bD.L0.bf bD.L0.add bD.L0.F:=ra (λ(t12,t13,t14,n2,n3)=>⟨([.undef,.undef,.ptr (.new 2 0) 0 [] 0,.ptr (.new 3 0) 0 [] 0]++bm 8 ([.d (.slice cF) t12,.d ti t13,.d ti t14]++bm 23 [])),[],([[],[],[.obj 0 false (.pr (.dp) (.d mm n2))],[.obj 0 false (.d iF n3)]]++cS 34 [])⟩) (λx=>(.exit 0,⟨([.undef,.undef,.ptr (.new 2 0) 0 [] 0,.ptr (.new 3 0) 0 [] 0]++bm 34 []),[],([[],[],[.obj 0 false (.pr (.dp) (.d mm x.1))],[.obj 0 false (.d iF x.2)]]++cS 34 [])⟩))
def bD:Fs Tryz.prog bD.bf bV bD.F:=gf 105 Tryz.f105 (λl=>([.d (.slice cF) l],[])) (λx=>⟨.d iF x,[],[]⟩) [some (.slice cF)] [bP.sg] {loops:=qu [(3,{bA:=[2,3,12,13,14],sites:=[2,3]})],outs:=qt [(3,{bA:=[2,3],sites:=[2,3]},{bA:=[2]})],jl:=qU [(3,bD.L0.E)]}
theorem bD.L0.run:bD.L0.RS:=rL [.d (.slice cF),.d ti,.d ti,.d mm,.d iF] bD.L0
theorem bD.L0.step{R:Type}(t12 t13 t14 n2 n3)(kn:K2 R)(kx:K3 R):bD.R 0 bD.L0 (t12,t13,t14,n2,n3) kn kx=
  aN ((iX t14 t13)) (
   aN (gw t14 (t12.length:Int)) (
   aN ((sx (nth cF t12 (Int.toNat t14)).2.2.2.2.2.1 0)) (
    aN ((xS n3.2.2.2.1 0)) (
     kn (bD.L0.st (t12,t13,(bQ .i64 t14 1),n2,(n3.1,(n3.2.1,(n3.2.2.1,((nth cF t12 (Int.toNat t14)).2.2.2.2.2.1,n3.2.2.2.2))))))) (
     aN ((iX (nth cF t12 (Int.toNat t14)).2.2.2.2.2.1 n3.2.2.2.1)) (
      kn (bD.L0.st (t12,t13,(bQ .i64 t14 1),n2,(n3.1,(n3.2.1,(n3.2.2.1,((nth cF t12 (Int.toNat t14)).2.2.2.2.2.1,n3.2.2.2.2))))))) (
      kn (bD.L0.st (t12,t13,(bQ .i64 t14 1),n2,n3))))) (
    kn (bD.L0.st (t12,t13,(bQ .i64 t14 1),n2,n3)))) none) (
   bD.L0.go kx (n2,n3)):=by kernel_rfl
theorem bD.eq{R:Type}(l)(k:K1 R):bD.A l k=
 aB (bP.call l) λx1=>
 aB (bP.call l) λx2=>
 aB (bD.L0.call (l,(l.length:Int),0,(0,(0,(0,()))),(l,(x1,(x2,(0,())))))) λx3=>
 k (bD.out x3.2):=by kernel_rfl
theorem bD.L0.ok:(bD.lP 0 bD.L0):=by
 refine(bD.mS 0 bD.L0) (λ(l,n,i,z,g)=>(l).length - Int.toNat i) ?_
 rintro⟨l,n,i,z,g⟩ ⟨hlen,k,hk,rfl,rfl⟩
 have hlen:(l).length<=1000000000:=hlen
 have hk:k<=(l).length:=hk
 by_cases h:k < (l).length
 ·left
  have n1:nth cF l k=l[k]:=dq (t:=cF) h
  have hd:List.drop k l=l[k]::List.drop (k+1) l:=ax h
  refine⟨(l,((l).length:Int),((k+1:Nat):Int),z,(FJ g l[k])),⟨hlen,k+1,by omega,rfl,rfl⟩,by simp only[aa];omega,?_,λkn kx=> ?_⟩
  ·simp only[bD.L0.add,bD.L0.F,aa,hd,cG]
  ·rw[bD.L0.step,aU (by omega),bt (by omega) (by omega),aa,n1]
   simp only[ag]
   rw[N.py (by omega)]
   unfold FJ KJ
   by_cases h1:l[k].2.2.2.2.2.1=0
   ·rw[cU h1,ai,if_neg (λe=>e.1 h1)]
   ·rw[fj h1,ag]
    by_cases h2:g.2.2.2.1=0
    ·rw[gq h2,ag,if_pos ⟨h1,.inl h2⟩]
    ·rw[gB h2,ai]
     by_cases h3:l[k].2.2.2.2.2.1 < g.2.2.2.1
     ·rw[aU h3,ag,if_pos ⟨h1,.inr h3⟩]
     ·rw[aW h3,ai,if_neg (λe=>e.2.elim h2 h3)]
 ·right
  obtain rfl:k=(l).length:=by omega
  intro R kn kx
  rw[bD.L0.step,aW (by omega),ai]
  simp only[bD.L0.add,bD.L0.F,aa,aY,fy]
theorem bD.ok:bD.Ok:=by
 intro l (h:l.length<=1000000000)
 have z1:((0:Int)).toNat=0:=rfl
 rw[bD.eq,bP.run (d:=l) h]
 simp only[ae,bV,bP.F]
 rw[bD.L0.run (d:=(l,(l.length:Int),0,(0,(0,(0,()))),(l,(rh l,(rh l,(0,())))))) ⟨h,0,aP _,rfl,rfl⟩]
 simp only[ae,bD.L0.add,bD.L0.F,z1,aI,w5]
 rfl
theorem bD.run:bD.RS:=rE [.d (.slice cF)] bD
def bD.sg:=bD.gk bD.ok 1 ⟨.iY bD.L0.ok,trivial⟩
def QF(c:AF):Prop:=qk c.1.2.1=true/\Ml c.1.2.1/\0<=c.1.1/\c.1.1<=1125899906842624/\0<=c.2.1/\c.2.1<=1048576
def SP(a:List (jm×AF)):Prop:=(a.map (·.1)).Nodup/\∀p∈a,IY p.1/\QF p.2
theorem SP.get{a:List (jm×AF)}(h:SP a){o:jm}{c:AF}(hg:dO gz o a=some c):QF c:=(h.2 _ ((kW kb h.1).1 hg)).2
def QC:AF:=((0,(([],()),())),(0,()))
theorem QF.own{c:AF}(h:QF c):KR c.1.2.1:=by
 have:=J4 h.1
 exact⟨by omega,λb hb=>by have:=this.2 b hb;omega⟩
def Ql(h:Int)(id:List Int)(a:List (jm×AF)):List jO->Int->Int⊕Int
 |[],jM=> .inr jM
 |x::l,jM=>match dO gz x.1 a with
  |none=> .inl 5
  |some c=>if MU c.1.2.1 x.2.1 id h (h - c.2.1)≠0 then .inl (MU c.1.2.1 x.2.1 id h (h - c.2.1)) else Ql h id a l (jM+c.1.1)
def uW(l:List na):Int:=(l.map (·.1)).sum
theorem BK{t:ke}(h:lE t=true):(oO t).length=t.2.1.length:=by
 unfold oO
 rw[if_pos h]
 simp[J8]
def Dz(l:List jm)(a:List (jm×AF)):List (jm×AF):=l.foldl (λm o=>ky gz o m) a
def Cf(h:Int):List jm->List na->List (jm×AF)->List (jm×AF)
 |o::l,x::xs,a=>Cf h l xs (iR gz o (x,(h,())) a)
 |_,_,a=>a
def yZ(t:ke)(h:Int)(a:List (jm×AF)):List (jm×AF):=Cf h (oO t) t.2.1 (Dz (jz t) a)
theorem JR{t:ke}(h:lE t=true):(jz t).length=t.1.length:=by
 unfold jz
 rw[if_pos h,cg]
theorem Kx(k:Int)(m:List Int):SQ (sm k m):=by
 unfold sm
 split
 ·exact⟨(Mb _).u,(K6 _ _).u⟩
 ·exact⟨⟨eY 0,by decide⟩,eY 0,by decide⟩
theorem DG:∀(l l':List jO) (b:List Int),l.map (·.1)=l'.map (·.1)->l.foldl AJ b=l'.foldl AJ b
 |[],[],_,_=>rfl
 |[],_::_,_,h=>by cases h
 |_::_,[],_,h=>by cases h
 |x::l,y::l',b,h=>by
  rw[bJ,bJ,du]at h
  have e:AJ b x=AJ b y:=by unfold AJ;rw[h.1]
  rw[cG,cG,e,DG l l' _ h.2]
theorem Is{l l':List jO}(t:List na×Int×Unit)(h:l.map (·.1)=l'.map (·.1)):sU (l,t)=sU (l',t):=by
 have hl:l.length=l'.length:=by have:=congrArg List.length h;simpa using this
 unfold sU
 simp only[hl]
 rw[DG l l' _ h]
theorem D3:∀(l l':List jO) (m:List (jm×Bool)),l.map (·.1)=l'.map (·.1)->tQ m l=true->(∀x∈l',so x.2.1=true)->tQ m l'=true
 |[],[],_,_,_,_=>rfl
 |[],_::_,_,h,_,_=>by cases h
 |_::_,[],_,h,_,_=>by cases h
 |x::l,y::l',m,h,hi,hw=>by
  rw[bJ,bJ,du]at h
  rw[tQ,ah,ah]at hi ⊢
  have hx:=hi.1.2
  unfold zu at hx
  rw[ah]at hx
  refine⟨⟨?_,?_⟩,?_⟩
  ·have:=hi.1.1
   unfold xN at this ⊢
   rw[<-h.1]
   exact this
  ·unfold zu
   rw[<-h.1,hx.1,hw y aK]
   rfl
  ·rw[<-h.1]
   exact D3 l l' _ h.2 hi.2 λz hz=>hw z (aH _ hz)
theorem KH{l l':List jO}{t:List na×Int×Unit}(h:l.map (·.1)=l'.map (·.1))(nm:lE (l,t)=true)(hw:∀x∈l',so x.2.1=true):lE (l',t)=true:=by
 have hl:l.length=l'.length:=by have:=congrArg List.length h;simpa using this
 unfold lE Ay at nm ⊢
 rw[ah,ah]at nm ⊢
 simp only[hl]at nm
 exact⟨nm.1,D3 l l' _ h nm.2.1 hw,nm.2.2⟩
theorem Hk{l l':List jO}{t:List na×Int×Unit}(h:l.map (·.1)=l'.map (·.1))(h1:lE (l,t)=true)(h2:lE (l',t)=true):EY (l',t)=EY (l,t):=by
 unfold EY
 rw[h1,h2,Is t h]
theorem Gu{l l':List jO}{t:List na×Int×Unit}(h:l.map (·.1)=l'.map (·.1))(h1:lE (l,t)=true)(h2:lE (l',t)=true):jz (l',t)=jz (l,t):=by
 unfold jz
 rw[h1,h2]
 exact h.symm
theorem J9{l l':List jO}{t:List na×Int×Unit}(h:l.map (·.1)=l'.map (·.1))(h1:lE (l,t)=true)(h2:lE (l',t)=true):oO (l',t)=oO (l,t):=by
 unfold oO
 rw[h1,h2,Hk h h1 h2]
def u9(t:ke)(k:Nat)(w:Fg):ke:=(t.1.set k ((nth kL t.1 k).1,w,()),t.2)
theorem wx(l:List jO)(k:Nat)(w:Fg)(h:k < l.length):l.map (·.1)=(l.set k ((nth kL l k).1,w,())).map (·.1):=by
 have n1:nth kL l k=l[k]:=dq (t:=kL) h
 rw[n1,List.map_set]
 have e:(l[k].1:jm)=(l.map (·.1))[k]'(by rw[cg];exact h):=by rw[List.getElem_map]
 show _=(l.map (·.1)).set k l[k].1
 rw[e,fw]
theorem EE{l:List jO}{k:Nat}{w:Fg}{x:jO}(h:k < l.length)(hx:x∈l.set k ((nth kL l k).1,w,())):x∈l\/(x.1=l[k].1/\x.2.1=w):=by
 have n1:nth kL l k=l[k]:=dq (t:=kL) h
 rw[n1]at hx
 rcases List.mem_or_eq_of_mem_set hx with h1 | h1
 ·exact .inl h1
 ·exact .inr ⟨by rw[h1],by rw[h1]⟩
theorem yV{t:ke}{k:Nat}{w:Fg}(h:k < t.1.length)(nm:lE t=true)(hw:so w=true):lE (u9 t k w)=true:=by
 obtain⟨_,b1,_⟩:=xA nm
 refine KH (l:=t.1) (wx t.1 k w h) nm λx hx=> ?_
 rcases EE h hx with h1 | h1
 ·have:=vI _ _ b1 x h1
  unfold zu at this
  rw[ah]at this
  exact this.2
 ·rw[h1.2];exact hw
theorem Ol{t:ke}{k:Nat}{w:Fg}(h:k < t.1.length)(hv:C2 t)(hu:M7 w)(hl:w.2.1.length<=9223372036854775807):C2 (u9 t k w):=by
 refine⟨⟨hv.1.1,by show(t.1.set k _).length<=_;rw[gW];exact hv.1.2.1,hv.1.2.2⟩,λx hx=> ?_,hv.2.2⟩
 rcases EE h hx with h1 | h1
 ·exact hv.2.1 x h1
 ·refine⟨?_,by rw[h1.2];exact hu,by rw[h1.2];exact hl⟩
  rw[h1.1]
  exact(hv.2.1 _ (bH h)).1
theorem LZ{t:ke}{k:Nat}{w:Fg}(h:k < t.1.length)(nm:lE t=true)(hw:so w=true):EY (u9 t k w)=EY t/\jz (u9 t k w)=jz t/\oO (u9 t k w)=oO t:=
 ⟨Hk (l:=t.1) (wx t.1 k w h) nm (yV h nm hw),Gu (l:=t.1) (wx t.1 k w h) nm (yV h nm hw),J9 (l:=t.1) (wx t.1 k w h) nm (yV h nm hw)⟩
theorem Kw(t:ke)(k:Nat)(w:Fg):(u9 t k w).1.length=t.1.length:=gW
def yF(t:ke)(br:Int)(ks:List Int)(sc:Int):Fg:=(br,ks.map (λk=>sm k (EY t)),sc,())
theorem EH(t:ke)(i br:Int)(ks:List Int)(sc:Int):oP t i br ks sc=if pZ t i br ks then(u9 t i.toNat (yF t br ks sc),0) else(([],[],0,()),1):=rfl
theorem EG{t:ke}{i br:Int}{ks:List Int}(h:pZ t i br ks=true):lE t=true/\(0<=i/\i < t.1.length/\0<=br/\br < 4/\ks.length<=12)/\∀k∈ks,k < 2305843009213688669/\k≠0:=by
 unfold pZ at h
 simp only[ah,decide_eq_true_eq,bC]at h
 refine⟨h.1,h.2.1,λk hk=> ?_⟩
 have:=h.2.2
 rw[jc]at this
 have:=this k hk
 unfold vn at this
 simpa using this
theorem L7{t:ke}{i br:Int}{ks:List Int}(sc:Int)(h:pZ t i br ks=true):so (yF t br ks sc)=true:=by
 have e:=(EG h).2.1
 unfold so yF
 rw[aX ⟨e.2.2.1,e.2.2.2.1⟩,aX (by rw[cg];exact e.2.2.2.2)]
 rfl
theorem Oo(t:ke)(br:Int)(ks:List Int){sc:Int}(h:lH sc):M7 (yF t br ks sc):=⟨λs hs=>by
  obtain⟨k,_,rfl⟩:=c7.1 (show s∈ks.map λk=>sm k (EY t) from hs)
  exact Kx k _,h⟩
theorem Ky{t:ke}{i br sc:Int}{ks:List Int}(hv:C2 t)(h:pZ t i br ks=true)(hs:lH sc):
  lE (u9 t i.toNat (yF t br ks sc))=true/\C2 (u9 t i.toNat (yF t br ks sc))/\EY (u9 t i.toNat (yF t br ks sc))=EY t/\jz (u9 t i.toNat (yF t br ks sc))=jz t/\oO (u9 t i.toNat (yF t br ks sc))=oO t:=by
 obtain⟨nm,e,_⟩:=EG h
 have hk:i.toNat < t.1.length:=by omega
 have hw:=L7 sc h
 exact⟨yV hk nm hw,Ol hk hv (Oo t br ks hs) (by show(ks.map _).length<=_;rw[cg];omega),LZ hk nm hw⟩
def Q8(r:OF):Prop:=r.1.length<=1000000000/\Bytes r.1
structure Uv(b:tl):Prop where
 len:b.1.length<=12
 af:E9 b.2.1
 dl:E9 b.2.2.1
def Pd(r:OF):Prop:=Q8 r/\(r.2.1=true->r.1=[])
def Ov(r r':OF)(e:List Int):Prop:=Pd r'/\(r'.2.1=false->r.2.1=false/\r.1=e++r'.1)
theorem Ov.trans{r r1 r2:OF}{e1 e2:List Int}(h1:Ov r r1 e1)(h2:Ov r1 r2 e2):Ov r r2 (e1++e2):=
 ⟨h2.1,λh=>⟨(h1.2 (h2.2 h).1).1,by rw[(h1.2 (h2.2 h).1).2,(h2.2 h).2,bw]⟩⟩
theorem Ov.of{r r':OF}{e e':List Int}(h:Ov r r' e)(he:r'.2.1=false->e=e'):Ov r r' e':=⟨h.1,λh'=>by rw[<-he h'];exact h.2 h'⟩
theorem Ov.refl{r:OF}(h:Pd r):Ov r r []:=⟨h,λh'=>⟨h',rfl⟩⟩
section
variable {β:Type} {kt:Ty}
theorem vC(hc:kt.comp=true)(o o':kt.den)(v:β):∀l:List (kt.den×β),dO kt o (iR kt o' v l)=if kt.beq o o'=true then some v else dO kt o l
 |[]=>by rw[Ih,jo,xj]
 |p::l=>by
  rw[uS]
  by_cases h:kt.beq o' p.1=true
  ·rw[if_pos h,jo,jo]
   have e:=beq_eq kt _ _ hc h
   by_cases h2:kt.beq o o'=true
   ·rw[if_pos h2,if_pos h2]
   ·rw[if_neg h2,if_neg h2,if_neg (by rw[<-e];exact h2)]
  ·rw[if_neg h,jo,jo,vC hc o o' v l]
   by_cases h3:kt.beq o p.1=true
   ·rw[if_pos h3,if_pos h3,if_neg]
    intro h4
    apply h
    rw[<-beq_eq kt _ _ hc h4]
    exact h3
   ·rw[if_neg h3,if_neg h3]
theorem GX(hc:kt.comp=true)(o o':kt.den):∀ {l:List (kt.den×β)},(l.map (·.1)).Nodup->dO kt o (ky kt o' l)=if kt.beq o o'=true then none else dO kt o l
 |[],_=>by rw[Ig,xj];split <;> rfl
 |p::l,hn=>by
  rw[bJ,c8]at hn
  rw[uR]
  by_cases h:kt.beq o' p.1=true
  ·rw[if_pos h,jo]
   have e:=beq_eq kt _ _ hc h
   by_cases h2:kt.beq o o'=true
   ·rw[if_pos h2]
    have e2:=beq_eq kt _ _ hc h2
    cases hg:dO kt o l with
    |none=>rfl
    |some v=>exact absurd (c7.2 ⟨_,(kW hc hn.2).1 hg,rfl⟩) (by rw[e2,e];exact hn.1)
   ·rw[if_neg h2,if_neg (by rw[<-e];exact h2)]
  ·rw[if_neg h,jo,jo,GX hc o o' hn.2]
   by_cases h3:kt.beq o p.1=true
   ·rw[if_pos h3,if_pos h3,if_neg]
    intro h4
    apply h
    rw[<-beq_eq kt _ _ hc h4]
    exact h3
   ·rw[if_neg h3,if_neg h3]
theorem get_none(hc:kt.comp=true){o:kt.den}{l:List (kt.den×β)}(hn:(l.map (·.1)).Nodup):dO kt o l=none↔o ∉ l.map (·.1):=by
 constructor
 ·intro h hm
  obtain⟨p,hp,e⟩:=c7.1 hm
  have e:p.1=o:=e
  have:=(kW hc hn (x:=o) (v:=p.2)).2 (by rw[<-e];exact hp)
  rw[h]at this;cases this
 ·intro h
  cases hg:dO kt o l with
  |none=>rfl
  |some v=>exact absurd (c7.2 ⟨_,(kW hc hn).1 hg,rfl⟩) h
theorem uc{l:List (kt.den×β)}(hn:(l.map (·.1)).Nodup):l.Nodup:=by
 induction l with
 |nil=>exact iL
 |cons p l ih=>
  rw[bJ,c8]at hn
  exact c8.2 ⟨λh=>hn.1 (c7.2 ⟨p,h,rfl⟩),ih hn.2⟩
theorem Eu(hc:kt.comp=true){l l':List (kt.den×β)}(hn:(l.map (·.1)).Nodup)(hn':(l'.map (·.1)).Nodup)(h:∀o,dO kt o l=dO kt o l'):l.Perm l':=by
 rw[List.perm_ext_iff_of_nodup (uc hn) (uc hn')]
 rintro⟨o,v⟩
 rw[<-kW hc hn,<-kW hc hn',h]
end
theorem AM(a b:jm):(Ty.beq gz a b=true)↔a=b:=⟨beq_eq gz a b rfl,λh=>by rw[h];exact beq_refl gz b rfl⟩
abbrev At:=List (jm×AF)
abbrev pQ(a:At):List jm:=a.map (·.1)
theorem NC(o o':jm)(v:AF)(a:At):dO gz o (iR gz o' v a)=if o=o' then some v else dO gz o a:=by
 rw[vC kb]
 by_cases h:o=o'
 ·rw[if_pos ((AM _ _).2 h),if_pos h]
 ·rw[if_neg (λe=>h ((AM _ _).1 e)),if_neg h]
theorem Lm(o o':jm){a:At}(hn:(pQ a).Nodup):dO gz o (ky gz o' a)=if o=o' then none else dO gz o a:=by
 rw[GX kb _ _ hn]
 by_cases h:o=o'
 ·rw[if_pos ((AM _ _).2 h),if_pos h]
 ·rw[if_neg (λe=>h ((AM _ _).1 e)),if_neg h]
theorem FK{o:jm}{v:AF}{a:At}(hn:(pQ a).Nodup):(pQ (iR gz o v a)).Nodup:=yf kb hn
theorem pM{o:jm}{a:At}(hn:(pQ a).Nodup):(pQ (ky gz o a)).Nodup:=sS kb hn
theorem Pq{a a':At}(hn:(pQ a).Nodup)(hn':(pQ a').Nodup)(h:∀o,dO gz o a=dO gz o a'):a.Perm a':=Eu kb hn hn' h
theorem GA{o:jm}{c:AF}{a:At}(hn:(pQ a).Nodup)(hg:dO gz o a=some c):a.Perm ((o,c)::ky gz o a):=by
 refine Pq hn ?_ λx=> ?_
 ·show(o::pQ (ky gz o a)).Nodup
  refine c8.2 ⟨?_,pM hn⟩
  have:=(get_none kb (pM (o:=o) hn)).1 (by rw[Lm o o hn,if_pos rfl])
  exact this
 ·rw[jo,Lm x o hn]
  by_cases h:x=o
  ·subst h;rw[if_pos ((AM _ _).2 rfl),hg]
  ·rw[if_neg (λe=>h ((AM _ _).1 e)),if_neg h]
theorem wT(o:jm)(l:List jm)(a:At):Dz (o::l) a=Dz l (ky gz o a):=rfl
theorem za:∀(l:List jm) {a:At},(pQ a).Nodup->(pQ (Dz l a)).Nodup
 |[],_,h=>h
 |o::l,a,h=>by rw[wT];exact za l (pM h)
theorem Mt(x:jm):∀(l:List jm) {a:At},(pQ a).Nodup->dO gz x (Dz l a)=if x∈l then none else dO gz x a
 |[],a,_=>by rw[if_neg (by simp)];rfl
 |o::l,a,h=>by
  rw[wT,Mt x l (pM h),Lm x o h]
  by_cases h1:x∈l
  ·rw[if_pos h1,if_pos (aH _ h1)]
  ·rw[if_neg h1]
   by_cases h2:x=o
   ·rw[if_pos h2,if_pos (by rw[h2];exact aK ..)]
   ·rw[if_neg h2,if_neg (by simp[h1,h2])]
theorem wL(h:Int)(o:jm)(l:List jm)(x:na)(xs:List na)(a:At):Cf h (o::l) (x::xs) a=Cf h l xs (iR gz o (x,(h,())) a):=rfl
theorem Ms(h:Int)(x:jm):∀(l:List jm) (xs:List na) (a:At),x ∉ l->dO gz x (Cf h l xs a)=dO gz x a
 |[],[],_,_=>rfl
 |[],_::_,_,_=>rfl
 |_::_,[],_,_=>rfl
 |o::l,y::xs,a,hx=>by
  rw[wL,Ms h x l xs _ (λe=>hx (aH _ e)),NC,if_neg (λe=>hx (by rw[e];exact aK ..))]
theorem DM(h:Int):∀(l:List jm) (xs:List na) (a:At),l.Nodup->∀(k:Nat) (hk:k < l.length) (DX:k < xs.length),dO gz l[k] (Cf h l xs a)=some (xs[k],(h,()))
 |[],_,_,_,k,hk,_=>by simp at hk
 |_::_,[],_,_,k,_,hk=>by simp at hk
 |o::l,y::xs,a,hn,k,hk,DX=>by
  rw[c8]at hn
  rw[wL]
  cases k with
  |zero=>
   show dO gz o _=some (y,(h,()))
   rw[Ms h o l xs _ hn.1,NC,if_pos rfl]
  |succ k=>
   simp only[List.getElem_cons_succ]
   exact DM h l xs _ hn.2 k (by simpa using hk) (by simpa using DX)
def rX(a:At)(l:List jm):Int:=(l.map λo=>((dO gz o a).getD QC).1.1).sum
theorem DA:∀(l:List jm) {a:At},(pQ a).Nodup->l.Nodup->(∀o∈l,(dO gz o a).isSome=true)->sw (Dz l a)=sw a - rX a l/\(Dz l a).length+l.length=a.length
 |[],a,_,_,_=>by simp[Dz,rX]
 |o::l,a,hn,hl,ht=>by
  rw[c8]at hl
  obtain⟨c,hc⟩:=bS.1 (ht o (aK ..))
  have hg:∀x∈l,dO gz x (ky gz o a)=dO gz x a:=λx hx=>by
   rw[Lm x o hn,if_neg (λe=>hl.1 (by rw[<-e];exact hx))]
  obtain⟨h1,h2⟩:=DA l (pM (o:=o) hn) hl.2 λx hx=>by rw[hg x hx];exact ht x (aH _ hx)
  have hp:=GA hn hc
  have h3:=Hr hp
  have h4:=hp.length_eq
  have h5:rX (ky gz o a) l=rX a l:=by
   unfold rX
   congr 1
   exact ga λx hx=>by rw[hg x hx]
  rw[nh]at h3
  rw[aG]at h4
  rw[wT,h1,h5,aG]
  have h6:rX a (o::l)=c.1.1+rX a l:=by simp[rX,hc]
  rw[h6]
  exact⟨by have h3:sw a=c.1.1+sw (ky gz o a):=h3;omega,by omega⟩
theorem Es(x:na)(xs:List na):uW (x::xs)=x.1+uW xs:=by simp[uW]
theorem C9(h:Int):∀(l:List jm) (xs:List na) {a:At},(pQ a).Nodup->l.Nodup->l.length=xs.length->(∀o∈l,dO gz o a=none)->sw (Cf h l xs a)=sw a+uW xs/\(Cf h l xs a).length=a.length+l.length
 |[],[],a,_,_,_,_=>by simp[Cf,uW]
 |[],_::_,_,_,_,he,_=>by simp at he
 |_::_,[],_,_,_,he,_=>by simp at he
 |o::l,x::xs,a,hn,hl,he,ht=>by
  rw[c8]at hl
  have h0:=(get_none kb hn).1 (ht o (aK ..))
  have e:iR gz o (x,(h,())) a=a++ [(o,(x,(h,())))]:=ye kb h0
  obtain⟨h1,h2⟩:=C9 h l xs (FK (o:=o) (v:=(x,(h,()))) hn) hl.2 (by simpa using he) λy hy=>by
   rw[NC,if_neg (λe=>hl.1 (by rw[<-e];exact hy))];exact ht y (aH _ hy)
  rw[wL,h1,h2,e,Dc,Es,av]
  simp only[sw,bJ,fE,List.sum_cons,List.sum_nil,aG,aZ]
  omega
theorem zy:∀(l:List jO) (m:List (jm×Bool)),tQ m l=true->(l.map (·.1)).Nodup/\∀x∈l,dO gz x.1 m≠some true
 |[],_,_=>⟨iL,λ_ h=>by cases h⟩
 |x::l,m,h=>by
  rw[tQ,ah,ah]at h
  obtain⟨⟨h1,_⟩,h2⟩:=h
  obtain⟨h3,h4⟩:=zy l _ h2
  have hs:∀y∈l,dO gz y.1 (iR gz x.1 true m)≠some true:=h4
  have gS:∀y∈l,y.1≠x.1:=λy hy e=>hs y hy (by rw[vC kb,if_pos ((AM _ _).2 e)])
  refine⟨?_,λy hy=> ?_⟩
  ·rw[bJ,c8]
   refine⟨λhm=> ?_,h3⟩
   obtain⟨y,hy,e⟩:=c7.1 hm
   exact gS y hy e
  ·rcases bY.1 hy with rfl | hy
   ·intro e
    unfold xN at h1
    rw[e]at h1
    cases h1
   ·have:=hs y hy
    rw[vC kb,if_neg (λe=>gS y hy ((AM _ _).1 e))]at this
    exact this
theorem CR(t:ke):(jz t).Nodup:=by
 unfold jz
 split
 ·rename_i h
  exact(zy _ _ (xA h).2.1).1
 ·exact iL
theorem zI(t:ke):(oO t).Nodup:=by
 unfold oO
 split
 ·unfold J8
  refine List.Pairwise.map _ (λa b gS e=> ?_) (List.nodup_range' (s:=0) (n:=t.2.1.length) (step:=1))
  have:(a:Int)=b:=congrArg (λo:jm=>o.2.1) e
  exact gS (by omega)
 ·exact iL
structure Ca(t:ke)(h:Int)(a:At)(jM:Int):Prop where
 ok:lE t=true
 h1:1<=h
 h2:h<=1048576
 ins:∃f,Ql h (EY t) a t.1 0= .inr f/\jM=f - uW t.2.1
 there:∀o∈jz t,(dO gz o a).isSome=true
 made:∀o∈oO t,dO gz o a=none
 Pk:jM=rX a (jz t) - uW t.2.1
 pos:0<=jM
section
variable {t:ke} {h jM:Int} {a:At}
theorem Ca.new(hc:Ca t h a jM){k:Nat}(hk:k < (oO t).length)(DX:k < t.2.1.length):dO gz (oO t)[k] (yZ t h a)=some (t.2.1[k],(h,())):=by
 unfold yZ
 exact DM h _ _ _ (zI t) k hk DX
theorem Ca.sum(hc:Ca t h a jM)(ha:(pQ a).Nodup):sw (yZ t h a)=sw a - jM/\(yZ t h a).length+t.1.length=a.length+t.2.1.length:=by
 obtain⟨d1,d2⟩:=DA (jz t) ha (CR t) hc.there
 obtain⟨e1,e2⟩:=C9 h (oO t) t.2.1 (za (jz t) ha) (zI t) (BK hc.ok) λo ho=>by
  rw[Mt o _ ha];split
  ·rfl
  ·exact hc.made o ho
 have hf:=hc.Pk
 have hl:=JR hc.ok
 have hm:=BK hc.ok
 unfold yZ
 rw[e1,e2,d1]
 exact⟨by omega,by omega⟩
end
end Go.Ab
namespace Go.Ab
open Go.Proofs
def xD(x:db):Bool:=decide (0<=x.2.1.1/\x.2.1.1<=1099511627776)
def nw:List (jm×Bool)->List db->Bool
 |_,[]=>true
 |m,x::l=>if((dO gz x.1 m).getD false)=true then false else if xD x=true then nw (iR gz x.1 true m) l else false
def u5(l:List db):Bool:=decide (l.length<=64) && nw [] l
theorem u7:∀(l:List db) (m:List (jm×Bool)),nw m l=true↔(l.map (·.1)).Nodup/\(∀x∈l,(dO gz x.1 m).getD false=false)/\∀x∈l,xD x=true
 |[],m=>by simp[nw]
 |x::l,m=>by
  have ih:=u7 l (iR gz x.1 true m)
  have hg:∀y:db,(dO gz y.1 (iR gz x.1 true m)).getD false=if y.1=x.1 then true else(dO gz y.1 m).getD false:=λy=>by
   rw[vC (kt:=gz) kb]
   by_cases e:y.1=x.1
   ·rw[if_pos ((AM _ _).2 e),if_pos e];rfl
   ·rw[if_neg (λh=>e ((AM _ _).1 h)),if_neg e]
  simp only[nw,bJ,c8,bY,forall_eq_or_imp]
  by_cases h1:(dO gz x.1 m).getD false=true
  ·rw[if_pos h1]
   refine⟨λh=>(by cases h),λh=> ?_⟩
   rw[h.2.1.1]at h1;cases h1
  ·rw[if_neg h1]
   have h1':(dO gz x.1 m).getD false=false:=by simpa using h1
   by_cases h2:xD x=true
   ·rw[if_pos h2,ih]
    constructor
    ·rintro⟨a1,a2,a3⟩
     have hx:∀y∈l,y.1≠x.1:=λy hy e=>by
      have:=a2 y hy
      rw[hg,if_pos e]at this;cases this
     refine⟨⟨λhm=> ?_,a1⟩,⟨h1',λy hy=> ?_⟩,h2,a3⟩
     ·obtain⟨y,hy,e⟩:=c7.1 hm
      exact hx y hy e
     ·have:=a2 y hy
      rwa[hg,if_neg (hx y hy)]at this
    ·rintro⟨⟨b0,b1⟩,⟨_,b2⟩,_,b3⟩
     refine⟨b1,λy hy=> ?_,b3⟩
     rw[hg,if_neg (λe=>b0 (by rw[<-e];exact gZ hy))]
     exact b2 y hy
   ·rw[if_neg h2]
    exact⟨λh=>(by cases h),λh=>absurd h.2.2.1 h2⟩
theorem u6(l:List db):u5 l=true↔l.length<=64/\(l.map (·.1)).Nodup/\∀x∈l,0<=x.2.1.1/\x.2.1.1<=1099511627776:=by
 unfold u5
 rw[ah,decide_eq_true_eq,u7]
 refine and_congr Iff.rfl ⟨λh=>⟨h.1,λx hx=>of_decide_eq_true (h.2.2 x hx)⟩,λh=>⟨h.1,λx _=>rfl,λx hx=>decide_eq_true (h.2 x hx)⟩⟩
abbrev bl.L0.D:=(List db)×Int×Int×(List (jm×Bool))
def bl.L0.st:bl.L0.D->AS:=λ(t10,t11,t12,n9)=>⟨([.undef,.undef,.undef,.l9 (.new 9 0) 0]++bm 6 ([.d (.slice cF) t10,.d ti t11,.d ti t12]++bm 23 [])),[],(cS 9 ([[.obj 0 false (.mp gz .bool n9)]]++cS 26 []))⟩
abbrev bl.L0.Y0:=Unit
abbrev bl.L0.X0:=Unit
def bl.L0.dY:bl.L0.X0->Exit×AS:=λx=>(.ret,⟨([.undef,.undef,.d .bool false]++bm 33 []),[],(List.replicate 36 [])⟩)
abbrev bl.L0.Y1:=Unit
abbrev bl.L0.X1:=Unit
def bl.L0.gN:bl.L0.X1->Exit×AS:=λx=>(.exit 0,⟨(bm 36 []),[],(List.replicate 36 [])⟩)
abbrev bl.L0.X:=(bl.L0.X0)⊕(bl.L0.X1)
abbrev bl.L0.Y:=(bl.L0.Y0)⊕(bl.L0.Y1)
def bl.L0.out:bl.L0.X->Out (Exit×AS):=λx=> .br x.isLeft (.get x.getLeft? λa=> .ok (bl.L0.dY a)) (.get x.getRight? λb=> .ok (bl.L0.gN b))
def bl.L0.add:bl.L0.D->bl.L0.Y->bl.L0.X:=λ(t10,t11,t12,n9) y=>match y with | .inl y=> .inl y | .inr z=> .inr (z)
abbrev bl.D:=(List db)
abbrev bl.Y:=Bool
def bl.L0.bf:bl.L0.D->Prop:=λ(l,n,i,_)=>l.length<=64/\n=(l.length:Int)/\∃k:Nat,k<=l.length/\i=k
def bl.L0.F:bl.L0.D->bl.L0.Y:=λ(l,_,i,m)=>if nw m (l.drop i.toNat)=true then .inr () else .inl ()
def bl.bf:bl.D->Prop:=λ_=>True
def bl.F:bl.D->bl.Y:=λl=>u5 l
def bl.L0.E:=eR.iY bl.L0.st bl.L0.bf bl.L0.add bl.L0.F bl.L0.out
def bl.L0.call:bl.L0.D->Option bl.L0.X:=kE bl.L0.E bl.L0.st
def bl:Fs Tryz.prog bl.bf bV bl.F:=gf 99 Tryz.f99 (λl=>([.d (.slice cF) l],[])) (λx=>⟨.d .bool x,[],[]⟩) [some (.slice cF)] [] {loops:=qu [(5,{bA:=[3,10,11,12],sites:=[9]})],outs:=qt [(5,{},{bA:=[2]})],jl:=qU [(5,bl.L0.E)]}
def bl.L0.R:= @iN Tryz.prog (mR bl.G) bl.an 0 Tryz.f99 0 _ bl.L0.st
abbrev bl.L0.Ok:=oS Tryz.prog (mR bl.G) bl.an 0 Tryz.f99 0 bl.L0.st bl.L0.bf bl.L0.add bl.L0.F bl.L0.out
theorem bl.L0.run:ng bl.L0.call bl.L0.bf bl.L0.add bl.L0.F:=ql (o8 [.d (.slice cF),.d ti,.d ti,.d (.slice (.pair gz .bool))] λ_=>by kernel_rfl)
theorem bl.L0.da:qh @bl.L0.R bl.L0.st bl.L0.bf bl.L0.add bl.L0.F bl.L0.out bl.L0.Ok:=qH
theorem bl.L0.step{R:Type}(t10:(List db))(t11:Int)(t12:Int)(n9:(List (jm×Bool)))(kn:AS->Option R)(kx:Exit->AS->Option R):bl.L0.R (t10,t11,t12,n9) kn kx=
  aN ((iX t12 t11)) (
   aN (gw t12 (((List.length t10):Nat):Int)) (
   aN (((dO gz (nth cF t10 (Int.toNat t12)).1 n9).getD false)) (
    kx (bl.L0.dY ()).1 (bl.L0.dY ()).2) (
    aN ((iX (nth cF t10 (Int.toNat t12)).2.1.1 (0:Int))) (
     kx (bl.L0.dY ()).1 (bl.L0.dY ()).2) (
     aN ((ri (nth cF t10 (Int.toNat t12)).2.1.1 (1099511627776:Int))) (
      kx (bl.L0.dY ()).1 (bl.L0.dY ()).2) (
      kn (bl.L0.st (t10,t11,(bQ .i64 t12 (1:Int)),(iR gz (nth cF t10 (Int.toNat t12)).1 true n9))))))) none) (
   kx (bl.L0.gN ()).1 (bl.L0.gN ()).2):=by kernel_rfl
theorem bl.eq{R:Type}(l)(k:K1 R):bl.A l k=
  aN ((ri (l.length:Int) 64)) (
   k (bl.out false)) (
   aB (bl.L0.call (l,(l.length:Int),0,([]:List (jm×Bool)))) λx1=>
   aN (x1.isLeft) (
    aB (x1.getLeft?) λa2=>
    k (bl.out false)) (
    aB (x1.getRight?) λb3=>
    k (bl.out true))):=by kernel_rfl
theorem bl.L0.ok:bl.L0.Ok:=by
 refine bl.L0.da (λ(l,_,i,_)=>l.length - i.toNat) ?_
 rintro⟨l,n,i,m⟩ ⟨hl,rfl,k,hk,rfl⟩
 have hl:l.length<=64:=hl
 have hk:k<=l.length:=hk
 by_cases h:k < l.length
 ·have n1:nth cF l k=l[k]:=dq (t:=cF) h
  have hd:l.drop k=l[k]::l.drop (k+1):=ax h
  by_cases h1:(dO gz l[k].1 m).getD false=true
  ·right
   refine⟨bl.L0.dY (),?_,λkn kx=> ?_⟩
   ·simp only[bl.L0.add,bl.L0.F,aa,hd,nw,if_pos h1,bN,if_false];rfl
   ·rw[bl.L0.step,aU (by omega),ag,bt (by omega) (by omega),ag,aa,n1,h1,ag]
  ·have h1':(dO gz l[k].1 m).getD false=false:=by simpa using h1
   by_cases h2:xD l[k]=true
   ·left
    have h3:=of_decide_eq_true h2
    refine⟨(l,(l.length:Int),((k+1:Nat):Int),iR gz l[k].1 true m),⟨hl,rfl,k+1,by omega,rfl⟩,by simp only[aa];omega,?_,λkn kx=> ?_⟩
    ·simp only[bl.L0.add,bl.L0.F,aa,hd,nw,if_neg h1,if_pos h2]
    ·rw[bl.L0.step,aU (by omega),ag,bt (by omega) (by omega),ag,aa,n1,h1',ai,aW (by omega),ai,di (by omega),ai,N.py (by omega)]
   ·right
    refine⟨bl.L0.dY (),?_,λkn kx=> ?_⟩
    ·simp only[bl.L0.add,bl.L0.F,aa,hd,nw,if_neg h1,if_neg h2,bN,if_false];rfl
    ·rw[bl.L0.step,aU (by omega),ag,bt (by omega) (by omega),ag,aa,n1,h1',ai]
     by_cases h3:l[k].2.1.1 < 0
     ·rw[aU h3,ag]
     ·rw[aW h3,ai,dA,ag]
      refine Classical.byContradiction λh4=>h2 (decide_eq_true ⟨by omega,by omega⟩)
 ·right
  obtain rfl:k=l.length:=by omega
  refine⟨bl.L0.gN (),?_,λkn kx=> ?_⟩
  ·simp only[bl.L0.add,bl.L0.F,aa,aY,nw,if_true];rfl
  ·rw[bl.L0.step,aW (by omega),ai]
theorem bl.ok:bl.Ok:=by
 intro l _
 have z1:((0:Int)).toNat=0:=rfl
 rw[bl.eq]
 simp only[bV,bl.F,u5]
 by_cases h:l.length<=64
 ·rw[di (by omega),ai,bl.L0.run (d:=(l,(l.length:Int),0,[])) ⟨h,rfl,0,aP _,rfl⟩,aX h]
  simp only[ae,bl.L0.add,bl.L0.F,z1,aI]
  cases nw [] l <;> rfl
 ·rw[dA (by omega),ag,cC h]
  rfl
theorem bl.run:bl.RS:=rE [.d (.slice cF)] bl
def bl.sg:=bl.gk bl.ok 1 ⟨.iY bl.L0.ok,trivial⟩
def jU(h:Int)(x:db):Bool:=rq x h && !decide (x.2.1.1 < rh [x])
def iw(b:oR)(h:Int)(x:db):Bool:=decide (x.2.2.2.2.2.1≠0/\x.2.2.2.2.2.1 - h<=2*jw b)
abbrev gh.D:=db×Int×oR
abbrev gh.Y:=Bool
def gh.bf:gh.D->Prop:=λ(x,h,_)=>(1<=h/\h<=1048576)/\(x.2.2.2.2.2.1=0\/h < x.2.2.2.2.2.1)/\x.2.2.2.2.2.1<=9223372036854775807
def gh.F:gh.D->gh.Y:=λ(x,h,b)=>iw b h x
def gh:Fs Tryz.prog gh.bf bV gh.F:=gf 100 Tryz.f100 (λ(x,t1,t2)=>([.d cF x,.eS ti t1,.eS mm t2],[])) (λx=>⟨.d .bool x,[],[]⟩) [some cF,none,none] [gg.sg]
theorem gh.eq{R:Type}(x t1 t2)(k:K1 R):gh.A (x,t1,t2) k=
  aN ((sx x.2.2.2.2.2.1 0)) (
   aB (gg.call t2) λx1=>
   k (gh.out (zt (dC .i64 x.2.2.2.2.2.1 t1) (iv .i64 2 x1)))) (
   k (gh.out false)):=by kernel_rfl
theorem gh.ok:gh.Ok:=by
 rintro⟨x,h,b⟩ ⟨⟨h1,h2⟩,h3,h4⟩
 have h3:x.2.2.2.2.2.1=0\/h < x.2.2.2.2.2.1:=h3
 have h4:x.2.2.2.2.2.1<=9223372036854775807:=h4
 have h1:1<=h:=h1
 have hs:=yW b
 rw[gh.eq]
 simp only[bV,gh.F,iw]
 by_cases a1:x.2.2.2.2.2.1=0
 ·rw[cU a1,ai,decide_eq_false (λe=>e.1 a1)]
 ·rw[fj a1,ag,gg.run (d:=b) trivial]
  simp only[ae,bV,gg.F]
  rw[ee (by omega) (by omega),pP (by omega) (by omega)]
  by_cases a2:x.2.2.2.2.2.1 - h<=2*jw b
  ·rw[hZ a2,decide_eq_true ⟨a1,a2⟩]
  ·rw[fO a2,decide_eq_false (λe=>a2 e.2)]
theorem gh.run:gh.RS:=rE [.d cF,.d ti,.d mm] gh
def gh.sg:=gh.gk gh.ok
abbrev fA.D:=(List db)×Int
abbrev fA.Y:=Unit
abbrev fA.X:=(List db)×Int
def fA.add:fA.D->fA.Y->fA.X:=λ(sv,n) y=>(sv,n)
def fA.bf:fA.D->Prop:=λ(_,n)=>1<=n
def fA.F:fA.D->fA.Y:=λ_=>()
def fA:Fs Tryz.prog fA.bf fA.add fA.F:=gf 106 Tryz.f106 (λ(sv,n)=>([.d (.slice cF) sv,.d ti n],[])) (λx=>⟨.fn 167 (.cons (.ptr (.new 0 0) 0 [] 0) (.cons (.ptr (.new 0 1) 0 [] 0) (.nil))),[],[.obj 0 false (.d (.slice cF) x.1),.obj 0 false (.d ti x.2)]⟩) [some (.slice cF),some ti] [] {bE:=[2,3]}
theorem fA.eq{R:Type}(sv n)(k:K1 R):fA.A (sv,n) k=
  aN ((iX n 1)) (
   none) (
   k (fA.out (sv,n))):=by kernel_rfl
theorem fA.ok:fA.Ok:=by
 rintro⟨l,n⟩ h
 have h:1<=n:=h
 rw[fA.eq,aW (by omega),ai]
 rfl
theorem fA.run:fA.RS:=rE [.d (.slice cF),.d ti] fA
def fA.sg:=fA.gk fA.ok
abbrev j9.D:=(List db)×Nat×(List fZ)
abbrev j9.Y:=Nat×(List fZ)
def j9.bf:j9.D->Prop:=λ(c,n,l)=>c.length<=1000000/\n=l.length/\n<=1000000
def j9.F:j9.D->j9.Y:=λ(c,n,l)=>(n+1,l++ [fe c])
def j9:Fs Tryz.prog j9.bf bV j9.F:=gf 4294968000 (M4 Tryz.prog 4294968000) (λ(t106,o1L,o2)=>(([.yl (.dw 0) 0,.d (.slice cF) t106]++bm 15 ([.ptr (.dw 1) 0 [] 0]++bm 154 [])),[.obj 0 false (.ow (rV Tryz.prog 4294968000) (pF (bm 15 ([.ptr (.dw 1) 0 [] 0]++bm 154 []))) 0),.obj 0 false (.cO (.dw 2) 0 [] 0 0 o1L),.obj 0 false (.vec 105 iF o2)])) (λx=>⟨.d .bool true,[.obj 0 false (.ow (rV Tryz.prog 4294968000) (pF (bm 15 ([.ptr (.dw 1) 0 [] 0]++bm 154 []))) 0),.obj 0 false (.cO (.dw 2) 1 [] 0 0 x.1),.obj 1 false (.vec 105 iF x.2)],[]⟩) [none,none,none,none,none,none,none,none,none,none,none,none,none,none,none,none,none,none,none,none,none,none,none,none,none,none,none,none,none,none,none,none,none,none,none,none,none,none,none,none,none,none,none,none,none,none,none,none,none,none,none,none,none,none,none,none,none,none,none,none,none,none,none,none,none,none,none,none,none,none,none,none,none,none,none,none,none,none,none,none,none,none,none,none,none,none,none,none,none,none,none,none,none,none,none,none,none,none,none,none,none,none,none,none,none,none,none,none,none,none,none,none,none,none,none,none,none,none,none,none,none,none,none,none,none,none,none,none,none,none,none,none,none,none,none,none,none,none,none,none,none,none,none,none,none,none,none,none,none,none,none,none,none,none,none,none,none,none,none,none,none,none,none,none,none,none,none,none,none,none,none,none] [bD.sg] {mS:=some 4294968000}
theorem j9.eq{R:Type}(t106 o1L o2)(k:K1 R):j9.A (t106,o1L,o2) k=
 aB (bD.call t106) λx1=>
 aN (decide (o1L<=(List.length o2))) (
 aN (dX (o1L+1) 48) (
 k (j9.out ((o1L+1),((List.take o1L o2)++ [x1])))) none) none:=by kernel_rfl
theorem j9.ok:j9.Ok:=by
 rintro⟨c,n,l⟩ ⟨h1,rfl,h2⟩
 have h1:c.length<=1000000:=h1
 have h2:l.length<=1000000:=h2
 rw[j9.eq,bD.run (d:=c) (by show c.length<=_;omega)]
 simp only[ae,bV,bD.F]
 rw[aX (az _),ag,fh (by omega) (by omega),ag,c9]
 rfl
theorem j9.run:j9.RS:=rE [.d (.slice cF),.n,.d (.slice iF)] j9
def j9.sg:=j9.Uj j9.ok
abbrev fq.L0.D:=Int×Nat×(List fZ)×(List db)×Int
abbrev fq.L0.Y:=Nat×(List fZ)
abbrev fq.L0.X:=((List db)×Int)×(Nat×(List fZ))
def fq.L0.add:fq.L0.D->fq.L0.Y->fq.L0.X:=λ(i,BU,Im,nY,uV) y=>((nY,uV),y)
abbrev fq.D:=Nat×(List fZ)×(List db)×Int
abbrev fq.Y:=Nat×(List fZ)×(List db)×Int
def uv{α:Type}(n:Nat):Nat->List α->List (List α)
 | 0,_=> []
 |_+1,[]=> []
 |f+1,x::l=>(x::l).take n::uv n f ((x::l).drop n)
theorem xI{α:Type}{n:Nat}(hn:1<=n):∀(f f':Nat) (l:List α),l.length<=f->l.length<=f'->uv n f l=uv n f' l
 | 0,f',l,h,_=>by
  obtain rfl:=aQ (Nat.le_zero.1 h)
  cases f' <;> rfl
 |f+1,0,l,_,h=>by
  obtain rfl:=aQ (Nat.le_zero.1 h)
  rfl
 |f+1,f'+1,[],_,_=>rfl
 |f+1,f'+1,x::l,h,h'=>by
  rw[aG]at h h'
  have e:((x::l).drop n).length<=l.length:=by rw[cq,aG];omega
  rw[uv,uv,xI hn f f' _ (by omega) (by omega)]
def fF{α:Type}(l:List α):List (List α):=uv 8 l.length l
theorem qp{α:Type}{l:List α}(h:0 < l.length):fF l=l.take 8::fF (l.drop 8):=by
 cases l with
 |nil=>cases h
 |cons x l=>
  unfold fF
  rw[aG,uv]
  congr 1
  refine xI (by decide) _ _ _ ?_ (az _)
  rw[cq,aG]
  omega
theorem y6{α:Type}:fF ([]:List α)=[]:=rfl
def fq.L0.bf:fq.L0.D->Prop:=λ(i,n,o2,l,c)=>c=8/\l.length<=1000/\n=o2.length/\∃k:Nat,i=k/\k<=l.length+8/\n<=1000+k
def fq.L0.F:fq.L0.D->fq.L0.Y:=λ(i,n,o2,l,_)=>(n+(fF (l.drop i.toNat)).length,o2++(fF (l.drop i.toNat)).map fe)
def fq.bf:fq.D->Prop:=λ(n,o2,l,c)=>c=8/\l.length<=1000/\n=o2.length/\n<=1000
def fq.F:fq.D->fq.Y:=λ(n,o2,l,c)=>(n+(fF l).length,o2++(fF l).map fe,l,c)
def fq.L0:Ls fq.L0.bf fq.L0.add fq.L0.F:=ra (λ(i,BU,Im,nY,uV)=>⟨([.yl (.dw 0) 0,.ptr (.dw 3) 0 [] 0,.ptr (.dw 4) 0 [] 0,.undef,.d ti i]++bm 26 []),[.obj 0 false (.ow (rV Tryz.prog 4294968000) (pF (bm 15 ([.ptr (.dw 1) 0 [] 0]++bm 154 []))) 0),.obj 0 false (.cO (.dw 2) 1 [] 0 0 BU),.obj 1 false (.vec 105 iF Im),.obj 0 false (.d (.slice cF) nY),.obj 0 false (.d ti uV)],(List.replicate 31 [])⟩) (λx=>(.exit 0,⟨(bm 31 []),[.obj 0 false (.ow (rV Tryz.prog 4294968000) (pF (bm 15 ([.ptr (.dw 1) 0 [] 0]++bm 154 []))) 0),.obj 0 false (.cO (.dw 2) 1 [] 0 0 x.2.1),.obj 1 false (.vec 105 iF x.2.2),.obj 0 false (.d (.slice cF) x.1.1),.obj 0 false (.d ti x.1.2)],(List.replicate 31 [])⟩))
def fq:Fs Tryz.prog fq.bf bV fq.F:=gf 167 Tryz.f167 (λ(o1L,o2,o3,o4)=>([.yl (.dw 0) 0,.ptr (.dw 3) 0 [] 0,.ptr (.dw 4) 0 [] 0],[.obj 0 false (.ow (rV Tryz.prog 4294968000) (pF (bm 15 ([.ptr (.dw 1) 0 [] 0]++bm 154 []))) 0),.obj 0 false (.cO (.dw 2) 0 [] 0 0 o1L),.obj 0 false (.vec 105 iF o2),.obj 0 false (.d (.slice cF) o3),.obj 0 false (.d ti o4)])) (λx=>⟨.nil,[.obj 0 false (.ow (rV Tryz.prog 4294968000) (pF (bm 15 ([.ptr (.dw 1) 0 [] 0]++bm 154 []))) 0),.obj 0 false (.cO (.dw 2) 1 [] 0 0 x.1),.obj 1 false (.vec 105 iF x.2.1),.obj 0 false (.d (.slice cF) x.2.2.1),.obj 0 false (.d ti x.2.2.2)],[]⟩) [none,none,none] [j9.sg] {loops:=qu [(1,{bA:=[0,1,2,4],Nb:=[(2,1)]})],outs:=qt [(1,{Nb:=[(2,1)]},{Nb:=[(2,1)]})],jl:=qU [(1,fq.L0.E)]}
theorem fq.L0.run:fq.L0.RS:=rL [.d ti,.n,.d (.slice iF),.d (.slice cF),.d ti] fq.L0
theorem fq.L0.step{R:Type}(i BU Im nY uV)(kn:K2 R)(kx:K3 R):fq.R 0 fq.L0 (i,BU,Im,nY,uV) kn kx=
  aN ((iX i (nY.length:Int))) (
   aN (inc i (nY.length:Int)) (
   aN (decide (0<=(bQ .i64 i (mh uV (((List.length (cut nY (Int.toNat i) ((List.length nY) - (Int.toNat i)))):Nat):Int)))/\(bQ .i64 i (mh uV (((List.length (cut nY (Int.toNat i) ((List.length nY) - (Int.toNat i)))):Nat):Int)))<=(bQ .i64 i (mh uV (((List.length (cut nY (Int.toNat i) ((List.length nY) - (Int.toNat i)))):Nat):Int)))/\(bQ .i64 i (mh uV (((List.length (cut nY (Int.toNat i) ((List.length nY) - (Int.toNat i)))):Nat):Int)))<=(nY.length:Int))) (
   aN (inc (bQ .i64 i (mh uV (((List.length (cut nY (Int.toNat i) ((List.length nY) - (Int.toNat i)))):Nat):Int))) (nY.length:Int)) (
   aN (inc i (((Int.toNat (bQ .i64 i (mh uV (((List.length (cut nY (Int.toNat i) ((List.length nY) - (Int.toNat i)))):Nat):Int)))):Nat):Int)) (
   same (rV Tryz.prog 4294968000) (rV Tryz.prog 4294968000) (
    aB (j9.call ((cut nY (Int.toNat i) ((Int.toNat (bQ .i64 i (mh uV (((List.length (cut nY (Int.toNat i) ((List.length nY) - (Int.toNat i)))):Nat):Int)))) - (Int.toNat i))),BU,Im)) λx1=>
    kn (fq.L0.st ((bQ .i64 i uV),x1.1,x1.2,nY,uV)))) none) none) none) none) (
   fq.L0.go kx ((nY,uV),(BU,Im))):=by kernel_rfl
theorem fq.eq{R:Type}(o1L o2 o3 o4)(k:K1 R):fq.A (o1L,o2,o3,o4) k=
 aB (fq.L0.call (0,o1L,o2,o3,o4)) λx2=>
 k (fq.out (x2.2.1,x2.2.2,x2.1.1,x2.1.2)):=by kernel_rfl
theorem fq.L0.ok:(fq.lP 0 fq.L0):=by
 refine(fq.mS 0 fq.L0) (λ(i,_,_,l,_)=>l.length+8 - i.toNat) ?_
 rintro⟨i,n,o2,l,c⟩ ⟨rfl,hl,rfl,k,rfl,hk,hn⟩
 have hl:l.length<=1000:=hl
 have hk:k<=l.length+8:=hk
 have hn:o2.length<=1000+k:=hn
 by_cases h:k < l.length
 ·left
  have e1:(((cut l k (l.length - k)).length:Nat):Int)=(l.length:Int) - k:=by rw[pG (by omega)];omega
  obtain⟨m,hm,JH⟩:∃m:Nat,mh 8 ((l.length:Int) - k)=(m:Int)/\m=min 8 (l.length - k):=⟨min 8 (l.length - k),by unfold mh;split <;> omega,rfl⟩
  have e2:bQ .i64 (k:Int) (m:Int)=((k+m:Nat):Int):=by rw[dL (by omega) (by omega)];omega
  have ec:cut l k m=(l.drop k).take 8:=by
   unfold cut
   rw[JH,<-iM,bg (l:=l.drop k) (i:=l.length - k) (by rw[cq];exact az _)]
  have hd:=qp (l:=l.drop k) (by rw[cq];omega)
  rw[eN]at hd
  refine⟨(((k+8:Nat):Int),o2.length+1,o2++ [fe ((l.drop k).take 8)],l,8),⟨rfl,hl,by simp,k+8,rfl,by omega,by show o2.length+1<=_;omega⟩,by simp only[aa];omega,?_,λkn kx=> ?_⟩
  ·simp only[fq.L0.add,fq.L0.F,aa,hd,aG,bJ,bw,eh]
   rw[show o2.length+1+(fF (l.drop (k+8))).length=o2.length+((fF (l.drop (k+8))).length+1) by omega]
  ·rw[fq.L0.step,aU (by omega),ag,gO (by omega) (by omega),ag]
   simp only[aa,e1,hm,e2]
   rw[aX ⟨by omega,eY _,by omega⟩,ag,gO (by omega) (by omega),ag,gO (by omega) (by omega),ag,IB,gU,ec]
   rw[j9.run (d:=((l.drop k).take 8,o2.length,o2)) ⟨by show((l.drop k).take 8).length<=_;rw[bI,cq];omega,rfl,by show o2.length<=_;omega⟩]
   simp only[ae,bV,j9.F]
   rw[show bQ .i64 (k:Int) 8=((k+8:Nat):Int) by rw[dL (by omega) (by omega)];omega]
 ·right
  have e0:l.drop k=[]:=fU (by omega)
  intro R kn kx
  rw[fq.L0.step,aW (by omega),ai]
  simp only[fq.L0.add,fq.L0.F,aa,e0,y6,aZ,cn,fE,cM]
theorem fq.ok:fq.Ok:=by
 rintro⟨n,o2,l,c⟩ ⟨rfl,hl,rfl,hn⟩
 have hl:l.length<=1000:=hl
 have hn:o2.length<=1000:=hn
 have z1:((0:Int)).toNat=0:=rfl
 rw[fq.eq,fq.L0.run (d:=(0,o2.length,o2,l,8)) ⟨rfl,hl,rfl,0,rfl,by omega,by omega⟩]
 simp only[ae,fq.L0.add,fq.L0.F,z1,aI]
 rfl
theorem fq.run:fq.RS:=rE [.n,.d (.slice iF),.d (.slice cF),.d ti] fq
def fq.sg:=fq.gk fq.ok 1 ⟨.iY fq.L0.ok,trivial⟩
abbrev aF.L0.D:=Int×Int×Int×Int×oR×Nat×Nat×(List db)×Int×Int×(List db)×(List db)
abbrev aF.L0.Y:=Nat×Nat×(List db)×(List db)
abbrev aF.L0.X:=(Int×Int)×(Nat×Nat×(List db)×(List db))
def aF.L0.add:aF.L0.D->aF.L0.Y->aF.L0.X:=λ(fB,fN,t9,presses,kX,firstL,restL,t48,t49,t50,KW,KX) y=>((fB,t9),y)
abbrev aF.L1.D:=Int×Int×Nat×Nat×Int×Int×Nat×(List db)×(List db)×(List fZ)
abbrev aF.L1.Y:=Nat×(List fZ)
abbrev aF.L1.X:=(Int×Int×Nat×Nat×(List db)×(List db))×(Nat×(List fZ))
def aF.L1.add:aF.L1.D->aF.L1.Y->aF.L1.X:=λ(iO,Gz,mC,rU,t88,t89,CK,zT,vX,n102) y=>((iO,Gz,mC,rU,zT,vX),y)
abbrev aF.L2.D:=Int×Nat×Nat×Int×Int×Nat×(List db)×(List fZ)
abbrev aF.L2.Y:=Int×Nat
abbrev aF.L2.X:=(Nat×(List db)×(List fZ))×(Int×Nat)
def aF.L2.add:aF.L2.D->aF.L2.Y->aF.L2.X:=λ(hJ,nT,B4,t113,t114,uT,yg,pS) y=>((nT,yg,pS),y)
abbrev aF.L3.D:=Int×Int×Int×Nat×(List fZ)
abbrev aF.L3.Y:=(List fZ)
abbrev aF.L3.X:=(Nat)×((List fZ))
def aF.L3.add:aF.L3.D->aF.L3.Y->aF.L3.X:=λ(jf,t135,t136,sT,jI) y=>(sT,y)
abbrev aF.D:=(List db)×Int×oR×Int
abbrev aF.Y:=(List fZ)×Int
def AE(x:db):Prop:=tm x/\KR x.2.1.2.1/\x.2.2.2.2.2.1<=9223372036854775807
def o5(b:oR)(h:Int)(x:db):Bool:=jU h x && iw b h x
def pg(b:oR)(h:Int)(x:db):Bool:=jU h x && !iw b h x
def dd(l:List db)(b:oR)(h:Int):List db:=tS (t:=cF) mz (l.filter (o5 b h))
def gv(l:List db)(b:oR)(h:Int):List db:=tS (t:=cF) yp (l.filter (pg b h))
def jj(x:db):fZ:=fe [x]
def gT(l:List db)(b:oR)(h:Int):List fZ:=(dd l b h).map jj++(fF (gv l b h)).map fe
def ja:Int->List fZ->Int×List fZ
 |b,[]=>(b,[])
 |b,g::l=>if g.2.1 > b then(b,[]) else((ja (b - g.2.1) l).1,g::(ja (b - g.2.1) l).2)
def qE(g:fZ)(m:Int):fZ:=(g.1,(g.2.1,(g.2.2.1+m,g.2.2.2)))
def ig(b:Int)(g:fZ):Int:=mh b ((nth cF g.1 0).2.1.1 - g.2.1)
def ia:Nat->Int->List fZ->List fZ
 | 0,_,l=>l
 |_+1,_,[]=> []
 |n+1,b,g::l=>qE g (ig b g)::ia n (b - ig b g) l
def mL(l:List db)(budget:Int)(b:oR)(h:Int):List fZ:=ia (dd l b h).length (ja budget (gT l b h)).1 (ja budget (gT l b h)).2
def jJ(l:List db)(budget:Int)(b:oR)(h:Int):Bool:=decide (0<=budget/\budget<=1125899906842624) && (jq b && (decide (1<=h/\h<=1048576) && u5 l))
def pV(l:List db)(budget:Int)(b:oR)(h:Int):List fZ×Int:=if jJ l budget b h=true then(mL l budget b h,0) else([],1)
def aF.L0.bf:aF.L0.D->Prop:=λ(_,h,_,h',b,fl,rl,l,n,i,rs,fs)=>(∀x∈l,AE x)/\(1<=h/\h<=1048576)/\h=h'/\fl=fs.length/\rl=rs.length/\l.length<=1000/\n=(l.length:Int)/\∃k:Nat,k<=l.length/\i=k/\fs.length<=k/\rs.length<=k
def aF.L0.F:aF.L0.D->aF.L0.Y:=λ(_,h,_,_,b,fl,rl,l,_,i,rs,fs)=>(fl+((l.drop i.toNat).filter (o5 b h)).length,rl+((l.drop i.toNat).filter (pg b h)).length,rs++(l.drop i.toNat).filter (pg b h),fs++(l.drop i.toNat).filter (o5 b h))
def aF.L1.bf:aF.L1.D->Prop:=λ(_,_,fl,_,n,i,m,_,fs,all)=>fl=fs.length/\fs.length<=1000/\n=(fs.length:Int)/\m=all.length/\∃k:Nat,k<=fs.length/\i=k/\all.length<=k
def aF.L1.F:aF.L1.D->aF.L1.Y:=λ(_,_,_,_,_,i,m,_,fs,all)=>(m+(fs.drop i.toNat).length,all++(fs.drop i.toNat).map jj)
def aF.L2.bf:aF.L2.D->Prop:=λ(bu,_,m,n,i,m2,_,all)=>m=all.length/\m2=all.length/\all.length<=10000/\n=(all.length:Int)/\(0<=bu/\bu<=1125899906842624)/\(∀g∈all,0<=g.2.1)/\∃k:Nat,k<=all.length/\i=k
def aF.L2.F:aF.L2.D->aF.L2.Y:=λ(bu,_,_,_,i,_,_,all)=>((ja bu (all.drop i.toNat)).1,i.toNat+(ja bu (all.drop i.toNat)).2.length)
def Mk(g:fZ):Prop:=0 < g.1.length/\(0<=g.2.1/\g.2.1<=(nth cF g.1 0).2.1.1/\(nth cF g.1 0).2.1.1<=1099511627776)/\0<=g.2.2.1/\g.2.2.1<=1000000
def aF.L3.bf:aF.L3.D->Prop:=λ(bu,n,i,m,all)=>m<=all.length/\all.length<=10000/\(0<=bu/\bu<=1125899906842624)/\∃k j:Nat,n=j/\i=k/\k<=j/\j<=m/\∀g∈(all.take j).drop k,Mk g
def aF.L3.F:aF.L3.D->aF.L3.Y:=λ(bu,n,i,m,all)=>all.take i.toNat++ia (n - i).toNat bu (all.drop i.toNat)
def aF.bf:aF.D->Prop:=λ(l,_,_,h)=>(∀x∈l,AE x)
def aF.F:aF.D->aF.Y:=λ(l,bu,b,h)=>pV l bu b h
def aF.L0:Ls aF.L0.bf aF.L0.add aF.L0.F:=ra (λ(fB,fN,t9,presses,kX,firstL,restL,t48,t49,t50,KW,KX)=>⟨([.undef,.d ti fB]++bm 5 ([.eS ti fN,.dp,.d ti t9,.fn 100 (.cons (.eS ti presses) (.cons (.eS mm kX) (.nil))),.cO (.new 81 0) 0 [] 0 0 firstL,.cO (.new 58 0) 0 [] 0 0 restL]++bm 35 ([.d (.slice cF) t48,.d ti t49,.d ti t50]++bm 119 []))),[],(cS 58 ([[.obj 0 false (.vec 117 cF KW)]]++cS 22 ([[.obj 0 false (.vec 117 cF KX)]]++cS 88 [])))⟩) (λx=>(.exit 0,⟨([.undef,.d ti x.1.1]++bm 6 ([.dp,.d ti x.1.2,.undef,.cO (.new 81 0) 0 [] 0 0 x.2.1,.cO (.new 58 0) 0 [] 0 0 x.2.2.1]++bm 157 [])),[],(cS 58 ([[.obj 0 false (.vec 117 cF x.2.2.2.1)]]++cS 22 ([[.obj 0 false (.vec 117 cF x.2.2.2.2)]]++cS 88 [])))⟩))
def aF.L1:Ls aF.L1.bf aF.L1.add aF.L1.F:=ra (λ(iO,Gz,mC,rU,t88,t89,CK,zT,vX,n102)=>⟨([.undef,.d ti iO]++bm 6 ([.dp,.d ti Gz,.undef,.cO (.new 81 0) 0 [] 0 0 mC,.cO (.new 58 0) 0 [] 0 0 rU,.undef,.undef,.ptr (.new 15 0) 0 [] 0]++bm 72 ([.d ti t88,.d ti t89]++bm 80 []))),[],(cS 15 ([[.obj 0 false (.cO (.new 102 0) 0 [] 0 0 CK)]]++cS 42 ([[.obj 0 false (.vec 117 cF zT)]]++cS 22 ([[.obj 0 true (.vec 117 cF vX)]]++cS 20 ([[.obj 0 false (.vec 105 iF n102)]]++cS 67 [])))))⟩) (λx=>(.exit 3,⟨([.undef,.d ti x.1.1]++bm 6 ([.dp,.d ti x.1.2.1,.undef,.cO (.new 81 0) 0 [] 0 0 x.1.2.2.1,.cO (.new 58 0) 0 [] 0 0 x.1.2.2.2.1,.undef,.undef,.ptr (.new 15 0) 0 [] 0]++bm 154 [])),[],(cS 15 ([[.obj 0 false (.cO (.new 102 0) 0 [] 0 0 x.2.1)]]++cS 42 ([[.obj 0 false (.vec 117 cF x.1.2.2.2.2.1)]]++cS 22 ([[.obj 0 true (.vec 117 cF x.1.2.2.2.2.2)]]++cS 20 ([[.obj 0 false (.vec 105 iF x.2.2)]]++cS 67 [])))))⟩))
def aF.L2:Ls aF.L2.bf aF.L2.add aF.L2.F:=ra (λ(hJ,nT,B4,t113,t114,uT,yg,pS)=>⟨([.undef,.d ti hJ]++bm 9 ([.cO (.new 81 0) 0 [] 0 0 nT,.undef,.undef,.undef,.ptr (.new 15 0) 0 [] 0]++bm 96 ([.cO (.new 102 0) 1 [] 0 0 B4,.d ti t113,.d ti t114]++bm 55 []))),[],(cS 15 ([[.obj 0 false (.cO (.new 102 0) 1 [] 0 0 uT)]]++cS 65 ([[.obj 0 true (.vec 117 cF yg)]]++cS 20 ([[.obj 1 false (.vec 105 iF pS)]]++cS 67 []))))⟩) (λx=>(.exit 7,⟨([.undef,.d ti x.2.1]++bm 9 ([.cO (.new 81 0) 0 [] 0 0 x.1.1,.undef,.undef,.undef,.ptr (.new 15 0) 0 [] 0]++bm 154 [])),[],(cS 15 ([[.obj 0 false (.cO (.new 102 0) 1 [] 0 0 x.2.2)]]++cS 65 ([[.obj 0 true (.vec 117 cF x.1.2.1)]]++cS 20 ([[.obj 1 false (.vec 105 iF x.1.2.2)]]++cS 67 []))))⟩))
def aF.L3:Ls aF.L3.bf aF.L3.add aF.L3.F:=ra (λ(jf,t135,t136,sT,jI)=>⟨([.undef,.d ti jf]++bm 13 ([.ptr (.new 15 0) 0 [] 0]++bm 119 ([.d ti t135,.d ti t136]++bm 33 []))),[],(cS 15 ([[.obj 0 false (.cO (.new 102 0) 1 [] 0 0 sT)]]++cS 86 ([[.obj 1 false (.vec 105 iF jI)]]++cS 67 [])))⟩) (λx=>(.exit 9,⟨(bm 15 ([.ptr (.new 15 0) 0 [] 0]++bm 154 [])),[],(cS 15 ([[.obj 0 false (.cO (.new 102 0) 1 [] 0 0 x.1)]]++cS 86 ([[.obj 1 false (.vec 105 iF x.2)]]++cS 67 [])))⟩))
def aF:Fs Tryz.prog aF.bf bV aF.F:=gf 44 Tryz.f44 (λ(l,budget,b,height)=>([.d (.slice cF) l,.d ti budget,.d mm b,.d ti height],[])) (λx=>⟨.cons (.d (.slice iF) x.1) (.cons (.d ti x.2) (.nil)),[],[]⟩) [some (.slice cF),some ti,some mm,some ti] [eA.sg,bl.sg,alone.sg,bP.sg,gh.sg,ct.sg,EO.sg,EN.sg,bD.sg,fA.sg,fq.sg] {loops:=qu [(6,{bA:=[1,7,8,9,10,11,12,48,49,50],sites:=[58,81],owns:=[⟨11,[],81,92⟩,⟨12,[],58,92⟩]}),(17,{bA:=[1,8,9,11,12,15,88,89],sites:=[15,58,81,102],FI:=[(.new 81 0)],owns:=[⟨15,[.arr],102,96⟩]}),(25,{bA:=[1,11,15,112,113,114],sites:=[15,81,102]}),(32,{bA:=[1,15,135,136],sites:=[15,102]})],outs:=qt [(6,{bA:=[1,8,9,11,12],sites:=[58,81]},{bA:=[8,9]}),(17,{bA:=[1,8,9,11,12,15],sites:=[15,58,81,102]},{bA:=[8,9]}),(25,{bA:=[1,11,15],sites:=[15,81,102]},{bA:=[8,9]}),(32,{bA:=[15],sites:=[15,102]},{bA:=[8,9]})],jl:=qU [(6,aF.L0.E),(17,aF.L1.E),(25,aF.L2.E),(32,aF.L3.E)],res:=[some (.slice iF),none],rf:=qU [(106,(4294968000,[15]))]}
theorem aF.L0.run:aF.L0.RS:=rL [.d ti,.d ti,.d ti,.d ti,.d mm,.n,.n,.d (.slice cF),.d ti,.d ti,.d (.slice cF),.d (.slice cF)] aF.L0
theorem aF.L0.step{R:Type}(fB fN t9 presses kX firstL restL t48 t49 t50 KW KX)(kn:K2 R)(kx:K3 R):aF.R 0 aF.L0 (fB,fN,t9,presses,kX,firstL,restL,t48,t49,t50,KW,KX) kn kx=
  aN ((iX t50 t49)) (
   aN (gw t50 (t48.length:Int)) (
   aB (alone.call ((nth cF t48 (Int.toNat t50)),fN)) λx1=>
   aN ((!x1)) (
    kn (aF.L0.st (fB,fN,t9,presses,kX,firstL,restL,t48,t49,(bQ .i64 t50 1),KW,KX))) (
    aB (bP.call [(nth cF t48 (Int.toNat t50))]) λx2=>
    aN ((iX (nth cF t48 (Int.toNat t50)).2.1.1 x2)) (
     kn (aF.L0.st (fB,fN,t9,presses,kX,firstL,restL,t48,t49,(bQ .i64 t50 1),KW,KX))) (
     aB (gh.call ((nth cF t48 (Int.toNat t50)),presses,kX)) λx3=>
     aN (x3) (
      aB (ct.call (nth cF t48 (Int.toNat t50))) λx4=>
      aN (decide (firstL<=(List.length KX))) (
      aN (dX (firstL+1) 104) (
      kn (aF.L0.st (fB,fN,t9,presses,kX,(firstL+1),restL,t48,t49,(bQ .i64 t50 1),KW,((List.take firstL KX)++ [x4])))) none) none) (
      aB (ct.call (nth cF t48 (Int.toNat t50))) λx5=>
      aN (decide (restL<=(List.length KW))) (
      aN (dX (restL+1) 104) (
      kn (aF.L0.st (fB,fN,t9,presses,kX,firstL,(restL+1),t48,t49,(bQ .i64 t50 1),((List.take restL KW)++ [x5]),KX))) none) none)))) none) (
   aF.L0.go kx ((fB,t9),(firstL,restL,KW,KX))):=by kernel_rfl
theorem aF.L1.run:aF.L1.RS:=rL [.d ti,.d ti,.n,.n,.d ti,.d ti,.n,.d (.slice cF),.d (.slice cF),.d (.slice iF)] aF.L1
theorem aF.L1.step{R:Type}(iO Gz mC rU t88 t89 CK zT vX n102)(kn:K2 R)(kx:K3 R):aF.R 1 aF.L1 (iO,Gz,mC,rU,t88,t89,CK,zT,vX,n102) kn kx=
  aN ((iX t89 t88)) (
   aN (decide (0<=(bQ .i64 t89 1)/\(bQ .i64 t89 1)<=(bQ .i64 t89 1)/\(bQ .i64 t89 1)<=((mC:Nat):Int))) (
   aN (inc (bQ .i64 t89 1) ((mC:Nat):Int)) (
   aN (inc t89 (((Int.toNat (bQ .i64 t89 1)):Nat):Int)) (
   aN (decide ((0+((0+(Int.toNat t89))*39))=(0+((Int.toNat t89)*39))/\((0+(Int.toNat t89))+((Int.toNat (bQ .i64 t89 1)) - (Int.toNat t89)))<=(List.length vX))) (
   aB (bD.call (cut vX (0+(Int.toNat t89)) ((Int.toNat (bQ .i64 t89 1)) - (Int.toNat t89)))) λx1=>
   aN (decide (CK<=(List.length n102))) (
   aN (dX (CK+1) 48) (
   kn (aF.L1.st (iO,Gz,mC,rU,t88,(bQ .i64 t89 1),(CK+1),zT,vX,((List.take CK n102)++ [x1])))) none) none) none) none) none) none) (
   aF.L1.go kx ((iO,Gz,mC,rU,zT,vX),(CK,n102))):=by kernel_rfl
theorem aF.L2.run:aF.L2.RS:=rL [.d ti,.n,.n,.d ti,.d ti,.n,.d (.slice cF),.d (.slice iF)] aF.L2
theorem aF.L2.step{R:Type}(hJ nT B4 t113 t114 uT yg pS)(kn:K2 R)(kx:K3 R):aF.R 2 aF.L2 (hJ,nT,B4,t113,t114,uT,yg,pS) kn kx=
  aN ((iX t114 t113)) (
   aN (gw t114 ((B4:Nat):Int)) (
   aN (decide ((0+(Int.toNat t114)) < (List.length pS))) (
   aN (decide ((((0+(Int.toNat t114))*4)+0)=(0+((Int.toNat t114)*4)))) (
   aN ((ri (nth iF pS (0+(Int.toNat t114))).2.1 hJ)) (
    aN (inc t114 ((uT:Nat):Int)) (
    aF.L2.go kx ((nT,yg,pS),(hJ,((Int.toNat t114) - 0)))) none) (
    kn (aF.L2.st ((dC .i64 hJ (nth iF pS (0+(Int.toNat t114))).2.1),nT,B4,t113,(bQ .i64 t114 1),uT,yg,pS)))) none) none) none) (
   aF.L2.go kx ((nT,yg,pS),(hJ,uT))):=by kernel_rfl
theorem aF.L3.run:aF.L3.RS:=rL [.d ti,.d ti,.d ti,.n,.d (.slice iF)] aF.L3
theorem aF.L3.step{R:Type}(jf t135 t136 sT jI)(kn:K2 R)(kx:K3 R):aF.R 3 aF.L3 (jf,t135,t136,sT,jI) kn kx=
  aN ((iX t136 t135)) (
   aN (gw t136 ((sT:Nat):Int)) (
   aN (decide ((0+(Int.toNat t136)) < (List.length jI))) (
   aN (decide ((((0+(Int.toNat t136))*4)+0)=((0+((Int.toNat t136)*4))+0))) (
   aN (gw 0 (((List.length (nth iF jI (0+(Int.toNat t136))).1):Nat):Int)) (
   aN (decide ((0+(Int.toNat t136)) < (List.length jI))) (
   aN (decide ((((0+(Int.toNat t136))*4)+1)=((0+((Int.toNat t136)*4))+1))) (
   aN (decide ((0+(Int.toNat t136)) < (List.length jI))) (
   aN (decide ((((0+(Int.toNat t136))*4)+2)=((0+((Int.toNat t136)*4))+2))) (
   aN (decide ((0+(Int.toNat t136)) < (List.length jI))) (
   aN (decide ((((0+(Int.toNat t136))*4)+2)=((0+((Int.toNat t136)*4))+2))) (
   aN (decide ((0+(Int.toNat t136)) < (List.length jI))) (
   kn (aF.L3.st ((dC .i64 jf (mh jf (dC .i64 (nth cF (nth iF jI (0+(Int.toNat t136))).1 0).2.1.1 (nth iF jI (0+(Int.toNat t136))).2.1))),t135,(bQ .i64 t136 1),sT,(List.set jI (0+(Int.toNat t136)) ((nth iF jI (0+(Int.toNat t136))).1,((nth iF jI (0+(Int.toNat t136))).2.1,((bQ .i64 (nth iF jI (0+(Int.toNat t136))).2.2.1 (mh jf (dC .i64 (nth cF (nth iF jI (0+(Int.toNat t136))).1 0).2.1.1 (nth iF jI (0+(Int.toNat t136))).2.1))),(nth iF jI (0+(Int.toNat t136))).2.2.2))))))) none) none) none) none) none) none) none) none) none) none) none) (
   aF.L3.go kx (sT,jI)):=by kernel_rfl
theorem aF.eq{R:Type}(l budget b height)(k:K1 R):aF.A (l,budget,b,height) k=
  aN ((iX budget 0)) (
   k (aF.out (([]:List fZ),1))) (
   aN ((ri budget 1125899906842624)) (
    k (aF.out (([]:List fZ),1))) (
    aB (eA.call b) λx1=>
    aN ((!x1)) (
     k (aF.out (([]:List fZ),1))) (
     aN ((iX height 1)) (
      k (aF.out (([]:List fZ),1))) (
      aN ((ri height 1048576)) (
       k (aF.out (([]:List fZ),1))) (
       aB (bl.call l) λx2=>
       aN ((!x2)) (
        k (aF.out (([]:List fZ),1))) (
        aB (aF.L0.call (budget,height,0,height,b,0,0,l,(l.length:Int),0,([]:List db),([]:List db))) λHn=>
        aB (EO.call (Hn.2.1,Hn.2.2.2.2)) λM3=>
        aB (EN.call (Hn.2.2.1,Hn.2.2.2.1)) λO7=>
        aB (aF.L1.call (Hn.1.1,Hn.1.2,Hn.2.1,Hn.2.2.1,((Hn.2.1:Nat):Int),0,0,O7.2,M3.2,([]:List fZ))) λKP=>
        aN (decide (0=0/\(0+KP.1.2.2.2.1)<=(List.length KP.1.2.2.2.2.1))) (
        aB (fA.call ((cut KP.1.2.2.2.2.1 0 KP.1.2.2.2.1),8)) λOC=>
        aB (fq.call (KP.2.1,KP.2.2,OC.1,OC.2)) λQ2=>
        aB (aF.L2.call (KP.1.1,KP.1.2.2.1,Q2.1,((Q2.1:Nat):Int),0,Q2.1,KP.1.2.2.2.2.2,Q2.2.1)) λAK=>
        aB (aF.L3.call (AK.2.1,(mh ((AK.2.2:Nat):Int) ((AK.1.1:Nat):Int)),0,AK.2.2,AK.1.2.2)) λQ3=>
        aN (decide (0=0/\(0+Q3.1)<=(List.length Q3.2))) (
        k (aF.out ((cut Q3.2 0 Q3.1),0))) none) none)))))):=by kernel_rfl
theorem F1{h:Int}{x:db}(e:rq x h=true):x.2.2.2.2.2.1=0\/h < x.2.2.2.2.2.1:=(of_decide_eq_true e).2
theorem aF.L0.ok:(aF.lP 0 aF.L0):=by
 refine(aF.mS 0 aF.L0) (λ(_,_,_,_,_,_,_,l,_,i,_,_)=>l.length - i.toNat) ?_
 rintro⟨bu,h,t9,h',b,fl,rl,l,n,i,rs,fs⟩ ⟨hx,hh,rfl,rfl,rfl,hl,rfl,k,hk,rfl,hf,hr⟩
 have hl:l.length<=1000:=hl
 have hk:k<=l.length:=hk
 have hf:fs.length<=k:=hf
 have hr:rs.length<=k:=hr
 by_cases gV:k < l.length
 ·left
  have n1:nth cF l k=l[k]:=dq (t:=cF) gV
  have hd:l.drop k=l[k]::l.drop (k+1):=ax gV
  obtain⟨hq,hb,hu⟩:=hx _ (bH gV)
  have ca:=alone.run (d:=(l[k],h)) trivial
  have cw:=bP.run (d:=[l[k]]) (by show 1<=_;decide)
  have cc:=ct.run (d:=l[k]) hb
  have skip:jU h l[k]=false->∀ {R:Type} (kn:K2 R) (kx:K3 R),aF.R 0 aF.L0 (bu,h,t9,h,b,fs.length,rs.length,l,(l.length:Int),(k:Int),rs,fs) kn kx=kn (aF.L0.st (bu,h,t9,h,b,fs.length,rs.length,l,(l.length:Int),((k+1:Nat):Int),rs,fs)):=by
   intro FP R kn kx
   rw[aF.L0.step,aU (by omega),ag,bt (by omega) (by omega),ag,aa,n1,ca]
   simp only[ae,bV,alone.F]
   unfold jU at FP
   cases ha:rq l[k] h with
   |false=>rw[dm,ag,N.py (by omega)]
   |true=>
    rw[ha,bW,Bool.not_eq_false']at FP
    rw[bM,ai,cw]
    simp only[ae,bV,bP.F]
    rw[aU (of_decide_eq_true FP),ag,N.py (by omega)]
  cases FP:jU h l[k]with
  |false=>
   have e1:o5 b h l[k]=false:=by unfold o5;rw[FP];rfl
   have e2:pg b h l[k]=false:=by unfold pg;rw[FP];rfl
   refine⟨(bu,h,t9,h,b,fs.length,rs.length,l,(l.length:Int),((k+1:Nat):Int),rs,fs),⟨hx,hh,rfl,rfl,rfl,hl,rfl,k+1,by omega,rfl,by show fs.length<=_;omega,by show rs.length<=_;omega⟩,by simp only[aa];omega,?_,λkn kx=>skip FP kn kx⟩
   simp only[aF.L0.add,aF.L0.F,aa,hd,jC,e1,e2,bN,if_false]
  |true=>
   have NR:=FP
   unfold jU at NR
   rw[ah,bC]at NR
   obtain⟨ha,hw⟩:=NR
   have cp:=gh.run (d:=(l[k],h,b)) ⟨hh,F1 ha,hu⟩
   cases hp:iw b h l[k]with
   |true=>
    have e1:o5 b h l[k]=true:=by unfold o5;rw[FP,hp];rfl
    have e2:pg b h l[k]=false:=by unfold pg;rw[FP,hp];rfl
    refine⟨(bu,h,t9,h,b,fs.length+1,rs.length,l,(l.length:Int),((k+1:Nat):Int),rs,fs++ [l[k]]),⟨hx,hh,rfl,by simp,rfl,hl,rfl,k+1,by omega,rfl,by rw[av];show fs.length+1<=_;omega,by show rs.length<=_;omega⟩,by simp only[aa];omega,?_,λkn kx=> ?_⟩
    ·simp only[aF.L0.add,aF.L0.F,aa,hd,jC,e1,e2,bN,if_false,if_true,aG,bw,eh]
     rw[dJ,mu 1]
    ·rw[aF.L0.step,aU (by omega),ag,bt (by omega) (by omega),ag,aa,n1,ca]
     simp only[ae,bV,alone.F,ha,bM,ai]
     rw[cw]
     simp only[ae,bV,bP.F]
     rw[aW (of_decide_eq_false hw),ai,cp]
     simp only[ae,bV,gh.F,hp,ag]
     rw[cc]
     simp only[ae,bV,ct.F]
     rw[aX (az _),ag,fh (by omega) (by omega),ag,c9,N.py (by omega)]
   |false=>
    have e1:o5 b h l[k]=false:=by unfold o5;rw[FP,hp];rfl
    have e2:pg b h l[k]=true:=by unfold pg;rw[FP,hp];rfl
    refine⟨(bu,h,t9,h,b,fs.length,rs.length+1,l,(l.length:Int),((k+1:Nat):Int),rs++ [l[k]],fs),⟨hx,hh,rfl,rfl,by simp,hl,rfl,k+1,by omega,rfl,by show fs.length<=_;omega,by rw[av];show rs.length+1<=_;omega⟩,by simp only[aa];omega,?_,λkn kx=> ?_⟩
    ·simp only[aF.L0.add,aF.L0.F,aa,hd,jC,e1,e2,bN,if_false,if_true,aG,bw,eh]
     rw[dJ rs.length,mu 1]
    ·rw[aF.L0.step,aU (by omega),ag,bt (by omega) (by omega),ag,aa,n1,ca]
     simp only[ae,bV,alone.F,ha,bM,ai]
     rw[cw]
     simp only[ae,bV,bP.F]
     rw[aW (of_decide_eq_false hw),ai,cp]
     simp only[ae,bV,gh.F,hp,ai]
     rw[cc]
     simp only[ae,bV,ct.F]
     rw[aX (az _),ag,fh (by omega) (by omega),ag,c9,N.py (by omega)]
 ·right
  obtain rfl:k=l.length:=by omega
  intro R kn kx
  rw[aF.L0.step,aW (by omega),ai]
  simp only[aF.L0.add,aF.L0.F,aa,aY,List.filter_nil,aZ,cn,cM]
theorem aF.L1.ok:(aF.lP 1 aF.L1):=by
 refine(aF.mS 1 aF.L1) (λ(_,_,_,_,_,i,_,_,fs,_)=>fs.length - i.toNat) ?_
 rintro⟨bu,t9,fl,rl,n,i,m,rs,fs,all⟩ ⟨rfl,hl,rfl,rfl,k,hk,rfl,ha⟩
 have hl:fs.length<=1000:=hl
 have hk:k<=fs.length:=hk
 have ha:all.length<=k:=ha
 by_cases gV:k < fs.length
 ·left
  have hd:fs.drop k=fs[k]::fs.drop (k+1):=ax gV
  have ec:cut fs k 1=[fs[k]]:=by unfold cut;rw[hd];rfl
  refine⟨(bu,t9,fs.length,rl,(fs.length:Int),((k+1:Nat):Int),all.length+1,rs,fs,all++ [jj fs[k]]),⟨rfl,hl,rfl,by simp,k+1,by omega,rfl,by rw[av];show all.length+1<=_;omega⟩,by simp only[aa];omega,?_,λkn kx=> ?_⟩
  ·simp only[aF.L1.add,aF.L1.F,aa,hd,aG,bJ,bw,eh]
   rw[dJ,mu 1]
  ·rw[aF.L1.step,aU (by omega),ag,N.py (by omega),aX ⟨by omega,eY _,by omega⟩,ag,gO (by omega) (by omega),ag]
   simp only[aa,aR,gU]
   rw[gO (by omega) (by omega),ag,aX ⟨trivial,by omega⟩,ag,ec,bD.run (d:=[fs[k]]) (by show 1<=_;decide)]
   simp only[ae,bV,bD.F]
   rw[aX (az _),ag,fh (by omega) (by omega),ag,c9]
   rfl
 ·right
  obtain rfl:k=fs.length:=by omega
  intro R kn kx
  rw[aF.L1.step,aW (by omega),ai]
  simp only[aF.L1.add,aF.L1.F,aa,aY,aZ,cn,fE,cM]
theorem aF.L2.ok:(aF.lP 2 aF.L2):=by
 refine(aF.mS 2 aF.L2) (λ(_,_,_,_,i,_,_,all)=>all.length - i.toNat) ?_
 rintro⟨bu,fl,m,n,i,m2,fs,all⟩ ⟨rfl,rfl,hl,rfl,hb,hg,k,hk,rfl⟩
 have hl:all.length<=10000:=hl
 have hk:k<=all.length:=hk
 have hb:0<=bu/\bu<=1125899906842624:=hb
 by_cases gV:k < all.length
 ·have n1:nth iF all k=all[k]:=dq (t:=iF) gV
  have hd:all.drop k=all[k]::all.drop (k+1):=ax gV
  have JF:=hg _ (bH gV)
  by_cases hc:all[k].2.1 > bu
  ·right
   intro R kn kx
   rw[aF.L2.step,aU (by omega),ag,bt (by omega) (by omega),ag]
   simp only[aa,aR,cn,aX gV,ag,decide_true,n1]
   rw[dA hc,ag,gO (by omega) (by omega),ag]
   simp only[aF.L2.add,aF.L2.F,aa,hd,ja,if_pos hc,aZ,cn,Nat.sub_zero]
  ·left
   refine⟨(bu - all[k].2.1,fl,all.length,(all.length:Int),((k+1:Nat):Int),all.length,fs,all),⟨rfl,rfl,hl,rfl,⟨by omega,by omega⟩,hg,k+1,by omega,rfl⟩,by simp only[aa];omega,?_,λkn kx=> ?_⟩
   ·simp only[aF.L2.add,aF.L2.F,aa,hd,ja,if_neg hc,aG]
    rw[dJ,mu 1]
   ·rw[aF.L2.step,aU (by omega),ag,bt (by omega) (by omega),ag]
    simp only[aa,aR,cn,aX gV,ag,decide_true,n1]
    rw[di hc,ai,ee (by omega) (by omega),N.py (by omega)]
 ·right
  obtain rfl:k=all.length:=by omega
  intro R kn kx
  rw[aF.L2.step,aW (by omega),ai]
  simp only[aF.L2.add,aF.L2.F,aa,aY,ja,aZ,cn]
theorem yS{b:Int}{g:fZ}(hg:Mk g)(hb:0<=b/\b<=1125899906842624):0<=ig b g/\ig b g<=b/\ig b g<=(nth cF g.1 0).2.1.1 - g.2.1:=by
 obtain⟨_,h1,_⟩:=hg
 unfold ig mh
 split <;> omega
theorem aF.L3.ok:(aF.lP 3 aF.L3):=by
 refine(aF.mS 3 aF.L3) (λ(_,n,i,_,_)=>(n - i).toNat) ?_
 rintro⟨bu,n,i,m,all⟩ ⟨hm,hl,hb,k,j,rfl,rfl,hk,hj,hg⟩
 have hm:m<=all.length:=hm
 have hl:all.length<=10000:=hl
 have hk:k<=j:=hk
 have hj:j<=m:=hj
 have hb:0<=bu/\bu<=1125899906842624:=hb
 by_cases gV:k < j
 ·left
  obtain⟨q,hq⟩:∃q,j=k+1+q:=⟨j - (k+1),by omega⟩
  have ek:k < all.length:=by omega
  have n1:nth iF all k=all[k]:=dq (t:=iF) ek
  have hd:all.drop k=all[k]::all.drop (k+1):=ax ek
  have e1:((j:Int) - (k:Int)).toNat=q+1:=by omega
  have e2:((j:Int) - ((k+1:Nat):Int)).toNat=q:=by omega
  have TP:k < (all.take j).length:=by rw[bI];omega
  have RE:(all.take j).drop k=all[k]::(all.take j).drop (k+1):=by rw[ax TP,List.getElem_take]
  rw[RE]at hg
  have JF:=hg _ aK
  obtain⟨g1,g2,g3⟩:=id JF
  have OQ:=yS JF hb
  have g2:(0:Int)<=all[k].2.1/\ @LE.le Int _ all[k].2.1 (nth cF all[k].1 0).2.1.1/\ @LE.le Int _ (nth cF all[k].1 0).2.1.1 1099511627776:=g2
  have es:all.set k (qE all[k] (ig bu all[k]))=all.take k++qE all[k] (ig bu all[k])::all.drop (k+1):=List.set_eq_take_append_cons_drop▸if_pos ek
  have et:(all.set k (qE all[k] (ig bu all[k]))).take (k+1)=all.take k++ [qE all[k] (ig bu all[k])]:=by
   rw[es,iH,bI,dQ (by omega),bg (by rw[bI];omega),show k+1 - k=1 by omega]
   rfl
  have eD:(all.set k (qE all[k] (ig bu all[k]))).drop (k+1)=all.drop (k+1):=lf (by omega)
  refine⟨(bu - ig bu all[k],(j:Int),((k+1:Nat):Int),m,all.set k (qE all[k] (ig bu all[k]))),⟨by rw[gW];exact hm,by rw[gW];exact hl,⟨by omega,by omega⟩,k+1,j,rfl,rfl,by omega,hj,λg PO=> ?_⟩,by simp only[e1,e2];omega,?_,λkn kx=> ?_⟩
  ·have:((all.set k (qE all[k] (ig bu all[k]))).take j).drop (k+1)=(all.take j).drop (k+1):=by
    rw[List.take_set,lf (by omega)]
   rw[this]at PO
   exact hg g (aH _ PO)
  ·simp only[aF.L3.add,aF.L3.F,aa,e1,e2,hd,ia,et,eD,bw,eh]
  ·rw[aF.L3.step,aU (by omega),ag,bt (by omega) (by omega),ag]
   simp only[aa,aR,cn,aX ek,ag,decide_true,n1]
   rw[bt (by omega) (by omega),ag,ee (x:=(nth cF all[k].1 0).2.1.1) (by omega) (by omega)]
   rw[show mh bu ((nth cF all[k].1 0).2.1.1 - all[k].2.1)=ig bu all[k] from rfl,ee (by omega) (by omega),dL (x:=all[k].2.2.1) (by omega) (by omega),N.py (by omega)]
   rfl
 ·right
  obtain rfl:k=j:=by omega
  intro R kn kx
  have e1:((k:Int) - (k:Int)).toNat=0:=by omega
  rw[aF.L3.step,aW (by omega),ai]
  simp only[aF.L3.add,aF.L3.F,aa,e1,ia,cK]
theorem Bt:∀ {l:List db},(l.map (·.1)).Nodup->∀ {x y:db},x∈l->y∈l->x.1=y.1->x=y
 |[],_,_,_,hx,_,_=>by cases hx
 |a::l,hn,x,y,hx,hy,e=>by
  rw[bJ,c8]at hn
  rcases bY.1 hx with h1 | h1
  ·rcases bY.1 hy with h2 | h2
   ·rw[h1,h2]
   ·exact absurd (by rw[<-h1,e];exact gZ h2) hn.1
  ·rcases bY.1 hy with h2 | h2
   ·exact absurd (by rw[<-h2,<-e];exact gZ h1) hn.1
   ·exact Bt hn.2 h1 h2 e
theorem tD:∀(n:Nat) (b:Int) (l:List fZ),(ia n b l).length=l.length
 | 0,_,_=>rfl
 |_+1,_,[]=>rfl
 |n+1,b,g::l=>by rw[ia,aG,aG,tD n]
theorem gI{l:List db}(hx:∀x∈l,AE x)(hn:(l.map (·.1)).Nodup)(p:db->Bool):(∀x∈l.filter p,tm x)/\(∀x∈l.filter p,∀y∈l.filter p,x.1=y.1->x=y):=by
 refine⟨λx h=>(hx x (dP.1 h).1).1,λx h y h2 e=> ?_⟩
 exact Bt hn (dP.1 h).1 (dP.1 h2).1 e
theorem Fy:∀(l:List fZ) (b:Int),(∀g∈l,0<=g.2.1)->0<=b->(0<=(ja b l).1/\(ja b l).1<=b)/\∃k,k<=l.length/\(ja b l).2=l.take k
 |[],b,_,hb=>⟨⟨hb,eY _⟩,0,az _,rfl⟩
 |g::l,b,h,hb=>by
  unfold ja
  by_cases hc:g.2.1 > b
  ·rw[if_pos hc]
   exact⟨⟨hb,eY _⟩,0,aP _,rfl⟩
  ·rw[if_neg hc]
   have h0:=h g aK
   obtain⟨⟨i1,i2⟩,k,i3,i4⟩:=Fy l (b - g.2.1) (λx hx=>h x (aH _ hx)) (by omega)
   refine⟨⟨i1,by show(ja (b - g.2.1) l).1<=b;omega⟩,k+1,by rw[aG];omega,?_⟩
   show g::(ja (b - g.2.1) l).2=_
   rw[i4]
   rfl
theorem uQ:∀(n:Nat) (b:Int) (l:List fZ) (m:Nat),(ia n b l).take m=ia n b (l.take m)
 | 0,_,_,_=>rfl
 |_+1,_,[],m=>by simp[ia]
 |n+1,b,g::l,0=>by simp[ia]
 |n+1,b,g::l,m+1=>by
  rw[lg,ia,ia,lg,uQ]
theorem BN:∀(n:Nat) (b:Int) (l:List fZ),ia (min l.length n) b l=ia n b l
 | 0,_,l=>by rw[Nat.min_zero]
 |_+1,_,[]=>rfl
 |n+1,b,g::l=>by
  rw[aG,Nat.succ_min_succ,ia,ia,BN n]
theorem pD{α:Type}:∀(n:Nat) (l:List α),l.length<=n->(fF l).length<=l.length/\∀c∈fF l,1<=c.length/\c.length<=8
 | 0,l,h=>by
  obtain rfl:=aQ (Nat.le_zero.1 h)
  exact⟨az _,λc hc=>(by cases hc)⟩
 |n+1,l,h=>by
  by_cases h0:0 < l.length
  ·have hd:(l.drop 8).length<=l.length - 1:=by rw[cq];omega
   obtain⟨i1,i2⟩:=pD n (l.drop 8) (by omega)
   rw[qp h0]
   refine⟨by rw[aG];omega,λc hc=> ?_⟩
   rcases bY.1 hc with rfl | hc
   ·rw[bI];omega
   ·exact i2 c hc
  ·obtain rfl:=aQ (by omega:l.length=0)
   exact⟨az _,λc hc=>(by cases hc)⟩
section
variable {l:List db} {b:oR} {h:Int}
theorem pL(hx:∀x∈l,AE x):Fb (t:=cF) mz (l.filter (o5 b h)) (dd l b h):=CS nj λx hm=>(hx x (dP.1 hm).1).1
theorem rT(hx:∀x∈l,AE x):Fb (t:=cF) yp (l.filter (pg b h)) (gv l b h):=CS pE λx hm=>(hx x (dP.1 hm).1).1
theorem uK(hx:∀x∈l,AE x){x:db}(hm:x∈dd l b h):x∈l/\jU h x=true/\iw b h x=true:=by
 obtain⟨h1,h2⟩:=dP.1 ((pL hx).1.mem_iff.1 hm)
 unfold o5 at h2
 rw[ah]at h2
 exact⟨h1,h2⟩
theorem zY{x:db}(ha:0<=x.2.1.1/\x.2.1.1<=1099511627776)(hk:jU h x=true):Mk (jj x):=by
 have h1:=qR [x]
 unfold jU at hk
 rw[ah,bC]at hk
 have h2:=of_decide_eq_false hk.2
 have h3:rh [x]<=40:=h1.2
 exact⟨by show 0 < 1;decide,⟨h1.1,by show rh [x]<=x.2.1.1;omega,ha.2⟩,h1.1,by show rh [x]<=_;omega⟩
theorem vk{g:fZ}(hg:g∈gT l b h):0<=g.2.1:=by
 unfold gT at hg
 rcases bp.1 hg with hg | hg
 ·obtain⟨x,_,rfl⟩:=c7.1 hg
  exact(qR [x]).1
 ·obtain⟨c,_,rfl⟩:=c7.1 hg
  exact(qR c).1
end
theorem aF.ok:aF.Ok:=by
 rintro⟨l,bu,b,h⟩ hx
 have hx:∀x∈l,AE x:=hx
 have z1:((0:Int)).toNat=0:=rfl
 rw[aF.eq]
 simp only[bV,aF.F,pV]
 by_cases a1:0<=bu
 rotate_left
 ·rw[aU (by omega),ag,if_neg (λe=>by unfold jJ at e;rw[ah]at e;exact a1 (of_decide_eq_true e.1).1)]
 rw[aW (by omega),ai]
 by_cases a2:bu<=1125899906842624
 rotate_left
 ·rw[dA (by omega),ag,if_neg (λe=>by unfold jJ at e;rw[ah]at e;exact a2 (of_decide_eq_true e.1).2)]
 rw[di (by omega),ai,eA.run (d:=b) trivial]
 simp only[ae,bV,eA.F]
 cases a3:jq b with
 |false=>rw[dm,ag,if_neg (λe=>by unfold jJ at e;rw[a3,eM,Bool.and_false]at e;cases e)]
 |true=>
 rw[bM,ai]
 by_cases a4:1<=h
 rotate_left
 ·rw[aU (by omega),ag,if_neg (λe=>by unfold jJ at e;rw[ah,ah,ah]at e;exact a4 (of_decide_eq_true e.2.2.1).1)]
 rw[aW (by omega),ai]
 by_cases a5:h<=1048576
 rotate_left
 ·rw[dA (by omega),ag,if_neg (λe=>by unfold jJ at e;rw[ah,ah,ah]at e;exact a5 (of_decide_eq_true e.2.2.1).2)]
 rw[di (by omega),ai,bl.run (d:=l) trivial]
 simp only[ae,bV,bl.F]
 cases a6:u5 l with
 |false=>rw[dm,ag,if_neg (λe=>by unfold jJ at e;rw[a6,Bool.and_false,Bool.and_false,Bool.and_false]at e;cases e)]
 |true=>
 have nm:jJ l bu b h=true:=by unfold jJ;rw[aX ⟨a1,a2⟩,a3,aX ⟨a4,a5⟩,a6];rfl
 rw[if_pos nm,bM,ai]
 obtain⟨r1,r2,r3⟩:=(u6 l).1 a6
 rw[aF.L0.run (d:=(bu,h,0,h,b,0,0,l,(l.length:Int),0,[],[])) ⟨hx,⟨a4,a5⟩,rfl,rfl,rfl,by omega,rfl,0,aP _,rfl,az _,az _⟩]
 simp only[ae,aF.L0.add,aF.L0.F,z1,aI,aR,bh]
 have fl:∀p,(l.filter p).length<=64:=λp=>kP (fv p l) r1
 have s1:=EO.run (d:=((l.filter (o5 b h)).length,l.filter (o5 b h))) ⟨rfl,Nat.lt_of_le_of_lt (fl _) (by decide),(gI hx r2 _).1,λx hm y JH e1 e2=>(gI hx r2 _).2 x hm y JH (sG ((gI hx r2 _).1 x hm) ((gI hx r2 _).1 y JH) e1 e2)⟩
 have s2:=EN.run (d:=((l.filter (pg b h)).length,l.filter (pg b h))) ⟨rfl,Nat.lt_of_le_of_lt (fl _) (by decide),(gI hx r2 _).1,λx hm y JH e1 e2=>(gI hx r2 _).2 x hm y JH (uz ((gI hx r2 _).1 x hm) ((gI hx r2 _).1 y JH) e1 e2)⟩
 have f1:(l.filter (o5 b h)).length=(dd l b h).length:=(pL hx).1.length_eq.symm
 have f2:(l.filter (pg b h)).length=(gv l b h).length:=(rT hx).1.length_eq.symm
 have g1:(dd l b h).length<=64:=by rw[<-f1];exact fl _
 have g2:(gv l b h).length<=64:=by rw[<-f2];exact fl _
 rw[s1]
 simp only[ae]
 rw[s2]
 simp only[ae]
 rw[show tS (t:=cF) mz (l.filter (o5 b h))=dd l b h from rfl,show tS (t:=cF) yp (l.filter (pg b h))=gv l b h from rfl,f1,f2]
 rw[aF.L1.run (d:=(bu,0,(dd l b h).length,(gv l b h).length,((dd l b h).length:Int),0,0,gv l b h,dd l b h,[])) ⟨rfl,by omega,rfl,rfl,0,aP _,rfl,az _⟩]
 simp only[ae,aF.L1.add,aF.L1.F,z1,aI,aR,bh]
 rw[aX ⟨trivial,by omega⟩,ag,iW rfl,fA.run (d:=(gv l b h,8)) (by show(1:Int)<=8;decide)]
 simp only[ae,fA.add,fA.F]
 rw[fq.run (d:=((dd l b h).length,(dd l b h).map jj,gv l b h,8)) ⟨rfl,by show(gv l b h).length<=_;omega,by rw[cg],by show(dd l b h).length<=_;omega⟩]
 simp only[ae,bV,fq.F]
 have rC:(dd l b h).length+(fF (gv l b h)).length=(gT l b h).length:=by unfold gT;rw[av,cg,cg]
 have hlen:(gT l b h).length<=1000:=by
  have:=(pD _ (gv l b h) (az _)).1
  omega
 have lX:∀g∈gT l b h,0<=g.2.1:=λg hg=>vk hg
 rw[show(dd l b h).map jj++(fF (gv l b h)).map fe=gT l b h from rfl,rC]
 rw[aF.L2.run (d:=(bu,(dd l b h).length,(gT l b h).length,((gT l b h).length:Int),0,(gT l b h).length,dd l b h,gT l b h)) ⟨rfl,rfl,by omega,rfl,⟨a1,a2⟩,lX,0,aP _,rfl⟩]
 simp only[ae,aF.L2.add,aF.L2.F,z1,aI,aR]
 obtain⟨⟨c1,c2⟩,k,c3,c4⟩:=Fy (gT l b h) bu lX a1
 have c5:(ja bu (gT l b h)).2.length=k:=by rw[c4,bI];omega
 have ej:mh (k:Int) ((dd l b h).length:Int)=((min k (dd l b h).length:Nat):Int):=by unfold mh;split <;> omega
 unfold mL
 rw[c5,c4,ej]
 generalize (ja bu (gT l b h)).1=bu2 at c1 c2 ⊢
 have qJ:∀g∈((gT l b h).take (min k (dd l b h).length)).drop 0,Mk g:=λg hg=>by
  rw[aI]at hg
  have hg:g∈((dd l b h).map jj).take (min k (dd l b h).length):=by
   have e:(gT l b h).take (min k (dd l b h).length)=((dd l b h).map jj).take (min k (dd l b h).length):=by
    unfold gT
    rw[eB (by rw[cg];omega)]
   rw[e]at hg
   exact hg
  obtain⟨x,hm,rfl⟩:=c7.1 (List.mem_of_mem_take hg)
  obtain⟨m1,m2,_⟩:=uK hx hm
  exact zY (r3 x m1) m2
 rw[aF.L3.run (d:=(bu2,((min k (dd l b h).length:Nat):Int),0,k,gT l b h)) ⟨c3,by omega,⟨c1,by omega⟩,0,min k (dd l b h).length,rfl,rfl,aP _,Nat.min_le_left _ _,qJ⟩]
 have e0:(((min k (dd l b h).length:Nat):Int) - 0).toNat=min k (dd l b h).length:=by omega
 simp only[ae,aF.L3.add,aF.L3.F,z1,aI,eO,bh,e0,aR]
 have em:∀(n:Nat) (c:Int) (L:List fZ),(ia n c L).length=L.length:=tD
 rw[aX ⟨trivial,by rw[em];exact c3⟩,ag]
 have ec:cut (ia (min k (dd l b h).length) bu2 (gT l b h)) 0 k=ia (dd l b h).length bu2 ((gT l b h).take k):=by
  unfold cut
  rw[aI,uQ,<-BN (dd l b h).length,bI,dQ c3]
 rw[ec]
theorem aF.run:aF.RS:=rE [.d (.slice cF),.d ti,.d mm,.d ti] aF
def aF.sg:=aF.gk aF.ok 4 ⟨.iY aF.L0.ok,⟨.iY aF.L1.ok,⟨.iY aF.L2.ok,⟨.iY aF.L3.ok,trivial⟩⟩⟩⟩
end Go.Ab
namespace Go.Ab
open Go.Proofs
abbrev iZ.D:=Int×Int×Int
abbrev iZ.Y:=Int×Bool×Bool
def iZ.bf:iZ.D->Prop:=λ(a,n,d)=>(0<=a/\a<=1125899906842624)/\(0<=n/\n<=d)/\1<=d/\d<=10000
def iZ.F:iZ.D->iZ.Y:=λ(a,n,d)=>(a*n / d,ri (a*n%d) 0,true)
def iZ:Fs Tryz.prog iZ.bf bV iZ.F:=gf 175 Tryz.f175 (λ(a,num,den)=>([.d ti a,.d ti num,.d ti den],[])) (λx=>⟨.cons (.d ti x.1) (.cons (.d .bool x.2.1) (.cons (.d .bool x.2.2) (.nil))),[],[]⟩) [some ti,some ti,some ti] [fp.sg,gQ.sg,bZ.sg]
theorem iZ.eq{R:Type}(a num den)(k:K1 R):iZ.A (a,num,den) k=
  aB (fp.call a) λx1=>
  aN ((!x1)) (
   k (iZ.out (0,false,false))) (
   aN ((iX num 0)) (
    k (iZ.out (0,false,false))) (
    aN ((iX den 1)) (
     k (iZ.out (0,false,false))) (
     aB (gQ.call ((eo .u64 a),(eo .u64 num))) λx2=>
     aN ((qT x2.1 (eo .u64 den))) (
      k (iZ.out (0,false,false))) (
      aB (bZ.call (x2.1,x2.2,(eo .u64 den))) λx3=>
      aN ((ri x3.1 1125899906842624)) (
       k (iZ.out (0,false,false))) (
       k (iZ.out ((eo .i64 x3.1),(ri x3.2 0),true))))))):=by kernel_rfl
theorem iZ.ok:iZ.Ok:=by
 rintro⟨a,n,d⟩ ⟨⟨h1,h2⟩,⟨h3,h4⟩,h5,h6⟩
 have h1:0<=a:=h1
 have h2:a<=1125899906842624:=h2
 have h3:0<=n:=h3
 have h4:n<=d:=h4
 have h5:1<=d:=h5
 have h6:d<=10000:=h6
 have k1:0<=a*n:=mn h1 h3
 have k2:a*n<=a*d:=Int.mul_le_mul_of_nonneg_left h4 h1
 have k3:a*d<=1125899906842624*d:=Int.mul_le_mul_of_nonneg_right h2 (by omega)
 have k4:a*n / d<=a:=Int.ediv_le_of_le_mul (by omega) k2
 have k5:0<=a*n / d:=Int.ediv_nonneg k1 (by omega)
 have e0:mB a=true:=aX ⟨h1,h2⟩
 have c1:eo .u64 a=a:=by rw[w9];omega
 have c2:eo .u64 n=n:=by rw[w9];omega
 have c3:eo .u64 d=d:=by rw[w9];omega
 rw[iZ.eq,fp.run (d:=a) trivial]
 simp only[ae,bV,fp.F,e0,bM,ai]
 rw[aW (by omega),ai,aW (by omega),ai,c1,c2,c3,gQ.run (d:=(a,n)) ⟨⟨h1,by show a < _;omega⟩,h3,by show n < _;omega⟩]
 simp only[ae,bV,gQ.F]
 have e1:a*n / 18446744073709551616=0:=by omega
 have e2:a*n%18446744073709551616=a*n:=by omega
 rw[e1,e2,ea (by omega),ai,bZ.run (d:=(0,a*n,d)) ⟨.inr ⟨rfl,by show 0 < d;omega,by show d < _;omega⟩,eY 0,by show 0 < d;omega,k1,by show a*n < _;omega⟩]
 simp only[ae,bV,bZ.F,Int.zero_mul,mo]
 rw[di (by omega),ai,G4 (by omega) (by omega)]
 rfl
theorem iZ.run:iZ.RS:=rE [.d ti,.d ti,.d ti] iZ
def iZ.sg:=iZ.gk iZ.ok
def O6(a n d:Int):Int:=if 0 < a*n%d then a*n / d+1 else a*n / d
theorem M0{a n d:Int}(h1:0<=a)(h3:0<=n)(h4:n<=d)(h5:1<=d):0<=O6 a n d/\O6 a n d<=a/\(0 < a*n%d->a*n / d+1<=a):=by
 have k1:0<=a*n:=mn h1 h3
 have k2:a*n<=a*d:=Int.mul_le_mul_of_nonneg_left h4 h1
 have k4:a*n / d<=a:=Int.ediv_le_of_le_mul (by omega) k2
 have k5:0<=a*n / d:=Int.ediv_nonneg k1 (by omega)
 have k6:0 < a*n%d->a*n / d+1<=a:=λh=>by
  have e:=Int.mul_ediv_add_emod (a*n) d
  refine Classical.byContradiction λhc=> ?_
  have:a=a*n / d:=by omega
  rw[<-this,Int.mul_comm d a]at e
  omega
 unfold O6
 split
 ·rename_i h
  exact⟨by omega,k6 h,k6⟩
 ·exact⟨k5,k4,k6⟩
abbrev wI.D:=Int×Int×Int
abbrev wI.Y:=Int×Bool
def wI.bf:wI.D->Prop:=λ(a,n,d)=>(0<=a/\a<=1125899906842624)/\(0<=n/\n<=d)/\1<=d/\d<=10000
def wI.F:wI.D->wI.Y:=λ(a,n,d)=>(O6 a n d,true)
def wI:Fs Tryz.prog wI.bf bV wI.F:=gf 116 Tryz.f116 (λ(a,num,den)=>([.d ti a,.d ti num,.d ti den],[])) (λx=>⟨.cons (.d ti x.1) (.cons (.d .bool x.2) (.nil)),[],[]⟩) [some ti,some ti,some ti] [iZ.sg,j8.sg]
theorem wI.eq{R:Type}(a num den)(k:K1 R):wI.A (a,num,den) k=
  aB (iZ.call (a,num,den)) λx1=>
  aN (x1.2.2) (
   aN (x1.2.1) (
    aB (j8.call (x1.1,1)) λx2=>
    k (wI.out (x2.1,x2.2))) (
    k (wI.out (x1.1,x1.2.2)))) (
   k (wI.out (x1.1,x1.2.2))):=by kernel_rfl
theorem wI.ok:wI.Ok:=by
 rintro⟨a,n,d⟩ h
 obtain⟨⟨h1,h2⟩,⟨h3,h4⟩,h5,h6⟩:=id h
 obtain⟨f1,f2,f3⟩:=M0 (a:=a) (n:=n) (d:=d) h1 h3 h4 h5
 have h2:a<=1125899906842624:=h2
 rw[wI.eq,iZ.run (d:=(a,n,d)) h]
 simp only[ae,bV,iZ.F,ag,bV,wI.F,O6]at f1 f2 ⊢
 by_cases hr:0 < a*n%d
 ·have:=f3 hr
  rw[if_pos hr]at f1
  have k5:0<=a*n / d:=Int.ediv_nonneg (mn h1 h3) (by have:1<=d:=h5;omega)
  have e:qn (a*n / d) 1=true:=by
   unfold qn mB
   rw[aX ⟨k5,by omega⟩,aX ⟨by decide,by decide⟩,aX (by omega)]
   rfl
  rw[dA hr,ag,j8.run (d:=(a*n / d,1)) trivial,if_pos hr]
  simp only[ae,bV,j8.F,e,cond_true]
 ·rw[di hr,ai,if_neg hr]
theorem wI.run:wI.RS:=rE [.d ti,.d ti,.d ti] wI
def wI.sg:=wI.gk wI.ok
abbrev mg.D:=fZ×Int×oR
abbrev mg.Y:=Int
def qX(g:fZ)(h:Int)(b:oR):Int:=
 if g.2.2.2.1=0\/jq b=false\/g.2.2.2.1 - h>=2*jw b then g.2.1
 else if g.2.2.2.1 - h<=jw b then g.2.2.1
 else g.2.1+O6 (g.2.2.1 - g.2.1) (2*jw b - (g.2.2.2.1 - h)) (jw b)
def Pa(g:fZ):Prop:=(0<=g.2.1/\g.2.1<=g.2.2.1/\g.2.2.1<=1125899906842624)/\0<=g.2.2.2.1/\g.2.2.2.1<=9223372036854775807
def mg.bf:mg.D->Prop:=λ(g,h,_)=>Pa g/\0<=h/\h<=9223372036854775807
def mg.F:mg.D->mg.Y:=λ(g,h,b)=>qX g h b
def mg:Fs Tryz.prog mg.bf bV mg.F:=gf 52 Tryz.f52 (λ(g,atv,b)=>([.d iF g,.d ti atv,.d mm b],[])) (λx=>⟨.d ti x,[],[]⟩) [some iF,some ti,some mm] [gg.sg,eA.sg,wI.sg]
theorem mg.eq{R:Type}(g atv b)(k:K1 R):mg.A (g,atv,b) k=
  aB (gg.call b) λx1=>
  aN ((xS g.2.2.2.1 0)) (
   k (mg.out g.2.1)) (
   aB (eA.call b) λx2=>
   aN ((!x2)) (
    k (mg.out g.2.1)) (
    aN ((qT (dC .i64 g.2.2.2.1 atv) (iv .i64 2 x1))) (
     k (mg.out g.2.1)) (
     aN ((zt (dC .i64 g.2.2.2.1 atv) x1)) (
      k (mg.out g.2.2.1)) (
      aB (wI.call ((dC .i64 g.2.2.1 g.2.1),(dC .i64 (iv .i64 2 x1) (dC .i64 g.2.2.2.1 atv)),x1)) λx3=>
      k (mg.out (bQ .i64 g.2.1 x3.1)))))):=by kernel_rfl
theorem Jy{g:fZ}{h:Int}{b:oR}(hg:Pa g):g.2.1<=qX g h b/\qX g h b<=g.2.2.1:=by
 obtain⟨⟨g1,g2,g3⟩,_⟩:=hg
 unfold qX
 split
 ·omega
 ·rename_i h1
  split
  ·omega
  ·rename_i h2
   have hs:=yW b
   have hr:jq b=true:=by cases h:jq b with | true=>rfl | false=>exact absurd (.inr (.inl h)) h1
   have:=M0 (a:=g.2.2.1 - g.2.1) (n:=2*jw b - (g.2.2.2.1 - h)) (d:=jw b) (by omega) (by omega) (by omega) (by have:=hs.2.2 hr;omega)
   omega
theorem mg.ok:mg.Ok:=by
 rintro⟨g,h,b⟩ ⟨hg,h0,h1⟩
 obtain⟨⟨g1,g2,g3⟩,g4,g5⟩:=id hg
 have h0:0<=h:=h0
 have h1:h<=9223372036854775807:=h1
 have hs:=yW b
 have hf:=Jy (h:=h) (b:=b) hg
 rw[mg.eq,gg.run (d:=b) trivial]
 simp only[ae,bV,gg.F,bV,mg.F]at hf ⊢
 unfold qX at hf ⊢
 by_cases a1:g.2.2.2.1=0
 ·rw[gq a1,ag,if_pos (.inl a1)]
 rw[gB a1,ai,eA.run (d:=b) trivial]
 simp only[ae,bV,eA.F]
 cases a2:jq b with
 |false=>rw[dm,ag,if_pos (.inr (.inl rfl))]
 |true=>
 have hp:=hs.2.2 a2
 rw[bM,ai,ee (x:=g.2.2.2.1) (by omega) (by omega),pP (by omega) (by omega)]
 by_cases a3:g.2.2.2.1 - h>=2*jw b
 ·rw[fC a3,ag,if_pos (.inr (.inr a3))]
 rw[ea a3,ai]
 have hn:¬(g.2.2.2.1=0\/true=false\/g.2.2.2.1 - h>=2*jw b):=λe=>e.elim a1 λe=>e.elim (λe=>by cases e) a3
 rw[if_neg hn]
 rw[a2,if_neg hn]at hf
 by_cases a4:g.2.2.2.1 - h<=jw b
 ·rw[hZ a4,ag,if_pos a4]
 rw[fO a4,ai,if_neg a4]
 rw[if_neg a4]at hf
 rw[ee (x:=g.2.2.1) (by omega) (by omega),ee (x:=2*jw b) (by omega) (by omega),wI.run (d:=(g.2.2.1 - g.2.1,2*jw b - (g.2.2.2.1 - h),jw b)) ⟨⟨by show 0<=g.2.2.1 - g.2.1;omega,by show g.2.2.1 - g.2.1<=_;omega⟩,⟨by show 0<=2*jw b - (g.2.2.2.1 - h);omega,by show 2*jw b - (g.2.2.2.1 - h)<=jw b;omega⟩,by show 1<=jw b;omega,by show jw b<=_;omega⟩]
 simp only[ae,bV,wI.F]
 rw[dL (x:=g.2.1) (by omega) (by omega)]
theorem mg.run:mg.RS:=rE [.d iF,.d ti,.d mm] mg
def mg.sg:=mg.gk mg.ok
abbrev lz.D:=jO×db
abbrev lz.Y:=Bool
abbrev lz.X:=(db)×(Bool)
def lz.add:lz.D->lz.Y->lz.X:=λ(i,o0) y=>(o0,y)
def oD(x:db)(i:jO):Bool:=Ty.beq gz i.1 x.1
def lz.bf:lz.D->Prop:=λ_=>True
def lz.F:lz.D->lz.Y:=λ(i,x)=>oD x i
def lz:Fs Tryz.prog lz.bf lz.add lz.F:=gf 172 Tryz.f172 (λ(i,o0)=>([.d kL i,.ptr (.dw 0) 0 [] 0],[.obj 0 false (.d cF o0)])) (λx=>⟨.d .bool x.2,[.obj 0 false (.d cF x.1)],[]⟩) [some kL,none]
theorem lz.eq{R:Type}(i o0)(k:K1 R):lz.A (i,o0) k=
 k (lz.out (o0,(Ty.beq gz i.1 o0.1))):=by kernel_rfl
theorem lz.ok:lz.Ok:=by
 rintro⟨i,x⟩ _
 rw[lz.eq]
 rfl
theorem lz.run:lz.RS:=rE [.d kL,.d cF] lz
def lz.sg:=lz.gk lz.ok
abbrev bn.L0.D:=Nat×Int×Int×(List jO)×db
def bn.L0.st:bn.L0.D->AS:=λ(IA,t7,t8,xm,Gc)=>⟨([.cO (.dw 0) 0 [] 0 0 IA,.fn 172 (.cons (.ptr (.dw 1) 0 [] 0) (.nil))]++bm 5 ([.d ti t7,.d ti t8]++bm 10 [])),[.obj 0 false (.vec 52 kL xm),.obj 0 false (.d cF Gc)],(List.replicate 19 [])⟩
abbrev bn.L0.Y0:=Int×db
abbrev bn.L0.X0:=((List jO))×(Int×db)
def bn.L0.dY:bn.L0.X0->Exit×AS:=λx=>(.ret,⟨(bm 4 ([.d ti x.2.1]++bm 14 [])),[.obj 0 false (.vec 52 kL x.1),.obj 0 false (.d cF x.2.2)],(List.replicate 19 [])⟩)
abbrev bn.L0.Y1:=db
abbrev bn.L0.X1:=((List jO))×(db)
def bn.L0.gN:bn.L0.X1->Exit×AS:=λx=>(.exit 0,⟨(bm 19 []),[.obj 0 false (.vec 52 kL x.1),.obj 0 false (.d cF x.2)],(List.replicate 19 [])⟩)
abbrev bn.L0.X:=(bn.L0.X0)⊕(bn.L0.X1)
abbrev bn.L0.Y:=(bn.L0.Y0)⊕(bn.L0.Y1)
def bn.L0.out:bn.L0.X->Out (Exit×AS):=λx=> .br x.isLeft (.get x.getLeft? λa=> .ok (bn.L0.dY a)) (.get x.getRight? λb=> .ok (bn.L0.gN b))
def bn.L0.add:bn.L0.D->bn.L0.Y->bn.L0.X:=λ(IA,t7,t8,xm,Gc) y=>match y with | .inl y=> .inl (xm,y) | .inr z=> .inr ((xm,z))
abbrev bn.D:=Nat×(List jO)×db
abbrev bn.Y:=Int×(List jO)×db
def bn.L0.bf:bn.L0.D->Prop:=λ(m,n,i,l,_)=>l.length<=1000000000/\m=l.length/\n=l.length/\∃k:Nat,k<=l.length/\i=k
def bn.L0.F:bn.L0.D->bn.L0.Y:=λ(_,_,i,l,x)=>match xc (oD x) (l.drop i.toNat) i with | .inl j=> .inl (j,x) | .inr _=> .inr x
def bn.bf:bn.D->Prop:=λ(m,l,_)=>l.length<=1000000000/\m=l.length
def bn.F:bn.D->bn.Y:=λ(_,l,x)=>(H2 (oD x) l,l,x)
def bn.L0.E:=eR.iY bn.L0.st bn.L0.bf bn.L0.add bn.L0.F bn.L0.out
def bn.L0.call:bn.L0.D->Option bn.L0.X:=kE bn.L0.E bn.L0.st
def bn:Fs Tryz.prog bn.bf bV bn.F:=gf 234 Tryz.f234 (λ(sL,o0,o1)=>([.cO (.dw 0) 0 [] 0 0 sL,.fn 172 (.cons (.ptr (.dw 1) 0 [] 0) (.nil))],[.obj 0 false (.vec 52 kL o0),.obj 0 false (.d cF o1)])) (λx=>⟨.d ti x.1,[.obj 0 false (.vec 52 kL x.2.1),.obj 0 false (.d cF x.2.2)],[]⟩) [none,none] [lz.sg] {loops:=qu [(2,{bA:=[0,1,7,8]})],outs:=qt [(2,{},{bA:=[4]})],jl:=qU [(2,bn.L0.E)]}
def bn.L0.R:= @iN Tryz.prog (mR bn.G) bn.an 0 Tryz.f234 0 _ bn.L0.st
abbrev bn.L0.Ok:=oS Tryz.prog (mR bn.G) bn.an 0 Tryz.f234 0 bn.L0.st bn.L0.bf bn.L0.add bn.L0.F bn.L0.out
theorem bn.L0.run:ng bn.L0.call bn.L0.bf bn.L0.add bn.L0.F:=ql (o8 [.n,.d ti,.d ti,.d (.slice kL),.d cF] λ_=>by kernel_rfl)
theorem bn.L0.da:qh @bn.L0.R bn.L0.st bn.L0.bf bn.L0.add bn.L0.F bn.L0.out bn.L0.Ok:=qH
theorem bn.L0.step{R:Type}(IA:Nat)(t7:Int)(t8:Int)(xm:(List jO))(Gc:db)(kn:AS->Option R)(kx:Exit->AS->Option R):bn.L0.R (IA,t7,t8,xm,Gc) kn kx=
  aN ((iX t8 t7)) (
   aN (gw t8 ((IA:Nat):Int)) (
   aN (decide ((0+(Int.toNat t8)) < (List.length xm))) (
   aN (decide ((((0+(Int.toNat t8))*36)+0)=(0+((Int.toNat t8)*36)))) (
   aB (lz.call ((nth kL xm (0+(Int.toNat t8))),Gc)) λx1=>
   aN (x1.2) (
    kx (bn.L0.dY (xm,(t8,x1.1))).1 (bn.L0.dY (xm,(t8,x1.1))).2) (
    kn (bn.L0.st (IA,t7,(bQ .i64 t8 (1:Int)),xm,x1.1)))) none) none) none) (
   kx (bn.L0.gN (xm,Gc)).1 (bn.L0.gN (xm,Gc)).2):=by kernel_rfl
theorem bn.eq{R:Type}(sL o0 o1)(k:K1 R):bn.A (sL,o0,o1) k=
  aB (bn.L0.call (sL,((sL:Nat):Int),0,o0,o1)) λx2=>
  aN (x2.isLeft) (
   aB (x2.getLeft?) λa3=>
   k (bn.out (a3.2.1,a3.1,a3.2.2))) (
   aB (x2.getRight?) λb4=>
   k (bn.out ((-1),b4.1,b4.2))):=by kernel_rfl
theorem bn.L0.ok:bn.L0.Ok:=by
 refine bn.L0.da (λ(_,_,i,l,_)=>l.length - i.toNat) ?_
 rintro⟨m,n,i,l,x⟩ ⟨hb,rfl,rfl,k,hk,rfl⟩
 have hb:l.length<=1000000000:=hb
 have hk:k<=l.length:=hk
 by_cases h:k < l.length
 ·have n1:nth kL l k=l[k]:=dq (t:=kL) h
  have hd:xc (oD x) (l.drop k) k=if oD x l[k] then .inl (k:Int) else xc (oD x) (l.drop (k+1)) ((k+1:Nat):Int):=by rw[ax h];rfl
  have step:∀ {R:Type} (kn:AS->Option R) (kx:Exit->AS->Option R),bn.L0.R (l.length,(l.length:Int),(k:Int),l,x) kn kx=aN (oD x l[k]) (kx (bn.L0.dY (l,((k:Int),x))).1 (bn.L0.dY (l,((k:Int),x))).2) (kn (bn.L0.st (l.length,(l.length:Int),((k+1:Nat):Int),l,x))):=by
   intro R kn kx
   rw[bn.L0.step,aU (by omega),ag,bt (by omega) (by omega),ag]
   simp only[aa,aR,cn,aX h,ag,decide_true,n1]
   rw[lz.run (d:=(l[k],x)) trivial]
   simp only[ae,lz.add,lz.F]
   rw[N.py (by omega)]
  cases hp:oD x l[k]
  ·left
   refine⟨(l.length,(l.length:Int),((k+1:Nat):Int),l,x),⟨hb,rfl,rfl,k+1,by omega,rfl⟩,by simp only[aa];omega,?_,λkn kx=> ?_⟩
   ·simp only[bn.L0.add,bn.L0.F,aa,hd,hp,bN,if_false]
   ·rw[step,hp,ai]
  ·right
   refine⟨bn.L0.dY (l,((k:Int),x)),?_,λkn kx=> ?_⟩
   ·simp only[bn.L0.add,bn.L0.F,aa,hd,hp,if_true]
    rfl
   ·rw[step,hp,ag]
 ·right
  obtain rfl:k=l.length:=by omega
  refine⟨bn.L0.gN (l,x),?_,λkn kx=> ?_⟩
  ·simp only[bn.L0.add,bn.L0.F,aa,aY]
   rfl
  ·rw[bn.L0.step,aW (by omega),ai]
theorem bn.ok:bn.Ok:=by
 rintro⟨m,l,x⟩ ⟨hb,rfl⟩
 rw[bn.eq,bn.L0.run (d:=(l.length,(l.length:Int),0,l,x)) ⟨hb,rfl,rfl,0,aP _,rfl⟩]
 simp only[ae,bn.L0.add,bn.L0.F,b5,aI,bV,bn.F,H2]
 cases xc (oD x) l 0 <;> rfl
theorem bn.run:bn.RS:=rE [.n,.d (.slice kL),.d cF] bn
def bn.sg:=bn.gk bn.ok 1 ⟨.iY bn.L0.ok,trivial⟩
abbrev gP.D:=Nat×(List jO)×db
abbrev gP.Y:=Bool×(List jO)×db
def gP.bf:gP.D->Prop:=λ(m,l,_)=>l.length<=1000000000/\m=l.length
def gP.F:gP.D->gP.Y:=λ(_,l,x)=>(l.any (oD x),l,x)
def gP:Fs Tryz.prog gP.bf bV gP.F:=gf 171 Tryz.f171 (λ(sL,o0,o1)=>([.cO (.dw 0) 0 [] 0 0 sL,.fn 172 (.cons (.ptr (.dw 1) 0 [] 0) (.nil))],[.obj 0 false (.vec 52 kL o0),.obj 0 false (.d cF o1)])) (λx=>⟨.d .bool x.1,[.obj 0 false (.vec 52 kL x.2.1),.obj 0 false (.d cF x.2.2)],[]⟩) [none,none] [bn.sg]
theorem gP.eq{R:Type}(sL o0 o1)(k:K1 R):gP.A (sL,o0,o1) k=
 aB (bn.call (sL,o0,o1)) λx1=>
 k (gP.out ((qT x1.1 0),x1.2.1,x1.2.2)):=by kernel_rfl
theorem gP.ok:gP.Ok:=by
 rintro⟨m,l,x⟩ h
 rw[gP.eq,bn.run (d:=(m,l,x)) h]
 simp only[ae,bV,bn.F,D0]
 rfl
theorem gP.run:gP.RS:=rE [.n,.d (.slice kL),.d cF] gP
def gP.sg:=gP.gk gP.ok
abbrev bz.L0.D:=(List db)×Bs×Int×Lk×Int×(List db)×Int×Int×(Int×Unit)×Nat×(Int×Unit)×(List jO)
def bz.L0.st:bz.L0.D->AS:=λ(gd,yA,xK,EX,sum,t41,t42,t43,n8,zL,n10,Ob)=>⟨([.d (.slice cF) gd,.d tU yA,.undef,.d ti xK,.undef,.undef,.eS re EX,.undef,.ptr (.new 8 0) 0 [] 0,.undef,.ptr (.new 10 0) 0 [] 0,.d ti sum]++bm 29 ([.d (.slice cF) t41,.d ti t42,.d ti t43]++bm 90 [])),[],(cS 8 ([[.obj 0 false (.pr (.dp) (.pr (.dp) (.d (.pair ti .unit) n8)))],[],[.obj 0 false (.pr (.cO (.new 88 0) 0 [] 0 0 zL) (.pr (.dp) (.d (.pair ti .unit) n10)))]]++cS 77 ([[.obj 0 false (.vec 52 kL Ob)]]++cS 45 [])))⟩
abbrev bz.L0.Y0:=(Int×Unit)
abbrev bz.L0.X0:=(Int×Unit)
def bz.L0.dY:bz.L0.X0->Exit×AS:=λx=>(.ret,⟨(bm 8 ([.ptr (.new 8 0) 0 [] 0,.d ti (1:Int)]++bm 124 [])),[],(cS 8 ([[.obj 0 false (.pr (.dp) (.pr (.dp) (.d (.pair ti .unit) x)))]]++cS 125 []))⟩)
abbrev bz.L0.Y1:=Int×Nat×(List jO)
abbrev bz.L0.X1:=((List db)×Bs×Int×Lk×(Int×Unit)×(Int×Unit))×(Int×Nat×(List jO))
def bz.L0.gN:bz.L0.X1->Exit×AS:=λx=>(.exit 0,⟨([.d (.slice cF) x.1.1,.d tU x.1.2.1,.undef,.d ti x.1.2.2.1,.undef,.undef,.eS re x.1.2.2.2.1,.undef,.ptr (.new 8 0) 0 [] 0,.undef,.ptr (.new 10 0) 0 [] 0,.d ti x.2.1]++bm 122 []),[],(cS 8 ([[.obj 0 false (.pr (.dp) (.pr (.dp) (.d (.pair ti .unit) x.1.2.2.2.2.1)))],[],[.obj 0 false (.pr (.cO (.new 88 0) 0 [] 0 0 x.2.2.1) (.pr (.dp) (.d (.pair ti .unit) x.1.2.2.2.2.2)))]]++cS 77 ([[.obj 0 false (.vec 52 kL x.2.2.2)]]++cS 45 [])))⟩)
abbrev bz.L0.X:=(bz.L0.X0)⊕(bz.L0.X1)
abbrev bz.L0.Y:=(bz.L0.Y0)⊕(bz.L0.Y1)
def bz.L0.out:bz.L0.X->Out (Exit×AS):=λx=> .br x.isLeft (.get x.getLeft? λa=> .ok (bz.L0.dY a)) (.get x.getRight? λb=> .ok (bz.L0.gN b))
def bz.L0.add:bz.L0.D->bz.L0.Y->bz.L0.X:=λ(gd,yA,xK,EX,sum,t41,t42,t43,n8,zL,n10,Ob) y=>match y with | .inl y=> .inl y | .inr z=> .inr (((gd,yA,xK,EX,n8,n10),z))
abbrev bz.L1.D:=Bs×(List db)×Int×Int×(Int×Unit)×ke
def bz.L1.st:bz.L1.D->AS:=λ(F3,t106,t107,t108,El,zM)=>⟨([.undef,.d tU F3]++bm 6 ([.ptr (.new 8 0) 0 [] 0,.undef,.ptr (.new 10 0) 0 [] 0]++bm 95 ([.d (.slice cF) t106,.d ti t107,.d ti t108]++bm 25 []))),[],(cS 8 ([[.obj 0 false (.pr (.dp) (.pr (.dp) (.d (.pair ti .unit) El)))],[],[.obj 0 false (.d px zM)]]++cS 123 []))⟩
abbrev bz.L1.Y0:=Int×(Int×Unit)
abbrev bz.L1.X0:=Int×(Int×Unit)
def bz.L1.dY:bz.L1.X0->Exit×AS:=λx=>(.ret,⟨(bm 8 ([.ptr (.new 8 0) 0 [] 0,.d ti x.1]++bm 124 [])),[],(cS 8 ([[.obj 0 false (.pr (.dp) (.pr (.dp) (.d (.pair ti .unit) x.2)))]]++cS 125 []))⟩)
abbrev bz.L1.Y1:=ke
abbrev bz.L1.X1:=((Int×Unit))×(ke)
def bz.L1.gN:bz.L1.X1->Exit×AS:=λx=>(.exit 2,⟨(bm 8 ([.ptr (.new 8 0) 0 [] 0,.undef,.ptr (.new 10 0) 0 [] 0]++bm 123 [])),[],(cS 8 ([[.obj 0 false (.pr (.dp) (.pr (.dp) (.d (.pair ti .unit) x.1)))],[],[.obj 0 false (.d px x.2)]]++cS 123 []))⟩)
abbrev bz.L1.X:=(bz.L1.X0)⊕(bz.L1.X1)
abbrev bz.L1.Y:=(bz.L1.Y0)⊕(bz.L1.Y1)
def bz.L1.out:bz.L1.X->Out (Exit×AS):=λx=> .br x.isLeft (.get x.getLeft? λa=> .ok (bz.L1.dY a)) (.get x.getRight? λb=> .ok (bz.L1.gN b))
def bz.L1.add:bz.L1.D->bz.L1.Y->bz.L1.X:=λ(F3,t106,t107,t108,El,zM) y=>match y with | .inl y=> .inl y | .inr z=> .inr ((El,z))
abbrev bz.D:=(List db)×Bs×Lk×Int
abbrev bz.Y:=ke×Int
def GG:ke:=(([]:List jO),(([]:List na),((0:Int),())))
def AR(x:db):jO:=(x.1,(((0:Int),(([]:List Sg),((0:Int),()))),()))
def Ie(s:Int)(ins:List jO)(x:db)(k:Int):Bool:=qn s x.2.1.1 && (!(ins.any (oD x)) && decide (k≠0/\k < 2305843009213688669))
def sh:Int->List jO->List db->List Int->Option (Int×List jO)
 |s,ins,x::l,k::ks=>if Ie s ins x k=true then sh (s+x.2.1.1) (ins++ [AR x]) l ks else none
 |s,ins,_,_=>some (s,ins)
def ug:ke->Nat->List db->List Int->ke⊕Int
 |t,i,x::l,k::ks=>if(oP t i x.2.2.1 [k] x.2.2.2.1).2=0 then ug (oP t i x.2.2.1 [k] x.2.2.2.1).1 (i+1) l ks else .inr (oP t i x.2.2.1 [k] x.2.2.2.1).2
 |t,_,_,_=> .inl t
def vQ(l:List db)(ks:List Int)(to:Lk)(jM:Int):ke×Int:=
 if 1<=l.length/\l.length<=64/\l.length=ks.length/\qk to=true then
  match sh 0 [] l ks with
  |none=>(GG,1)
  |some r=>if jM < 0\/jM > r.1 then(GG,8) else match ug (r.2,([(r.1 - jM,(to,()))],((0:Int),()))) 0 l ks with | .inl t=>(t,0) | .inr e=>(GG,e)
 else(GG,1)
def M5(x:db):Prop:=Sm x.1.1/\lH x.2.2.2.1
def bz.L0.bf:bz.L0.D->Prop:=λ(_,ks,_,_,s,l,n,i,_,m,_,ins)=>l.length<=64/\l.length=ks.length/\n=(l.length:Int)/\m=ins.length/\∃k:Nat,k<=l.length/\i=k/\ins.length<=k
def bz.L0.F:bz.L0.D->bz.L0.Y:=λ(_,ks,_,_,s,l,_,i,_,_,_,ins)=>match sh s ins (l.drop i.toNat) (ks.drop i.toNat) with
 |none=> .inl ((0:Int),())
 |some r=> .inr (r.1,r.2.length,r.2)
def bz.L1.bf:bz.L1.D->Prop:=λ(ks,l,n,i,_,t)=>C2 t/\(∀x∈l,lH x.2.2.2.1)/\(∀k∈ks,lH k)/\l.length<=64/\l.length=ks.length/\n=(l.length:Int)/\∃k:Nat,k<=l.length/\i=k
def bz.L1.F:bz.L1.D->bz.L1.Y:=λ(ks,l,_,i,_,t)=>match ug t i.toNat (l.drop i.toNat) (ks.drop i.toNat) with
 | .inl t=> .inr t
 | .inr e=> .inl (e,((0:Int),()))
def bz.bf:bz.D->Prop:=λ(l,ks,to,jM)=>(∀x∈l,M5 x)/\(∀k∈ks,lH k)/\KS to/\l.length<=1000000000/\ks.length<=1000000000/\(-1125899906842624<=jM/\jM<=9223372036854775807)
def bz.F:bz.D->bz.Y:=λ(l,ks,to,jM)=>vQ l ks to jM
def bz.L0.E:=eR.iY bz.L0.st bz.L0.bf bz.L0.add bz.L0.F bz.L0.out
def bz.L0.call:bz.L0.D->Option bz.L0.X:=kE bz.L0.E bz.L0.st
def bz.L1.E:=eR.iY bz.L1.st bz.L1.bf bz.L1.add bz.L1.F bz.L1.out
def bz.L1.call:bz.L1.D->Option bz.L1.X:=kE bz.L1.E bz.L1.st
def bz:Fs Tryz.prog bz.bf bV bz.F:=gf 114 Tryz.f114 (λ(l,ks,to,jM)=>([.d (.slice cF) l,.d tU ks,.d re to,.d ti jM],[])) (λx=>⟨.cons (.d px x.1) (.cons (.d ti x.2) (.nil)),[],[]⟩) [some (.slice cF),some tU,some re,some ti] [aS.sg,j8.sg,gP.sg,fc.sg,dr.sg] {loops:=qu [(6,{bA:=[0,1,3,6,8,10,11,41,42,43],sites:=[8,10,88],owns:=[⟨10,[.fst],88,38⟩]}),(19,{bA:=[1,8,10,106,107,108],sites:=[8,10],Fz:=[⟨10,[.arr],px⟩]})],outs:=qt [(6,{bA:=[0,1,3,6,8,10,11],sites:=[8,10,88]},{bA:=[8,9],sites:=[8]}),(19,{bA:=[8,10],sites:=[8,10]},{bA:=[8,9],sites:=[8]})],jl:=qU [(6,bz.L0.E),(19,bz.L1.E)],res:=[some px,none]}
def bz.L0.R:= @iN Tryz.prog (mR bz.G) bz.an 0 Tryz.f114 0 _ bz.L0.st
abbrev bz.L0.Ok:=oS Tryz.prog (mR bz.G) bz.an 0 Tryz.f114 0 bz.L0.st bz.L0.bf bz.L0.add bz.L0.F bz.L0.out
def bz.L1.R:= @iN Tryz.prog (mR bz.G) bz.an 0 Tryz.f114 1 _ bz.L1.st
abbrev bz.L1.Ok:=oS Tryz.prog (mR bz.G) bz.an 0 Tryz.f114 1 bz.L1.st bz.L1.bf bz.L1.add bz.L1.F bz.L1.out
theorem bz.L0.run:ng bz.L0.call bz.L0.bf bz.L0.add bz.L0.F:=ql (o8 [.d (.slice cF),.d tU,.d ti,.d re,.d ti,.d (.slice cF),.d ti,.d ti,.d (.pair ti .unit),.n,.d (.pair ti .unit),.d (.slice kL)] λ_=>by kernel_rfl)
theorem bz.L0.da:qh @bz.L0.R bz.L0.st bz.L0.bf bz.L0.add bz.L0.F bz.L0.out bz.L0.Ok:=qH
theorem bz.L0.step{R:Type}(gd:(List db))(yA:Bs)(xK:Int)(EX:Lk)(sum:Int)(t41:(List db))(t42:Int)(t43:Int)(n8:(Int×Unit))(zL:Nat)(n10:(Int×Unit))(Ob:(List jO))(kn:AS->Option R)(kx:Exit->AS->Option R):bz.L0.R (gd,yA,xK,EX,sum,t41,t42,t43,n8,zL,n10,Ob) kn kx=
  aN ((iX t43 t42)) (
   aN (gw t43 (((List.length t41):Nat):Int)) (
   aB (j8.call (sum,(nth cF t41 (Int.toNat t43)).2.1.1)) λx1=>
   aB (gP.call (zL,Ob,(nth cF t41 (Int.toNat t43)))) λx2=>
   aN ((!x1.2)) (
    kx (bz.L0.dY ((0:Int),())).1 (bz.L0.dY ((0:Int),())).2) (
    aN (x2.1) (
     kx (bz.L0.dY ((0:Int),())).1 (bz.L0.dY ((0:Int),())).2) (
     aN (gw t43 (((List.length yA):Nat):Int)) (
     aN ((xS (nth tu yA (Int.toNat t43)) (0:Int))) (
      kx (bz.L0.dY ((0:Int),())).1 (bz.L0.dY ((0:Int),())).2) (
      aN (gw t43 (((List.length yA):Nat):Int)) (
      aB (fc.call (nth tu yA (Int.toNat t43))) λx3=>
      aN ((!x3)) (
       kx (bz.L0.dY ((0:Int),())).1 (bz.L0.dY ((0:Int),())).2) (
       aN (decide (zL<=(List.length x2.2.1))) (
       aN (dX (zL+1) 80) (
       kn (bz.L0.st (gd,yA,xK,EX,x1.1,t41,t42,(bQ .i64 t43 (1:Int)),n8,(zL+1),n10,((List.take zL x2.2.1)++ [(x2.2.2.1,(((0:Int),(([]:List Sg),((0:Int),()))),()))])))) none) none)) none)) none))) none) (
   kx (bz.L0.gN ((gd,yA,xK,EX,n8,n10),(sum,zL,Ob))).1 (bz.L0.gN ((gd,yA,xK,EX,n8,n10),(sum,zL,Ob))).2):=by kernel_rfl
theorem bz.L1.run:ng bz.L1.call bz.L1.bf bz.L1.add bz.L1.F:=ql (o8 [.d tU,.d (.slice cF),.d ti,.d ti,.d (.pair ti .unit),.d px] λ_=>by kernel_rfl)
theorem bz.L1.da:qh @bz.L1.R bz.L1.st bz.L1.bf bz.L1.add bz.L1.F bz.L1.out bz.L1.Ok:=qH
theorem bz.L1.step{R:Type}(F3:Bs)(t106:(List db))(t107:Int)(t108:Int)(El:(Int×Unit))(zM:ke)(kn:AS->Option R)(kx:Exit->AS->Option R):bz.L1.R (F3,t106,t107,t108,El,zM) kn kx=
  aN ((iX t108 t107)) (
   aN (gw t108 (((List.length t106):Nat):Int)) (
   aN (gw t108 (((List.length F3):Nat):Int)) (
   aB (dr.call (zM,t108,(nth cF t106 (Int.toNat t108)).2.2.1,[(nth tu F3 (Int.toNat t108))],(nth cF t106 (Int.toNat t108)).2.2.2.1)) λx1=>
   aN ((sx x1.2 (0:Int))) (
    kx (bz.L1.dY (x1.2,((0:Int),()))).1 (bz.L1.dY (x1.2,((0:Int),()))).2) (
    kn (bz.L1.st (F3,t106,t107,(bQ .i64 t108 (1:Int)),El,x1.1)))) none) none) (
   kx (bz.L1.gN (El,zM)).1 (bz.L1.gN (El,zM)).2):=by kernel_rfl
theorem bz.eq{R:Type}(l ks to jM)(k:K1 R):bz.A (l,ks,to,jM) k=
  aN ((iX (l.length:Int) 1)) (
   k (bz.out ((([]:List jO),(([]:List na),(0,()))),1))) (
   aN ((ri (l.length:Int) 64)) (
    k (bz.out ((([]:List jO),(([]:List na),(0,()))),1))) (
    aN ((sx (l.length:Int) (ks.length:Int))) (
     k (bz.out ((([]:List jO),(([]:List na),(0,()))),1))) (
     aB (aS.call to) λx1=>
     aN ((!x1)) (
      k (bz.out ((([]:List jO),(([]:List na),(0,()))),1))) (
      aB (bz.L0.call (l,ks,jM,to,0,l,(l.length:Int),0,(0,()),0,(0,()),([]:List jO))) λx5=>
      aN (x5.isLeft) (
       aB (x5.getLeft?) λa6=>
       k (bz.out ((([]:List jO),(([]:List na),a6)),1))) (
       aB (x5.getRight?) λb7=>
       aN ((iX b7.1.2.2.1 0)) (
        k (bz.out ((([]:List jO),(([]:List na),(0,()))),8))) (
        aN ((ri b7.1.2.2.1 b7.2.1)) (
         k (bz.out ((([]:List jO),(([]:List na),(0,()))),8))) (
         aN (decide (0=0/\(0+b7.2.2.1)<=(List.length b7.2.2.2))) (
         aB (bz.L1.call (b7.1.2.1,b7.1.1,(b7.1.1.length:Int),0,b7.1.2.2.2.2.1,((cut b7.2.2.2 0 b7.2.2.1),([((dC .i64 b7.2.1 b7.1.2.2.1),(b7.1.2.2.2.1,()))],b7.1.2.2.2.2.2)))) λx9=>
         aN (x9.isLeft) (
          aB (x9.getLeft?) λa10=>
          k (bz.out ((([]:List jO),(([]:List na),a10.2)),a10.1))) (
          aB (x9.getRight?) λb11=>
          k (bz.out (b11.2,0)))) none))))))):=by kernel_rfl
theorem L8{t:ke}{i br sc:Int}{ks:List Int}(hv:C2 t)(hs:lH sc)(h:(oP t i br ks sc).2=0):C2 (oP t i br ks sc).1/\pZ t i br ks=true:=by
 rw[EH]at h ⊢
 by_cases e:pZ t i br ks=true
 ·rw[if_pos e]
  exact⟨(Ky hv e hs).2.1,e⟩
 ·rw[if_neg e]at h
  exact absurd h (by decide)
theorem GW:∀(l:List db) (ks:List Int) (s:Int) (ins:List jO) {r:Int×List jO},l.length=ks.length->0<=s->s<=1125899906842624->sh s ins l ks=some r->0<=r.1/\r.1<=1125899906842624/\r.2=ins++l.map AR
 |[],ks,s,ins,r,hl,h0,h1,h=>by
  have:ks=[]:=aQ hl.symm
  subst this
  obtain rfl:=ba h
  exact⟨h0,h1,by simp⟩
 |x::l,[],s,ins,r,hl,_,_,h=>by cases hl
 |x::l,k::ks,s,ins,r,hl,h0,h1,h=>by
  unfold sh at h
  by_cases ho:Ie s ins x k=true
  ·rw[if_pos ho]at h
   unfold Ie qn mB at ho
   simp only[ah,decide_eq_true_eq]at ho
   obtain⟨⟨o1,o2,o3⟩,_⟩:=ho
   obtain⟨i1,i2,i3⟩:=GW l ks _ _ (Nat.succ.inj hl) (by omega) (by omega) h
   exact⟨i1,i2,by rw[i3];simp⟩
  ·rw[if_neg ho]at h;cases h
theorem bz.L0.ok:bz.L0.Ok:=by
 refine bz.L0.da (λ(_,_,_,_,_,l,_,i,_,_,_,_)=>l.length - i.toNat) ?_
 rintro⟨l0,ks,jM,to,s,l,n,i,z,m,z2,ins⟩ ⟨hl,DX,rfl,rfl,k,hk,rfl,hi⟩
 have hl:l.length<=64:=hl
 have DX:l.length=ks.length:=DX
 have hk:k<=l.length:=hk
 have hi:ins.length<=k:=hi
 by_cases h:k < l.length
 ·have hq:k < ks.length:=by omega
  have n1:nth cF l k=l[k]:=dq (t:=cF) h
  have n2:nth tu ks k=ks[k]:=dq (t:=tu) hq
  have hd:l.drop k=l[k]::l.drop (k+1):=ax h
  have QL:ks.drop k=ks[k]::ks.drop (k+1):=ax hq
  have ca:=j8.run (d:=(s,l[k].2.1.1)) trivial
  have ci:=gP.run (d:=(ins.length,ins,l[k])) ⟨by show ins.length<=_;omega,rfl⟩
  have cf:=fc.run (d:=ks[k]) trivial
  by_cases ho:Ie s ins l[k] ks[k]=true
  ·left
   have P2:=ho
   unfold Ie at P2
   simp only[ah,decide_eq_true_eq,bC]at P2
   obtain⟨o1,o2,o3,o4⟩:=P2
   refine⟨(l0,ks,jM,to,s+l[k].2.1.1,l,(l.length:Int),((k+1:Nat):Int),z,ins.length+1,z2,ins++ [AR l[k]]),⟨hl,DX,rfl,by simp,k+1,by omega,rfl,by rw[av];show ins.length+1<=_;omega⟩,by simp only[aa];omega,?_,λkn kx=> ?_⟩
   ·simp only[bz.L0.add,bz.L0.F,aa,hd,QL]
    rw[show sh s ins (l[k]::l.drop (k+1)) (ks[k]::ks.drop (k+1))=sh (s+l[k].2.1.1) (ins++ [AR l[k]]) (l.drop (k+1)) (ks.drop (k+1)) by rw[sh,if_pos ho]]
   ·rw[bz.L0.step,aU (by omega),ag,bt (by omega) (by omega),ag]
    simp only[aa,n1,n2]
    rw[ca]
    simp only[ae,bV,j8.F]
    rw[ci]
    simp only[ae,bV,gP.F,o1,o2,bM,ai,cond_true]
    rw[bt (by omega) (by omega),ag,gB o3,ai,ag,cf]
    simp only[ae,bV,fc.F]
    rw[aU o4,bM,ai,aX (az _),ag,fh (by omega) (by omega),ag,c9,N.py (by omega)]
    rfl
  ·right
   refine⟨bz.L0.dY ((0:Int),()),?_,λkn kx=> ?_⟩
   ·simp only[bz.L0.add,bz.L0.F,aa,hd,QL]
    rw[show sh s ins (l[k]::l.drop (k+1)) (ks[k]::ks.drop (k+1))=none by rw[sh,if_neg ho]]
    rfl
   ·rw[bz.L0.step,aU (by omega),ag,bt (by omega) (by omega),ag]
    simp only[aa,n1,n2]
    rw[ca]
    simp only[ae,bV,j8.F]
    rw[ci]
    simp only[ae,bV,gP.F]
    unfold Ie at ho
    cases o1:qn s l[k].2.1.1 with
    |false=>rw[dm,ag]
    |true=>
     rw[o1,bW]at ho
     rw[bM,ai]
     cases o2:ins.any (oD l[k]) with
     |true=>rw[ag]
     |false=>
      rw[o2,dm,bW,decide_eq_true_eq]at ho
      rw[ai,bt (by omega) (by omega),ag]
      by_cases o3:ks[k]=0
      ·rw[gq o3,ag]
      ·rw[gB o3,ai,ag,cf]
       simp only[ae,bV,fc.F]
       rw[aW (λe=>ho ⟨o3,e⟩),dm,ag]
 ·right
  obtain rfl:k=l.length:=by omega
  refine⟨bz.L0.gN ((l0,ks,jM,to,z,z2),(s,ins.length,ins)),?_,λkn kx=> ?_⟩
  ·simp only[bz.L0.add,bz.L0.F,aa,aY]
   rfl
  ·rw[bz.L0.step,aW (by omega),ai]
theorem bz.L1.ok:bz.L1.Ok:=by
 refine bz.L1.da (λ(_,l,_,i,_,_)=>l.length - i.toNat) ?_
 rintro⟨ks,l,n,i,z,t⟩ ⟨hv,hx,hu,hl,DX,rfl,k,hk,rfl⟩
 have hv:C2 t:=hv
 have hl:l.length<=64:=hl
 have DX:l.length=ks.length:=DX
 have hk:k<=l.length:=hk
 by_cases h:k < l.length
 ·have hq:k < ks.length:=by omega
  have n1:nth cF l k=l[k]:=dq (t:=cF) h
  have n2:nth tu ks k=ks[k]:=dq (t:=tu) hq
  have hd:l.drop k=l[k]::l.drop (k+1):=ax h
  have QL:ks.drop k=ks[k]::ks.drop (k+1):=ax hq
  have hs:=hx _ (bH h)
  have c1:dr.call (t,(k:Int),l[k].2.2.1,[ks[k]],l[k].2.2.2.1)=some (oP t k l[k].2.2.1 [ks[k]] l[k].2.2.2.1):=dr.run (d:=(t,(k:Int),l[k].2.2.1,[ks[k]],l[k].2.2.2.1)) ⟨hv,λx hx=>by rw[bO.1 hx];exact hu _ (bH hq),by show 1<=1000000000;decide⟩
  have vH:(oP t k l[k].2.2.1 [ks[k]] l[k].2.2.2.1).2=0->C2 (oP t k l[k].2.2.1 [ks[k]] l[k].2.2.2.1).1:=λhz=>(L8 hv hs hz).1
  have e:ug t k (l.drop k) (ks.drop k)=if(oP t k l[k].2.2.1 [ks[k]] l[k].2.2.2.1).2=0 then ug (oP t k l[k].2.2.1 [ks[k]] l[k].2.2.2.1).1 (k+1) (l.drop (k+1)) (ks.drop (k+1)) else .inr (oP t k l[k].2.2.1 [ks[k]] l[k].2.2.2.1).2:=by rw[hd,QL,ug]
  generalize oP t k l[k].2.2.1 [ks[k]] l[k].2.2.2.1=r at c1 vH e
  have step:∀ {R:Type} (kn:AS->Option R) (kx:Exit->AS->Option R),bz.L1.R (ks,l,(l.length:Int),(k:Int),z,t) kn kx=aN (sx r.2 0) (kx (bz.L1.dY (r.2,((0:Int),()))).1 (bz.L1.dY (r.2,((0:Int),()))).2) (kn (bz.L1.st (ks,l,(l.length:Int),((k+1:Nat):Int),z,r.1))):=by
   intro R kn kx
   rw[bz.L1.step,aU (by omega),ag,bt (by omega) (by omega),ag,bt (by omega) (by omega),ag]
   simp only[aa,n1,n2]
   rw[c1,ae,N.py (by omega)]
  by_cases hz:r.2=0
  ·left
   refine⟨(ks,l,(l.length:Int),((k+1:Nat):Int),z,r.1),⟨vH hz,hx,hu,hl,DX,rfl,k+1,by omega,rfl⟩,by simp only[aa];omega,?_,λkn kx=> ?_⟩
   ·simp only[bz.L1.add,bz.L1.F,aa,e,if_pos hz]
   ·rw[step,cU hz,ai]
  ·right
   refine⟨bz.L1.dY (r.2,((0:Int),())),?_,λkn kx=> ?_⟩
   ·simp only[bz.L1.add,bz.L1.F,aa,e,if_neg hz]
    rfl
   ·rw[step,fj hz,ag]
 ·right
  obtain rfl:k=l.length:=by omega
  refine⟨bz.L1.gN (z,t),?_,λkn kx=> ?_⟩
  ·simp only[bz.L1.add,bz.L1.F,aa,aY]
   rfl
  ·rw[bz.L1.step,aW (by omega),ai]
theorem Qk{l:List db}{to:Lk}{n:Int}(hl:l.length<=64)(hx:∀x∈l,M5 x)(AI:KS to):C2 (l.map AR,([(n,(to,()))],((0:Int),()))):=by
 refine⟨⟨λo ho=> ?_,by show(l.map AR).length<=_;rw[cg];omega,by show 1<=_;decide⟩,λx h=> ?_,by show(0:Int)<=_;decide⟩
 ·rw[bO.1 (show o∈ [(n,(to,()))] from ho)]
  exact AI
 ·obtain⟨y,hy,rfl⟩:=c7.1 (show x∈l.map AR from h)
  exact⟨(hx y hy).1,⟨λs hs=>(by cases hs),eY 0,by show(0:Int) < 18446744073709551616;decide⟩,aP _⟩
theorem bz.ok:bz.Ok:=by
 rintro⟨l,ks,to,jM⟩ ⟨hx,hu,AI,MC,MB,hf⟩
 have hx:∀x∈l,M5 x:=hx
 have AI:KS to:=AI
 have MC:l.length<=1000000000:=MC
 have MB:ks.length<=1000000000:=MB
 have hf: -1125899906842624<=jM/\jM<=9223372036854775807:=hf
 have z1:((0:Int)).toNat=0:=rfl
 rw[bz.eq]
 simp only[bV,bz.F,vQ]
 by_cases a1:1<=l.length
 rotate_left
 ·rw[aU (by omega),ag,if_neg (λe=>a1 e.1)]
  rfl
 rw[aW (by omega),ai]
 by_cases a2:l.length<=64
 rotate_left
 ·rw[dA (by omega),ag,if_neg (λe=>a2 e.2.1)]
  rfl
 rw[di (by omega),ai]
 by_cases a3:l.length=ks.length
 rotate_left
 ·rw[fj (by omega),ag,if_neg (λe=>a3 e.2.2.1)]
  rfl
 rw[cU (by omega),ai,aS.run (d:=to) ⟨AI.1,AI.2⟩]
 simp only[ae,bV,aS.F]
 cases a4:qk to with
 |false=>
  rw[dm,ag,if_neg (λe=>by cases e.2.2.2)]
  rfl
 |true=>
 rw[bM,ai,if_pos ⟨a1,a2,a3,rfl⟩,bz.L0.run (d:=(l,ks,jM,to,0,l,(l.length:Int),0,(0,()),0,(0,()),[])) ⟨a2,a3,rfl,rfl,0,aP _,rfl,az _⟩]
 simp only[ae,bz.L0.add,bz.L0.F,z1,aI]
 cases hm:sh 0 [] l ks with
 |none=>rfl
 |some r=>
  obtain⟨r1,r2,r3⟩:=GW l ks 0 [] a3 (eY 0) (by decide) hm
  simp only[kC,ai,je,ae]
  by_cases b1:jM < 0
  ·rw[aU b1,ag,if_pos (.inl b1)]
   rfl
  rw[aW b1,ai]
  by_cases b2:jM > r.1
  ·rw[dA b2,ag,if_pos (.inr b2)]
   rfl
  rw[di b2,ai,if_neg (λe=>e.elim b1 b2),aX ⟨trivial,by omega⟩,ag,iW rfl,ee (by omega) (by omega)]
  rw[bh]at r3
  have hv:C2 (r.2,([(r.1 - jM,(to,()))],((0:Int),()))):=by rw[r3];exact Qk a2 hx AI
  rw[bz.L1.run (d:=(ks,l,(l.length:Int),0,(0,()),(r.2,([(r.1 - jM,(to,()))],((0:Int),()))))) ⟨hv,λx h=>(hx x h).2,hu,a2,a3,rfl,0,aP _,rfl⟩]
  simp only[ae,bz.L1.add,bz.L1.F,z1,aI]
  generalize ug _ 0 l ks=q
  cases q with
  |inl t=>rfl
  |inr e=>rfl
theorem bz.run:bz.RS:=rE [.d (.slice cF),.d tU,.d re,.d ti] bz
def bz.sg:=bz.gk bz.ok 2 ⟨.iY bz.L0.ok,⟨.iY bz.L1.ok,trivial⟩⟩
abbrev dN.D:=fZ×Bs×Lk×Int×oR×Int
abbrev dN.Y:=ke×Int×Int
def ub(g:fZ)(ks:List Int)(to:Lk)(h:Int)(b:oR)(dw:Int):ke×Int×Int:=
 if dw > 0/\qX g h b<=dw then(GG,0,4) else
 if(if dw > 0 then imax (qX g h b) (dw+rh g.1) else qX g h b) > g.2.2.1 then(GG,0,13) else
 if(vQ g.1 ks to (if dw > 0 then imax (qX g h b) (dw+rh g.1) else qX g h b)).2≠0 then(GG,0,(vQ g.1 ks to (if dw > 0 then imax (qX g h b) (dw+rh g.1) else qX g h b)).2) else((vQ g.1 ks to (if dw > 0 then imax (qX g h b) (dw+rh g.1) else qX g h b)).1,(if dw > 0 then imax (qX g h b) (dw+rh g.1) else qX g h b),0)
def dN.bf:dN.D->Prop:=λ(g,ks,to,h,b,dw)=>Pa g/\(0<=h/\h<=9223372036854775807)/\(∀x∈g.1,M5 x)/\(∀k∈ks,lH k)/\KS to/\g.1.length<=1000000/\ks.length<=1000000000/\dw<=1125899906842624
def dN.F:dN.D->dN.Y:=λ(g,ks,to,h,b,dw)=>ub g ks to h b dw
def dN:Fs Tryz.prog dN.bf bV dN.F:=gf 50 Tryz.f50 (λ(g,keys,to,atv,b,dw)=>([.d iF g,.d tU keys,.d re to,.d ti atv,.d mm b,.d ti dw],[])) (λx=>⟨.cons (.d px x.1) (.cons (.d ti x.2.1) (.cons (.d ti x.2.2) (.nil))),[],[]⟩) [some iF,some tU,some re,some ti,some mm,some ti] [mg.sg,bP.sg,bz.sg] {res:=[some px,none,none]}
theorem dN.eq{R:Type}(g keys to atv b dw)(k:K1 R):dN.A (g,keys,to,atv,b,dw) k=
  aB (mg.call (g,atv,b)) λx1=>
  aN ((ri dw 0)) (
   aN ((zt x1 dw)) (
    k (dN.out ((([]:List jO),(([]:List na),(0,()))),0,4))) (
    aB (bP.call g.1) λx2=>
    aN ((ri (imax x1 (bQ .i64 dw x2)) g.2.2.1)) (
     k (dN.out ((([]:List jO),(([]:List na),(0,()))),0,13))) (
     aB (bz.call (g.1,keys,to,(imax x1 (bQ .i64 dw x2)))) λx3=>
     aN ((sx x3.2 0)) (
      k (dN.out ((([]:List jO),(([]:List na),(0,()))),0,x3.2))) (
      k (dN.out (x3.1,(imax x1 (bQ .i64 dw x2)),0)))))) (
   aN ((ri x1 g.2.2.1)) (
    k (dN.out ((([]:List jO),(([]:List na),(0,()))),0,13))) (
    aB (bz.call (g.1,keys,to,x1)) λx4=>
    aN ((sx x4.2 0)) (
     k (dN.out ((([]:List jO),(([]:List na),(0,()))),0,x4.2))) (
     k (dN.out (x4.1,x1,0))))):=by kernel_rfl
theorem dN.ok:dN.Ok:=by
 rintro⟨g,ks,to,h,b,dw⟩ ⟨hg,hh,hx,hu,AI,hl,hk,ho⟩
 have hl:g.1.length<=1000000:=hl
 have ho:dw<=1125899906842624:=ho
 have hf:=Jy (h:=h) (b:=b) hg
 have hw:=qR g.1
 obtain⟨⟨g1,g2,g3⟩,_⟩:=id hg
 have cm:∀jM:Int,0<=jM->jM<=1125899906842624->bz.call (g.1,ks,to,jM)=some (vQ g.1 ks to jM):=λjM h0 h1=>bz.run (d:=(g.1,ks,to,jM)) ⟨hx,hu,AI,by show g.1.length<=_;omega,hk,by show -1125899906842624<=jM;omega,by show jM<=_;omega⟩
 rw[dN.eq,mg.run (d:=(g,h,b)) ⟨hg,hh.1,hh.2⟩]
 simp only[ae,bV,mg.F,bV,dN.F,ub]
 generalize qX g h b=f at hf
 by_cases a1:dw > 0
 ·rw[dA a1,ag]
  by_cases a2:f<=dw
  ·rw[hZ a2,ag,if_pos ⟨a1,a2⟩]
   rfl
  ·rw[fO a2,ai,if_neg (λe=>a2 e.2),bP.run (d:=g.1) (by show g.1.length<=_;omega)]
   simp only[ae,bV,bP.F,if_pos a1]
   rw[dL (x:=dw) (by omega) (by omega)]
   have h1:0<=imax f (dw+rh g.1):=by unfold imax;split <;> omega
   generalize imax f (dw+rh g.1)=q at h1
   by_cases a3:q > g.2.2.1
   ·rw[dA a3,ag,if_pos a3]
    rfl
   ·rw[di a3,ai,if_neg a3,cm q h1 (by omega)]
    simp only[ae]
    generalize vQ g.1 ks to q=r
    by_cases a4:r.2=0
    ·rw[cU a4,ai,if_neg (λe=>e a4)]
    ·rw[fj a4,ag,if_pos a4]
     rfl
 ·rw[di a1,ai,if_neg (λe=>a1 e.1),if_neg a1]
  by_cases a3:f > g.2.2.1
  ·rw[dA a3,ag,if_pos a3]
   rfl
  ·rw[di a3,ai,if_neg a3,cm f (by omega) (by omega)]
   simp only[ae]
   generalize vQ g.1 ks to f=r
   by_cases a4:r.2=0
   ·rw[cU a4,ai,if_neg (λe=>e a4)]
   ·rw[fj a4,ag,if_pos a4]
    rfl
theorem dN.run:dN.RS:=rE [.d iF,.d tU,.d re,.d ti,.d mm,.d ti] dN
def dN.sg:=dN.gk dN.ok
def mT:List Int:=[152,45,158,62,185,150,245,89,230,51,244,209,148,222,243,118,29,144,159,90,59,100,125,26,133,31,234,214,124,50,201,209]
theorem s3:sm 3 mT=(2066670005889522986,1913675330412042729,()):=by decide+kernel
theorem s5:sm 5 mT=(1601457595092860225,1871270319440231866,()):=by decide+kernel
theorem u0:lH 0:=⟨eY 0,by decide⟩
theorem LH{ks:List Int}(h:Bg ks):Ml (fR ks):=λb hb=>by
 have hb:b∈ [(ks,(0:Int),(0:Int),(0:Int),())]:=hb
 rw[bO]at hb
 subst hb
 exact⟨h,u0⟩
theorem QV:yy 0=true:=rfl
theorem K8(ks:List Int)(a d:Int)(h:ks.length<=12):ur (ks,a,d,0,())=(ks.all xe && (yy a && yy d)):=by
 have e:ur (ks,a,d,0,())=(decide (ks.length<=12) && (ks.all xe && (yy a && (yy d && true)))):=rfl
 rw[e,aX h,bW,ln]
theorem J2(ks:List Int)(h:ks.length<=12):qk (fR ks)=ks.all xe:=by
 have e:qk (fR ks)=((ur (ks,0,0,0,()) && true) && true):=rfl
 rw[e,K8 _ _ _ h,QV,ln,ln,ln,ln]
theorem MX{R:Type}{c:Bool}{x y r:Option R}(h:c=true)(h2:x=r):aN c x y=r:=by rw[h];exact h2
theorem sy{X R:Type}{x:Option X}{a:X}{f:X->Option R}{r:Option R}(h:x=some a)(h2:f a=r):aB x f=r:=by rw[h];exact h2
def oC(n a u:Int):db:=((List.replicate 32 0,(n,())),((a,(fR [lu (n+2)],())),(0,(0,(0,(u,()))))))
abbrev jk.D:=Int×Int×Int
abbrev jk.Y:=db
def jk.bf:jk.D->Prop:=λ(n,_,_)=>0<=n/\n<=100
def jk.F:jk.D->jk.Y:=λ(n,a,u)=>oC n a u
def jk:Fs Tryz.prog jk.bf bV jk.F:=gf 97 Tryz.f97 (λ(n,amount,untilv)=>([.d ti n,.d ti amount,.d ti untilv],[])) (λx=>⟨.d cF x,[],[]⟩) [some ti,some ti,some ti] [iD.sg,l7.sg]
theorem jk.eq{R:Type}(n amount untilv)(k:K1 R):jk.A (n,amount,untilv) k=
 aB (iD.call (eo .u64 (bQ .i64 n 2))) λx1=>
 aB (l7.call x1) λx2=>
 k (jk.out (((List.replicate 32 0),(n,())),((amount,(x2,())),(0,(0,(0,(untilv,()))))))):=by kernel_rfl
theorem jk.ok:jk.Ok:=by
 rintro⟨n,a,u⟩ ⟨h0,h1⟩
 have h0:0<=n:=h0
 have h1:n<=100:=h1
 have e:eo .u64 (bQ .i64 n 2)=n+2:=by rw[dL (by omega) (by omega),w9];omega
 rw[jk.eq,e,iD.run (d:=n+2) ⟨by omega,by omega⟩]
 simp only[ae,bV,iD.F]
 rw[l7.run (d:=lu (n+2)) trivial]
 rfl
theorem jk.run:jk.RS:=rE [.d ti,.d ti,.d ti] jk
def jk.sg:=jk.gk jk.ok
abbrev bU.L0.D:=(List db)×Int
def bU.L0.st:bU.L0.D->AS:=λ(gd,i)=>⟨([.d (.slice cF) gd,.undef,.undef,.d ti i]++bm 22 []),[],(List.replicate 26 [])⟩
abbrev bU.L0.Y0:=Unit
abbrev bU.L0.X0:=Unit
def bU.L0.dY:bU.L0.X0->Exit×AS:=λx=>(.ret,⟨([.undef,.undef,.d .bool false]++bm 23 []),[],(List.replicate 26 [])⟩)
abbrev bU.L0.Y1:=Unit
abbrev bU.L0.X1:=(List db)
def bU.L0.gN:bU.L0.X1->Exit×AS:=λx=>(.exit 0,⟨([.d (.slice cF) x]++bm 25 []),[],(List.replicate 26 [])⟩)
abbrev bU.L0.X:=(bU.L0.X0)⊕(bU.L0.X1)
abbrev bU.L0.Y:=(bU.L0.Y0)⊕(bU.L0.Y1)
def bU.L0.out:bU.L0.X->Out (Exit×AS):=λx=> .br x.isLeft (.get x.getLeft? λa=> .ok (bU.L0.dY a)) (.get x.getRight? λb=> .ok (bU.L0.gN b))
def bU.L0.add:bU.L0.D->bU.L0.Y->bU.L0.X:=λ(gd,i) y=>match y with | .inl y=> .inl y | .inr z=> .inr (gd)
abbrev bU.D:=(List db)
abbrev bU.Y:=Bool
def An(x:db):Bool:=xx ([],([x.2.1],((0:Int),())))
def HJ(l:List db):Bool:=(l.take 80).all An && decide (l.length<=70)
theorem Jz{l:List db}(h:HJ l=true):l.length<=70/\∀x∈l,KR x.2.1.2.1:=by
 unfold HJ at h
 rw[ah,decide_eq_true_eq]at h
 obtain⟨h1,h2⟩:=h
 rw[bg (by omega)]at h1
 refine⟨h2,λx hx=> ?_⟩
 have:=cY.1 h1 x hx
 unfold An xx lC at this
 simp only[gH,List.all_nil,ah,decide_eq_true_eq,cY]at this
 refine⟨by omega,λb hb=> ?_⟩
 have h3:=this.2.2.1.2 b hb
 unfold nM at h3
 have h3:=of_decide_eq_true h3
 omega
def bU.L0.bf:bU.L0.D->Prop:=λ(l,i)=>∃k:Nat,k<=l.length/\k<=80/\i=k
def bU.L0.F:bU.L0.D->bU.L0.Y:=λ(l,i)=>if((l.take 80).drop i.toNat).all An=true then .inr () else .inl ()
def bU.bf:bU.D->Prop:=λ_=>True
def bU.F:bU.D->bU.Y:=λl=>HJ l
def bU.L0.E:=eR.iY bU.L0.st bU.L0.bf bU.L0.add bU.L0.F bU.L0.out
def bU.L0.call:bU.L0.D->Option bU.L0.X:=kE bU.L0.E bU.L0.st
def bU:Fs Tryz.prog bU.bf bV bU.F:=gf 43 Tryz.f43 (λl=>([.d (.slice cF) l],[])) (λx=>⟨.d .bool x,[],[]⟩) [some (.slice cF)] [ab.sg] {loops:=qu [(2,{bA:=[0,3]})],outs:=qt [(2,{bA:=[0]},{bA:=[2]})],jl:=qU [(2,bU.L0.E)]}
def bU.L0.R:= @iN Tryz.prog (mR bU.G) bU.an 0 Tryz.f43 0 _ bU.L0.st
abbrev bU.L0.Ok:=oS Tryz.prog (mR bU.G) bU.an 0 Tryz.f43 0 bU.L0.st bU.L0.bf bU.L0.add bU.L0.F bU.L0.out
theorem bU.L0.run:ng bU.L0.call bU.L0.bf bU.L0.add bU.L0.F:=ql (o8 [.d (.slice cF),.d ti] λ_=>by kernel_rfl)
theorem bU.L0.da:qh @bU.L0.R bU.L0.st bU.L0.bf bU.L0.add bU.L0.F bU.L0.out bU.L0.Ok:=qH
theorem bU.L0.step{R:Type}(gd:(List db))(i:Int)(kn:AS->Option R)(kx:Exit->AS->Option R):bU.L0.R (gd,i) kn kx=
  aN ((iX i (((List.length gd):Nat):Int))) (
   aN ((iX i (80:Int))) (
    aN (gw i (((List.length gd):Nat):Int)) (
    aB (ab.call (([]:List jO),([(nth cF gd (Int.toNat i)).2.1],((0:Int),())))) λx1=>
    aN ((!x1)) (
     kx (bU.L0.dY ()).1 (bU.L0.dY ()).2) (
     kn (bU.L0.st (gd,(bQ .i64 i (1:Int)))))) none) (
    kx (bU.L0.gN gd).1 (bU.L0.gN gd).2)) (
   kx (bU.L0.gN gd).1 (bU.L0.gN gd).2):=by kernel_rfl
theorem bU.eq{R:Type}(l)(k:K1 R):bU.A l k=
  aB (bU.L0.call (l,0)) λx2=>
  aN (x2.isLeft) (
   aB (x2.getLeft?) λa3=>
   k (bU.out false)) (
   aB (x2.getRight?) λb4=>
   k (bU.out (zt (b4.length:Int) 70))):=by kernel_rfl
theorem bU.L0.ok:bU.L0.Ok:=by
 refine bU.L0.da (λ(l,i)=>80 - i.toNat) ?_
 rintro⟨l,i⟩ ⟨k,hk,DX,rfl⟩
 have hk:k<=l.length:=hk
 have DX:k<=80:=DX
 have stop:(l.length<=k\/80<=k)->bU.L0.F (l,(k:Int))= .inr ():=λh=>by
  have e:(l.take 80).drop k=[]:=fU (by rw[bI];omega)
  simp only[bU.L0.F,aa,e]
  rfl
 by_cases h:k < l.length
 ·by_cases h8:k < 80
  ·have n1:nth cF l k=l[k]:=dq (t:=cF) h
   have hd:(l.take 80).drop k=l[k]::(l.take 80).drop (k+1):=by
    have:=ax (l:=l.take 80) (i:=k) (by rw[bI];omega)
    rwa[List.getElem_take]at this
   have cs:=ab.run (d:=(([]:List jO),([l[k].2.1],((0:Int),())))) trivial
   cases hs:An l[k]with
   |false=>
    right
    refine⟨bU.L0.dY (),?_,λkn kx=> ?_⟩
    ·simp only[bU.L0.add,bU.L0.F,aa,hd,gH,hs,eM,bN,if_false]
     rfl
    ·rw[bU.L0.step,aU (by omega),ag,aU (by omega),ag,bt (by omega) (by omega),ag,aa,n1,cs]
     simp only[ae,bV,ab.F]
     rw[show xx ([],[l[k].2.1],0,())=false from hs,dm,ag]
   |true=>
    left
    refine⟨(l,((k+1:Nat):Int)),⟨k+1,by omega,by omega,rfl⟩,by simp only[aa];omega,?_,λkn kx=> ?_⟩
    ·simp only[bU.L0.add,bU.L0.F,aa,hd,gH,hs,bW]
    ·rw[bU.L0.step,aU (by omega),ag,aU (by omega),ag,bt (by omega) (by omega),ag,aa,n1,cs]
     simp only[ae,bV,ab.F]
     rw[show xx ([],[l[k].2.1],0,())=true from hs,bM,ai,N.py (by omega)]
  ·right
   refine⟨bU.L0.gN l,?_,λkn kx=> ?_⟩
   ·show(bU.L0.out (bU.L0.add (l,(k:Int)) (bU.L0.F (l,(k:Int))))).eval=_
    rw[stop (.inr (by omega))]
    rfl
   ·rw[bU.L0.step,aU (by omega),ag,aW (by omega),ai]
 ·right
  refine⟨bU.L0.gN l,?_,λkn kx=> ?_⟩
  ·show(bU.L0.out (bU.L0.add (l,(k:Int)) (bU.L0.F (l,(k:Int))))).eval=_
   rw[stop (.inl (by omega))]
   rfl
  ·rw[bU.L0.step,aW (by omega),ai]
theorem bU.ok:bU.Ok:=by
 intro l _
 have z1:((0:Int)).toNat=0:=rfl
 rw[bU.eq,bU.L0.run (d:=(l,0)) ⟨0,aP _,aP _,rfl⟩]
 simp only[ae,bU.L0.F,z1,aI,bV,bU.F,HJ]
 cases(l.take 80).all An with
 |false=>rfl
 |true=>
  rw[bW]
  by_cases h:l.length<=70
  ·rw[aX h]
   refine congrArg (λb=>some (bU.out b)) ?_
   exact hZ (by show((l.length:Nat):Int)<=70;omega)
  ·rw[cC h]
   refine congrArg (λb=>some (bU.out b)) ?_
   exact fO (by show ¬((l.length:Nat):Int)<=70;omega)
theorem bU.run:bU.RS:=rE [.d (.slice cF)] bU
def bU.sg:=bU.gk bU.ok 1 ⟨.iY bU.L0.ok,trivial⟩
def BI:List db:=[oC 3 1000 0,oC 1 500 50,oC 2 35 0,oC 5 700 0,oC 4 300 30]
def sz:oR:=(2,(1,(4,())))
theorem IW:∀x∈List.replicate 32 (0:Int),0<=x/\x < 256:=λx hx=>by rw[(List.mem_replicate.1 hx).2];exact⟨by decide,by decide⟩
theorem Io(n a u:Int)(hu:u<=100):AE (oC n a u):=⟨⟨cJ,IW⟩,⟨by show 1<=_;decide,λb hb=>by
 rw[bO.1 (show b∈ [([lu (n+2)],(0,(0,(0,()))))] from hb)]
 show 1<=_
 decide⟩,by show u<=_;omega⟩
theorem Oh(n a u:Int):M5 (oC n a u):=⟨⟨cJ,IW⟩,eY 0,by show(0:Int) < 18446744073709551616;decide⟩
theorem JX:∀x∈BI,AE x:=λx hx=>by
 unfold BI at hx
 simp only[bY,gA,or_false]at hx
 rcases hx with rfl | rfl | rfl | rfl | rfl
 ·exact Io _ _ _ (by decide)
 ·exact Io _ _ _ (by decide)
 ·exact Io _ _ _ (by decide)
 ·exact Io _ _ _ (by decide)
 ·exact Io _ _ _ (by decide)
theorem Ld:mz (oC 1 500 50) (oC 4 300 30)=1:=by
 unfold mz qW
 rfl
theorem Lc:yp (oC 5 700 0) (oC 3 1000 0)=1:=by
 unfold yp
 rw[lI ⟨cJ,IW⟩ ⟨cJ,IW⟩]
 decide
theorem GV:dd BI sz 10=[oC 4 300 30,oC 1 500 50]:=by
 have e:BI.filter (o5 sz 10)=[oC 1 500 50,oC 4 300 30]:=by kernel_rfl
 have hq:∀x∈ [oC 1 500 50,oC 4 300 30],tm x:=λx hx=>by
  simp only[bY,gA,or_false]at hx
  rcases hx with rfl | rfl <;> exact⟨cJ,IW⟩
 unfold dd
 rw[e]
 refine(qa nj hq (λx hx y hy h1 h2=> ?_) ⟨List.Perm.swap ..,?_⟩).symm
 ·have:=sG (hq x hx) (hq y hy) h1 h2
  simp only[bY,gA,or_false]at hx hy
  rcases hx with rfl | rfl <;> rcases hy with rfl | rfl
  ·rfl
  ·cases congrArg (λo:jm=>o.2.1) this
  ·cases congrArg (λo:jm=>o.2.1) this
  ·rfl
 ·refine e8.2 ⟨λy hy=> ?_,List.pairwise_singleton _ _⟩
  rw[bO.1 hy,Ld]
  decide
theorem Kr:gv BI sz 10=[oC 3 1000 0,oC 5 700 0]:=by
 have e:BI.filter (pg sz 10)=[oC 3 1000 0,oC 5 700 0]:=by kernel_rfl
 have hq:∀x∈ [oC 3 1000 0,oC 5 700 0],tm x:=λx hx=>by
  simp only[bY,gA,or_false]at hx
  rcases hx with rfl | rfl <;> exact⟨cJ,IW⟩
 unfold gv
 rw[e]
 refine(qa pE hq (λx hx y hy h1 h2=> ?_) ⟨jB _,?_⟩).symm
 ·have:x.1=y.1:=uz (hq x hx) (hq y hy) h1 h2
  simp only[bY,gA,or_false]at hx hy
  rcases hx with rfl | rfl <;> rcases hy with rfl | rfl
  ·rfl
  ·cases congrArg (λo:jm=>o.2.1) this
  ·cases congrArg (λo:jm=>o.2.1) this
  ·rfl
 ·refine e8.2 ⟨λy hy=> ?_,List.pairwise_singleton _ _⟩
  rw[bO.1 hy,Lc]
  decide
def NA:fZ:=([oC 4 300 30],(36,(300,(30,()))))
def nk(m:Int):fZ:=([oC 1 500 50],(36,(m,(50,()))))
def zi:fZ:=([oC 3 1000 0,oC 5 700 0],(54,(54,(0,()))))
def NB:fZ:=([oC 4 300 30],(36,(54,(30,()))))
theorem LR:pV BI 800 sz 10=([NA,nk 446,zi],0):=by
 have e:jJ BI 800 sz 10=true:=by kernel_rfl
 unfold pV mL gT
 rw[if_pos e,GV,Kr]
 exact(by kernel_rfl:(ia 2 (ja 800 ([oC 4 300 30,oC 1 500 50].map jj++(fF [oC 3 1000 0,oC 5 700 0]).map fe)).1 (ja 800 ([oC 4 300 30,oC 1 500 50].map jj++(fF [oC 3 1000 0,oC 5 700 0]).map fe)).2,(0:Int))=([NA,nk 446,zi],0))
theorem LS:pV BI 90 sz 10=([NB,nk 36],0):=by
 have e:jJ BI 90 sz 10=true:=by kernel_rfl
 unfold pV mL gT
 rw[if_pos e,GV,Kr]
 exact(by kernel_rfl:(ia 2 (ja 90 ([oC 4 300 30,oC 1 500 50].map jj++(fF [oC 3 1000 0,oC 5 700 0]).map fe)).1 (ja 90 ([oC 4 300 30,oC 1 500 50].map jj++(fF [oC 3 1000 0,oC 5 700 0]).map fe)).2,(0:Int))=([NB,nk 36],0))
theorem LU:pV (BI++ [oC 3 1000 0]) 90 sz 10=([],1):=by
 unfold pV
 rw[if_neg]
 intro h
 unfold jJ at h
 simp only[ah]at h
 have:=((u6 _).1 h.2.2.2).2.1
 exact absurd this (by unfold BI;simp[oC])
theorem Qo(P:Int)(hP:xe P=true)(hu:lH P)(jM:Int)(h0:0<=jM)(h1:jM<=500):∃t:ke,vQ [oC 1 500 50] [3] (fR [P]) jM=(t,0)/\t.1.length=1/\t.2.1.length=1:=by
 have hl:qk (fR [P])=true:=by
  rw[J2 [P] (by show 1<=12;decide)]
  simp only[gH,List.all_nil,hP,ln]
 have hg:sh 0 [] [oC 1 500 50] [3]=some (500,[AR (oC 1 500 50)]):=by kernel_rfl
 have nm:lE ([AR (oC 1 500 50)],([(500 - jM,(fR [P],()))],((0:Int),())))=true:=by
  have e1:tQ [] [AR (oC 1 500 50)]=true:=by kernel_rfl
  unfold lE Ay
  show(decide (1<=1/\1<=64/\1<=64/\(0:Int)<=0) && (tQ [] [AR (oC 1 500 50)] && (((mB 0 && (mB (500 - jM) && decide (0+(500 - jM)<=1125899906842624))) && qk (fR [P])) && true)))=true
  have e2:mB (500 - jM)=true:=aX ⟨by omega,by omega⟩
  rw[e1,hl,e2,aX (p:=0+(500 - jM)<=1125899906842624) (by omega)]
  rfl
 have hs:pZ ([AR (oC 1 500 50)],([(500 - jM,(fR [P],()))],((0:Int),()))) 0 0 [3]=true:=by
  unfold pZ
  rw[nm,aX ⟨by decide,by show(0:Int) < ((1:Nat):Int);decide,by decide,by decide,by show 1<=12;decide⟩]
  rfl
 have hv:oP ([AR (oC 1 500 50)],([(500 - jM,(fR [P],()))],((0:Int),()))) ((0:Nat):Int) 0 [3] 0=(u9 ([AR (oC 1 500 50)],([(500 - jM,(fR [P],()))],((0:Int),()))) 0 (yF ([AR (oC 1 500 50)],([(500 - jM,(fR [P],()))],((0:Int),()))) 0 [3] 0),0):=by
  rw[show((0:Nat):Int)=0 from rfl,EH,if_pos hs]
  rfl
 refine⟨u9 ([AR (oC 1 500 50)],([(500 - jM,(fR [P],()))],((0:Int),()))) 0 (yF ([AR (oC 1 500 50)],([(500 - jM,(fR [P],()))],((0:Int),()))) 0 [3] 0),?_,by rw[Kw];rfl,rfl⟩
 unfold vQ
 rw[if_pos ⟨by show 1<=1;decide,by show 1<=64;decide,rfl,hl⟩,hg]
 show(if jM < 0\/jM > 500 then(GG,8) else match ug ([AR (oC 1 500 50)],([(500 - jM,(fR [P],()))],((0:Int),()))) 0 [oC 1 500 50] [3]with | .inl t=>(t,0) | .inr e=>(GG,e))=_
 have es:ug ([AR (oC 1 500 50)],([(500 - jM,(fR [P],()))],((0:Int),()))) 0 [oC 1 500 50] [3]= .inl (u9 ([AR (oC 1 500 50)],([(500 - jM,(fR [P],()))],((0:Int),()))) 0 (yF ([AR (oC 1 500 50)],([(500 - jM,(fR [P],()))],((0:Int),()))) 0 [3] 0)):=by
  rw[ug,show(oC 1 500 50).2.2.1=0 from rfl,show(oC 1 500 50).2.2.2.1=0 from rfl,hv,if_pos rfl]
  rfl
 rw[if_neg (by omega),es]
theorem N9:xe 4=true:=by decide+kernel
def vd(P jM:Int):ke:=(vQ [oC 1 500 50] [3] (fR [P]) jM).1
theorem CW{P:Int}(hP:xe P=true)(hu:lH P){jM:Int}(h0:0<=jM)(h1:jM<=500):vQ [oC 1 500 50] [3] (fR [P]) jM=(vd P jM,0)/\(vd P jM).1.length=1/\(vd P jM).2.1.length=1:=by
 obtain⟨t,h2,h3,h4⟩:=Qo P hP hu jM h0 h1
 have e:vd P jM=t:=by
  unfold vd
  rw[h2]
 rw[e]
 exact⟨h2,h3,h4⟩
def O2:List fZ×Int:=([NA,nk 446,zi],0)
def O3:List fZ×Int:=([NB,nk 36],0)
def O4:List fZ×Int:=([],1)
def OZ:ke×Int×Int:=(vd 4 36,36,0)
def O0:ke×Int×Int:=(vd 4 446,446,0)
def Qr:ke×Int×Int:=(GG,0,4)
def Qs:ke×Int×Int:=(GG,0,13)
open Classical in
def jv{X:Type}(x0 x:X):Option Unit:=if x=x0 then some () else none
theorem oa{X:Type}{x0:X}(x:X)(z:Unit)(h:jv x0 x=some z):x=(λ_:Unit=>x0) z:=by
 unfold jv at h
 split at h
 ·assumption
 ·cases h
theorem qq{X:Type}(x0:X):nc (jv x0) (some x0)=some ():=by
 unfold nc jv
 exact if_pos rfl
def F0(n:Int)(m:Bool):List aw->Bool:=λvs=>match vs with | [.d _ _,.d (.int _) k,_,_]=>decide ((k:Int)=n) && !m | [.cO ..,.d (.int _) k,_,_]=>decide ((k:Int)=n) && m | _=>false
def CE(h o:Int):List aw->Bool:=λvs=>match vs with | [_,_,_,.d (.int _) k,_,.d (.int _) j]=>decide ((k:Int)=h) && decide ((j:Int)=o) | _=>false
def IF:Int:=20
def Ri.E:Entry:=Entry.half [some (.slice cF),some ti,some mm,some ti] (X:=aF.Y) (Z:=Unit) aF.E.run aF.E.out (λ_=>O2) (jv O2)
def Ri.sg:SG Tryz.prog:=⟨44,(F0 800 false),Ri.E,oJ.of (lb.half oa (aF.sg.h.1 (by rfl))) (by rfl)⟩
def Rj.E:Entry:=Entry.half [some (.slice cF),some ti,some mm,some ti] (X:=aF.Y) (Z:=Unit) aF.E.run aF.E.out (λ_=>O3) (jv O3)
def Rj.sg:SG Tryz.prog:=⟨44,(F0 90 false),Rj.E,oJ.of (lb.half oa (aF.sg.h.1 (by rfl))) (by rfl)⟩
def Rk.E:Entry:=Entry.half [some (.slice cF),some ti,some mm,some ti] (X:=aF.Y) (Z:=Unit) aF.E.run aF.E.out (λ_=>O4) (jv O4)
def Rk.sg:SG Tryz.prog:=⟨44,(F0 90 true),Rk.E,oJ.of (lb.half oa (aF.sg.h.1 (by rfl))) (by rfl)⟩
def Re.E:Entry:=Entry.half [some iF,some tU,some re,some ti,some mm,some ti] (X:=dN.Y) (Z:=Unit) dN.E.run dN.E.out (λ_=>OZ) (jv OZ)
def Re.sg:SG Tryz.prog:=⟨50,(CE (10) 0),Re.E,oJ.of (lb.half oa (dN.sg.h.1 (by rfl))) (by rfl)⟩
def Rf.E:Entry:=Entry.half [some iF,some tU,some re,some ti,some mm,some ti] (X:=dN.Y) (Z:=Unit) dN.E.run dN.E.out (λ_=>O0) (jv O0)
def Rf.sg:SG Tryz.prog:=⟨50,(CE (30) 36),Rf.E,oJ.of (lb.half oa (dN.sg.h.1 (by rfl))) (by rfl)⟩
def Rg.E:Entry:=Entry.half [some iF,some tU,some re,some ti,some mm,some ti] (X:=dN.Y) (Z:=Unit) dN.E.run dN.E.out (λ_=>Qr) (jv Qr)
def Rg.sg:SG Tryz.prog:=⟨50,(CE (30) 446),Rg.E,oJ.of (lb.half oa (dN.sg.h.1 (by rfl))) (by rfl)⟩
def Rh.E:Entry:=Entry.half [some iF,some tU,some re,some ti,some mm,some ti] (X:=dN.Y) (Z:=Unit) dN.E.run dN.E.out (λ_=>Qs) (jv Qs)
def Rh.sg:SG Tryz.prog:=⟨50,(CE (60) 36),Rh.E,oJ.of (lb.half oa (dN.sg.h.1 (by rfl))) (by rfl)⟩
def Rl.E:Entry:=Entry.half [some mm] (X:=gg.Y) (Z:=Unit) gg.E.run gg.E.out (λ_=>IF) (jv IF)
def Rl.sg:SG Tryz.prog:=⟨57,yG,Rl.E,oJ.of (lb.half oa (gg.sg.h.1 (by rfl))) (by rfl)⟩
abbrev fi.D:=Unit
abbrev fi.Y:=Bool
def fi.bf:fi.D->Prop:=λ_=>True
def fi.F:fi.D->fi.Y:=λ_=>true
def fi:Fs Tryz.prog fi.bf bV fi.F:=gf 42 Tryz.f42 (λ_=>([],[])) (λx=>⟨.d .bool x,[],[]⟩) [] [jk.sg,Ri.sg,Rj.sg,Rk.sg,Rl.sg,l7.sg,Re.sg,Rf.sg,Rg.sg,Rh.sg,bP.sg] {bE:=[44]}
theorem fi.eq{R:Type}(d)(k:K1 R):fi.A d k=
  aB (jk.call (3,1000,0)) λKO=>
  aB (jk.call (1,500,50)) λHn=>
  aB (jk.call (2,35,0)) λM3=>
  aB (jk.call (5,700,0)) λO7=>
  aB (jk.call (4,300,30)) λQ1=>
  aB (nc (jv O2) (aF.call ([KO,Hn,M3,O7,Q1],800,(2,(1,(4,()))),10))) λOC=>
  aB (nc (jv O3) (aF.call ([KO,Hn,M3,O7,Q1],90,(2,(1,(4,()))),10))) λTo=>
  aB (nc (jv O4) (aF.call ([KO,Hn,M3,O7,Q1,KO],90,(2,(1,(4,()))),10))) λQ4=>
  aB (nc (jv IF) (gg.call (2,(1,(4,()))))) λUG=>
  aB (l7.call 4) λUq=>
  aB (nc (jv OZ) (dN.call (([(((List.replicate 32 0),(1,())),((500,((fR [lu (1+2)]),())),(0,(0,(0,(50,()))))))],(36,(446,(50,())))),[3],Uq,10,(2,(1,(4,()))),0))) λUH=>
  aB (l7.call 4) λUr=>
  aB (nc (jv O0) (dN.call (([(((List.replicate 32 0),(1,())),((500,((fR [lu (1+2)]),())),(0,(0,(0,(50,()))))))],(36,(446,(50,())))),[3],Ur,30,(2,(1,(4,()))),36))) λUI=>
  aB (l7.call 4) λUs=>
  aB (nc (jv Qr) (dN.call (([(((List.replicate 32 0),(1,())),((500,((fR [lu (1+2)]),())),(0,(0,(0,(50,()))))))],(36,(446,(50,())))),[3],Us,30,(2,(1,(4,()))),446))) λUJ=>
  aB (l7.call 4) λUt=>
  aB (nc (jv Qs) (dN.call (([(((List.replicate 32 0),(3,())),((1000,((fR [lu (3+2)]),())),(0,(0,(0,(0,())))))),(((List.replicate 32 0),(5,())),((700,((fR [lu (5+2)]),())),(0,(0,(0,(0,()))))))],(54,(54,(0,())))),[5,7],Ut,60,(2,(1,(4,()))),36))) λUK=>
  aN ((xS (OZ.1.1.length:Int) 1)) (
   aN ((xS (O0.1.2.1.length:Int) 1)) (
    aB (bP.call [KO,Hn,M3,O7,Q1]) λUu=>
    k (fi.out (xS Uu 108))) (
    k (fi.out false))) (
   k (fi.out false)):=by kernel_rfl
theorem Oe{P:Int}(hp:xe P=true)(hu:lH P):dN.call (nk 446,[3],fR [P],10,sz,0)=some (vd P 36,36,0)/\dN.call (nk 446,[3],fR [P],30,sz,36)=some (vd P 446,446,0)/\dN.call (nk 446,[3],fR [P],30,sz,446)=some (GG,0,4)/\dN.call (zi,[5,7],fR [P],60,sz,36)=some (GG,0,13):=by
 obtain⟨ht,_⟩:=CW (jM:=36) hp hu (by decide) (by decide)
 obtain⟨ht',_⟩:=CW (jM:=446) hp hu (by decide) (by decide)
 have gb:Pa (nk 446):=⟨⟨by show(0:Int)<=36;decide,by show(36:Int)<=446;decide,by show(446:Int)<=1125899906842624;decide⟩,by show(0:Int)<=50;decide,by show(50:Int)<=9223372036854775807;decide⟩
 have gc:Pa zi:=⟨⟨by show(0:Int)<=54;decide,by show(54:Int)<=54;decide,by show(54:Int)<=1125899906842624;decide⟩,by show(0:Int)<=0;decide,by show(0:Int)<=9223372036854775807;decide⟩
 have lp:KS (fR [P]):=⟨LH (λk hk=>by rw[bO.1 hk];exact hu),by show 1<=9223372036854775807;decide⟩
 have k3:∀k∈([3]:List Int),lH k:=λk hk=>by rw[bO.1 hk];exact⟨by decide,by decide⟩
 have xb:∀m,∀x∈(nk m).1,M5 x:=λm x hx=>by rw[bO.1 (show x∈ [oC 1 500 50] from hx)];exact Oh _ _ _
 have f1:qX (nk 446) 10 sz=36:=by kernel_rfl
 have f2:qX (nk 446) 30 sz=446:=by kernel_rfl
 have n1:dN.call (nk 446,[3],fR [P],10,sz,0)=some (vd P 36,36,0):=by
  rw[dN.run (d:=(nk 446,[3],fR [P],10,sz,0)) ⟨gb,⟨by decide,by decide⟩,xb _,k3,lp,by show 1<=1000000;decide,by show 1<=1000000000;decide,by show(0:Int)<=_;decide⟩]
  refine congrArg some ?_
  show ub (nk 446) [3] (fR [P]) 10 sz 0=_
  unfold ub
  rw[f1,if_neg (λe=>absurd e.1 (by decide)),if_neg (show ¬(0:Int) > 0 by decide),if_neg (show ¬(36:Int) > (nk 446).2.2.1 from(by show ¬(36:Int) > 446;decide)),show vQ (nk 446).1 [3] (fR [P]) 36=(vd P 36,0) from ht,if_neg (λe=>e rfl)]
 have n2:dN.call (nk 446,[3],fR [P],30,sz,36)=some (vd P 446,446,0):=by
  rw[dN.run (d:=(nk 446,[3],fR [P],30,sz,36)) ⟨gb,⟨by decide,by decide⟩,xb _,k3,lp,by show 1<=1000000;decide,by show 1<=1000000000;decide,by show(36:Int)<=_;decide⟩]
  refine congrArg some ?_
  show ub (nk 446) [3] (fR [P]) 30 sz 36=_
  unfold ub
  rw[f2,if_neg (λe=>absurd e.2 (by decide)),if_pos (show(36:Int) > 0 by decide),show imax 446 (36+rh (nk 446).1)=446 by kernel_rfl,if_neg (show ¬(446:Int) > (nk 446).2.2.1 from(by show ¬(446:Int) > 446;decide)),show vQ (nk 446).1 [3] (fR [P]) 446=(vd P 446,0) from ht',if_neg (λe=>e rfl)]
 have n3:dN.call (nk 446,[3],fR [P],30,sz,446)=some (GG,0,4):=by
  rw[dN.run (d:=(nk 446,[3],fR [P],30,sz,446)) ⟨gb,⟨by decide,by decide⟩,xb _,k3,lp,by show 1<=1000000;decide,by show 1<=1000000000;decide,by show(446:Int)<=_;decide⟩]
  refine congrArg some ?_
  show ub (nk 446) [3] (fR [P]) 30 sz 446=_
  unfold ub
  rw[f2,if_pos ⟨by decide,by decide⟩]
 have n4:dN.call (zi,[5,7],fR [P],60,sz,36)=some (GG,0,13):=by
  rw[dN.run (d:=(zi,[5,7],fR [P],60,sz,36)) ⟨gc,⟨by decide,by decide⟩,λx hx=>by
   rcases bY.1 (show x∈ [oC 3 1000 0,oC 5 700 0] from hx) with rfl | hx
   ·exact Oh _ _ _
   ·rw[bO.1 hx];exact Oh _ _ _,λk hk=>by
   rcases bY.1 hk with rfl | hk
   ·exact⟨by decide,by decide⟩
   ·rw[bO.1 hk];exact⟨by decide,by decide⟩,lp,by show 2<=1000000;decide,by show 2<=1000000000;decide,by show(36:Int)<=_;decide⟩]
  refine congrArg some ?_
  show ub zi [5,7] (fR [P]) 60 sz 36=_
  have f3:qX zi 60 sz=54:=by kernel_rfl
  unfold ub
  rw[f3,if_neg (λe=>absurd e.2 (by decide)),if_pos (show(36:Int) > 0 by decide),show imax 54 (36+rh zi.1)=90 by kernel_rfl,if_pos (show(90:Int) > zi.2.2.1 from(by show(90:Int) > 54;decide))]
 exact⟨n1,n2,n3,n4⟩
theorem fi.ok:fi.Ok:=by
 rintro⟨⟩ _
 have u4:lH 4:=⟨by decide,by decide⟩
 obtain⟨n1,n2,n3,n4⟩:=Oe N9 u4
 obtain⟨_,t1,_⟩:=CW (jM:=36) N9 u4 (by decide) (by decide)
 obtain⟨_,_,t2⟩:=CW (jM:=446) N9 u4 (by decide) (by decide)
 have cl:l7.call 4=some (fR [4]):=l7.run (d:=4) trivial
 have c1:∀n a u:Int,0<=n->n<=100->jk.call (n,a,u)=some (oC n a u):=λn a u h0 h1=>jk.run (d:=(n,a,u)) ⟨h0,h1⟩
 have p1:aF.call (BI,800,sz,10)=some O2:=(aF.run (d:=(BI,800,sz,10)) JX).trans (congrArg some LR)
 have p2:aF.call (BI,90,sz,10)=some O3:=(aF.run (d:=(BI,90,sz,10)) JX).trans (congrArg some LS)
 have p3:aF.call (BI++ [oC 3 1000 0],90,sz,10)=some O4:=(aF.run (d:=(BI++ [oC 3 1000 0],90,sz,10)) (λx hx=>by
  rcases bp.1 hx with hx | hx
  ·exact JX x hx
  ·rw[bO.1 hx];exact Io _ _ _ (by decide))).trans (congrArg some LU)
 have cs:gg.call sz=some IF:=(gg.run (d:=sz) trivial).trans (by rfl)
 have w1:bP.call BI=some 108:=(bP.run (d:=BI) (by show 5<=1000000000;decide)).trans (by kernel_rfl)
 rw[fi.eq]
 refine sy (c1 3 1000 0 (by decide) (by decide)) ?_
 refine sy (c1 1 500 50 (by decide) (by decide)) ?_
 refine sy (c1 2 35 0 (by decide) (by decide)) ?_
 refine sy (c1 5 700 0 (by decide) (by decide)) ?_
 refine sy (c1 4 300 30 (by decide) (by decide)) ?_
 refine sy ((congrArg (nc (jv O2)) p1).trans (qq O2)) ?_
 refine sy ((congrArg (nc (jv O3)) p2).trans (qq O3)) ?_
 refine sy ((congrArg (nc (jv O4)) p3).trans (qq O4)) ?_
 refine sy ((congrArg (nc (jv IF)) cs).trans (qq IF)) ?_
 refine sy cl ?_
 refine sy ((congrArg (nc (jv OZ)) n1).trans (qq OZ)) ?_
 refine sy cl ?_
 refine sy ((congrArg (nc (jv O0)) n2).trans (qq O0)) ?_
 refine sy cl ?_
 refine sy ((congrArg (nc (jv Qr)) n3).trans (qq Qr)) ?_
 refine sy cl ?_
 refine sy ((congrArg (nc (jv Qs)) n4).trans (qq Qs)) ?_
 refine MX (gq (by show(((vd 4 36).1.length:Nat):Int)=1;rw[t1];rfl)) ?_
 refine MX (gq (by show(((vd 4 446).2.1.length:Nat):Int)=1;rw[t2];rfl)) ?_
 refine sy w1 ?_
 rfl
theorem fi.run:fi.RS:=rE [] fi
def fi.sg:=fi.gk fi.ok
end Go.Ab
namespace Go.Ab
open Go.Proofs
def nb:Int->List fZ->List fZ
 |_,[]=> []
 |b,g::l=>qE g (ig b g)::nb (b - ig b g) l
theorem BM:∀(A B:List fZ) (b:Int),ia A.length b (A++B)=nb b A++B
 |[],B,b=>rfl
 |g::A,B,b=>by
  rw[aG,kO,ia,BM A,nb,kO]
theorem vT:∀(n:Nat) (b:Int) (l:List fZ),l.length<=n->ia n b l=nb b l
 |n,b,[],_=>by cases n <;> rfl
 | 0,b,g::l,h=>by cases h
 |n+1,b,g::l,h=>by rw[ia,nb,vT n _ l (Nat.le_of_succ_le_succ h)]
def nV(l:List fZ):Int:=(l.map (·.2.1)).sum
theorem J6:nV []=0:=rfl
theorem nr(g:fZ)(l:List fZ):nV (g::l)=g.2.1+nV l:=by unfold nV;rw[bJ,List.sum_cons]
theorem xV(l l':List fZ):nV (l++l')=nV l+nV l':=by unfold nV;rw[lG,List.sum_append]
theorem vO:∀ {l:List fZ},(∀g∈l,0<=g.2.1)->0<=nV l
 |[],_=>eY 0
 |a::l,h=>by
  have h1:=h a aK
  have h2:=vO (l:=l) λx hx=>h x (aH _ hx)
  rw[nr]
  omega
theorem Br:∀(l:List fZ) (b:Int),(∀g∈l,0<=g.2.1)->0<=b->∃K R,l=K++R/\(ja b l).2=K/\(ja b l).1+nV K=b/\0<=(ja b l).1/\∀g R',R=g::R'->(ja b l).1 < g.2.1
 |[],b,_,hb=>⟨[],[],rfl,rfl,by show b+0=b;omega,hb,λg R' h=>by cases h⟩
 |g::l,b,h,hb=>by
  unfold ja
  by_cases hc:g.2.1 > b
  ·rw[if_pos hc]
   refine⟨[],g::l,rfl,rfl,by show b+0=b;omega,hb,λg' R' e=> ?_⟩
   rw[<-(List.cons.inj e).1]
   show b < g.2.1
   omega
  ·rw[if_neg hc]
   have h0:=h g aK
   obtain⟨K,R,e1,e2,e3,e4,e5⟩:=Br l (b - g.2.1) (λx hx=>h x (aH _ hx)) (by omega)
   refine⟨g::K,R,by rw[e1];rfl,by rw[<-e2],?_,e4,e5⟩
   rw[nr]
   show(ja (b - g.2.1) l).1+(g.2.1+nV K)=b
   omega
theorem uu{α:Type}:∀(n:Nat) (l:List α),l.length<=n->(fF l).flatten=l
 | 0,l,h=>by
  obtain rfl:=aQ (Nat.le_zero.1 h)
  rfl
 |n+1,l,h=>by
  by_cases h0:0 < l.length
  ·rw[qp h0,fW,uu n (l.drop 8) (by rw[cq];omega),cK]
  ·obtain rfl:=aQ (by omega:l.length=0)
   rfl
section
variable {l:List db} {b:oR} {h:Int}
theorem Ix(hx:∀x∈l,AE x){x:db}(hm:x∈gv l b h):x∈l/\jU h x=true/\iw b h x=false:=by
 obtain⟨h1,h2⟩:=dP.1 ((rT hx).1.mem_iff.1 hm)
 unfold pg at h2
 rw[ah,bC]at h2
 exact⟨h1,h2⟩
theorem HE(hx:∀x∈l,AE x){c:List db}(hc:c∈fF (gv l b h)){x:db}(hm:x∈c):x∈l/\jU h x=true/\iw b h x=false:=by
 refine Ix (b:=b) hx ?_
 have:=uu _ (gv l b h) (az _)
 rw[<-this]
 exact List.mem_flatten.2 ⟨c,hc,hm⟩
theorem Gj{bu:Int}(h0:0<=bu):∃(A A2:List db) (B B2:List (List db)) (b':Int),dd l b h=A++A2/\fF (gv l b h)=B++B2/\mL l bu b h=nb b' (A.map jj)++B.map fe/\(B=[]\/A2=[])/\0<=b'/\b'+nV (A.map jj)+nV (B.map fe)=bu/\
  (∀x A3,A2=x::A3->b' < rh [x])/\(A2=[]->∀c B3,B2=c::B3->b' < rh c):=by
 obtain⟨K,R,e1,e2,e3,e4,e5⟩:=Br (gT l b h) bu (λg hg=>vk hg) h0
 unfold mL
 rw[e2]
 generalize (ja bu (gT l b h)).1=b' at e3 e4 e5
 unfold gT at e1
 rcases List.append_eq_append_iff.1 e1 with⟨a',h1,h2⟩ | ⟨c',h1,h2⟩
 ·obtain⟨B,B2,h3,h4,h5⟩:=List.map_eq_append_iff.1 h2
  subst h4
  refine⟨dd l b h,[],B,B2,b',by simp,h3,?_,.inr rfl,e4,?_,λx A3 e=>(by cases e),λ_ c B3 e=> ?_⟩
  ·rw[h1,show(dd l b h).length=((dd l b h).map jj).length by rw[cg],BM]
  ·rw[h1,xV]at e3
   omega
  ·subst e
   exact e5 (fe c) (B3.map fe) h5.symm
 ·obtain⟨A,A2,h3,h4,h5⟩:=List.map_eq_append_iff.1 h1
  subst h4
  refine⟨A,A2,[],fF (gv l b h),b',h3,rfl,?_,.inl rfl,e4,?_,λx A3 e=> ?_,λe c B3 e'=> ?_⟩
  ·rw[vT _ _ _ (by rw[cg,h3,av];omega),fE,cM]
  ·rw[fE,J6]
   omega
  ·subst e
   exact e5 (jj x) (A3.map jj++(fF (gv l b h)).map fe) (by rw[h2,<-h5];rfl)
  ·subst e
   have h5:c'=[]:=h5.symm
   rw[h5,bh,e']at h2
   exact e5 (fe c) (B3.map fe) h2
end
theorem BB:∀(A:List db) (b:Int),(∀x∈A,Mk (jj x))->0<=b->b<=1125899906842624->∀g∈nb b (A.map jj),∃x∈A,∃m,0<=m/\m<=b/\m<=x.2.1.1 - rh [x]/\g=qE (jj x) m
 |[],_,_,_,_,g,hg=>by cases hg
 |x::A,b,hx,h0,h1,g,hg=>by
  have hm:=yS (hx x aK) ⟨h0,h1⟩
  rcases bY.1 (show g∈qE (jj x) (ig b (jj x))::nb (b - ig b (jj x)) (A.map jj) from hg) with rfl | hg
  ·exact⟨x,aK,_,hm.1,hm.2.1,hm.2.2,rfl⟩
  ·obtain⟨y,hy,m,m1,m2,m3,m4⟩:=BB A _ (λy hy=>hx y (aH _ hy)) (by omega) (by omega) g hg
   exact⟨y,aH _ hy,m,m1,by omega,m3,m4⟩
theorem z7{l:List db}{bu:Int}{b:oR}{h:Int}(e:jJ l bu b h=true):(0<=bu/\bu<=1125899906842624)/\jq b=true/\(1<=h/\h<=1048576)/\l.length<=64/\(l.map (·.1)).Nodup/\∀x∈l,0<=x.2.1.1/\x.2.1.1<=1099511627776:=by
 unfold jJ at e
 simp only[ah,decide_eq_true_eq]at e
 exact⟨e.1,e.2.1,e.2.2.1,(u6 l).1 e.2.2.2⟩
def QE(x:db):Prop:=M5 x/\Ml x.2.1.2.1/\x.2.2.2.2.2.1<=9223372036854775807
theorem Ni{l:List db}(hr:∀x∈l,QE x)(hf:HJ l=true):∀x∈l,AE x:=λx hx=>⟨(hr x hx).1.1,(Jz hf).2 x hx,(hr x hx).2.2⟩
theorem It{l:List db}{bu:Int}{b:oR}{h:Int}(hx:∀x∈l,AE x)(hl:l.length<=64):(mL l bu b h).length<=1000:=by
 have h1:=(pL (b:=b) (h:=h) hx).1.length_eq
 have h2:=(rT (b:=b) (h:=h) hx).1.length_eq
 have h3:=(pD _ (gv l b h) (az _)).1
 have h4:=fv (o5 b h) l
 have h5:=fv (pg b h) l
 have h6:(ja bu (gT l b h)).2.length<=(gT l b h).length:=by
  have:∀(L:List fZ) (c:Int),(ja c L).2.length<=L.length:=by
   intro L
   induction L with
   |nil=>exact λc=>az _
   |cons g L ih=>
    intro c
    unfold ja
    split
    ·exact aP _
    ·show((ja (c - g.2.1) L).2).length+1<=L.length+1
     have:=ih (c - g.2.1)
     omega
  exact this _ _
 unfold mL
 rw[tD]
 unfold gT at h6
 rw[av,cg,cg]at h6
 unfold gT
 omega
end Go.Ab
namespace Go.Ab
open Go.Proofs
abbrev dg.D:=oR
abbrev dg.Y:=Bool
def dg.bf:dg.D->Prop:=λ_=>True
def dg.F:dg.D->dg.Y:=λb=>jq b
def dg:Fs Tryz.prog dg.bf bV dg.F:=gf 117 Tryz.f117 (λb=>([.d mm b],[])) (λx=>⟨.d .bool x,[],[]⟩) [some mm]
theorem dg.eq{R:Type}(b)(k:K1 R):dg.A b k=
  aN ((qT b.1 0)) (
   aN ((zt b.1 1000)) (
    aN ((qT b.2.1 0)) (
     aN ((zt b.2.1 1000)) (
      aN ((qT b.2.2.1 1)) (
       k (dg.out (zt b.2.2.1 1000))) (
       k (dg.out false))) (
      k (dg.out false))) (
     k (dg.out false))) (
    k (dg.out false))) (
   k (dg.out false)):=by kernel_rfl
theorem dg.ok:dg.Ok:=by
 intro b _
 have e:jq b=decide ((0<=b.1/\b.1<=1000)/\(0<=b.2.1/\b.2.1<=1000)/\1<=b.2.2.1/\b.2.2.1<=1000):=by
  unfold jq mh imax
  refine decide_eq_decide.2 ⟨λh=> ?_,λh=> ?_⟩
  ·split at h <;> split at h <;> split at h <;> omega
  ·split <;> split <;> split <;> omega
 rw[dg.eq]
 simp only[bV,dg.F,e]
 by_cases a1:0<=b.1
 ·rw[fC a1,ag]
  by_cases a2:b.1<=1000
  ·rw[hZ a2,ag]
   by_cases a3:0<=b.2.1
   ·rw[fC a3,ag]
    by_cases a4:b.2.1<=1000
    ·rw[hZ a4,ag]
     by_cases a5:1<=b.2.2.1
     ·rw[fC a5,ag]
      by_cases a6:b.2.2.1<=1000
      ·rw[hZ a6,decide_eq_true ⟨⟨a1,a2⟩,⟨a3,a4⟩,a5,a6⟩]
      ·rw[fO a6,decide_eq_false (λe=>a6 e.2.2.2)]
     ·rw[ea a5,ai,decide_eq_false (λe=>a5 e.2.2.1)]
    ·rw[fO a4,ai,decide_eq_false (λe=>a4 e.2.1.2)]
   ·rw[ea a3,ai,decide_eq_false (λe=>a3 e.2.1.1)]
  ·rw[fO a2,ai,decide_eq_false (λe=>a2 e.1.2)]
 ·rw[ea a1,ai,decide_eq_false (λe=>a1 e.1.1)]
theorem dg.run:dg.RS:=rE [.d mm] dg
def dg.sg:=dg.gk dg.ok
abbrev ew.D:=oR
abbrev ew.Y:=Int
def ew.bf:ew.D->Prop:=λ_=>True
def ew.F:ew.D->ew.Y:=λb=>xo b
def ew:Fs Tryz.prog ew.bf bV ew.F:=gf 176 Tryz.f176 (λb=>([.d mm b],[])) (λx=>⟨.d ti x,[],[]⟩) [some mm] [dg.sg]
theorem ew.eq{R:Type}(b)(k:K1 R):ew.A b k=
  aB (dg.call b) λx1=>
  aN (x1) (
   k (ew.out (bQ .i64 (bQ .i64 (bQ .i64 b.2.2.1 b.1) b.2.1) 1))) (
   k (ew.out 0)):=by kernel_rfl
theorem ew.ok:ew.Ok:=by
 intro b _
 rw[ew.eq,dg.run (d:=b) trivial]
 simp only[ae,bV,dg.F,bV,ew.F,xo]
 cases h:jq b with
 |false=>rfl
 |true=>
  obtain⟨⟨h1,h2⟩,⟨h3,h4⟩,h5,h6⟩:=sY h
  rw[ag,dL (x:=b.2.2.1) (by omega) (by omega),dL (x:=b.2.2.1+b.1) (by omega) (by omega),dL (by omega) (by omega)]
  rfl
theorem ew.run:ew.RS:=rE [.d mm] ew
def ew.sg:=ew.gk ew.ok
abbrev ff.D:=oR
abbrev ff.Y:=Int
def ff.bf:ff.D->Prop:=λ_=>True
def ff.F:ff.D->ff.Y:=λb=>jw b
def ff:Fs Tryz.prog ff.bf bV ff.F:=gf 118 Tryz.f118 (λb=>([.d mm b],[])) (λx=>⟨.d ti x,[],[]⟩) [some mm] [dg.sg,ew.sg]
theorem ff.eq{R:Type}(b)(k:K1 R):ff.A b k=
  aB (dg.call b) λx1=>
  aN (x1) (
   aB (ew.call b) λx2=>
   k (ff.out (bQ .i64 x2 12))) (
   k (ff.out 0)):=by kernel_rfl
theorem ff.ok:ff.Ok:=by
 intro b _
 rw[ff.eq,dg.run (d:=b) trivial]
 simp only[ae,bV,dg.F,bV,ff.F,jw]
 cases h:jq b with
 |false=>rfl
 |true=>
  obtain⟨⟨h1,h2⟩,⟨h3,h4⟩,h5,h6⟩:=sY h
  rw[ag,ew.run (d:=b) trivial]
  simp only[ae,bV,ew.F,xo,h,if_true]
  rw[dL (by omega) (by omega)]
theorem ff.run:ff.RS:=rE [.d mm] ff
def ff.sg:=ff.gk ff.ok
abbrev ik.D:=Int×Int×Int
abbrev ik.Y:=Bool
def ik.bf:ik.D->Prop:=λ_=>True
def ik.F:ik.D->ik.Y:=λ(n,a,c)=>decide (a<=n/\n<=c)
def ik:Fs Tryz.prog ik.bf bV ik.F:=gf 168 Tryz.f168 (λ(n,low,high)=>([.d ti n,.d ti low,.d ti high],[])) (λx=>⟨.d .bool x,[],[]⟩) [some ti,some ti,some ti]
theorem ik.eq{R:Type}(n low high)(k:K1 R):ik.A (n,low,high) k=
  aN ((qT n low)) (
   k (ik.out (zt n high))) (
   k (ik.out false)):=by kernel_rfl
theorem ik.ok:ik.Ok:=by
 rintro⟨n,a,c⟩ _
 rw[ik.eq]
 simp only[bV,ik.F]
 by_cases a1:a<=n
 ·rw[fC a1,ag]
  by_cases a2:n<=c
  ·rw[hZ a2,decide_eq_true ⟨a1,a2⟩]
  ·rw[fO a2,decide_eq_false (λe=>a2 e.2)]
 ·rw[ea a1,ai,decide_eq_false (λe=>a1 e.1)]
theorem ik.run:ik.RS:=rE [.d ti,.d ti,.d ti] ik
def ik.sg:=ik.gk ik.ok
abbrev dW.D:=db×Int
abbrev dW.Y:=Bool
def dW.bf:dW.D->Prop:=λ_=>True
def dW.F:dW.D->dW.Y:=λ(x,h)=>rq x h
def dW:Fs Tryz.prog dW.bf bV dW.F:=gf 108 Tryz.f108 (λ(x,atv)=>([.d cF x,.d ti atv],[])) (λx=>⟨.d .bool x,[],[]⟩) [some cF,some ti]
theorem dW.eq{R:Type}(x atv)(k:K1 R):dW.A (x,atv) k=
  aN ((qT atv x.2.2.2.2.1)) (
   aN ((xS x.2.2.2.2.2.1 0)) (
    k (dW.out true)) (
    k (dW.out (ri x.2.2.2.2.2.1 atv)))) (
   k (dW.out false)):=by kernel_rfl
theorem dW.ok:dW.Ok:=by
 rintro⟨x,h⟩ _
 rw[dW.eq]
 simp only[bV,dW.F,rq]
 by_cases a1:x.2.2.2.2.1<=h
 ·rw[fC a1,ag]
  by_cases a2:x.2.2.2.2.2.1=0
  ·rw[gq a2,ag,decide_eq_true ⟨a1,.inl a2⟩]
  ·rw[gB a2,ai]
   by_cases a3:h < x.2.2.2.2.2.1
   ·rw[dA a3,decide_eq_true ⟨a1,.inr a3⟩]
   ·rw[di a3,decide_eq_false (λe=>e.2.elim a2 a3)]
 ·rw[ea a1,ai,decide_eq_false (λe=>a1 e.1)]
theorem dW.run:dW.RS:=rE [.d cF,.d ti] dW
def dW.sg:=dW.gk dW.ok
abbrev fg.D:=db×oR×Int
abbrev fg.Y:=Bool
def fg.bf:fg.D->Prop:=λ(x,_,h)=>(1<=h/\h<=1048576)
def fg.F:fg.D->fg.Y:=λ(x,b,h)=>iw b h x
def fg:Fs Tryz.prog fg.bf bV fg.F:=gf 109 Tryz.f109 (λ(x,b,height)=>([.d cF x,.d mm b,.d ti height],[])) (λx=>⟨.d .bool x,[],[]⟩) [some cF,some mm,some ti] [ff.sg]
theorem fg.eq{R:Type}(x b height)(k:K1 R):fg.A (x,b,height) k=
  aN ((sx x.2.2.2.2.2.1 0)) (
   aB (ff.call b) λx1=>
   k (fg.out (zt x.2.2.2.2.2.1 (bQ .i64 height (iv .i64 2 x1))))) (
   k (fg.out false)):=by kernel_rfl
theorem fg.ok:fg.Ok:=by
 rintro⟨x,b,h⟩ ⟨h1,h2⟩
 have h1:1<=h:=h1
 have h2:h<=1048576:=h2
 have hs:=yW b
 rw[fg.eq]
 simp only[bV,fg.F,iw]
 by_cases a1:x.2.2.2.2.2.1=0
 ·rw[cU a1,ai,decide_eq_false (λe=>e.1 a1)]
 ·rw[fj a1,ag,ff.run (d:=b) trivial]
  simp only[ae,bV,ff.F]
  rw[pP (by omega) (by omega),dL (by omega) (by omega)]
  by_cases a2:x.2.2.2.2.2.1<=h+2*jw b
  ·rw[hZ a2,decide_eq_true ⟨a1,by omega⟩]
  ·rw[fO a2,decide_eq_false (λe=>a2 (by omega))]
theorem fg.run:fg.RS:=rE [.d cF,.d mm,.d ti] fg
def fg.sg:=fg.gk fg.ok
abbrev aJ.L0.D:=jm×jm×Int
def aJ.L0.st:aJ.L0.D->AS:=λ(pq,kD,i)=>⟨([.undef,.undef,.eS gz pq,.eS gz kD,.undef,.d ti i]++bm 27 []),[],(List.replicate 33 [])⟩
abbrev aJ.L0.Y0:=Bool
abbrev aJ.L0.X0:=Bool
def aJ.L0.dY:aJ.L0.X0->Exit×AS:=λx=>(.ret,⟨(bm 4 ([.d .bool x]++bm 28 [])),[],(List.replicate 33 [])⟩)
abbrev aJ.L0.Y1:=Unit
abbrev aJ.L0.X1:=jm×jm
def aJ.L0.gN:aJ.L0.X1->Exit×AS:=λx=>(.exit 0,⟨([.undef,.undef,.eS gz x.1,.eS gz x.2]++bm 29 []),[],(List.replicate 33 [])⟩)
abbrev aJ.L0.X:=(aJ.L0.X0)⊕(aJ.L0.X1)
abbrev aJ.L0.Y:=(aJ.L0.Y0)⊕(aJ.L0.Y1)
def aJ.L0.out:aJ.L0.X->Out (Exit×AS):=λx=> .br x.isLeft (.get x.getLeft? λa=> .ok (aJ.L0.dY a)) (.get x.getRight? λb=> .ok (aJ.L0.gN b))
def aJ.L0.add:aJ.L0.D->aJ.L0.Y->aJ.L0.X:=λ(pq,kD,i) y=>match y with | .inl y=> .inl y | .inr z=> .inr ((pq,kD))
abbrev aJ.D:=jm×jm
abbrev aJ.Y:=Bool
def aJ.L0.bf:aJ.L0.D->Prop:=λ(a,b,i)=>a.1.length=32/\b.1.length=32/\∃k:Nat,k<=32/\i=k
def aJ.L0.F:aJ.L0.D->aJ.L0.Y:=λ(a,b,i)=>if lx (a.1.drop i.toNat) (b.1.drop i.toNat)=0 then .inr () else .inl (decide (lx (a.1.drop i.toNat) (b.1.drop i.toNat) < 0))
def aJ.bf:aJ.D->Prop:=λ(a,b)=>IY a/\IY b
def aJ.F:aJ.D->aJ.Y:=λ(a,b)=>decide (tK a b < 0)
def aJ.L0.E:=eR.iY aJ.L0.st aJ.L0.bf aJ.L0.add aJ.L0.F aJ.L0.out
def aJ.L0.call:aJ.L0.D->Option aJ.L0.X:=kE aJ.L0.E aJ.L0.st
def aJ:Fs Tryz.prog aJ.bf bV aJ.F:=gf 169 Tryz.f169 (λ(a,b)=>([.d gz a,.d gz b],[])) (λx=>⟨.d .bool x,[],[]⟩) [some gz,some gz] [] {loops:=qu [(2,{bA:=[2,3,5]})],outs:=qt [(2,{bA:=[2,3]},{bA:=[4]})],jl:=qU [(2,aJ.L0.E)]}
def aJ.L0.R:= @iN Tryz.prog (mR aJ.G) aJ.an 0 Tryz.f169 0 _ aJ.L0.st
abbrev aJ.L0.Ok:=oS Tryz.prog (mR aJ.G) aJ.an 0 Tryz.f169 0 aJ.L0.st aJ.L0.bf aJ.L0.add aJ.L0.F aJ.L0.out
theorem aJ.L0.run:ng aJ.L0.call aJ.L0.bf aJ.L0.add aJ.L0.F:=ql (o8 [.d gz,.d gz,.d ti] λ_=>by kernel_rfl)
theorem aJ.L0.da:qh @aJ.L0.R aJ.L0.st aJ.L0.bf aJ.L0.add aJ.L0.F aJ.L0.out aJ.L0.Ok:=qH
theorem aJ.L0.step{R:Type}(pq:jm)(kD:jm)(i:Int)(kn:AS->Option R)(kx:Exit->AS->Option R):aJ.L0.R (pq,kD,i) kn kx=
  aN ((iX i (32:Int))) (
   aN (gw i (32:Int)) (
   aN (gw i (32:Int)) (
   aN ((sx (nth tb pq.1 (Int.toNat i)) (nth tb kD.1 (Int.toNat i)))) (
    aN (gw i (32:Int)) (
    aN (gw i (32:Int)) (
    kx (aJ.L0.dY (iX (nth tb pq.1 (Int.toNat i)) (nth tb kD.1 (Int.toNat i)))).1 (aJ.L0.dY (iX (nth tb pq.1 (Int.toNat i)) (nth tb kD.1 (Int.toNat i)))).2) none) none) (
    kn (aJ.L0.st (pq,kD,(bQ .i64 i (1:Int)))))) none) none) (
   kx (aJ.L0.gN (pq,kD)).1 (aJ.L0.gN (pq,kD)).2):=by kernel_rfl
theorem aJ.eq{R:Type}(a b)(k:K1 R):aJ.A (a,b) k=
  aB (aJ.L0.call (a,b,0)) λx1=>
  aN (x1.isLeft) (
   aB (x1.getLeft?) λa2=>
   k (aJ.out a2)) (
   aB (x1.getRight?) λb3=>
   k (aJ.out (iX b3.1.2.1 b3.2.2.1))):=by kernel_rfl
theorem aJ.L0.ok:aJ.L0.Ok:=by
 refine aJ.L0.da (λ(_,_,i)=>32 - i.toNat) ?_
 rintro⟨a,b,i⟩ ⟨ha,hb,k,hk,rfl⟩
 have ha:a.1.length=32:=ha
 have hb:b.1.length=32:=hb
 by_cases h:k < 32
 ·have n1:nth tb a.1 k=a.1[k]:=dq (t:=tb) (by omega)
  have n2:nth tb b.1 k=b.1[k]:=dq (t:=tb) (by omega)
  have d1:a.1.drop k=a.1[k]::a.1.drop (k+1):=ax (by omega)
  have d2:b.1.drop k=b.1[k]::b.1.drop (k+1):=ax (by omega)
  generalize (a.1[k]:Int)=p at n1 d1
  generalize (b.1[k]:Int)=q at n2 d2
  have ib:gw (k:Int) 32=true:=bt (by omega) (by omega)
  by_cases e:p=q
  ·left
   refine⟨(a,b,((k+1:Nat):Int)),⟨ha,hb,k+1,h,rfl⟩,by simp only[aa];omega,?_,λkn kx=> ?_⟩
   ·simp only[aJ.L0.add,aJ.L0.F,aa,d1,d2,e,vP]
   ·rw[aJ.L0.step,aU (by omega)]
    simp only[ib,ag,aa,n1,n2]
    rw[cU e,ai,N.py (by omega)]
  ·right
   have hl:lx (p::a.1.drop (k+1)) (q::b.1.drop (k+1))=if p < q then -1 else 1:=q9 e
   refine⟨aJ.L0.dY (decide (p < q)),?_,λkn kx=> ?_⟩
   ·simp only[aJ.L0.add,aJ.L0.F,aa,d1,d2,hl]
    by_cases e2:p < q
    ·rw[if_pos e2,decide_eq_true e2];rfl
    ·rw[if_neg e2,decide_eq_false e2];rfl
   ·rw[aJ.L0.step,aU (by omega)]
    simp only[ib,ag,aa,n1,n2]
    rw[fj e,ag]
    by_cases e2:p < q
    ·rw[aU e2,decide_eq_true e2]
    ·rw[aW e2,decide_eq_false e2]
 ·right
  obtain rfl:k=32:=by omega
  refine⟨aJ.L0.gN (a,b),?_,λkn kx=> ?_⟩
  ·have z1:a.1.drop 32=[]:=fU (by omega)
   have z2:b.1.drop 32=[]:=fU (by omega)
   simp only[aJ.L0.add,aJ.L0.F,aa,z1,z2]
   rfl
  ·rw[aJ.L0.step,aW (by omega),ai]
theorem aJ.ok:aJ.Ok:=by
 rintro⟨a,b⟩ ⟨ha,hb⟩
 have hc:tK a b=O1 (lx a.1 b.1) (qW a.2.1 b.2.1):=by
  rw[lI ha hb]
  exact CG _ _ (by rw[ha.1,hb.1])
 rw[aJ.eq,aJ.L0.run (d:=(a,b,0)) ⟨ha.1,hb.1,0,aP _,rfl⟩]
 simp only[ae,aJ.L0.add,aJ.L0.F,bV,aJ.F,b5,aI,hc,O1]
 by_cases h:lx a.1 b.1=0
 ·rw[if_pos h,if_pos h]
  simp only[kC,ai,je,ae]
  unfold qW
  by_cases h1:a.2.1 < b.2.1
  ·rw[aU h1,if_pos h1];rfl
  ·rw[aW h1,if_neg h1]
   split <;> rfl
 ·rw[if_neg h,if_neg h]
  rfl
theorem aJ.run:aJ.RS:=rE [.d gz,.d gz] aJ
def aJ.sg:=aJ.gk aJ.ok 1 ⟨.iY aJ.L0.ok,trivial⟩
def vo(u:Bool)(x y:db):Bool:=decide ((if u then mz x y else yp x y) < 0)
def uA(p:db->db->Bool)(x:db):List db->Nat
 |[]=>0
 |y::l=>if p x y then 0 else uA p x l+1
theorem GS(p:db->db->Bool)(x:db):∀l:List db,uA p x l<=l.length
 |[]=>az _
 |y::l=>by
  have:=GS p x l
  unfold uA
  rw[aG]
  split <;> omega
def wa(u:Bool)(x:db)(l:List db):List db:=l.take (uA (vo u) x l)++x::l.drop (uA (vo u) x l)
theorem Jn{x y:db}:mz x y < 0↔x.2.2.2.2.2.1 < y.2.2.2.2.2.1\/x.2.2.2.2.2.1=y.2.2.2.2.2.1/\tK x.1 y.1 < 0:=by
 unfold mz qW
 simp only[LN]
 by_cases h1:x.2.2.2.2.2.1 < y.2.2.2.2.2.1
 ·rw[if_pos h1,if_pos (by decide)]
  exact⟨λ_=> .inl h1,λ_=>by decide⟩
 ·rw[if_neg h1]
  by_cases h2:x.2.2.2.2.2.1 > y.2.2.2.2.2.1
  ·rw[if_pos h2,if_pos (by decide)]
   exact⟨λe=>absurd e (by decide),λe=>by omega⟩
  ·rw[if_neg h2,if_neg (λe=>e rfl)]
   have e:x.2.2.2.2.2.1=y.2.2.2.2.2.1:=by omega
   split
   ·exact⟨λh=> .inr ⟨e,h⟩,λh=>h.elim (λh=>absurd h h1) (λh=>h.2)⟩
   ·rename_i h0
    have h0:tK x.1 y.1=0:=Classical.not_not.1 h0
    rw[h0]
    exact⟨λh=>absurd h (by decide),λh=>h.elim (λh=>absurd h h1) (λh=>h.2)⟩
abbrev ck.L0.D:=(List db)×Bool×db×Int
abbrev ck.L0.Y:=Int
abbrev ck.L0.X:=((List db)×db)×(Int)
def ck.L0.add:ck.L0.D->ck.L0.Y->ck.L0.X:=λ(gd,jL,yY,kv) y=>((gd,yY),y)
abbrev ck.D:=(List db)×db×Bool
abbrev ck.Y:=(List db)
def ck.L0.bf:ck.L0.D->Prop:=λ(l,u,x,i)=>tm x/\(∀y∈l,tm y)/\l.length<=1000000/\∃k:Nat,k<=l.length/\i=k
def ck.L0.F:ck.L0.D->ck.L0.Y:=λ(l,u,x,i)=>i+(uA (vo u) x (l.drop i.toNat):Nat)
def ck.bf:ck.D->Prop:=λ(l,x,u)=>tm x/\(∀y∈l,tm y)/\l.length<=1000000
def ck.F:ck.D->ck.Y:=λ(l,x,u)=>wa u x l
def ck.L0:Ls ck.L0.bf ck.L0.add ck.L0.F:=ra (λ(gd,jL,yY,kv)=>⟨([.d (.slice cF) gd,.undef,.d .bool jL,.undef,.eS cF yY,.undef,.undef,.d ti kv]++bm 52 []),[],(List.replicate 60 [])⟩) (λx=>(.exit 0,⟨([.d (.slice cF) x.1.1,.undef,.undef,.undef,.eS cF x.1.2,.undef,.undef,.d ti x.2]++bm 52 []),[],(List.replicate 60 [])⟩))
def ck:Fs Tryz.prog ck.bf bV ck.F:=gf 110 Tryz.f110 (λ(l,x,untilv)=>([.d (.slice cF) l,.d cF x,.d .bool untilv],[])) (λx=>⟨.d (.slice cF) x,[],[]⟩) [some (.slice cF),some cF,some .bool] [aJ.sg] {loops:=qu [(2,{bA:=[0,2,4,7]})],outs:=qt [(2,{bA:=[0,4,7]},{bA:=[6]})],jl:=qU [(2,ck.L0.E)],res:=[some (.slice cF)]}
theorem ck.L0.run:ck.L0.RS:=rL [.d (.slice cF),.d .bool,.d cF,.d ti] ck.L0
theorem ck.L0.step{R:Type}(gd jL yY kv)(kn:K2 R)(kx:K3 R):ck.R 0 ck.L0 (gd,jL,yY,kv) kn kx=
  aN ((iX kv (gd.length:Int))) (
   aN (gw kv (gd.length:Int)) (
   aN (jL) (
    aN ((iX yY.2.2.2.2.2.1 (nth cF gd (Int.toNat kv)).2.2.2.2.2.1)) (
     ck.L0.go kx ((gd,yY),kv)) (
     aN ((!jL)) (
      aB (aJ.call (yY.1,(nth cF gd (Int.toNat kv)).1)) λx1=>
      aN (x1) (
       ck.L0.go kx ((gd,yY),kv)) (
       kn (ck.L0.st (gd,jL,yY,(bQ .i64 kv 1))))) (
      aN ((xS yY.2.2.2.2.2.1 (nth cF gd (Int.toNat kv)).2.2.2.2.2.1)) (
       aB (aJ.call (yY.1,(nth cF gd (Int.toNat kv)).1)) λx2=>
       aN (x2) (
        ck.L0.go kx ((gd,yY),kv)) (
        kn (ck.L0.st (gd,jL,yY,(bQ .i64 kv 1))))) (
       kn (ck.L0.st (gd,jL,yY,(bQ .i64 kv 1))))))) (
    aN ((!jL)) (
     aB (aJ.call (yY.1,(nth cF gd (Int.toNat kv)).1)) λx3=>
     aN (x3) (
      ck.L0.go kx ((gd,yY),kv)) (
      kn (ck.L0.st (gd,jL,yY,(bQ .i64 kv 1))))) (
     aN ((xS yY.2.2.2.2.2.1 (nth cF gd (Int.toNat kv)).2.2.2.2.2.1)) (
      aB (aJ.call (yY.1,(nth cF gd (Int.toNat kv)).1)) λx4=>
      aN (x4) (
       ck.L0.go kx ((gd,yY),kv)) (
       kn (ck.L0.st (gd,jL,yY,(bQ .i64 kv 1))))) (
      kn (ck.L0.st (gd,jL,yY,(bQ .i64 kv 1))))))) none) (
   ck.L0.go kx ((gd,yY),kv)):=by kernel_rfl
theorem ck.eq{R:Type}(l x untilv)(k:K1 R):ck.A (l,x,untilv) k=
 aB (ck.L0.call (l,untilv,x,0)) λx5=>
 aN (inc x5.2 (x5.1.1.length:Int)) (
 aN (dX (List.length (cut x5.1.1 0 ((Int.toNat x5.2) - 0))) 104) (
 aN (decide ((List.length (cut x5.1.1 0 ((Int.toNat x5.2) - 0)))<=(List.length (cut x5.1.1 0 ((Int.toNat x5.2) - 0))))) (
 aN (dX ((List.length (cut x5.1.1 0 ((Int.toNat x5.2) - 0)))+1) 104) (
 aN (inc x5.2 (x5.1.1.length:Int)) (
 aN (decide (((List.length (cut x5.1.1 0 ((Int.toNat x5.2) - 0)))+1)<=(List.length ((List.take (List.length (cut x5.1.1 0 ((Int.toNat x5.2) - 0))) (cut x5.1.1 0 ((Int.toNat x5.2) - 0)))++ [x5.1.2])))) (
 aN (dX (((List.length (cut x5.1.1 0 ((Int.toNat x5.2) - 0)))+1)+(List.length (cut x5.1.1 (Int.toNat x5.2) ((List.length x5.1.1) - (Int.toNat x5.2))))) 104) (
 aN (decide (0=0/\(0+(((List.length (cut x5.1.1 0 ((Int.toNat x5.2) - 0)))+1)+(List.length (cut x5.1.1 (Int.toNat x5.2) ((List.length x5.1.1) - (Int.toNat x5.2))))))<=(List.length ((List.take ((List.length (cut x5.1.1 0 ((Int.toNat x5.2) - 0)))+1) ((List.take (List.length (cut x5.1.1 0 ((Int.toNat x5.2) - 0))) (cut x5.1.1 0 ((Int.toNat x5.2) - 0)))++ [x5.1.2]))++(cut x5.1.1 (Int.toNat x5.2) ((List.length x5.1.1) - (Int.toNat x5.2))))))) (
 k (ck.out (cut ((List.take ((List.length (cut x5.1.1 0 ((Int.toNat x5.2) - 0)))+1) ((List.take (List.length (cut x5.1.1 0 ((Int.toNat x5.2) - 0))) (cut x5.1.1 0 ((Int.toNat x5.2) - 0)))++ [x5.1.2]))++(cut x5.1.1 (Int.toNat x5.2) ((List.length x5.1.1) - (Int.toNat x5.2)))) 0 (((List.length (cut x5.1.1 0 ((Int.toNat x5.2) - 0)))+1)+(List.length (cut x5.1.1 (Int.toNat x5.2) ((List.length x5.1.1) - (Int.toNat x5.2)))))))) none) none) none) none) none) none) none) none:=by kernel_rfl
theorem ck.L0.ok:(ck.lP 0 ck.L0):=by
 refine(ck.mS 0 ck.L0) (λ(l,_,_,i)=>l.length - i.toNat) ?_
 rintro⟨l,u,x,i⟩ ⟨hx,hl,hn,k,hk,rfl⟩
 have hk:k<=l.length:=hk
 have hn:l.length<=1000000:=hn
 by_cases h:k < l.length
 ·have n1:nth cF l k=l[k]:=dq (t:=cF) h
  have d1:l.drop k=l[k]::l.drop (k+1):=ax h
  have hy:=hl _ (bH h)
  generalize l[k]=y at n1 d1 hy
  have ca:=aJ.run (d:=(x.1,y.1)) ⟨hx,hy⟩
  have step:∀ {R:Type} (kn:K2 R) (kx:K3 R),ck.R 0 ck.L0 (l,u,x,(k:Int)) kn kx=aN (vo u x y) (ck.L0.go kx ((l,x),(k:Int))) (kn (ck.L0.st (l,u,x,((k+1:Nat):Int)))):=by
   intro R kn kx
   rw[ck.L0.step,aU (by omega),ag,bt (by omega) (by omega),ag]
   simp only[aa,n1,ca,ae,bV,aJ.F]
   have e7:bQ .i64 (k:Int) 1=((k+1:Nat):Int):=N.py (by omega)
   rw[e7]
   cases u with
   |false=>rw[ai,dm,ag];rfl
   |true=>
    have eb:vo true x y=decide (x.2.2.2.2.2.1 < y.2.2.2.2.2.1\/x.2.2.2.2.2.1=y.2.2.2.2.2.1/\tK x.1 y.1 < 0):=decide_eq_decide.2 Jn
    rw[eb,ag,bM]
    by_cases a1:x.2.2.2.2.2.1 < y.2.2.2.2.2.1
    ·rw[aU a1,ag,decide_eq_true (.inl a1),ag]
    ·rw[aW a1,ai,ai]
     by_cases a2:x.2.2.2.2.2.1=y.2.2.2.2.2.1
     ·rw[gq a2,ag]
      refine congrArg (λb=>aN b _ _) (decide_eq_decide.2 ⟨λh=> .inr ⟨a2,h⟩,λh=>h.elim (λh=>absurd h a1) (λh=>h.2)⟩)
     ·rw[gB a2,ai,decide_eq_false (λe=>e.elim a1 (λe=>a2 e.1)),ai]
  cases hb:vo u x y with
  |true=>
   right
   intro R kn kx
   rw[step,hb,ag]
   simp only[ck.L0.add,ck.L0.F,aa,d1,uA,hb,if_true]
   rw[show(k:Int)+((0:Nat):Int)=(k:Int) by omega]
  |false=>
   left
   refine⟨(l,u,x,((k+1:Nat):Int)),⟨hx,hl,hn,k+1,h,rfl⟩,by simp only[aa];omega,?_,λkn kx=> ?_⟩
   ·simp only[ck.L0.add,ck.L0.F,aa,d1,uA,hb,bN,if_false]
    rw[show((k+1:Nat):Int)+((uA (vo u) x (l.drop (k+1)):Nat):Int)=(k:Int)+((uA (vo u) x (l.drop (k+1))+1:Nat):Int) by omega]
   ·rw[step,hb,ai]
 ·right
  obtain rfl:k=l.length:=by omega
  intro R kn kx
  rw[ck.L0.step,aW (by omega),ai]
  simp only[ck.L0.add,ck.L0.F,aa,aY,uA]
  rw[show(l.length:Int)+((0:Nat):Int)=(l.length:Int) by omega]
theorem ck.ok:ck.Ok:=by
 rintro⟨l,x,u⟩ ⟨hx,hl,hn⟩
 have hn:l.length<=1000000:=hn
 have hc:=GS (vo u) x l
 rw[ck.eq,ck.L0.run (d:=(l,u,x,0)) ⟨hx,hl,hn,0,aP _,rfl⟩]
 simp only[ae,ck.L0.add,ck.L0.F,bV,ck.F,b5,aI,mo,aa,wa]
 generalize uA (vo u) x l=c at hc
 have e1:cut l 0 (c - 0)=l.take c:=by unfold cut;rw[aI,Nat.sub_zero]
 have e2:cut l c (l.length - c)=l.drop c:=by unfold cut;rw[bg (by rw[cq];omega)]
 have l1:(l.take c).length=c:=by rw[bI];omega
 have l2:(l.drop c).length=l.length - c:=cq
 have l3:((l.take c)++ [x]).length=c+1:=by rw[av,l1];rfl
 have e3:((l.take c)++ [x]).take (c+1)=(l.take c)++ [x]:=bg (by omega)
 have e4:(l.take c).take c=l.take c:=bg (by omega)
 simp only[e1,e2,l1,l2,e4,e3,l3]
 rw[gO (by omega) (by omega),ag,fh (by omega) (by omega),ag,aX (az _),ag,fh (by omega) (by omega),ag,ag,aX (az _),ag,fh (by omega) (by omega),ag,aX ⟨trivial,by rw[av,l3,l2];omega⟩,ag,iW (by rw[av,l3,l2]),bw]
 rfl
theorem ck.run:ck.RS:=rE [.d (.slice cF),.d cF,.d .bool] ck
def ck.sg:=ck.gk ck.ok 1 ⟨.iY ck.L0.ok,trivial⟩
abbrev dx.L0.D:=(List db)×Int×Int
abbrev dx.L0.Y:=Int
abbrev dx.D:=(List db)
abbrev dx.Y:=Int
def dx.L0.bf:dx.L0.D->Prop:=λ(l,n,i)=>(l).length<=1000000000/\∃k:Nat,k<=(l).length/\i=k/\(0<=n)/\(n<=18+22*(k:Int))
def dx.L0.F:dx.L0.D->dx.L0.Y:=λ(l,n,i)=>(List.drop (Int.toNat i) l).foldl CZ n
def dx.bf:dx.D->Prop:=λl=>l.length<=1000000000
def dx.F:dx.D->dx.Y:=λl=>rh l
def dx.L0:Ls dx.L0.bf bV dx.L0.F:=ra (λ(gd,n,i)=>⟨([.d (.slice cF) gd,.undef,.undef,.d ti n,.d ti i]++bm 20 []),[],(List.replicate 25 [])⟩) (λx=>(.exit 0,⟨([.undef,.undef,.undef,.d ti x]++bm 21 []),[],(List.replicate 25 [])⟩))
def dx:Fs Tryz.prog dx.bf bV dx.F:=gf 47 Tryz.f47 (λl=>([.d (.slice cF) l],[])) (λx=>⟨.d ti x,[],[]⟩) [some (.slice cF)] [] {loops:=qu [(5,{bA:=[0,3,4]})],outs:=qt [(5,{bA:=[3]},{bA:=[2]})],jl:=qU [(5,dx.L0.E)]}
theorem dx.L0.run:dx.L0.RS:=rL [.d (.slice cF),.d ti,.d ti] dx.L0
theorem dx.L0.step{R:Type}(gd n i)(kn:K2 R)(kx:K3 R):dx.R 0 dx.L0 (gd,n,i) kn kx=
  aN ((iX i (gd.length:Int))) (
   aN (gw i (gd.length:Int)) (
   aN ((sx (nth cF gd (Int.toNat i)).2.2.2.1 0)) (
    kn (dx.L0.st (gd,(bQ .i64 (bQ .i64 n 18) 4),(bQ .i64 i 1)))) (
    kn (dx.L0.st (gd,(bQ .i64 n 18),(bQ .i64 i 1))))) none) (
   dx.L0.go kx n):=by kernel_rfl
theorem dx.eq{R:Type}(l)(k:K1 R):dx.A l k=
  aN ((xS (l.length:Int) 0)) (
   k (dx.out 0)) (
   aB (dx.L0.call (l,18,0)) λx1=>
   k (dx.out x1)):=by kernel_rfl
theorem dx.L0.ok:(dx.lP 0 dx.L0):=by
 refine(dx.mS 0 dx.L0) (λ(l,n,i)=>(l).length - Int.toNat i) ?_
 rintro⟨l,n,i⟩ ⟨hlen,k,hk,rfl,h1,h2⟩
 have hlen:(l).length<=1000000000:=hlen
 have hk:k<=(l).length:=hk
 have h1:0<=n:=h1
 have h2:n<=18+22*(k:Int):=h2
 by_cases h:k < (l).length
 ·left
  have n1:nth cF l k=l[k]:=dq (t:=cF) h
  have hd:List.drop k l=l[k]::List.drop (k+1) l:=ax h
  refine⟨(l,(CZ n l[k]),((k+1:Nat):Int)),⟨hlen,k+1,by omega,rfl,by have:=(xB [l[k]] n).1;simp only[cG,fy,aG,aZ]at this;omega,by have:=(xB [l[k]] n).2;simp only[cG,fy,aG,aZ]at this;omega⟩,by simp only[aa];omega,?_,λkn kx=> ?_⟩
  ·simp only[bV,dx.L0.F,aa,hd,cG]
  ·rw[dx.L0.step,aU (by omega),bt (by omega) (by omega),aa,n1]
   simp only[ag]
   rw[N.py (by omega),dL (x:=n) (by omega) (by omega),dL (x:=n+18) (by omega) (by omega)]
   unfold CZ
   by_cases hs:l[k].2.2.2.1=0
   ·rw[cU hs,ai,if_neg (λe=>e hs)]
   ·rw[fj hs,ag,if_pos hs]
 ·right
  obtain rfl:k=(l).length:=by omega
  intro R kn kx
  rw[dx.L0.step,aW (by omega),ai]
  simp only[bV,dx.L0.F,aa,aY,fy]
theorem dx.ok:dx.Ok:=by
 intro l (h:l.length<=1000000000)
 have z1:((0:Int)).toNat=0:=rfl
 rw[dx.eq]
 simp only[bV,dx.F,rh]
 by_cases h0:l.length=0
 ·rw[gq (by omega),ag,if_pos h0]
 ·rw[gB (by omega),ai,if_neg h0,dx.L0.run (d:=(l,18,0)) ⟨h,0,aP _,rfl,by decide,by decide⟩]
  simp only[ae,bV,dx.L0.F,z1,aI]
theorem dx.run:dx.RS:=rE [.d (.slice cF)] dx
def dx.sg:=dx.gk dx.ok 1 ⟨.iY dx.L0.ok,trivial⟩
abbrev cQ.L0.D:=(List db)×Int×oR×fZ
abbrev cQ.L0.Y:=fZ
abbrev cQ.L0.X:=(oR)×(fZ)
def cQ.L0.add:cQ.L0.D->cQ.L0.Y->cQ.L0.X:=λ(gd,i,n2,n3) y=>(n2,y)
abbrev cQ.D:=(List db)
abbrev cQ.Y:=fZ
def cQ.L0.bf:cQ.L0.D->Prop:=λ(l,i,z,g)=>(l).length<=1000000000/\∃k:Nat,k<=(l).length/\i=k
def cQ.L0.F:cQ.L0.D->cQ.L0.Y:=λ(l,i,z,g)=>(List.drop (Int.toNat i) l).foldl FJ g
def cQ.bf:cQ.D->Prop:=λl=>l.length<=1000000000
def cQ.F:cQ.D->cQ.Y:=λl=>fe l
def cQ.L0:Ls cQ.L0.bf cQ.L0.add cQ.L0.F:=ra (λ(gd,i,n2,n3)=>⟨([.d (.slice cF) gd,.undef,.ptr (.new 2 0) 0 [] 0,.ptr (.new 3 0) 0 [] 0,.d ti i]++bm 41 []),[],([[],[],[.obj 0 false (.pr (.dp) (.d mm n2))],[.obj 0 false (.d iF n3)]]++cS 42 [])⟩) (λx=>(.exit 0,⟨([.undef,.undef,.ptr (.new 2 0) 0 [] 0,.ptr (.new 3 0) 0 [] 0]++bm 42 []),[],([[],[],[.obj 0 false (.pr (.dp) (.d mm x.1))],[.obj 0 false (.d iF x.2)]]++cS 42 [])⟩))
def cQ:Fs Tryz.prog cQ.bf bV cQ.F:=gf 111 Tryz.f111 (λl=>([.d (.slice cF) l],[])) (λx=>⟨.d iF x,[],[]⟩) [some (.slice cF)] [dx.sg] {loops:=qu [(4,{bA:=[0,2,3,4],sites:=[2,3]})],outs:=qt [(4,{bA:=[2,3],sites:=[2,3]},{bA:=[2]})],jl:=qU [(4,cQ.L0.E)]}
theorem cQ.L0.run:cQ.L0.RS:=rL [.d (.slice cF),.d ti,.d mm,.d iF] cQ.L0
theorem cQ.L0.step{R:Type}(gd i n2 n3)(kn:K2 R)(kx:K3 R):cQ.R 0 cQ.L0 (gd,i,n2,n3) kn kx=
  aN ((iX i (gd.length:Int))) (
   aN (gw i (gd.length:Int)) (
   aN ((sx (nth cF gd (Int.toNat i)).2.2.2.2.2.1 0)) (
    aN ((xS n3.2.2.2.1 0)) (
     aN (gw i (gd.length:Int)) (
     kn (cQ.L0.st (gd,(bQ .i64 i 1),n2,(n3.1,(n3.2.1,(n3.2.2.1,((nth cF gd (Int.toNat i)).2.2.2.2.2.1,n3.2.2.2.2))))))) none) (
     aN (gw i (gd.length:Int)) (
     aN ((iX (nth cF gd (Int.toNat i)).2.2.2.2.2.1 n3.2.2.2.1)) (
      aN (gw i (gd.length:Int)) (
      kn (cQ.L0.st (gd,(bQ .i64 i 1),n2,(n3.1,(n3.2.1,(n3.2.2.1,((nth cF gd (Int.toNat i)).2.2.2.2.2.1,n3.2.2.2.2))))))) none) (
      kn (cQ.L0.st (gd,(bQ .i64 i 1),n2,n3)))) none)) (
    kn (cQ.L0.st (gd,(bQ .i64 i 1),n2,n3)))) none) (
   cQ.L0.go kx (n2,n3)):=by kernel_rfl
theorem cQ.eq{R:Type}(l)(k:K1 R):cQ.A l k=
 aB (dx.call l) λx1=>
 aB (cQ.L0.call (l,0,(0,(0,(0,()))),(l,(x1,(x1,(0,())))))) λx2=>
 k (cQ.out x2.2):=by kernel_rfl
theorem cQ.L0.ok:(cQ.lP 0 cQ.L0):=by
 refine(cQ.mS 0 cQ.L0) (λ(l,i,z,g)=>(l).length - Int.toNat i) ?_
 rintro⟨l,i,z,g⟩ ⟨hlen,k,hk,rfl⟩
 have hlen:(l).length<=1000000000:=hlen
 have hk:k<=(l).length:=hk
 by_cases h:k < (l).length
 ·left
  have n1:nth cF l k=l[k]:=dq (t:=cF) h
  have hd:List.drop k l=l[k]::List.drop (k+1) l:=ax h
  refine⟨(l,((k+1:Nat):Int),z,(FJ g l[k])),⟨hlen,k+1,by omega,rfl⟩,by simp only[aa];omega,?_,λkn kx=> ?_⟩
  ·simp only[cQ.L0.add,cQ.L0.F,aa,hd,cG]
  ·rw[cQ.L0.step,aU (by omega),bt (by omega) (by omega),aa,n1]
   simp only[ag]
   rw[N.py (by omega)]
   unfold FJ KJ
   by_cases h1:l[k].2.2.2.2.2.1=0
   ·rw[cU h1,ai,if_neg (λe=>e.1 h1)]
   ·rw[fj h1,ag]
    by_cases h2:g.2.2.2.1=0
    ·rw[gq h2,ag,if_pos ⟨h1,.inl h2⟩]
    ·rw[gB h2,ai]
     by_cases h3:l[k].2.2.2.2.2.1 < g.2.2.2.1
     ·rw[aU h3,ag,if_pos ⟨h1,.inr h3⟩]
     ·rw[aW h3,ai,if_neg (λe=>e.2.elim h2 h3)]
 ·right
  obtain rfl:k=(l).length:=by omega
  intro R kn kx
  rw[cQ.L0.step,aW (by omega),ai]
  simp only[cQ.L0.add,cQ.L0.F,aa,aY,fy]
theorem cQ.ok:cQ.Ok:=by
 intro l (h:l.length<=1000000000)
 have z1:((0:Int)).toNat=0:=rfl
 rw[cQ.eq,dx.run (d:=l) h]
 simp only[ae,bV,dx.F]
 rw[cQ.L0.run (d:=(l,0,(0,(0,(0,()))),(l,(rh l,(rh l,(0,())))))) ⟨h,0,aP _,rfl⟩]
 simp only[ae,cQ.L0.add,cQ.L0.F,z1,aI,w5]
 rfl
theorem cQ.run:cQ.RS:=rE [.d (.slice cF)] cQ
def cQ.sg:=cQ.gk cQ.ok 1 ⟨.iY cQ.L0.ok,trivial⟩
def KD(n:Int)(x:db):Int:=n+x.2.1.1
abbrev dh.L0.D:=(List db)×Int×Int
abbrev dh.L0.Y:=Int
abbrev dh.D:=(List db)
abbrev dh.Y:=Int
def dh.L0.bf:dh.L0.D->Prop:=λ(l,n,i)=>(l).length<=1000000000/\∃k:Nat,k<=(l).length/\i=k/\(∀x∈l,0<=x.2.1.1/\x.2.1.1<=1099511627776)/\(l.length<=1000)/\(0<=n)/\(n<=1099511627776*(k:Int))
def dh.L0.F:dh.L0.D->dh.L0.Y:=λ(l,n,i)=>(List.drop (Int.toNat i) l).foldl KD n
def dh.bf:dh.D->Prop:=λl=>l.length<=1000/\∀x∈l,0<=x.2.1.1/\x.2.1.1<=1099511627776
def dh.F:dh.D->dh.Y:=λl=>l.foldl KD 0
def dh.L0:Ls dh.L0.bf bV dh.L0.F:=ra (λ(gd,n,i)=>⟨([.d (.slice cF) gd,.undef,.undef,.d ti n,.d ti i]++bm 15 []),[],(List.replicate 20 [])⟩) (λx=>(.exit 0,⟨([.undef,.undef,.undef,.d ti x]++bm 16 []),[],(List.replicate 20 [])⟩))
def dh:Fs Tryz.prog dh.bf bV dh.F:=gf 112 Tryz.f112 (λl=>([.d (.slice cF) l],[])) (λx=>⟨.d ti x,[],[]⟩) [some (.slice cF)] [] {loops:=qu [(3,{bA:=[0,3,4]})],outs:=qt [(3,{bA:=[3]},{bA:=[2]})],jl:=qU [(3,dh.L0.E)]}
theorem dh.L0.run:dh.L0.RS:=rL [.d (.slice cF),.d ti,.d ti] dh.L0
theorem dh.L0.step{R:Type}(gd n i)(kn:K2 R)(kx:K3 R):dh.R 0 dh.L0 (gd,n,i) kn kx=
  aN ((iX i (gd.length:Int))) (
   aN (gw i (gd.length:Int)) (
   kn (dh.L0.st (gd,(bQ .i64 n (nth cF gd (Int.toNat i)).2.1.1),(bQ .i64 i 1)))) none) (
   dh.L0.go kx n):=by kernel_rfl
theorem dh.eq{R:Type}(l)(k:K1 R):dh.A l k=
 aB (dh.L0.call (l,0,0)) λx1=>
 k (dh.out x1):=by kernel_rfl
theorem dh.L0.ok:(dh.lP 0 dh.L0):=by
 refine(dh.mS 0 dh.L0) (λ(l,n,i)=>(l).length - Int.toNat i) ?_
 rintro⟨l,n,i⟩ ⟨hlen,k,hk,rfl,hx,hl,h1,h2⟩
 have hlen:(l).length<=1000000000:=hlen
 have hk:k<=(l).length:=hk
 have hx:∀x∈l,0<=x.2.1.1/\x.2.1.1<=1099511627776:=hx
 have hl:l.length<=1000:=hl
 have h1:0<=n:=h1
 have h2:n<=1099511627776*(k:Int):=h2
 by_cases h:k < (l).length
 ·left
  have n1:nth cF l k=l[k]:=dq (t:=cF) h
  have hd:List.drop k l=l[k]::List.drop (k+1) l:=ax h
  refine⟨(l,(KD n l[k]),((k+1:Nat):Int)),⟨hlen,k+1,by omega,rfl,hx,hl,by have:=hx _ (bH h);unfold KD;omega,by have:=hx _ (bH h);unfold KD;omega⟩,by simp only[aa];omega,?_,λkn kx=> ?_⟩
  ·simp only[bV,dh.L0.F,aa,hd,cG]
  ·rw[dh.L0.step,aU (by omega),bt (by omega) (by omega),aa,n1]
   simp only[ag]
   have:=hx _ (bH h)
   rw[N.py (by omega),dL (x:=n) (by omega) (by omega)]
   rfl
 ·right
  obtain rfl:k=(l).length:=by omega
  intro R kn kx
  rw[dh.L0.step,aW (by omega),ai]
  simp only[bV,dh.L0.F,aa,aY,fy]
theorem dh.ok:dh.Ok:=by
 rintro l ⟨h,hx⟩
 have h:l.length<=1000:=h
 have z1:((0:Int)).toNat=0:=rfl
 rw[dh.eq,dh.L0.run (d:=(l,0,0)) ⟨by show l.length<=_;omega,0,aP _,rfl,hx,h,eY 0,eY 0⟩]
 simp only[ae,bV,dh.L0.F,z1,aI]
 rfl
theorem dh.run:dh.RS:=rE [.d (.slice cF)] dh
def dh.sg:=dh.gk dh.ok 1 ⟨.iY dh.L0.ok,trivial⟩
def yr(l:List db)(o:jm):Bool:=l.any λx=>Ty.beq gz x.1 o
theorem GO(a b:jm):Ty.beq gz a b=true↔a=b:=⟨beq_eq gz a b rfl,λh=>by rw[h];exact beq_refl gz b rfl⟩
theorem JC{l:List db}{o:jm}:yr l o=true↔o∈l.map (·.1):=by
 unfold yr
 rw[kN,c7]
 exact⟨λ⟨x,h1,h2⟩=>⟨x,h1,(GO _ _).1 h2⟩,λ⟨x,h1,h2⟩=>⟨x,h1,(GO _ _).2 h2⟩⟩
def Dx(l:List db):Int:=(l.map (·.2.1.1)).sum
def w6(l:List fZ):Int:=(l.map (·.2.2.1)).sum
def uM(l:List fZ):List db:=l.flatMap (·.1)
def Iu(b:oR)(h:Int)(g:fZ):Bool:=g.1.any (iw b h)
theorem Bq(x:db)(l:List db):Dx (x::l)=x.2.1.1+Dx l:=by unfold Dx;rw[bJ,List.sum_cons]
theorem tv(g:fZ)(l:List fZ):w6 (g::l)=g.2.2.1+w6 l:=by unfold w6;rw[bJ,List.sum_cons]
theorem DR(l l':List fZ):w6 (l++l')=w6 l+w6 l':=by unfold w6;rw[lG,List.sum_append]
theorem wZ(g:fZ)(l:List fZ):uM (g::l)=g.1++uM l:=by unfold uM;rw[List.flatMap_cons]
theorem DN(l l':List fZ):uM (l++l')=uM l++uM l':=by unfold uM;rw[List.flatMap_append]
theorem DT:∀ {l:List fZ},(∀g∈l,0<=g.2.2.1)->0<=w6 l
 |[],_=>eY 0
 |a::l,h=>by
  have h1:=h a aK
  have h2:=DT (l:=l) λx hx=>h x (aH _ hx)
  rw[tv]
  omega
theorem Hm:∀(c:List db) (n:Int),(∀x∈c,rh [x]<=x.2.1.1)->c.foldl CZ n+18*(c.length:Int)<=n+Dx c
 |[],n,_=>by show n+18*((0:Nat):Int)<=n+0;omega
 |x::c,n,h=>by
  have h1:CZ 18 x<=x.2.1.1:=h x aK
  have h2:=Hm c (CZ n x) λy hy=>h y (aH _ hy)
  have h3:CZ n x=n+CZ 18 x - 18:=by unfold CZ;split <;> omega
  rw[cG,Bq,aG]
  omega
theorem Mf{c:List db}(h0:1<=c.length)(h:∀x∈c,rh [x]<=x.2.1.1):rh c<=Dx c:=by
 have:=Hm c 18 h
 unfold rh
 rw[if_neg (by omega)]
 omega
theorem G8{h:Int}{x:db}(e:jU h x=true):rq x h=true/\rh [x]<=x.2.1.1:=by
 unfold jU at e
 rw[ah,bC]at e
 have:=of_decide_eq_false e.2
 exact⟨e.1,by omega⟩
theorem Gk{R:fZ->fZ->Prop}:∀ {L:List fZ},(∀g∈L,∀g'∈L,R g g')->L.Pairwise R
 |[],_=> .nil
 |a::L,h=> .cons (λg hg=>h a aK g (aH _ hg)) (Gk λg hg g' hg'=>h g (aH _ hg) g' (aH _ hg'))
theorem BA:∀(A:List db) (b:Int),uM (nb b (A.map jj))=A
 |[],b=>rfl
 |x::A,b=>by rw[bJ,nb,wZ,BA A];rfl
theorem GZ:∀(L:List fZ) (b:Int),nV (nb b L)=nV L
 |[],b=>rfl
 |g::L,b=>by rw[nb,nr,nr,GZ L];rfl
theorem GY:∀(A:List db) (b:Int),(∀x∈A,Mk (jj x))->0<=b->b<=1125899906842624->w6 (nb b (A.map jj))<=nV (A.map jj)+b
 |[],b,_,h0,_=>by show(0:Int)<=0+b;omega
 |x::A,b,hx,h0,h1=>by
  have hm:=yS (hx x aK) ⟨h0,h1⟩
  have ih:=GY A (b - ig b (jj x)) (λy hy=>hx y (aH _ hy)) (by omega) (by omega)
  rw[bJ,nb,tv,nr]
  show rh [x]+ig b (jj x)+_<=rh [x]+_+b
  omega
theorem DS:∀B:List (List db),w6 (B.map fe)=nV (B.map fe)
 |[]=>rfl
 |c::B=>by rw[bJ,tv,nr,DS B];rfl
theorem DO:∀B:List (List db),uM (B.map fe)=B.flatten
 |[]=>rfl
 |c::B=>by rw[bJ,wZ,DO B];rfl
def GI(l:List db)(b:oR)(h:Int)(g:fZ):Prop:=(1<=g.1.length/\g.1.length<=8)/\g.2.1=rh g.1/\g.2.1<=g.2.2.1/\g.2.2.1<=Dx g.1/\(∀x∈g.1,x∈l/\jU h x=true)/\(Iu b h g=true->g.1.length=1)/\(Iu b h g=false->g.2.2.1=g.2.1)
section
variable {l:List db} {b:oR} {h:Int}
theorem IQ(hx:∀x∈l,AE x)(hn:(l.map (·.1)).Nodup):((dd l b h++gv l b h).map (·.1)).Nodup:=by
 have hp:(dd l b h++gv l b h).Perm (l.filter (o5 b h)++l.filter (pg b h)):=(pL hx).1.append (rT hx).1
 have e1:l.filter (o5 b h)=(l.filter (jU h)).filter (iw b h):=by
  rw[lQ]
  exact List.filter_congr λx _=>Bool.and_comm _ _
 have e2:l.filter (pg b h)=(l.filter (jU h)).filter (λx=> !iw b h x):=by
  rw[lQ]
  exact List.filter_congr λx _=>Bool.and_comm _ _
 rw[e1,e2]at hp
 exact((hp.trans (List.filter_append_perm _ _)).map (·.1)).nodup_iff.2 (hn.sublist (List.filter_sublist.map _))
theorem HK(hx:∀x∈l,AE x){x:db}(h1:x∈l)(h2:jU h x=true)(h3:iw b h x=true):x∈dd l b h:=by
 refine(pL hx).1.mem_iff.2 (dP.2 ⟨h1,?_⟩)
 unfold o5
 rw[h2,h3]
 rfl
theorem Ks(hx:∀x∈l,AE x){x:db}(h1:x∈l)(h2:jU h x=true)(h3:iw b h x=false):x∈gv l b h:=by
 refine(rT hx).1.mem_iff.2 (dP.2 ⟨h1,?_⟩)
 unfold pg
 rw[h2,h3]
 rfl
theorem Gi{bu:Int}(hx:∀x∈l,AE x)(nm:jJ l bu b h=true):(∀g∈mL l bu b h,GI l b h g)/\(mL l bu b h).Pairwise (λg g'=>Iu b h g'=true->Iu b h g=true)/\((uM (mL l bu b h)).map (·.1)).Nodup/\(uM (mL l bu b h)).length<=128/\w6 (mL l bu b h)<=bu/\0<=nV (mL l bu b h)/\nV (mL l bu b h)<=bu/\∀x∈l,jU h x=true->x.1 ∉ (uM (mL l bu b h)).map (·.1)->bu - nV (mL l bu b h) < 194:=by
 obtain⟨hb,_,hh,hl,hn,ha⟩:=z7 nm
 have QQ:(dd l b h).length<=64:=by
  rw[(pL hx).1.length_eq]
  exact kP (fv _ _) hl
 have FQ:(gv l b h).length<=64:=by
  rw[(rT hx).1.length_eq]
  exact kP (fv _ _) hl
 have G3:=IQ (b:=b) (h:=h) hx hn
 have hc:=(pD _ (gv l b h) (az _)).2
 have Mz:=uu _ (gv l b h) (az _)
 have kF:=λ(x:db) (hm:x∈dd l b h)=>uK hx hm
 have kR:=λ(c:List db) (hm:c∈fF (gv l b h)) (x:db) (h':x∈c)=>HE hx hm h'
 obtain⟨A,A2,B,B2,b',s1,s2,s3,s4,s5,s6,s7,s8⟩:=Gj (l:=l) (b:=b) (h:=h) hb.1
 have fM:=λ(x:db)=>HK (b:=b) (h:=h) hx (x:=x)
 have rM:=λ(x:db)=>Ks (b:=b) (h:=h) hx (x:=x)
 rw[<-Mz]at FQ G3 rM
 rw[s1]at QQ G3 kF fM
 rw[s2]at FQ G3 hc kR rM
 rw[s3]
 have hA:∀x∈A,x∈l/\jU h x=true/\iw b h x=true:=λx hm=>kF x (kB _ hm)
 have hB:∀c∈B,∀x∈c,x∈l/\jU h x=true/\iw b h x=false:=λc hm x h'=>kR c (kB _ hm) x h'
 have gM:∀x∈A,Mk (jj x):=λx hm=>zY (ha x (hA x hm).1) (hA x hm).2.1
 have pA:∀g∈A.map jj,0<=g.2.1:=λg hg=>by obtain⟨x,_,rfl⟩:=c7.1 hg;exact(qR [x]).1
 have pB:∀g∈B.map fe,0<=g.2.1:=λg hg=>by obtain⟨c,_,rfl⟩:=c7.1 hg;exact(qR c).1
 have qA:=vO pA
 have qB:=vO pB
 have tA:∀g∈nb b' (A.map jj),Iu b h g=true/\GI l b h g:=λg hg=>by
  obtain⟨x,hm,m,m1,m2,m3,rfl⟩:=BB A b' gM s5 (by omega) g hg
  obtain⟨k1,k2,k3⟩:=hA x hm
  have hp:Iu b h (qE (jj x) m)=true:=by
   show(iw b h x || false)=true
   rw[k3];rfl
  have hs:Dx [x]=x.2.1.1+0:=Bq x []
  refine⟨hp,⟨by show 1<=1;decide,by show 1<=8;decide⟩,rfl,by show rh [x]<=rh [x]+m;omega,by show rh [x]+m<=Dx [x];omega,λy hy=> ?_,λ_=>rfl,λe=> ?_⟩
  ·rw[bO.1 (show y∈ [x] from hy)]
   exact⟨k1,k2⟩
  ·rw[hp]at e
   cases e
 have tB:∀g∈B.map fe,Iu b h g=false/\GI l b h g:=λg hg=>by
  obtain⟨c,hm,rfl⟩:=c7.1 hg
  have hp:Iu b h (fe c)=false:=by
   show c.any (iw b h)=false
   rw[jc]
   intro x h'
   rw[(hB c hm x h').2.2]
   decide
  have FN:=hc c (kB _ hm)
  refine⟨hp,FN,rfl,eY _,Mf FN.1 λx h'=>(G8 (hB c hm x h').2.1).2,λx h'=>⟨(hB c hm x h').1,(hB c hm x h').2.1⟩,λe=> ?_,λ_=>rfl⟩
  rw[hp]at e
  cases e
 have eg:uM (nb b' (A.map jj)++B.map fe)=A++B.flatten:=by rw[DN,BA,DO]
 have el:nV (nb b' (A.map jj)++B.map fe)=nV (A.map jj)+nV (B.map fe):=by rw[xV,GZ]
 have es:w6 (nb b' (A.map jj)++B.map fe)<=nV (A.map jj)+b'+nV (B.map fe):=by
  have:=GY A b' gM s5 (by omega)
  rw[DR,DS]
  omega
 rw[eg,el]
 rw[List.flatten_append]at G3 FQ rM
 refine⟨λg hg=>(bp.1 hg).elim (λh'=>(tA g h').2) (λh'=>(tB g h').2),List.pairwise_append.2 ⟨Gk λg hg g' _ _=>(tA g hg).1,Gk λg _ g' hg' e=> ?_,λg hg g' _ _=>(tA g hg).1⟩,?_,?_,by omega,by omega,by omega,λx h1 h2 h3=> ?_⟩
 ·rw[(tB g' hg').1]at e
  cases e
 ·refine List.Nodup.sublist (List.Sublist.map _ ?_) G3
  exact(List.sublist_append_left A A2).append (List.sublist_append_left B.flatten B2.flatten)
 ·rw[av]at QQ FQ ⊢
  omega
 ·have n1:x ∉ A:=λe=>h3 (gZ (kB _ e))
  have n2:x ∉ B.flatten:=λe=>h3 (gZ (List.mem_append_right _ e))
  have d1:A2≠ []->b' < 194:=λe=>by
   match A2,e,s7 with
   |y::A3,_,s7=>
    have h4:=s7 y A3 rfl
    have h5:rh [y]<=18+22*((1:Nat):Int):=(qR [y]).2
    omega
  have d2:A2=[]->B2≠ []->b' < 194:=λe e'=>by
   match B2,e',s8,hc with
   |c::B3,_,s8,hc=>
    have h4:=s8 e c B3 rfl
    have h5:=(qR c).2
    have h6:=(hc c (List.mem_append_right _ aK)).2
    omega
  have d:b' < 194:=by
   cases hp:iw b h x with
   |true=>
    refine d1 λe=> ?_
    have:=fM x h1 h2 hp
    rw[e,cM]at this
    exact n1 this
   |false=>
    by_cases e:A2=[]
    ·refine d2 e λe'=> ?_
     have:=rM x h1 h2 hp
     rw[e',jE,cM]at this
     exact n2 this
    ·exact d1 e
  omega
end
def I9(l:List db)(b:oR)(h:Int)(G:List fZ)(paid least:Int)(m:Nat)(calm:Bool)(seen:List db):Prop:=(∀g∈G,GI l b h g)/\G.Pairwise (λg g'=>Iu b h g'=true->Iu b h g=true)/\(calm=true->∀g∈G,Iu b h g=false)/\((seen++uM G).map (·.1)).Nodup/\m=seen.length/\(seen++uM G).length<=128/\(0<=paid/\paid+w6 G<=1125899906842624)/\(0<=least/\least+nV G<=1125899906842624)
theorem I9.next{l:List db}{b:oR}{h:Int}{g:fZ}{G:List fZ}{paid least:Int}{m:Nat}{calm:Bool}{seen:List db}(hI:I9 l b h (g::G) paid least m calm seen):I9 l b h G (paid+g.2.2.1) (least+g.2.1) (m+g.1.length) (calm || !Iu b h g) (seen++g.1)/\paid+g.2.2.1<=1125899906842624/\least+g.2.1<=1125899906842624:=by
 obtain⟨h1,h2,h3,h4,h5,h6,h7,h8⟩:=hI
 have g1:=h1 g aK
 have hw:∀g∈G,0<=g.2.1/\0<=g.2.2.1:=λg' hg'=>by
  obtain⟨_,k1,k2,_⟩:=h1 g' (aH _ hg')
  have:=(qR g'.1).1
  omega
 have w1:=vO λg hg=>(hw g hg).1
 have w2:=DT λg hg=>(hw g hg).2
 have w3:=(qR g.1).1
 obtain⟨_,k1,k2,_⟩:=g1
 rw[wZ,<-bw]at h4 h6
 rw[tv]at h7
 rw[nr]at h8
 refine⟨⟨λg' hg'=>h1 g' (aH _ hg'),(e8.1 h2).2,λe g' hg'=> ?_,h4,by rw[av,h5],h6,⟨by omega,by omega⟩,⟨by omega,by omega⟩⟩,by omega,by omega⟩
 rw[fD,bC]at e
 rcases e with e | e
 ·exact h3 e g' (aH _ hg')
 ·cases hp:Iu b h g' with
  |false=>rfl
  |true=>
   rw[(e8.1 h2).1 g' hg' hp]at e
   cases e
end Go.Ab
namespace Go.Ab
open Go.Proofs
def A8:List db->List db->Bool
 |_,[]=>true
 |p,x::s=> !yr p x.1 && (xD x && A8 (p++ [x]) s)
theorem EC:∀(s p:List db),A8 p s=true↔(∀x∈s,x.1 ∉ p.map (·.1))/\(s.map (·.1)).Nodup/\∀x∈s,xD x=true
 |[],p=>by simp[A8]
 |x::s,p=>by
  have e1:yr p x.1=false↔x.1 ∉ p.map (·.1):=by
   rw[<-JC]
   cases yr p x.1 <;> simp
  rw[A8,ah,ah,bC,e1,EC s]
  simp only[lG,bJ,fE,bp,bY,gA,or_false,forall_eq_or_imp,c8,not_or]
  constructor
  ·rintro⟨a1,a2,a3,a4,a5⟩
   refine⟨⟨a1,λy hy=>(a3 y hy).1⟩,⟨λhm=> ?_,a4⟩,a2,a5⟩
   obtain⟨y,hy,e⟩:=c7.1 hm
   exact(a3 y hy).2 e
  ·rintro⟨⟨a1,a2⟩,⟨a3,a4⟩,a5,a6⟩
   exact⟨a1,a5,λy hy=>⟨a2 y hy,λe=>a3 (by rw[<-e];exact gZ hy)⟩,a4,a6⟩
theorem LX(l:List db):A8 [] l=nw [] l:=by
 rw[Bool.eq_iff_iff,EC,u7]
 exact⟨λh=>⟨h.2.1,λx _=>rfl,h.2.2⟩,λh=>⟨λx _=>by simp,h.1,h.2.2⟩⟩
theorem Hv(a b:jm):Ty.beq gz a b=Ty.beq gz b a:=by
 rw[Bool.eq_iff_iff,GO,GO]
 exact⟨λh=>h.symm,λh=>h.symm⟩
abbrev al.L0.D:=(List db)×Int
def al.L0.st:al.L0.D->AS:=λ(gd,i)=>⟨([.d (.slice cF) gd]++bm 9 ([.d ti i]++bm 50 [])),[],(List.replicate 61 [])⟩
abbrev al.L0.Y0:=Unit
abbrev al.L0.X0:=Unit
def al.L0.dY:al.L0.X0->Exit×AS:=λx=>(.ret,⟨(bm 8 ([.d .bool false]++bm 52 [])),[],(List.replicate 61 [])⟩)
abbrev al.L0.Y1:=Unit
abbrev al.L0.X1:=Unit
def al.L0.gN:al.L0.X1->Exit×AS:=λx=>(.exit 0,⟨(bm 61 []),[],(List.replicate 61 [])⟩)
abbrev al.L0.X:=(al.L0.X0)⊕(al.L0.X1)
abbrev al.L0.Y:=(al.L0.Y0)⊕(al.L0.Y1)
def al.L0.out:al.L0.X->Out (Exit×AS):=λx=> .br x.isLeft (.get x.getLeft? λa=> .ok (al.L0.dY a)) (.get x.getRight? λb=> .ok (al.L0.gN b))
def al.L0.add:al.L0.D->al.L0.Y->al.L0.X:=λ(gd,i) y=>match y with | .inl y=> .inl y | .inr z=> .inr (z)
abbrev al.L1.D:=(List db)×Int×Int
def al.L1.st:al.L1.D->AS:=λ(I5,qS,kv)=>⟨([.d (.slice cF) I5]++bm 9 ([.d ti qS,.d ti kv]++bm 49 [])),[],(List.replicate 61 [])⟩
abbrev al.L1.Y0:=Unit
abbrev al.L1.X0:=Unit
def al.L1.dY:al.L1.X0->Exit×AS:=λx=>(.ret,⟨(bm 8 ([.d .bool false]++bm 52 [])),[],(List.replicate 61 [])⟩)
abbrev al.L1.Y1:=Unit
abbrev al.L1.X1:=(List db)×Int
def al.L1.gN:al.L1.X1->Exit×AS:=λx=>(.exit 2,⟨([.d (.slice cF) x.1]++bm 9 ([.d ti x.2]++bm 50 [])),[],(List.replicate 61 [])⟩)
abbrev al.L1.X:=(al.L1.X0)⊕(al.L1.X1)
abbrev al.L1.Y:=(al.L1.Y0)⊕(al.L1.Y1)
def al.L1.out:al.L1.X->Out (Exit×AS):=λx=> .br x.isLeft (.get x.getLeft? λa=> .ok (al.L1.dY a)) (.get x.getRight? λb=> .ok (al.L1.gN b))
def al.L1.add:al.L1.D->al.L1.Y->al.L1.X:=λ(I5,qS,kv) y=>match y with | .inl y=> .inl y | .inr z=> .inr ((I5,qS))
abbrev al.D:=(List db)×Int×oR×Int
abbrev al.Y:=Bool
def al.L1.bf:al.L1.D->Prop:=λ(l,i,kv)=>l.length<=64/\∃j k:Nat,j < l.length/\k<=j/\i=j/\kv=k
def al.L1.F:al.L1.D->al.L1.Y:=λ(l,i,kv)=>if yr ((l.take i.toNat).drop kv.toNat) (nth cF l i.toNat).1=true then .inl () else .inr ()
def al.L0.bf:al.L0.D->Prop:=λ(l,i)=>l.length<=64/\∃k:Nat,k<=l.length/\i=k
def al.L0.F:al.L0.D->al.L0.Y:=λ(l,i)=>if A8 (l.take i.toNat) (l.drop i.toNat)=true then .inr () else .inl ()
def al.bf:al.D->Prop:=λ_=>True
def al.F:al.D->al.Y:=λ(l,bu,b,h)=>jJ l bu b h
def al.L0.E:=eR.iY al.L0.st al.L0.bf al.L0.add al.L0.F al.L0.out
def al.L0.call:al.L0.D->Option al.L0.X:=kE al.L0.E al.L0.st
def al.L1.E:=eR.iY al.L1.st al.L1.bf al.L1.add al.L1.F al.L1.out
def al.L1.call:al.L1.D->Option al.L1.X:=kE al.L1.E al.L1.st
def al:Fs Tryz.prog al.bf bV al.F:=gf 107 Tryz.f107 (λ(l,budget,b,height)=>([.d (.slice cF) l,.d ti budget,.d mm b,.d ti height],[])) (λx=>⟨.d .bool x,[],[]⟩) [some (.slice cF),some ti,some mm,some ti] [dg.sg,ik.sg] {loops:=qu [(5,{bA:=[0,10]}),(8,{bA:=[0,10,11]})],outs:=qt [(5,{},{bA:=[8]}),(8,{bA:=[0,10]},{bA:=[8]})],jl:=qU [(5,al.L0.E),(8,al.L1.E)]}
def al.L0.R:= @iN Tryz.prog (mR al.G) al.an 0 Tryz.f107 0 _ al.L0.st
abbrev al.L0.Ok:=oS Tryz.prog (mR al.G) al.an 0 Tryz.f107 0 al.L0.st al.L0.bf al.L0.add al.L0.F al.L0.out
def al.L1.R:= @iN Tryz.prog (mR al.G) al.an 0 Tryz.f107 1 _ al.L1.st
abbrev al.L1.Ok:=oS Tryz.prog (mR al.G) al.an 0 Tryz.f107 1 al.L1.st al.L1.bf al.L1.add al.L1.F al.L1.out
theorem al.L0.run:ng al.L0.call al.L0.bf al.L0.add al.L0.F:=ql (o8 [.d (.slice cF),.d ti] λ_=>by kernel_rfl)
theorem al.L0.da:qh @al.L0.R al.L0.st al.L0.bf al.L0.add al.L0.F al.L0.out al.L0.Ok:=qH
theorem al.L0.step{R:Type}(gd:(List db))(i:Int)(kn:AS->Option R)(kx:Exit->AS->Option R):al.L0.R (gd,i) kn kx=
  aN ((iX i (((List.length gd):Nat):Int))) (
   aB (al.L1.call (gd,i,(0:Int))) λx1=>
   aN (x1.isLeft) (
    aB (x1.getLeft?) λa2=>
    kx (al.L0.dY ()).1 (al.L0.dY ()).2) (
    aB (x1.getRight?) λb3=>
    aN (gw b3.2 (((List.length b3.1):Nat):Int)) (
    aB (ik.call ((nth cF b3.1 (Int.toNat b3.2)).2.1.1,(0:Int),(1099511627776:Int))) λx4=>
    aN ((!x4)) (
     kx (al.L0.dY ()).1 (al.L0.dY ()).2) (
     kn (al.L0.st (b3.1,(bQ .i64 b3.2 (1:Int)))))) none)) (
   kx (al.L0.gN ()).1 (al.L0.gN ()).2):=by kernel_rfl
theorem al.L1.run:ng al.L1.call al.L1.bf al.L1.add al.L1.F:=ql (o8 [.d (.slice cF),.d ti,.d ti] λ_=>by kernel_rfl)
theorem al.L1.da:qh @al.L1.R al.L1.st al.L1.bf al.L1.add al.L1.F al.L1.out al.L1.Ok:=qH
theorem al.L1.step{R:Type}(I5:(List db))(qS:Int)(kv:Int)(kn:AS->Option R)(kx:Exit->AS->Option R):al.L1.R (I5,qS,kv) kn kx=
  aN ((iX kv qS)) (
   aN (gw qS (((List.length I5):Nat):Int)) (
   aN (gw kv (((List.length I5):Nat):Int)) (
   aN ((Ty.beq gz (nth cF I5 (Int.toNat qS)).1 (nth cF I5 (Int.toNat kv)).1)) (
    kx (al.L1.dY ()).1 (al.L1.dY ()).2) (
    kn (al.L1.st (I5,qS,(bQ .i64 kv (1:Int)))))) none) none) (
   kx (al.L1.gN (I5,qS)).1 (al.L1.gN (I5,qS)).2):=by kernel_rfl
theorem al.eq{R:Type}(l budget b height)(k:K1 R):al.A (l,budget,b,height) k=
  aB (dg.call b) λx1=>
  aB (ik.call (budget,0,1125899906842624)) λx2=>
  aN ((!x2)) (
   k (al.out false)) (
   aN ((!x1)) (
    k (al.out false)) (
    aB (ik.call (height,1,1048576)) λx3=>
    aN ((!x3)) (
     k (al.out false)) (
     aN ((ri (l.length:Int) 64)) (
      k (al.out false)) (
      aB (al.L0.call (l,0)) λx8=>
      aN (x8.isLeft) (
       aB (x8.getLeft?) λa9=>
       k (al.out false)) (
       aB (x8.getRight?) λb10=>
       k (al.out true)))))):=by kernel_rfl
theorem al.L1.ok:al.L1.Ok:=by
 refine al.L1.da (λ(_,i,kv)=>i.toNat - kv.toNat) ?_
 rintro⟨l,i,kv⟩ ⟨hl,j,k,hj,hk,rfl,rfl⟩
 have hl:l.length<=64:=hl
 have hj:j < l.length:=hj
 by_cases h:k < j
 ·have RP:k < l.length:=by omega
  have n1:nth cF l k=l[k]:=dq (t:=cF) RP
  have hd:(l.take j).drop k=l[k]::(l.take j).drop (k+1):=by
   rw[ax (by rw[bI];omega),List.getElem_take]
  have step:∀ {R:Type} (kn:AS->Option R) (kx:Exit->AS->Option R),al.L1.R (l,(j:Int),(k:Int)) kn kx=aN (Ty.beq gz l[k].1 (nth cF l j).1) (kx (al.L1.dY ()).1 (al.L1.dY ()).2) (kn (al.L1.st (l,(j:Int),((k+1:Nat):Int)))):=by
   intro R kn kx
   rw[al.L1.step,aU (by omega),ag,bt (by omega) (by omega),ag,bt (by omega) (by omega),ag,aa,aa,n1,N.py (by omega),Hv]
  cases hb:Ty.beq gz l[k].1 (nth cF l j).1 with
  |true=>
   right
   refine⟨al.L1.dY (),?_,λkn kx=> ?_⟩
   ·simp only[al.L1.add,al.L1.F,aa,hd]
    rw[show yr (l[k]::(l.take j).drop (k+1)) (nth cF l j).1=true by unfold yr;rw[List.any_cons,hb];rfl,if_pos rfl]
    rfl
   ·rw[step,hb,ag]
  |false=>
   left
   refine⟨(l,(j:Int),((k+1:Nat):Int)),⟨hl,j,k+1,hj,h,rfl,rfl⟩,by simp only[aa];omega,?_,λkn kx=> ?_⟩
   ·simp only[al.L1.add,al.L1.F,aa,hd]
    rw[show yr (l[k]::(l.take j).drop (k+1)) (nth cF l j).1=yr ((l.take j).drop (k+1)) (nth cF l j).1 by unfold yr;rw[List.any_cons,hb];rfl]
   ·rw[step,hb,ai]
 ·right
  obtain rfl:k=j:=by omega
  refine⟨al.L1.gN (l,(k:Int)),?_,λkn kx=> ?_⟩
  ·have z:(l.take k).drop k=[]:=fU (by rw[bI];omega)
   simp only[al.L1.add,al.L1.F,aa,z]
   rfl
  ·rw[al.L1.step,aW (by omega),ai]
theorem al.L0.ok:al.L0.Ok:=by
 refine al.L0.da (λ(l,i)=>l.length - i.toNat) ?_
 rintro⟨l,i⟩ ⟨hl,k,hk,rfl⟩
 have hl:l.length<=64:=hl
 have hk:k<=l.length:=hk
 by_cases h:k < l.length
 ·have n1:nth cF l k=l[k]:=dq (t:=cF) h
  have hd:l.drop k=l[k]::l.drop (k+1):=ax h
  have ht:l.take (k+1)=l.take k++ [l[k]]:=(List.take_append_getElem h).symm
  have c1:=al.L1.run (d:=(l,(k:Int),0)) ⟨hl,k,0,h,aP _,rfl,rfl⟩
  simp only[al.L1.add,al.L1.F,aa,b5,aI,n1]at c1
  have ca:=ik.run (d:=(l[k].2.1.1,0,1099511627776)) trivial
  cases h1:yr (l.take k) l[k].1 with
  |true=>
   rw[h1,if_pos rfl]at c1
   right
   refine⟨al.L0.dY (),?_,λkn kx=> ?_⟩
   ·simp only[al.L0.add,al.L0.F,aa,hd,A8,h1,bM,eM,bN,if_false]
    rfl
   ·rw[al.L0.step,aU (by omega),ag,c1]
    rfl
  |false=>
   rw[h1,if_neg Bool.false_ne_true]at c1
   have step:∀ {R:Type} (kn:AS->Option R) (kx:Exit->AS->Option R),al.L0.R (l,(k:Int)) kn kx=aN (!xD l[k]) (kx (al.L0.dY ()).1 (al.L0.dY ()).2) (kn (al.L0.st (l,((k+1:Nat):Int)))):=by
    intro R kn kx
    rw[al.L0.step,aU (by omega),ag,c1]
    simp only[ae,kC,je,ai,aa,n1]
    rw[bt (by omega) (by omega),ag,ca]
    simp only[ae,bV,ik.F]
    rw[N.py (by omega)]
    rfl
   cases h2:xD l[k]with
   |false=>
    right
    refine⟨al.L0.dY (),?_,λkn kx=> ?_⟩
    ·simp only[al.L0.add,al.L0.F,aa,hd,A8,h1,h2,dm,bW,eM,bN,if_false]
     rfl
    ·rw[step,h2,dm,ag]
   |true=>
    left
    refine⟨(l,((k+1:Nat):Int)),⟨hl,k+1,h,rfl⟩,by simp only[aa];omega,?_,λkn kx=> ?_⟩
    ·simp only[al.L0.add,al.L0.F,aa,hd,ht,A8,h1,h2,dm,bW]
    ·rw[step,h2,bM,ai]
 ·right
  obtain rfl:k=l.length:=by omega
  refine⟨al.L0.gN (),?_,λkn kx=> ?_⟩
  ·simp only[al.L0.add,al.L0.F,aa,aY,A8,if_true]
   rfl
  ·rw[al.L0.step,aW (by omega),ai]
theorem al.ok:al.Ok:=by
 rintro⟨l,bu,b,h⟩ _
 rw[al.eq,dg.run (d:=b) trivial,ik.run (d:=(bu,0,1125899906842624)) trivial]
 simp only[ae,bV,dg.F,bV,ik.F,bV,al.F,jJ,u5]
 cases decide (0<=bu/\bu<=1125899906842624) with
 |false=>rfl
 |true=>
  rw[bM,ai,bW]
  cases jq b with
  |false=>rfl
  |true=>
   rw[bM,ai,bW,ik.run (d:=(h,1,1048576)) trivial]
   simp only[ae,bV,ik.F]
   cases decide (1<=h/\h<=1048576) with
   |false=>rfl
   |true=>
    rw[bM,ai,bW]
    by_cases hl:l.length<=64
    ·rw[di (by omega),ai,aX hl,bW,al.L0.run (d:=(l,0)) ⟨hl,0,aP _,rfl⟩]
     simp only[ae,al.L0.add,al.L0.F,b5,aI,eO,LX]
     cases nw [] l <;> rfl
    ·rw[dA (by omega),ag,cC hl]
     rfl
theorem al.run:al.RS:=rE [.d (.slice cF),.d ti,.d mm,.d ti] al
def al.sg:=al.gk al.ok 2 ⟨.iY al.L0.ok,⟨.iY al.L1.ok,trivial⟩⟩
def H3(u:Bool)(l s:List db):List db:=l.foldl (λs x=>wa u x s) s
theorem pt(u:Bool)(x:db)(l:List db):(wa u x l).Perm (x::l):=by
 unfold wa
 have h:=List.perm_middle (a:=x) (l₁:=l.take (uA (vo u) x l)) (l₂:=l.drop (uA (vo u) x l))
 rwa[cK]at h
theorem Iv(u:Bool)(x y:db)(l:List db):wa u x (y::l)=if vo u x y=true then x::y::l else y::wa u x l:=by
 unfold wa
 rw[uA]
 split <;> rfl
def vy(u:Bool)(x y:db):Int:=if u then mz x y else yp x y
theorem Fu{u:Bool}{x y z:db}(hx:tm x)(hy:tm y)(hz:tm z):vy u x y < 0->vy u y z < 0->vy u x z < 0:=by
 cases u with
 |true=>exact nj.trans _ _ _ hx hy hz
 |false=>exact pE.trans _ _ _ hx hy hz
theorem Ds{u:Bool}{x y z:db}(hx:tm x)(hy:tm y)(hz:tm z):¬vy u x y < 0->¬vy u y z < 0->¬vy u x z < 0:=by
 cases u with
 |true=>exact nj.ntrans _ _ _ hx hy hz
 |false=>exact pE.ntrans _ _ _ hx hy hz
theorem Dr{u:Bool}{x:db}(hx:tm x):¬vy u x x < 0:=by
 cases u with
 |true=>exact nj.irrefl _ hx
 |false=>exact pE.irrefl _ hx
theorem yh{u:Bool}{x:db}(hx:tm x):∀ {l:List db},(∀y∈l,tm y)->l.Pairwise (λa b=>¬vy u b a < 0)->(wa u x l).Pairwise (λa b=>¬vy u b a < 0)
 |[],_,_=>List.pairwise_singleton _ _
 |y::l,hq,hp=>by
  obtain⟨p1,p2⟩:=e8.1 hp
  have hy:=hq y aK
  have hl:=λz hz=>hq z (aH _ hz)
  rw[Iv]
  by_cases hb:vo u x y=true
  ·rw[if_pos hb]
   have hb:vy u x y < 0:=of_decide_eq_true hb
   refine e8.2 ⟨λz hz=> ?_,hp⟩
   have n1:¬vy u y x < 0:=λe=>Dr hx (Fu hx hy hx hb e)
   rcases bY.1 hz with rfl | hz
   ·exact n1
   ·exact Ds (hl z hz) hy hx (p1 z hz) n1
  ·rw[if_neg hb]
   have hb:¬vy u x y < 0:=λe=>hb (decide_eq_true e)
   refine e8.2 ⟨λz hz=> ?_,yh hx hl p2⟩
   rcases bY.1 ((pt u x l).mem_iff.1 hz) with rfl | hz
   ·exact hb
   ·exact p1 z hz
theorem FX{u:Bool}:∀ {l s:List db},(∀y∈l,tm y)->(∀y∈s,tm y)->s.Pairwise (λa b=>¬vy u b a < 0)->(H3 u l s).Perm (l++s)/\(H3 u l s).Pairwise (λa b=>¬vy u b a < 0)
 |[],s,_,_,hp=>⟨jB _,hp⟩
 |x::l,s,hl,hs,hp=>by
  have hx:=hl x aK
  have h1:=pt u x s
  obtain⟨i1,i2⟩:=FX (u:=u) (l:=l) (s:=wa u x s) (λy hy=>hl y (aH _ hy)) (λy hy=>by
   rcases bY.1 (h1.mem_iff.1 hy) with rfl | hy
   ·exact hx
   ·exact hs y hy) (yh hx hs hp)
  refine⟨i1.trans ?_,i2⟩
  exact(h1.append_left l).trans List.perm_middle
section
variable {l:List db} {b:oR} {h:Int}
theorem FY(hx:∀x∈l,AE x)(hn:(l.map (·.1)).Nodup):H3 true (l.filter (o5 b h)) []=dd l b h:=by
 obtain⟨f1,f2⟩:=gI hx hn (o5 b h)
 have hi:=FX (u:=true) (s:=[]) f1 (λy hy=>by cases hy) .nil
 rw[cM]at hi
 exact qa nj f1 (λx hx y hy h1 h2=>f2 x hx y hy (sG (f1 x hx) (f1 y hy) h1 h2)) ⟨hi.1,hi.2⟩
theorem H4(hx:∀x∈l,AE x)(hn:(l.map (·.1)).Nodup):H3 false (l.filter (pg b h)) []=gv l b h:=by
 obtain⟨f1,f2⟩:=gI hx hn (pg b h)
 have hi:=FX (u:=false) (s:=[]) f1 (λy hy=>by cases hy) .nil
 rw[cM]at hi
 exact qa pE f1 (λx hx y hy h1 h2=>f2 x hx y hy (uz (f1 x hx) (f1 y hy) h1 h2)) ⟨hi.1,hi.2⟩
end
abbrev ao.L0.D:=(List db)×Int×Int×oR×(List db)×(List db)×Int
abbrev ao.L0.Y:=(List db)×(List db)
abbrev ao.L0.X:=(Int)×((List db)×(List db))
def ao.L0.add:ao.L0.D->ao.L0.Y->ao.L0.X:=λ(gd,fB,fN,kD,first,rest,i) y=>(fB,y)
abbrev ao.L1.D:=Int×(List db)×(List db)×Nat×Int×(List fZ)
abbrev ao.L1.Y:=Nat×(List fZ)
abbrev ao.L1.X:=(Int×(List db)×(List db))×(Nat×(List fZ))
def ao.L1.add:ao.L1.D->ao.L1.Y->ao.L1.X:=λ(iO,nG,uZ,fR,qS,Ka) y=>((iO,nG,uZ),y)
abbrev ao.L2.D:=Int×(List db)×(List db)×Nat×Int×(List fZ)
abbrev ao.L2.Y:=Nat×(List fZ)
abbrev ao.L2.X:=(Int×(List db))×(Nat×(List fZ))
def ao.L2.add:ao.L2.D->ao.L2.Y->ao.L2.X:=λ(hJ,rB,pW,rp,xR,zU) y=>((hJ,rB),y)
abbrev ao.L3.D:=Int×(List db)×Nat×Int×(List fZ)
abbrev ao.L3.Y:=Int×(List db)×Nat×Int×(List fZ)
abbrev ao.L4.D:=Int×(List db)×Nat×Int×(List fZ)
abbrev ao.L4.Y:=Nat×(List fZ)
abbrev ao.sq.X:=Int×(List db)×Nat×Int×Bool×(List fZ)
def ao.sq.st:ao.sq.X->AS:=λ(budget,first,fR,n,t106,Ka)=>⟨([.undef,.d ti budget]++bm 8 ([.d (.slice cF) first]++bm 4 ([.cO (.new 75 0) 0 [] 0 0 fR,.undef,.undef,.d ti n]++bm 87 ([.d .bool t106]++bm 53 [])))),[],(cS 75 ([[.obj 0 false (.vec 106 iF Ka)]]++cS 84 []))⟩
def ao.sq.J:vi:=vi.of {bA:=[1,10,15,18,106],sites:=[75]} ao.sq.st
def ao.sq.fin:ao.sq.X->Option ao.sq.X:=λx=>(ao.sq.J).N8 .normal (ao.sq.st x)
theorem ao.sq.uI(x:ao.sq.X):ao.sq.fin x=some x:=vi.Kg (o8 [.d ti,.d (.slice cF),.n,.d ti,.d .bool,.d (.slice iF)] λ_=>by kernel_rfl) x
abbrev ao.sr.X:=Int×(List db)×Nat×Int×Bool×(List fZ)
def ao.sr.st:ao.sr.X->AS:=λ(budget,first,fR,i,t128,Ka)=>⟨([.undef,.d ti budget]++bm 8 ([.d (.slice cF) first]++bm 4 ([.cO (.new 75 0) 0 [] 0 0 fR,.undef,.undef,.undef,.d ti i]++bm 108 ([.d .bool t128]++bm 31 [])))),[],(cS 75 ([[.obj 0 false (.vec 106 iF Ka)]]++cS 84 []))⟩
def ao.sr.J:vi:=vi.of {bA:=[1,10,15,19,128],sites:=[75]} ao.sr.st
def ao.sr.fin:ao.sr.X->Option ao.sr.X:=λx=>(ao.sr.J).N8 .normal (ao.sr.st x)
theorem ao.sr.uI(x:ao.sr.X):ao.sr.fin x=some x:=vi.Kg (o8 [.d ti,.d (.slice cF),.n,.d ti,.d .bool,.d (.slice iF)] λ_=>by kernel_rfl) x
abbrev ao.D:=(List db)×Int×oR×Int
abbrev ao.Y:=(List fZ)×Int
def ao.L0.bf:ao.L0.D->Prop:=λ(l,_,h,b,fs,rs,i)=>(∀x∈l,AE x)/\(∀x∈fs,tm x)/\(∀x∈rs,tm x)/\(1<=h/\h<=1048576)/\l.length<=64/\∃k:Nat,k<=l.length/\i=k/\fs.length<=k/\rs.length<=k
def ao.L0.F:ao.L0.D->ao.L0.Y:=λ(l,_,h,b,fs,rs,i)=>(H3 true ((l.drop i.toNat).filter (o5 b h)) fs,H3 false ((l.drop i.toNat).filter (pg b h)) rs)
def ao.L1.bf:ao.L1.D->Prop:=λ(_,fs,_,m,i,all)=>m=all.length/\fs.length<=1000/\∃k:Nat,k<=fs.length/\i=k/\all.length<=k
def ao.L1.F:ao.L1.D->ao.L1.Y:=λ(_,fs,_,m,i,all)=>(m+(fs.drop i.toNat).length,all++(fs.drop i.toNat).map jj)
def ao.L2.bf:ao.L2.D->Prop:=λ(_,_,rs,m,i,all)=>m=all.length/\rs.length<=1000/\∃k:Nat,i=k/\k<=rs.length+8/\m<=1000+k
def ao.L2.F:ao.L2.D->ao.L2.Y:=λ(_,_,rs,m,i,all)=>(m+(fF (rs.drop i.toNat)).length,all++(fF (rs.drop i.toNat)).map fe)
def ao.L3.bf:ao.L3.D->Prop:=λ(bu,_,m,n,all)=>m=all.length/\all.length<=10000/\(0<=bu/\bu<=1125899906842624)/\(∀g∈all,0<=g.2.1)/\∃k:Nat,k<=all.length/\n=k
def ao.L3.F:ao.L3.D->ao.L3.Y:=λ(bu,fs,m,n,all)=>((ja bu (all.drop n.toNat)).1,fs,m,n+((ja bu (all.drop n.toNat)).2.length:Nat),all)
def Pc(g:fZ):Prop:=Mk g/\∃x:db,g.1=[x]/\g.2.2.1=g.2.1
def ao.L4.bf:ao.L4.D->Prop:=λ(bu,fs,m,i,all)=>m<=all.length/\all.length<=10000/\(0<=bu/\bu<=1125899906842624)/\∃k:Nat,i=k/\k<=fs.length/\fs.length<=10000/\∀g∈(all.take (min m fs.length)).drop k,Pc g
def ao.L4.F:ao.L4.D->ao.L4.Y:=λ(bu,fs,m,i,all)=>(m,all.take i.toNat++ia (min m fs.length - i.toNat) bu (all.drop i.toNat))
def ao.bf:ao.D->Prop:=λ(l,_,_,_)=>∀x∈l,AE x
def ao.F:ao.D->ao.Y:=λ(l,bu,b,h)=>pV l bu b h
def ao.L0:Ls ao.L0.bf ao.L0.add ao.L0.F:=ra (λ(gd,fB,fN,kD,first,rest,i)=>⟨([.d (.slice cF) gd,.d ti fB,.undef,.d ti fN,.undef,.undef,.eS mm kD,.undef,.undef,.undef,.d (.slice cF) first,.d (.slice cF) rest,.d ti i]++bm 147 []),[],(List.replicate 160 [])⟩) (λx=>(.exit 0,⟨([.undef,.d ti x.1]++bm 8 ([.d (.slice cF) x.2.1,.d (.slice cF) x.2.2]++bm 148 [])),[],(List.replicate 160 [])⟩))
def ao.L1:Ls ao.L1.bf ao.L1.add ao.L1.F:=ra (λ(iO,nG,uZ,fR,qS,Ka)=>⟨([.undef,.d ti iO]++bm 8 ([.d (.slice cF) nG,.d (.slice cF) uZ,.undef,.undef,.undef,.cO (.new 75 0) 0 [] 0 0 fR,.d ti qS]++bm 143 [])),[],(cS 75 ([[.obj 0 false (.vec 106 iF Ka)]]++cS 84 []))⟩) (λx=>(.exit 2,⟨([.undef,.d ti x.1.1]++bm 8 ([.d (.slice cF) x.1.2.1,.d (.slice cF) x.1.2.2,.undef,.undef,.undef,.cO (.new 75 0) 0 [] 0 0 x.2.1]++bm 144 [])),[],(cS 75 ([[.obj 0 false (.vec 106 iF x.2.2)]]++cS 84 []))⟩))
def ao.L2:Ls ao.L2.bf ao.L2.add ao.L2.F:=ra (λ(hJ,rB,pW,rp,xR,zU)=>⟨([.undef,.d ti hJ]++bm 8 ([.d (.slice cF) rB,.d (.slice cF) pW,.undef,.undef,.undef,.cO (.new 75 0) 0 [] 0 0 rp,.undef,.d ti xR]++bm 142 [])),[],(cS 75 ([[.obj 0 false (.vec 106 iF zU)]]++cS 84 []))⟩) (λx=>(.exit 4,⟨([.undef,.d ti x.1.1]++bm 8 ([.d (.slice cF) x.1.2]++bm 4 ([.cO (.new 75 0) 0 [] 0 0 x.2.1]++bm 144 []))),[],(cS 75 ([[.obj 0 false (.vec 106 iF x.2.2)]]++cS 84 []))⟩))
def ao.L3:Ls ao.L3.bf bV ao.L3.F:=ra (λ(jf,vB,um,n,zV)=>⟨([.undef,.d ti jf]++bm 8 ([.d (.slice cF) vB]++bm 4 ([.cO (.new 75 0) 0 [] 0 0 um,.undef,.undef,.d ti n]++bm 141 []))),[],(cS 75 ([[.obj 0 false (.vec 106 iF zV)]]++cS 84 []))⟩) (λx=>(.exit 6,⟨([.undef,.d ti x.1]++bm 8 ([.d (.slice cF) x.2.1]++bm 4 ([.cO (.new 75 0) 0 [] 0 0 x.2.2.1,.undef,.undef,.d ti x.2.2.2.1]++bm 141 []))),[],(cS 75 ([[.obj 0 false (.vec 106 iF x.2.2.2.2)]]++cS 84 []))⟩))
def ao.L4:Ls ao.L4.bf bV ao.L4.F:=ra (λ(sE,tt,wM,N7,Ek)=>⟨([.undef,.d ti sE]++bm 8 ([.d (.slice cF) tt]++bm 4 ([.cO (.new 75 0) 0 [] 0 0 wM,.undef,.undef,.undef,.d ti N7]++bm 140 []))),[],(cS 75 ([[.obj 0 false (.vec 106 iF Ek)]]++cS 84 []))⟩) (λx=>(.exit 8,⟨(bm 15 ([.cO (.new 75 0) 0 [] 0 0 x.1]++bm 144 [])),[],(cS 75 ([[.obj 0 false (.vec 106 iF x.2)]]++cS 84 []))⟩))
def ao:Fs Tryz.prog ao.bf bV ao.F:=gf 45 Tryz.f45 (λ(l,budget,b,height)=>([.d (.slice cF) l,.d ti budget,.d mm b,.d ti height],[])) (λx=>⟨.cons (.d (.slice iF) x.1) (.cons (.d ti x.2) (.nil)),[],[]⟩) [some (.slice cF),some ti,some mm,some ti] [al.sg,dW.sg,dx.sg,fg.sg,ck.sg,cQ.sg,dh.sg] {loops:=qu [(6,{bA:=[0,1,3,6,10,11,12],data:=[(10,(.slice cF)),(11,(.slice cF))]}),(16,{bA:=[1,10,11,15,16],sites:=[75],owns:=[⟨15,[],75,99⟩]}),(20,{bA:=[1,10,11,15,17],sites:=[75],owns:=[⟨15,[],75,99⟩]}),(24,{bA:=[1,10,15,18],sites:=[75]}),(29,{bA:=[1,10,15,19],sites:=[75]})],outs:=qt [(6,{bA:=[1,10,11]},{bA:=[8,9]}),(16,{bA:=[1,10,11,15],sites:=[75]},{bA:=[8,9]}),(20,{bA:=[1,10,15],sites:=[75]},{bA:=[8,9]}),(24,{bA:=[1,10,15,18],sites:=[75]},{bA:=[8,9]}),(29,{bA:=[15],sites:=[75]},{bA:=[8,9]})],jl:=qU [(6,ao.L0.E),(16,ao.L1.E),(20,ao.L2.E),(24,ao.L3.E),(29,ao.L4.E)],res:=[some (.slice iF),none],MP:=qU [(24,ao.sq.J),(29,ao.sr.J)]}
theorem ao.L0.run:ao.L0.RS:=rL [.d (.slice cF),.d ti,.d ti,.d mm,.d (.slice cF),.d (.slice cF),.d ti] ao.L0
theorem ao.L0.step{R:Type}(gd fB fN kD first rest i)(kn:K2 R)(kx:K3 R):ao.R 0 ao.L0 (gd,fB,fN,kD,first,rest,i) kn kx=
  aN ((iX i (gd.length:Int))) (
   aN (gw i (gd.length:Int)) (
   aB (dW.call ((nth cF gd (Int.toNat i)),fN)) λM3=>
   aN ((!M3)) (
    kn (ao.L0.st (gd,fB,fN,kD,first,rest,(bQ .i64 i 1)))) (
    aB (dx.call [(nth cF gd (Int.toNat i))]) λUp=>
    aN ((iX (nth cF gd (Int.toNat i)).2.1.1 Up)) (
     kn (ao.L0.st (gd,fB,fN,kD,first,rest,(bQ .i64 i 1)))) (
     aB (fg.call ((nth cF gd (Int.toNat i)),kD,fN)) λOC=>
     aN (OC) (
      aB (ck.call (first,(nth cF gd (Int.toNat i)),true)) λAK=>
      kn (ao.L0.st (gd,fB,fN,kD,AK,rest,(bQ .i64 i 1)))) (
      aB (ck.call (rest,(nth cF gd (Int.toNat i)),false)) λTo=>
      kn (ao.L0.st (gd,fB,fN,kD,first,To,(bQ .i64 i 1))))))) none) (
   ao.L0.go kx (fB,(first,rest))):=by kernel_rfl
theorem ao.L1.run:ao.L1.RS:=rL [.d ti,.d (.slice cF),.d (.slice cF),.n,.d ti,.d (.slice iF)] ao.L1
theorem ao.L1.step{R:Type}(iO nG uZ fR qS Ka)(kn:K2 R)(kx:K3 R):ao.R 1 ao.L1 (iO,nG,uZ,fR,qS,Ka) kn kx=
  aN ((iX qS (nG.length:Int))) (
   aN (inc (bQ .i64 qS 1) (nG.length:Int)) (
   aN (inc qS (((Int.toNat (bQ .i64 qS 1)):Nat):Int)) (
   aB (cQ.call (cut nG (Int.toNat qS) ((Int.toNat (bQ .i64 qS 1)) - (Int.toNat qS)))) λx4=>
   aN (decide (fR<=(List.length Ka))) (
   aN (dX (fR+1) 48) (
   kn (ao.L1.st (iO,nG,uZ,(fR+1),(bQ .i64 qS 1),((List.take fR Ka)++ [x4])))) none) none) none) none) (
   ao.L1.go kx ((iO,nG,uZ),(fR,Ka))):=by kernel_rfl
theorem ao.L2.run:ao.L2.RS:=rL [.d ti,.d (.slice cF),.d (.slice cF),.n,.d ti,.d (.slice iF)] ao.L2
theorem ao.L2.step{R:Type}(hJ rB pW rp xR zU)(kn:K2 R)(kx:K3 R):ao.R 2 ao.L2 (hJ,rB,pW,rp,xR,zU) kn kx=
  aN ((iX xR (pW.length:Int))) (
   aN (inc (mh (bQ .i64 xR 8) (pW.length:Int)) (pW.length:Int)) (
   aN (inc xR (((Int.toNat (mh (bQ .i64 xR 8) (pW.length:Int))):Nat):Int)) (
   aB (cQ.call (cut pW (Int.toNat xR) ((Int.toNat (mh (bQ .i64 xR 8) (pW.length:Int))) - (Int.toNat xR)))) λx4=>
   aN (decide (rp<=(List.length zU))) (
   aN (dX (rp+1) 48) (
   kn (ao.L2.st (hJ,rB,pW,(rp+1),(bQ .i64 xR 8),((List.take rp zU)++ [x4])))) none) none) none) none) (
   ao.L2.go kx ((hJ,rB),(rp,zU))):=by kernel_rfl
theorem ao.L3.run:ao.L3.RS:=rL [.d ti,.d (.slice cF),.n,.d ti,.d (.slice iF)] ao.L3
theorem ao.L3.step{R:Type}(jf vB um n zV)(kn:K2 R)(kx:K3 R):ao.R 3 ao.L3 (jf,vB,um,n,zV) kn kx=
  aB (
   aN ((iX n ((um:Nat):Int))) (
    aN (gw n ((um:Nat):Int)) (
    aN (decide ((0+(Int.toNat n)) < (List.length zV))) (
    aN (decide ((((0+(Int.toNat n))*4)+1)=((0+((Int.toNat n)*4))+1))) (
    ao.sq.fin (jf,vB,um,n,(zt (nth iF zV (0+(Int.toNat n))).2.1 jf),zV)) none) none) none) (
    ao.sq.fin (jf,vB,um,n,false,zV))) λx2=>
  aN (x2.2.2.2.2.1) (
   aN (gw x2.2.2.2.1 ((x2.2.2.1:Nat):Int)) (
   aN (decide ((0+(Int.toNat x2.2.2.2.1)) < (List.length x2.2.2.2.2.2))) (
   aN (decide ((((0+(Int.toNat x2.2.2.2.1))*4)+1)=((0+((Int.toNat x2.2.2.2.1)*4))+1))) (
   kn (ao.L3.st ((dC .i64 x2.1 (nth iF x2.2.2.2.2.2 (0+(Int.toNat x2.2.2.2.1))).2.1),x2.2.1,x2.2.2.1,(bQ .i64 x2.2.2.2.1 1),x2.2.2.2.2.2))) none) none) none) (
   ao.L3.go kx (x2.1,x2.2.1,x2.2.2.1,x2.2.2.2.1,x2.2.2.2.2.2)):=by kernel_rfl
theorem ao.L4.run:ao.L4.RS:=rL [.d ti,.d (.slice cF),.n,.d ti,.d (.slice iF)] ao.L4
theorem ao.L4.step{R:Type}(sE tt wM N7 Ek)(kn:K2 R)(kx:K3 R):ao.R 4 ao.L4 (sE,tt,wM,N7,Ek) kn kx=
  aB (
   aN ((iX N7 ((wM:Nat):Int))) (
    ao.sr.fin (sE,tt,wM,N7,(iX N7 (tt.length:Int)),Ek)) (
    ao.sr.fin (sE,tt,wM,N7,false,Ek))) λx2=>
  aN (x2.2.2.2.2.1) (
   aN (gw x2.2.2.2.1 ((x2.2.2.1:Nat):Int)) (
   aN (decide ((0+(Int.toNat x2.2.2.2.1)) < (List.length x2.2.2.2.2.2))) (
   aN (decide ((((0+(Int.toNat x2.2.2.2.1))*4)+0)=((0+((Int.toNat x2.2.2.2.1)*4))+0))) (
   aB (dh.call (nth iF x2.2.2.2.2.2 (0+(Int.toNat x2.2.2.2.1))).1) λIU=>
   aN (gw x2.2.2.2.1 ((x2.2.2.1:Nat):Int)) (
   aN (decide ((0+(Int.toNat x2.2.2.2.1)) < (List.length x2.2.2.2.2.2))) (
   aN (decide ((((0+(Int.toNat x2.2.2.2.1))*4)+1)=((0+((Int.toNat x2.2.2.2.1)*4))+1))) (
   aN (gw x2.2.2.2.1 ((x2.2.2.1:Nat):Int)) (
   aN (decide ((0+(Int.toNat x2.2.2.2.1)) < (List.length x2.2.2.2.2.2))) (
   aN (decide ((((0+(Int.toNat x2.2.2.2.1))*4)+1)=((0+((Int.toNat x2.2.2.2.1)*4))+1))) (
   aN (gw x2.2.2.2.1 ((x2.2.2.1:Nat):Int)) (
   aN (decide ((0+(Int.toNat x2.2.2.2.1)) < (List.length x2.2.2.2.2.2))) (
   aN (decide ((((0+(Int.toNat x2.2.2.2.1))*4)+2)=((0+((Int.toNat x2.2.2.2.1)*4))+2))) (
   aN (decide ((0+(Int.toNat x2.2.2.2.1)) < (List.length x2.2.2.2.2.2))) (
   kn (ao.L4.st ((dC .i64 x2.1 (mh x2.1 (dC .i64 IU (nth iF x2.2.2.2.2.2 (0+(Int.toNat x2.2.2.2.1))).2.1))),x2.2.1,x2.2.2.1,(bQ .i64 x2.2.2.2.1 1),(List.set x2.2.2.2.2.2 (0+(Int.toNat x2.2.2.2.1)) ((nth iF x2.2.2.2.2.2 (0+(Int.toNat x2.2.2.2.1))).1,((nth iF x2.2.2.2.2.2 (0+(Int.toNat x2.2.2.2.1))).2.1,((bQ .i64 (nth iF x2.2.2.2.2.2 (0+(Int.toNat x2.2.2.2.1))).2.1 (mh x2.1 (dC .i64 IU (nth iF x2.2.2.2.2.2 (0+(Int.toNat x2.2.2.2.1))).2.1))),(nth iF x2.2.2.2.2.2 (0+(Int.toNat x2.2.2.2.1))).2.2.2))))))) none) none) none) none) none) none) none) none) none) none) none) none) none) (
   ao.L4.go kx (x2.2.2.1,x2.2.2.2.2.2)):=by kernel_rfl
theorem ao.eq{R:Type}(l budget b height)(k:K1 R):ao.A (l,budget,b,height) k=
  aB (al.call (l,budget,b,height)) λx4=>
  aN ((!x4)) (
   k (ao.out (([]:List fZ),1))) (
   aB (ao.L0.call (l,budget,height,b,([]:List db),([]:List db),0)) λSO=>
   aB (ao.L1.call (SO.1,SO.2.1,SO.2.2,0,0,([]:List fZ))) λQB=>
   aB (ao.L2.call (QB.1.1,QB.1.2.1,QB.1.2.2,QB.2.1,0,QB.2.2)) λMh=>
   aB (ao.L3.call (Mh.1.1,Mh.1.2,Mh.2.1,0,Mh.2.2)) λIV=>
   aN (inc IV.2.2.2.1 ((IV.2.2.1:Nat):Int)) (
   aB (ao.L4.call (IV.1,IV.2.1,((Int.toNat IV.2.2.2.1) - 0),0,IV.2.2.2.2)) λMi=>
   aN (decide (0=0/\(0+Mi.1)<=(List.length Mi.2))) (
   k (ao.out ((cut Mi.2 0 Mi.1),0))) none) none):=by kernel_rfl
theorem ao.L0.ok:(ao.lP 0 ao.L0):=by
 refine(ao.mS 0 ao.L0) (λ(l,_,_,_,_,_,i)=>l.length - i.toNat) ?_
 rintro⟨l,bu,h,b,fs,rs,i⟩ ⟨hx,hf,hr,hh,hl,k,hk,rfl,fk,rk⟩
 have hl:l.length<=64:=hl
 have hk:k<=l.length:=hk
 have fk:fs.length<=k:=fk
 have rk:rs.length<=k:=rk
 by_cases gV:k < l.length
 ·left
  have n1:nth cF l k=l[k]:=dq (t:=cF) gV
  have hd:l.drop k=l[k]::l.drop (k+1):=ax gV
  obtain⟨hq,_,hu⟩:=hx _ (bH gV)
  generalize l[k]=x at n1 hd hq hu
  have e7:bQ .i64 (k:Int) 1=((k+1:Nat):Int):=N.py (by omega)
  have ca:=dW.run (d:=(x,h)) trivial
  have cw:=dx.run (d:=[x]) (by show 1<=1000000000;decide)
  have cp:=fg.run (d:=(x,b,h)) hh
  have c1:=ck.run (d:=(fs,x,true)) ⟨hq,hf,by show fs.length<=_;omega⟩
  have c2:=ck.run (d:=(rs,x,false)) ⟨hq,hr,by show rs.length<=_;omega⟩
  have ef:o5 b h x=(jU h x && iw b h x):=rfl
  have er:pg b h x=(jU h x && !iw b h x):=rfl
  have stay:jU h x=false->∀(R:Type) (kn:K2 R) (kx:K3 R),ao.R 0 ao.L0 (l,bu,h,b,fs,rs,(k:Int)) kn kx=kn (ao.L0.st (l,bu,h,b,fs,rs,((k+1:Nat):Int))):=by
   intro I0 R kn kx
   rw[ao.L0.step,aU (by omega),ag,bt (by omega) (by omega),ag]
   simp only[aa,n1,e7,ca,ae,bV,dW.F]
   unfold jU at I0
   cases a1:rq x h with
   |false=>rw[dm,ag]
   |true=>
    rw[a1,bW,Bool.not_eq_false']at I0
    rw[bM,ai,cw]
    simp only[ae,bV,dx.F]
    rw[aU (of_decide_eq_true I0),ag]
  cases I0:jU h x with
  |false=>
   refine⟨(l,bu,h,b,fs,rs,((k+1:Nat):Int)),⟨hx,hf,hr,hh,hl,k+1,gV,rfl,by omega,by omega⟩,by simp only[aa];omega,?_,λkn kx=>stay I0 _ kn kx⟩
   simp only[ao.L0.add,ao.L0.F,aa,hd]
   rw[jD (by rw[ef,I0];simp),jD (by rw[er,I0];simp)]
  |true=>
   obtain⟨a1,a2⟩:=G8 I0
   have step:∀(R:Type) (kn:K2 R) (kx:K3 R),ao.R 0 ao.L0 (l,bu,h,b,fs,rs,(k:Int)) kn kx=aN (iw b h x) (kn (ao.L0.st (l,bu,h,b,wa true x fs,rs,((k+1:Nat):Int)))) (kn (ao.L0.st (l,bu,h,b,fs,wa false x rs,((k+1:Nat):Int)))):=by
    intro R kn kx
    rw[ao.L0.step,aU (by omega),ag,bt (by omega) (by omega),ag]
    simp only[aa,n1,e7,ca,ae,bV,dW.F,a1,bM,ai,cw,bV,dx.F]
    rw[aW (by omega),ai,cp]
    simp only[ae,bV,fg.F,c1,c2,bV,ck.F]
   cases hp:iw b h x with
   |true=>
    refine⟨(l,bu,h,b,wa true x fs,rs,((k+1:Nat):Int)),⟨hx,λy hy=> ?_,hr,hh,hl,k+1,gV,rfl,by rw[(pt true x fs).length_eq,aG];omega,by omega⟩,by simp only[aa];omega,?_,λkn kx=>by rw[step,hp,ag]⟩
    ·rcases bY.1 ((pt true x fs).mem_iff.1 hy) with rfl | hy
     ·exact hq
     ·exact hf y hy
    ·simp only[ao.L0.add,ao.L0.F,aa,hd]
     rw[List.filter_cons_of_pos (by rw[ef,I0,hp];rfl),jD (by rw[er,I0,hp];decide)]
     rfl
   |false=>
    refine⟨(l,bu,h,b,fs,wa false x rs,((k+1:Nat):Int)),⟨hx,hf,λy hy=> ?_,hh,hl,k+1,gV,rfl,by omega,by rw[(pt false x rs).length_eq,aG];omega⟩,by simp only[aa];omega,?_,λkn kx=>by rw[step,hp,ai]⟩
    ·rcases bY.1 ((pt false x rs).mem_iff.1 hy) with rfl | hy
     ·exact hq
     ·exact hr y hy
    ·simp only[ao.L0.add,ao.L0.F,aa,hd]
     rw[jD (by rw[ef,I0,hp];decide),List.filter_cons_of_pos (by rw[er,I0,hp];rfl)]
     rfl
 ·right
  obtain rfl:k=l.length:=by omega
  intro R kn kx
  rw[ao.L0.step,aW (by omega),ai]
  simp only[ao.L0.add,ao.L0.F,aa,aY,List.filter_nil]
  rfl
theorem ao.L1.ok:(ao.lP 1 ao.L1):=by
 refine(ao.mS 1 ao.L1) (λ(_,fs,_,_,i,_)=>fs.length - i.toNat) ?_
 rintro⟨bu,fs,rs,m,i,all⟩ ⟨rfl,hl,k,hk,rfl,ha⟩
 have hl:fs.length<=1000:=hl
 have hk:k<=fs.length:=hk
 have ha:all.length<=k:=ha
 by_cases gV:k < fs.length
 ·left
  have hd:fs.drop k=fs[k]::fs.drop (k+1):=ax gV
  have ec:cut fs k (k+1 - k)=[fs[k]]:=by unfold cut;rw[hd,show k+1 - k=1 by omega];rfl
  refine⟨(bu,fs,rs,all.length+1,((k+1:Nat):Int),all++ [jj fs[k]]),⟨by simp,hl,k+1,by omega,rfl,by rw[av];show all.length+1<=_;omega⟩,by simp only[aa];omega,?_,λkn kx=> ?_⟩
  ·simp only[ao.L1.add,ao.L1.F,aa,hd,aG,bJ,bw,eh]
   rw[dJ,mu 1]
  ·rw[ao.L1.step,aU (by omega),ag,N.py (by omega),gO (by omega) (by omega),ag]
   simp only[aa]
   rw[gO (by omega) (by omega),ag,ec,cQ.run (d:=[fs[k]]) (by show 1<=_;decide)]
   simp only[ae,bV,cQ.F]
   rw[aX (az _),ag,fh (by omega) (by omega),ag,c9]
   rfl
 ·right
  obtain rfl:k=fs.length:=by omega
  intro R kn kx
  rw[ao.L1.step,aW (by omega),ai]
  simp only[ao.L1.add,ao.L1.F,aa,aY,aZ,cn,fE,cM]
theorem ao.L2.ok:(ao.lP 2 ao.L2):=by
 refine(ao.mS 2 ao.L2) (λ(_,_,rs,_,i,_)=>rs.length+8 - i.toNat) ?_
 rintro⟨bu,fs,l,m,i,all⟩ ⟨rfl,hl,k,rfl,hk,hn⟩
 have hl:l.length<=1000:=hl
 have hk:k<=l.length+8:=hk
 have hn:all.length<=1000+k:=hn
 by_cases h:k < l.length
 ·left
  have e2:bQ .i64 (k:Int) 8=((k+8:Nat):Int):=by rw[dL (by omega) (by omega)];omega
  obtain⟨m,hm,JH⟩:∃m:Nat,mh ((k+8:Nat):Int) (l.length:Int)=(m:Int)/\m=min (k+8) l.length:=⟨min (k+8) l.length,by unfold mh;split <;> omega,rfl⟩
  have ec:cut l k (m - k)=(l.drop k).take 8:=by
   unfold cut
   by_cases h8:k+8<=l.length
   ·rw[JH,show min (k+8) l.length - k=8 by omega]
   ·rw[JH,bg (by rw[cq];omega),bg (by rw[cq];omega)]
  have hd:=qp (l:=l.drop k) (by rw[cq];omega)
  rw[eN]at hd
  refine⟨(bu,fs,l,all.length+1,((k+8:Nat):Int),all++ [fe ((l.drop k).take 8)]),⟨by simp,hl,k+8,rfl,by omega,by show all.length+1<=_;omega⟩,by simp only[aa];omega,?_,λkn kx=> ?_⟩
  ·simp only[ao.L2.add,ao.L2.F,aa,hd,aG,bJ,bw,eh]
   rw[show all.length+1+(fF (l.drop (k+8))).length=all.length+((fF (l.drop (k+8))).length+1) by omega]
  ·rw[ao.L2.step,aU (by omega),ag]
   simp only[e2,hm,aa]
   rw[gO (by omega) (by omega),ag,gO (by omega) (by omega),ag,ec,cQ.run (d:=(l.drop k).take 8) (by show((l.drop k).take 8).length<=_;rw[bI];omega)]
   simp only[ae,bV,cQ.F]
   rw[aX (az _),ag,fh (by omega) (by omega),ag,c9]
 ·right
  have e0:l.drop k=[]:=fU (by omega)
  intro R kn kx
  rw[ao.L2.step,aW (by omega),ai]
  simp only[ao.L2.add,ao.L2.F,aa,e0,y6,aZ,cn,fE,cM]
theorem ao.L3.ok:(ao.lP 3 ao.L3):=by
 refine(ao.mS 3 ao.L3) (λ(_,_,_,n,all)=>all.length - n.toNat) ?_
 rintro⟨bu,fs,m,n,all⟩ ⟨rfl,hl,hb,hg,k,hk,rfl⟩
 have hl:all.length<=10000:=hl
 have hk:k<=all.length:=hk
 have hb:0<=bu/\bu<=1125899906842624:=hb
 by_cases gV:k < all.length
 ·have n1:nth iF all k=all[k]:=dq (t:=iF) gV
  have hd:all.drop k=all[k]::all.drop (k+1):=ax gV
  have JF:=hg _ (bH gV)
  have ib:gw (k:Int) (all.length:Int)=true:=bt (by omega) (by omega)
  by_cases hc:all[k].2.1 > bu
  ·right
   intro R kn kx
   rw[ao.L3.step,aU (by omega),ag]
   simp only[ib,ag,aa,aR,cn,aX gV,decide_true,n1]
   rw[fO (by omega),ao.sq.uI,ae,ai]
   simp only[bV,ao.L3.F,aa,hd,ja,if_pos hc,aZ]
   rw[show(k:Int)+((0:Nat):Int)=(k:Int) by omega]
  ·left
   refine⟨(bu - all[k].2.1,fs,all.length,((k+1:Nat):Int),all),⟨rfl,hl,⟨by omega,by omega⟩,hg,k+1,by omega,rfl⟩,by simp only[aa];omega,?_,λkn kx=> ?_⟩
   ·simp only[bV,ao.L3.F,aa,hd,ja,if_neg hc,aG]
    rw[show((k+1:Nat):Int)+((ja (bu - all[k].2.1) (all.drop (k+1))).2.length:Nat)=(k:Int)+(((ja (bu - all[k].2.1) (all.drop (k+1))).2.length+1:Nat):Int) by omega]
   ·rw[ao.L3.step,aU (by omega),ag]
    simp only[ib,ag,aa,aR,cn,aX gV,decide_true,n1]
    rw[hZ (by omega),ao.sq.uI,ae]
    simp only[ib,ag,aa,aR,cn,aX gV,decide_true,n1]
    rw[ee (by omega) (by omega),N.py (by omega)]
 ·right
  obtain rfl:k=all.length:=by omega
  intro R kn kx
  rw[ao.L3.step,aW (by omega),ai,ao.sq.uI,ae,ai]
  simp only[bV,ao.L3.F,aa,aY,ja,aZ]
  rw[show(all.length:Int)+((0:Nat):Int)=(all.length:Int) by omega]
theorem ao.L4.ok:(ao.lP 4 ao.L4):=by
 refine(ao.mS 4 ao.L4) (λ(_,fs,m,i,_)=>min m fs.length - i.toNat) ?_
 rintro⟨bu,fs,m,i,all⟩ ⟨hm,hl,hb,k,rfl,FP,Mz,hg⟩
 have hm:m<=all.length:=hm
 have hl:all.length<=10000:=hl
 have FP:k<=fs.length:=FP
 have Mz:fs.length<=10000:=Mz
 have hb:0<=bu/\bu<=1125899906842624:=hb
 by_cases gV:k < min m fs.length
 ·left
  have ek:k < all.length:=by omega
  have n1:nth iF all k=all[k]:=dq (t:=iF) ek
  have hd:all.drop k=all[k]::all.drop (k+1):=ax ek
  obtain⟨q,hq⟩:∃q,min m fs.length - k=q+1:=⟨min m fs.length - k - 1,by omega⟩
  have yx:min m fs.length - (k+1)=q:=by omega
  have RE:(all.take (min m fs.length)).drop k=all[k]::(all.take (min m fs.length)).drop (k+1):=by rw[ax (by rw[bI];omega),List.getElem_take]
  rw[RE]at hg
  obtain⟨JF,x,MK,Qg⟩:=hg _ aK
  obtain⟨g1,g2,g3⟩:=id JF
  have OQ:=yS JF hb
  have ib:gw (k:Int) (m:Int)=true:=bt (by omega) (by omega)
  have en:(nth cF all[k].1 0).2.1.1=x.2.1.1:=by rw[MK];rfl
  have em:ig bu all[k]=mh bu (x.2.1.1 - all[k].2.1):=by unfold ig;rw[en]
  rw[en]at g2 OQ
  have g2:(0:Int)<=all[k].2.1/\ @LE.le Int _ all[k].2.1 x.2.1.1/\ @LE.le Int _ x.2.1.1 1099511627776:=g2
  have cs:=dh.run (d:=all[k].1) ⟨by rw[MK];show 1<=1000;decide,λy hy=>by
   rw[MK]at hy
   rw[bO.1 hy]
   omega⟩
  have e9:dh.F all[k].1=x.2.1.1:=by
   unfold dh.F
   rw[MK]
   exact mo _
  have es:all.set k (qE all[k] (ig bu all[k]))=all.take k++qE all[k] (ig bu all[k])::all.drop (k+1):=List.set_eq_take_append_cons_drop▸if_pos ek
  have et:(all.set k (qE all[k] (ig bu all[k]))).take (k+1)=all.take k++ [qE all[k] (ig bu all[k])]:=by
   rw[es,iH,bI,dQ (by omega),bg (by rw[bI];omega),show k+1 - k=1 by omega]
   rfl
  have eD:(all.set k (qE all[k] (ig bu all[k]))).drop (k+1)=all.drop (k+1):=lf (by omega)
  refine⟨(bu - ig bu all[k],fs,m,((k+1:Nat):Int),all.set k (qE all[k] (ig bu all[k]))),⟨by rw[gW];exact hm,by rw[gW];exact hl,⟨by omega,by omega⟩,k+1,rfl,by show k+1<=fs.length;omega,Mz,λg PO=> ?_⟩,by simp only[aa];omega,?_,λkn kx=> ?_⟩
  ·have:((all.set k (qE all[k] (ig bu all[k]))).take (min m fs.length)).drop (k+1)=(all.take (min m fs.length)).drop (k+1):=by
    rw[List.take_set,lf (by omega)]
   rw[this]at PO
   exact hg g (aH _ PO)
  ·simp only[bV,ao.L4.F,aa,hq,yx,hd,ia,et,eD,bw,eh]
  ·rw[ao.L4.step,aU (by omega),ag,ao.sr.uI,ae]
   simp only[aU (show(k:Int) < (fs.length:Int) by omega),ib,ag,aa,aR,cn,aX ek,decide_true,n1]
   rw[cs]
   simp only[ae,bV,e9]
   rw[ee (x:=x.2.1.1) (by omega) (by omega),<-em,ee (by omega) (by omega),dL (x:=all[k].2.1) (by omega) (by omega),N.py (by omega)]
   have:qE all[k] (ig bu all[k])=(all[k].1,all[k].2.1,all[k].2.1+ig bu all[k],all[k].2.2.2):=by unfold qE;rw[Qg]
   rw[this]
 ·right
  intro R kn kx
  have e0:min m fs.length - k=0:=by omega
  by_cases Uz:k < m
  ·rw[ao.L4.step,aU (by omega),ag,ao.sr.uI,ae]
   simp only[aW (show ¬(k:Int) < (fs.length:Int) by omega),ai]
   simp only[bV,ao.L4.F,aa,e0,ia,cK]
  ·rw[ao.L4.step,aW (by omega),ai,ao.sr.uI,ae,ai]
   simp only[bV,ao.L4.F,aa,e0,ia,cK]
theorem ao.ok:ao.Ok:=by
 rintro⟨l,bu,b,h⟩ hx
 have hx:∀x∈l,AE x:=hx
 rw[ao.eq,al.run (d:=(l,bu,b,h)) trivial]
 simp only[ae,bV,al.F,bV,ao.F,pV]
 by_cases nm:jJ l bu b h=true
 ·obtain⟨hb,_,hh,hl,hn,ha⟩:=z7 nm
  have QQ:(dd l b h).length<=64:=by
   rw[(pL hx).1.length_eq]
   exact kP (fv _ _) hl
  have FQ:(gv l b h).length<=64:=by
   rw[(rT hx).1.length_eq]
   exact kP (fv _ _) hl
  have S8:=(pD _ (gv l b h) (az _)).1
  have HQ:(gT l b h).length=(dd l b h).length+(fF (gv l b h)).length:=by
   unfold gT
   rw[av,cg,cg]
  obtain⟨⟨c1,c2⟩,K,c3,c4⟩:=Fy (gT l b h) bu (λg hg=>vk hg) hb.1
  have c5:(ja bu (gT l b h)).2.length=K:=by rw[c4,bI];omega
  rw[if_pos nm,nm,bM,ai,ao.L0.run (d:=(l,bu,h,b,[],[],0)) ⟨hx,λx hx=>(by cases hx),λx hx=>(by cases hx),hh,hl,0,aP _,rfl,aP _,aP _⟩]
  simp only[ae,ao.L0.add,ao.L0.F,b5,aI,FY hx hn,H4 hx hn]
  rw[ao.L1.run (d:=(bu,dd l b h,gv l b h,0,0,[])) ⟨rfl,by show(dd l b h).length<=_;omega,0,aP _,rfl,aP _⟩]
  simp only[ae,ao.L1.add,ao.L1.F,b5,aI,aR,bh]
  rw[ao.L2.run (d:=(bu,dd l b h,gv l b h,(dd l b h).length,0,(dd l b h).map jj)) ⟨by rw[cg],by show(gv l b h).length<=_;omega,0,rfl,by omega,by omega⟩]
  simp only[ae,ao.L2.add,ao.L2.F,b5,aI]
  rw[<-HQ,show(dd l b h).map jj++(fF (gv l b h)).map fe=gT l b h from rfl,ao.L3.run (d:=(bu,dd l b h,(gT l b h).length,0,gT l b h)) ⟨rfl,by show(gT l b h).length<=_;omega,hb,λg hg=>vk hg,0,aP _,rfl⟩]
  simp only[ae,bV,ao.L3.F,b5,aI,mo,aa,Nat.sub_zero]
  have hM:∀g∈(gT l b h).take (min K (dd l b h).length),Pc g:=λg hg=>by
   have hg':g∈(dd l b h).map jj:=by
    unfold gT at hg
    rw[eB (by rw[cg];omega)]at hg
    exact List.mem_of_mem_take hg
   obtain⟨x,hm,rfl⟩:=c7.1 hg'
   obtain⟨k1,k2,_⟩:=uK hx hm
   exact⟨zY (ha x k1) k2,x,rfl,rfl⟩
  have e2:ia (min K (dd l b h).length) (ja bu (gT l b h)).1 (gT l b h)=ia (min K (dd l b h).length) (ja bu (gT l b h)).1 (gT l b h):=rfl
  rw[c5,gO (by omega) (by omega),ag,ao.L4.run (d:=((ja bu (gT l b h)).1,dd l b h,K,0,gT l b h)) ⟨c3,by show(gT l b h).length<=_;omega,⟨c1,by show(ja bu (gT l b h)).1<=_;omega⟩,0,rfl,aP _,by show(dd l b h).length<=_;omega,by rw[aI];exact hM⟩]
  simp only[ae,bV,ao.L4.F,b5,aI,eO,bh,Nat.sub_zero,aR]
  rw[aX ⟨trivial,by rw[tD];exact c3⟩,ag]
  have e3:cut (ia (min K (dd l b h).length) (ja bu (gT l b h)).1 (gT l b h)) 0 K=mL l bu b h:=by
   unfold cut mL
   rw[aI,uQ,c4]
   have hT:((gT l b h).take K).length=K:=by rw[bI];omega
   by_cases hKf:K<=(dd l b h).length
   ·rw[dQ hKf,vT _ _ _ (by omega),vT _ _ _ (by omega)]
   ·rw[Nat.min_eq_right (by omega)]
  rw[e3]
 ·rw[if_neg nm]
  have:jJ l bu b h=false:=by simpa using nm
  rw[this]
  rfl
theorem ao.run:ao.RS:=rE [.d (.slice cF),.d ti,.d mm,.d ti] ao
def ao.sg:=ao.gk ao.ok 5 ⟨.iY ao.L0.ok,⟨.iY ao.L1.ok,⟨.iY ao.L2.ok,⟨.iY ao.L3.ok,⟨.iY ao.L4.ok,trivial⟩⟩⟩⟩⟩
end Go.Ab
namespace Go.Ab
open Go.Proofs
abbrev ay.L0.D:=Lk×Lk×Int
def ay.L0.st:ay.L0.D->AS:=λ(pq,kD,i)=>⟨([.undef,.undef,.eS re pq,.eS re kD,.undef,.d ti i]++bm 73 []),[],(List.replicate 79 [])⟩
abbrev ay.L0.Y0:=Unit
abbrev ay.L0.X0:=Unit
def ay.L0.dY:ay.L0.X0->Exit×AS:=λx=>(.ret,⟨(bm 4 ([.d .bool false]++bm 74 [])),[],(List.replicate 79 [])⟩)
abbrev ay.L0.Y1:=Unit
abbrev ay.L0.X1:=Unit
def ay.L0.gN:ay.L0.X1->Exit×AS:=λx=>(.exit 0,⟨(bm 79 []),[],(List.replicate 79 [])⟩)
abbrev ay.L0.X:=(ay.L0.X0)⊕(ay.L0.X1)
abbrev ay.L0.Y:=(ay.L0.Y0)⊕(ay.L0.Y1)
def ay.L0.out:ay.L0.X->Out (Exit×AS):=λx=> .br x.isLeft (.get x.getLeft? λa=> .ok (ay.L0.dY a)) (.get x.getRight? λb=> .ok (ay.L0.gN b))
def ay.L0.add:ay.L0.D->ay.L0.Y->ay.L0.X:=λ(pq,kD,i) y=>match y with | .inl y=> .inl y | .inr z=> .inr (z)
abbrev ay.L1.D:=Lk×Lk×Int×Int×tl×tl
def ay.L1.st:ay.L1.D->AS:=λ(Mm,Cj,qS,kv,n6,n7)=>⟨([.undef,.undef,.eS re Mm,.eS re Cj,.undef,.d ti qS,.ptr (.new 6 0) 0 [] 0,.ptr (.new 7 0) 0 [] 0,.d ti kv]++bm 70 []),[],(cS 6 ([[.obj 0 false (.d mU n6)],[.obj 0 false (.d mU n7)]]++cS 71 []))⟩
abbrev ay.L1.Y0:=Unit
abbrev ay.L1.X0:=Unit
def ay.L1.dY:ay.L1.X0->Exit×AS:=λx=>(.ret,⟨(bm 4 ([.d .bool false]++bm 74 [])),[],(List.replicate 79 [])⟩)
abbrev ay.L1.Y1:=Unit
abbrev ay.L1.X1:=Lk×Lk×Int
def ay.L1.gN:ay.L1.X1->Exit×AS:=λx=>(.exit 2,⟨([.undef,.undef,.eS re x.1,.eS re x.2.1,.undef,.d ti x.2.2]++bm 73 []),[],(List.replicate 79 [])⟩)
abbrev ay.L1.X:=(ay.L1.X0)⊕(ay.L1.X1)
abbrev ay.L1.Y:=(ay.L1.Y0)⊕(ay.L1.Y1)
def ay.L1.out:ay.L1.X->Out (Exit×AS):=λx=> .br x.isLeft (.get x.getLeft? λa=> .ok (ay.L1.dY a)) (.get x.getRight? λb=> .ok (ay.L1.gN b))
def ay.L1.add:ay.L1.D->ay.L1.Y->ay.L1.X:=λ(Mm,Cj,qS,kv,n6,n7) y=>match y with | .inl y=> .inl y | .inr z=> .inr ((Mm,Cj,qS))
abbrev ay.D:=Lk×Lk
abbrev ay.Y:=Bool
def ay.L1.bf:ay.L1.D->Prop:=λ(a,b,i,j,x,z)=>x.1.length<=1000000000/\x.1.length=z.1.length/\∃k:Nat,k<=x.1.length/\j=k
def ay.L1.F:ay.L1.D->ay.L1.Y:=λ(a,b,i,j,x,z)=>if x.1.drop j.toNat=z.1.drop j.toNat then .inr () else .inl ()
def ay.L0.bf:ay.L0.D->Prop:=λ(a,b,i)=>Cc a/\a.1.length=b.1.length/\∃k:Nat,k<=a.1.length/\i=k
def ay.L0.F:ay.L0.D->ay.L0.Y:=λ(a,b,i)=>if a.1.drop i.toNat=b.1.drop i.toNat then .inr () else .inl ()
def ay.bf:ay.D->Prop:=λ(a,b)=>Cc a
def ay.F:ay.D->ay.Y:=λ(a,b)=>decide (a.1=b.1)
def ay.L0.E:=eR.iY ay.L0.st ay.L0.bf ay.L0.add ay.L0.F ay.L0.out
def ay.L0.call:ay.L0.D->Option ay.L0.X:=kE ay.L0.E ay.L0.st
def ay.L1.E:=eR.iY ay.L1.st ay.L1.bf ay.L1.add ay.L1.F ay.L1.out
def ay.L1.call:ay.L1.D->Option ay.L1.X:=kE ay.L1.E ay.L1.st
def ay:Fs Tryz.prog ay.bf bV ay.F:=gf 170 Tryz.f170 (λ(a,b)=>([.d re a,.d re b],[])) (λx=>⟨.d .bool x,[],[]⟩) [some re,some re] [] {loops:=qu [(4,{bA:=[2,3,5]}),(11,{bA:=[2,3,5,6,7,8],sites:=[6,7]})],outs:=qt [(4,{},{bA:=[4]}),(11,{bA:=[2,3,5]},{bA:=[4]})],jl:=qU [(4,ay.L0.E),(11,ay.L1.E)]}
def ay.L0.R:= @iN Tryz.prog (mR ay.G) ay.an 0 Tryz.f170 0 _ ay.L0.st
abbrev ay.L0.Ok:=oS Tryz.prog (mR ay.G) ay.an 0 Tryz.f170 0 ay.L0.st ay.L0.bf ay.L0.add ay.L0.F ay.L0.out
def ay.L1.R:= @iN Tryz.prog (mR ay.G) ay.an 0 Tryz.f170 1 _ ay.L1.st
abbrev ay.L1.Ok:=oS Tryz.prog (mR ay.G) ay.an 0 Tryz.f170 1 ay.L1.st ay.L1.bf ay.L1.add ay.L1.F ay.L1.out
theorem ay.L0.run:ng ay.L0.call ay.L0.bf ay.L0.add ay.L0.F:=ql (o8 [.d re,.d re,.d ti] λ_=>by kernel_rfl)
theorem ay.L0.da:qh @ay.L0.R ay.L0.st ay.L0.bf ay.L0.add ay.L0.F ay.L0.out ay.L0.Ok:=qH
theorem ay.L0.step{R:Type}(pq:Lk)(kD:Lk)(i:Int)(kn:AS->Option R)(kx:Exit->AS->Option R):ay.L0.R (pq,kD,i) kn kx=
  aN ((iX i (((List.length pq.1):Nat):Int))) (
   aN (gw i (((List.length pq.1):Nat):Int)) (
   aN (gw i (((List.length kD.1):Nat):Int)) (
   aN ((sx (((List.length (nth mU pq.1 (Int.toNat i)).1):Nat):Int) (((List.length (nth mU kD.1 (Int.toNat i)).1):Nat):Int))) (
    kx (ay.L0.dY ()).1 (ay.L0.dY ()).2) (
    aN ((sx (nth mU pq.1 (Int.toNat i)).2.1 (nth mU kD.1 (Int.toNat i)).2.1)) (
     kx (ay.L0.dY ()).1 (ay.L0.dY ()).2) (
     aN ((sx (nth mU pq.1 (Int.toNat i)).2.2.1 (nth mU kD.1 (Int.toNat i)).2.2.1)) (
      kx (ay.L0.dY ()).1 (ay.L0.dY ()).2) (
      aN ((sx (nth mU pq.1 (Int.toNat i)).2.2.2.1 (nth mU kD.1 (Int.toNat i)).2.2.2.1)) (
       kx (ay.L0.dY ()).1 (ay.L0.dY ()).2) (
       aB (ay.L1.call (pq,kD,i,(0:Int),(nth mU pq.1 (Int.toNat i)),(nth mU kD.1 (Int.toNat i)))) λx1=>
       aN (x1.isLeft) (
        aB (x1.getLeft?) λa2=>
        kx (ay.L0.dY ()).1 (ay.L0.dY ()).2) (
        aB (x1.getRight?) λb3=>
        kn (ay.L0.st (b3.1,b3.2.1,(bQ .i64 b3.2.2 (1:Int)))))))))) none) none) (
   kx (ay.L0.gN ()).1 (ay.L0.gN ()).2):=by kernel_rfl
theorem ay.L1.run:ng ay.L1.call ay.L1.bf ay.L1.add ay.L1.F:=ql (o8 [.d re,.d re,.d ti,.d ti,.d mU,.d mU] λ_=>by kernel_rfl)
theorem ay.L1.da:qh @ay.L1.R ay.L1.st ay.L1.bf ay.L1.add ay.L1.F ay.L1.out ay.L1.Ok:=qH
theorem ay.L1.step{R:Type}(Mm:Lk)(Cj:Lk)(qS:Int)(kv:Int)(n6:tl)(n7:tl)(kn:AS->Option R)(kx:Exit->AS->Option R):ay.L1.R (Mm,Cj,qS,kv,n6,n7) kn kx=
  aN ((iX kv (((List.length n6.1):Nat):Int))) (
   aN (gw kv (((List.length n6.1):Nat):Int)) (
   aN (gw kv (((List.length n7.1):Nat):Int)) (
   aN ((sx (nth tu n6.1 (Int.toNat kv)) (nth tu n7.1 (Int.toNat kv)))) (
    kx (ay.L1.dY ()).1 (ay.L1.dY ()).2) (
    kn (ay.L1.st (Mm,Cj,qS,(bQ .i64 kv (1:Int)),n6,n7)))) none) none) (
   kx (ay.L1.gN (Mm,Cj,qS)).1 (ay.L1.gN (Mm,Cj,qS)).2):=by kernel_rfl
theorem ay.eq{R:Type}(a b)(k:K1 R):ay.A (a,b) k=
  aN ((sx (a.1.length:Int) (b.1.length:Int))) (
   k (ay.out false)) (
   aB (ay.L0.call (a,b,0)) λx4=>
   aN (x4.isLeft) (
    aB (x4.getLeft?) λa5=>
    k (ay.out false)) (
    aB (x4.getRight?) λb6=>
    k (ay.out true))):=by kernel_rfl
theorem ay.L1.ok:ay.L1.Ok:=by
 refine ay.L1.da (λ(a,b,i,j,x,z)=>x.1.length - j.toNat) ?_
 rintro⟨a,b,i,j,x,z⟩ ⟨hl,HO,k,hk,rfl⟩
 have hl:x.1.length<=1000000000:=hl
 have HO:x.1.length=z.1.length:=HO
 have hk:k<=x.1.length:=hk
 by_cases h:k < x.1.length
 ·have h2:k < z.1.length:=by omega
  have n1:nth (.int .u64) x.1 k=x.1[k]:=dq (t:= .int .u64) h
  have n2:nth (.int .u64) z.1 k=z.1[k]:=dq (t:= .int .u64) h2
  have hd:(x.1.drop k=z.1.drop k)=(x.1[k]=z.1[k]/\x.1.drop (k+1)=z.1.drop (k+1)):=by rw[ax h,ax h2,du]
  by_cases hx:x.1[k]=z.1[k]
  ·left
   refine⟨(a,b,i,((k+1:Nat):Int),x,z),⟨hl,HO,k+1,by omega,rfl⟩,by simp only[aa];omega,?_,λkn kx=> ?_⟩
   ·simp only[ay.L1.add,ay.L1.F,aa,hd,hx,true_and]
   ·rw[ay.L1.step,aU (by omega),bt (by omega) (by omega),bt (by omega) (by omega),aa,n1,n2,cU hx,N.py (by omega)]
    rfl
  ·right
   refine⟨ay.L1.dY (),?_,λkn kx=> ?_⟩
   ·simp only[ay.L1.add,ay.L1.F,aa,hd,hx,false_and,if_false]
    rfl
   ·rw[ay.L1.step,aU (by omega),bt (by omega) (by omega),bt (by omega) (by omega),aa,n1,n2,fj hx]
    rfl
 ·right
  obtain rfl:k=x.1.length:=by omega
  refine⟨ay.L1.gN (a,b,i),?_,λkn kx=> ?_⟩
  ·simp only[ay.L1.add,ay.L1.F,aa,aY]
   rw[HO,aY,if_pos rfl]
   rfl
  ·rw[ay.L1.step,aW (by omega),ai]
theorem ay.L0.ok:ay.L0.Ok:=by
 refine ay.L0.da (λ(a,b,i)=>a.1.length - i.toNat) ?_
 rintro⟨a,b,i⟩ ⟨⟨hl,hs⟩,HO,k,hk,rfl⟩
 have hl:a.1.length<=1000000000:=hl
 have HO:a.1.length=b.1.length:=HO
 have hk:k<=a.1.length:=hk
 by_cases h:k < a.1.length
 ·have h2:k < b.1.length:=by omega
  have n1:nth (.pair (.slice (.int .u64)) (.pair (.int .i64) (.pair (.int .i64) (.pair (.int .u64) .unit)))) a.1 k=a.1[k]:=dq (t:=(.pair (.slice (.int .u64)) (.pair (.int .i64) (.pair (.int .i64) (.pair (.int .u64) .unit))))) h
  have n2:nth (.pair (.slice (.int .u64)) (.pair (.int .i64) (.pair (.int .i64) (.pair (.int .u64) .unit)))) b.1 k=b.1[k]:=dq (t:=(.pair (.slice (.int .u64)) (.pair (.int .i64) (.pair (.int .i64) (.pair (.int .u64) .unit))))) h2
  have hd:(a.1.drop k=b.1.drop k)=(a.1[k]=b.1[k]/\a.1.drop (k+1)=b.1.drop (k+1)):=by rw[ax h,ax h2,du]
  have QU:=hs _ (bH h)
  have step:∀ {R:Type} (kn:AS->Option R) (kx:Exit->AS->Option R),ay.L0.R (a,b,(k:Int)) kn kx=if a.1[k]=b.1[k] then kn (ay.L0.st (a,b,((k+1:Nat):Int))) else kx (ay.L0.dY ()).1 (ay.L0.dY ()).2:=by
   intro R kn kx
   rw[ay.L0.step,aU (by omega),bt (by omega) (by omega),bt (by omega) (by omega),aa,n1,n2]
   obtain⟨⟨k1,a1,d1,s1,u1⟩,e1⟩:∃x,a.1[k]=x:=⟨_,rfl⟩
   obtain⟨⟨k2,a2,d2,s2,u2⟩,e2⟩:∃x,b.1[k]=x:=⟨_,rfl⟩
   rw[e1]at QU ⊢
   rw[e2]
   have QU:k1.length<=1000000000:=QU
   simp only[ag]
   by_cases q1:k1.length=k2.length
   ·by_cases q2:a1=a2
    ·by_cases q3:d1=d2
     ·by_cases q4:s1=s2
      ·rw[cU (by omega),cU q2,cU q3,cU q4,ay.L1.run (d:=(a,b,(k:Int),0,(k1,a1,d1,s1,u1),(k2,a2,d2,s2,u2))) ⟨QU,q1,0,aP _,rfl⟩]
       simp only[ai,ae,ay.L1.add,ay.L1.F,b5,aI]
       by_cases q5:k1=k2
       ·rw[if_pos q5,if_pos (by rw[q5,q2,q3,q4])]
        simp only[kC,je,ai,ae]
        rw[N.py (by omega)]
       ·rw[if_neg q5,if_neg (by rintro⟨⟩;exact q5 rfl)]
        rfl
      ·rw[cU (by omega),cU q2,cU q3,fj q4,if_neg (by rintro⟨⟩;exact q4 rfl)];rfl
     ·rw[cU (by omega),cU q2,fj q3,if_neg (by rintro⟨⟩;exact q3 rfl)];rfl
    ·rw[cU (by omega),fj q2,if_neg (by rintro⟨⟩;exact q2 rfl)];rfl
   ·rw[fj (by omega),if_neg (by rintro⟨⟩;exact q1 rfl)];rfl
  by_cases hx:a.1[k]=b.1[k]
  ·left
   refine⟨(a,b,((k+1:Nat):Int)),⟨⟨hl,hs⟩,HO,k+1,by omega,rfl⟩,by simp only[aa];omega,?_,λkn kx=> ?_⟩
   ·simp only[ay.L0.add,ay.L0.F,aa,hd,hx,true_and]
   ·rw[step,if_pos hx]
  ·right
   refine⟨ay.L0.dY (),?_,λkn kx=> ?_⟩
   ·simp only[ay.L0.add,ay.L0.F,aa,hd,hx,false_and,if_false]
    rfl
   ·rw[step,if_neg hx]
 ·right
  obtain rfl:k=a.1.length:=by omega
  refine⟨ay.L0.gN (),?_,λkn kx=> ?_⟩
  ·simp only[ay.L0.add,ay.L0.F,aa,aY]
   rw[HO,aY,if_pos rfl]
   rfl
  ·rw[ay.L0.step,aW (by omega),ai]
theorem ay.ok:ay.Ok:=by
 rintro⟨a,b⟩ hl
 have hl:Cc a:=hl
 have QQ:=hl.1
 rw[ay.eq]
 simp only[bV,ay.F]
 by_cases h:a.1.length=b.1.length
 ·rw[cU (by omega),ai,ay.L0.run (d:=(a,b,0)) ⟨hl,h,0,aP _,rfl⟩]
  simp only[ae,ay.L0.add,ay.L0.F,b5,aI]
  by_cases hx:a.1=b.1
  ·rw[if_pos hx,aX hx];rfl
  ·rw[if_neg hx,cC hx];rfl
 ·rw[fj (by omega),cC (λx=>h (by rw[x]))];rfl
theorem ay.run:ay.RS:=rE [.d re,.d re] ay
def ay.sg:=ay.gk ay.ok 2 ⟨.iY ay.L0.ok,⟨.iY ay.L1.ok,trivial⟩⟩
abbrev aO.L0.D:=(List db)×(List db)×Int
def aO.L0.st:aO.L0.D->AS:=λ(pq,kD,i)=>⟨([.d (.slice cF) pq,.d (.slice cF) kD,.undef,.undef,.undef,.d ti i]++bm 73 []),[],(List.replicate 79 [])⟩
abbrev aO.L0.Y0:=Unit
abbrev aO.L0.X0:=Unit
def aO.L0.dY:aO.L0.X0->Exit×AS:=λx=>(.ret,⟨(bm 4 ([.d .bool false]++bm 74 [])),[],(List.replicate 79 [])⟩)
abbrev aO.L0.Y1:=Unit
abbrev aO.L0.X1:=Unit
def aO.L0.gN:aO.L0.X1->Exit×AS:=λx=>(.exit 0,⟨(bm 79 []),[],(List.replicate 79 [])⟩)
abbrev aO.L0.X:=(aO.L0.X0)⊕(aO.L0.X1)
abbrev aO.L0.Y:=(aO.L0.Y0)⊕(aO.L0.Y1)
def aO.L0.out:aO.L0.X->Out (Exit×AS):=λx=> .br x.isLeft (.get x.getLeft? λa=> .ok (aO.L0.dY a)) (.get x.getRight? λb=> .ok (aO.L0.gN b))
def aO.L0.add:aO.L0.D->aO.L0.Y->aO.L0.X:=λ(pq,kD,i) y=>match y with | .inl y=> .inl y | .inr z=> .inr (z)
abbrev aO.D:=(List db)×(List db)
abbrev aO.Y:=Bool
def aO.L0.bf:aO.L0.D->Prop:=λ(a,b,i)=>a=b/\a.length<=1000000/\(∀x∈a,KR x.2.1.2.1)/\∃k:Nat,k<=a.length/\i=k
def aO.L0.F:aO.L0.D->aO.L0.Y:=λ_=> .inr ()
def aO.bf:aO.D->Prop:=λ(a,b)=>a=b/\a.length<=1000000/\∀x∈a,KR x.2.1.2.1
def aO.F:aO.D->aO.Y:=λ_=>true
def aO.L0.E:=eR.iY aO.L0.st aO.L0.bf aO.L0.add aO.L0.F aO.L0.out
def aO.L0.call:aO.L0.D->Option aO.L0.X:=kE aO.L0.E aO.L0.st
def aO:Fs Tryz.prog aO.bf bV aO.F:=gf 113 Tryz.f113 (λ(a,b)=>([.d (.slice cF) a,.d (.slice cF) b],[])) (λx=>⟨.d .bool x,[],[]⟩) [some (.slice cF),some (.slice cF)] [ay.sg] {loops:=qu [(4,{bA:=[0,1,5]})],outs:=qt [(4,{},{bA:=[4]})],jl:=qU [(4,aO.L0.E)]}
def aO.L0.R:= @iN Tryz.prog (mR aO.G) aO.an 0 Tryz.f113 0 _ aO.L0.st
abbrev aO.L0.Ok:=oS Tryz.prog (mR aO.G) aO.an 0 Tryz.f113 0 aO.L0.st aO.L0.bf aO.L0.add aO.L0.F aO.L0.out
theorem aO.L0.run:ng aO.L0.call aO.L0.bf aO.L0.add aO.L0.F:=ql (o8 [.d (.slice cF),.d (.slice cF),.d ti] λ_=>by kernel_rfl)
theorem aO.L0.da:qh @aO.L0.R aO.L0.st aO.L0.bf aO.L0.add aO.L0.F aO.L0.out aO.L0.Ok:=qH
theorem aO.L0.step{R:Type}(pq:(List db))(kD:(List db))(i:Int)(kn:AS->Option R)(kx:Exit->AS->Option R):aO.L0.R (pq,kD,i) kn kx=
  aN ((iX i (((List.length pq):Nat):Int))) (
   aN (gw i (((List.length pq):Nat):Int)) (
   aN (gw i (((List.length kD):Nat):Int)) (
   aN ((!(Ty.beq gz (nth cF pq (Int.toNat i)).1 (nth cF kD (Int.toNat i)).1))) (
    kx (aO.L0.dY ()).1 (aO.L0.dY ()).2) (
    aN ((sx (nth cF pq (Int.toNat i)).2.1.1 (nth cF kD (Int.toNat i)).2.1.1)) (
     kx (aO.L0.dY ()).1 (aO.L0.dY ()).2) (
     aB (ay.call ((nth cF pq (Int.toNat i)).2.1.2.1,(nth cF kD (Int.toNat i)).2.1.2.1)) λx1=>
     aN ((!x1)) (
      kx (aO.L0.dY ()).1 (aO.L0.dY ()).2) (
      aN ((sx (nth cF pq (Int.toNat i)).2.2.1 (nth cF kD (Int.toNat i)).2.2.1)) (
       kx (aO.L0.dY ()).1 (aO.L0.dY ()).2) (
       aN ((sx (nth cF pq (Int.toNat i)).2.2.2.1 (nth cF kD (Int.toNat i)).2.2.2.1)) (
        kx (aO.L0.dY ()).1 (aO.L0.dY ()).2) (
        aN ((sx (nth cF pq (Int.toNat i)).2.2.2.2.1 (nth cF kD (Int.toNat i)).2.2.2.2.1)) (
         kx (aO.L0.dY ()).1 (aO.L0.dY ()).2) (
         aN ((sx (nth cF pq (Int.toNat i)).2.2.2.2.2.1 (nth cF kD (Int.toNat i)).2.2.2.2.2.1)) (
          kx (aO.L0.dY ()).1 (aO.L0.dY ()).2) (
          kn (aO.L0.st (pq,kD,(bQ .i64 i (1:Int)))))))))))) none) none) (
   kx (aO.L0.gN ()).1 (aO.L0.gN ()).2):=by kernel_rfl
theorem aO.eq{R:Type}(a b)(k:K1 R):aO.A (a,b) k=
  aN ((sx (a.length:Int) (b.length:Int))) (
   k (aO.out false)) (
   aB (aO.L0.call (a,b,0)) λx2=>
   aN (x2.isLeft) (
    aB (x2.getLeft?) λa3=>
    k (aO.out false)) (
    aB (x2.getRight?) λb4=>
    k (aO.out true))):=by kernel_rfl
theorem H8{l:Lk}(h:KR l):Cc l:=⟨by have:=h.1;omega,λb hb=>by have:=h.2 b hb;omega⟩
theorem aO.L0.ok:aO.L0.Ok:=by
 refine aO.L0.da (λ(a,_,i)=>a.length - i.toNat) ?_
 rintro⟨a,b,i⟩ ⟨rfl,hl,hx,k,hk,rfl⟩
 have hl:a.length<=1000000:=hl
 have hk:k<=a.length:=hk
 by_cases h:k < a.length
 ·left
  have n1:nth cF a k=a[k]:=dq (t:=cF) h
  have hb:=hx _ (bH h)
  generalize a[k]=x at n1 hb
  have cs:=ay.run (d:=(x.2.1.2.1,x.2.1.2.1)) (H8 hb)
  have eb:Ty.beq gz x.1 x.1=true:=beq_refl gz x.1 rfl
  refine⟨(a,a,((k+1:Nat):Int)),⟨rfl,hl,hx,k+1,h,rfl⟩,by simp only[aa];omega,rfl,λkn kx=> ?_⟩
  rw[aO.L0.step,aU (by omega),ag]
  simp only[bt (show(0:Int)<=(k:Int) by omega) (show(k:Int) < (a.length:Int) by omega),ag,aa,n1,eb,bM,ai]
  rw[cU rfl,ai,cs]
  simp only[ae,bV,ay.F]
  rw[aX trivial,bM,ai,cU rfl,ai,cU rfl,ai,cU rfl,ai,cU rfl,ai,N.py (by omega)]
 ·right
  obtain rfl:k=a.length:=by omega
  refine⟨aO.L0.gN (),rfl,λkn kx=> ?_⟩
  rw[aO.L0.step,aW (by omega),ai]
theorem aO.ok:aO.Ok:=by
 rintro⟨a,b⟩ ⟨rfl,hl,hx⟩
 rw[aO.eq,cU rfl,ai,aO.L0.run (d:=(a,a,0)) ⟨rfl,hl,hx,0,aP _,rfl⟩]
 rfl
theorem aO.run:aO.RS:=rE [.d (.slice cF),.d (.slice cF)] aO
def aO.sg:=aO.gk aO.ok 1 ⟨.iY aO.L0.ok,trivial⟩
abbrev eX.D:=fZ×fZ
abbrev eX.Y:=Bool
def eX.bf:eX.D->Prop:=λ(a,b)=>a=b/\a.1.length<=1000000/\∀x∈a.1,KR x.2.1.2.1
def eX.F:eX.D->eX.Y:=λ_=>true
def eX:Fs Tryz.prog eX.bf bV eX.F:=gf 48 Tryz.f48 (λ(a,b)=>([.d iF a,.d iF b],[])) (λx=>⟨.d .bool x,[],[]⟩) [some iF,some iF] [aO.sg]
theorem eX.eq{R:Type}(a b)(k:K1 R):eX.A (a,b) k=
  aN ((xS a.2.1 b.2.1)) (
   aN ((xS a.2.2.1 b.2.2.1)) (
    aN ((xS a.2.2.2.1 b.2.2.2.1)) (
     aB (aO.call (a.1,b.1)) λx1=>
     k (eX.out x1)) (
     k (eX.out false))) (
    k (eX.out false))) (
   k (eX.out false)):=by kernel_rfl
theorem eX.ok:eX.Ok:=by
 rintro⟨a,b⟩ ⟨rfl,hl,hx⟩
 rw[eX.eq,gq rfl,ag,gq rfl,ag,gq rfl,ag,aO.run (d:=(a.1,a.1)) ⟨rfl,hl,hx⟩]
 rfl
theorem eX.run:eX.RS:=rE [.d iF,.d iF] eX
def eX.sg:=eX.gk eX.ok
abbrev aT.L0.D:=Bool×(List fZ)×(List fZ)×Int
def aT.L0.st:aT.L0.D->AS:=λ(head,g,h,i)=>⟨(bm 9 ([.d .bool head,.d (.slice iF) g,.undef,.d (.slice iF) h,.undef,.d ti i]++bm 55 [])),[],(List.replicate 70 [])⟩
abbrev aT.L0.Y0:=Unit
abbrev aT.L0.X0:=Unit
def aT.L0.dY:aT.L0.X0->Exit×AS:=λx=>(.ret,⟨(bm 8 ([.d .bool false]++bm 61 [])),[],(List.replicate 70 [])⟩)
abbrev aT.L0.Y1:=Unit
abbrev aT.L0.X1:=Bool
def aT.L0.gN:aT.L0.X1->Exit×AS:=λx=>(.exit 0,⟨(bm 9 ([.d .bool x]++bm 60 [])),[],(List.replicate 70 [])⟩)
abbrev aT.L0.X:=(aT.L0.X0)⊕(aT.L0.X1)
abbrev aT.L0.Y:=(aT.L0.Y0)⊕(aT.L0.Y1)
def aT.L0.out:aT.L0.X->Out (Exit×AS):=λx=> .br x.isLeft (.get x.getLeft? λa=> .ok (aT.L0.dY a)) (.get x.getRight? λb=> .ok (aT.L0.gN b))
def aT.L0.add:aT.L0.D->aT.L0.Y->aT.L0.X:=λ(head,g,h,i) y=>match y with | .inl y=> .inl y | .inr z=> .inr (head)
abbrev aT.D:=(List db)×Int×oR×Int
abbrev aT.Y:=Bool
def aT.L0.bf:aT.L0.D->Prop:=λ(_,g,h,i)=>g=h/\g.length<=1000/\(∀a∈g,a.1.length<=1000000/\∀x∈a.1,KR x.2.1.2.1)/\∃k:Nat,k<=g.length/\i=k
def aT.L0.F:aT.L0.D->aT.L0.Y:=λ_=> .inr ()
def aT.bf:aT.D->Prop:=λ(l,_,_,_)=>∀x∈l,QE x
def aT.F:aT.D->aT.Y:=λ_=>true
def aT.L0.E:=eR.iY aT.L0.st aT.L0.bf aT.L0.add aT.L0.F aT.L0.out
def aT.L0.call:aT.L0.D->Option aT.L0.X:=kE aT.L0.E aT.L0.st
def aT:Fs Tryz.prog aT.bf bV aT.F:=gf 9 Tryz.f9 (λ(l,budget,b,height)=>([.d (.slice cF) l,.d ti budget,.d mm b,.d ti height],[])) (λx=>⟨.d .bool x,[],[]⟩) [some (.slice cF),some ti,some mm,some ti] [fi.sg,bU.sg,aF.sg,ao.sg,bP.sg,dx.sg,eX.sg] {loops:=qu [(9,{bA:=[9,10,12,14]})],outs:=qt [(9,{bA:=[9]},{bA:=[8]})],jl:=qU [(9,aT.L0.E)]}
def aT.L0.R:= @iN Tryz.prog (mR aT.G) aT.an 0 Tryz.f9 0 _ aT.L0.st
abbrev aT.L0.Ok:=oS Tryz.prog (mR aT.G) aT.an 0 Tryz.f9 0 aT.L0.st aT.L0.bf aT.L0.add aT.L0.F aT.L0.out
theorem aT.L0.run:ng aT.L0.call aT.L0.bf aT.L0.add aT.L0.F:=ql (o8 [.d .bool,.d (.slice iF),.d (.slice iF),.d ti] λ_=>by kernel_rfl)
theorem aT.L0.da:qh @aT.L0.R aT.L0.st aT.L0.bf aT.L0.add aT.L0.F aT.L0.out aT.L0.Ok:=qH
theorem aT.L0.step{R:Type}(head:Bool)(g:(List fZ))(h:(List fZ))(i:Int)(kn:AS->Option R)(kx:Exit->AS->Option R):aT.L0.R (head,g,h,i) kn kx=
  aN ((iX i (((List.length g):Nat):Int))) (
   aN (gw i (((List.length g):Nat):Int)) (
   aN (gw i (((List.length h):Nat):Int)) (
   aB (eX.call ((nth iF g (Int.toNat i)),(nth iF h (Int.toNat i)))) λx4=>
   aN ((!x4)) (
    kx (aT.L0.dY ()).1 (aT.L0.dY ()).2) (
    kn (aT.L0.st (head,g,h,(bQ .i64 i (1:Int)))))) none) none) (
   kx (aT.L0.gN head).1 (aT.L0.gN head).2):=by kernel_rfl
theorem aT.eq{R:Type}(l budget b height)(k:K1 R):aT.A (l,budget,b,height) k=
  aB (fi.call ()) λx4=>
  aB (bU.call l) λx8=>
  aN ((!x8)) (
   k (aT.out x4)) (
   aB (aF.call (l,budget,b,height)) λKN=>
   aB (ao.call (l,budget,b,height)) λKO=>
   aN ((sx KN.2 KO.2)) (
    k (aT.out false)) (
    aN ((sx (KN.1.length:Int) (KO.1.length:Int))) (
     k (aT.out false)) (
     aB (bP.call l) λKP=>
     aB (dx.call l) λOC=>
     aN ((sx KP OC)) (
      k (aT.out false)) (
      aB (aT.L0.call (x4,KN.1,KO.1,0)) λQ4=>
      aN (Q4.isLeft) (
       aB (Q4.getLeft?) λa33=>
       k (aT.out false)) (
       aB (Q4.getRight?) λb34=>
       k (aT.out b34)))))):=by kernel_rfl
theorem aT.L0.ok:aT.L0.Ok:=by
 refine aT.L0.da (λ(_,g,_,i)=>g.length - i.toNat) ?_
 rintro⟨hd,g,g',i⟩ ⟨rfl,hl,hx,k,hk,rfl⟩
 have hl:g.length<=1000:=hl
 have hk:k<=g.length:=hk
 by_cases h:k < g.length
 ·left
  have n1:nth iF g k=g[k]:=dq (t:=iF) h
  have hb:=hx _ (bH h)
  generalize g[k]=a at n1 hb
  have cs:=eX.run (d:=(a,a)) ⟨rfl,hb⟩
  refine⟨(hd,g,g,((k+1:Nat):Int)),⟨rfl,hl,hx,k+1,h,rfl⟩,by simp only[aa];omega,rfl,λkn kx=> ?_⟩
  rw[aT.L0.step,aU (by omega),ag]
  simp only[bt (show(0:Int)<=(k:Int) by omega) (show(k:Int) < (g.length:Int) by omega),ag,aa,n1,cs,ae,bV,eX.F,bM,ai]
  rw[N.py (by omega)]
 ·right
  obtain rfl:k=g.length:=by omega
  refine⟨aT.L0.gN hd,rfl,λkn kx=> ?_⟩
  rw[aT.L0.step,aW (by omega),ai]
theorem aT.ok:aT.Ok:=by
 rintro⟨l,bu,b,h⟩ hr
 have hr:∀x∈l,QE x:=hr
 rw[aT.eq,fi.run (d:=()) trivial]
 simp only[ae,bV,fi.F,bV,aT.F]
 rw[bU.run (d:=l) trivial]
 simp only[ae,bV,bU.F]
 cases hf:HJ l with
 |false=>rfl
 |true=>
 have hx:=Ni hr hf
 have hl:=(Jz hf).1
 rw[bM,ai,aF.run (d:=(l,bu,b,h)) hx]
 simp only[ae,bV,aF.F]
 rw[ao.run (d:=(l,bu,b,h)) hx]
 simp only[ae,bV,ao.F]
 rw[cU rfl,ai,cU rfl,ai,bP.run (d:=l) (by show l.length<=_;omega),dx.run (d:=l) (by show l.length<=_;omega)]
 simp only[ae,bV,bP.F,bV,dx.F]
 rw[cU rfl,ai]
 have hg:(pV l bu b h).1.length<=1000/\∀a∈(pV l bu b h).1,a.1.length<=1000000/\∀x∈a.1,KR x.2.1.2.1:=by
  unfold pV
  by_cases nm:jJ l bu b h=true
  ·rw[if_pos nm]
   refine⟨It hx (z7 nm).2.2.2.1,λa ha=> ?_⟩
   obtain⟨⟨_,g2⟩,_,_,_,g6,_⟩:=(Gi hx nm).1 a ha
   exact⟨by omega,λx hm=>(hx x (g6 x hm).1).2.1⟩
  ·rw[if_neg nm]
   exact⟨aP _,λa ha=>(by cases ha)⟩
 rw[aT.L0.run (d:=(true,(pV l bu b h).1,(pV l bu b h).1,0)) ⟨rfl,hg.1,hg.2,0,aP _,rfl⟩]
 rfl
theorem aT.run:aT.RS:=rE [.d (.slice cF),.d ti,.d mm,.d ti] aT
def aT.sg:=aT.gk aT.ok 1 ⟨.iY aT.L0.ok,trivial⟩
end Go.Ab
end
