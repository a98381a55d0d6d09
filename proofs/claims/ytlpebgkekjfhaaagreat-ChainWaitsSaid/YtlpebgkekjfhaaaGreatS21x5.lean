/-
  Made short by a program of mine (wip/tools/mini.py).
-/
import Derived.Test.YtlpebgkekjfhaaaGreatS21x4
import Derived.Shelf.SlSortCmp.NoneTotal
import Derived.Test.YtlpebgkekjfhaaaGreatProg
set_option linter.unusedVariables false
set_option linter.unusedSimpArgs false
set_option maxRecDepth 100000
set_option synthInstance.maxSize 5000
noncomputable section
namespace Go.Ab
open Go.Proofs
def RC(x:Bs)(t:eZ):Bs:=x++lW t
def RB(x:Bs)(o:cd):Bs:=eh (x++o.1) o.2.1
def XE(b:eN):Bs:=b.2.2.2.2.1.foldl RB (eh (eh (b.2.2.1.foldl RC (eh (eh [] b.1++b.2.1) b.2.2.1.length)) b.2.2.2.1) b.2.2.2.2.1.length)
def HH(b:eN):Bs:=tag (cD (⟨#[98,108,111,99,107]⟩:ByteArray)) [XE b]
theorem Jy:∀(l:List eZ) (x:Bs),(l.foldl RC x).length=x.length+32*l.length
 |[],x=>rfl
 |t::l,x=>by rw[bT,Jy l,RC,ae,wX.1,aB];omega
theorem ED:∀(l:List cd) (x:Bs),(∀o∈l,Oi o)->(l.foldl RB x).length<=x.length+43*l.length
 |[],x,_=>aw _
 |o::l,x,h=>by
  have h1:=ED l (RB x o) λy hy=>h y (aF _ hy)
  have h2:=fE (x++o.1) o.2.1
  have h3:=(h o (aH ..)).1
  rw[ae]at h2
  rw[bT,aB]
  unfold RB at h1 ⊢
  omega
abbrev dF.L0.D:=eN×Bs×(List eZ)×Int×Int×Bs
abbrev dF.L0.Y:=Bs
abbrev dF.L0.X:=(eN×Bs)×(Bs)
def dF.L0.add:dF.L0.D->dF.L0.Y->dF.L0.X:=λ(rK,x,t19,t20,t21,n2) y=>((rK,n2),y)
abbrev dF.L1.D:=Bs×(List cd)×Int×Int×Bs
abbrev dF.L1.Y:=Bs
abbrev dF.L1.X:=(Bs)×(Bs)
def dF.L1.add:dF.L1.D->dF.L1.Y->dF.L1.X:=λ(S7,t39,t40,t41,lz) y=>(lz,y)
abbrev dF.D:=eN
abbrev dF.Y:=Bs
def dF.L0.aM:dF.L0.D->Prop:=λ(b,x,l,n,i,z)=>(l).length<=1000000000/\∃k:Nat,k<=(l).length/\i=k/\n=(l).length/\(l.length<=1000)/\(∀t∈l,rJ t)/\(x.length<=1000+32*k)
def dF.L0.F:dF.L0.D->dF.L0.Y:=λ(b,x,l,n,i,z)=>(List.drop (Int.toNat i) l).foldl RC x
def dF.L1.aM:dF.L1.D->Prop:=λ(x,l,n,i,z)=>(l).length<=1000000000/\∃k:Nat,k<=(l).length/\i=k/\n=(l).length/\(l.length<=1000)/\(∀o∈l,Oi o)/\(x.length<=100000+43*k)
def dF.L1.F:dF.L1.D->dF.L1.Y:=λ(x,l,n,i,z)=>(List.drop (Int.toNat i) l).foldl RB x
def dF.aM:dF.D->Prop:=λb=>I7 b
def dF.F:dF.D->dF.Y:=λb=>HH b
def dF.L0:Ls dF.L0.aM dF.L0.add dF.L0.F:=rX (λ(rK,x,t19,t20,t21,n2)=>⟨([.undef,.eD fh rK,.ptr (.new 2 0) 0 [] 0,.d tB x]++aT 15 ([.d (.slice gU) t19,.d ti t20,.d ti t21]++aT 34 [])),[],([[],[],[.obj 0 false (.d tH n2)]]++ct 53 [])⟩) (λx=>(.exit 0,⟨([.undef,.eD fh x.1.1,.ptr (.new 2 0) 0 [] 0,.d tB x.2]++aT 52 []),[],([[],[],[.obj 0 false (.d tH x.1.2)]]++ct 53 [])⟩))
def dF.L1:Ls dF.L1.aM dF.L1.add dF.L1.F:=rX (λ(S7,t39,t40,t41,lz)=>⟨([.undef,.undef,.ptr (.new 2 0) 0 [] 0,.d tB S7]++aT 35 ([.d (.slice b8) t39,.d ti t40,.d ti t41]++aT 14 [])),[],([[],[],[.obj 0 false (.d tH lz)]]++ct 53 [])⟩) (λx=>(.exit 2,⟨([.undef,.undef,.ptr (.new 2 0) 0 [] 0,.d tB x.2]++aT 52 []),[],([[],[],[.obj 0 false (.d tH x.1)]]++ct 53 [])⟩))
def dF:Fs Tryz.prog dF.aM bP dF.F:=gC 59 Tryz.f59 (λb=>([.d fh b],[])) (λx=>⟨.d tH x,[],[]⟩) [some fh] [fO.sg,jd.sg,tid.sg,fm.sg] {loops:=pz [(3,{bo:=[1,2,3,19,20,21],sites:=[2]}),(9,{bo:=[2,3,39,40,41],sites:=[2]})],outs:=py [(3,{bo:=[1,2,3],sites:=[2]},{bo:=[2]}),(9,{bo:=[2,3],sites:=[2]},{bo:=[2]})],iX:=lkn [(3,dF.L0.E),(9,dF.L1.E)]}
theorem dF.L0.run:dF.L0.RS:=rL [.d fh,.d tB,.d (.slice gU),.d ti,.d ti,.d tB] dF.L0
theorem dF.L0.step{R:Type}(rK x t19 t20 t21 n2)(kn:K2 R)(kx:K3 R):dF.R 0 dF.L0 (rK,x,t19,t20,t21,n2) kn kx=
  aP ((jx t21 t20)) (
   aP (jn t21 (t19.length:Int)) (
   ah (tid.call (nth gU t19 (Int.toNat t21))) λx1=>
   ah (jd.call (x,x1)) λx2=>
   kn (dF.L0.st (rK,x2,t19,t20,(cG .i64 t21 1),n2))) none) (
   dF.L0.go kx ((rK,n2),x)):=by kernel_rfl
theorem dF.L1.run:dF.L1.RS:=rL [.d tB,.d (.slice b8),.d ti,.d ti,.d tB] dF.L1
theorem dF.L1.step{R:Type}(S7 t39 t40 t41 lz)(kn:K2 R)(kx:K3 R):dF.R 1 dF.L1 (S7,t39,t40,t41,lz) kn kx=
  aP ((jx t41 t40)) (
   aP (jn t41 (t39.length:Int)) (
   ah (jd.call (S7,(nth b8 t39 (Int.toNat t41)).1)) λx1=>
   ah (fO.call (x1,(nth b8 t39 (Int.toNat t41)).2.1)) λx2=>
   kn (dF.L1.st (x2,t39,t40,(cG .i64 t41 1),lz))) none) (
   dF.L1.go kx (lz,S7)):=by kernel_rfl
theorem dF.eq{R:Type}(b)(k:K1 R):dF.A b k=
 ah (fO.call (([]:List Int),b.1)) λx1=>
 ah (jd.call (x1,b.2.1)) λx2=>
 ah (fO.call (x2,(b.2.2.1.length:Int))) λx3=>
 ah (dF.L0.call (b,x3,b.2.2.1,(b.2.2.1.length:Int),0,(List.replicate 32 0))) λx6=>
 ah (fO.call (x6.2,x6.1.1.2.2.2.1)) λx7=>
 ah (fO.call (x7,(x6.1.1.2.2.2.2.1.length:Int))) λx8=>
 ah (dF.L1.call (x8,x6.1.1.2.2.2.2.1,(x6.1.1.2.2.2.2.1.length:Int),0,x6.1.2)) λAo=>
 ah (fm.call ((⟨#[98,108,111,99,107]⟩:ByteArray),[Ao.2])) λHu=>
 k (dF.out Hu):=by kernel_rfl
theorem dF.L0.ok:(dF.mL 0 dF.L0):=by
 refine(dF.oH 0 dF.L0) (λ(b,x,l,n,i,z)=>(l).length - Int.toNat i) ?_
 rintro⟨b,x,l,n,i,z⟩ ⟨hlen,k,hk,rfl,rfl,h3,hx,hb⟩
 have hlen:(l).length<=1000000000:=hlen
 have hk:k<=(l).length:=hk
 have h3:l.length<=1000:=h3
 have hx:∀t∈l,rJ t:=hx
 have hb:x.length<=1000+32*k:=hb
 by_cases h:k < (l).length
 ·left
  have n1:nth gU l k=l[k]:=dz (t:=gU) h
  have hd:List.drop k l=l[k]::List.drop (k+1) l:=ax h
  refine⟨(b,(RC x l[k]),l,((l).length:Int),((k+1:Nat):Int),z),⟨hlen,k+1,by omega,rfl,rfl,h3,hx,by unfold RC;rw[ae,wX.1];omega⟩,by simp only[aa];omega,?_,λkn kx=> ?_⟩
  ·simp only[dF.L0.add,dF.L0.F,aa,hd,bT]
  ·rw[dF.L0.step,bg (by omega),bG (by omega) (by omega),aa,n1]
   simp only[ag]
   rw[tid.run (d:=l[k]) (hx _ (aL h))]
   simp only[ab,bP,tid.F]
   rw[jd.run (d:=(x,lW l[k])) ⟨by show x.length+(lW l[k]).length<=_;rw[wX.1];omega,wX.1⟩]
   simp only[ab,bP,jd.F]
   rw[N.p9 (by omega)]
   rfl
 ·right
  obtain rfl:k=(l).length:=by omega
  intro R kn kx
  rw[dF.L0.step,aX (by omega),al]
  simp only[dF.L0.add,dF.L0.F,aa,aZ,dR]
theorem dF.L1.ok:(dF.mL 1 dF.L1):=by
 refine(dF.oH 1 dF.L1) (λ(x,l,n,i,z)=>(l).length - Int.toNat i) ?_
 rintro⟨x,l,n,i,z⟩ ⟨hlen,k,hk,rfl,rfl,h3,hx,hb⟩
 have hlen:(l).length<=1000000000:=hlen
 have hk:k<=(l).length:=hk
 have h3:l.length<=1000:=h3
 have hx:∀o∈l,Oi o:=hx
 have hb:x.length<=100000+43*k:=hb
 by_cases h:k < (l).length
 ·left
  have n1:nth b8 l k=l[k]:=dz (t:=b8) h
  have hd:List.drop k l=l[k]::List.drop (k+1) l:=ax h
  refine⟨((RB x l[k]),l,((l).length:Int),((k+1:Nat):Int),z),⟨hlen,k+1,by omega,rfl,rfl,h3,hx,by have:=ED [l[k]] x (λo ho=>by rw[bI]at ho;subst ho;exact hx _ (aL h));simp only[bT,dR,aB,bn]at this;omega⟩,by simp only[aa];omega,?_,λkn kx=> ?_⟩
  ·simp only[dF.L1.add,dF.L1.F,aa,hd,bT]
  ·rw[dF.L1.step,bg (by omega),bG (by omega) (by omega),aa,n1]
   simp only[ag]
   obtain⟨e1,e2⟩:=hx _ (aL h)
   rw[jd.run (d:=(x,l[k].1)) ⟨by show x.length+l[k].1.length<=_;rw[e1];omega,e1⟩]
   simp only[ab,bP,jd.F]
   rw[fO.run (d:=(x++l[k].1,l[k].2.1)) ⟨by show(x++l[k].1).length<=_;rw[ae,e1];omega,e2⟩]
   simp only[ab,bP,fO.F]
   rw[N.p9 (by omega)]
   rfl
 ·right
  obtain rfl:k=(l).length:=by omega
  intro R kn kx
  rw[dF.L1.step,aX (by omega),al]
  simp only[dF.L1.add,dF.L1.F,aa,aZ,dR]
theorem dF.ok:dF.Ok:=by
 rintro b ⟨⟨h1,h2⟩,⟨h3,h4,h5⟩,h6,h7⟩
 have z1:((0:Int)).toNat=0:=rfl
 have p1:=fE [] b.1
 have p2:=fE (eh [] b.1++b.2.1) b.2.2.1.length
 rw[ae,h4]at p2
 have l0:([]:Bs).length=0:=rfl
 rw[l0]at p1
 have q1:=Jy b.2.2.1 (eh (eh [] b.1++b.2.1) b.2.2.1.length)
 obtain⟨x3,e3⟩:∃x,eh (eh [] b.1++b.2.1) b.2.2.1.length=x:=⟨_,rfl⟩
 rw[e3]at p2 q1
 obtain⟨x6,e6⟩:∃x,b.2.2.1.foldl RC x3=x:=⟨_,rfl⟩
 rw[e6]at q1
 have p7:=fE x6 b.2.2.2.1
 have p8:=fE (eh x6 b.2.2.2.1) b.2.2.2.2.1.length
 obtain⟨x8,e8⟩:∃x,eh (eh x6 b.2.2.2.1) b.2.2.2.2.1.length=x:=⟨_,rfl⟩
 have q2:=ED b.2.2.2.2.1 x8 h7
 rw[e8]at p8
 rw[dF.eq,fO.run (d:=(([]:List Int),b.1)) ⟨by show(0:Nat)<=_;omega,h3⟩]
 simp only[ab,bP,fO.F]
 rw[jd.run (d:=(eh [] b.1,b.2.1)) ⟨by show(eh [] b.1).length+b.2.1.length<=_;rw[h4];omega,h4⟩]
 simp only[ab,bP,jd.F]
 rw[fO.run (d:=(eh [] b.1++b.2.1,(b.2.2.1.length:Int))) ⟨by show(eh [] b.1++b.2.1).length<=_;rw[ae,h4];omega,by show(b.2.2.1.length:Int)<=_;omega⟩]
 simp only[ab,bP,fO.F]
 rw[e3,dF.L0.run (d:=(b,x3,b.2.2.1,(b.2.2.1.length:Int),0,List.replicate 32 0)) ⟨by show b.2.2.1.length<=_;omega,0,aK _,rfl,rfl,h1,h2,by omega⟩]
 simp only[ab,dF.L0.add,dF.L0.F,z1,aJ]
 rw[e6,fO.run (d:=(x6,b.2.2.2.1)) ⟨by show x6.length<=_;omega,h5⟩]
 simp only[ab,bP,fO.F]
 rw[fO.run (d:=(eh x6 b.2.2.2.1,(b.2.2.2.2.1.length:Int))) ⟨by show(eh x6 b.2.2.2.1).length<=_;omega,by show(b.2.2.2.2.1.length:Int)<=_;omega⟩]
 simp only[ab,bP,fO.F]
 rw[e8,dF.L1.run (d:=(x8,b.2.2.2.2.1,(b.2.2.2.2.1.length:Int),0,List.replicate 32 0)) ⟨by show b.2.2.2.2.1.length<=_;omega,0,aK _,rfl,rfl,h6,h7,by omega⟩]
 simp only[ab,dF.L1.add,dF.L1.F,z1,aJ]
 rw[fm.run (d:=((⟨#[98,108,111,99,107]⟩:ByteArray),[b.2.2.2.2.1.foldl RB x8])) (Hd (by decide) (by omega))]
 simp only[ab,bP,dF.F,HH,XE,e3,e6,e8]
 rfl
theorem dF.run:dF.RS:=rE [.d fh] dF
def dF.sg:=dF.gG dF.ok 2 ⟨.iR dF.L0.ok,⟨.iR dF.L1.ok,trivial⟩⟩
abbrev oN.L0.D:=Int×(List eZ)×Int×Int
abbrev oN.L0.Y:=Int
abbrev oN.D:=eN
abbrev oN.Y:=Int
theorem D4:∀(l:List kC) (n:Int),(∀x∈l,x.2.1.2.1.length<=12)->n<=l.foldl qo n/\l.foldl qo n<=n+110*l.length
 |[],n,_=>by simp
 |x::l,n,h=>by
  have h1:=D4 l (qo n x) λy hy=>h y (aF _ hy)
  have h2:=h x (aH ..)
  have h3:n<=qo n x/\qo n x<=n+110:=by unfold qo;split <;> omega
  rw[bT,aB]
  omega
theorem y6(t:eZ):0<=tN t/\tN t<=8000:=by
 unfold tN
 split
 ·rename_i jU
  obtain⟨⟨_,a2,a3,_⟩,b1,b2⟩:=kk jU
  have:=D4 t.1 (10+8*t.2.1.length) λx hx=>(tp (mg _ _ b1 x hx)).2.2.2.2
  omega
 ·omega
def NY(n:Int)(t:eZ):Int:=n+tN t
def SB(b:eN):Int:=b.2.2.1.foldl NY b.2.2.2.1
def oN.L0.aM:oN.L0.D->Prop:=λ(n,l,m,i)=>(l).length<=1000000000/\∃k:Nat,k<=(l).length/\i=k/\m=(l).length/\(l.length<=1000)/\(∀t∈l,rJ t)/\(0<=n)/\(n<=1000000+8000*(k:Int))
def oN.L0.F:oN.L0.D->oN.L0.Y:=λ(n,l,m,i)=>(List.drop (Int.toNat i) l).foldl NY n
def oN.aM:oN.D->Prop:=λb=>I7 b/\0<=b.2.2.2.1/\b.2.2.2.1<=1000000
def oN.F:oN.D->oN.Y:=λb=>SB b
def oN.L0:Ls oN.L0.aM bP oN.L0.F:=rX (λ(n,t9,t10,t11)=>⟨([.undef,.undef,.undef,.d ti n]++aT 5 ([.d (.slice gU) t9,.d ti t10,.d ti t11]++aT 9 [])),[],(List.replicate 21 [])⟩) (λx=>(.exit 0,⟨([.undef,.undef,.undef,.d ti x]++aT 17 []),[],(List.replicate 21 [])⟩))
def oN:Fs Tryz.prog oN.aM bP oN.F:=gC 251 Tryz.f251 (λb=>([.d fh b],[])) (λx=>⟨.d ti x,[],[]⟩) [some fh] [cZ.sg] {loops:=pz [(3,{bo:=[3,9,10,11]})],outs:=py [(3,{bo:=[3]},{bo:=[2]})],iX:=lkn [(3,oN.L0.E)]}
theorem oN.L0.run:oN.L0.RS:=rL [.d ti,.d (.slice gU),.d ti,.d ti] oN.L0
theorem oN.L0.step{R:Type}(n t9 t10 t11)(kn:K2 R)(kx:K3 R):oN.R 0 oN.L0 (n,t9,t10,t11) kn kx=
  aP ((jx t11 t10)) (
   aP (jn t11 (t9.length:Int)) (
   ah (cZ.call (nth gU t9 (Int.toNat t11))) λx1=>
   kn (oN.L0.st ((cG .i64 n x1),t9,t10,(cG .i64 t11 1)))) none) (
   oN.L0.go kx n):=by kernel_rfl
theorem oN.eq{R:Type}(b)(k:K1 R):oN.A b k=
 ah (oN.L0.call (b.2.2.2.1,b.2.2.1,(b.2.2.1.length:Int),0)) λx2=>
 k (oN.out x2):=by kernel_rfl
theorem oN.L0.ok:(oN.mL 0 oN.L0):=by
 refine(oN.oH 0 oN.L0) (λ(n,l,m,i)=>(l).length - Int.toNat i) ?_
 rintro⟨n,l,m,i⟩ ⟨hlen,k,hk,rfl,rfl,h3,hx,h0,h1⟩
 have hlen:(l).length<=1000000000:=hlen
 have hk:k<=(l).length:=hk
 have h3:l.length<=1000:=h3
 have hx:∀t∈l,rJ t:=hx
 have h0:0<=n:=h0
 have h1:n<=1000000+8000*(k:Int):=h1
 by_cases h:k < (l).length
 ·left
  have n1:nth gU l k=l[k]:=dz (t:=gU) h
  have hd:List.drop k l=l[k]::List.drop (k+1) l:=ax h
  refine⟨((NY n l[k]),l,((l).length:Int),((k+1:Nat):Int)),⟨hlen,k+1,by omega,rfl,rfl,h3,hx,by have:=y6 l[k];unfold NY;omega,by have:=y6 l[k];unfold NY;omega⟩,by simp only[aa];omega,?_,λkn kx=> ?_⟩
  ·simp only[bP,oN.L0.F,aa,hd,bT]
  ·rw[oN.L0.step,bg (by omega),bG (by omega) (by omega),aa,n1]
   simp only[ag]
   have e:=y6 l[k]
   rw[cZ.run (d:=l[k]) (hx _ (aL h))]
   simp only[ab,bP,cZ.F]
   rw[fX (x:=n) (by omega) (by omega),N.p9 (by omega)]
   rfl
 ·right
  obtain rfl:k=(l).length:=by omega
  intro R kn kx
  rw[oN.L0.step,aX (by omega),al]
  simp only[bP,oN.L0.F,aa,aZ,dR]
theorem oN.ok:oN.Ok:=by
 rintro b ⟨⟨⟨h1,h2⟩,_⟩,h3,h4⟩
 have z1:((0:Int)).toNat=0:=rfl
 rw[oN.eq,oN.L0.run (d:=(b.2.2.2.1,b.2.2.1,(b.2.2.1.length:Int),0)) ⟨by show b.2.2.1.length<=_;omega,0,aK _,rfl,rfl,h1,h2,h3,by show b.2.2.2.1<=_;omega⟩]
 simp only[ab,bP,oN.L0.F,z1,aJ,bP,oN.F,SB]
theorem oN.run:oN.RS:=rE [.d fh] oN
def oN.sg:=oN.gG oN.ok 1 ⟨.iR oN.L0.ok,trivial⟩
abbrev il.D:=Int×Int
abbrev il.Y:=Bool
def uD(h f:Int):Bool:=decide (1<=h/\h<=1048576/\0<=f/\f<=4000)
def il.aM:il.D->Prop:=λ_=>True
def il.F:il.D->il.Y:=λ(h,f)=>uD h f
def il:Fs Tryz.prog il.aM bP il.F:=gC 250 Tryz.f250 (λ(height,fill)=>([.d ti height,.d ti fill],[])) (λx=>⟨.d .bool x,[],[]⟩) [some ti,some ti]
theorem il.eq{R:Type}(height fill)(k:K1 R):il.A (height,fill) k=
  aP ((tY height 1)) (
   aP ((Jz height 1048576)) (
    aP ((tY fill 0)) (
     k (il.out (Jz fill 4000))) (
     k (il.out false))) (
    k (il.out false))) (
   k (il.out false)):=by kernel_rfl
theorem il.ok:il.Ok:=by
 rintro⟨h,f⟩ _
 rw[il.eq]
 simp only[bP,il.F,uD]
 by_cases a1:1<=h
 ·rw[jg a1,ag]
  by_cases a2:h<=1048576
  ·rw[ri a2,ag]
   by_cases a3:0<=f
   ·rw[jg a3,ag]
    by_cases a4:f<=4000
    ·rw[ri a4,decide_eq_true ⟨a1,a2,a3,a4⟩]
    ·rw[nP (by omega),decide_eq_false (by omega)]
   ·rw[fI (by omega),al,decide_eq_false (by omega)]
  ·rw[nP (by omega),al,decide_eq_false (by omega)]
 ·rw[fI (by omega),al,decide_eq_false (by omega)]
theorem il.run:il.RS:=rE [.d ti,.d ti] il
def il.sg:=il.gG il.ok
end Go.Ab
namespace Go.Ab
open Go.Sort (grow)
structure Sr(P:Program)(t:Ty)(g:FuncId)(Q:t.den->Prop)(cf:t.den->t.den->Int):Prop where
 bZ:∃en,nX P g en/\∀x y,Q x->Q y->∃X,en.run [.d t x,.d t y] []=some X/\en.out [.d t x,.d t y] [] X=⟨.d (.int .i64) (cf x y),[],[]⟩
 enters:∀args w,(callFunc g args).run P w= .ok (.enter g args) w
 irrefl:∀x,Q x->¬cf x x < 0
 trans:∀x y z,Q x->Q y->Q z->cf x y < 0->cf y z < 0->cf x z < 0
 ntrans:∀x y z,Q x->Q y->Q z->¬cf x y < 0->¬cf y z < 0->¬cf x z < 0
theorem OM{w w':World}(P5:w'.os=w.os)(WN:w'.tape=w.tape)(Ey:w'.output=w.output/\w.drawn<=w'.drawn)(ou:w.heap.size<=w'.heap.size)(hb:∀b:Nat,b < w.heap.size->w'.heap[b]? =w.heap[b]?):
  ∃q os,w'=grow (w.drewN q) os:=by
 obtain⟨h1,t1,d1,o1,p1⟩:=w
 obtain⟨h2,t2,d2,o2,p2⟩:=w'
 simp only at*
 obtain⟨Ey,hd⟩:=Ey
 subst P5 WN Ey
 obtain⟨q,rfl⟩:∃q,d2=d1+q:=⟨d2 - d1,by omega⟩
 refine⟨q,h2.extract h1.size h2.size,?_⟩
 have hh:h2=h1++h2.extract h1.size h2.size:=by
  apply nq
  intro i
  rw[jR]
  by_cases hi:i < h1.size
  ·rw[if_pos hi,hb i hi]
  ·rw[if_neg hi,Array.getElem?_extract]
   by_cases h3:i < h2.size
   ·rw[if_pos (by omega)]
    congr 1;omega
   ·rw[if_neg (by omega),Array.getElem?_eq_none (by omega)]
 show({heap:=h2,tape:=_,drawn:=_,os:=_,output:=_}:World)= {heap:=h1++h2.extract h1.size h2.size,tape:=_,drawn:=_,os:=_,output:=_}
 rw[<-hh]
 rfl
section
variable {P:Program} {t:Ty} {g:FuncId} {Q:t.den->Prop} {cf:t.den->t.den->Int}
theorem Sr.Tp(h:Sr P t g Q cf)(ha:t.agg=true){W:World}{cx cy:List Value}{x y:t.den}(hx:dm ((gl []).env W (λ_=> .free) (λ_=>none)) t cx x)
  (hy:dm ((gl []).env W (λ_=> .free) (λ_=>none)) t cy y) (qx:Q x) (qy:Q y):
  Calls P g #[.agg cx.toArray,.agg cy.toArray] W λe w'=>e= .returned (.int .i64 (cf x y))/\∃q os,w'=grow (W.drewN q) os:=by
 obtain⟨en,hd,mF⟩:=h.bZ
 obtain⟨X,hX1,hX2⟩:=mF x y qx qy
 have one:∀ {c:List Value} {z:t.den},dm ((gl []).env W (λ_=> .free) (λ_=>none)) t c z->VS ((gl []).env W (λ_=> .free) (λ_=>none)) (.d t z) (.agg c.toArray):=λhz=>
  ⟨_,by simpa only[V]using hz,by show fV t.agg _ _;rw[ha];rfl⟩
 have ho:jc ((gl []).env W (λ_=> .free) (λ_=>none)):=λid ver fr c h=>by
  exfalso
  cases id with
  |aV k=>simp[AS.env,AS.bZ,gl]at h
  |new i j=>simp[AS.env,AS.bZ,gl]at h
 rcases hd W (λ_=> .free) (λ_=>none) [.d t x,.d t y] [] [.agg cx.toArray,.agg cy.toArray] X ⟨one hx,one hy,trivial⟩ ho hX1 with⟨_,hc⟩ | ⟨v,w',hc,_⟩
 ·refine hc.mono λe w' he=> ?_
  obtain⟨v,rfl,g',β',hv,_,ht,_⟩:=he
  rw[hX2]at hv
  obtain⟨cs,k1,k2⟩:=hv
  have k1:cs=[.int .i64 (cf x y)]:=k1
  subst k1
  have k2: [Value.int .i64 (cf x y)]=[v]:=k2
  have hv:v= .int .i64 (cf x y):=by simpa using k2.symm
  exact⟨by rw[hv],OM ht.os ht.tape ht.output ht.size λb hb=>(ht.yt b hb).2⟩
 ·rw[h.enters]at hc;cases hc
def LX(cf:t.den->t.den->Int)(l l':List t.den):Prop:=l'.Perm l/\l'.Pairwise λx y=>¬cf y x < 0
open Classical in
def zV(cf:t.den->t.den->Int)(l:List t.den):List t.den:=if h:∃l',LX cf l l' then h.choose else l
theorem NM(h:Sr P t g Q cf){l:List t.den}(hQ:∀x∈l,Q x):LX cf l (zV cf l):=by
 have hx:∃l',LX cf l l':=by
  let le: {x // Q x}-> {x // Q x}->Bool:=λx y=> !decide (cf y.1 x.1 < 0)
  refine⟨((l.attachWith Q hQ).mergeSort le).map (·.1),?_,?_⟩
  ·have h1:=(List.mergeSort_perm (l.attachWith Q hQ) le).map (·.1)
   rwa[List.attachWith_map_subtype_val]at h1
  ·have h2:=List.pairwise_mergeSort (le:=le) (λa b c h1 h2=>by
    simp only[le,cC,decide_eq_false_iff_not]at*
    exact h.ntrans _ _ _ c.2 b.2 a.2 h2 h1) (λa b=>by
    simp only[le,ix,cC,decide_eq_false_iff_not]
    by_cases h1:cf b.1 a.1 < 0
    ·exact .inr λh2=>h.irrefl _ a.2 (h.trans _ _ _ a.2 b.2 a.2 h2 h1)
    ·exact .inl h1) (l.attachWith Q hQ)
   rw[List.pairwise_map]
   exact h2.imp λ {a b} h3=>by simpa[le]using h3
 unfold zV
 rw[dif_pos hx]
 exact hx.choose_spec
theorem IV(h:Sr P t g Q cf){l l':List t.den}(hQ:∀x∈l,Q x)(hT:∀x∈l,∀y∈l,¬cf x y < 0->¬cf y x < 0->x=y)(hs:LX cf l l'):l'=zV cf l:=by
 have h2:=NM h hQ
 exact List.Perm.eq_of_pairwise (λa b ha hb h3 h4=>hT a (hs.1.mem_iff.1 ha) b (h2.1.mem_iff.1 hb) h4 h3) hs.2 h2.2 (hs.1.trans h2.1.symm)
def yf(g:FuncId)(e:TypeId)(t:Ty):Nat×List t.den->List av×List dS:=λd=>([.aS (.aV 0) 0 [] 0 0 d.1,.fn g .nil],[.obj 0 false (.vec e t d.2)])
def E2(Q:t.den->Prop)(cf:t.den->t.den->Int):Nat×List t.den->Prop:=λd=>d.1=d.2.length/\d.2.length < 4611686018427387904/\(∀x∈d.2,Q x)/\∀x∈d.2,∀y∈d.2,¬cf x y < 0->¬cf y x < 0->x=y
def R8(e:TypeId)(t:Ty):Nat×List t.den->gV:=λx=>⟨.nil,[.obj 0 false (.vec e t x.2)],[]⟩
def Pv(g:FuncId)(e:TypeId)(t:Ty)(Q:t.den->Prop)(cf:t.den->t.den->Int):Entry:=
 Entry.of [none,none] (yf g e t) (E2 Q cf) (λd=>(d.1,zV cf d.2)) (R8 e t)
theorem Pw{g:FuncId}{e:TypeId}{t:Ty}(d d':Nat×List t.den)(h:yf g e t d=yf g e t d'):d=d':=by
 obtain⟨n,l⟩:=d
 obtain⟨n',l'⟩:=d'
 simp only[yf,cR,ed,av.aS.injEq,dS.obj.injEq,true_and,and_true]at h
 obtain⟨rfl,h2⟩:=h
 rw[PD h2]
def JX(g:FuncId)(e:TypeId)(t:Ty)(Q:t.den->Prop)(cf:t.den->t.den->Int):Nat×List t.den->Option (Nat×List t.den):=λd=>(Pv g e t Q cf).run (yf g e t d).1 (yf g e t d).2
theorem Px{g:FuncId}{e:TypeId}{t:Ty}{Q:t.den->Prop}{cf:t.den->t.den->Int}{d:Nat×List t.den}(h:E2 Q cf d):JX g e t Q cf d=some (d.1,zV cf d.2):=Entry.tA Pw h
theorem xi{R:List Value->t.den->Prop}:∀ {cs:List Value} {l:List t.den},bj R cs l->(∀x∈l,Q x)->∃ps:List {p:List Value×t.den // R p.1 p.2/\Q p.2},ps.map (·.1.2)=l/\(ps.map (·.1.1)).flatten=cs
 |cs,[],h,_=>⟨[],rfl,by have h:cs=[]:=h;rw[h];rfl⟩
 |cs,x::l,⟨c,cs',h1,h2,h3⟩,hq=>by
  obtain⟨ps,h4,h5⟩:=xi h3 λy hy=>hq y (aF _ hy)
  exact⟨⟨(c,x),h2,hq x (aH ..)⟩::ps,by simp[h4],by simp[h5,h1]⟩
theorem xJ{R R':List Value->t.den->Prop}(hR:∀c x,R c x->R' c x):∀ps:List {p:List Value×t.den // R p.1 p.2/\Q p.2},bj R' (ps.map (·.1.1)).flatten (ps.map (·.1.2))
 |[]=>rfl
 |p::ps=>⟨p.1.1,(ps.map (·.1.1)).flatten,by simp,hR _ _ p.2.1,xJ hR ps⟩
theorem FW{α:Type} [Inhabited α] (enc:α->List Value) {k:Nat} (hk:∀x,(enc x).length=k):∀(ps:List α) (j:Nat),j < ps.length*k->((ps.map enc).flatten)[j]? =(enc (ps.toArray[j / k]!))[j%k]?
 |[],j,h=>by simp at h
 |p::ps,j,h=>by
  have k0:0 < k:=by
   rcases iK k with h0 | h0
   ·subst h0;simp at h
   ·exact h0
  simp only[bX,jm]
  by_cases hj:j < k
  ·rw[fq (by rw[hk];exact hj),Nat.div_eq_of_lt hj,jG hj]
   rfl
  ·have e1:j / k=(j - k) / k+1:=by
    rw[Nat.div_eq_sub_div k0 (by omega)]
   have e2:j%k=(j - k)%k:=by rw[Nat.mod_eq_sub_mod (by omega)]
   rw[List.getElem?_append_right (by rw[hk];omega),hk,FW enc hk ps (j - k) (by simp only[aB,eM,iy]at h;omega),e1,e2]
   congr 2
   simp
theorem wE{α:Type} [Inhabited α] (enc:α->List Value) {k:Nat} (hk:∀x,(enc x).length=k) (d:Array α):(Go.Sort.flatK enc k d).toList=(d.toList.map enc).flatten:=by
 have hl:((d.toList.map enc).flatten).length=d.size*k:=by
  rw[List.length_flatten,List.map_map]
  have:(d.toList.map (List.length∘enc))=List.replicate d.size k:=by
   rw[List.eq_replicate_iff]
   exact⟨by simp,λx hx=>by obtain⟨y,_,rfl⟩:=eJ.1 hx;exact hk y⟩
  rw[this,List.sum_replicate_nat]
 apply j5
 intro j
 by_cases hj:j < d.size*k
 ·rw[FW enc hk d.toList j (by simpa using hj)]
  have h2:(Go.Sort.flatK enc k d).toList[j]? =some ((Go.Sort.flatK enc k d)[j]!):=by
   rw[iD,getElem!_pos _ j (by rw[Go.Sort.size_flatK];exact hj)]
   simp[hj]
  rw[h2,Go.Sort.get_flatK _ _ _ _ hj]
  have TT:0 < k:=by
   rcases iK k with h0 | h0
   ·subst h0;simp at hj
   ·exact h0
  have hm:j%k < k:=Nat.mod_lt _ TT
  simp only[Array.toArray_toList]
  rw[cj (by rw[hk];exact hm),getElem!_pos _ _ (by rw[hk];exact hm)]
 ·rw[dM (by simpa using hj),dM (by rw[hl];omega)]
theorem Ns{F cur:Array Value}(h:F.size<=cur.size):(Go.Sort.putCells id 0 F cur).toList=F.toList++cur.toList.drop F.size:=by
 apply j5
 intro j
 simp only[Go.Sort.putCells,iD,Array.getElem?_mapIdx,aK,true_and,aI,Nat.sub_zero,id]
 by_cases hj:j < F.size
 ·rw[fq (by simpa using hj),iD,fp hj,fp (by omega),ee,if_pos hj,getElem!_pos F j hj]
 ·rw[List.getElem?_append_right (by simpa using hj),fW,iD,cO,show F.size+(j - F.size)=j by omega]
  cases cur[j]? with
  |none=>rfl
  |some y=>rw[ee,if_neg hj]
end
section
open Go.Proofs Go.Shelf Go.Lib Go.Sort
variable {P:Program} {ρ:Go.Shelf.Ren} {t:Ty} {g:FuncId} {Q:t.den->Prop} {cf:t.den->t.den->Int}
theorem Cb{α:Type} [Inhabited α] (enc:α->List Value) (k:Nat) (w:World) (yt m:Nat) (dk:Array α) (os:Array Obj) {b:Nat} (hb:b < w.heap.size) (fL:b≠yt):(sortWorldK enc k w yt 0 m dk os).heap[b]? =w.heap[b]? :=by
 show((w.heap.modify yt _)++os)[b]? =_
 rw[jR,if_pos (by simpa using hb),gA,if_neg (λe=>fL e.symm)]
theorem PA{α:Type} [Inhabited α] (enc:α->List Value) (k:Nat) (w:World) (yt m:Nat) (dk:Array α) (os:Array Obj) {cur:Array Value} {e:TypeId} {fr:Nat×Nat} (hb:w.heap[yt]? =some (.cells cur e fr)):
  (sortWorldK enc k w yt 0 m dk os).heap[yt]? =some (.cells (putCells id 0 (flatK enc k dk) cur) e fr):=by
 have iv:yt < w.heap.size:=(bJ.1 hb).1
 show((w.heap.modify yt _)++os)[yt]? =_
 rw[jR,if_pos (by simpa using iv),gA,if_pos rfl,hb]
 rfl
set_option maxHeartbeats 1000000 in
theorem NL(L:SlLaysF0.n6 P ρ){e:TypeId}(ha:t.agg=true)(aE:∀w,(isAgg (ρ.t 24)).run P w= .ok true w)(zE:∀w,(Go.sizeOf (ρ.t 24)).run P w= .ok t.size w)(hc:Sr P t g Q cf):
  nX P (ρ.f 6) (Pv g e t Q cf):=by
 intro w γ β args cz km x hv ho hx
 obtain⟨d0,PS,T8⟩:∃d,yf g e t d=(args,cz)/\E2 Q cf d:=by
  by_cases hh:∃d,yf g e t d=(args,cz)/\E2 Q cf d
  ·exact hh
  ·exfalso
   have hn:(Pv g e t Q cf).run args cz=none:=dif_neg hh
   rw[hn]at hx
   cases hx
 have hr:=Px (g:=g) (e:=e) T8
 unfold JX at hr
 rw[PS]at hr
 obtain rfl:x=(d0.1,zV cf d0.2):=ba (hx.symm.trans hr)
 obtain⟨n,l⟩:=d0
 simp only[yf,cR]at PS
 obtain⟨rfl,rfl⟩:=PS
 obtain⟨hn,ou,hQ,hT⟩:=T8
 have hn:n=l.length:=hn
 subst hn
 match km,hv with
 |[y1,y2],⟨Rw,zg,_⟩=>
 obtain⟨vs,rfl,zh⟩:=Dl zg
 have zh:vs=[]:=by simpa only[VC]using zh
 subst zh
 have h1:=Rw.single rfl rfl
 simp only[V]at h1
 obtain⟨a,cap,h1,xp,mJ,_,fB⟩:=h1
 have h1:y1= .slice a l.length cap:=by simpa using h1
 subst h1
 have cV:(gl [dS.obj 0 false (.vec e t l)]).bZ (.aV 0)=some (.obj 0 false (.vec e t l)):=rfl
 obtain⟨hz,hO⟩:Tc ((gl [dS.obj 0 false (.vec e t l)]).env w γ β) (.aV 0) false e t l:=ho (.aV 0) 0 false _ cV
 have fB:=fB ⟨false,_,cV⟩
 refine .inl ⟨L.f6.enters rfl _ _,?_⟩
 have YY:∀v:Value,v= .tuple #[]->VS ((gV.st ⟨.nil,[.obj 0 false (.vec e t (zV cf l))],[]⟩).env w γ β) .nil v:=λv hv=>by rw[hv];exact rfl
 have hS:=NM hc hQ
 by_cases hl:l=[]
 ·subst hl
  have hs:zV cf ([]:List t.den)=[]:=bF hS.1.length_eq
  refine(AnyF.slices_SortFunc_none L a cap _ w).mono λe' w' he=> ?_
  obtain⟨rfl,rfl⟩:=he
  refine⟨_,rfl,?_⟩
  show qp _ (⟨.nil,[.obj 0 false (.vec e t (zV cf []))],[]⟩:gV) _ _
  rw[hs]
  exact qp.same rfl ho
 ·have ot:0 < l.length:=List.length_pos_iff.2 hl
  change (match β (.aV 0) with | none=>l=[] | some pl=>∃cur k,w.heap[pl.b]? =some (.cells cur e (0,0))/\cur.size=pl.cap*t.size/\l.length<=pl.cap/\pl.cap<=maxLen/\γ pl.b= .own (.id (.aV 0)) k/\
   k<=l.length*t.size/\(false=false->k=0)/\bj (dm ((gl [dS.obj 0 false (.vec e t l)]).env w γ β) t) (cur.toList.take (l.length*t.size)) l) at hO
  change (match β (.aV 0) with | some pl=>(0 < l.length\/True->a=some ⟨pl.b,0,none⟩)/\(True->True->cap=pl.cap) | none=>a=none/\l.length=0/\cap=0) at fB
  cases hβ:β (.aV 0) with
  |none=>rw[hβ]at hO;exact absurd hO hl
  |some pl=>
  rw[hβ]at hO fB
  obtain⟨cur,k0,q1,q2,q3,q4,q5,_,q7,q8⟩:=hO
  obtain rfl:=q7 rfl
  obtain rfl:=fB.1 (.inl ot)
  have hblk:pl.b < w.heap.size:=(bJ.1 q1).1
  obtain⟨R,hR⟩:∃R:List Value->t.den->Prop,R=dm ((gl [dS.obj 0 false (.vec e t l)]).env w γ β) t:=⟨_,rfl⟩
  have hRm:∀c x,R c x->dm ((gl [dS.obj 0 false (.vec e t l)]).env w γ β) t c x:=by rw[hR];exact λ_ _ h=>h
  rw[<-hR]at q8
  obtain⟨ps,p1,p2⟩:=xi (Q:=Q) q8 hQ
  have T9:ps.length=l.length:=by rw[<-p1,cK]
  let α:= {p:List Value×t.den // R p.1 p.2/\Q p.2}
  have:0 < ps.length:=by omega
  letI:Inhabited α:=⟨ps[0]⟩
  let enc:α->List Value:=λp=>p.1.1
  let cf':α->α->Int:=λp q=>cf p.1.2 q.1.2
  have hk:∀x,(enc x).length=t.size:=λx=>(hRm _ _ x.2.1).size
  have hO:SWO (ltOf cf'):=⟨λx=>by simpa[ltOf,cf']using hc.irrefl _ x.2.2,λx y z h1 h2=>by
   simp only[ltOf,decide_eq_true_eq,cf']at*
   exact hc.trans _ _ _ x.2.2 y.2.2 z.2.2 h1 h2,λx y z h1 h2=>by
   simp only[ltOf,decide_eq_false_iff_not,cf']at*
   exact hc.ntrans _ _ _ x.2.2 y.2.2 z.2.2 h1 h2⟩
  have sM:∀j,j < l.length*t.size->cur[j]? =((ps.map enc).flatten)[j]? :=λj hj=>by
   have:(ps.map enc).flatten=cur.toList.take (l.length*t.size):=p2
   rw[this,dp,if_pos hj,iD]
  have hH:HoldsK enc t.size w pl.b 0 ps.toArray:=λj hj=>by
   rw[size_flatK]at hj
   have hj:j < ps.length*t.size:=by simpa using hj
   have h2:=sM j (by rw[<-T9];exact hj)
   have h3:((flatK enc t.size ps.toArray).toList)[j]? =((ps.map enc).flatten)[j]? :=by rw[wE enc hk]
   rw[iD,fp (by rw[size_flatK];simpa using hj)]at h3
   refine⟨?_,?_⟩
   ·show(match w.heap[pl.b]? with | some (.cells c _ _)=>if(none:Option _).isSome then none else c[0+j]? | _=>none)=_
    rw[q1]
    simp only[Option.isSome_none,cv,if_false,aI]
    rw[h2,<-h3,getElem!_pos _ j (by rw[size_flatK];simpa using hj)]
    rfl
   ·show(match w.heap[pl.b]? with | some (.cells _ _ (lo,hi))=>decide (lo<=0+j) && decide (0+j < hi) | _=>false)=false
    rw[q1]
    simp
  have tn:∀(m:Nat) (dk:Array α) (os:Array Obj),oe ((gl [dS.obj 0 false (.vec e t l)]).env w γ β) ((gl []).env (sortWorldK enc t.size w pl.b 0 m dk os) (λ_=> .free) (λ_=>none)):=λm dk os=>by
   refine⟨λb off v hh=>⟨?_,trivial⟩,λb ob hf kr=>⟨rfl,?_⟩⟩
   ·obtain⟨h1,h2⟩:=hh
    have hb:b < w.heap.size:=World.block_lt_of_cell? _ _ h1
    have fL:b≠pl.b:=λe=>by
     have h2:oT γ b off:=h2
     unfold oT at h2
     rw[e,q5]at h2
     exact Nat.not_lt_zero _ h2
    have h1:w.cell? ⟨b,off,none⟩=some v:=h1
    show(sortWorldK enc t.size w pl.b 0 m dk os).cell? ⟨b,off,none⟩=some v
    simpa only[World.cell?,Cb enc t.size w pl.b m dk os hb fL]using h1
   ·have kr:w.heap[b]? =some ob:=kr
    have hb:b < w.heap.size:=(bJ.1 kr).1
    have fL:b≠pl.b:=λe=>by
     have hf:γ b= .free:=hf
     rw[e,q5]at hf;cases hf
    exact(Cb enc t.size w pl.b m dk os hb fL).trans kr
  have V8:CmpLays P g #[] enc t.size cf' pl.b 0 ps.toArray.size w:=λm os dk _ p q=>
   hc.Tp ha ((hRm _ _ p.2.1).mono (tn m dk os)) ((hRm _ _ q.2.1).mono (tn m dk os)) p.2.2 q.2.2
  have TI:=AnyQ.slices_SortFunc L t.size aE zE enc hk (λp=>(hRm _ _ p.2.1).one) cf' hO g #[] pl.b 0 cap ps.toArray w hc.enters V8 hH hblk (by simpa[T9]using ou)
  rw[show ps.toArray.size=l.length by simpa using T9]at TI
  refine TI.mono λe' w' he=> ?_
  obtain⟨rfl,d',m,os,hp,hs,rfl⟩:=he
  refine⟨_,rfl,?_⟩
  obtain⟨s1,_,s2⟩:=hp
  have hd:d'.size=l.length:=by rw[s1];simpa using T9
  have F8:d'.toList.Perm ps:=by
   have e1:(d'.extract 0 l.length)=d':=by rw[<-hd];simp
   have e2:(ps.toArray.extract 0 l.length)=ps.toArray:=by rw[<-T9];simp
   rw[e1,e2]at s2
   exact s2
  have hl':LX cf l (d'.toList.map (·.1.2)):=by
   refine⟨by rw[<-p1];exact F8.map _,?_⟩
   rw[List.pairwise_map,List.pairwise_iff_getElem]
   intro i j hi hj Ve
   have:=hs i j (aK _) Ve (by rw[<-hd];simpa using hj)
   rw[getElem!_pos d' i (by simpa using hi),getElem!_pos d' j (by simpa using hj)]at this
   simpa[ltOf,cf']using this
  have heq:=IV hc hQ hT hl'
  show qp _ (⟨.nil,[.obj 0 false (.vec e t (zV cf l))],[]⟩:gV) _ _
  rw[<-heq]
  have kW:=PA enc t.size w pl.b m d' os q1
  have hFs:(flatK enc t.size d').size<=cur.size:=by
   rw[size_flatK,hd,q2]
   exact cY _ q3
  have xr:∀b,b < w.heap.size->b≠pl.b->(sortWorldK enc t.size w pl.b 0 m d' os).heap[b]? =w.heap[b]? :=λb hb fL=>Cb enc t.size w pl.b m d' os hb fL
  have MN:w.heap.size<=(sortWorldK enc t.size w pl.b 0 m d' os).heap.size:=size_sortWorldK_c enc t.size w pl.b 0 m d' os
  have hw:(sortWorldK enc t.size w pl.b 0 m d' os).os=w.os/\(sortWorldK enc t.size w pl.b 0 m d' os).tape=w.tape/\((sortWorldK enc t.size w pl.b 0 m d' os).output=w.output/\w.drawn<=(sortWorldK enc t.size w pl.b 0 m d' os).drawn):=⟨rfl,rfl,rfl,Nat.le_add_right _ _⟩
  generalize sortWorldK enc t.size w pl.b 0 m d' os=w' at kW xr MN hw
  have ht:Trans w w' γ γ:=by
   refine⟨hw.1,hw.2.1,hw.2.2,MN,λb hb=> ?_⟩
   by_cases V2:b=pl.b
   ·subst V2
    rw[q5]
    exact⟨.inr ⟨_,0,rfl,aw _⟩,λ_ _ hh=>by omega⟩
   ·rw[xr b hb V2]
    cases zM:γ b with
    |free=>exact⟨rfl,rfl⟩
    |own o' k=>cases o' with
     |eL=>exact⟨rfl,rfl⟩
     |id i'=>exact⟨.inr ⟨i',k,rfl,aw _⟩,λoff v _ hv=>by simpa only[World.cell?,xr b hb V2]using hv⟩
  have hle:cP ((gl [dS.obj 0 false (.vec e t l)]).env w γ β) ((gV.st ⟨.nil,[.obj 0 false (.vec e t (d'.toList.map (·.1.2)))],[]⟩).env w' γ β):=by
   have e0:∀id,(∃c,(gl [dS.obj 0 false (.vec e t l)]).bZ id=some (.obj 0 false c)/\id= .aV 0)\/((gl [dS.obj 0 false (.vec e t l)]).bZ id=none/\(gV.st ⟨.nil,[.obj 0 false (.vec e t (d'.toList.map (·.1.2)))],[]⟩).bZ id=none):=λid=>by
    cases id with
    |aV k=>cases k with
     |zero=>exact .inl ⟨_,rfl,rfl⟩
     |succ k=>exact .inr ⟨rfl,rfl⟩
    |new i j=>refine .inr ⟨?_,?_⟩ <;> cases i <;> rfl
   refine⟨Trans.mem (E:=(gl [dS.obj 0 false (.vec e t l)]).env w γ β) (E':=(gV.st ⟨.nil,[.obj 0 false (.vec e t (d'.toList.map (·.1.2)))],[]⟩).env w' γ β) ht,λid ver hb=> ?_,λid ver hb YC=> ?_⟩
   ·rcases e0 id with⟨c,_,rfl⟩ | ⟨h1,_⟩
    ·refine⟨by show(some _:Option dS)≠none;simp,λv fr c h=> ?_⟩
     have h:some (dS.obj 0 false (.vec e t (d'.toList.map (·.1.2))))=some (.obj v fr c):=h
     simp only[aq,dS.obj.injEq]at h
     have:=hb.2 0 false _ rfl
     omega
    ·exact absurd h1 hb.1
   ·rcases e0 id with⟨c,_,rfl⟩ | ⟨h1,_⟩
    ·obtain⟨fr,c,h⟩:=YC
     have h:some (dS.obj 0 false (.vec e t (d'.toList.map (·.1.2))))=some (.obj ver fr c):=h
     simp only[aq,dS.obj.injEq]at h
     obtain⟨rfl,rfl,_⟩:=h
     exact⟨⟨false,_,rfl⟩,rfl⟩
    ·exact absurd h1 hb.1
  refine⟨γ,β,rfl,λid ver fr c h=> ?_,ht,hle⟩
  have dq:id= .aV 0/\ver=0/\fr=false/\c= .vec e t (d'.toList.map (·.1.2)):=by
   cases id with
   |aV k=>cases k with
    |zero=>
     have h:some (dS.obj 0 false (.vec e t (d'.toList.map (·.1.2))))=some (.obj ver fr c):=h
     simp only[aq,dS.obj.injEq]at h
     obtain⟨rfl,rfl,rfl⟩:=h
     exact⟨rfl,rfl,rfl,rfl⟩
    |succ k=>cases h
   |new i j=>cases i <;> cases h
  obtain⟨rfl,rfl,rfl,rfl⟩:=dq
  refine⟨hz,?_⟩
  show(match β (.aV 0) with | none=>(d'.toList.map (·.1.2))=[] | some pl=>_)
  rw[hβ]
  have hlen:(d'.toList.map (λp:α=>p.1.2)).length=l.length:=by simpa using hd
  refine⟨_,0,kW,?_,by rw[hlen];exact q3,q4,q5,aK _,λ_=>rfl,?_⟩
  ·rw[<-q2];simp[putCells]
  ·have e3:(putCells id 0 (flatK enc t.size d') cur).toList.take ((d'.toList.map (λp:α=>p.1.2)).length*t.size)=(d'.toList.map enc).flatten:=by
    rw[Ns hFs,wE enc hk,hlen]
    have e4:((d'.toList.map enc).flatten).length=l.length*t.size:=by
     rw[<-wE enc hk,cO,size_flatK,hd]
    rw[<-e4,List.take_left]
   rw[e3]
   exact xJ (Q:=Q) (λc x h=>(hRm c x h).mono hle.mem) d'.toList
end
end Go.Ab
namespace Go.Ab
open Go.Proofs
abbrev dA.L0.D:=Bs×Bs×Int×Int
def dA.L0.st:dA.L0.D->AS:=λ(IM,IN,t12,t13)=>⟨([.d tB IM,.d tB IN]++aT 10 ([.d ti t12,.d ti t13]++aT 12 [])),[],(List.replicate 26 [])⟩
abbrev dA.L0.Y0:=Unit
abbrev dA.L0.X0:=Unit
def dA.L0.eG:dA.L0.X0->Exit×AS:=λx=>(.ret,⟨(aT 4 ([.d .bool false]++aT 21 [])),[],(List.replicate 26 [])⟩)
abbrev dA.L0.Y1:=Unit
abbrev dA.L0.X1:=Unit
def dA.L0.gZ:dA.L0.X1->Exit×AS:=λx=>(.exit 0,⟨(aT 26 []),[],(List.replicate 26 [])⟩)
abbrev dA.L0.X:=(dA.L0.X0)⊕(dA.L0.X1)
abbrev dA.L0.Y:=(dA.L0.Y0)⊕(dA.L0.Y1)
def dA.L0.out:dA.L0.X->Out (Exit×AS):=λx=> .br x.isLeft (.get x.getLeft? λa=> .ok (dA.L0.eG a)) (.get x.getRight? λb=> .ok (dA.L0.gZ b))
def dA.L0.add:dA.L0.D->dA.L0.Y->dA.L0.X:=λ(IM,IN,t12,t13) y=>match y with | .inl y=> .inl y | .inr z=> .inr (z)
abbrev dA.D:=Bs×Bs
abbrev dA.Y:=Bool
def dA.L0.aM:dA.L0.D->Prop:=λ(a,b,m,i)=>a.length<=1000000000/\a.length=b.length/\m=a.length/\∃k:Nat,k<=a.length/\i=k
def dA.L0.F:dA.L0.D->dA.L0.Y:=λ(a,b,m,i)=>if a.drop i.toNat=b.drop i.toNat then .inr () else .inl ()
def dA.aM:dA.D->Prop:=λ(a,b)=>a.length<=1000000000
def dA.F:dA.D->dA.Y:=λ(a,b)=>decide (a=b)
def dA.L0.E:=eE.iR dA.L0.st dA.L0.aM dA.L0.add dA.L0.F dA.L0.out
def dA.L0.call:dA.L0.D->Option dA.L0.X:=j9 dA.L0.E dA.L0.st
def dA:Fs Tryz.prog dA.aM bP dA.F:=gC 241 Tryz.f241 (λ(s1,s2)=>([.d tB s1,.d tB s2],[])) (λx=>⟨.d .bool x,[],[]⟩) [some tB,some tB] [] {loops:=pz [(4,{bo:=[0,1,12,13]})],outs:=py [(4,{},{bo:=[4]})],iX:=lkn [(4,dA.L0.E)]}
def dA.L0.R:= @gN Tryz.prog (oo dA.G) dA.an 0 Tryz.f241 0 _ dA.L0.st
abbrev dA.L0.Ok:=mS Tryz.prog (oo dA.G) dA.an 0 Tryz.f241 0 dA.L0.st dA.L0.aM dA.L0.add dA.L0.F dA.L0.out
theorem dA.L0.run:kF dA.L0.call dA.L0.aM dA.L0.add dA.L0.F:=oU (oR [.d tB,.d tB,.d ti,.d ti] λ_=>by kernel_rfl)
theorem dA.L0.cM:qa @dA.L0.R dA.L0.st dA.L0.aM dA.L0.add dA.L0.F dA.L0.out dA.L0.Ok:=qC
theorem dA.L0.step{R:Type}(IM:Bs)(IN:Bs)(t12:Int)(t13:Int)(kn:AS->Option R)(kx:Exit->AS->Option R):dA.L0.R (IM,IN,t12,t13) kn kx=
  aP ((jx t13 t12)) (
   aP (jn t13 (((List.length IM):Nat):Int)) (
   aP (jn t13 (((List.length IN):Nat):Int)) (
   aP ((w8 (nth tb IM (Int.toNat t13)) (nth tb IN (Int.toNat t13)))) (
    kx (dA.L0.eG ()).1 (dA.L0.eG ()).2) (
    kn (dA.L0.st (IM,IN,t12,(cG .i64 t13 (1:Int)))))) none) none) (
   kx (dA.L0.gZ ()).1 (dA.L0.gZ ()).2):=by kernel_rfl
theorem dA.eq{R:Type}(s1 s2)(k:K1 R):dA.A (s1,s2) k=
  aP ((w8 (s1.length:Int) (s2.length:Int))) (
   k (dA.out false)) (
   ah (dA.L0.call (s1,s2,(s1.length:Int),0)) λx1=>
   aP (x1.isLeft) (
    ah (x1.getLeft?) λa2=>
    k (dA.out false)) (
    ah (x1.getRight?) λb3=>
    k (dA.out true))):=by kernel_rfl
theorem dA.L0.ok:dA.L0.Ok:=by
 refine dA.L0.cM (λ(a,b,m,i)=>a.length - i.toNat) ?_
 rintro⟨a,b,m,i⟩ ⟨hl,PO,rfl,k,hk,rfl⟩
 have hl:a.length<=1000000000:=hl
 have PO:a.length=b.length:=PO
 have hk:k<=a.length:=hk
 by_cases h:k < a.length
 ·have h2:k < b.length:=by omega
  have n1:nth (.int .u8) a k=a[k]:=dz (t:=(.int .u8)) h
  have n2:nth (.int .u8) b k=b[k]:=dz (t:=(.int .u8)) h2
  have hd:(a.drop k=b.drop k)=(a[k]=b[k]/\a.drop (k+1)=b.drop (k+1)):=by rw[ax h,ax h2,ed]
  have step:∀ {R:Type} (kn:AS->Option R) (kx:Exit->AS->Option R),dA.L0.R (a,b,(a.length:Int),(k:Int)) kn kx=if a[k]=b[k] then kn (dA.L0.st (a,b,(a.length:Int),((k+1:Nat):Int))) else kx (dA.L0.eG ()).1 (dA.L0.eG ()).2:=by
   intro R kn kx
   rw[dA.L0.step,bg (by omega),bG (by omega) (by omega),bG (by omega) (by omega),aa,n1,n2,N.p9 (by omega)]
   simp only[ag]
   by_cases hx:a[k]=b[k]
   ·rw[ff hx,if_pos hx];rfl
   ·rw[iH hx,if_neg hx];rfl
  by_cases hx:a[k]=b[k]
  ·left
   refine⟨(a,b,(a.length:Int),((k+1:Nat):Int)),⟨hl,PO,rfl,k+1,by omega,rfl⟩,by simp only[aa];omega,?_,λkn kx=> ?_⟩
   ·simp only[dA.L0.add,dA.L0.F,aa,hd,hx,true_and]
   ·rw[step,if_pos hx]
  ·right
   refine⟨dA.L0.eG (),?_,λkn kx=> ?_⟩
   ·simp only[dA.L0.add,dA.L0.F,aa,hd,hx,false_and,if_false]
    rfl
   ·rw[step,if_neg hx]
 ·right
  obtain rfl:k=a.length:=by omega
  refine⟨dA.L0.gZ (),?_,λkn kx=> ?_⟩
  ·simp only[dA.L0.add,dA.L0.F,aa,aZ]
   rw[PO,aZ,if_pos rfl]
   rfl
  ·rw[dA.L0.step,aX (by omega),al]
theorem dA.ok:dA.Ok:=by
 rintro⟨a,b⟩ hl
 have hl:a.length<=1000000000:=hl
 rw[dA.eq]
 simp only[bP,dA.F]
 by_cases h:a.length=b.length
 ·rw[ff (by omega),al,dA.L0.run (d:=(a,b,(a.length:Int),0)) ⟨hl,h,rfl,0,aK _,rfl⟩]
  simp only[ab,dA.L0.add,dA.L0.F,bN,aJ]
  by_cases hx:a=b
  ·rw[if_pos hx,aY hx];rfl
  ·rw[if_neg hx,cH hx];rfl
 ·rw[iH (by omega),cH (λx=>h (by rw[x]))];rfl
theorem dA.run:dA.RS:=rE [.d tB,.d tB] dA
def dA.sg:=dA.gG dA.ok 1 ⟨.iR dA.L0.ok,trivial⟩
abbrev qe.D:=cd×cd
abbrev qe.Y:=Int
def FH(a b:cd):Int:=SZ [CG a.1 b.1,HP a.2.1 b.2.1]
def qe.aM:qe.D->Prop:=λ(a,b)=>a.1.length=32/\b.1.length=32
def qe.F:qe.D->qe.Y:=λ(a,b)=>FH a b
def qe:Fs Tryz.prog qe.aM bP qe.F:=gC 80 Tryz.f80 (λ(a,b)=>([.d b8 a,.d b8 b],[])) (λx=>⟨.d ti x,[],[]⟩) [some b8,some b8] [qc.sg,nD.sg,hZ.sg]
theorem qe.eq{R:Type}(a b)(k:K1 R):qe.A (a,b) k=
 ah (qc.call ((cut a.1 0 32),(cut b.1 0 32))) λx1=>
 ah (nD.call (a.2.1,b.2.1)) λx2=>
 ah (hZ.call [x1,x2]) λx3=>
 k (qe.out x3):=by kernel_rfl
theorem qe.ok:qe.Ok:=by
 rintro⟨a,b⟩ ⟨ha,hb⟩
 have ha:a.1.length=32:=ha
 have hb:b.1.length=32:=hb
 have c1:cut a.1 0 32=a.1:=gI ha
 have c2:cut b.1 0 32=b.1:=gI hb
 rw[qe.eq,c1,c2,qc.run (d:=(a.1,b.1)) trivial]
 simp only[ab,bP,qc.F]
 rw[nD.run (d:=(a.2.1,b.2.1)) trivial]
 simp only[ab,bP,nD.F]
 rw[hZ.run (d:=[CG a.1 b.1,HP a.2.1 b.2.1]) (by show 2<=_;decide)]
 simp only[ab,bP,hZ.F,bP,qe.F,FH]
theorem qe.run:qe.RS:=rE [.d b8,.d b8] qe
def qe.sg:=qe.gG qe.ok
def lx:List Int->List Int->Int
 |x::xs,y::ys=>if x≠y then(if x < y then -1 else 1) else lx xs ys
 |_,_=>0
theorem JH:∀a,lx a a=0
 |[]=>rfl
 |x::a=>by simp[lx,JH a]
theorem EJ:∀a b:List Int,lx b a= - lx a b
 |[],[]=>rfl
 |[],_::_=>rfl
 |_::_,[]=>rfl
 |x::a,y::b=>by
  simp only[lx]
  by_cases h:x=y
  ·rw[if_neg (by omega),if_neg (by omega),EJ a b]
  ·rw[if_pos (by omega),if_pos h]
   by_cases h2:x < y
   ·rw[if_neg (by omega),if_pos h2];rfl
   ·rw[if_pos (by omega),if_neg h2]
theorem Be:∀ {a b c:List Int},a.length=b.length->b.length=c.length->lx a b<=0->lx b c<=0->lx a c<=0/\(lx a c=0->lx a b=0/\lx b c=0)
 |[],[],[],_,_,_,_=>by simp[lx]
 |x::a,y::b,z::c,h1,h2,h3,h4=>by
  have ih:=Be (a:=a) (b:=b) (c:=c) (by simpa using h1) (by simpa using h2)
  simp only[lx]at h3 h4 ⊢
  by_cases e1:x=y
  ·by_cases e2:y=z
   ·rw[if_neg (by omega)]at h3 h4
    rw[if_neg (by omega),if_neg (by omega),if_neg (by omega)]
    exact ih h3 h4
   ·rw[if_neg (by omega)]at h3
    rw[if_pos e2]at h4
    rw[if_pos (by omega)]
    by_cases e3:y < z
    ·rw[if_pos (by omega)]
     exact⟨by omega,λh=>by omega⟩
    ·rw[if_neg e3]at h4;omega
  ·rw[if_pos e1]at h3
   by_cases e3:x < y
   ·by_cases e2:y=z
    ·rw[if_pos (by omega),if_pos (by omega)]
     exact⟨by omega,λh=>by omega⟩
    ·rw[if_pos e2]at h4
     by_cases e4:y < z
     ·rw[if_pos (by omega),if_pos (by omega)]
      exact⟨by omega,λh=>by omega⟩
     ·rw[if_neg e4]at h4;omega
   ·rw[if_neg e3]at h3;omega
 |[],_::_,_,h,_,_,_=>by simp at h
 |_::_,[],_,h,_,_,_=>by simp at h
 |_,[],_::_,_,h,_,_=>by simp at h
 |_,_::_,[],_,h,_,_=>by simp at h
def Vs(a b:Int):Int:=if a=0 then b else a
theorem EK{p:Int}{a b:List Int}:lx (p::a) (p::b)=lx a b:=by simp[lx]
theorem yQ{p q:Int}{a b:List Int}(h:¬p=q):lx (p::a) (q::b)=if p < q then -1 else 1:=by simp[lx,h]
theorem JG:∀ {a b:List Int} (x y:Int),a.length=b.length->lx (a++ [x]) (b++ [y])=Vs (lx a b) (HP x y)
 |[],[],x,y,_=>by
  show lx [x] [y]=Vs 0 (HP x y)
  simp only[Vs,if_true]
  unfold HP
  by_cases h:x=y
  ·subst h
   rw[EK,if_neg (by omega),if_neg (by omega)]
   rfl
  ·rw[yQ h]
   by_cases h2:x < y
   ·rw[if_pos h2,if_pos h2]
   ·rw[if_neg h2,if_neg h2,if_pos (by omega)]
 |[],_::_,_,_,h=>by simp at h
 |_::_,[],_,_,h=>by simp at h
 |p::a,q::b,x,y,h=>by
  show lx (p::(a++ [x])) (q::(b++ [y]))=_
  by_cases h2:p=q
  ·subst h2
   rw[EK,EK]
   exact JG x y (by simpa using h)
  ·rw[yQ h2,yQ h2]
   by_cases h3:p < q
   ·rw[if_pos h3];rfl
   ·rw[if_neg h3];rfl
def Mn:List UInt8->List UInt8->Int
 |x::xs,y::ys=>if x !=y then(if x < y then -1 else 1) else Mn xs ys
 |_,_=>0
theorem FI:∀(xs ys:List UInt8),xs.length=ys.length->(match(List.range xs.length).find? λi=>xs[i]! !=ys[i]! with | some i=>if xs[i]! < ys[i]! then(-1:Int) else 1 | none=>0)=Mn xs ys
 |[],[],_=>rfl
 |[],_::_,h=>by simp at h
 |_::_,[],h=>by simp at h
 |x::xs,y::ys,h=>by
  have ih:=FI xs ys (by simpa using h)
  rw[aB,List.range_succ_eq_map,List.find?_cons]
  simp only[List.getElem!_cons_zero,Mn]
  cases hb:(x !=y) with
  |true=>simp
  |false=>
   simp only[cv,if_false]
   rw[List.find?_map,<-ih]
   have e:((λi=>(x::xs)[i]! !=(y::ys)[i]!)∘Nat.succ)=λi=>xs[i]! !=ys[i]! :=by
    funext i;simp
   rw[e]
   cases(List.range xs.length).find? λi=>xs[i]! !=ys[i]! <;> simp
theorem Jm:∀ {a b:List Int},(∀x∈a,0<=x/\x < 256)->(∀x∈b,0<=x/\x < 256)->Mn (a.map λn=>UInt8.ofNat n.toNat) (b.map λn=>UInt8.ofNat n.toNat)=lx a b
 |[],_,_,_=>by cases ‹List Int› <;> rfl
 |_::_,[],_,_=>rfl
 |x::a,y::b,ha,hb=>by
  have hx:=ha x (aH ..)
  have hy:=hb y (aH ..)
  have ih:=Jm (a:=a) (b:=b) (λz hz=>ha z (aF _ hz)) (λz hz=>hb z (aF _ hz))
  simp only[bX,Mn,lx,ih]
  have e1:(UInt8.ofNat x.toNat).toNat=x.toNat:=by simp[UInt8.toNat_ofNat];omega
  have e2:(UInt8.ofNat y.toNat).toNat=y.toNat:=by simp[UInt8.toNat_ofNat];omega
  by_cases h:x=y
  ·subst h;simp
  ·have fL:(UInt8.ofNat x.toNat !=UInt8.ofNat y.toNat)=true:=by
    rw[bne_iff_ne]
    intro e
    have:=congrArg UInt8.toNat e
    rw[e1,e2]at this
    omega
   rw[fL,if_pos rfl,if_pos h]
   have iv:UInt8.ofNat x.toNat < UInt8.ofNat y.toNat↔x < y:=by
    rw[UInt8.lt_iff_toNat_lt,e1,e2];omega
   by_cases h2:x < y
   ·rw[if_pos (iv.2 h2),if_pos h2]
   ·rw[if_neg (λe=>h2 (iv.1 e)),if_neg h2]
theorem Ox{a b:List Int}(hl:a.length=b.length)(ha:∀x∈a,0<=x/\x < 256)(hb:∀x∈b,0<=x/\x < 256):CG a b=lx a b:=by
 rw[<-Jm ha hb,<-FI _ _ (by simpa using hl)]
 unfold CG Extern.BytealgCompare.cmp
 have s1:∀l:List Int,(fy l).size=l.length:=λl=>by simp[fy,ByteArray.size]
 have g1:∀(l:List Int) (i:Nat),(fy l)[i]! =(l.map λn=>UInt8.ofNat n.toNat)[i]! :=λl i=>by
  by_cases h:i < (fy l).size
  ·rw[getElem!_pos _ i h]
   have h2:i < (l.map λn=>UInt8.ofNat n.toNat).length:=by simpa[fy,ByteArray.size]using h
   rw[getElem!_pos _ i h2]
   rfl
  ·rw[getElem!_neg _ i h]
   have h2:¬i < (l.map λn=>UInt8.ofNat n.toNat).length:=by simpa[fy,ByteArray.size]using h
   rw[getElem!_neg _ i h2]
 simp only[s1,g1,hl,Nat.min_self,cK]
 cases(List.range b.length).find? λi=>(a.map λn=>UInt8.ofNat n.toNat)[i]! !=(b.map λn=>UInt8.ofNat n.toNat)[i]! <;> simp
def Qu(o:cd):Prop:=o.1.length=32/\∀x∈o.1,0<=x/\x < 256
def sx(o:cd):List Int:=o.1++ [o.2.1]
theorem pO{o:cd}(h:Qu o):(sx o).length=33:=by simp[sx,h.1]
theorem tf{a b:cd}(ha:Qu a)(hb:Qu b):FH a b=lx (sx a) (sx b):=by
 unfold sx FH
 rw[JG _ _ (ha.1.trans hb.1.symm),Ox (ha.1.trans hb.1.symm) ha.2 hb.2]
 simp only[SZ,Vs]
 by_cases h:lx a.1 b.1=0
 ·rw[if_pos h,if_neg (λe=>e h)]
  split
  ·rfl
  ·omega
 ·rw[if_neg h,if_pos h]
theorem Mm:Sr Tryz.prog b8 80 Qu FH:= {
 bZ:=⟨qe.E,qe.sg.h.1 (by rfl),λx y hx hy=>⟨_,qe.run (d:=(x,y)) ⟨hx.1,hy.1⟩,rfl⟩⟩
 enters:=enters_of Tryz.func80 (by kernel_rfl) rfl
 irrefl:=λx hx=>by rw[tf hx hx,JH];decide
 trans:=λx y z hx hy hz h1 h2=>by
  rw[tf hx hy]at h1
  rw[tf hy hz]at h2
  rw[tf hx hz]
  have:=Be (by rw[pO hx,pO hy]) (by rw[pO hy,pO hz]) (by omega:lx (sx x) (sx y)<=0) (by omega:lx (sx y) (sx z)<=0)
  have h3:=this.1
  by_cases h4:lx (sx x) (sx z)=0
  ·have:=(this.2 h4).1;omega
  ·omega
 ntrans:=λx y z hx hy hz h1 h2=>by
  rw[tf hx hy]at h1
  rw[tf hy hz]at h2
  rw[tf hx hz]
  have e1:=EJ (sx x) (sx y)
  have e2:=EJ (sx y) (sx z)
  have e3:=EJ (sx x) (sx z)
  have:=(Be (by rw[pO hz,pO hy]) (by rw[pO hy,pO hx]) (by omega:lx (sx z) (sx y)<=0) (by omega:lx (sx y) (sx x)<=0)).1
  omega}
end Go.Ab
namespace Go.Proofs
open Go.Shelf
def Tryz.IQ:Go.Shelf.Ren:=⟨λ | 6=>79 | 15=>155 | 14=>154 | 28=>214 | 29=>215 | 20=>206 | 21=>207 | 22=>208 | 23=>209 | 24=>210 | 25=>211 | 26=>212 | 27=>213 | 46=>255 | 47=>256 | 48=>257 | 49=>258 | 50=>259 | 57=>279 | n=>n,λ | 22=>58 | 24=>47 | 25=>157 | 3=>3 | 39=>224 | 0=>0 | 53=>255 | 55=>22 | 4=>4 | 46=>265 | 45=>264 | 50=>66 | 5=>5 | 9=>9 | 66=>298 | 70=>301 | 76=>313 | 77=>314 | n=>n,λ | n=>n⟩
theorem Tryz.R4:Go.Proofs.SlLaysF0.n6 Tryz.prog Tryz.IQ:= {
 mixed:=by kernel_rfl
 f6:=⟨Tryz.f79.name,by decide,Tryz.func79.trans (congrArg some (by kernel_rfl))⟩
 f14:=⟨Tryz.f154.name,by decide,Tryz.func154.trans (congrArg some (by kernel_rfl))⟩
 f15:=Tryz.func155.trans (congrArg some (by kernel_rfl))
 f20:=⟨Tryz.f206.name,by decide,Tryz.func206.trans (congrArg some (by kernel_rfl))⟩
 f21:=⟨Tryz.f207.name,by decide,Tryz.func207.trans (congrArg some (by kernel_rfl))⟩
 f22:=⟨Tryz.f208.name,by decide,Tryz.func208.trans (congrArg some (by kernel_rfl))⟩
 f23:=⟨Tryz.f209.name,by decide,Tryz.func209.trans (congrArg some (by kernel_rfl))⟩
 f24:=⟨Tryz.f210.name,by decide,Tryz.func210.trans (congrArg some (by kernel_rfl))⟩
 f25:=⟨Tryz.f211.name,by decide,Tryz.func211.trans (congrArg some (by kernel_rfl))⟩
 f26:=⟨Tryz.f212.name,by decide,Tryz.func212.trans (congrArg some (by kernel_rfl))⟩
 f27:=⟨Tryz.f213.name,by decide,Tryz.func213.trans (congrArg some (by kernel_rfl))⟩
 f28:=Tryz.func214.trans (congrArg some (by kernel_rfl))
 f29:=Tryz.func215.trans (congrArg some (by kernel_rfl))
 f46:=⟨Tryz.f255.name,by decide,Tryz.func255.trans (congrArg some (by kernel_rfl))⟩
 f47:=Tryz.func256.trans (congrArg some (by kernel_rfl))
 f48:=Tryz.func257.trans (congrArg some (by kernel_rfl))
 f49:=⟨Tryz.f258.name,by decide,Tryz.func258.trans (congrArg some (by kernel_rfl))⟩
 f50:=⟨Tryz.f259.name,by decide,Tryz.func259.trans (congrArg some (by kernel_rfl))⟩
 f57:=⟨Tryz.f279.name,by decide,Tryz.func279.trans (congrArg some (by kernel_rfl))⟩
 t0:=Tryz.underlying0
 a0:=Tryz.isAgg0
 z0:=Tryz.sizeOf0
 v0:=Tryz.zeroValue0
 t3:=Tryz.underlying3
 a3:=Tryz.isAgg3
 z3:=Tryz.sizeOf3
 v3:=Tryz.zeroValue3
 t4:=Tryz.underlying4
 a4:=Tryz.isAgg4
 z4:=Tryz.sizeOf4
 v4:=Tryz.zeroValue4
 t5:=Tryz.underlying5
 a5:=Tryz.isAgg5
 z5:=Tryz.sizeOf5
 v5:=Tryz.zeroValue5
 t9:=Tryz.underlying9
 a9:=Tryz.isAgg9
 z9:=Tryz.sizeOf9
 v9:=Tryz.zeroValue9
 t22:=Tryz.underlying58
 a22:=Tryz.isAgg58
 z22:=Tryz.sizeOf58
 v22:=Tryz.zeroValue58
 t25:=Tryz.underlying157
 a25:=Tryz.isAgg157
 z25:=Tryz.sizeOf157
 v25:=Tryz.zeroValue157
 t39:=Tryz.underlying224
 a39:=Tryz.isAgg224
 z39:=Tryz.sizeOf224
 v39:=Tryz.zeroValue224
 t45:=Tryz.underlying264
 a45:=Tryz.isAgg264
 z45:=Tryz.sizeOf264
 v45:=Tryz.zeroValue264
 t46:=Tryz.underlying265
 a46:=Tryz.isAgg265
 z46:=Tryz.sizeOf265
 v46:=Tryz.zeroValue265
 t50:=Tryz.underlying66
 a50:=Tryz.isAgg66
 z50:=Tryz.sizeOf66
 v50:=Tryz.zeroValue66
 t53:=Tryz.underlying255
 a53:=Tryz.isAgg255
 z53:=Tryz.sizeOf255
 v53:=Tryz.zeroValue255
 t55:=Tryz.underlying22
 a55:=Tryz.isAgg22
 z55:=Tryz.sizeOf22
 v55:=Tryz.zeroValue22
 t66:=Tryz.underlying298
 a66:=Tryz.isAgg298
 z66:=Tryz.sizeOf298
 v66:=Tryz.zeroValue298
 t70:=Tryz.underlying301
 a70:=Tryz.isAgg301
 z70:=Tryz.sizeOf301
 v70:=Tryz.zeroValue301
 t76:=Tryz.underlying313
 a76:=Tryz.isAgg313
 z76:=Tryz.sizeOf313
 v76:=Tryz.zeroValue313
 t77:=Tryz.underlying314
 a77:=Tryz.isAgg314
 z77:=Tryz.sizeOf314
 v77:=Tryz.zeroValue314}
end Go.Proofs
namespace Go.Ab
open Go.Proofs
def R7.E:Entry:=Pv 80 47 b8 Qu FH
def R7.sg:SG Tryz.prog:=⟨79,om,R7.E,.of (NL Tryz.R4 (by rfl) (λw=>Tryz.isAgg47 w) (λw=>Tryz.sizeOf47 w) Mm) (by rfl)⟩
abbrev gz.L0.D:=Nat×Nat×(List (cd×dP))×(List cn)×(List (cd×dP))×(List cd)
def gz.L0.st:gz.L0.D->AS:=λ(outL,o0L,eQ,eA,n9,n17)=>⟨([.undef,.undef,.undef,.aS (.new 17 0) 0 [] 0 0 outL]++aT 5 ([.ptr (.new 9 0) 0 [] 0]++aT 11 [])),[.obj 0 false (.pr (.db (.aV 1) 0) (.pr (.aS (.aV 2) 0 [] 0 0 o0L) (.d .unit ()))),.obj 0 true (.mp b8 eR eQ),.obj 0 false (.vec 161 cE eA)],(ct 9 ([[.obj 0 false (.nH (.aV 1) 1 b8 eR n9 none)]]++ct 7 [[.obj 0 false (.vec 47 b8 n17)],[],[],[]]))⟩
abbrev gz.L0.Y0:=Nat×(List cd)
abbrev gz.L0.X0:=(Nat×(List (cd×dP))×(List cn))×(Nat×(List cd))
def gz.L0.eG:gz.L0.X0->Exit×AS:=λx=>(.exit 0,⟨([.undef,.undef,.undef,.aS (.new 17 0) 0 [] 0 0 x.2.1]++aT 17 []),[.obj 0 false (.pr (.db (.aV 1) 0) (.pr (.aS (.aV 2) 0 [] 0 0 x.1.1) (.d .unit ()))),.obj 0 false (.mp b8 eR x.1.2.1),.obj 0 false (.vec 161 cE x.1.2.2)],(ct 17 [[.obj 0 false (.vec 47 b8 x.2.2)],[],[],[]])⟩)
abbrev gz.L0.X:=gz.L0.X0
abbrev gz.L0.Y:=gz.L0.Y0
def gz.L0.out:gz.L0.X->Out (Exit×AS):=λx=> .ok (gz.L0.eG x)
def gz.L0.add:gz.L0.D->gz.L0.Y->gz.L0.X:=λ(outL,o0L,eQ,eA,n9,n17) y=>((o0L,eQ,eA),y)
abbrev gz.D:=Nat×(List (cd×dP))×(List cn)
abbrev gz.Y:=Nat×Nat×(List (cd×dP))×(List cn)×(List cd)
theorem rY{β:Type}{kt:Ty}(hc:kt.comp=true){x:kt.den}{v:β}:∀ {l:List (kt.den×β)},x ∉ l.map (·.1)->iT kt x v l=l++ [(x,v)]
 |[],_=>rfl
 |p::l,h=>by
  rw[wJ]
  have h1:¬kt.beq x p.1=true:=λe=>h (by rw[beq_eq kt _ _ hc e];simp)
  rw[if_neg h1,rY hc λe=>h (by simp[e])]
  rfl
theorem jP:b8.comp=true:=rfl
def kI(l:List (cd×dP)):Int:=(l.map λp=>p.2.1.1).sum
theorem lE(p:cd×dP)(l:List (cd×dP)):kI (p::l)=p.2.1.1+kI l:=by simp[kI]
theorem Fo(l l':List (cd×dP)):kI (l++l')=kI l+kI l':=by simp[kI]
theorem yq{l l':List (cd×dP)}(h:l.Perm l'):kI l=kI l':=by
 induction h with
 |nil=>rfl
 |cons x _ ih=>rw[lE,lE,ih]
 |swap x y l=>rw[lE,lE,lE,lE];omega
 |trans _ _ h1 h2=>rw[h1,h2]
theorem AD{α:Type}{l:List α}{j:Nat}(h:j < l.length):l.Perm (l[j]::l.eraseIdx j):=by
 induction l generalizing j with
 |nil=>simp at h
 |cons x l ih=>
  cases j with
  |zero=>exact l9 _
  |succ j=>
   have h:j < l.length:=by simpa using h
   simp only[List.getElem_cons_succ,List.eraseIdx_cons_succ]
   exact((ih h).cons x).trans (List.Perm.swap _ _ _)
theorem ER{kt vt:Ty}{l:List (kt.den×vt.den)}{j:Nat}(h:j < l.length):qN kt vt l j=l[j]:=by
 simp[qN,aA,cj h]
theorem Fp{l:List (cd×dP)}(h:∀p∈l,0<=p.2.1.1):0<=kI l:=by
 induction l with
 |nil=>simp[kI]
 |cons p l ih=>
  rw[lE]
  have:=h p (aH ..)
  have:=ih λq hq=>h q (aF _ hq)
  omega
def gz.L0.aM:gz.L0.D->Prop:=λ(n,_,_,_,rest,out)=>n=out.length/\out.length+rest.length<=1000000
def gz.L0.Fh:gz.L0.D->gz.L0.Y->Prop:=λ(_,_,_,_,rest,out) (m,out')=>m=out'.length/\out'.Perm (out++rest.map (·.1))
def gz.aM:gz.D->Prop:=λ(_,a,_)=>a.length<=1000000/\∀p∈a,Qu p.1
def gz.F:gz.D->gz.Y:=λ(n,a,s)=>(a.length,n,a,s,zV (t:=b8) FH (a.map (·.1)))
def gz.L0.E:=eE.RH gz.L0.st gz.L0.aM gz.L0.add gz.L0.Fh gz.L0.out
def gz:Fs Tryz.prog gz.aM bP gz.F:=gC 28 Tryz.f28 (λ(o0baL,o1,o2)=>([.ptr (.aV 0) 0 [] 0],[.obj 0 false (.pr (.db (.aV 1) 0) (.pr (.aS (.aV 2) 0 [] 0 0 o0baL) (.d .unit ()))),.obj 0 false (.mp b8 eR o1),.obj 0 false (.vec 161 cE o2)])) (λx=>⟨.aS (.new 0 0) 0 [] 0 0 x.1,[.obj 0 false (.pr (.db (.aV 1) 0) (.pr (.aS (.aV 2) 0 [] 0 0 x.2.1) (.d .unit ()))),.obj 0 false (.mp b8 eR x.2.2.1),.obj 0 false (.vec 161 cE x.2.2.2.1)],[.obj 0 false (.vec 47 b8 x.2.2.2.2)]⟩) [none] [R7.sg] {loops:=pz [(3,{bo:=[3,9],sites:=[9,17],owns:=[⟨3,[],17,58⟩],Uo:=[9]})],outs:=py [(3,{bo:=[3],sites:=[17]},{bo:=[2]})],iX:=lkn [(3,gz.L0.E)]}
theorem gz.run:gz.RS:=rE [.n,.d (.slice (.pair b8 eR)),.d (.slice cE)] gz
abbrev dV.L0.D:=Int×Nat×(List (cd×dP))×(List cn)×(List (cd×dP))
abbrev dV.L0.Y:=Int
abbrev dV.L0.X:=(Nat×(List (cd×dP))×(List cn))×(Int)
def dV.L0.add:dV.L0.D->dV.L0.Y->dV.L0.X:=λ(sum,o0L,eQ,eA,n10) y=>((o0L,eQ,eA),y)
abbrev dV.D:=Nat×(List (cd×dP))×(List cn)
abbrev dV.Y:=Int×Nat×(List (cd×dP))×(List cn)
def dV.L0.aM:dV.L0.D->Prop:=λ(sum,_,_,_,rest)=>0<=sum/\(∀p∈rest,0<=p.2.1.1)/\sum+kI rest<=1000000000000000000
def dV.L0.F:dV.L0.D->dV.L0.Y:=λ(sum,_,_,_,rest)=>sum+kI rest
def dV.aM:dV.D->Prop:=λ(_,a,_)=>(∀p∈a,0<=p.2.1.1)/\kI a<=1000000000000000000
def dV.F:dV.D->dV.Y:=λ(n,a,s)=>(kI a,n,a,s)
def dV.L0:Ls dV.L0.aM dV.L0.add dV.L0.F:=rX (λ(sum,o0L,eQ,eA,n10)=>⟨([.undef,.undef,.undef,.d ti sum]++aT 6 ([.ptr (.new 10 0) 0 [] 0]++aT 10 [])),[.obj 0 false (.pr (.db (.aV 1) 0) (.pr (.aS (.aV 2) 0 [] 0 0 o0L) (.d .unit ()))),.obj 0 true (.mp b8 eR eQ),.obj 0 false (.vec 161 cE eA)],(ct 10 ([[.obj 0 false (.nH (.aV 1) 1 b8 eR n10 none)]]++ct 10 []))⟩) (λx=>(.exit 0,⟨([.undef,.undef,.undef,.d ti x.2]++aT 17 []),[.obj 0 false (.pr (.db (.aV 1) 0) (.pr (.aS (.aV 2) 0 [] 0 0 x.1.1) (.d .unit ()))),.obj 0 false (.mp b8 eR x.1.2.1),.obj 0 false (.vec 161 cE x.1.2.2)],(List.replicate 21 [])⟩))
def dV:Fs Tryz.prog dV.aM bP dV.F:=gC 24 Tryz.f24 (λ(o0baL,o1,o2)=>([.ptr (.aV 0) 0 [] 0],[.obj 0 false (.pr (.db (.aV 1) 0) (.pr (.aS (.aV 2) 0 [] 0 0 o0baL) (.d .unit ()))),.obj 0 false (.mp b8 eR o1),.obj 0 false (.vec 161 cE o2)])) (λx=>⟨.d ti x.1,[.obj 0 false (.pr (.db (.aV 1) 0) (.pr (.aS (.aV 2) 0 [] 0 0 x.2.1) (.d .unit ()))),.obj 0 false (.mp b8 eR x.2.2.1),.obj 0 false (.vec 161 cE x.2.2.2)],[]⟩) [none] [] {loops:=pz [(3,{bo:=[3,10],sites:=[10],Uo:=[10]})],outs:=py [(3,{bo:=[3]},{bo:=[2]})],iX:=lkn [(3,dV.L0.E)]}
theorem dV.L0.run:dV.L0.RS:=rL [.d ti,.n,.d (.slice (.pair b8 eR)),.d (.slice cE),.d (.slice (.pair b8 eR))] dV.L0
theorem dV.L0.step{R:Type}(sum o0L eQ eA n10)(kn:K2 R)(kx:K3 R):dV.R 0 dV.L0 (sum,o0L,eQ,eA,n10) kn kx=
  aP (decide (0 < (List.length n10))) (
   OB (List.length n10) λj1=>
   kn (dV.L0.st ((cG .i64 sum (qN b8 eR n10 j1).2.1.1),o0L,eQ,eA,(List.eraseIdx n10 j1)))) (
   dV.L0.go kx ((o0L,eQ,eA),sum)):=by kernel_rfl
theorem dV.eq{R:Type}(o0baL o1 o2)(k:K1 R):dV.A (o0baL,o1,o2) k=
 ah (dV.L0.call (0,o0baL,o1,o2,o1)) λx2=>
 k (dV.out (x2.2,x2.1.1,x2.1.2.1,x2.1.2.2)):=by kernel_rfl
theorem dV.L0.ok:(dV.mL 0 dV.L0):=by
 refine(dV.UB 0 dV.L0) (λ(_,_,_,_,rest)=>rest.length) ?_
 rintro⟨sum,o,a,s,rest⟩ ⟨h0,hn,hm⟩
 have h0:0<=sum:=h0
 have hm:sum+kI rest<=1000000000000000000:=hm
 by_cases h:0 < rest.length
 ·left
  have key:∀j,(hj:j < rest.length)->rest[j].2.1.1+kI (rest.eraseIdx j)=kI rest:=λj hj=>by rw[<-lE];exact yq (AD hj).symm
  refine⟨rest.length,λj=>(cG .i64 sum (qN b8 eR rest j).2.1.1,o,a,s,rest.eraseIdx j),h,λj hj=> ?_,λkn kx=> ?_⟩
  ·have hk:=key j hj
   have hx:=hn _ (aL hj)
   have hr:∀p∈rest.eraseIdx j,0<=p.2.1.1:=λp hp=>hn p ((List.eraseIdx_sublist rest j).subset hp)
   have:=Fp hr
   have e1:cG .i64 sum (qN b8 eR rest j).2.1.1=sum+rest[j].2.1.1:=by rw[ER hj];exact fX (by omega) (by omega)
   refine⟨⟨?_,hr,?_⟩,?_,?_⟩
   ·show 0<=cG .i64 sum _;rw[e1];omega
   ·show cG .i64 sum _+kI (rest.eraseIdx j)<=_;rw[e1];omega
   ·show(rest.eraseIdx j).length < rest.length
    rw[List.length_eraseIdx,if_pos hj];omega
   ·simp only[dV.L0.add,dV.L0.F,e1]
    rw[<-hk,Int.add_assoc]
  ·rw[dV.L0.step,aY h,ag]
 ·right
  obtain rfl:rest=[]:=bF (by omega)
  intro T kn kx
  rw[dV.L0.step,cH h,al]
  simp only[dV.L0.add,dV.L0.F,kI,ij,List.sum_nil,Int.add_zero]
theorem dV.ok:dV.Ok:=by
 rintro⟨n,a,s⟩ ⟨hn,hm⟩
 have hm:kI a<=_:=hm
 rw[dV.eq,dV.L0.run (d:=(0,n,a,s,a)) ⟨kS _,hn,by show 0+kI a<=_;omega⟩]
 simp only[ab,dV.L0.add,dV.L0.F,bP,dV.F,Int.zero_add]
theorem dV.run:dV.RS:=rE [.n,.d (.slice (.pair b8 eR)),.d (.slice cE)] dV
def dV.sg:=dV.gG dV.ok 1 ⟨.iR dV.L0.ok,trivial⟩
abbrev iQ.D:=Nat×(List cn)
abbrev iQ.Y:=Nat×(List cn)
abbrev iQ.X:=((List cn))×(Nat×(List cn))
def iQ.add:iQ.D->iQ.Y->iQ.X:=λ(sL,o0) y=>(o0,y)
def iQ.aM:iQ.D->Prop:=λ(n,l)=>n<=l.length/\l.length<=1000000
def iQ.F:iQ.D->iQ.Y:=λ(n,l)=>((l.take n).length,l.take n)
def iQ:Fs Tryz.prog iQ.aM iQ.add iQ.F:=gC 90 Tryz.f90 (λ(sL,o0)=>([.aS (.aV 0) 0 [] 0 0 sL],[.obj 0 false (.vec 161 cE o0)])) (λx=>⟨.aS (.new 0 0) 0 [] 0 0 x.2.1,[.obj 0 false (.vec 161 cE x.1)],[.obj 0 false (.vec 161 cE x.2.2)]⟩) [none] [] {bK:=[5],owns:=[⟨2,[],5,148⟩]}
theorem iQ.eq{R:Type}(sL o0)(k:K1 R):iQ.A (sL,o0) k=
  aP (decide (0 < sL)) (
   aP (decide (0=0/\(0+sL)<=(List.length o0))) (
   aP (dZ (0+(List.length (cut o0 0 sL))) 48) (
   k (iQ.out (o0,((0+(List.length (cut o0 0 sL))),((List.take 0 (List.replicate 0 (([]:List I9),(([]:List cd),()))))++(cut o0 0 sL)))))) none) none) (
   nd (
    k (iQ.out (o0,(0,([]:List cn))))) (
    aP (decide (0=0/\(0+sL)<=(List.length o0))) (
    aP (dZ (0+(List.length (cut o0 0 sL))) 48) (
    k (iQ.out (o0,((0+(List.length (cut o0 0 sL))),((List.take 0 (List.replicate 0 (([]:List I9),(([]:List cd),()))))++(cut o0 0 sL)))))) none) none)):=by kernel_rfl
theorem iQ.ok:iQ.Ok:=by
 rintro⟨n,l⟩ ⟨h1,h2⟩
 have h1:n<=l.length:=h1
 have h2:l.length<=1000000:=h2
 have ec:cut l 0 n=l.take n:=by simp[cut]
 have ht:(l.take n).length<=1000000:=by rw[bQ];omega
 have hr:dZ (l.take n).length 48=true:=fg (by omega) (by omega)
 rw[iQ.eq]
 simp only[aI,ec,hr,ag,eF,aR,true_and,aY h1,iQ.add,iQ.F]
 by_cases h:0 < n
 ·simp only[aY h,ag]
 ·have:n=0:=by omega
  subst this
  simp only[eF,bn,aK,decide_true,ag,qM,cH (gE 0),al]
theorem iQ.run:iQ.RS:=rE [.n,.d (.slice cE)] iQ
def iQ.sg:=iQ.Vv DW iQ.ok
abbrev df.L0.D:=Nat×(List (cd×dP))×(List cn)×(List (cd×dP))×(List cn)×Nat×(List (cd×dP))
abbrev df.L0.Y:=(List (cd×dP))
abbrev df.L0.X:=(Nat×(List (cd×dP))×(List cn)×(List cn)×Nat)×((List (cd×dP)))
def df.L0.add:df.L0.D->df.L0.Y->df.L0.X:=λ(o0L,eQ,eA,n6,n11,uo,n18) y=>((o0L,eQ,eA,n11,uo),y)
abbrev df.D:=Nat×(List (cd×dP))×(List cn)
abbrev df.Y:=Nat×(List (cd×dP))×(List cn)×Nat×(List (cd×dP))×(List cn)
def df.L0.aM:df.L0.D->Prop:=λ(_,_,_,m,_,_,rest)=>((m++rest).map (·.1)).Nodup
def df.L0.F:df.L0.D->df.L0.Y:=λ(_,_,_,m,_,_,rest)=>iM (m++rest)
def df.aM:df.D->Prop:=λ(n,a,s)=>n<=s.length/\s.length<=1000000/\(a.map (·.1)).Nodup
def df.F:df.D->df.Y:=λ(n,a,s)=>(n,a,s,(s.take n).length,iM a,s.take n)
def df.L0:Ls df.L0.aM df.L0.add df.L0.F:=rX (λ(o0L,eQ,eA,n6,n11,uo,n18)=>⟨([.undef,.undef,.undef,.ptr (.new 13 0) 0 [] 0]++aT 14 ([.ptr (.new 18 0) 0 [] 0]++aT 12 [])),[.obj 0 false (.pr (.db (.aV 1) 0) (.pr (.aS (.aV 2) 0 [] 0 0 o0L) (.d .unit ()))),.obj 0 true (.mp b8 eR eQ),.obj 0 false (.vec 161 cE eA)],(ct 6 ([[.obj 0 false (.mp b8 eR n6)]]++ct 4 ([[.obj 0 false (.vec 161 cE n11)],[],[.obj 0 false (.pr (.db (.new 6 0) 0) (.pr (.aS (.new 11 0) 0 [] 0 0 uo) (.d .unit ())))]]++ct 4 ([[.obj 0 false (.nH (.aV 1) 1 b8 eR n18 none)]]++ct 12 []))))⟩) (λx=>(.exit 0,⟨([.undef,.undef,.undef,.ptr (.new 13 0) 0 [] 0]++aT 27 []),[.obj 0 false (.pr (.db (.aV 1) 0) (.pr (.aS (.aV 2) 0 [] 0 0 x.1.1) (.d .unit ()))),.obj 0 false (.mp b8 eR x.1.2.1),.obj 0 false (.vec 161 cE x.1.2.2.1)],(ct 6 ([[.obj 0 false (.mp b8 eR x.2)]]++ct 4 ([[.obj 0 false (.vec 161 cE x.1.2.2.2.1)],[],[.obj 0 false (.pr (.db (.new 6 0) 0) (.pr (.aS (.new 11 0) 0 [] 0 0 x.1.2.2.2.2) (.d .unit ())))]]++ct 17 [])))⟩))
def df:Fs Tryz.prog df.aM bP df.F:=gC 39 Tryz.f39 (λ(o0baL,o1,o2)=>([.ptr (.aV 0) 0 [] 0],[.obj 0 false (.pr (.db (.aV 1) 0) (.pr (.aS (.aV 2) 0 [] 0 0 o0baL) (.d .unit ()))),.obj 0 false (.mp b8 eR o1),.obj 0 false (.vec 161 cE o2)])) (λx=>⟨.ptr (.new 0 0) 0 [] 0,[.obj 0 false (.pr (.db (.aV 1) 0) (.pr (.aS (.aV 2) 0 [] 0 0 x.1) (.d .unit ()))),.obj 0 false (.mp b8 eR x.2.1),.obj 0 false (.vec 161 cE x.2.2.1)],[.obj 0 false (.pr (.db (.new 0 1) 0) (.pr (.aS (.new 0 2) 0 [] 0 0 x.2.2.2.1) (.d .unit ()))),.obj 0 false (.mp b8 eR x.2.2.2.2.1),.obj 0 false (.vec 161 cE x.2.2.2.2.2)]⟩) [none] [iQ.sg] {bK:=[13],loops:=pz [(3,{bo:=[3,18],sites:=[6,11,13,18],Uo:=[18]})],outs:=py [(3,{bo:=[3],sites:=[6,11,13],QL:=[(.new 6 0)]},{bo:=[2]})],iX:=lkn [(3,df.L0.E)]}
theorem df.L0.run:df.L0.RS:=rL [.n,.d (.slice (.pair b8 eR)),.d (.slice cE),.d (.slice (.pair b8 eR)),.d (.slice cE),.n,.d (.slice (.pair b8 eR))] df.L0
theorem df.L0.step{R:Type}(o0L eQ eA n6 n11 uo n18)(kn:K2 R)(kx:K3 R):df.R 0 df.L0 (o0L,eQ,eA,n6,n11,uo,n18) kn kx=
  aP (decide (0 < (List.length n18))) (
   OB (List.length n18) λj1=>
   kn (df.L0.st (o0L,eQ,eA,(iT b8 (qN b8 eR n18 j1).1 (qN b8 eR n18 j1).2 n6),n11,uo,(List.eraseIdx n18 j1)))) (
   df.L0.go kx ((o0L,eQ,eA,n11,uo),(iM n6))):=by kernel_rfl
theorem df.eq{R:Type}(o0baL o1 o2)(k:K1 R):df.A (o0baL,o1,o2) k=
 ah (iQ.call (o0baL,o2)) λx1=>
 ah (df.L0.call (o0baL,o1,x1.1,([]:List (cd×dP)),x1.2.2,x1.2.1,o1)) λx3=>
 k (df.out (x3.1.1,x3.1.2.1,x3.1.2.2.1,x3.1.2.2.2.2,x3.2,x3.1.2.2.2.1)):=by kernel_rfl
theorem df.L0.ok:(df.mL 0 df.L0):=by
 refine(df.UB 0 df.L0) (λ(_,_,_,_,_,_,rest)=>rest.length) ?_
 rintro⟨n,a,s,m,u,k0,rest⟩ hn
 have hn:((m++rest).map (·.1)).Nodup:=hn
 by_cases h:0 < rest.length
 ·left
  have e1:∀j,j < rest.length->iT b8 (qN b8 eR rest j).1 (qN b8 eR rest j).2 m=m++ [qN b8 eR rest j]:=λj hj=>by
   rw[rY jP]
   intro hm
   rw[List.map_append,List.nodup_append]at hn
   exact hn.2.2 _ hm _ (eJ.2 ⟨_,aL hj,by rw[ER hj]⟩) rfl
  have e2:∀j,j < rest.length->(m++ [qN b8 eR rest j]++rest.eraseIdx j).Perm (m++rest):=λj hj=>by
   rw[aD,ER hj]
   exact List.Perm.append_left _ (AD hj).symm
  refine⟨rest.length,λj=>(n,a,s,iT b8 (qN b8 eR rest j).1 (qN b8 eR rest j).2 m,u,k0,rest.eraseIdx j),h,λj hj=>⟨?_,?_,?_⟩,λkn kx=> ?_⟩
  ·show((iT b8 (qN b8 eR rest j).1 (qN b8 eR rest j).2 m++rest.eraseIdx j).map (·.1)).Nodup
   rw[e1 j hj]
   exact(((e2 j hj).map _).nodup_iff).2 hn
  ·show(rest.eraseIdx j).length < rest.length
   rw[List.length_eraseIdx,if_pos hj];omega
  ·simp only[df.L0.add,df.L0.F,e1 j hj]
   rw[Kl (e2 j hj)]
  ·rw[df.L0.step,aY h,ag]
 ·right
  obtain rfl:rest=[]:=bF (by omega)
  intro T kn kx
  rw[df.L0.step,cH h,al]
  simp only[df.L0.add,df.L0.F,bS]
theorem df.ok:df.Ok:=by
 rintro⟨n,a,s⟩ ⟨h1,h2,h3⟩
 have h1:n<=s.length:=h1
 have h2:s.length<=1000000:=h2
 rw[df.eq,iQ.run (d:=(n,s)) ⟨h1,h2⟩]
 simp only[ab,iQ.add,iQ.F]
 rw[df.L0.run (d:=(n,a,s,[],s.take n,(s.take n).length,a)) h3]
 simp only[ab,df.L0.add,df.L0.F,bP,df.F,aR]
theorem df.run:df.RS:=rE [.n,.d (.slice (.pair b8 eR)),.d (.slice cE)] df
def df.sg:=df.gG df.ok 1 ⟨.iR df.L0.ok,trivial⟩
abbrev gv.L0.D:=kO×Nat×Nat×Int×Int×Int×(List oV)
abbrev gv.L0.Y:=(List oV)×(List oV)
abbrev gv.L0.X:=(kO×Int)×((List oV)×(List oV))
def gv.L0.add:gv.L0.D->gv.L0.Y->gv.L0.X:=λ(RP,lL,sU,t11,t12,n2,n9) y=>((RP,n2),y)
abbrev gv.D:=kO
abbrev gv.Y:=kO
def VB(l:Lk):Prop:=l.1.length<=1000/\∀b∈l.1,b.1.length<=1000000
def gv.L0.aM:gv.L0.D->Prop:=λ(_,n,m,t,i,_,l)=>(l.length<=1000/\∀b∈l,b.1.length<=1000000)/\∃k:Nat,k<=l.length/\i=k/\n=l.length/\m=l.length/\t=l.length
def gv.L0.F:gv.L0.D->gv.L0.Y:=λ(_,_,_,_,_,_,l)=>(l,l)
def gv.aM:gv.D->Prop:=λo=>VB o.2.1
def gv.F:gv.D->gv.Y:=λo=>o
def gv.L0:Ls gv.L0.aM gv.L0.add gv.L0.F:=rX (λ(RP,lL,sU,t11,t12,n2,n9)=>⟨([.undef,.eD lO RP,.ptr (.new 2 0) 0 [] 0,.aS (.new 9 0) 0 [] 0 0 lL]++aT 6 ([.aS (.new 9 0) 0 [] 0 0 sU,.d ti t11,.d ti t12]++aT 17 [])),[],([[],[],[.obj 0 false (.pr (.d ti n2) (.pr (.pr (.di) (.d .unit ())) (.d .unit ())))]]++ct 6 ([[.obj 0 false (.vec 29 oK n9)]]++ct 20 []))⟩) (λx=>(.exit 0,⟨([.undef,.eD lO x.1.1,.ptr (.new 2 0) 0 [] 0,.d (.slice oK) x.2.1]++aT 26 []),[],([[],[],[.obj 0 false (.pr (.d ti x.1.2) (.pr (.pr (.di) (.d .unit ())) (.d .unit ())))]]++ct 6 ([[.obj 0 true (.vec 29 oK x.2.2)]]++ct 20 []))⟩))
def gv:Fs Tryz.prog gv.aM bP gv.F:=gC 78 Tryz.f78 (λo=>([.d lO o],[])) (λx=>⟨.d lO x,[],[]⟩) [some lO] [mX.sg,fY.sg] {loops:=pz [(3,{bo:=[1,2,3,10,11,12],sites:=[2,9]})],outs:=py [(3,{bo:=[1,2,3],sites:=[2,9],data:=[(3,(.slice oK))]},{bo:=[2]})],iX:=lkn [(3,gv.L0.E)],res:=[some lO]}
theorem gv.L0.run:gv.L0.RS:=rL [.d lO,.n,.n,.d ti,.d ti,.d ti,.d (.slice oK)] gv.L0
theorem gv.L0.step{R:Type}(RP lL sU t11 t12 n2 n9)(kn:K2 R)(kx:K3 R):gv.R 0 gv.L0 (RP,lL,sU,t11,t12,n2,n9) kn kx=
  aP ((jx t12 t11)) (
   aP (jn t12 ((sU:Nat):Int)) (
   aP (decide ((0+(Int.toNat t12)) < (List.length n9))) (
   aP (decide ((((0+(Int.toNat t12))*4)+0)=(0+((Int.toNat t12)*4)))) (
   ah (fY.call (nth oK n9 (0+(Int.toNat t12))).1) λx1=>
   aP (jn t12 ((lL:Nat):Int)) (
   aP (decide ((0+(Int.toNat t12)) < (List.length n9))) (
   aP (decide ((((0+(Int.toNat t12))*4)+0)=((0+((Int.toNat t12)*4))+0))) (
   aP (decide ((0+(Int.toNat t12)) < (List.length n9))) (
   kn (gv.L0.st (RP,lL,sU,t11,(cG .i64 t12 1),n2,(List.set n9 (0+(Int.toNat t12)) (x1,(nth oK n9 (0+(Int.toNat t12))).2))))) none) none) none) none) none) none) none) (
   aP (decide (0=0/\(0+lL)<=(List.length n9))) (
   gv.L0.go kx ((RP,n2),((cut n9 0 lL),n9))) none):=by kernel_rfl
theorem gv.eq{R:Type}(o)(k:K1 R):gv.A o k=
 ah (mX.call o.2.1.1) λx1=>
 ah (gv.L0.call (o,x1.1,x1.1,((x1.1:Nat):Int),0,0,x1.2)) λx3=>
 k (gv.out (x3.1.1.1,((x3.2.1,()),()))):=by kernel_rfl
theorem gv.L0.ok:(gv.mL 0 gv.L0):=by
 refine(gv.oH 0 gv.L0) (λ(_,_,_,_,i,_,l)=>l.length - i.toNat) ?_
 rintro⟨o,n,m,t,i,u,l⟩ ⟨⟨hlen,hx⟩,k,hk,rfl,rfl,rfl,rfl⟩
 have hlen:l.length<=1000:=hlen
 have hk:k<=l.length:=hk
 by_cases h:k < l.length
 ·left
  have n1:nth oK l k=l[k]:=dz (t:=oK) h
  have hs:l.set k l[k]=l:=gB h
  have e:=hx _ (aL h)
  refine⟨(o,l.length,l.length,(l.length:Int),((k+1:Nat):Int),u,l),⟨⟨hlen,hx⟩,k+1,by omega,rfl,rfl,rfl,rfl⟩,by simp only[aa];omega,rfl,λkn kx=> ?_⟩
  rw[gv.L0.step,bg (by omega),bG (by omega) (by omega)]
  simp only[aa,aI,cF,ag,aY h,decide_true,n1]
  rw[fY.run (d:=l[k].1) e]
  simp only[ab,bP,fY.F]
  rw[N.p9 (by omega)]
  exact congrArg (λz=>kn (gv.L0.st (_,_,_,_,_,_,z))) hs
 ·right
  obtain rfl:k=l.length:=by omega
  intro R kn kx
  rw[gv.L0.step,aX (by omega),al,aY (by omega),ag,gI rfl]
  rfl
theorem gv.ok:gv.Ok:=by
 rintro⟨a,⟨l,u⟩,v⟩ ⟨h1,h2⟩
 have h1:l.length<=1000:=h1
 rw[gv.eq,mX.run (d:=l) (by show l.length<=_;omega)]
 simp only[ab,bP,mX.F]
 rw[gv.L0.run (d:=((a,(l,u),v),l.length,l.length,(l.length:Int),0,0,l)) ⟨⟨h1,h2⟩,0,aK _,rfl,rfl,rfl,rfl⟩]
 rfl
theorem gv.run:gv.RS:=rE [.d lO] gv
def gv.sg:=gv.gG gv.ok 1 ⟨.iR gv.L0.ok,trivial⟩
abbrev bw.L0.D:=Int×(List kO)×Int×Int×(List (cd×dP))
def bw.L0.st:bw.L0.D->AS:=λ(sum,t13,t14,t15,n10)=>⟨([.undef,.undef,.undef,.ptr (.new 12 0) 0 [] 0,.d ti sum]++aT 8 ([.d (.slice lO) t13,.d ti t14,.d ti t15]++aT 35 [])),[],(ct 10 ([[.obj 0 false (.mp b8 eR n10)],[],[.obj 0 false (.pr (.db (.new 10 0) 0) (.pr (.di) (.d .unit ())))]]++ct 38 []))⟩
abbrev bw.L0.Y0:=Unit
abbrev bw.L0.X0:=Unit
def bw.L0.eG:bw.L0.X0->Exit×AS:=λx=>(.ret,⟨([.undef,.undef,.mO]++aT 48 []),[],(List.replicate 51 [])⟩)
abbrev bw.L0.Y1:=(List (cd×dP))
abbrev bw.L0.X1:=(List (cd×dP))
def bw.L0.gZ:bw.L0.X1->Exit×AS:=λx=>(.exit 0,⟨([.undef,.undef,.undef,.ptr (.new 12 0) 0 [] 0]++aT 47 []),[],(ct 10 ([[.obj 0 false (.mp b8 eR x)],[],[.obj 0 false (.pr (.db (.new 10 0) 0) (.pr (.di) (.d .unit ())))]]++ct 38 []))⟩)
abbrev bw.L0.X:=(bw.L0.X0)⊕(bw.L0.X1)
abbrev bw.L0.Y:=(bw.L0.Y0)⊕(bw.L0.Y1)
def bw.L0.out:bw.L0.X->Out (Exit×AS):=λx=> .br x.isLeft (.get x.getLeft? λa=> .ok (bw.L0.eG a)) (.get x.getRight? λb=> .ok (bw.L0.gZ b))
def bw.L0.add:bw.L0.D->bw.L0.Y->bw.L0.X:=λ(sum,t13,t14,t15,n10) y=>match y with | .inl y=> .inl y | .inr z=> .inr (z)
abbrev bw.D:=(List kO)
def bw.st:bw.D->SA:=λouts=>([.d (.slice lO) outs],[])
abbrev bw.Y:=(Unit)⊕((List (cd×dP))×(List cn))
abbrev bw.X:=(Unit)⊕((List (cd×dP))×(List cn))
def bw.out:bw.X->gV:=λx=>match x with | .inl x=>⟨.mO,[],[]⟩ | .inr x=>⟨.ptr (.new 0 0) 0 [] 0,[],[.obj 0 false (.pr (.db (.new 0 1) 0) (.pr (.aS (.new 0 2) 0 [] 0 0 0) (.d .unit ()))),.obj 0 false (.mp b8 eR x.1),.obj 0 false (.vec 161 cE x.2)]⟩
def bw.add:bw.D->bw.Y->bw.X:=λouts y=>match y with | .inl y=> .inl y | .inr y=> .inr y
def tV(k:Nat)(o:kO):cd×dP:=((List.replicate 32 (0:Int),((k:Int),())),(o,((0:Int),())))
def wS(sum:Int)(o:kO):Bool:=lN o.2.1 && decide (0<=o.1/\o.1<=1125899906842624 - sum)
def EO(sum:Int)(k:Nat):List kO->Option (List (cd×dP))
 |[]=>some []
 |o::l=>match wS sum o with | true=>(EO (sum+o.1) (k+1) l).map (tV k o:: ·) | false=>none
def K4(outs:List kO):Option (List (cd×dP)):=if outs.length<=256 then EO 0 0 outs else none
def Qv(o:kO):Prop:=J5 o.2.1/\o.2.1.1.length<=9223372036854775807/\o.1<=9223372036854775807
def bw.L0.aM:bw.L0.D->Prop:=λ(sum,outs,n,i,a)=>(∀o∈outs,Qv o)/\outs.length<=256/\0<=sum/\sum<=1125899906842624/\∃k:Nat,k<=outs.length/\i=k/\n=outs.length/\∀p∈a,p.1.2.1 < (k:Int)
def bw.L0.F:bw.L0.D->bw.L0.Y:=λ(sum,outs,_,i,a)=>match EO sum i.toNat (outs.drop i.toNat) with | none=> .inl () | some r=> .inr (a++r)
def bw.aM:bw.D->Prop:=λouts=>∀o∈outs,Qv o
def bw.F:bw.D->bw.Y:=λouts=>match K4 outs with | none=> .inl () | some r=> .inr (r,[])
def bw.G:mR:=oo (P:=Tryz.prog) [aW.sg,gv.sg]
def bw.L0.E:=eE.iR bw.L0.st bw.L0.aM bw.L0.add bw.L0.F bw.L0.out
def bw.L0.call:bw.L0.D->Option bw.L0.X:=j9 bw.L0.E bw.L0.st
def bw.an:rM:= {bK:=[12],loops:=pz [(5,{bo:=[3,4,13,14,15],sites:=[10,12]})],outs:=py [(5,{bo:=[3],sites:=[10,12]},{bo:=[2]})],iX:=lkn [(5,bw.L0.E)],owns:=[⟨2,[.snd,.fst],0,148⟩]}
def bw.A:= @zJ Tryz.prog bw.G bw.an 0 Tryz.f27 _ bw.st
abbrev bw.Ok:=CB @bw.A bw.aM bw.add bw.F bw.out
def bw.L0.R:= @gN Tryz.prog bw.G bw.an 0 Tryz.f27 0 _ bw.L0.st
abbrev bw.L0.Ok:=mS Tryz.prog bw.G bw.an 0 Tryz.f27 0 bw.L0.st bw.L0.aM bw.L0.add bw.L0.F bw.L0.out
theorem bw.L0.run:kF bw.L0.call bw.L0.aM bw.L0.add bw.L0.F:=oU (oR [.d ti,.d (.slice lO),.d ti,.d ti,.d (.slice (.pair b8 eR))] λ_=>by kernel_rfl)
theorem bw.L0.cM:qa @bw.L0.R bw.L0.st bw.L0.aM bw.L0.add bw.L0.F bw.L0.out bw.L0.Ok:=qC
theorem bw.L0.step{R:Type}(sum:Int)(t13:(List kO))(t14:Int)(t15:Int)(n10:(List (cd×dP)))(kn:AS->Option R)(kx:Exit->AS->Option R):bw.L0.R (sum,t13,t14,t15,n10) kn kx=
  aP ((jx t15 t14)) (
   aP (jn t15 (((List.length t13):Nat):Int)) (
   ah (aW.call (nth lO t13 (Int.toNat t15)).2.1) λx1=>
   aP ((!x1)) (
    kx (bw.L0.eG ()).1 (bw.L0.eG ()).2) (
    aP ((jx (nth lO t13 (Int.toNat t15)).1 (0:Int))) (
     kx (bw.L0.eG ()).1 (bw.L0.eG ()).2) (
     aP ((uK (nth lO t13 (Int.toNat t15)).1 (dJ .i64 (1125899906842624:Int) sum))) (
      kx (bw.L0.eG ()).1 (bw.L0.eG ()).2) (
      ah (gv.call (nth lO t13 (Int.toNat t15))) λx2=>
      kn (bw.L0.st ((cG .i64 sum (nth lO t13 (Int.toNat t15)).1),t13,t14,(cG .i64 t15 (1:Int)),(iT b8 ((List.replicate 32 (0:Int)),(t15,())) (x2,((0:Int),())) n10))))))) none) (
   kx (bw.L0.gZ n10).1 (bw.L0.gZ n10).2):=by kernel_rfl
theorem bw.eq{R:Type}(outs:(List kO))(k:gV->Option R):bw.A outs k=
  aP ((uK (((List.length outs):Nat):Int) (256:Int))) (
   k (bw.out (.inl ()))) (
   ah (bw.L0.call ((0:Int),outs,(((List.length outs):Nat):Int),(0:Int),([]:List (cd×dP)))) λx3=>
   aP (x3.isLeft) (
    ah (x3.getLeft?) λa4=>
    k (bw.out (.inl ()))) (
    ah (x3.getRight?) λb5=>
    k (bw.out (.inr (b5,([]:List cn)))))):=by kernel_rfl
theorem bw.L0.ok:bw.L0.Ok:=by
 refine bw.L0.cM (λ(_,outs,_,i,_)=>outs.length - i.toNat) ?_
 rintro⟨sum,outs,n,i,a⟩ ⟨hg,hl,h0,h1,k,hk,rfl,rfl,hf⟩
 have h0:0<=sum:=h0
 have h1:sum<=1125899906842624:=h1
 have hl:outs.length<=256:=hl
 have hk:k<=outs.length:=hk
 by_cases h:k < outs.length
 ·obtain⟨g1,g2,g3⟩:=hg _ (aL h)
  have n1:nth lO outs k=outs[k]:=dz (t:=lO) h
  have hd:outs.drop k=outs[k]::outs.drop (k+1):=ax h
  have hs:∀ {R:Type} (kn:AS->Option R) (kx:Exit->AS->Option R),bw.L0.R (sum,outs,(outs.length:Int),(k:Int),a) kn kx=
    aP (!(lN outs[k].2.1)) (kx (bw.L0.eG ()).1 (bw.L0.eG ()).2) (aP (jx outs[k].1 0) (kx (bw.L0.eG ()).1 (bw.L0.eG ()).2) (aP (uK outs[k].1 (1125899906842624 - sum)) (kx (bw.L0.eG ()).1 (bw.L0.eG ()).2)
     (ah (gv.call outs[k]) λx2=>kn (bw.L0.st ((cG .i64 sum outs[k].1),outs,(outs.length:Int),(cG .i64 (k:Int) (1:Int)),(iT b8 ((List.replicate 32 (0:Int)),((k:Int),())) (x2,((0:Int),())) a)))))):=λkn kx=>by
   rw[bw.L0.step,bg (by omega),ag,bG (by omega) (by omega),ag,aa,n1,aW.run (d:=outs[k].2.1) ⟨g1,g2⟩,fP (by omega) (by omega)]
   rfl
  by_cases jU:wS sum outs[k]=true
  ·left
   have hok':=jU
   unfold wS at hok'
   simp only[aj,decide_eq_true_eq]at hok'
   obtain⟨k1,k2,k3⟩:=hok'
   have Fb:=Bb k1
   refine⟨(sum+outs[k].1,outs,(outs.length:Int),((k+1:Nat):Int),a++ [tV k outs[k]]),⟨hg,hl,by show 0<=sum+outs[k].1;omega,by show sum+outs[k].1<=_;omega,k+1,by omega,rfl,rfl,λp hp=> ?_⟩,by simp only[aa];omega,?_,λkn kx=> ?_⟩
   ·rcases bt.1 hp with hp | hp
    ·have:=hf p hp;omega
    ·rw[bI.1 hp];show(k:Int) < _;omega
   ·simp only[bw.L0.add,bw.L0.F,aa,hd,EO,jU]
    cases EO (sum+outs[k].1) (k+1) (outs.drop (k+1)) with
    |none=>rfl
    |some r=>simp only[ee,aD,dN]
   ·rw[hs,k1,dj,al,aX (by omega),al,eC (by omega),al,gv.run (d:=outs[k]) ⟨by omega,λb hb=>by have:=Fb.2 b hb;omega⟩]
    simp only[ab,bP,gv.F]
    rw[fX (by omega) (by omega),N.p9 (by omega),rY jP]
    ·rfl
    ·intro hm
     obtain⟨p,hp,he⟩:=eJ.1 hm
     have:=hf p hp
     have he:p.1=_:=he
     rw[he]at this
     have this:(k:Int) < k:=this
     omega
  ·right
   have OW:wS sum outs[k]=false:=by simpa using jU
   refine⟨bw.L0.eG (),?_,λkn kx=> ?_⟩
   rotate_left
   ·rw[hs]
    unfold wS at OW
    cases k1:lN outs[k].2.1 with
    |false=>rw[ia,ag]
    |true=>
     rw[k1]at OW
     simp only[ez,decide_eq_false_iff_not]at OW
     rw[dj,al]
     by_cases k2:outs[k].1 < 0
     ·rw[bg k2,ag]
     ·rw[aX k2,al,eY (by omega),ag]
   ·simp only[bw.L0.add,bw.L0.F,aa,hd,EO,OW]
    rfl
 ·right
  obtain rfl:k=outs.length:=by omega
  refine⟨bw.L0.gZ a,?_,λkn kx=> ?_⟩
  rotate_left
  ·rw[bw.L0.step,aX (by omega),al]
  ·simp only[bw.L0.add,bw.L0.F,aa,aZ,EO,bS]
   rfl
theorem bw.ok:bw.Ok:=by
 intro outs hg
 rw[bw.eq]
 simp only[bw.add,bw.F,K4]
 by_cases h:outs.length<=256
 ·rw[eC (by omega),al,bw.L0.run (d:=(0,outs,(outs.length:Int),0,[])) ⟨hg,h,by decide,by decide,0,aK _,rfl,rfl,λp hp=>by cases hp⟩,if_pos h]
  simp only[ab,bw.L0.add,bw.L0.F,bN,aJ]
  cases EO 0 0 outs with
  |none=>rfl
  |some r=>rfl
 ·rw[eY (by omega),ag,if_neg h]
def bw.E:=Entry.Bh [some (.slice lO)] bw.st bw.aM bw.add bw.F bw.out
def bw.call:bw.D->Option bw.X:=vT bw.E bw.st
theorem bw.run:kF bw.call bw.aM bw.add bw.F:=zD (EF [.d (.slice lO)] λ_=>by kernel_rfl)
def bw.sg:SG Tryz.prog:=⟨27,om,bw.E,.of (.PB (.fn 1 (by kernel_rfl) bw.ok (And.intro (.iR bw.L0.ok (by kernel_rfl)) trivial))) (by rfl)⟩
def UZ(c:dP):Prop:=lN c.1.2.1=true/\J5 c.1.2.1/\0<=c.1.1/\c.1.1<=1125899906842624/\0<=c.2.1/\c.2.1<=1048576
def Fg(a:List (cd×dP)):Prop:=(a.map (·.1)).Nodup/\∀p∈a,Qu p.1/\UZ p.2
theorem Fg.get{a:List (cd×dP)}(h:Fg a){o:cd}{c:dP}(hg:dG b8 o a=some c):UZ c:=(h.2 _ ((kJ jP h.1).1 hg)).2
def Ho:dP:=((0,(([],()),())),(0,()))
theorem UZ.own{c:dP}(h:UZ c):VB c.1.2.1:=by
 have:=Bb h.1
 exact⟨by omega,λb hb=>by have:=this.2 b hb;omega⟩
abbrev nN.D:=cd×Nat×(List (cd×dP))×(List cn)
abbrev nN.Y:=dP×Bool
abbrev nN.X:=(Nat×(List (cd×dP))×(List cn))×(dP×Bool)
def nN.add:nN.D->nN.Y->nN.X:=λ(o,o0baL,o1,o2) y=>((o0baL,o1,o2),y)
def nN.aM:nN.D->Prop:=λ(_,_,a,_)=>Fg a
def nN.F:nN.D->nN.Y:=λ(o,_,a,_)=>((dG b8 o a).getD Ho,(dG b8 o a).isSome)
def nN:Fs Tryz.prog nN.aM nN.add nN.F:=gC 34 Tryz.f34 (λ(o,o0baL,o1,o2)=>([.ptr (.aV 0) 0 [] 0,.d b8 o],[.obj 0 false (.pr (.db (.aV 1) 0) (.pr (.aS (.aV 2) 0 [] 0 0 o0baL) (.d .unit ()))),.obj 0 false (.mp b8 eR o1),.obj 0 false (.vec 161 cE o2)])) (λx=>⟨.cons (.d eR x.2.1) (.cons (.d .bool x.2.2) (.nil)),[.obj 0 false (.pr (.db (.aV 1) 0) (.pr (.aS (.aV 2) 0 [] 0 0 x.1.1) (.d .unit ()))),.obj 0 false (.mp b8 eR x.1.2.1),.obj 0 false (.vec 161 cE x.1.2.2)],[]⟩) [none,some b8] [gv.sg] {res:=[some eR,none]}
theorem nN.run:nN.RS:=rE [.d b8,.n,.d (.slice (.pair b8 eR)),.d (.slice cE)] nN
abbrev aG.L0.D:=Int×eZ×Int×(List kC)×Int×Int×Nat×(List (cd×dP))×(List cn)×Bs
def aG.L0.st:aG.L0.D->AS:=λ(fD,vz,lY,t35,t36,t37,o0L,eQ,eA,n8)=>⟨([.ptr (.aV 0) 0 [] 0,.undef,.d ti fD,.undef,.eD gU vz,.undef,.undef,.undef,.ptr (.new 8 0) 0 [] 0,.d ti lY]++aT 25 ([.d (.slice jo) t35,.d ti t36,.d ti t37]++aT 69 [])),[.obj 0 false (.pr (.db (.aV 1) 0) (.pr (.aS (.aV 2) 0 [] 0 0 o0L) (.d .unit ()))),.obj 0 false (.mp b8 eR eQ),.obj 0 false (.vec 161 cE eA)],(ct 8 ([[.obj 0 false (.d tH n8)]]++ct 98 []))⟩
abbrev aG.L0.Y0:=Int
abbrev aG.L0.X0:=(Nat×(List (cd×dP))×(List cn))×(Int)
def aG.L0.eG:aG.L0.X0->Exit×AS:=λx=>(.ret,⟨(aT 6 ([.d ti (0:Int),.d ti x.2]++aT 99 [])),[.obj 0 false (.pr (.db (.aV 1) 0) (.pr (.aS (.aV 2) 0 [] 0 0 x.1.1) (.d .unit ()))),.obj 0 false (.mp b8 eR x.1.2.1),.obj 0 false (.vec 161 cE x.1.2.2)],(List.replicate 107 [])⟩)
abbrev aG.L0.Y1:=Int
abbrev aG.L0.X1:=(eZ×Nat×(List (cd×dP))×(List cn))×(Int)
def aG.L0.gZ:aG.L0.X1->Exit×AS:=λx=>(.exit 0,⟨([.ptr (.aV 0) 0 [] 0,.undef,.undef,.undef,.eD gU x.1.1]++aT 4 ([.d ti x.2]++aT 97 [])),[.obj 0 false (.pr (.db (.aV 1) 0) (.pr (.aS (.aV 2) 0 [] 0 0 x.1.2.1) (.d .unit ()))),.obj 0 false (.mp b8 eR x.1.2.2.1),.obj 0 false (.vec 161 cE x.1.2.2.2)],(List.replicate 107 [])⟩)
abbrev aG.L0.X:=(aG.L0.X0)⊕(aG.L0.X1)
abbrev aG.L0.Y:=(aG.L0.Y0)⊕(aG.L0.Y1)
def aG.L0.out:aG.L0.X->Out (Exit×AS):=λx=> .br x.isLeft (.get x.getLeft? λa=> .ok (aG.L0.eG a)) (.get x.getRight? λb=> .ok (aG.L0.gZ b))
def aG.L0.add:aG.L0.D->aG.L0.Y->aG.L0.X:=λ(fD,vz,lY,t35,t36,t37,o0L,eQ,eA,n8) y=>match y with | .inl y=> .inl ((o0L,eQ,eA),y) | .inr z=> .inr (((vz,o0L,eQ,eA),z))
abbrev aG.L1.D:=eZ×Int×(List cd)×Int×Int×Nat×(List (cd×dP))×(List cn)
def aG.L1.st:aG.L1.D->AS:=λ(An,zb,t75,t76,t77,gY,mi,iJ)=>⟨([.ptr (.aV 0) 0 [] 0,.undef,.undef,.undef,.eD gU An]++aT 4 ([.d ti zb]++aT 65 ([.d (.slice b8) t75,.d ti t76,.d ti t77]++aT 29 []))),[.obj 0 false (.pr (.db (.aV 1) 0) (.pr (.aS (.aV 2) 0 [] 0 0 gY) (.d .unit ()))),.obj 0 false (.mp b8 eR mi),.obj 0 false (.vec 161 cE iJ)],(List.replicate 107 [])⟩
abbrev aG.L1.Y0:=Unit
abbrev aG.L1.X0:=Nat×(List (cd×dP))×(List cn)
def aG.L1.eG:aG.L1.X0->Exit×AS:=λx=>(.ret,⟨(aT 6 ([.d ti (0:Int),.d ti (4:Int)]++aT 99 [])),[.obj 0 false (.pr (.db (.aV 1) 0) (.pr (.aS (.aV 2) 0 [] 0 0 x.1) (.d .unit ()))),.obj 0 false (.mp b8 eR x.2.1),.obj 0 false (.vec 161 cE x.2.2)],(List.replicate 107 [])⟩)
abbrev aG.L1.Y1:=Unit
abbrev aG.L1.X1:=eZ×Int×Nat×(List (cd×dP))×(List cn)
def aG.L1.gZ:aG.L1.X1->Exit×AS:=λx=>(.exit 2,⟨(aT 4 ([.eD gU x.1]++aT 4 ([.d ti x.2.1]++aT 97 []))),[.obj 0 false (.pr (.db (.aV 1) 0) (.pr (.aS (.aV 2) 0 [] 0 0 x.2.2.1) (.d .unit ()))),.obj 0 false (.mp b8 eR x.2.2.2.1),.obj 0 false (.vec 161 cE x.2.2.2.2)],(List.replicate 107 [])⟩)
abbrev aG.L1.X:=(aG.L1.X0)⊕(aG.L1.X1)
abbrev aG.L1.Y:=(aG.L1.Y0)⊕(aG.L1.Y1)
def aG.L1.out:aG.L1.X->Out (Exit×AS):=λx=> .br x.isLeft (.get x.getLeft? λa=> .ok (aG.L1.eG a)) (.get x.getRight? λb=> .ok (aG.L1.gZ b))
def aG.L1.add:aG.L1.D->aG.L1.Y->aG.L1.X:=λ(An,zb,t75,t76,t77,gY,mi,iJ) y=>match y with | .inl y=> .inl (gY,mi,iJ) | .inr z=> .inr ((An,zb,gY,mi,iJ))
abbrev aG.L2.D:=Int×(List kO)×Int×Int×Nat×(List (cd×dP))×(List cn)
abbrev aG.L2.Y:=Int
abbrev aG.L2.X:=(Nat×(List (cd×dP))×(List cn))×(Int)
def aG.L2.add:aG.L2.D->aG.L2.Y->aG.L2.X:=λ(Di,t93,t94,t95,BI,Ix,Iy) y=>((BI,Ix,Iy),y)
abbrev aG.D:=eZ×Int×Nat×(List (cd×dP))×(List cn)
abbrev aG.Y:=Int×Int×Nat×(List (cd×dP))×(List cn)
def rj(h:Int)(id:List Int)(a:List (cd×dP)):List kC->Int->Int⊕Int
 |[],lY=> .inr lY
 |x::l,lY=>match dG b8 x.1 a with
  |none=> .inl 5
  |some c=>if qu c.1.2.1 x.2.1 id h (h - c.2.1)≠0 then .inl (qu c.1.2.1 x.2.1 id h (h - c.2.1)) else rj h id a l (lY+c.1.1)
def pv(a:List (cd×dP))(o:cd):Bool:=(dG b8 o a).isSome
def mP(l:List kO):Int:=(l.map (·.1)).sum
def e7(t:eZ)(h:Int)(a:List (cd×dP)):Int×Int:=
 if jk t=true/\1<=h/\h<=1048576 then
  match rj h (lW t) a t.1 0 with
  | .inl e=>(0,e)
  | .inr lY=>if(iq t).any (pv a)=true then(0,4) else if lY - mP t.2.1 < 0 then(0,8) else(lY - mP t.2.1,0)
 else(0,1)
def aG.L0.aM:aG.L0.D->Prop:=λ(h,_,lY,l,n,i,_,a,_,id)=>(0<=h/\h<=1048576)/\Sm id/\l.length<=64/\(∀x∈l,Xz x)/\Fg a/\∃k:Nat,k<=l.length/\i=k/\n=l.length/\0<=lY/\lY<=(k:Int)*1125899906842624
def aG.L0.F:aG.L0.D->aG.L0.Y:=λ(h,_,lY,l,_,i,_,a,_,id)=>rj h id a (l.drop i.toNat) lY
def aG.L1.aM:aG.L1.D->Prop:=λ(_,_,l,n,i,_,_,_)=>l.length<=1000/\∃k:Nat,k<=l.length/\i=k/\n=l.length
def aG.L1.F:aG.L1.D->aG.L1.Y:=λ(_,_,l,_,i,_,a,_)=>if(l.drop i.toNat).any (pv a)=true then .inl () else .inr ()
def aG.L2.aM:aG.L2.D->Prop:=λ(lY,l,n,i,_,_,_)=>l.length<=64/\(∀o∈l,0<=o.1/\o.1<=1125899906842624)/\∃k:Nat,k<=l.length/\i=k/\n=l.length/\ -((k:Int)*1125899906842624)<=lY/\lY<=1000000000000000000
def aG.L2.F:aG.L2.D->aG.L2.Y:=λ(lY,l,_,i,_,_,_)=>lY - mP (l.drop i.toNat)
def aG.aM:aG.D->Prop:=λ(t,_,_,a,_)=>rJ t/\Fg a
def aG.F:aG.D->aG.Y:=λ(t,h,n,a,s)=>((e7 t h a).1,(e7 t h a).2,n,a,s)
def aG.L0.E:=eE.iR aG.L0.st aG.L0.aM aG.L0.add aG.L0.F aG.L0.out
def aG.L0.call:aG.L0.D->Option aG.L0.X:=j9 aG.L0.E aG.L0.st
def aG.L1.E:=eE.iR aG.L1.st aG.L1.aM aG.L1.add aG.L1.F aG.L1.out
def aG.L1.call:aG.L1.D->Option aG.L1.X:=j9 aG.L1.E aG.L1.st
def aG.L2:Ls aG.L2.aM aG.L2.add aG.L2.F:=rX (λ(Di,t93,t94,t95,BI,Ix,Iy)=>⟨(aT 9 ([.d ti Di]++aT 83 ([.d (.slice lO) t93,.d ti t94,.d ti t95]++aT 11 []))),[.obj 0 false (.pr (.db (.aV 1) 0) (.pr (.aS (.aV 2) 0 [] 0 0 BI) (.d .unit ()))),.obj 0 false (.mp b8 eR Ix),.obj 0 false (.vec 161 cE Iy)],(List.replicate 107 [])⟩) (λx=>(.exit 4,⟨(aT 9 ([.d ti x.2]++aT 97 [])),[.obj 0 false (.pr (.db (.aV 1) 0) (.pr (.aS (.aV 2) 0 [] 0 0 x.1.1) (.d .unit ()))),.obj 0 false (.mp b8 eR x.1.2.1),.obj 0 false (.vec 161 cE x.1.2.2)],(List.replicate 107 [])⟩))
def aG:Fs Tryz.prog aG.aM bP aG.F:=gC 29 Tryz.f29 (λ(t,height,o0baL,o1,o2)=>([.ptr (.aV 0) 0 [] 0,.d gU t,.d ti height],[.obj 0 false (.pr (.db (.aV 1) 0) (.pr (.aS (.aV 2) 0 [] 0 0 o0baL) (.d .unit ()))),.obj 0 false (.mp b8 eR o1),.obj 0 false (.vec 161 cE o2)])) (λx=>⟨.cons (.d ti x.1) (.cons (.d ti x.2.1) (.nil)),[.obj 0 false (.pr (.db (.aV 1) 0) (.pr (.aS (.aV 2) 0 [] 0 0 x.2.2.1) (.d .unit ()))),.obj 0 false (.mp b8 eR x.2.2.2.1),.obj 0 false (.vec 161 cE x.2.2.2.2)],[]⟩) [none,some gU,some ti] [az.sg,tid.sg,bR.sg,eI.sg] {loops:=pz [(5,{bo:=[0,2,4,8,9,35,36,37],sites:=[8]}),(16,{bo:=[0,4,9,75,76,77]}),(23,{bo:=[9,93,94,95]})],outs:=py [(5,{bo:=[0,4,9]},{bo:=[6,7]}),(16,{bo:=[4,9]},{bo:=[6,7]}),(23,{bo:=[9]},{bo:=[6,7]})],iX:=lkn [(5,aG.L0.E),(16,aG.L1.E),(23,aG.L2.E)]}
def aG.L0.R:= @gN Tryz.prog (oo aG.G) aG.an 0 Tryz.f29 0 _ aG.L0.st
abbrev aG.L0.Ok:=mS Tryz.prog (oo aG.G) aG.an 0 Tryz.f29 0 aG.L0.st aG.L0.aM aG.L0.add aG.L0.F aG.L0.out
def aG.L1.R:= @gN Tryz.prog (oo aG.G) aG.an 0 Tryz.f29 1 _ aG.L1.st
abbrev aG.L1.Ok:=mS Tryz.prog (oo aG.G) aG.an 0 Tryz.f29 1 aG.L1.st aG.L1.aM aG.L1.add aG.L1.F aG.L1.out
theorem aG.L0.run:kF aG.L0.call aG.L0.aM aG.L0.add aG.L0.F:=oU (oR [.d ti,.d gU,.d ti,.d (.slice jo),.d ti,.d ti,.n,.d (.slice (.pair b8 eR)),.d (.slice cE),.d tB] λ_=>by kernel_rfl)
theorem aG.L0.cM:qa @aG.L0.R aG.L0.st aG.L0.aM aG.L0.add aG.L0.F aG.L0.out aG.L0.Ok:=qC
theorem aG.L0.step{R:Type}(fD:Int)(vz:eZ)(lY:Int)(t35:(List kC))(t36:Int)(t37:Int)(o0L:Nat)(eQ:(List (cd×dP)))(eA:(List cn))(n8:Bs)(kn:AS->Option R)(kx:Exit->AS->Option R):aG.L0.R (fD,vz,lY,t35,t36,t37,o0L,eQ,eA,n8) kn kx=
  aP ((jx t37 t36)) (
   aP (jn t37 (((List.length t35):Nat):Int)) (
   aP ((!(dG b8 (nth jo t35 (Int.toNat t37)).1 eQ).isSome)) (
    kx (aG.L0.eG ((o0L,eQ,eA),(5:Int))).1 (aG.L0.eG ((o0L,eQ,eA),(5:Int))).2) (
    ah (bR.call (((dG b8 (nth jo t35 (Int.toNat t37)).1 eQ).getD (((0:Int),((([]:List oV),()),())),((0:Int),()))).1.2.1,(nth jo t35 (Int.toNat t37)).2.1,n8,fD,(dJ .i64 fD ((dG b8 (nth jo t35 (Int.toNat t37)).1 eQ).getD (((0:Int),((([]:List oV),()),())),((0:Int),()))).2.1))) λx1=>
    aP ((w8 x1 (0:Int))) (
     kx (aG.L0.eG ((o0L,eQ,eA),x1)).1 (aG.L0.eG ((o0L,eQ,eA),x1)).2) (
     kn (aG.L0.st (fD,vz,(cG .i64 lY ((dG b8 (nth jo t35 (Int.toNat t37)).1 eQ).getD (((0:Int),((([]:List oV),()),())),((0:Int),()))).1.1),t35,t36,(cG .i64 t37 (1:Int)),o0L,eQ,eA,n8))))) none) (
   kx (aG.L0.gZ ((vz,o0L,eQ,eA),lY)).1 (aG.L0.gZ ((vz,o0L,eQ,eA),lY)).2):=by kernel_rfl
theorem aG.L1.run:kF aG.L1.call aG.L1.aM aG.L1.add aG.L1.F:=oU (oR [.d gU,.d ti,.d (.slice b8),.d ti,.d ti,.n,.d (.slice (.pair b8 eR)),.d (.slice cE)] λ_=>by kernel_rfl)
theorem aG.L1.cM:qa @aG.L1.R aG.L1.st aG.L1.aM aG.L1.add aG.L1.F aG.L1.out aG.L1.Ok:=qC
theorem aG.L1.step{R:Type}(An:eZ)(zb:Int)(t75:(List cd))(t76:Int)(t77:Int)(gY:Nat)(mi:(List (cd×dP)))(iJ:(List cn))(kn:AS->Option R)(kx:Exit->AS->Option R):aG.L1.R (An,zb,t75,t76,t77,gY,mi,iJ) kn kx=
  aP ((jx t77 t76)) (
   aP (jn t77 (((List.length t75):Nat):Int)) (
   aP ((dG b8 (nth b8 t75 (Int.toNat t77)) mi).isSome) (
    kx (aG.L1.eG (gY,mi,iJ)).1 (aG.L1.eG (gY,mi,iJ)).2) (
    kn (aG.L1.st (An,zb,t75,t76,(cG .i64 t77 (1:Int)),gY,mi,iJ)))) none) (
   kx (aG.L1.gZ (An,zb,gY,mi,iJ)).1 (aG.L1.gZ (An,zb,gY,mi,iJ)).2):=by kernel_rfl
theorem aG.L2.run:aG.L2.RS:=rL [.d ti,.d (.slice lO),.d ti,.d ti,.n,.d (.slice (.pair b8 eR)),.d (.slice cE)] aG.L2
theorem aG.L2.step{R:Type}(Di t93 t94 t95 BI Ix Iy)(kn:K2 R)(kx:K3 R):aG.R 2 aG.L2 (Di,t93,t94,t95,BI,Ix,Iy) kn kx=
  aP ((jx t95 t94)) (
   aP (jn t95 (t93.length:Int)) (
   kn (aG.L2.st ((dJ .i64 Di (nth lO t93 (Int.toNat t95)).1),t93,t94,(cG .i64 t95 1),BI,Ix,Iy))) none) (
   aG.L2.go kx ((BI,Ix,Iy),Di)):=by kernel_rfl
theorem aG.eq{R:Type}(t height o0baL o1 o2)(k:K1 R):aG.A (t,height,o0baL,o1,o2) k=
  ah (az.call t) λx1=>
  aP ((!x1)) (
   k (aG.out (0,1,o0baL,o1,o2))) (
   aP ((jx height 1)) (
    k (aG.out (0,1,o0baL,o1,o2))) (
    aP ((uK height 1048576)) (
     k (aG.out (0,1,o0baL,o1,o2))) (
     ah (tid.call t) λx2=>
     ah (aG.L0.call (height,t,0,t.1,(t.1.length:Int),0,o0baL,o1,o2,x2)) λx4=>
     aP (x4.isLeft) (
      ah (x4.getLeft?) λa5=>
      k (aG.out (0,a5.2,a5.1.1,a5.1.2.1,a5.1.2.2))) (
      ah (x4.getRight?) λb6=>
      ah (eI.call b6.1.1) λx7=>
      ah (aG.L1.call (b6.1.1,b6.2,x7,(x7.length:Int),0,b6.1.2.1,b6.1.2.2.1,b6.1.2.2.2)) λx8=>
      aP (x8.isLeft) (
       ah (x8.getLeft?) λa9=>
       k (aG.out (0,4,a9.1,a9.2.1,a9.2.2))) (
       ah (x8.getRight?) λb10=>
       ah (aG.L2.call (b10.2.1,b10.1.2.1,(b10.1.2.1.length:Int),0,b10.2.2.1,b10.2.2.2.1,b10.2.2.2.2)) λAo=>
       aP ((jx Ao.2 0)) (
        k (aG.out (0,8,Ao.1.1,Ao.1.2.1,Ao.1.2.2))) (
        k (aG.out (Ao.2,0,Ao.1.1,Ao.1.2.1,Ao.1.2.2)))))))):=by kernel_rfl
theorem aG.L0.ok:aG.L0.Ok:=by
 refine aG.L0.cM (λ(_,_,_,l,_,i,_,_,_,_)=>l.length - i.toNat) ?_
 rintro⟨h,t,lY,l,n,i,o,a,s,id⟩ ⟨⟨Wd,We⟩,dq,hl,hu,ha,k,hk,rfl,rfl,TN,PV⟩
 have Wd:0<=h:=Wd
 have We:h<=1048576:=We
 have hl:l.length<=64:=hl
 have TN:0<=lY:=TN
 have PV:lY<=(k:Int)*1125899906842624:=PV
 have hk:k<=l.length:=hk
 by_cases iv:k < l.length
 ·have hx:=hu _ (aL iv)
  have n1:nth jo l k=l[k]:=dz (t:=jo) iv
  have hd:l.drop k=l[k]::l.drop (k+1):=ax iv
  cases hg:dG b8 l[k].1 a with
  |none=>
   right
   refine⟨aG.L0.eG ((o,a,s),5),?_,λkn kx=> ?_⟩
   rotate_left
   ·rw[aG.L0.step,bg (by omega),ag,bG (by omega) (by omega),ag,aa,n1,hg]
    simp only[Option.isSome_none,ia,ag]
   ·simp only[aG.L0.add,aG.L0.F,aa,hd,rj,hg]
    rfl
  |some c=>
   have hc:=ha.get hg
   obtain⟨c1,c2,c3,c4,c5,c6⟩:=hc
   have lZ:∀ {R:Type} (kn:AS->Option R) (kx:Exit->AS->Option R),aG.L0.R (h,t,lY,l,(l.length:Int),(k:Int),o,a,s,id) kn kx=
     aP (w8 (qu c.1.2.1 l[k].2.1 id h (h - c.2.1)) 0) (kx (aG.L0.eG ((o,a,s),qu c.1.2.1 l[k].2.1 id h (h - c.2.1))).1 (aG.L0.eG ((o,a,s),qu c.1.2.1 l[k].2.1 id h (h - c.2.1))).2)
      (kn (aG.L0.st (h,t,lY+c.1.1,l,(l.length:Int),((k+1:Nat):Int),o,a,s,id))):=λkn kx=>by
    rw[aG.L0.step,bg (by omega),ag,bG (by omega) (by omega),ag,aa,n1,hg]
    simp only[Option.isSome_some,dj,al,dW]
    rw[fP (by omega) (by omega),bR.run (d:=(c.1.2.1,l[k].2.1,id,h,h - c.2.1)) ⟨c2,by have:=Bb c1;omega,hx.2.1,dq⟩]
    simp only[ab,bP,bR.F]
    rw[fX (by omega) (by omega),N.p9 (by omega)]
   by_cases he:qu c.1.2.1 l[k].2.1 id h (h - c.2.1)=0
   ·left
    refine⟨(h,t,lY+c.1.1,l,(l.length:Int),((k+1:Nat):Int),o,a,s,id),⟨⟨Wd,We⟩,dq,hl,hu,ha,k+1,by omega,rfl,rfl,by show 0<=lY+c.1.1;omega,by show lY+c.1.1<=_;omega⟩,by simp only[aa];omega,?_,λkn kx=> ?_⟩
    ·simp only[aG.L0.add,aG.L0.F,aa,hd,rj,hg,he,ne_eq,not_true_eq_false,if_false]
    ·rw[lZ,ff he,al]
   ·right
    refine⟨aG.L0.eG ((o,a,s),qu c.1.2.1 l[k].2.1 id h (h - c.2.1)),?_,λkn kx=> ?_⟩
    rotate_left
    ·rw[lZ,iH he,ag]
    ·simp only[aG.L0.add,aG.L0.F,aa,hd,rj,hg]
     rw[if_pos he]
     rfl
 ·right
  obtain rfl:k=l.length:=by omega
  refine⟨aG.L0.gZ ((t,o,a,s),lY),?_,λkn kx=> ?_⟩
  rotate_left
  ·rw[aG.L0.step,aX (by omega),al]
  ·simp only[aG.L0.add,aG.L0.F,aa,aZ,rj]
   rfl
theorem aG.L1.ok:aG.L1.Ok:=by
 refine aG.L1.cM (λ(_,_,l,_,i,_,_,_)=>l.length - i.toNat) ?_
 rintro⟨t,lY,l,n,i,o,a,s⟩ ⟨hl,k,hk,rfl,rfl⟩
 have hl:l.length<=1000:=hl
 have hk:k<=l.length:=hk
 by_cases iv:k < l.length
 ·have n1:nth b8 l k=l[k]:=dz (t:=b8) iv
  have hd:l.drop k=l[k]::l.drop (k+1):=ax iv
  cases hg:(dG b8 l[k] a).isSome with
  |true=>
   right
   refine⟨aG.L1.eG (o,a,s),?_,λkn kx=> ?_⟩
   rotate_left
   ·rw[aG.L1.step,bg (by omega),ag,bG (by omega) (by omega),ag,aa,n1,hg,ag]
   ·simp only[aG.L1.add,aG.L1.F,aa,hd,jz,pv,hg,Bool.true_or,if_true]
    rfl
  |false=>
   left
   refine⟨(t,lY,l,(l.length:Int),((k+1:Nat):Int),o,a,s),⟨hl,k+1,by omega,rfl,rfl⟩,by simp only[aa];omega,?_,λkn kx=> ?_⟩
   ·simp only[aG.L1.add,aG.L1.F,aa,hd,jz,pv,hg,Bool.false_or]
   ·rw[aG.L1.step,bg (by omega),ag,bG (by omega) (by omega),ag,aa,n1,hg,al,N.p9 (by omega)]
 ·right
  obtain rfl:k=l.length:=by omega
  refine⟨aG.L1.gZ (t,lY,o,a,s),?_,λkn kx=> ?_⟩
  rotate_left
  ·rw[aG.L1.step,aX (by omega),al]
  ·simp only[aG.L1.add,aG.L1.F,aa,aZ,List.any_nil,cv,if_false]
   rfl
theorem aG.L2.ok:(aG.mL 2 aG.L2):=by
 refine(aG.oH 2 aG.L2) (λ(_,l,_,i,_,_,_)=>l.length - i.toNat) ?_
 rintro⟨lY,l,n,i,o,a,s⟩ ⟨hl,ho,k,hk,rfl,rfl,TN,PV⟩
 have hl:l.length<=64:=hl
 have hk:k<=l.length:=hk
 have TN: -((k:Int)*1125899906842624)<=lY:=TN
 have PV:lY<=1000000000000000000:=PV
 by_cases iv:k < l.length
 ·left
  have n1:nth lO l k=l[k]:=dz (t:=lO) iv
  have hd:l.drop k=l[k]::l.drop (k+1):=ax iv
  have hx:=ho _ (aL iv)
  refine⟨(lY - l[k].1,l,(l.length:Int),((k+1:Nat):Int),o,a,s),⟨hl,ho,k+1,by omega,rfl,rfl,by show _<=lY - l[k].1;omega,by show lY - l[k].1<=_;omega⟩,by simp only[aa];omega,?_,λkn kx=> ?_⟩
  ·simp only[aG.L2.add,aG.L2.F,aa,hd,mP,bX,List.sum_cons]
   rw[Int.sub_sub]
  ·rw[aG.L2.step,bg (by omega),ag,bG (by omega) (by omega),ag,aa,n1,fP (by omega) (by omega),N.p9 (by omega)]
 ·right
  obtain rfl:k=l.length:=by omega
  intro R kn kx
  rw[aG.L2.step,aX (by omega),al]
  simp only[aG.L2.add,aG.L2.F,aa,aZ,mP,ij,List.sum_nil,mw]
theorem pb{t:eZ}(h:jk t=true):(iq t).length=t.2.1.length:=by
 unfold iq
 rw[if_pos h]
 simp[tZ]
theorem A0{h:Int}{id:List Int}{a:List (cd×dP)}(ha:Fg a):∀(l:List kC) (lY f:Int),rj h id a l lY= .inr f->lY<=f/\f<=lY+(l.length:Int)*1125899906842624
 |[],lY,f,e=>by simp only[rj,Sum.inr.injEq]at e;subst e;simp
 |x::l,lY,f,e=>by
  simp only[rj]at e
  cases hg:dG b8 x.1 a with
  |none=>rw[hg]at e;cases e
  |some c=>
   rw[hg]at e
   simp only at e
   split at e
   ·cases e
   ·have hc:=ha.get hg
    have:=A0 ha l _ _ e
    obtain⟨_,_,c3,c4,_⟩:=hc
    rw[aB]
    omega
theorem aG.ok:aG.Ok:=by
 rintro⟨t,h,n,a,s⟩ ⟨hv,ha⟩
 have hv:rJ t:=hv
 have ha:Fg a:=ha
 rw[aG.eq,az.run (d:=t) hv.1]
 simp only[ab,bP,az.F,bP,aG.F,e7]
 by_cases jU:jk t=true
 ·rw[jU,dj,al]
  obtain⟨⟨_,a2,a3,_⟩,b1,b2⟩:=kk jU
  by_cases h1:1<=h
  ·rw[aX (by omega),al]
   by_cases h2:h<=1048576
   ·rw[eC (by omega),al,if_pos ⟨rfl,h1,h2⟩,tid.run (d:=t) hv]
    simp only[ab,bP,tid.F]
    rw[aG.L0.run (d:=(h,t,0,t.1,(t.1.length:Int),0,n,a,s,lW t)) ⟨⟨by show 0<=h;omega,h2⟩,wX,a2,hv.2.1,ha,0,aK _,rfl,rfl,by decide,by decide⟩]
    simp only[ab,aG.L0.add,aG.L0.F,bN,aJ]
    cases hi:rj h (lW t) a t.1 0 with
    |inl e=>
     simp only[kH,ag,jH,ab]
    |inr lY=>
     have hb:=A0 ha _ _ _ hi
     simp only[fe,al,dX,ab]
     rw[eI.run (d:=t) hv]
     simp only[ab,bP,eI.F]
     rw[aG.L1.run (d:=(t,lY,iq t,((iq t).length:Int),0,n,a,s)) ⟨by rw[pb jU];omega,0,aK _,rfl,rfl⟩]
     simp only[ab,aG.L1.add,aG.L1.F,bN,aJ]
     by_cases hm:(iq t).any (pv a)=true
     ·rw[if_pos hm]
      simp only[kH,ag,jH,ab,if_true,hm]
     ·rw[if_neg hm]
      simp only[fe,al,dX,ab]
      rw[aG.L2.run (d:=(lY,t.2.1,(t.2.1.length:Int),0,n,a,s)) ⟨a3,λo ho=>(lk _ _ b2 o ho).1,0,aK _,rfl,rfl,by show -((0:Int)*_)<=lY;omega,by show lY<=_;omega⟩]
      simp only[ab,aG.L2.add,aG.L2.F,bN,aJ]
      rw[if_neg hm]
      by_cases hf:lY - mP t.2.1 < 0
      ·rw[bg hf,ag,if_pos hf]
      ·rw[aX hf,al,if_neg hf]
   ·rw[eY (by omega),ag,if_neg (λe=>h2 e.2.2)]
  ·rw[bg (by omega),ag,if_neg (λe=>h1 e.2.1)]
 ·have hok':jk t=false:=by simpa using jU
  rw[hok',ia,ag,if_neg (λe=>by cases e.1)]
theorem aG.run:aG.RS:=rE [.d gU,.d ti,.n,.d (.slice (.pair b8 eR)),.d (.slice cE)] aG
def aG.sg:=aG.gG aG.ok 3 ⟨.iR aG.L0.ok,⟨.iR aG.L1.ok,⟨.iR aG.L2.ok,trivial⟩⟩⟩
def sm(l:List cd)(a:List (cd×dP)):List (cd×dP):=l.foldl (λm o=>kf b8 o m) a
def Nr(l:List I9)(a:List (cd×dP)):List (cd×dP):=l.foldl (λm e=>iT b8 e.1 e.2.1 m) a
def zG(a:List (cd×dP))(st:cn):List (cd×dP):=Nr st.1 (sm st.2.1 a)
abbrev cI.L0.D:=Int×(List cd)×Int×Int×Nat×(List (cd×dP))×(List cn)
abbrev cI.L0.Y:=(List (cd×dP))
abbrev cI.L0.X:=(Int×Nat×(List cn))×((List (cd×dP)))
def cI.L0.add:cI.L0.D->cI.L0.Y->cI.L0.X:=λ(n,t23,t24,t25,o0L,eQ,eA) y=>((n,o0L,eA),y)
abbrev cI.L1.D:=Int×(List I9)×Int×Int×Nat×(List (cd×dP))×(List cn)
abbrev cI.L1.Y:=(List (cd×dP))
abbrev cI.L1.X:=(Int×Nat×(List cn))×((List (cd×dP)))
def cI.L1.add:cI.L1.D->cI.L1.Y->cI.L1.X:=λ(sZ,t42,t43,t44,gY,mi,iJ) y=>((sZ,gY,iJ),y)
abbrev cI.D:=Nat×(List (cd×dP))×(List cn)
abbrev cI.Y:=Bool×Nat×(List (cd×dP))×(List cn)
def cI.L0.aM:cI.L0.D->Prop:=λ(_,l,n,i,_,_,_)=>l.length<=1000/\∃k:Nat,k<=l.length/\i=k/\n=l.length
def cI.L0.F:cI.L0.D->cI.L0.Y:=λ(_,l,_,i,_,a,_)=>sm (l.drop i.toNat) a
def cI.L1.aM:cI.L1.D->Prop:=λ(_,l,n,i,_,_,_)=>l.length<=1000/\∃k:Nat,k<=l.length/\i=k/\n=l.length
def cI.L1.F:cI.L1.D->cI.L1.Y:=λ(_,l,_,i,_,a,_)=>Nr (l.drop i.toNat) a
def Hx(st:cn):Prop:=st.1.length<=1000/\st.2.1.length<=1000
def cI.aM:cI.D->Prop:=λ(n,_,s)=>n<=s.length/\s.length<=1000000/\∀st∈s,Hx st
def cI.F:cI.D->cI.Y:=λ(n,a,s)=>if n=0 then(false,n,a,s) else(true,n - 1,zG a (nth cE s (n - 1)),s)
def cI.L0:Ls cI.L0.aM cI.L0.add cI.L0.F:=rX (λ(n,t23,t24,t25,o0L,eQ,eA)=>⟨([.ptr (.aV 0) 0 [] 0,.undef,.undef,.d ti n]++aT 19 ([.d (.slice b8) t23,.d ti t24,.d ti t25]++aT 40 [])),[.obj 0 false (.pr (.db (.aV 1) 0) (.pr (.aS (.aV 2) 0 [] 0 0 o0L) (.d .unit ()))),.obj 0 false (.mp b8 eR eQ),.obj 0 false (.vec 161 cE eA)],(List.replicate 66 [])⟩) (λx=>(.exit 0,⟨([.ptr (.aV 0) 0 [] 0,.undef,.undef,.d ti x.1.1]++aT 62 []),[.obj 0 false (.pr (.db (.aV 1) 0) (.pr (.aS (.aV 2) 0 [] 0 0 x.1.2.1) (.d .unit ()))),.obj 0 false (.mp b8 eR x.2),.obj 0 false (.vec 161 cE x.1.2.2)],(List.replicate 66 [])⟩))
def cI.L1:Ls cI.L1.aM cI.L1.add cI.L1.F:=rX (λ(sZ,t42,t43,t44,gY,mi,iJ)=>⟨([.ptr (.aV 0) 0 [] 0,.undef,.undef,.d ti sZ]++aT 38 ([.d (.slice Lq) t42,.d ti t43,.d ti t44]++aT 21 [])),[.obj 0 false (.pr (.db (.aV 1) 0) (.pr (.aS (.aV 2) 0 [] 0 0 gY) (.d .unit ()))),.obj 0 false (.mp b8 eR mi),.obj 0 false (.vec 161 cE iJ)],(List.replicate 66 [])⟩) (λx=>(.exit 2,⟨([.ptr (.aV 0) 0 [] 0,.undef,.undef,.d ti x.1.1]++aT 62 []),[.obj 0 false (.pr (.db (.aV 1) 0) (.pr (.aS (.aV 2) 0 [] 0 0 x.1.2.1) (.d .unit ()))),.obj 0 false (.mp b8 eR x.2),.obj 0 false (.vec 161 cE x.1.2.2)],(List.replicate 66 [])⟩))
def cI:Fs Tryz.prog cI.aM bP cI.F:=gC 37 Tryz.f37 (λ(o0baL,o1,o2)=>([.ptr (.aV 0) 0 [] 0],[.obj 0 false (.pr (.db (.aV 1) 0) (.pr (.aS (.aV 2) 0 [] 0 0 o0baL) (.d .unit ()))),.obj 0 false (.mp b8 eR o1),.obj 0 false (.vec 161 cE o2)])) (λx=>⟨.d .bool x.1,[.obj 0 false (.pr (.db (.aV 1) 0) (.pr (.aS (.aV 2) 0 [] 0 0 x.2.1) (.d .unit ()))),.obj 0 false (.mp b8 eR x.2.2.1),.obj 0 false (.vec 161 cE x.2.2.2)],[]⟩) [none] [] {loops:=pz [(5,{bo:=[0,3,23,24,25]}),(10,{bo:=[0,3,42,43,44]})],outs:=py [(5,{bo:=[0,3]},{bo:=[2]}),(10,{bo:=[0,3]},{bo:=[2]})],iX:=lkn [(5,cI.L0.E),(10,cI.L1.E)]}
theorem cI.L0.run:cI.L0.RS:=rL [.d ti,.d (.slice b8),.d ti,.d ti,.n,.d (.slice (.pair b8 eR)),.d (.slice cE)] cI.L0
theorem cI.L0.step{R:Type}(n t23 t24 t25 o0L eQ eA)(kn:K2 R)(kx:K3 R):cI.R 0 cI.L0 (n,t23,t24,t25,o0L,eQ,eA) kn kx=
  aP ((jx t25 t24)) (
   aP (jn t25 (t23.length:Int)) (
   kn (cI.L0.st (n,t23,t24,(cG .i64 t25 1),o0L,(kf b8 (nth b8 t23 (Int.toNat t25)) eQ),eA))) none) (
   cI.L0.go kx ((n,o0L,eA),eQ)):=by kernel_rfl
theorem cI.L1.run:cI.L1.RS:=rL [.d ti,.d (.slice Lq),.d ti,.d ti,.n,.d (.slice (.pair b8 eR)),.d (.slice cE)] cI.L1
theorem cI.L1.step{R:Type}(sZ t42 t43 t44 gY mi iJ)(kn:K2 R)(kx:K3 R):cI.R 1 cI.L1 (sZ,t42,t43,t44,gY,mi,iJ) kn kx=
  aP ((jx t44 t43)) (
   aP (jn t44 (t42.length:Int)) (
   kn (cI.L1.st (sZ,t42,t43,(cG .i64 t44 1),gY,(iT b8 (nth Lq t42 (Int.toNat t44)).1 (nth Lq t42 (Int.toNat t44)).2.1 mi),iJ))) none) (
   cI.L1.go kx ((sZ,gY,iJ),mi)):=by kernel_rfl
theorem cI.eq{R:Type}(o0baL o1 o2)(k:K1 R):cI.A (o0baL,o1,o2) k=
  aP ((jx (dJ .i64 ((o0baL:Nat):Int) 1) 0)) (
   k (cI.out (false,o0baL,o1,o2))) (
   aP (jn (dJ .i64 ((o0baL:Nat):Int) 1) ((o0baL:Nat):Int)) (
   aP (decide ((0+(Int.toNat (dJ .i64 ((o0baL:Nat):Int) 1))) < (List.length o2))) (
   aP (decide ((((0+(Int.toNat (dJ .i64 ((o0baL:Nat):Int) 1)))*2)+1)=((0+((Int.toNat (dJ .i64 ((o0baL:Nat):Int) 1))*2))+1))) (
   ah (cI.L0.call ((dJ .i64 ((o0baL:Nat):Int) 1),(nth cE o2 (0+(Int.toNat (dJ .i64 ((o0baL:Nat):Int) 1)))).2.1,(((List.length (nth cE o2 (0+(Int.toNat (dJ .i64 ((o0baL:Nat):Int) 1)))).2.1):Nat):Int),0,o0baL,o1,o2)) λx1=>
   aP (jn x1.1.1 ((x1.1.2.1:Nat):Int)) (
   aP (decide ((0+(Int.toNat x1.1.1)) < (List.length x1.1.2.2))) (
   aP (decide ((((0+(Int.toNat x1.1.1))*2)+0)=((0+((Int.toNat x1.1.1)*2))+0))) (
   ah (cI.L1.call (x1.1.1,(nth cE x1.1.2.2 (0+(Int.toNat x1.1.1))).1,(((List.length (nth cE x1.1.2.2 (0+(Int.toNat x1.1.1))).1):Nat):Int),0,x1.1.2.1,x1.2,x1.1.2.2)) λx2=>
   aP (inc x2.1.1 ((x2.1.2.1:Nat):Int)) (
   k (cI.out (true,((Int.toNat x2.1.1) - 0),x2.2,x2.1.2.2))) none) none) none) none) none) none) none):=by kernel_rfl
theorem cI.L0.ok:(cI.mL 0 cI.L0):=by
 refine(cI.oH 0 cI.L0) (λ(_,l,_,i,_,_,_)=>l.length - i.toNat) ?_
 rintro⟨u,l,n,i,o,a,s⟩ ⟨hl,k,hk,rfl,rfl⟩
 have hl:l.length<=1000:=hl
 have hk:k<=l.length:=hk
 by_cases iv:k < l.length
 ·left
  have n1:nth b8 l k=l[k]:=dz (t:=b8) iv
  have hd:l.drop k=l[k]::l.drop (k+1):=ax iv
  refine⟨(u,l,(l.length:Int),((k+1:Nat):Int),o,sm [l[k]] a,s),⟨hl,k+1,by omega,rfl,rfl⟩,by simp only[aa];omega,?_,λkn kx=> ?_⟩
  ·simp only[cI.L0.add,cI.L0.F,aa,hd,sm,bT,dR]
  ·rw[cI.L0.step,bg (by omega),ag,bG (by omega) (by omega),ag,aa,n1,N.p9 (by omega)]
   rfl
 ·right
  obtain rfl:k=l.length:=by omega
  intro R kn kx
  rw[cI.L0.step,aX (by omega),al]
  simp only[cI.L0.add,cI.L0.F,aa,aZ,sm,dR]
theorem cI.L1.ok:(cI.mL 1 cI.L1):=by
 refine(cI.oH 1 cI.L1) (λ(_,l,_,i,_,_,_)=>l.length - i.toNat) ?_
 rintro⟨u,l,n,i,o,a,s⟩ ⟨hl,k,hk,rfl,rfl⟩
 have hl:l.length<=1000:=hl
 have hk:k<=l.length:=hk
 by_cases iv:k < l.length
 ·left
  have n1:nth Lq l k=l[k]:=dz (t:=Lq) iv
  have hd:l.drop k=l[k]::l.drop (k+1):=ax iv
  refine⟨(u,l,(l.length:Int),((k+1:Nat):Int),o,Nr [l[k]] a,s),⟨hl,k+1,by omega,rfl,rfl⟩,by simp only[aa];omega,?_,λkn kx=> ?_⟩
  ·simp only[cI.L1.add,cI.L1.F,aa,hd,Nr,bT,dR]
  ·rw[cI.L1.step,bg (by omega),ag,bG (by omega) (by omega),ag,aa,n1,N.p9 (by omega)]
   rfl
 ·right
  obtain rfl:k=l.length:=by omega
  intro R kn kx
  rw[cI.L1.step,aX (by omega),al]
  simp only[cI.L1.add,cI.L1.F,aa,aZ,Nr,dR]
theorem cI.ok:cI.Ok:=by
 rintro⟨n,a,s⟩ ⟨h1,h2,h3⟩
 have h1:n<=s.length:=h1
 have h2:s.length<=1000000:=h2
 have h3:∀st∈s,Hx st:=h3
 rw[cI.eq]
 simp only[bP,cI.F]
 cases n with
 |zero=>
  rw[bg (by decide),ag]
  rfl
 |succ m=>
  have e1:dJ .i64 (((m+1:Nat):Nat):Int) (1:Int)=(m:Int):=by rw[fP (by omega) (by omega)];omega
  have hm:m < s.length:=by omega
  have n1:nth cE s m=s[m]:=dz (t:=cE) hm
  have hs:=h3 _ (aL hm)
  rw[e1,aX (by omega),al,bG (by omega) (by omega),ag]
  simp only[aa,aI,cF,aY hm,ag,decide_true,n1]
  rw[cI.L0.run (d:=((m:Int),s[m].2.1,(s[m].2.1.length:Int),0,m+1,a,s)) ⟨hs.2,0,aK _,rfl,rfl⟩]
  simp only[ab,cI.L0.add,cI.L0.F,bN,aJ]
  rw[bG (by omega) (by omega),ag]
  simp only[aa,aI,cF,aY hm,ag,decide_true,n1]
  rw[cI.L1.run (d:=((m:Int),s[m].1,(s[m].1.length:Int),0,m+1,sm s[m].2.1 a,s)) ⟨hs.1,0,aK _,rfl,rfl⟩]
  simp only[ab,cI.L1.add,cI.L1.F,bN,aJ]
  rw[oz (by omega) (by omega),ag,if_neg (by omega)]
  simp only[aa,Nat.sub_zero,kZ,n1,zG]
theorem cI.run:cI.RS:=rE [.n,.d (.slice (.pair b8 eR)),.d (.slice cE)] cI
def cI.sg:=cI.gG cI.ok 2 ⟨.iR cI.L0.ok,⟨.iR cI.L1.ok,trivial⟩⟩
abbrev aN.L0.D:=Int×eZ×(List cd)×Int×Int×Nat×(List (cd×dP))×(List cn)×Nat×((List cd)×Unit)×(List I9)
def aN.L0.st:aN.L0.D->AS:=λ(fD,vz,t28,t29,t30,o0L,eQ,eA,Oc,n9,n45)=>⟨([.ptr (.aV 0) 0 [] 0,.undef,.d ti fD,.undef,.eD gU vz]++aT 4 ([.ptr (.new 9 0) 0 [] 0]++aT 18 ([.d (.slice b8) t28,.d ti t29,.d ti t30]++aT 54 []))),[.obj 0 false (.pr (.db (.aV 1) 0) (.pr (.aS (.aV 2) 0 [] 0 0 o0L) (.d .unit ()))),.obj 0 false (.mp b8 eR eQ),.obj 0 false (.vec 161 cE eA)],(ct 9 ([[.obj 0 false (.pr (.aS (.new 45 0) 0 [] 0 0 Oc) (.d (.pair (.slice b8) .unit) n9))]]++ct 35 ([[.obj 0 false (.vec 163 Lq n45)]]++ct 39 [])))⟩
abbrev aN.L0.Y0:=(List (cd×dP))×Nat×(List I9)
abbrev aN.L0.X0:=(Int×eZ×Nat×(List cn)×((List cd)×Unit))×((List (cd×dP))×Nat×(List I9))
def aN.L0.eG:aN.L0.X0->Exit×AS:=λx=>(.exit 0,⟨([.ptr (.aV 0) 0 [] 0,.undef,.d ti x.1.1,.undef,.eD gU x.1.2.1]++aT 4 ([.ptr (.new 9 0) 0 [] 0]++aT 75 [])),[.obj 0 false (.pr (.db (.aV 1) 0) (.pr (.aS (.aV 2) 0 [] 0 0 x.1.2.2.1) (.d .unit ()))),.obj 0 false (.mp b8 eR x.2.1),.obj 0 false (.vec 161 cE x.1.2.2.2.1)],(ct 9 ([[.obj 0 false (.pr (.aS (.new 45 0) 0 [] 0 0 x.2.2.1) (.d (.pair (.slice b8) .unit) x.1.2.2.2.2))]]++ct 35 ([[.obj 0 false (.vec 163 Lq x.2.2.2)]]++ct 39 [])))⟩)
abbrev aN.L0.X:=aN.L0.X0
abbrev aN.L0.Y:=aN.L0.Y0
def aN.L0.out:aN.L0.X->Out (Exit×AS):=λx=> .ok (aN.L0.eG x)
def aN.L0.add:aN.L0.D->aN.L0.Y->aN.L0.X:=λ(fD,vz,t28,t29,t30,o0L,eQ,eA,Oc,n9,n45) y=>((fD,vz,o0L,eA,n9),y)
abbrev aN.L1.D:=Int×eZ×(List cd)×Int×Int×Nat×(List (cd×dP))×(List cn)×Nat×((List cd)×Unit)×(List I9)
def aN.L1.st:aN.L1.D->AS:=λ(sN,An,t54,t55,t56,gY,mi,iJ,zz,xF,zw)=>⟨([.ptr (.aV 0) 0 [] 0,.undef,.d ti sN,.undef,.eD gU An]++aT 4 ([.ptr (.new 9 0) 0 [] 0]++aT 44 ([.d (.slice b8) t54,.d ti t55,.d ti t56]++aT 28 []))),[.obj 0 false (.pr (.db (.aV 1) 0) (.pr (.aS (.aV 2) 0 [] 0 0 gY) (.d .unit ()))),.obj 0 false (.mp b8 eR mi),.obj 0 false (.vec 161 cE iJ)],(ct 9 ([[.obj 0 false (.pr (.aS (.new 45 0) 0 [] 0 0 zz) (.d (.pair (.slice b8) .unit) xF))]]++ct 35 ([[.obj 0 false (.vec 163 Lq zw)]]++ct 39 [])))⟩
abbrev aN.L1.Y0:=(List (cd×dP))
abbrev aN.L1.X0:=(Nat×(List cn)×Nat×((List cd)×Unit)×(List I9))×((List (cd×dP)))
def aN.L1.eG:aN.L1.X0->Exit×AS:=λx=>(.exit 2,⟨([.ptr (.aV 0) 0 [] 0]++aT 8 ([.ptr (.new 9 0) 0 [] 0]++aT 75 [])),[.obj 0 false (.pr (.db (.aV 1) 0) (.pr (.aS (.aV 2) 0 [] 0 0 x.1.1) (.d .unit ()))),.obj 0 false (.mp b8 eR x.2),.obj 0 false (.vec 161 cE x.1.2.1)],(ct 9 ([[.obj 0 false (.pr (.aS (.new 45 0) 0 [] 0 0 x.1.2.2.1) (.d (.pair (.slice b8) .unit) x.1.2.2.2.1))]]++ct 35 ([[.obj 0 false (.vec 163 Lq x.1.2.2.2.2)]]++ct 39 [])))⟩)
abbrev aN.L1.X:=aN.L1.X0
abbrev aN.L1.Y:=aN.L1.Y0
def aN.L1.out:aN.L1.X->Out (Exit×AS):=λx=> .ok (aN.L1.eG x)
def aN.L1.add:aN.L1.D->aN.L1.Y->aN.L1.X:=λ(sN,An,t54,t55,t56,gY,mi,iJ,zz,xF,zw) y=>((gY,iJ,zz,xF,zw),y)
abbrev aN.D:=eZ×Int×Nat×(List (cd×dP))×(List cn)
def aN.st:aN.D->SA:=λ(t,height,o0baL,o1,o2)=>([.ptr (.aV 0) 0 [] 0,.d gU t,.d ti height],[.obj 0 false (.pr (.db (.aV 1) 0) (.pr (.aS (.aV 2) 0 [] 0 0 o0baL) (.d .unit ()))),.obj 0 false (.mp b8 eR o1),.obj 0 false (.vec 161 cE o2)])
abbrev aN.Y:=(Int×Nat×(List (cd×dP))×(List cn))⊕(Int×Nat×(List (cd×dP))×(List cn))
abbrev aN.X:=(Int×Nat×(List (cd×dP))×(List cn))⊕(Int×Nat×(List (cd×dP))×(List cn))
def aN.out:aN.X->gV:=λx=>match x with | .inl x=>⟨.d ti x.1,[.obj 0 false (.pr (.db (.aV 1) 0) (.pr (.aS (.aV 2) 0 [] 0 0 x.2.1) (.d .unit ()))),.obj 0 false (.mp b8 eR x.2.2.1),.obj 0 false (.vec 161 cE x.2.2.2)],[]⟩ | .inr x=>⟨.d ti x.1,[.obj 0 false (.pr (.db (.aV 1) 0) (.pr (.aS (.aV 2) 1 [] 0 0 x.2.1) (.d .unit ()))),.obj 0 false (.mp b8 eR x.2.2.1),.obj 1 false (.vec 161 cE x.2.2.2)],[]⟩
def aN.add:aN.D->aN.Y->aN.X:=λ(t,height,o0baL,o1,o2) y=>match y with | .inl y=> .inl y | .inr y=> .inr y
def tX(a:List (cd×dP)):List cd->List I9
 |[]=> []
 |o::l=>(o,((dG b8 o a).getD Ho,()))::tX (kf b8 o a) l
def yp(h:Int):List cd->List kO->List (cd×dP)->List (cd×dP)
 |o::l,x::xs,a=>yp h l xs (iT b8 o (x,(h,())) a)
 |_,_,a=>a
def stepOf(t:eZ)(a:List (cd×dP)):cn:=(tX a (dT t),(iq t,()))
def jV(t:eZ)(h:Int)(a:List (cd×dP)):List (cd×dP):=yp h (iq t) t.2.1 (sm (dT t) a)
def aN.L0.aM:aN.L0.D->Prop:=λ(_,_,l,n,i,_,_,_,gL,_,g)=>l.length<=1000/\∃k:Nat,k<=l.length/\i=k/\n=l.length/\gL=g.length/\g.length=k
def aN.L0.F:aN.L0.D->aN.L0.Y:=λ(_,_,l,_,i,_,a,_,gL,_,g)=>(sm (l.drop i.toNat) a,gL+(l.drop i.toNat).length,g++tX a (l.drop i.toNat))
def aN.L1.aM:aN.L1.D->Prop:=λ(_,t,l,n,i,_,_,_,_,_,_)=>l.length<=1000/\l.length=t.2.1.length/\(∀o∈t.2.1,VB o.2.1)/\∃k:Nat,k<=l.length/\i=k/\n=l.length
def aN.L1.F:aN.L1.D->aN.L1.Y:=λ(h,t,l,_,i,_,a,_,_,_,_)=>yp h (l.drop i.toNat) (t.2.1.drop i.toNat) a
def aN.aM:aN.D->Prop:=λ(t,_,n,a,s)=>rJ t/\Fg a/\n<=s.length/\s.length<=1000000
def aN.F:aN.D->aN.Y:=λ(t,h,n,a,s)=>if(e7 t h a).2≠0 then .inl ((e7 t h a).2,n,a,s) else .inr (0,n+1,jV t h a,s.take n++ [stepOf t a])
def aN.G:mR:=oo (P:=Tryz.prog) [aG.sg,eI.sg,cQ.sg,gv.sg]
def aN.L0.E:=eE.iR aN.L0.st aN.L0.aM aN.L0.add aN.L0.F aN.L0.out
def aN.L0.call:aN.L0.D->Option aN.L0.X:=j9 aN.L0.E aN.L0.st
def aN.L1.E:=eE.iR aN.L1.st aN.L1.aM aN.L1.add aN.L1.F aN.L1.out
def aN.L1.call:aN.L1.D->Option aN.L1.X:=j9 aN.L1.E aN.L1.st
def aN.an:rM:= {loops:=pz [(6,{bo:=[0,2,4,9,28,29,30],sites:=[9,45],owns:=[⟨9,[.fst],45,159⟩]}),(12,{bo:=[0,2,4,9,54,55,56],sites:=[9,45]})],outs:=py [(6,{bo:=[0,2,4,9],sites:=[9,45]},{bo:=[6]}),(12,{bo:=[0,9],sites:=[9,45]},{bo:=[6]})],iX:=lkn [(6,aN.L0.E),(12,aN.L1.E)]}
def aN.A:= @zJ Tryz.prog aN.G aN.an 0 Tryz.f30 _ aN.st
abbrev aN.Ok:=CB @aN.A aN.aM aN.add aN.F aN.out
def aN.L0.R:= @gN Tryz.prog aN.G aN.an 0 Tryz.f30 0 _ aN.L0.st
abbrev aN.L0.Ok:=mS Tryz.prog aN.G aN.an 0 Tryz.f30 0 aN.L0.st aN.L0.aM aN.L0.add aN.L0.F aN.L0.out
def aN.L1.R:= @gN Tryz.prog aN.G aN.an 0 Tryz.f30 1 _ aN.L1.st
abbrev aN.L1.Ok:=mS Tryz.prog aN.G aN.an 0 Tryz.f30 1 aN.L1.st aN.L1.aM aN.L1.add aN.L1.F aN.L1.out
theorem aN.L0.run:kF aN.L0.call aN.L0.aM aN.L0.add aN.L0.F:=oU (oR [.d ti,.d gU,.d (.slice b8),.d ti,.d ti,.n,.d (.slice (.pair b8 eR)),.d (.slice cE),.n,.d (.pair (.slice b8) .unit),.d (.slice Lq)] λ_=>by kernel_rfl)
theorem aN.L0.cM:LS @aN.L0.R aN.L0.st aN.L0.aM aN.L0.add aN.L0.F aN.L0.eG aN.L0.Ok:=QJ
theorem aN.L0.step{R:Type}(fD:Int)(vz:eZ)(t28:(List cd))(t29:Int)(t30:Int)(o0L:Nat)(eQ:(List (cd×dP)))(eA:(List cn))(Oc:Nat)(n9:((List cd)×Unit))(n45:(List I9))(kn:AS->Option R)(kx:Exit->AS->Option R):aN.L0.R (fD,vz,t28,t29,t30,o0L,eQ,eA,Oc,n9,n45) kn kx=
  aP ((jx t30 t29)) (
   aP (jn t30 (((List.length t28):Nat):Int)) (
   aP (decide (Oc<=(List.length n45))) (
   aP (dZ (Oc+1) 80) (
   kn (aN.L0.st (fD,vz,t28,t29,(cG .i64 t30 (1:Int)),o0L,(kf b8 (nth b8 t28 (Int.toNat t30)) eQ),eA,(Oc+1),n9,((List.take Oc n45)++ [((nth b8 t28 (Int.toNat t30)),(((dG b8 (nth b8 t28 (Int.toNat t30)) eQ).getD (((0:Int),((([]:List oV),()),())),((0:Int),()))),()))])))) none) none) none) (
   kx (aN.L0.eG ((fD,vz,o0L,eA,n9),(eQ,Oc,n45))).1 (aN.L0.eG ((fD,vz,o0L,eA,n9),(eQ,Oc,n45))).2):=by kernel_rfl
theorem aN.L1.run:kF aN.L1.call aN.L1.aM aN.L1.add aN.L1.F:=oU (oR [.d ti,.d gU,.d (.slice b8),.d ti,.d ti,.n,.d (.slice (.pair b8 eR)),.d (.slice cE),.n,.d (.pair (.slice b8) .unit),.d (.slice Lq)] λ_=>by kernel_rfl)
theorem aN.L1.cM:LS @aN.L1.R aN.L1.st aN.L1.aM aN.L1.add aN.L1.F aN.L1.eG aN.L1.Ok:=QJ
theorem aN.L1.step{R:Type}(sN:Int)(An:eZ)(t54:(List cd))(t55:Int)(t56:Int)(gY:Nat)(mi:(List (cd×dP)))(iJ:(List cn))(zz:Nat)(xF:((List cd)×Unit))(zw:(List I9))(kn:AS->Option R)(kx:Exit->AS->Option R):aN.L1.R (sN,An,t54,t55,t56,gY,mi,iJ,zz,xF,zw) kn kx=
  aP ((jx t56 t55)) (
   aP (jn t56 (((List.length t54):Nat):Int)) (
   aP (jn t56 (((List.length An.2.1):Nat):Int)) (
   ah (gv.call (nth lO An.2.1 (Int.toNat t56))) λx1=>
   kn (aN.L1.st (sN,An,t54,t55,(cG .i64 t56 (1:Int)),gY,(iT b8 (nth b8 t54 (Int.toNat t56)) (x1,(sN,())) mi),iJ,zz,xF,zw))) none) none) (
   kx (aN.L1.eG ((gY,iJ,zz,xF,zw),mi)).1 (aN.L1.eG ((gY,iJ,zz,xF,zw),mi)).2):=by kernel_rfl
theorem aN.eq{R:Type}(t:eZ)(height:Int)(o0baL:Nat)(o1:(List (cd×dP)))(o2:(List cn))(k:gV->Option R):aN.A (t,height,o0baL,o1,o2) k=
  ah (aG.call (t,height,o0baL,o1,o2)) λx1=>
  aP ((w8 x1.2.1 (0:Int))) (
   k (aN.out (.inl (x1.2.1,x1.2.2.1,x1.2.2.2.1,x1.2.2.2.2)))) (
   ah (eI.call t) λx2=>
   ah (cQ.call t) λx3=>
   ah (aN.L0.call (height,t,x3,(((List.length x3):Nat):Int),(0:Int),x1.2.2.1,x1.2.2.2.1,x1.2.2.2.2,0,(x2,()),([]:List I9))) λx4=>
   ah (aN.L1.call (x4.1.1,x4.1.2.1,x4.1.2.2.2.2.1,(((List.length x4.1.2.2.2.2.1):Nat):Int),(0:Int),x4.1.2.2.1,x4.2.1,x4.1.2.2.2.1,x4.2.2.1,x4.1.2.2.2.2,x4.2.2.2)) λx6=>
   aP (decide (0=0/\(0+x6.1.2.2.1)<=(List.length x6.1.2.2.2.2))) (
   aP (decide (x6.1.1<=(List.length x6.1.2.1))) (
   aP (dZ (x6.1.1+1) 48) (
   k (aN.out (.inr ((0:Int),(x6.1.1+1),x6.2,((List.take x6.1.1 x6.1.2.1)++ [((cut x6.1.2.2.2.2 0 x6.1.2.2.1),x6.1.2.2.2.1)]))))) none) none) none):=by kernel_rfl
theorem aN.L0.ok:aN.L0.Ok:=by
 refine aN.L0.cM (λ(_,_,l,_,i,_,_,_,_,_,_)=>l.length - i.toNat) ?_
 rintro⟨h,t,l,n,i,o,a,s,gL,u,g⟩ ⟨hl,k,hk,rfl,rfl,rfl,hg⟩
 have hl:l.length<=1000:=hl
 have hk:k<=l.length:=hk
 have hg:g.length=k:=hg
 by_cases iv:k < l.length
 ·left
  have n1:nth b8 l k=l[k]:=dz (t:=b8) iv
  have hd:l.drop k=l[k]::l.drop (k+1):=ax iv
  refine⟨(h,t,l,(l.length:Int),((k+1:Nat):Int),o,kf b8 l[k] a,s,g.length+1,u,g++ [(l[k],((dG b8 l[k] a).getD Ho,()))]),⟨hl,k+1,by omega,rfl,rfl,by simp,by simp[hg]⟩,by simp only[aa];omega,?_,λkn kx=> ?_⟩
  ·simp only[aN.L0.add,aN.L0.F,aa,hd,sm,bT,tX,aD,dN,aB]
   rw[show g.length+1+(l.drop (k+1)).length=g.length+((l.drop (k+1)).length+1) by omega]
  ·rw[aN.L0.step,bg (by omega),ag,bG (by omega) (by omega),ag,aY (aw _),ag,fg (by omega) (by omega),ag,aa,n1,N.p9 (by omega),dh]
   rfl
 ·right
  obtain rfl:k=l.length:=by omega
  intro R kn kx
  rw[aN.L0.step,aX (by omega),al]
  simp only[aN.L0.add,aN.L0.F,aa,aZ,sm,dR,tX,bS,bn,cF]
theorem aN.L1.ok:aN.L1.Ok:=by
 refine aN.L1.cM (λ(_,_,l,_,i,_,_,_,_,_,_)=>l.length - i.toNat) ?_
 rintro⟨h,t,l,n,i,o,a,s,gL,u,g⟩ ⟨hl,he,hb,k,hk,rfl,rfl⟩
 have hl:l.length<=1000:=hl
 have he:l.length=t.2.1.length:=he
 have hk:k<=l.length:=hk
 by_cases iv:k < l.length
 ·left
  have Rm:k < t.2.1.length:=by omega
  have n1:nth b8 l k=l[k]:=dz (t:=b8) iv
  have n2:nth lO t.2.1 k=t.2.1[k]:=dz (t:=lO) Rm
  have hd:l.drop k=l[k]::l.drop (k+1):=ax iv
  have U8:t.2.1.drop k=t.2.1[k]::t.2.1.drop (k+1):=ax Rm
  refine⟨(h,t,l,(l.length:Int),((k+1:Nat):Int),o,iT b8 l[k] (t.2.1[k],(h,())) a,s,gL,u,g),⟨hl,he,hb,k+1,by omega,rfl,rfl⟩,by simp only[aa];omega,?_,λkn kx=> ?_⟩
  ·simp only[aN.L1.add,aN.L1.F,aa,hd,U8,yp]
  ·rw[aN.L1.step,bg (by omega),ag,bG (by omega) (by omega),ag,bG (by omega) (by omega),ag,aa,n1,n2,gv.run (d:=t.2.1[k]) (hb _ (aL Rm))]
   simp only[ab,bP,gv.F]
   rw[N.p9 (by omega)]
 ·right
  obtain rfl:k=l.length:=by omega
  intro R kn kx
  rw[aN.L1.step,aX (by omega),al]
  simp only[aN.L1.add,aN.L1.F,aa,aZ,yp]
theorem yA{t:eZ}{h:Int}{a:List (cd×dP)}(e:(e7 t h a).2=0):jk t=true/\1<=h/\h<=1048576/\∃lY,rj h (lW t) a t.1 0= .inr lY/\(iq t).any (pv a)=false/\0<=lY - mP t.2.1/\e7 t h a=(lY - mP t.2.1,0):=by
 unfold e7 at e ⊢
 by_cases h0:jk t=true/\1<=h/\h<=1048576
 ·rw[if_pos h0]at e
  rw[if_pos h0]
  refine⟨h0.1,h0.2.1,h0.2.2,?_⟩
  cases hi:rj h (lW t) a t.1 0 with
  |inl x=>
   exfalso
   rw[hi]at e
   simp only at e
   subst e
   have key:∀(l:List kC) (f:Int),rj h (lW t) a l f≠ .inl 0:=by
    intro l
    induction l with
    |nil=>intro f hf;cases hf
    |cons x l ih=>
     intro f hf
     simp only[rj]at hf
     cases hg:dG b8 x.1 a with
     |none=>rw[hg]at hf;simp at hf
     |some c=>
      rw[hg]at hf
      simp only at hf
      split at hf
      ·rename_i fL;exact fL (by injection hf)
      ·exact ih _ hf
   exact key _ _ hi
  |inr lY=>
   rw[hi]at e
   simp only at e ⊢
   by_cases hm:(iq t).any (pv a)=true
   ·rw[if_pos hm]at e;cases e
   ·rw[if_neg hm]at e
    rw[if_neg hm]
    by_cases hf:lY - mP t.2.1 < 0
    ·rw[if_pos hf]at e;cases e
    ·rw[if_neg hf]
     exact⟨lY,rfl,by simpa using hm,by omega,rfl⟩
 ·rw[if_neg h0]at e;cases e
theorem A2{t:eZ}(h:jk t=true):(dT t).length=t.1.length:=by
 unfold dT
 rw[if_pos h,cK]
theorem aN.ok:aN.Ok:=by
 rintro⟨t,h,n,a,s⟩ ⟨hv,ha,hn,hs⟩
 have hv:rJ t:=hv
 have ha:Fg a:=ha
 have hn:n<=s.length:=hn
 have hs:s.length<=1000000:=hs
 rw[aN.eq,aG.run (d:=(t,h,n,a,s)) ⟨hv,ha⟩]
 simp only[ab,bP,aG.F,aN.add,aN.F]
 by_cases he:(e7 t h a).2=0
 ·rw[ff he,al,if_neg (λe=>e he)]
  obtain⟨jU,_,_,_⟩:=yA he
  obtain⟨⟨_,a2,a3,_⟩,b1,b2⟩:=kk jU
  rw[eI.run (d:=t) hv]
  simp only[ab,bP,eI.F]
  rw[cQ.run (d:=t) hv.1]
  simp only[ab,bP,cQ.F]
  rw[aN.L0.run (d:=(h,t,dT t,((dT t).length:Int),0,n,a,s,0,(iq t,()),[])) ⟨by rw[A2 jU];omega,0,aK _,rfl,rfl,rfl,rfl⟩]
  simp only[ab,aN.L0.add,aN.L0.F,bN,aJ,aR,aI]
  rw[aN.L1.run (d:=(h,t,iq t,((iq t).length:Int),0,n,sm (dT t) a,s,(dT t).length,(iq t,()),tX a (dT t))) ⟨by rw[pb jU];omega,pb jU,λo ho=>by
   have:=Bb (lk _ _ b2 o ho).2
   exact⟨by omega,λb hb=>by have:=this.2 b hb;omega⟩,0,aK _,rfl,rfl⟩]
  simp only[ab,aN.L1.add,aN.L1.F,bN,aJ]
  have XS:∀(l:List cd) (a:List (cd×dP)),(tX a l).length=l.length:=by
   intro l
   induction l with
   |nil=>intro a;rfl
   |cons o l ih=>intro a;simp[tX,ih]
  rw[aY (by rw[XS];exact⟨trivial,by omega⟩),ag,aY hn,ag,fg (by omega) (by omega),ag,gI (XS _ _)]
  rfl
 ·rw[iH he,ag,if_pos he]
def aN.E:=Entry.Bh [none,some gU,some ti] aN.st aN.aM aN.add aN.F aN.out
def aN.call:aN.D->Option aN.X:=vT aN.E aN.st
theorem aN.run:kF aN.call aN.aM aN.add aN.F:=zD (EF [.d gU,.d ti,.n,.d (.slice (.pair b8 eR)),.d (.slice cE)] λ_=>by kernel_rfl)
def aN.sg:SG Tryz.prog:=⟨30,om,aN.E,.of (.PB (.fn 2 (by kernel_rfl) aN.ok (And.intro (.iR aN.L0.ok (by kernel_rfl)) (And.intro (.iR aN.L1.ok (by kernel_rfl)) trivial)))) (by rfl)⟩
theorem ND(k:Int)(m:List Int):Qw (kK k m):=by
 unfold kK
 split
 ·exact⟨(Pz _).u,(Jc _ _).u⟩
 ·exact⟨⟨kS 0,by decide⟩,kS 0,by decide⟩
theorem FX:∀(l l':List kC) (b:List Int),l.map (·.1)=l'.map (·.1)->l.foldl Ad b=l'.foldl Ad b
 |[],[],_,_=>rfl
 |[],_::_,_,h=>by cases h
 |_::_,[],_,h=>by cases h
 |x::l,y::l',b,h=>by
  rw[bX,bX,ed]at h
  have e:Ad b x=Ad b y:=by unfold Ad;rw[h.1]
  rw[bT,bT,e,FX l l' _ h.2]
theorem Le{l l':List kC}(t:List kO×Int×Unit)(h:l.map (·.1)=l'.map (·.1)):qi (l,t)=qi (l',t):=by
 have hl:l.length=l'.length:=by have:=congrArg List.length h;simpa using this
 unfold qi
 simp only[hl]
 rw[FX l l' _ h]
theorem Gd:∀(l l':List kC) (m:List (cd×Bool)),l.map (·.1)=l'.map (·.1)->um m l=true->(∀x∈l',ug x.2.1=true)->um m l'=true
 |[],[],_,_,_,_=>rfl
 |[],_::_,_,h,_,_=>by cases h
 |_::_,[],_,h,_,_=>by cases h
 |x::l,y::l',m,h,hi,hw=>by
  rw[bX,bX,ed]at h
  rw[um,aj,aj]at hi ⊢
  have hx:=hi.1.2
  unfold AX at hx
  rw[aj]at hx
  refine⟨⟨?_,?_⟩,?_⟩
  ·have:=hi.1.1
   unfold zf at this ⊢
   rw[<-h.1]
   exact this
  ·unfold AX
   rw[<-h.1,hx.1,hw y aH]
   rfl
  ·rw[<-h.1]
   exact Gd l l' _ h.2 hi.2 λz hz=>hw z (aF _ hz)
theorem NU{l l':List kC}{t:List kO×Int×Unit}(h:l.map (·.1)=l'.map (·.1))(jU:jk (l,t)=true)(hw:∀x∈l',ug x.2.1=true):jk (l',t)=true:=by
 have hl:l.length=l'.length:=by have:=congrArg List.length h;simpa using this
 unfold jk E4 at jU ⊢
 rw[aj,aj]at jU ⊢
 simp only[hl]at jU
 exact⟨jU.1,Gd l l' _ h jU.2.1 hw,jU.2.2⟩
theorem JY{l l':List kC}{t:List kO×Int×Unit}(h:l.map (·.1)=l'.map (·.1))(h1:jk (l,t)=true)(h2:jk (l',t)=true):lW (l',t)=lW (l,t):=by
 unfold lW
 rw[h1,h2,Le t h]
theorem IS{l l':List kC}{t:List kO×Int×Unit}(h:l.map (·.1)=l'.map (·.1))(h1:jk (l,t)=true)(h2:jk (l',t)=true):dT (l',t)=dT (l,t):=by
 unfold dT
 rw[h1,h2]
 exact h.symm
theorem M8{l l':List kC}{t:List kO×Int×Unit}(h:l.map (·.1)=l'.map (·.1))(h1:jk (l,t)=true)(h2:jk (l',t)=true):iq (l',t)=iq (l,t):=by
 unfold iq
 rw[h1,h2,JY h h1 h2]
def zU(t:eZ)(k:Nat)(w:CC):eZ:=(t.1.set k ((nth jo t.1 k).1,w,()),t.2)
theorem xX(l:List kC)(k:Nat)(w:CC)(h:k < l.length):l.map (·.1)=(l.set k ((nth jo l k).1,w,())).map (·.1):=by
 have n1:nth jo l k=l[k]:=dz (t:=jo) h
 rw[n1,List.map_set]
 have e:(l[k].1:cd)=(l.map (·.1))[k]'(by rw[cK];exact h):=by rw[List.getElem_map]
 show _=(l.map (·.1)).set k l[k].1
 rw[e,gB]
theorem GZ{l:List kC}{k:Nat}{w:CC}{x:kC}(h:k < l.length)(hx:x∈l.set k ((nth jo l k).1,w,())):x∈l\/(x.1=l[k].1/\x.2.1=w):=by
 have n1:nth jo l k=l[k]:=dz (t:=jo) h
 rw[n1]at hx
 rcases List.mem_or_eq_of_mem_set hx with h1 | h1
 ·exact .inl h1
 ·exact .inr ⟨by rw[h1],by rw[h1]⟩
theorem Am{t:eZ}{k:Nat}{w:CC}(h:k < t.1.length)(jU:jk t=true)(hw:ug w=true):jk (zU t k w)=true:=by
 obtain⟨_,b1,_⟩:=kk jU
 refine NU (l:=t.1) (xX t.1 k w h) jU λx hx=> ?_
 rcases GZ h hx with h1 | h1
 ·have:=mg _ _ b1 x h1
  unfold AX at this
  rw[aj]at this
  exact this.2
 ·rw[h1.2];exact hw
theorem RY{t:eZ}{k:Nat}{w:CC}(h:k < t.1.length)(hv:rJ t)(hu:CD w)(hl:w.2.1.length<=9223372036854775807):rJ (zU t k w):=by
 refine⟨⟨hv.1.1,by show(t.1.set k _).length<=_;rw[List.length_set];exact hv.1.2.1,hv.1.2.2⟩,λx hx=> ?_,hv.2.2⟩
 rcases GZ h hx with h1 | h1
 ·exact hv.2.1 x h1
 ·refine⟨?_,by rw[h1.2];exact hu,by rw[h1.2];exact hl⟩
  rw[h1.1]
  exact(hv.2.1 _ (aL h)).1
theorem Pr{t:eZ}{k:Nat}{w:CC}(h:k < t.1.length)(jU:jk t=true)(hw:ug w=true):lW (zU t k w)=lW t/\dT (zU t k w)=dT t/\iq (zU t k w)=iq t:=
 ⟨JY (l:=t.1) (xX t.1 k w h) jU (Am h jU hw),IS (l:=t.1) (xX t.1 k w h) jU (Am h jU hw),M8 (l:=t.1) (xX t.1 k w h) jU (Am h jU hw)⟩
def CY(t:eZ)(br:Int)(ks:List Int)(sc:Int):CC:=(br,ks.map (λk=>kK k (lW t)),sc,())
theorem NG(t:eZ)(i br:Int)(ks:List Int)(sc:Int):NF t i br ks sc=if tM t i br ks then(zU t i.toNat (CY t br ks sc),0) else(([],[],0,()),1):=rfl
theorem G3{t:eZ}{i br:Int}{ks:List Int}(h:tM t i br ks=true):jk t=true/\(0<=i/\i < t.1.length/\0<=br/\br < 4/\ks.length<=12)/\∀k∈ks,k < 2305843009213688669/\k≠0:=by
 unfold tM at h
 simp only[aj,decide_eq_true_eq,cC]at h
 refine⟨h.1,h.2.1,λk hk=> ?_⟩
 have:=h.2.2
 rw[jl]at this
 have:=this k hk
 unfold wj at this
 simpa using this
theorem Pt{t:eZ}{i br:Int}{ks:List Int}(sc:Int)(h:tM t i br ks=true):ug (CY t br ks sc)=true:=by
 have e:=(G3 h).2.1
 unfold ug CY
 rw[aY ⟨e.2.2.1,e.2.2.2.1⟩,aY (by rw[cK];exact e.2.2.2.2)]
 rfl
theorem R1(t:eZ)(br:Int)(ks:List Int){sc:Int}(h:mq sc):CD (CY t br ks sc):=⟨λs hs=>by
  obtain⟨k,_,rfl⟩:=eJ.1 (show s∈ks.map λk=>kK k (lW t) from hs)
  exact ND k _,h⟩
theorem NH{t:eZ}{i br sc:Int}{ks:List Int}(hv:rJ t)(h:tM t i br ks=true)(hs:mq sc):
  jk (zU t i.toNat (CY t br ks sc))=true/\rJ (zU t i.toNat (CY t br ks sc))/\lW (zU t i.toNat (CY t br ks sc))=lW t/\dT (zU t i.toNat (CY t br ks sc))=dT t/\iq (zU t i.toNat (CY t br ks sc))=iq t:=by
 obtain⟨jU,e,_⟩:=G3 h
 have hk:i.toNat < t.1.length:=by omega
 have hw:=Pt sc h
 exact⟨Am hk jU hw,RY hk hv (R1 t br ks hs) (by show(ks.map _).length<=_;rw[cK];omega),Pr hk jU hw⟩
def xl:iw:=([],true,())
def mU(r:iw):Prop:=r.1.length<=1000000000/\Bytes r.1
def kM(n:Nat)(r:iw):List Int×iw:=if r.2.1=true\/r.1.length < n then([],xl) else(r.1.take n,(r.1.drop n,r.2))
def wQ(l:List Int):Int:=l.foldl (λn b=>n*256+b) 0
def ng(r:iw):Int×iw:=(wQ (kM 8 r).1,(kM 8 r).2)
theorem Eo:mU xl:=⟨aK _,λx hx=>by cases hx⟩
theorem qS{n:Nat}{r:iw}(h:mU r):(kM n r).1.length<=n/\Bytes (kM n r).1/\mU (kM n r).2:=by
 unfold kM
 split
 ·exact⟨aK _,λx hx=>(by cases hx),Eo⟩
 ·refine⟨by rw[bQ];omega,λx hx=>h.2 x (iZ hx),?_,λx hx=>h.2 x (List.mem_of_mem_drop hx)⟩
  show(r.1.drop n).length<=_
  rw[dy]
  have:=h.1
  omega
theorem K8(l:List Int)(b:Int):wQ (l++ [b])=wQ l*256+b:=by unfold wQ;rw[List.foldl_append];rfl
theorem GC:∀(l:List Int) (n:Int) (k:Nat),Bytes l->0<=n->n < 256^k->0<=l.foldl (λn b=>n*256+b) n/\l.foldl (λn b=>n*256+b) n < 256^(k+l.length)
 |[],n,k,_,h0,h1=>⟨h0,h1⟩
 |b::l,n,k,hb,h0,h1=>by
  obtain⟨Vl,Vm⟩:=hb b aH
  have e:(256:Int)^(k+1)=256^k*256:=gg 256 k
  have:=GC l (n*256+b) (k+1) (λx hx=>hb x (aF _ hx)) (by omega) (by rw[e];omega)
  rw[show k+(b::l).length=k+1+l.length by rw[aB];omega]
  exact this
theorem JL{l:List Int}(h:Bytes l):0<=wQ l/\wQ l < 256^l.length:=by
 have:=GC l 0 0 h (kS 0) (by decide)
 rw[aI]at this
 exact this
theorem DN{a b:Nat}(h:a<=b):(256:Int)^a<=256^b:=by
 have:((256^a:Nat):Int)<=((256^b:Nat):Int):=Int.ofNat_le.2 (Nat.pow_le_pow_right (by decide) h)
 rw[jY,jY]at this
 exact this
theorem RO{l:List Int}(h:Bytes l)(h8:l.length<=8):mq (wQ l):=by
 have e:=JL h
 have e2:=DN h8
 have e3:(256:Int)^8=18446744073709551616:=rfl
 exact⟨e.1,by omega⟩
theorem y5{r:iw}(h:mU r):mq (ng r).1/\mU (ng r).2:=⟨RO (qS h).2.1 (qS h).1,(qS h).2.2⟩
theorem UH{n b:Int}(h0:0<=n)(h1:n < 72057594037927936)(hb:D6 b):dY .or .u64 (l5 .u64 n 8) (fa .u64 b)=n*256+b:=by
 have e:=(zd (n:=n) (b:=b) ⟨h0,by omega⟩ hb).1
 rw[pD 56 (by rfl) (by omega)]at e
 have p:(2:Int)^56=72057594037927936:=rfl
 rw[p]at e
 omega
abbrev kh.D:=iw
abbrev kh.Y:=iw
def kh.aM:kh.D->Prop:=λ_=>True
def kh.F:kh.D->kh.Y:=λ_=>xl
def kh:Fs Tryz.prog kh.aM bP kh.F:=gC 239 Tryz.f239 (λo0=>([.ptr (.aV 0) 0 [] 0],[.obj 0 false (.d oa o0)])) (λx=>⟨.nil,[.obj 0 false (.d oa x)],[]⟩) [none] [] {Ay:=[⟨0,[.arr],oa⟩]}
theorem kh.eq{R:Type}(o0)(k:K1 R):kh.A o0 k=
 k (kh.out (([]:List Int),(true,o0.2.2))):=by kernel_rfl
theorem kh.ok:kh.Ok:=by
 intro o _
 rw[kh.eq]
 rfl
theorem kh.run:kh.RS:=rE [.d oa] kh
def kh.sg:=kh.gG kh.ok
abbrev jD.D:=iw
abbrev jD.Y:=Int
abbrev jD.X:=(iw)×(Int)
def jD.add:jD.D->jD.Y->jD.X:=λo0 y=>(o0,y)
def jD.aM:jD.D->Prop:=λ_=>True
def jD.F:jD.D->jD.Y:=λo=>(o.1.length:Int)
def jD:Fs Tryz.prog jD.aM jD.add jD.F:=gC 190 Tryz.f190 (λo0=>([.ptr (.aV 0) 0 [] 0],[.obj 0 false (.d oa o0)])) (λx=>⟨.d ti x.2,[.obj 0 false (.d oa x.1)],[]⟩) [none]
theorem jD.eq{R:Type}(o0)(k:K1 R):jD.A o0 k=
 k (jD.out (o0,(o0.1.length:Int))):=by kernel_rfl
theorem jD.ok:jD.Ok:=by
 intro o _
 rw[jD.eq]
 rfl
theorem jD.run:jD.RS:=rE [.d oa] jD
def jD.sg:=jD.gG jD.ok
abbrev na.D:=iw
abbrev na.Y:=Bool
abbrev na.X:=(iw)×(Bool)
def na.add:na.D->na.Y->na.X:=λo0 y=>(o0,y)
def na.aM:na.D->Prop:=λ_=>True
def na.F:na.D->na.Y:=λo=> !o.2.1
def na:Fs Tryz.prog na.aM na.add na.F:=gC 189 Tryz.f189 (λo0=>([.ptr (.aV 0) 0 [] 0],[.obj 0 false (.d oa o0)])) (λx=>⟨.d .bool x.2,[.obj 0 false (.d oa x.1)],[]⟩) [none]
theorem na.eq{R:Type}(o0)(k:K1 R):na.A o0 k=
 k (na.out (o0,(!o0.2.1))):=by kernel_rfl
theorem na.ok:na.Ok:=by
 intro o _
 rw[na.eq]
 rfl
theorem na.run:na.RS:=rE [.d oa] na
def na.sg:=na.gG na.ok
abbrev jh.D:=Int×iw
abbrev jh.Y:=Bs×iw
def jh.aM:jh.D->Prop:=λ(n,o)=>0<=n/\o.1.length<=1000000000
def jh.F:jh.D->jh.Y:=λ(n,o)=>kM n.toNat o
def jh:Fs Tryz.prog jh.aM bP jh.F:=gC 240 Tryz.f240 (λ(n,o0)=>([.ptr (.aV 0) 0 [] 0,.d ti n],[.obj 0 false (.d oa o0)])) (λx=>⟨.d tB x.1,[.obj 0 false (.d oa x.2)],[]⟩) [none,some ti] [kh.sg,fK.sg] {res:=[some tB],Ay:=[⟨0,[.arr],oa⟩]}
theorem jh.eq{R:Type}(n o0)(k:K1 R):jh.A (n,o0) k=
  aP (o0.2.1) (
   ah (kh.call o0) λx1=>
   k (jh.out (([]:List Int),x1))) (
   aP ((uK n (o0.1.length:Int))) (
    ah (kh.call o0) λx2=>
    k (jh.out (([]:List Int),x2))) (
    aP (inc n (o0.1.length:Int)) (
    ah (fK.call (cut o0.1 0 ((Int.toNat n) - 0))) λx3=>
    aP (inc n (o0.1.length:Int)) (
    aP (decide (0=0/\(0+x3.1)<=(List.length x3.2))) (
    k (jh.out ((cut x3.2 0 x3.1),((cut o0.1 (Int.toNat n) ((List.length o0.1) - (Int.toNat n))),o0.2)))) none) none) none)):=by kernel_rfl
theorem jh.ok:jh.Ok:=by
 rintro⟨n,o⟩ ⟨h0,hl⟩
 have h0:0<=n:=h0
 have hl:o.1.length<=1000000000:=hl
 obtain⟨k,rfl⟩:∃k:Nat,n=k:=⟨n.toNat,by omega⟩
 rw[jh.eq]
 simp only[bP,jh.F,kM,aa,Nat.sub_zero]
 cases h2:o.2.1
 ·by_cases hn:o.1.length < k
  ·rw[eY (by omega),if_pos (Or.inr hn),kh.run (d:=o) trivial];rfl
  ·have e1:cut o.1 0 k=o.1.take k:=rfl
   have e2:cut o.1 k (o.1.length - k)=o.1.drop k:=by unfold cut;rw[bk];rw[dy];omega
   rw[eC (by omega),if_neg (by intro x;rcases x with x | x;exact absurd x (by decide);exact hn x),oz (by omega) (by omega),e1,e2,fK.run (d:=o.1.take k) (by show(o.1.take k).length<=_;rw[bQ];omega)]
   simp only[al,ag,ab,bP,fK.F,aI,aw,and_self,decide_true,gI]
 ·rw[ag,if_pos (Or.inl rfl),kh.run (d:=o) trivial];rfl
theorem jh.run:jh.RS:=rE [.d ti,.d oa] jh
def jh.sg:=jh.gG jh.ok
abbrev fR.L0.D:=Int×Bs×Int×Int×iw
abbrev fR.L0.Y:=Int
abbrev fR.L0.X:=(iw)×(Int)
def fR.L0.add:fR.L0.D->fR.L0.Y->fR.L0.X:=λ(n,t7,t8,t9,nM) y=>(nM,y)
abbrev fR.D:=iw
abbrev fR.Y:=Int×iw
def fR.L0.aM:fR.L0.D->Prop:=λ(n,l,m,i,o)=>Bytes l/\l.length<=8/\m=l.length/\∃k:Nat,k<=l.length/\i=k/\n=wQ (l.take k)
def fR.L0.F:fR.L0.D->fR.L0.Y:=λ(n,l,m,i,o)=>wQ l
def fR.aM:fR.D->Prop:=λo=>mU o
def fR.F:fR.D->fR.Y:=λo=>ng o
def fR.L0:Ls fR.L0.aM fR.L0.add fR.L0.F:=rX (λ(n,t7,t8,t9,nM)=>⟨([.undef,.undef,.undef,.d tu n,.undef,.undef,.undef,.d tB t7,.d ti t8,.d ti t9]++aT 10 []),[.obj 0 false (.d oa nM)],(List.replicate 20 [])⟩) (λx=>(.exit 0,⟨([.undef,.undef,.undef,.d tu x.2]++aT 16 []),[.obj 0 false (.d oa x.1)],(List.replicate 20 [])⟩))
def fR:Fs Tryz.prog fR.aM bP fR.F:=gC 188 Tryz.f188 (λo0=>([.ptr (.aV 0) 0 [] 0],[.obj 0 false (.d oa o0)])) (λx=>⟨.d tu x.1,[.obj 0 false (.d oa x.2)],[]⟩) [none] [jh.sg] {loops:=pz [(3,{bo:=[3,7,8,9]})],outs:=py [(3,{bo:=[3]},{bo:=[2]})],iX:=lkn [(3,fR.L0.E)]}
theorem fR.L0.run:fR.L0.RS:=rL [.d tu,.d tB,.d ti,.d ti,.d oa] fR.L0
theorem fR.L0.step{R:Type}(n t7 t8 t9 nM)(kn:K2 R)(kx:K3 R):fR.R 0 fR.L0 (n,t7,t8,t9,nM) kn kx=
  aP ((jx t9 t8)) (
   aP (jn t9 (t7.length:Int)) (
   kn (fR.L0.st ((dY .or .u64 (l5 .u64 n 8) (fa .u64 (nth tb t7 (Int.toNat t9)))),t7,t8,(cG .i64 t9 1),nM))) none) (
   fR.L0.go kx (nM,n)):=by kernel_rfl
theorem fR.eq{R:Type}(o0)(k:K1 R):fR.A o0 k=
 ah (jh.call (8,o0)) λx1=>
 ah (fR.L0.call (0,x1.1,(x1.1.length:Int),0,x1.2)) λx2=>
 k (fR.out (x2.2,x2.1)):=by kernel_rfl
theorem fR.L0.ok:(fR.mL 0 fR.L0):=by
 refine(fR.oH 0 fR.L0) (λ(n,l,m,i,o)=>l.length - i.toNat) ?_
 rintro⟨n,l,m,i,o⟩ ⟨hb,h8,rfl,k,hk,rfl,rfl⟩
 have h8:l.length<=8:=h8
 have hk:k<=l.length:=hk
 by_cases h:k < l.length
 ·left
  have hx:=hb _ (aL h)
  have n1:nth (.int .u8) l k=l[k]:=dz (t:= .int .u8) h
  have ht:(l.take k).length=k:=by rw[bQ];omega
  have b0:=JL (l:=l.take k) λx hx=>hb x (iZ hx)
  rw[ht]at b0
  have b1:=DN (show k<=7 by omega)
  have b2:(256:Int)^7=72057594037927936:=rfl
  refine⟨(wQ (l.take (k+1)),l,l.length,((k+1:Nat):Int),o),⟨hb,h8,rfl,k+1,by omega,rfl,rfl⟩,by simp only[aa];omega,rfl,λkn kx=> ?_⟩
  rw[fR.L0.step,bg (by omega),bG (by omega) (by omega),aa,n1,N.p9 (by omega),UH b0.1 (by omega) hx,List.take_succ_eq_append_getElem h,K8]
  rfl
 ·right
  obtain rfl:k=l.length:=by omega
  intro R kn kx
  rw[fR.L0.step,aX (by omega),al,dh]
  rfl
theorem fR.ok:fR.Ok:=by
 intro o h
 have h:mU o:=h
 have t:=qS (n:=8) h
 rw[fR.eq,jh.run (d:=(8,o)) ⟨by decide,h.1⟩]
 simp only[ab,bP,jh.F]
 rw[show Int.toNat 8=8 from rfl,fR.L0.run (d:=(0,(kM 8 o).1,(kM 8 o).1.length,0,(kM 8 o).2)) ⟨t.2.1,t.1,rfl,0,aK _,rfl,rfl⟩]
 rfl
theorem fR.run:fR.RS:=rE [.d oa] fR
def fR.sg:=fR.gG fR.ok 1 ⟨.iR fR.L0.ok,trivial⟩
abbrev ki.D:=Bs
abbrev ki.Y:=iw
def ki.aM:ki.D->Prop:=λb=>b.length<=1000000000
def ki.F:ki.D->ki.Y:=λb=>(b,false,())
def ki:Fs Tryz.prog ki.aM bP ki.F:=gC 182 Tryz.f182 (λb=>([.d tB b],[])) (λx=>⟨.ptr (.new 0 0) 0 [] 0,[],[.obj 0 false (.d oa x)]⟩) [some tB] [fK.sg] {bK:=[6],Ay:=[⟨2,[.arr],oa⟩]}
theorem ki.eq{R:Type}(b)(k:K1 R):ki.A b k=
 ah (fK.call b) λx1=>
 aP (decide (0=0/\(0+x1.1)<=(List.length x1.2))) (
 k (ki.out ((cut x1.2 0 x1.1),(false,())))) none:=by kernel_rfl
theorem ki.ok:ki.Ok:=by
 intro b hb
 have hb:b.length<=1000000000:=hb
 rw[ki.eq,fK.run (d:=b) (by show b.length<=_;omega)]
 simp only[ab,bP,fK.F,aI,aw,and_self,decide_true,ag,gI]
 rfl
theorem ki.run:ki.RS:=rE [.d tB] ki
def ki.sg:=ki.gG ki.ok
abbrev fo.D:=Int×iw
abbrev fo.Y:=Bool
abbrev fo.X:=(Int×iw)×(Bool)
def fo.add:fo.D->fo.Y->fo.X:=λ(o0,o2) y=>((o0,o2),y)
def fo.aM:fo.D->Prop:=λ(a,o)=>0<=a
def fo.F:fo.D->fo.Y:=λ(a,o)=>decide (o.1.length<=a.toNat\/8 < a.toNat\/(0 < a.toNat/\nth (.int .u8) o.1 a.toNat=0))
def fo:Fs Tryz.prog fo.aM fo.add fo.F:=gC 238 Tryz.f238 (λ(o0,o2)=>([.ptr (.aV 0) 0 [] 0,.ptr (.aV 1) 0 [] 0],[.obj 0 false (.d ti o0),.obj 0 false (.ptr (.aV 2) 0 [] 0),.obj 0 false (.d oa o2)])) (λx=>⟨.d .bool x.2,[.obj 0 false (.d ti x.1.1),.obj 0 false (.ptr (.aV 2) 0 [] 0),.obj 0 false (.d oa x.1.2)],[]⟩) [none,none]
theorem fo.eq{R:Type}(o0 o2)(k:K1 R):fo.A (o0,o2) k=
  aP ((tY o0 (o2.1.length:Int))) (
   k (fo.out ((o0,o2),true))) (
   aP ((uK o0 8)) (
    k (fo.out ((o0,o2),true))) (
    aP ((uK o0 0)) (
     aP (jn o0 (o2.1.length:Int)) (
     k (fo.out ((o0,o2),(w7 (nth tb o2.1 (Int.toNat o0)) 0)))) none) (
     k (fo.out ((o0,o2),false))))):=by kernel_rfl
theorem fo.ok:fo.Ok:=by
 rintro⟨a,o⟩ h0
 obtain⟨k,rfl⟩:∃k:Nat,a=k:=⟨a.toNat,by have h0:0<=a:=h0;omega⟩
 rw[fo.eq]
 simp only[fo.add,fo.F,aa]
 by_cases h1:o.1.length<=k
 ·rw[jg (by omega),aY (Or.inl h1)];rfl
 by_cases h2:8 < k
 ·rw[fI (by omega),eY (by omega),aY (Or.inr (Or.inl h2))];rfl
 by_cases h3:0 < k
 ·rw[fI (by omega),eC (by omega),eY (by omega),bG (by omega) (by omega)]
  simp only[al,ag]
  by_cases h4:nth (.int .u8) o.1 k=0
  ·rw[jf h4,aY (Or.inr (Or.inr ⟨h3,h4⟩))]
  ·rw[lH h4,cH (by rintro(x | x | x);exact h1 x;exact h2 x;exact h4 x.2)]
 ·rw[fI (by omega),eC (by omega),eC (by omega),cH (by rintro(x | x | x);exact h1 x;exact h2 x;exact h3 x.1)];rfl
theorem fo.run:fo.RS:=rE [.d ti,.d oa] fo
def fo.sg:=fo.gG fo.ok
def rq:List Int->Nat->Int->(Int×Nat)⊕Unit
 |[],_,_=> .inr ()
 |d::l,a,n=>if 8 < a\/(0 < a/\d=0) then .inr () else if d < 128 then .inl (n+d%128*128^a,a+1) else rq l (a+1) (n+d%128*128^a)
def dH(r:iw):Int×iw:=match rq r.1 0 0 with | .inl v=>(v.1,(r.1.drop v.2,r.2)) | .inr _=>(0,xl)
theorem IF(k:Nat):(128:Int)^k=((128^k:Nat):Int):=by rw[jY];rfl
theorem FP{n d k:Nat}(hk:k<=8)(hn:n < 128^k)(hd:d < 128):dY .or .i64 (n:Int) (l5 .i64 (d:Int) ((7*k:Nat):Int))=((n+d*128^k:Nat):Int)/\n+d*128^k < 128^(k+1)/\128^(k+1)<=9223372036854775808:=by
 have p:128^k<=128^8:=Nat.pow_le_pow_right (by decide) hk
 have p8:128^8=72057594037927936:=rfl
 have e1:128^(k+1)=128^k*128:=Nat.pow_succ (n:=128) (m:=k)
 have e2:2^(7*k)=128^k:=by rw[Nat.pow_mul]
 have e3:d*128^k<=127*128^k:=cY _ (by omega)
 refine⟨?_,by omega,by omega⟩
 have s:l5 .i64 (d:Int) ((7*k:Nat):Int)=((d*128^k:Nat):Int):=by
  rw[l5]
  have e:min (Int.toNat ((7*k:Nat):Int)) IntKind.i64.bits=7*k:=by simp only[IntKind.bits,aa];omega
  rw[e,show(2:Int)^(7*k)=((2^(7*k):Nat):Int) by rw[jY];rfl,e2,<-jX]
  exact ov (by omega) (by omega)
 rw[s]
 have e:(BitVec.ofInt 64 (n:Int) ||| BitVec.ofInt 64 ((d*128^k:Nat):Int)).toNat=n+d*128^k:=by
  rw[BitVec.toNat_or]
  have a:(BitVec.ofInt 64 ((d*128^k:Nat):Int)).toNat=2^(7*k)*d:=by rw[iY,jJ,e2,mD];exact jG (by rw[mD];omega)
  have b:(BitVec.ofInt 64 (n:Int)).toNat=n:=by rw[iY,jJ];exact jG (by omega)
  rw[a,b,Nat.or_comm,<-Nat.two_pow_add_eq_or_of_lt (by rw[e2];exact hn),e2,mD]
  omega
 show IntKind.i64.wrap ((BitVec.ofInt 64 (n:Int) ||| BitVec.ofInt 64 ((d*128^k:Nat):Int)).toNat:Int)=_
 rw[e]
 exact ov (by omega) (by omega)
theorem ES:∀(l:List Int) (a:Nat) (n:Int) (v:Int×Nat),Bytes l->a<=9->0<=n->n < 128^a->rq l a n= .inl v->0<=v.1/\v.1 < 9223372036854775808/\a < v.2/\v.2<=a+l.length/\v.2<=9
 |[],a,n,v,_,_,_,_,h=>by cases h
 |d::l,a,n,v,hb,ha,h0,h1,h=>by
  have hx:=hb d aH
  obtain⟨x1,x2⟩:=hx
  rw[rq]at h
  split at h
  ·cases h
  ·rename_i hc
   have XK:a<=8:=by omega
   rw[IF]at h1 h
   obtain⟨nn,rfl⟩:∃m:Nat,n=m:=⟨n.toNat,by omega⟩
   obtain⟨dn,U9⟩:∃m:Nat,d%128=m:=⟨(d%128).toNat,by omega⟩
   have g:=(FP (n:=nn) (d:=dn) XK (by omega) (by omega)).2
   rw[U9]at h
   have ec:((nn:Int)+(dn:Int)*((128^a:Nat):Int))=((nn+dn*128^a:Nat):Int):=by rw[Int.natCast_add,jX]
   rw[ec]at h
   split at h
   ·cases h
    simp only[aB]
    exact⟨by omega,by omega,by omega,by omega,by omega⟩
   ·have:=ES l (a+1) _ v (λx hx=>hb x (aF _ hx)) (by omega) (by omega) (by rw[IF];omega) h
    simp only[aB]
    exact⟨this.1,this.2.1,by omega,by omega,this.2.2.2.2⟩
theorem nj{r:iw}(h:mU r):0<=(dH r).1/\(dH r).1<=9223372036854775807/\mU (dH r).2:=by
 unfold dH
 cases hf:rq r.1 0 0 with
 |inl v=>
  have:=ES r.1 0 0 v h.2 (by decide) (by decide) (by decide) hf
  refine⟨this.1,by have:=this.2.1;show v.1<=_;omega,?_,λx hx=>h.2 x (List.mem_of_mem_drop hx)⟩
  show(r.1.drop v.2).length<=_
  rw[dy]
  have:=h.1
  omega
 |inr _=>exact⟨kS 0,(show(0:Int)<=9223372036854775807 by decide),Eo⟩
theorem GF:∀(f:Nat) (n:Int) (a:Nat) (m:Int) (rest:List Int),0<=n->n < 128^(f+1)->a+f<=8->(a=0\/0 < n)->
  rq ((gJ f n).1++(gJ f n).2::rest) a m= .inl (m+n*128^a,a+(gJ f n).1.length+1)
 | 0,n,a,m,rest,h0,h1,ha,hp=>by
  have h1:n < 128:=h1
  show rq (n::rest) a m=_
  rw[rq,if_neg (by omega),if_pos h1,fi h0 h1]
  rfl
 |f+1,n,a,m,rest,h0,h1,ha,hp=>by
  rw[gJ]
  have e:(128:Int)^(f+1+1)=128^(f+1)*128:=gg 128 (f+1)
  split
  ·rename_i h
   show rq ((n%128+128)::((gJ f (n / 128)).1++(gJ f (n / 128)).2::rest)) a m=_
   rw[rq,if_neg (by omega),if_neg (by omega),GF f (n / 128) (a+1) _ rest (by omega) (by omega) (by omega) (Or.inr (by omega))]
   have e2:(128:Int)^(a+1)=128^a*128:=gg 128 a
   have e3:(n%128+128)%128=n%128:=by omega
   have e4:m+n%128*128^a+n / 128*(128^a*128)=m+n*128^a:=by
    have:n*128^a=(n%128+n / 128*128)*128^a:=by rw[show n%128+n / 128*128=n by omega]
    rw[this,Int.add_mul,Int.mul_assoc (n / 128),Int.mul_comm 128 (128^a),Int.add_assoc]
   rw[e3,e2,e4]
   simp only[aB]
   rw[show a+1+(gJ f (n / 128)).1.length+1=a+((gJ f (n / 128)).1.length+1)+1 by omega]
  ·rename_i h
   show rq (n::rest) a m=_
   rw[rq,if_neg (by omega),if_pos (by omega),fi h0 (by omega)]
   rfl
theorem uR(n:Int)(h:ui n)(rest:List Int)(u:Bool×Unit):dH (iC n++rest,u)=(n,(rest,u)):=by
 have h0:=h.1
 have h1:=h.2
 have e8:(128:Int)^(8+1)=9223372036854775808:=rfl
 have e10:(128:Int)^(10+1)=151115727451828646838272:=rfl
 have er:gJ 10 n=gJ 8 n:=vu 10 8 n (by rw[e10];omega) (by rw[e8];omega)
 have el:iC n++rest=(gJ 8 n).1++(gJ 8 n).2::rest:=by unfold iC;rw[er,aD];rfl
 have e:=GF 8 n 0 0 rest h0 (by rw[e8];omega) (by decide) (Or.inl rfl)
 unfold dH
 show(match rq (iC n++rest) 0 0 with | .inl v=>(v.1,((iC n++rest).drop v.2,u)) | .inr _=>(0,xl))=_
 rw[el,e]
 show(0+n*128^0,(((gJ 8 n).1++(gJ 8 n).2::rest).drop (0+(gJ 8 n).1.length+1),u))=_
 rw[j4,Int.mul_one,Int.zero_add,aI,List.append_cons,jZ (by rw[ae];rfl)]
theorem Ni(n:Int)(h:mq n):wQ (kP n)=n:=by
 obtain⟨h0,h1⟩:=h
 unfold wQ kP
 simp only[bT,dR]
 omega
theorem u9(n:Int)(h:mq n)(rest:List Int):ng (kP n++rest,false,())=(n,(rest,false,())):=by
 unfold ng kM
 have l8:=dB n
 rw[if_neg (by
  intro x
  rcases x with x | x
  ·have x:false=true:=x
   cases x
  ·have x:(kP n++rest).length < 8:=x
   rw[ae]at x
   omega)]
 show(wQ ((kP n++rest).take 8),((kP n++rest).drop 8,false,()))=_
 rw[j2 l8,jZ l8,Ni n h]
abbrev cU.L0.D:=Int×iw×Int
def cU.L0.st:cU.L0.D->AS:=λ(n,nM,n4)=>⟨([.ptr (.aV 0) 0 [] 0,.ptr (.new 1 0) 0 [] 0,.undef,.d ti n,.ptr (.new 4 0) 0 [] 0,.fn 238 (.cons (.ptr (.new 4 0) 0 [] 0) (.cons (.ptr (.new 1 0) 0 [] 0) (.nil)))]++aT 35 []),[.obj 0 false (.d oa nM)],([[],[.obj 0 false (.ptr (.aV 0) 0 [] 0)],[],[],[.obj 0 false (.d ti n4)]]++ct 36 [])⟩
abbrev cU.L0.Y0:=iw
abbrev cU.L0.X0:=iw
def cU.L0.eG:cU.L0.X0->Exit×AS:=λx=>(.ret,⟨([.ptr (.aV 0) 0 [] 0,.undef,.d ti (0:Int)]++aT 38 []),[.obj 0 false (.d oa x)],(List.replicate 41 [])⟩)
abbrev cU.L0.Y1:=Int×iw×Int
abbrev cU.L0.X1:=Int×iw×Int
def cU.L0.gZ:cU.L0.X1->Exit×AS:=λx=>(.exit 0,⟨([.ptr (.aV 0) 0 [] 0,.ptr (.new 1 0) 0 [] 0,.undef,.d ti x.1,.ptr (.new 4 0) 0 [] 0]++aT 36 []),[.obj 0 false (.d oa x.2.1)],([[],[.obj 0 false (.ptr (.aV 0) 0 [] 0)],[],[],[.obj 0 false (.d ti x.2.2)]]++ct 36 [])⟩)
abbrev cU.L0.X:=(cU.L0.X0)⊕(cU.L0.X1)
abbrev cU.L0.Y:=(cU.L0.Y0)⊕(cU.L0.Y1)
def cU.L0.out:cU.L0.X->Out (Exit×AS):=λx=> .br x.isLeft (.get x.getLeft? λa=> .ok (cU.L0.eG a)) (.get x.getRight? λb=> .ok (cU.L0.gZ b))
def cU.L0.add:cU.L0.D->cU.L0.Y->cU.L0.X:=λ(n,nM,n4) y=>match y with | .inl y=> .inl y | .inr z=> .inr (z)
abbrev cU.D:=iw
abbrev cU.Y:=Int×iw
def cU.L0.aM:cU.L0.D->Prop:=λ(n,o,i)=>mU o/\∃(k m:Nat),k<=9/\i=k/\n=m/\m < 128^k
def cU.L0.F:cU.L0.D->cU.L0.Y:=λ(n,o,i)=>match rq (o.1.drop i.toNat) i.toNat n with | .inl v=> .inr (v.1,o,(v.2:Int)) | .inr _=> .inl xl
def cU.aM:cU.D->Prop:=λo=>mU o
def cU.F:cU.D->cU.Y:=λo=>dH o
def cU.L0.E:=eE.iR cU.L0.st cU.L0.aM cU.L0.add cU.L0.F cU.L0.out
def cU.L0.call:cU.L0.D->Option cU.L0.X:=j9 cU.L0.E cU.L0.st
def cU:Fs Tryz.prog cU.aM bP cU.F:=gC 184 Tryz.f184 (λo0=>([.ptr (.aV 0) 0 [] 0],[.obj 0 false (.d oa o0)])) (λx=>⟨.d ti x.1,[.obj 0 false (.d oa x.2)],[]⟩) [none] [fo.sg,kh.sg] {bK:=[1],loops:=pz [(3,{bo:=[0,1,3,4,5],sites:=[1,4]})],outs:=py [(3,{bo:=[0,1,3,4],sites:=[1,4]},{bo:=[0,2]})],iX:=lkn [(3,cU.L0.E)],Ay:=[⟨0,[.arr],oa⟩]}
def cU.L0.R:= @gN Tryz.prog (oo cU.G) cU.an 0 Tryz.f184 0 _ cU.L0.st
abbrev cU.L0.Ok:=mS Tryz.prog (oo cU.G) cU.an 0 Tryz.f184 0 cU.L0.st cU.L0.aM cU.L0.add cU.L0.F cU.L0.out
theorem cU.L0.run:kF cU.L0.call cU.L0.aM cU.L0.add cU.L0.F:=oU (oR [.d ti,.d oa,.d ti] λ_=>by kernel_rfl)
theorem cU.L0.cM:qa @cU.L0.R cU.L0.st cU.L0.aM cU.L0.add cU.L0.F cU.L0.out cU.L0.Ok:=qC
theorem cU.L0.step{R:Type}(n:Int)(nM:iw)(n4:Int)(kn:AS->Option R)(kx:Exit->AS->Option R):cU.L0.R (n,nM,n4) kn kx=
  ah (fo.call (n4,nM)) λx1=>
  aP (x1.2) (
   ah (kh.call x1.1.2) λx2=>
   kx (cU.L0.eG x2).1 (cU.L0.eG x2).2) (
   aP (jn x1.1.1 (((List.length x1.1.2.1):Nat):Int)) (
   aP (nL (jj .i64 (7:Int) x1.1.1)) (
   aP ((jx (nth tb x1.1.2.1 (Int.toNat x1.1.1)) (128:Int))) (
    kx (cU.L0.gZ ((dY .or .i64 n (l5 .i64 (fa .i64 (kQ (nth tb x1.1.2.1 (Int.toNat x1.1.1)) (128:Int))) (jj .i64 (7:Int) x1.1.1))),x1.1.2,(cG .i64 x1.1.1 (1:Int)))).1 (cU.L0.gZ ((dY .or .i64 n (l5 .i64 (fa .i64 (kQ (nth tb x1.1.2.1 (Int.toNat x1.1.1)) (128:Int))) (jj .i64 (7:Int) x1.1.1))),x1.1.2,(cG .i64 x1.1.1 (1:Int)))).2) (
    kn (cU.L0.st ((dY .or .i64 n (l5 .i64 (fa .i64 (kQ (nth tb x1.1.2.1 (Int.toNat x1.1.1)) (128:Int))) (jj .i64 (7:Int) x1.1.1))),x1.1.2,(cG .i64 x1.1.1 (1:Int)))))) none) none):=by kernel_rfl
theorem cU.eq{R:Type}(o0)(k:K1 R):cU.A o0 k=
  ah (cU.L0.call (0,o0,0)) λx3=>
  aP (x3.isLeft) (
   ah (x3.getLeft?) λa4=>
   k (cU.out (0,a4))) (
   ah (x3.getRight?) λb5=>
   aP (inc b5.2.2 (b5.2.1.1.length:Int)) (
   k (cU.out (b5.1,((cut b5.2.1.1 (Int.toNat b5.2.2) ((List.length b5.2.1.1) - (Int.toNat b5.2.2))),b5.2.1.2)))) none):=by kernel_rfl
theorem cU.L0.ok:cU.L0.Ok:=by
 refine cU.L0.cM (λ(n,o,i)=>9 - i.toNat) ?_
 rintro⟨n,o,i⟩ ⟨hr,k,m,hk,rfl,rfl,hm⟩
 have hk:k<=9:=hk
 have hr:mU o:=hr
 by_cases hw:o.1.length<=k\/8 < k\/(0 < k/\nth (.int .u8) o.1 k=0)
 ·right
  have hf:rq (o.1.drop k) k (m:Int)= .inr ():=by
   by_cases h:k < o.1.length
   ·have n1:nth (.int .u8) o.1 k=o.1[k]:=dz (t:= .int .u8) h
    rw[ax h,rq,if_pos (by rw[n1]at hw;rcases hw with x | x | x;exact absurd x (by omega);exact Or.inl x;exact Or.inr x)]
   ·rw[gh (by omega)];rfl
  refine⟨cU.L0.eG xl,?_,λkn kx=> ?_⟩
  ·simp only[cU.L0.add,cU.L0.F,aa,hf]
   rfl
  ·rw[cU.L0.step,fo.run (d:=((k:Int),o)) (gM k)]
   simp only[ab,fo.add,fo.F,aa]
   rw[aY hw,ag,kh.run (d:=o) trivial]
   rfl
 ·have h:k < o.1.length:=by omega
  have hx:=hr.2 _ (aL h)
  obtain⟨x1,x2⟩:=hx
  have n1:nth (.int .u8) o.1 k=o.1[k]:=dz (t:= .int .u8) h
  have hc:¬(8 < k\/(0 < k/\o.1[k]=0)):=λx=>hw (x.elim (λy=> .inr (.inl y)) λy=> .inr (.inr ⟨y.1,n1.trans y.2⟩))
  obtain⟨dn,U9⟩:∃d:Nat,o.1[k]=d:=⟨o.1[k].toNat,by omega⟩
  have g:=FP (n:=m) (d:=dn%128) (k:=k) (by omega) hm (by omega)
  have step:∀ {R:Type} (kn:AS->Option R) (kx:Exit->AS->Option R),cU.L0.R ((m:Int),o,(k:Int)) kn kx=aP (jx o.1[k] 128) (kx (cU.L0.gZ (((m+dn%128*128^k:Nat):Int),o,((k+1:Nat):Int))).1 (cU.L0.gZ (((m+dn%128*128^k:Nat):Int),o,((k+1:Nat):Int))).2) (kn (cU.L0.st (((m+dn%128*128^k:Nat):Int),o,((k+1:Nat):Int)))):=by
   intro R kn kx
   rw[cU.L0.step,fo.run (d:=((k:Int),o)) (gM k)]
   simp only[ab,fo.add,fo.F,aa]
   rw[cH hw,al,bG (by omega) (by omega),n1,U9,N.Ur (by omega),pM (by omega),N.Vt,N.cN (by omega),g.1,N.p9 (by omega)]
   rfl
  have ef:rq (o.1.drop k) k (m:Int)=if o.1[k] < 128 then .inl (((m+dn%128*128^k:Nat):Int),k+1) else rq (o.1.drop (k+1)) (k+1) ((m+dn%128*128^k:Nat):Int):=by
   have ec:(m:Int)+o.1[k]%128*128^k=((m+dn%128*128^k:Nat):Int):=by rw[U9,IF,Int.natCast_add,jX];rfl
   rw[ax h,rq,if_neg hc,ec]
  by_cases hl:o.1[k] < 128
  ·right
   refine⟨cU.L0.gZ (((m+dn%128*128^k:Nat):Int),o,((k+1:Nat):Int)),?_,λkn kx=> ?_⟩
   ·simp only[cU.L0.add,cU.L0.F,aa,ef,if_pos hl]
    rfl
   ·rw[step,bg hl,ag]
  ·left
   refine⟨(((m+dn%128*128^k:Nat):Int),o,((k+1:Nat):Int)),⟨hr,k+1,_,by omega,rfl,rfl,g.2.1⟩,by simp only[aa];omega,?_,λkn kx=> ?_⟩
   ·simp only[cU.L0.add,cU.L0.F,aa,ef,if_neg hl]
   ·rw[step,aX hl,al]
theorem cU.ok:cU.Ok:=by
 intro o h
 have h:mU o:=h
 rw[cU.eq,cU.L0.run (d:=(0,o,0)) ⟨h,0,0,by decide,rfl,rfl,by decide⟩]
 simp only[ab,cU.L0.add,cU.L0.F,bN,aJ,bP,cU.F,dH]
 cases hf:rq o.1 0 0 with
 |inl v=>
  have g:=ES o.1 0 0 v h.2 (by decide) (by decide) (by decide) hf
  have e2:cut o.1 v.2 (o.1.length - v.2)=o.1.drop v.2:=by unfold cut;rw[bk];rw[dy];omega
  simp only[fe,dX,al,ab,aa]
  rw[oz (by omega) (by omega),ag,e2]
 |inr _=>rfl
theorem cU.run:cU.RS:=rE [.d oa] cU
def cU.sg:=cU.gG cU.ok 1 ⟨.iR cU.L0.ok,trivial⟩
theorem gj{a b:List Int}(ha:Bytes a)(hb:Bytes b):Bytes (a++b):=λx hx=>by
 rcases bt.1 hx with h | h
 ·exact ha x h
 ·exact hb x h
theorem BZ:∀(f:Nat) (n:Int),0<=n->n < 128^(f+1)->Bytes (gJ f n).1/\D6 (gJ f n).2
 | 0,n,h0,h1=>by have h1:n < 128:=h1;exact⟨λx hx=>(by cases hx),h0,by show n < 256;omega⟩
 |f+1,n,h0,h1=>by
  have e:(128:Int)^(f+1+1)=128^(f+1)*128:=gg 128 (f+1)
  rw[gJ]
  split
  ·have ih:=BZ f (n / 128) (by omega) (by omega)
   refine⟨λx hx=> ?_,ih.2⟩
   rcases cX.1 hx with rfl | hx
   ·exact⟨by omega,by omega⟩
   ·exact ih.1 x hx
  ·exact⟨λx hx=>(by cases hx),h0,by show n < 256;omega⟩
theorem j3{n:Int}(h:ui n):Bytes (iC n):=by
 have e10:(128:Int)^(10+1)=151115727451828646838272:=rfl
 obtain⟨h0,h1⟩:=h
 have:=BZ 10 n h0 (by rw[e10];omega)
 unfold iC
 exact gj this.1 λx hx=>by rw[bI]at hx;subst hx;exact this.2
theorem Gh:∀(ks:List Int) (o:List Int),oW o ks=o++ks.flatMap kP
 |[],o=>by rw[my,bS];rfl
 |k::ks,o=>by
  show oW (o++kP k) ks=_
  rw[Gh ks,dx,aD]
theorem Ii(ks:List Int):Bytes (ks.flatMap kP):=λx hx=>by
 obtain⟨k,_,hk⟩:=List.mem_flatMap.1 hx
 exact sJ k x hk
def N8(b:oV):List Int:=iC b.1.length++(b.1.flatMap kP++(iC b.2.1++(iC b.2.2.1++kP b.2.2.2.1)))
theorem Al(o:List Int){n:Int}(h:0<=n):eh o n=o++iC n:=by rw[eh,if_neg (by omega)]
structure Qt(b:oV):Prop where
 len:b.1.length<=12
 af:ui b.2.1
 dl:ui b.2.2.1
theorem QI{b:oV}(h:uj b=true):Qt b:=by
 unfold uj xt at h
 simp only[aj,decide_eq_true_eq]at h
 obtain⟨h1,_,h2,h3,_⟩:=h
 exact⟨h1,⟨h2.1,by omega⟩,⟨h3.1,by omega⟩⟩
theorem oE{n:Nat}(h:n<=1000000000):ui (n:Int):=⟨by omega,by omega⟩
theorem QG(o:List Int){b:oV}(h:Qt b):N7 o b=o++N8 b:=by
 unfold N7 N8
 rw[Al _ (gM _),Gh,Al _ h.af.1,Al _ h.dl.1]
 simp only[aD]
theorem Jk:∀(bs:List oV) (o:List Int),(∀b∈bs,Qt b)->bs.foldl N7 o=o++bs.flatMap N8
 |[],o,_=>by rw[my,bS];rfl
 |b::bs,o,h=>by
  rw[bT,QG o (h b aH),Jk bs _ λx hx=>h x (aF _ hx),dx,aD]
theorem Il{l:Lk}(h:lN l=true):(∀b∈l.1,Qt b)/\0 < l.1.length/\l.1.length<=4:=by
 unfold lN at h
 simp only[aj,dv,decide_eq_true_eq]at h
 exact⟨λb hb=>QI (h.1 b hb),h.2⟩
theorem M5{l:Lk}(h:lN l=true):yP l=iC l.1.length++l.1.flatMap N8:=by
 unfold yP
 rw[if_pos h,Jk _ _ (Il h).1,Al _ (gM _),aR]
theorem Ki{b:oV}(h:Qt b):Bytes (N8 b):=
 have LG:=h.len
 gj (j3 (oE (by omega))) (gj (Ii _) (gj (j3 h.af) (gj (j3 h.dl) (sJ _))))
theorem KQ(l:Lk):Bytes (yP l):=by
 cases h:lN l
 ·unfold yP
  rw[h,if_neg (by decide)]
  exact λx hx=>(by cases hx)
 ·have hk:=Il h
  rw[M5 h]
  refine gj (j3 (oE (by omega))) λx hx=> ?_
  obtain⟨b,hb,hx⟩:=List.mem_flatMap.1 hx
  exact Ki (hk.1 b hb) x hx
theorem IJ{b:List Int}(h:Bytes b)(hl:b.length<=1000000000)(u:Bool×Unit):mU (b,u):=⟨hl,h⟩
def nQ:Nat->iw->List Int×iw
 | 0,r=>([],r)
 |k+1,r=>((ng r).1::(nQ k (ng r).2).1,(nQ k (ng r).2).2)
def sH(k:Nat)(r:iw):oV×iw:=
 (((nQ k r).1,(dH (nQ k r).2).1,(dH (dH (nQ k r).2).2).1,(ng (dH (dH (nQ k r).2).2).2).1,()),(ng (dH (dH (nQ k r).2).2).2).2)
def sI:Nat->Int->iw->List oV
 | 0,_,_=> []
 |f+1,n,r=>if 0 < n then(if f=0\/12 < (dH r).1 then [] else(sH (dH r).1.toNat (dH r).2).1::sI f (n - 1) (sH (dH r).1.toNat (dH r).2).2) else []
def nU(b:List Int):List oV:=sI 5 (dH (b,false,())).1 (dH (b,false,())).2
theorem EH:∀(k:Nat) (r:iw),mU r->tQ (nQ k r).1/\(nQ k r).1.length=k/\mU (nQ k r).2
 | 0,r,h=>⟨λx hx=>(by cases hx),rfl,h⟩
 |k+1,r,h=>by
  have e:=y5 h
  have ih:=EH k _ e.2
  refine⟨λx hx=> ?_,by rw[nQ,aB,ih.2.1],ih.2.2⟩
  rcases cX.1 hx with rfl | hx
  ·exact e.1
  ·exact ih.1 x hx
theorem Jh(k:Nat)(r:iw)(h:mU r):PH (sH k r).1/\(sH k r).1.1.length=k/\mU (sH k r).2:=by
 have h1:=EH k r h
 have h2:=nj h1.2.2
 have h3:=nj h2.2.2
 have h4:=y5 h3.2.2
 exact⟨⟨h1.1,h4.1⟩,h1.2.1,h4.2⟩
theorem Mf:∀(f:Nat) (n:Int) (r:iw),mU r->(∀b∈sI f n r,PH b)/\(sI f n r).length<=f
 | 0,n,r,h=>⟨λx hx=>(by cases hx),aw _⟩
 |f+1,n,r,h=>by
  have h1:=nj h
  have h2:=Jh (dH r).1.toNat _ h1.2.2
  have ih:=Mf f (n - 1) _ h2.2.2
  rw[sI]
  split
  ·split
   ·exact⟨λx hx=>(by cases hx),aK _⟩
   ·refine⟨λx hx=> ?_,by rw[aB];omega⟩
    rcases cX.1 hx with rfl | hx
    ·exact h2.1
    ·exact ih.1 x hx
  ·exact⟨λx hx=>(by cases hx),aK _⟩
theorem JT{b:List Int}(h:Bytes b)(hl:b.length<=1000000000):J5 (nU b,())/\(nU b).length<=5:=by
 have e:=Mf 5 (dH (b,false,())).1 _ (nj (IJ h hl (false,()))).2.2
 exact⟨e.1,e.2⟩
theorem Dx:∀(ks:List Int) (rest:List Int),tQ ks->nQ ks.length (ks.flatMap kP++rest,false,())=(ks,(rest,false,()))
 |[],rest,_=>rfl
 |k::ks,rest,h=>by
  have e:ng ((k::ks).flatMap kP++rest,false,())=(k,(ks.flatMap kP++rest,false,())):=by
   rw[dx,aD]
   exact u9 k (h k aH) _
  have ih:=Dx ks rest λx hx=>h x (aF _ hx)
  rw[aB,nQ,e,ih]
theorem Kd(b:oV)(hb:PH b)(hk:Qt b)(rest:List Int):sH b.1.length (b.1.flatMap kP++(iC b.2.1++(iC b.2.2.1++(kP b.2.2.2.1++rest))),false,())=(b,(rest,false,())):=by
 unfold sH
 rw[Dx _ _ hb.1]
 simp only[]
 rw[uR _ hk.af,uR _ hk.dl,u9 _ hb.2]
theorem Me(b:oV)(rest:List Int):N8 b++rest=iC b.1.length++(b.1.flatMap kP++(iC b.2.1++(iC b.2.2.1++(kP b.2.2.2.1++rest)))):=by
 unfold N8
 simp only[aD]
theorem FB:∀(bs:List oV) (f:Nat) (rest:List Int),(∀b∈bs,PH b)->(∀b∈bs,Qt b)->bs.length+1<=f->sI f bs.length (bs.flatMap N8++rest,false,())=bs
 |[],0,rest,_,_,h=>absurd h (by simp)
 |[],f+1,rest,_,_,_=>by
  rw[sI,if_neg (by show ¬(0:Int) < ((0:Nat):Int);omega)]
 |b::bs,0,rest,_,_,h=>absurd h (by simp)
 |b::bs,f+1,rest,hu,hk,h=>by
  have ub:=hu b aH
  have kb:=hk b aH
  have h:bs.length+1+1<=f+1:=h
  have e:(b::bs).flatMap N8++rest=iC b.1.length++(b.1.flatMap kP++(iC b.2.1++(iC b.2.2.1++(kP b.2.2.2.1++(bs.flatMap N8++rest))))):=by rw[dx,aD,Me]
  have LG:=kb.len
  rw[sI,if_pos (by rw[aB];omega),e,uR _ (oE (by omega))]
  simp only[aa]
  rw[if_neg (by omega),Kd b ub kb]
  simp only[]
  rw[show((b::bs).length:Int) - 1=(bs.length:Int) by rw[aB];omega,FB bs f rest (λx hx=>hu x (aF _ hx)) (λx hx=>hk x (aF _ hx)) (by omega)]
theorem Lg{l:Lk}(hu:J5 l)(jU:lN l=true)(rest:List Int):nU (yP l++rest)=l.1:=by
 have hk:=Il jU
 unfold nU
 rw[M5 jU,aD,uR _ (oE (by omega))]
 exact FB l.1 5 rest hu hk.1 (by omega)
def uc(b:List Int):Lk×Bool:=if lN (nU b,())=true/\yP (nU b,())=b then((nU b,()),true) else(([],()),false)
theorem DO{l:Lk}(hu:J5 l)(jU:lN l=true):uc (yP l)=(l,true):=by
 have e:nU (yP l)=l.1:=by have e:=Lg hu jU [];rw[bS]at e;exact e
 unfold uc
 rw[e]
 have e2:((l.1,()):Lk)=l:=rfl
 rw[e2,if_pos ⟨jU,rfl⟩]
theorem Nx{b:List Int}(h:(uc b).2=true):∃l:Lk,lN l=true/\yP l=b/\uc b=(l,true)/\l=(nU b,()):=by
 unfold uc at h ⊢
 split at h
 ·rename_i hc
  exact⟨(nU b,()),hc.1,hc.2,by rw[if_pos hc],rfl⟩
 ·cases h
abbrev cS.L0.D:=Bs×Int×Int×Nat×iw×(List oV)
abbrev cS.L0.Y:=Bs×Nat×(List oV)
abbrev cS.L1.D:=Bs×Int×Int×Int×Int×Nat×Nat×(Int×(Int×(Int×Unit)))×iw×(List Int)×(List oV)
abbrev cS.L1.Y:=Nat×iw×(List Int)
abbrev cS.L1.X:=(Bs×Int×Int×Nat×(Int×(Int×(Int×Unit)))×(List oV))×(Nat×iw×(List Int))
def cS.L1.add:cS.L1.D->cS.L1.Y->cS.L1.X:=λ(Fa,sZ,RA,t27,t28,BF,O9,n8,DB,n35,BC) y=>((Fa,sZ,RA,BF,n8,BC),y)
abbrev cS.D:=Bs
abbrev cS.Y:=Lk×Bool
def cS.L1.aM:cS.L1.D->Prop:=λ(b,n,i,t,j,m1,m2,x,r,ks,bs)=>mU r/\ks.length=m2/\m2<=1000/\∃k c:Nat,j=k/\t=c/\k<=c/\c<=12/\m2=k
def cS.L1.F:cS.L1.D->cS.L1.Y:=λ(b,n,i,t,j,m1,m2,x,r,ks,bs)=>(m2+(t - j).toNat,(nQ (t - j).toNat r).2,ks++(nQ (t - j).toNat r).1)
def cS.L0.aM:cS.L0.D->Prop:=λ(b,n,i,m,r,bs)=>mU r/\n<=9223372036854775807/\bs.length=m/\∃k:Nat,i=k/\k<=4/\m=k
def cS.L0.F:cS.L0.D->cS.L0.Y:=λ(b,n,i,m,r,bs)=>(b,m+(sI (5 - i.toNat) (n - i) r).length,bs++sI (5 - i.toNat) (n - i) r)
def cS.aM:cS.D->Prop:=λb=>Bytes b/\b.length<=1000000000
def cS.F:cS.D->cS.Y:=λb=>uc b
def cS.L0:Ls cS.L0.aM bP cS.L0.F:=rX (λ(rK,n,i,RI,n11,n51)=>⟨([.d tB rK,.undef,.ptr (.new 2 0) 0 [] 0,.undef,.ptr (.new 11 0) 0 [] 0,.ptr (.new 5 0) 0 [] 0,.d ti n,.d ti i]++aT 57 []),[],([[],[],[.obj 0 false (.pr (.di) (.d .unit ()))],[],[],[.obj 0 false (.pr (.aS (.new 51 0) 0 [] 0 0 RI) (.d .unit ()))]]++ct 5 ([[.obj 0 false (.d oa n11)]]++ct 39 ([[.obj 0 false (.vec 29 oK n51)]]++ct 13 [])))⟩) (λx=>(.exit 0,⟨([.d tB x.1,.undef,.ptr (.new 2 0) 0 [] 0,.undef,.undef,.ptr (.new 5 0) 0 [] 0]++aT 59 []),[],([[],[],[.obj 0 false (.pr (.di) (.d .unit ()))],[],[],[.obj 0 false (.pr (.aS (.new 51 0) 0 [] 0 0 x.2.1) (.d .unit ()))]]++ct 45 ([[.obj 0 false (.vec 29 oK x.2.2)]]++ct 13 []))⟩))
def cS.L1:Ls cS.L1.aM cS.L1.add cS.L1.F:=rX (λ(Fa,sZ,RA,t27,t28,BF,O9,n8,DB,n35,BC)=>⟨([.d tB Fa,.undef,.ptr (.new 2 0) 0 [] 0,.undef,.ptr (.new 11 0) 0 [] 0,.ptr (.new 5 0) 0 [] 0,.d ti sZ,.d ti RA,.ptr (.new 8 0) 0 [] 0]++aT 18 ([.d ti t27,.d ti t28]++aT 36 [])),[],([[],[],[.obj 0 false (.pr (.di) (.d .unit ()))],[],[],[.obj 0 false (.pr (.aS (.new 51 0) 0 [] 0 0 BF) (.d .unit ()))],[],[],[.obj 0 false (.pr (.aS (.new 35 0) 0 [] 0 0 O9) (.d (.pair ti (.pair ti (.pair tu .unit))) n8))],[],[],[.obj 0 false (.d oa DB)]]++ct 23 ([[.obj 0 false (.vec 25 tu n35)]]++ct 15 ([[.obj 0 false (.vec 29 oK BC)]]++ct 13 [])))⟩) (λx=>(.exit 2,⟨([.d tB x.1.1,.undef,.ptr (.new 2 0) 0 [] 0,.undef,.ptr (.new 11 0) 0 [] 0,.ptr (.new 5 0) 0 [] 0,.d ti x.1.2.1,.d ti x.1.2.2.1,.ptr (.new 8 0) 0 [] 0]++aT 56 []),[],([[],[],[.obj 0 false (.pr (.di) (.d .unit ()))],[],[],[.obj 0 false (.pr (.aS (.new 51 0) 0 [] 0 0 x.1.2.2.2.1) (.d .unit ()))],[],[],[.obj 0 false (.pr (.aS (.new 35 0) 0 [] 0 0 x.2.1) (.d (.pair ti (.pair ti (.pair tu .unit))) x.1.2.2.2.2.1))],[],[],[.obj 0 false (.d oa x.2.2.1)]]++ct 23 ([[.obj 0 false (.vec 25 tu x.2.2.2)]]++ct 15 ([[.obj 0 false (.vec 29 oK x.1.2.2.2.2.2)]]++ct 13 [])))⟩))
def cS:Fs Tryz.prog cS.aM bP cS.F:=gC 186 Tryz.f186 (λb=>([.d tB b],[])) (λx=>⟨.cons (.d Hc x.1) (.cons (.d .bool x.2) (.nil)),[],[]⟩) [some tB] [ki.sg,cU.sg,fR.sg,aW.sg,bU.sg,dA.sg] {loops:=pz [(5,{bo:=[0,2,4,5,6,7],sites:=[2,5,11,51],owns:=[⟨5,[.fst],51,32⟩]}),(11,{bo:=[0,2,4,5,6,7,8,27,28],sites:=[2,5,8,11,35,51],owns:=[⟨8,[.fst],35,27⟩]})],outs:=py [(5,{bo:=[0,2,5],sites:=[2,5,51]},{bo:=[2,3]}),(11,{bo:=[0,2,4,5,6,7,8],sites:=[2,5,8,11,35,51]},{bo:=[2,3]})],iX:=lkn [(5,cS.L0.E),(11,cS.L1.E)],res:=[some Hc,none]}
theorem cS.L0.run:cS.L0.RS:=rL [.d tB,.d ti,.d ti,.n,.d oa,.d (.slice oK)] cS.L0
theorem cS.L0.step{R:Type}(rK n i RI n11 n51)(kn:K2 R)(kx:K3 R):cS.R 0 cS.L0 (rK,n,i,RI,n11,n51) kn kx=
  aP ((jx i n)) (
   ah (cU.call n11) λsY=>
   aP ((w7 i 4)) (
    cS.L0.go kx (rK,RI,n51)) (
    aP ((uK sY.1 12)) (
     cS.L0.go kx (rK,RI,n51)) (
     ah (cS.L1.call (rK,n,i,sY.1,0,RI,0,(0,(0,(0,()))),sY.2,([]:List Int),n51)) λCs=>
     ah (cU.call Cs.2.2.1) λOf=>
     ah (cU.call Of.2) λOg=>
     ah (fR.call Og.2) λOh=>
     aP (decide (0=0/\(0+Cs.2.1)<=(List.length Cs.2.2.2))) (
     aP (decide (Cs.1.2.2.2.1<=(List.length Cs.1.2.2.2.2.2))) (
     aP (dZ (Cs.1.2.2.2.1+1) 48) (
     kn (cS.L0.st (Cs.1.1,Cs.1.2.1,(cG .i64 Cs.1.2.2.1 1),(Cs.1.2.2.2.1+1),Oh.2,((List.take Cs.1.2.2.2.1 Cs.1.2.2.2.2.2)++ [((cut Cs.2.2.2 0 Cs.2.1),(Of.1,(Og.1,(Oh.1,Cs.1.2.2.2.2.1.2.2.2))))])))) none) none) none))) (
   cS.L0.go kx (rK,RI,n51)):=by kernel_rfl
theorem cS.L1.run:cS.L1.RS:=rL [.d tB,.d ti,.d ti,.d ti,.d ti,.n,.n,.d (.pair ti (.pair ti (.pair tu .unit))),.d oa,.d tU,.d (.slice oK)] cS.L1
theorem cS.L1.step{R:Type}(Fa sZ RA t27 t28 BF O9 n8 DB n35 BC)(kn:K2 R)(kx:K3 R):cS.R 1 cS.L1 (Fa,sZ,RA,t27,t28,BF,O9,n8,DB,n35,BC) kn kx=
  aP ((jx t28 t27)) (
   ah (fR.call DB) λx4=>
   aP (decide (O9<=(List.length n35))) (
   aP (dZ (O9+1) 8) (
   kn (cS.L1.st (Fa,sZ,RA,t27,(cG .i64 t28 1),BF,(O9+1),n8,x4.2,((List.take O9 n35)++ [x4.1]),BC))) none) none) (
   cS.L1.go kx ((Fa,sZ,RA,BF,n8,BC),(O9,DB,n35))):=by kernel_rfl
theorem cS.eq{R:Type}(b)(k:K1 R):cS.A b k=
  ah (ki.call b) λx4=>
  ah (cU.call x4) λx6=>
  ah (cS.L0.call (b,x6.1,0,0,x6.2,([]:List oV))) λLD=>
  aP (decide (0=0/\(0+LD.2.1)<=(List.length LD.2.2))) (
  ah (aW.call ((cut LD.2.2 0 LD.2.1),())) λXn=>
  aP ((!Xn)) (
   k (cS.out ((([]:List oV),()),false))) (
   aP (decide (0=0/\(0+LD.2.1)<=(List.length LD.2.2))) (
   ah (bU.call ((cut LD.2.2 0 LD.2.1),())) λXo=>
   ah (dA.call (Xo,LD.1)) λXp=>
   aP ((!Xp)) (
    k (cS.out ((([]:List oV),()),false))) (
    aP (decide (0=0/\(0+LD.2.1)<=(List.length LD.2.2))) (
    k (cS.out (((cut LD.2.2 0 LD.2.1),()),true))) none)) none)) none:=by kernel_rfl
theorem cS.L1.ok:(cS.mL 1 cS.L1):=by
 refine(cS.oH 1 cS.L1) (λ(b,n,i,t,j,m1,m2,x,r,ks,bs)=>(t - j).toNat) ?_
 rintro⟨b,n,i,t,j,m1,m2,x,r,ks,bs⟩ ⟨hr,Vf,hm,k,c,rfl,rfl,ZO,hc,OS⟩
 have hr:mU r:=hr
 have Vf:ks.length=m2:=Vf
 have OS:m2=k:=OS
 by_cases h:k < c
 ·left
  have e1:((c:Int) - (k:Int)).toNat=(c - (k+1))+1:=by omega
  have e2:((c:Int) - ((k+1:Nat):Int)).toNat=c - (k+1):=by omega
  refine⟨(b,n,i,(c:Int),((k+1:Nat):Int),m1,m2+1,x,(ng r).2,ks++ [(ng r).1],bs),⟨(y5 hr).2,by rw[ae];show ks.length+1=_;omega,by omega,k+1,c,rfl,rfl,by omega,hc,by omega⟩,by show((c:Int) - ((k+1:Nat):Int)).toNat < ((c:Int) - (k:Int)).toNat;omega,?_,λkn kx=> ?_⟩
  ·simp only[cS.L1.add,cS.L1.F,e1,e2,nQ,aD,dN]
   rw[show m2+1+(c - (k+1))=m2+(c - (k+1)+1) by omega]
  ·rw[cS.L1.step,bg (by omega),fR.run (d:=r) hr]
   simp only[ab,ag,bP,fR.F]
   rw[aY (by omega),fg (by omega) (by omega),N.p9 (by omega),bk (by omega)]
   rfl
 ·right
  obtain rfl:k=c:=by omega
  intro R kn kx
  rw[cS.L1.step,aX (by omega),al]
  simp only[cS.L1.add,cS.L1.F,Int.sub_self,bN,nQ,bS,cF]
theorem cS.L0.ok:(cS.mL 0 cS.L0):=by
 refine(cS.oH 0 cS.L0) (λ(b,n,i,m,r,bs)=>5 - i.toNat) ?_
 rintro⟨b,n,i,m,r,bs⟩ ⟨hr,hn,XN,k,rfl,hk,OS⟩
 have hr:mU r:=hr
 have hn:n<=9223372036854775807:=hn
 have XN:bs.length=m:=XN
 have OS:m=k:=OS
 have e0:5 - (k:Int).toNat=(4 - k)+1:=by rw[aa];omega
 have g1:=nj hr
 by_cases h:(k:Int) < n
 ·have hp:0 < n - (k:Int):=by omega
  by_cases hc:4 - k=0\/12 < (dH r).1
  ·right
   intro R kn kx
   have eb:sI ((4 - k)+1) (n - (k:Int)) r=[]:=by rw[sI,if_pos hp,if_pos hc]
   rw[cS.L0.step,bg h,cU.run (d:=r) hr]
   simp only[ab,ag,bP,cU.F,bP,cS.L0.F,e0,eb,bn,cF,bS]
   by_cases h4:(k:Int)=4
   ·rw[jf h4,ag]
   ·rw[lH h4,al,eY (by omega),ag]
  ·left
   have h4:¬(k:Int)=4:=by omega
   have YR:¬(dH r).1 > 12:=by omega
   obtain⟨c,SI⟩:∃c:Nat,(dH r).1=c:=⟨(dH r).1.toNat,by omega⟩
   have H5:=Jh c _ g1.2.2
   have gk:=EH c _ g1.2.2
   have ga:=nj gk.2.2
   have gd:=nj ga.2.2
   have eb:sI ((4 - k)+1) (n - (k:Int)) r=(sH c (dH r).2).1::sI (4 - k) (n - (k:Int) - 1) (sH c (dH r).2).2:=by
    rw[sI,if_pos hp,if_neg hc,SI,aa]
   have e1:5 - ((k+1:Nat):Int).toNat=4 - k:=by rw[aa];omega
   refine⟨(b,n,((k+1:Nat):Int),m+1,(sH c (dH r).2).2,bs++ [(sH c (dH r).2).1]),⟨H5.2.2,hn,by rw[ae];show bs.length+1=_;omega,k+1,rfl,by omega,by omega⟩,by simp only[aa];omega,?_,λkn kx=> ?_⟩
   ·simp only[bP,cS.L0.F,e0,e1,eb,aD,dN,aB]
    rw[show n - ((k+1:Nat):Int)=n - (k:Int) - 1 by omega,show m+1+(sI (4 - k) (n - (k:Int) - 1) (sH c (dH r).2).2).length=m+((sI (4 - k) (n - (k:Int) - 1) (sH c (dH r).2).2).length+1) by omega]
   ·rw[cS.L0.step,bg h,cU.run (d:=r) hr]
    simp only[ab,ag,bP,cU.F]
    rw[lH h4,al,eC YR,al,SI,cS.L1.run (d:=(b,n,(k:Int),(c:Int),0,m,0,(0,0,0,()),(dH r).2,[],bs)) ⟨g1.2.2,rfl,by decide,0,c,rfl,rfl,aK _,by omega,rfl⟩]
    simp only[ab,cS.L1.add,cS.L1.F,mw,aa,aI,aR]
    rw[cU.run (d:=(nQ c (dH r).2).2) gk.2.2]
    simp only[ab,bP,cU.F]
    rw[cU.run (d:=(dH (nQ c (dH r).2).2).2) ga.2.2]
    simp only[ab,bP,cU.F]
    rw[fR.run (d:=(dH (dH (nQ c (dH r).2).2).2).2) gd.2.2]
    simp only[ab,bP,fR.F]
    rw[aY ⟨by trivial,by rw[gk.2.1];exact aw _⟩,aY (by omega),fg (by omega) (by omega),N.p9 (by omega),bk (by omega),gI gk.2.1]
    rfl
 ·right
  intro R kn kx
  have eb:sI ((4 - k)+1) (n - (k:Int)) r=[]:=by rw[sI,if_neg (by omega)]
  rw[cS.L0.step,aX h,al]
  simp only[bP,cS.L0.F,e0,eb,bn,cF,bS]
theorem cS.ok:cS.Ok:=by
 rintro b ⟨hb,hl⟩
 have hb:Bytes b:=hb
 have hl:b.length<=1000000000:=hl
 have g0:=IJ hb hl (false,())
 have g1:=nj g0
 have gu:=JT hb hl
 rw[cS.eq,ki.run (d:=b) hl]
 simp only[ab,bP,ki.F]
 rw[cU.run (d:=(b,false,())) g0]
 simp only[ab,bP,cU.F]
 rw[cS.L0.run (d:=(b,(dH (b,false,())).1,0,0,(dH (b,false,())).2,[])) ⟨g1.2.2,g1.2.1,rfl,0,rfl,by decide,rfl⟩]
 simp only[ab,bP,cS.L0.F,bN,Nat.sub_zero,mw,aI,aR,aw,and_self,decide_true,ag,gI]
 rw[show sI 5 (dH (b,false,())).1 (dH (b,false,())).2=nU b from rfl]
 have hL1:((nU b,()):Lk).1.length<=1000000000:=by show(nU b).length<=_;omega
 rw[aW.run (d:=(nU b,())) ⟨gu.1,j6 hL1 (by decide)⟩]
 simp only[ab,bP,aW.F,bP,cS.F,uc]
 cases jU:lN (nU b,())
 ·rw[if_neg (by rintro⟨x,_⟩;cases x)];rfl
 ·rw[bU.run (d:=(nU b,())) ⟨gu.1,j6 hL1 (by decide)⟩]
  simp only[dj,al,ab,bP,bU.F]
  rw[dA.run (d:=(yP (nU b,()),b)) (by show(yP _).length<=_;have:=xz (nU b,());omega)]
  simp only[ab,bP,dA.F]
  by_cases hx:yP (nU b,())=b
  ·rw[aY hx,if_pos ⟨by trivial,hx⟩];rfl
  ·rw[cH hx,if_neg (λy=>hx y.2)];rfl
theorem cS.run:cS.RS:=rE [.d tB] cS
def cS.sg:=cS.gG cS.ok 2 ⟨.iR cS.L0.ok,⟨.iR cS.L1.ok,trivial⟩⟩
def uH(r:iw):List Int×iw:=((kM 32 r).1++List.drop (kM 32 r).1.length (List.replicate 32 (0:Int)),(kM 32 r).2)
def uk(r:iw):List Int×iw:=if(dH r).2.2.1=true then([],(dH r).2) else kM (dH r).1.toNat (dH r).2
def wZ(most:Int)(r:iw):Int×iw:=(if(dH r).1 > most then -1 else(dH r).1,(dH r).2)
def Qi(r:iw):cd×iw:=(((uH r).1,(dH (uH r).2).1,()),(dH (uH r).2).2)
def vN:Nat->iw->List cd×iw
 | 0,r=>([],r)
 |k+1,r=>((Qi r).1::(vN k (Qi r).2).1,(vN k (Qi r).2).2)
def BN(r:iw):kO×iw:=(((dH r).1,(uc (uk (dH r).2).1).1,()),(uk (dH r).2).2)
def ua:Nat->iw->Option (List kO×iw)
 | 0,r=>some ([],r)
 |k+1,r=>if(uc (uk (dH r).2).1).2=true then(match ua k (BN r).2 with
  |some x=>some ((BN r).1::x.1,x.2)
  |none=>none) else none
def Qo(r:iw):Sg×iw:=(((ng r).1,(ng (ng r).2).1,()),(ng (ng r).2).2)
def tK:Nat->iw->List Sg×iw
 | 0,r=>([],r)
 |k+1,r=>((Qo r).1::(tK k (Qo r).2).1,(tK k (Qo r).2).2)
def pk(r:iw):List Sg×iw:=tK (wZ 12 (dH r).2).1.toNat (wZ 12 (dH r).2).2
def I1(r:iw):Option (CC×iw):=if(wZ 12 (dH r).2).1 < 0 then none else some (((dH r).1,(pk r).1,(ng (pk r).2).1,()),(ng (pk r).2).2)
def uh:List cd->iw->Option (List kC×iw)
 |[],r=>some ([],r)
 |o::l,r=>match I1 r with
  |none=>none
  |some w=>match uh l w.2 with
   |none=>none
   |some x=>some ((o,w.1,())::x.1,x.2)
def RM:eZ×Bool:=(([],[],0,()),false)
def Mt(n m:Int)(t:eZ)(r:iw):eZ×Bool:=if n < 0\/m < 0\/r.2.1=true\/0 < r.1.length\/jk t=false then RM else(t,true)
def M9(n m:Int)(ops:List cd)(os:List kO)(r:iw):eZ×Bool:=match uh ops (dH r).2 with
 |none=>RM
 |some x=>Mt n m (x.1,os,(dH r).1,()) x.2
def BT(b:List Int):eZ×Bool:=
 let n:=wZ 64 (b,false,())
 let ops:=vN n.1.toNat n.2
 let m:=wZ 64 ops.2
 match ua m.1.toNat m.2 with
 |none=>RM
 |some x=>M9 n.1 m.1 ops.1 x.1 x.2
def IA(o:cd):List Int:=o.1++iC o.2.1
def sR(o:kO):List Int:=iC o.1++(iC (yP o.2.1).length++yP o.2.1)
def LO(s:Sg):List Int:=kP s.1++kP s.2.1
def sC(w:CC):List Int:=iC w.1++(iC w.2.1.length++(w.2.1.flatMap LO++kP w.2.2.1))
def Vx(t:eZ):List Int:=iC t.1.length++(t.1.flatMap (λx=>IA x.1)++(iC t.2.1.length++(t.2.1.flatMap sR++(iC t.2.2.1++t.1.flatMap λx=>sC x.2.1))))
theorem sK{α:Type}(f:List Int->α->List Int)(w:α->List Int):∀(l:List α) (b:List Int),(∀x∈l,∀b,f b x=b++w x)->l.foldl f b=b++l.flatMap w
 |[],b,_=>by simp
 |x::l,b,h=>by
  rw[bT,h x aH,sK f w l _ λy hy=>h y (aF _ hy),dx,aD]
theorem rv(b:List Int){n:Int}(h:0<=n):eh b n=b++iC n:=by unfold eh;rw[if_neg (by omega)]
theorem NT{t:eZ}(jU:jk t=true):Lx t=Vx t:=by
 obtain⟨⟨_,a2,a3,a4⟩,b1,b2⟩:=kk jU
 have e1:∀b,t.1.foldl Ad b=b++t.1.flatMap λx=>IA x.1:=λb=>sK _ _ _ _ λx hx b=>by
  have:=tp (mg _ _ b1 x hx)
  unfold Ad IA
  rw[rv _ this.1,aD]
 have e2:∀b,t.2.1.foldl zR b=b++t.2.1.flatMap sR:=λb=>sK _ _ _ _ λo ho b=>by
  have:=(lk _ _ b2 o ho).1
  unfold zR sR
  rw[rv _ this.1,aD]
 have e3:∀(l:List Sg) b,l.foldl B4 b=b++l.flatMap LO:=λl b=>sK _ _ _ _ λs _ b=>by
  unfold B4 LO
  rw[aD]
 have e4:∀b,t.1.foldl I0 b=b++t.1.flatMap λx=>sC x.2.1:=λb=>sK _ _ _ _ λx hx b=>by
  have:=tp (mg _ _ b1 x hx)
  unfold I0 sC
  rw[e3,rv _ this.2.2.1,rv _ (by omega)]
  simp only[aD]
 unfold Lx qi Vx
 rw[if_pos jU,e4,rv _ a4,e2,rv _ (by omega),e1,rv _ (by omega),aR]
 simp only[aD]
theorem DY{n:Nat}(a rest:List Int)(h:a.length=n):kM n (a++rest,false,())=(a,(rest,false,())):=by
 unfold kM
 rw[if_neg (by
  intro x
  rcases x with x | x
  ·cases x
  ·have x:(a++rest).length < n:=x
   rw[ae]at x
   omega)]
 show((a++rest).take n,((a++rest).drop n,false,()))=_
 rw[j2 h,jZ h]
theorem Kz(a rest:List Int)(h:a.length=32):uH (a++rest,false,())=(a,(rest,false,())):=by
 unfold uH
 rw[DY a rest h]
 simp only[h]
 rw[show List.drop 32 (List.replicate 32 (0:Int))=[] from rfl,bS]
theorem sQ(n:Int)(h:ui n)(rest:List Int):dH (iC n++rest,false,())=(n,(rest,false,())):=uR n h rest _
theorem Mi(a rest:List Int)(h:a.length<=1000000000):uk (iC a.length++(a++rest),false,())=(a,(rest,false,())):=by
 unfold uk
 rw[sQ _ (oE (by omega))]
 simp only[cv,if_false,aa]
 exact DY a rest rfl
theorem E5{n m:Int}(h:ui n)(hm:n<=m)(rest:List Int):wZ m (iC n++rest,false,())=(n,(rest,false,())):=by
 unfold wZ
 rw[sQ n h]
 simp only[if_neg (show ¬n > m by omega)]
theorem GJ:∀(l:List cd) (rest:List Int),(∀o∈l,o.1.length=32/\ui o.2.1)->vN l.length (l.flatMap IA++rest,false,())=(l,(rest,false,()))
 |[],rest,_=>rfl
 |o::l,rest,h=>by
  obtain⟨h1,h2⟩:=h o aH
  have e:Qi ((o::l).flatMap IA++rest,false,())=(o,(l.flatMap IA++rest,false,())):=by
   unfold Qi IA
   rw[dx,aD,aD,Kz _ _ h1]
   simp only[]
   rw[sQ _ h2]
  rw[aB,vN,e,GJ l rest λx hx=>h x (aF _ hx)]
theorem DL:∀(l:List kO) (rest:List Int),(∀o∈l,ui o.1/\lN o.2.1=true/\J5 o.2.1)->ua l.length (l.flatMap sR++rest,false,())=some (l,(rest,false,()))
 |[],rest,_=>rfl
 |o::l,rest,h=>by
  obtain⟨h1,h2,h3⟩:=h o aH
  have hl:=xz o.2.1
  have e0:dH ((o::l).flatMap sR++rest,false,())=(o.1,(iC (yP o.2.1).length++(yP o.2.1++(l.flatMap sR++rest)),false,())):=by
   rw[dx]
   unfold sR
   simp only[aD]
   exact sQ _ h1 _
  have e1:uk (dH ((o::l).flatMap sR++rest,false,())).2=(yP o.2.1,(l.flatMap sR++rest,false,())):=by rw[e0];exact Mi _ _ (by omega)
  have e2:BN ((o::l).flatMap sR++rest,false,())=(o,(l.flatMap sR++rest,false,())):=by
   unfold BN
   rw[e1,e0,DO h3 h2]
  rw[aB,ua,e1,DO h3 h2,if_pos rfl,e2,DL l rest λx hx=>h x (aF _ hx)]
theorem G0:∀(l:List Sg) (rest:List Int),(∀s∈l,mq s.1/\mq s.2.1)->tK l.length (l.flatMap LO++rest,false,())=(l,(rest,false,()))
 |[],rest,_=>rfl
 |s::l,rest,h=>by
  obtain⟨h1,h2⟩:=h s aH
  have e:Qo ((s::l).flatMap LO++rest,false,())=(s,(l.flatMap LO++rest,false,())):=by
   unfold Qo LO
   rw[dx,aD,aD,u9 _ h1]
   simp only[]
   rw[u9 _ h2]
  rw[aB,tK,e,G0 l rest λx hx=>h x (aF _ hx)]
theorem N0(w:CC)(rest:List Int)(hw:CD w)(hb:ui w.1)(LG:w.2.1.length<=12):I1 (sC w++rest,false,())=some (w,(rest,false,())):=by
 have e0:dH (sC w++rest,false,())=(w.1,(iC w.2.1.length++(w.2.1.flatMap LO++(kP w.2.2.1++rest)),false,())):=by
  unfold sC
  simp only[aD]
  exact sQ _ hb _
 have e1:wZ 12 (dH (sC w++rest,false,())).2=((w.2.1.length:Int),(w.2.1.flatMap LO++(kP w.2.2.1++rest),false,())):=by
  rw[e0]
  exact E5 (oE (by omega)) (by omega) _
 have e2:pk (sC w++rest,false,())=(w.2.1,(kP w.2.2.1++rest,false,())):=by
  unfold pk
  rw[e1]
  exact G0 _ _ hw.1
 unfold I1
 rw[e1,if_neg (by show ¬(w.2.1.length:Int) < 0;omega),e2,e0]
 simp only[]
 rw[u9 _ hw.2]
theorem D5:∀(l:List kC) (rest:List Int),(∀x∈l,CD x.2.1/\ui x.2.1.1/\x.2.1.2.1.length<=12)->uh (l.map (·.1)) (l.flatMap (λx=>sC x.2.1)++rest,false,())=some (l,(rest,false,()))
 |[],rest,_=>rfl
 |x::l,rest,h=>by
  obtain⟨h1,h2,h3⟩:=h x aH
  rw[dx,aD,bX,uh,N0 _ _ h1 h2 h3]
  simp only[]
  rw[D5 l rest λy hy=>h y (aF _ hy)]
theorem IK{t:eZ}(hv:rJ t)(jU:jk t=true):BT (Lx t)=(t,true):=by
 obtain⟨⟨a1,a2,a3,a4⟩,b1,b2⟩:=kk jU
 have F7:∀x∈t.1,_:=λx hx=>tp (mg _ _ b1 x hx)
 have Y2:=hv.2.2
 rw[NT jU]
 have e1:=E5 (n:=(t.1.length:Int)) (m:=64) (oE (by omega)) (by omega) (t.1.flatMap (λx=>IA x.1)++(iC t.2.1.length++(t.2.1.flatMap sR++(iC t.2.2.1++t.1.flatMap λx=>sC x.2.1))))
 have ef:t.1.flatMap (λx=>IA x.1)=(t.1.map (·.1)).flatMap IA:=by rw[List.flatMap_map]
 have e2:=GJ (t.1.map (·.1)) (iC t.2.1.length++(t.2.1.flatMap sR++(iC t.2.2.1++t.1.flatMap λx=>sC x.2.1))) λo ho=>by
  obtain⟨x,hx,rfl⟩:=eJ.1 ho
  exact⟨(hv.2.1 x hx).1.1,(F7 x hx).1,by have:=(F7 x hx).2.1;omega⟩
 rw[<-ef,cK]at e2
 have e3:=E5 (n:=(t.2.1.length:Int)) (m:=64) (oE (by omega)) (by omega) (t.2.1.flatMap sR++(iC t.2.2.1++t.1.flatMap λx=>sC x.2.1))
 have e4:=DL t.2.1 (iC t.2.2.1++t.1.flatMap λx=>sC x.2.1) λo ho=>by
  have:=lk _ _ b2 o ho
  exact⟨⟨this.1.1,by omega⟩,this.2,(hv.1.1 o ho).1⟩
 have e5:=sQ t.2.2.1 ⟨a4,Y2⟩ (t.1.flatMap λx=>sC x.2.1)
 have e6:=D5 t.1 [] λx hx=>⟨(hv.2.1 x hx).2.1,⟨(F7 x hx).2.2.1,by have:=(F7 x hx).2.2.2.1;omega⟩,(F7 x hx).2.2.2.2⟩
 rw[bS]at e6
 unfold BT Vx
 simp only[e1,aa,e2,e3,e4]
 unfold M9
 simp only[e5,e6]
 unfold Mt
 rw[if_neg]
 rintro(x | x | x | x | x)
 ·omega
 ·omega
 ·cases x
 ·simp at x
 ·rw[show((t.1,t.2.1,t.2.2.1,()):eZ)=t from rfl,jU]at x
  cases x
def og(r:iw):Prop:=mU r/\(r.2.1=true->r.1=[])
def Ov(r r':iw)(e:List Int):Prop:=og r'/\(r'.2.1=false->r.2.1=false/\r.1=e++r'.1)
theorem Ov.trans{r r1 r2:iw}{e1 e2:List Int}(h1:Ov r r1 e1)(h2:Ov r1 r2 e2):Ov r r2 (e1++e2):=
 ⟨h2.1,λh=>⟨(h1.2 (h2.2 h).1).1,by rw[(h1.2 (h2.2 h).1).2,(h2.2 h).2,aD]⟩⟩
theorem Ov.of{r r':iw}{e e':List Int}(h:Ov r r' e)(he:r'.2.1=false->e=e'):Ov r r' e':=⟨h.1,λh'=>by rw[<-he h'];exact h.2 h'⟩
theorem Ov.refl{r:iw}(h:og r):Ov r r []:=⟨h,λh'=>⟨h',rfl⟩⟩
theorem OD:og xl:=⟨Eo,λ_=>rfl⟩
theorem FU(r:iw)(e:List Int):Ov r xl e:=⟨OD,λh=>by cases h⟩
theorem Po{b:List Int}(hb:Bytes b)(hl:b.length<=1000000000):og (b,false,()):=⟨IJ hb hl (false,()),λh=>by cases h⟩
theorem Cj{r:iw}(h:og r)(n:Nat):Ov r (kM n r).2 (kM n r).1/\((kM n r).2.2.1=false->(kM n r).1.length=n):=by
 have hb:=(qS (n:=n) h.1).2.2
 revert hb
 unfold kM
 split
 ·exact λ_=>⟨FU _ _,λh=>by cases h⟩
 ·rename_i hc
  intro hb
  have h1:r.2.1=false:=by cases hr:r.2.1 with | false=>rfl | true=>exact absurd (Or.inl hr) hc
  have h2:¬r.1.length < n:=λx=>hc (Or.inr x)
  exact⟨⟨⟨hb,λ(hx:r.2.1=true)=>by rw[h1]at hx;cases hx⟩,λ_=>⟨h1,(dO n r.1).symm⟩⟩,λ_=>by show(r.1.take n).length=n;rw[bQ];omega⟩
theorem B1(f:Nat){d:Int}(h:d < 128):gJ f d=([],d):=by
 cases f with
 |zero=>rfl
 |succ f=>rw[gJ,if_neg (by omega)]
theorem GD:∀(l:List Int) (a:Nat) (n:Int) (v:Int×Nat),Bytes l->a<=9->rq l a n= .inl v->
  ∃w rest,v.1=n+w*128^a/\0<=w/\(a=0\/0 < w)/\w < 128^(9 - a)/\l=(gJ (8 - a) w).1++(gJ (8 - a) w).2::rest/\v.2=a+(gJ (8 - a) w).1.length+1
 |[],a,n,v,_,_,h=>by cases h
 |d::l,a,n,v,hb,ha,h=>by
  obtain⟨x1,x2⟩:=hb d aH
  rw[rq]at h
  split at h
  ·cases h
  rename_i hc
  have XK:a<=8:=by omega
  have e9:(128:Int)^(9 - a)=128^(8 - a)*128:=by rw[show 9 - a=(8 - a)+1 by omega];exact gg 128 (8 - a)
  have p8:(0:Int) < 128^(8 - a):=Int.pow_pos (by decide)
  split at h
  ·rename_i hd
   cases h
   refine⟨d,l,by rw[fi x1 hd],x1,by omega,by omega,?_,?_⟩
   ·rw[B1 _ hd];rfl
   ·rw[B1 _ hd];rfl
  ·rename_i hd
   obtain⟨w,rest,e1,w0,w1,w2,e2,e3⟩:=GD l (a+1) _ v (λx hx=>hb x (aF _ hx)) (by omega) h
   have w1:0 < w:=by omega
   rw[show 9 - (a+1)=8 - a by omega]at w2
   have ZL:a<=7:=by
    by_cases h8:a=8
    ·rw[h8]at w2
     have:(128:Int)^(8 - 8)=1:=rfl
     omega
    ·omega
   have er:gJ (8 - a) (d%128+128*w)=((d%128+128)::(gJ (8 - (a+1)) w).1,(gJ (8 - (a+1)) w).2):=by
    rw[show 8 - a=(8 - (a+1))+1 by omega,gJ,if_pos (by omega),show(d%128+128*w)%128=d%128 by omega,show(d%128+128*w) / 128=w by omega]
   refine⟨d%128+128*w,rest,?_,by omega,by omega,by omega,?_,?_⟩
   ·rw[e1,gg,Int.add_mul,Int.add_assoc,Int.mul_comm 128 w,Int.mul_assoc w,Int.mul_comm 128]
   ·rw[er,e2,show d%128+128=d by omega];rfl
   ·rw[er,e3];simp only[aB];omega
theorem nk{r:iw}(h:og r):Ov r (dH r).2 (iC (dH r).1)/\((dH r).2.2.1=false->ui (dH r).1):=by
 have hk:=nj h.1
 revert hk
 unfold dH
 cases hf:rq r.1 0 0 with
 |inr _=>exact λ_=>⟨FU _ _,λh=>by cases h⟩
 |inl v=>
  intro hk
  obtain⟨w,rest,e1,w0,_,w2,e2,e3⟩:=GD r.1 0 0 v h.1.2 (by decide) hf
  have h1:r.2.1=false:=by
   cases hr:r.2.1 with
   |false=>rfl
   |true=>rw[h.2 hr]at hf;cases hf
  have ew:v.1=w:=by rw[e1,j4];omega
  have e9:(128:Int)^(9 - 0)=9223372036854775808:=rfl
  have e8:(128:Int)^(8+1)=9223372036854775808:=rfl
  have e10:(128:Int)^(10+1)=151115727451828646838272:=rfl
  have er:gJ 10 w=gJ 8 w:=vu 10 8 w (by rw[e10];omega) (by rw[e8];omega)
  have en:iC v.1=(gJ 8 w).1++ [(gJ 8 w).2]:=by rw[ew];unfold iC;rw[er]
  refine⟨⟨⟨hk.2.2,λ(hx:r.2.1=true)=>by rw[h1]at hx;cases hx⟩,λ_=>⟨h1,?_⟩⟩,λ_=>⟨hk.1,hk.2.1⟩⟩
  show r.1=iC v.1++r.1.drop v.2
  rw[en,e3,aD]
  conv=>rhs;rw[e2]
  rw[List.append_cons,aI,jZ (by rw[ae];rfl)]
  exact e2
theorem Ma{l:List Int}(h:l.length=8)(hb:Bytes l):kP (wQ l)=l:=by
 match l,h with
 |[a,b,c,d,e,f,g,i],_=>
  have h0:=hb a (by simp)
  have h1:=hb b (by simp)
  have h2:=hb c (by simp)
  have h3:=hb d (by simp)
  have h4:=hb e (by simp)
  have h5:=hb f (by simp)
  have h6:=hb g (by simp)
  have h7:=hb i (by simp)
  unfold D6 at h0 h1 h2 h3 h4 h5 h6 h7
  unfold kP wQ
  simp only[bT,dR]
  congr 1
  ·omega
  congr 1
  ·omega
  congr 1
  ·omega
  congr 1
  ·omega
  congr 1
  ·omega
  congr 1
  ·omega
  congr 1
  ·omega
  congr 1
  omega
theorem vG{r:iw}(h:og r):Ov r (ng r).2 (kP (ng r).1):=by
 have e:=Cj h 8
 exact e.1.of λhk=>(Ma (e.2 hk) (qS h.1).2.1).symm
theorem F6{r:iw}(h:og r):Ov r (uH r).2 (uH r).1:=by
 have e:=Cj h 32
 refine e.1.of λhk=> ?_
 unfold uH
 simp only[e.2 hk]
 rw[show List.drop 32 (List.replicate 32 (0:Int))=[] from rfl,bS]
theorem ME{r:iw}(h:mU r):Sm (uH r).1:=by
 have e:=qS (n:=32) h
 refine⟨?_,gj e.2.1 λx hx=> ?_⟩
 ·show((kM 32 r).1++List.drop (kM 32 r).1.length (List.replicate 32 (0:Int))).length=32
  rw[ae,dy,dg]
  have:=e.1
  omega
 ·obtain rfl:=(List.mem_replicate.1 (List.mem_of_mem_drop hx)).2
  exact⟨by decide,by decide⟩
theorem Eg{r:iw}(h:og r):Ov r (uk r).2 (iC (uk r).1.length++(uk r).1)/\Bytes (uk r).1/\(uk r).1.length<=1000000000:=by
 have e:=nk h
 unfold uk
 split
 ·rename_i hc
  exact⟨⟨e.1.1,λhk=>by rw[hc]at hk;cases hk⟩,λx hx=>(by cases hx),aK _⟩
 ·rename_i hc
  have hc:(dH r).2.2.1=false:=by simpa using hc
  have t:=Cj e.1.1 (dH r).1.toNat
  have tb:=qS (n:=(dH r).1.toNat) e.1.1.1
  have n0:=(e.2 hc).1
  refine⟨(e.1.trans t.1).of λhk=> ?_,tb.2.1,?_⟩
  ·rw[t.2 hk,Int.toNat_of_nonneg n0]
  ·have hl:(kM (dH r).1.toNat (dH r).2).1.length<=(dH r).2.1.length:=by
    unfold kM
    split
    ·exact aK _
    ·show((dH r).2.1.take _).length<=_
     rw[bQ];omega
   have:=e.1.1.1.1
   omega
theorem Se{r:iw}(h:og r){m:Int}(h0:0<=(wZ m r).1):Ov r (wZ m r).2 (iC (wZ m r).1)/\(wZ m r).1<=m:=by
 have e:=nk h
 unfold wZ at h0 ⊢
 by_cases hc:(dH r).1 > m
 ·simp only[if_pos hc]at h0
  omega
 ·simp only[if_neg hc]
  exact⟨e.1,by omega⟩
theorem J1{r:iw}(h:og r)(m:Int):og (wZ m r).2:=(nk h).1.1
theorem J0{r:iw}(h:mU r){m:Int}(hm:0<=m): -1<=(wZ m r).1/\(wZ m r).1<=m:=by
 have:=(nj h).1
 unfold wZ
 split
 ·exact⟨by omega,by show(-1:Int)<=m;omega⟩
 ·rename_i hc
  have hc:¬(dH r).1 > m:=hc
  exact⟨by show -1<=(dH r).1;omega,by show(dH r).1<=m;omega⟩
theorem JN:∀(k:Nat) {r:iw},og r->Ov r (vN k r).2 ((vN k r).1.flatMap IA)/\(vN k r).1.length=k/\∀o∈(vN k r).1,Sm o.1
 | 0,r,h=>⟨Ov.refl h,rfl,λx hx=>by cases hx⟩
 |k+1,r,h=>by
  have e1:=F6 h
  have e2:=nk e1.1
  have ih:=JN k (r:=(Qi r).2) e2.1.1
  refine⟨?_,by rw[vN,aB,ih.2.1],λo ho=> ?_⟩
  ·have:=(e1.trans e2.1).trans ih.1
   rw[vN,dx]
   exact this
  ·rcases cX.1 ho with rfl | ho
   ·exact ME h.1
   ·exact ih.2.2 o ho
theorem RT{r:iw}(h:og r):og (BN r).2:=(Eg (nk h).1.1).1.1
theorem GM:∀(k:Nat) {r:iw} {x:List kO×iw},og r->ua k r=some x->Ov r x.2 (x.1.flatMap sR)/\x.1.length=k/\∀o∈x.1,o.1<=9223372036854775807/\lN o.2.1=true/\Sv o.2.1
 | 0,r,x,h,hx=>by
  cases hx
  exact⟨Ov.refl h,rfl,λx hx=>by cases hx⟩
 |k+1,r,x,h,hx=>by
  rw[ua]at hx
  split at hx
  ·rename_i hr
   split at hx
   ·rename_i y hy
    cases hx
    have e1:=nk h
    have e2:=Eg e1.1.1
    have ih:=GM k (RT h) hy
    obtain⟨l,hl,Rl,he,hle⟩:=Nx hr
    have hu:=JT e2.2.1 e2.2.2
    have el:(BN r).1.2.1=l:=by show(uc (uk (dH r).2).1).1=l;rw[he]
    refine⟨?_,by rw[aB,ih.2.1],λo ho=> ?_⟩
    ·have:=(e1.1.trans e2.1).trans ih.1
     rw[dx]
     unfold sR
     rw[el,Rl]
     exact this
    ·rcases cX.1 ho with rfl | ho
     ·refine⟨(nj h.1).2.1,by rw[el];exact hl,?_⟩
      rw[el,hle]
      exact⟨hu.1,by show(nU _).length<=_;omega⟩
     ·exact ih.2.2 o ho
   ·cases hx
  ·cases hx
theorem EY:∀(k:Nat) {r:iw},og r->Ov r (tK k r).2 ((tK k r).1.flatMap LO)/\(tK k r).1.length=k/\∀s∈(tK k r).1,Qw s
 | 0,r,h=>⟨Ov.refl h,rfl,λx hx=>by cases hx⟩
 |k+1,r,h=>by
  have e1:=vG h
  have e2:=vG e1.1
  have ih:=EY k (r:=(Qo r).2) e2.1
  refine⟨?_,by rw[tK,aB,ih.2.1],λo ho=> ?_⟩
  ·have:=(e1.trans e2).trans ih.1
   rw[tK,dx]
   exact this
  ·rcases cX.1 ho with rfl | ho
   ·exact⟨(y5 h.1).1,(y5 e1.1.1).1⟩
   ·exact ih.2.2 o ho
theorem J2{r:iw}(h:og r):og (pk r).2/\(pk r).1.length<=12/\∀s∈(pk r).1,Qw s:=by
 have e1:=nk h
 have ih:=EY (wZ 12 (dH r).2).1.toNat (J1 e1.1.1 12)
 have:=J0 e1.1.1.1 (m:=12) (by decide)
 exact⟨ih.1.1,by show(tK _ _).1.length<=12;rw[ih.2.1];omega,ih.2.2⟩
theorem PE{r:iw}{w:CC×iw}(h:og r)(hw:I1 r=some w):Ov r w.2 (sC w.1)/\CD w.1/\w.1.2.1.length<=12:=by
 unfold I1 at hw
 split at hw
 ·cases hw
 ·rename_i hc
  cases hw
  have e1:=nk h
  have hc:0<=(wZ 12 (dH r).2).1:=by omega
  have e2:=Se e1.1.1 hc
  have e3:=EY (wZ 12 (dH r).2).1.toNat e2.1.1
  have g:=J2 h
  have e4:=vG g.1
  have hl:((pk r).1.length:Int)=(wZ 12 (dH r).2).1:=by
   show((tK _ _).1.length:Int)=_
   rw[e3.2.1];omega
  have:=((e1.1.trans e2.1).trans e3.1).trans e4
  refine⟨this.of λ_=> ?_,⟨g.2.2,(y5 g.1.1).1⟩,g.2.1⟩
  unfold sC
  simp only[hl,aD]
  rfl
theorem Hl:∀(l:List cd) {r:iw} {x:List kC×iw},og r->uh l r=some x->Ov r x.2 (x.1.flatMap λy=>sC y.2.1)/\x.1.map (·.1)=l/\∀y∈x.1,CD y.2.1/\y.2.1.2.1.length<=12
 |[],r,x,h,hx=>by
  cases hx
  exact⟨Ov.refl h,rfl,λx hx=>by cases hx⟩
 |o::l,r,x,h,hx=>by
  rw[uh]at hx
  split at hx
  ·cases hx
  ·rename_i w hw
   have e:=PE h hw
   split at hx
   ·cases hx
   ·rename_i y hy
    cases hx
    have ih:=Hl l e.1.1 hy
    refine⟨?_,by rw[bX,ih.2.1],λz hz=> ?_⟩
    ·have:=e.1.trans ih.1
     rw[dx]
     exact this
    ·rcases cX.1 hz with rfl | hz
     ·exact e.2
     ·exact ih.2.2 z hz
def Od(o:cd):qU:=(o,(0,none,0,()),())
def Vn(x:kC):qU:=(x.1,(x.2.1.1,some x.2.1.2.1,x.2.1.2.2),())
def Xm(x:qU):kC:=(x.1,(x.2.1.1,x.2.1.2.1.getD [],x.2.1.2.2),())
theorem QM(l:List qU):SD (.slice nc) (.slice jo) l=l.map Xm:=by kernel_rfl
theorem Sb(l:List kC):(l.map Vn).map Xm=l:=by
 rw[List.map_map]
 have:(Xm∘Vn)=id:=rfl
 rw[this,List.map_id]
theorem Pd{t:Ty}{l:List t.den}{k:Nat}{y:t.den}(h:k < l.length):nth t (l.set k y) k=y:=by simp[nth,h]
theorem Pc{t:Ty}{a b:List t.den}{k:Nat}{y:t.den}(h:a.length=k):nth t (a++y::b) k=y:=by subst h;simp[nth]
theorem Ps{α:Type}{a b:List α}{k:Nat}{y z:α}(h:a.length=k):(a++y::b).set k z=a++z::b:=by subst h;simp
theorem Lt{α:Type}{l:List α}{k:Nat}{y:α}:(l.set k y).take k=l.take k:=by rw[List.take_set,List.set_eq_of_length_le (by rw[bQ];omega)]
theorem Ks{α:Type}{l:List α}{k:Nat}{y:α}:(l.set k y).drop (k+1)=l.drop (k+1):=List.drop_set_of_lt (by omega)
abbrev lA.D:=iw
abbrev lA.Y:=Bs×iw
def lA.aM:lA.D->Prop:=λr=>mU r
def lA.F:lA.D->lA.Y:=λr=>uH r
def lA:Fs Tryz.prog lA.aM bP lA.F:=gC 185 Tryz.f185 (λo0=>([.ptr (.aV 0) 0 [] 0],[.obj 0 false (.d oa o0)])) (λx=>⟨.d tH x.1,[.obj 0 false (.d oa x.2)],[]⟩) [none] [jh.sg]
theorem lA.eq{R:Type}(o0)(k:K1 R):lA.A o0 k=
 ah (jh.call (32,o0)) λx1=>
 aP (decide ((List.length x1.1)<=32)) (
 k (lA.out ((x1.1++(List.drop (List.length x1.1) (List.replicate 32 0))),x1.2))) none:=by kernel_rfl
theorem lA.ok:lA.Ok:=by
 intro r h
 have h:mU r:=h
 have e:=(qS (n:=32) h).1
 rw[lA.eq,jh.run (d:=(32,r)) ⟨by decide,h.1⟩]
 simp only[ab,bP,jh.F]
 rw[show Int.toNat 32=32 from rfl,aY e]
 rfl
theorem lA.run:lA.RS:=rE [.d oa] lA
def lA.sg:=lA.gG lA.ok
abbrev iO.D:=iw
abbrev iO.Y:=Bs×iw
def iO.aM:iO.D->Prop:=λr=>mU r
def iO.F:iO.D->iO.Y:=λr=>uk r
def iO:Fs Tryz.prog iO.aM bP iO.F:=gC 187 Tryz.f187 (λo0=>([.ptr (.aV 0) 0 [] 0],[.obj 0 false (.d oa o0)])) (λx=>⟨.d tB x.1,[.obj 0 false (.d oa x.2)],[]⟩) [none] [cU.sg,jh.sg] {res:=[some tB],Ay:=[⟨0,[.arr],oa⟩]}
theorem iO.eq{R:Type}(o0)(k:K1 R):iO.A o0 k=
  ah (cU.call o0) λx1=>
  aP (x1.2.2.1) (
   k (iO.out (([]:List Int),x1.2))) (
   ah (jh.call (x1.1,x1.2)) λx2=>
   k (iO.out (x2.1,x2.2))):=by kernel_rfl
theorem iO.ok:iO.Ok:=by
 intro r h
 have h:mU r:=h
 have e:=nj h
 rw[iO.eq,cU.run (d:=r) h]
 simp only[ab,bP,cU.F,bP,iO.F,uk]
 cases hc:(dH r).2.2.1
 ·rw[al,jh.run (d:=((dH r).1,(dH r).2)) ⟨e.1,e.2.2.1⟩]
  rfl
 ·rfl
theorem iO.run:iO.RS:=rE [.d oa] iO
def iO.sg:=iO.gG iO.ok
abbrev ju.D:=Int×iw
abbrev ju.Y:=Int×iw
def ju.aM:ju.D->Prop:=λ(m,r)=>mU r
def ju.F:ju.D->ju.Y:=λ(m,r)=>wZ m r
def ju:Fs Tryz.prog ju.aM bP ju.F:=gC 183 Tryz.f183 (λ(most,o1)=>([.d ti most,.ptr (.aV 0) 0 [] 0],[.obj 0 false (.ptr (.aV 1) 0 [] 0),.obj 0 false (.d oa o1)])) (λx=>⟨.d ti x.1,[.obj 0 false (.ptr (.aV 1) 0 [] 0),.obj 0 false (.d oa x.2)],[]⟩) [some ti,none] [cU.sg]
theorem ju.eq{R:Type}(most o1)(k:K1 R):ju.A (most,o1) k=
  ah (cU.call o1) λx1=>
  aP ((uK x1.1 most)) (
   k (ju.out ((-1),x1.2))) (
   k (ju.out (x1.1,x1.2))):=by kernel_rfl
theorem ju.ok:ju.Ok:=by
 rintro⟨m,r⟩ h
 have h:mU r:=h
 rw[ju.eq,cU.run (d:=r) h]
 simp only[ab,bP,cU.F,bP,ju.F,wZ]
 by_cases hc:(dH r).1 > m
 ·rw[eY hc,if_pos hc];rfl
 ·rw[eC hc,if_neg hc];rfl
theorem ju.run:ju.RS:=rE [.d ti,.d oa] ju
def ju.sg:=ju.gG ju.ok
abbrev aC.L0.D:=Int×Int×Int×(Int×Unit)×Nat×(Int×Unit)×iw×(List qU)
abbrev aC.L0.Y:=Nat×iw×(List qU)
abbrev aC.L0.X:=(Int×(Int×Unit)×(Int×Unit))×(Nat×iw×(List qU))
def aC.L0.add:aC.L0.D->aC.L0.Y->aC.L0.X:=λ(n,t20,t21,n2,O7,n4,n16,n32) y=>((n,n2,n4),y)
abbrev aC.L1.D:=Int×Int×Int×Int×(Int×Unit)×Nat×Nat×(Int×Unit)×iw×(List qU)×(List kO)
def aC.L1.st:aC.L1.D->AS:=λ(sZ,m,t37,t38,lz,zx,vZ,rn,Bm,zu,Qf)=>⟨([.undef,.undef,.ptr (.new 2 0) 0 [] 0,.undef,.ptr (.new 4 0) 0 [] 0,.ptr (.new 5 0) 0 [] 0,.fn 183 (.cons (.ptr (.new 5 0) 0 [] 0) (.nil)),.d ti sZ,.d ti m]++aT 28 ([.d ti t37,.d ti t38]++aT 93 [])),[],([[],[],[.obj 0 false (.pr (.di) (.pr (.di) (.d (.pair ti .unit) lz)))],[],[.obj 0 false (.pr (.aS (.new 32 0) 0 [] 0 0 zx) (.pr (.aS (.new 58 0) 0 [] 0 0 vZ) (.d (.pair ti .unit) rn)))],[.obj 0 false (.ptr (.new 16 0) 0 [] 0)]]++ct 10 ([[.obj 0 false (.d oa Bm)]]++ct 15 ([[.obj 0 false (.vec 52 nc zu)]]++ct 25 ([[.obj 0 false (.vec 36 lO Qf)]]++ct 73 []))))⟩
abbrev aC.L1.Y0:=(Int×Unit)
abbrev aC.L1.X0:=(Int×Unit)
def aC.L1.eG:aC.L1.X0->Exit×AS:=λx=>(.ret,⟨([.undef,.undef,.ptr (.new 2 0) 0 [] 0,.d .bool false]++aT 128 []),[],([[],[],[.obj 0 false (.pr (.di) (.pr (.di) (.d (.pair ti .unit) x)))]]++ct 129 [])⟩)
abbrev aC.L1.Y1:=Nat×iw×(List kO)
abbrev aC.L1.X1:=(Int×Int×(Int×Unit)×Nat×(Int×Unit)×(List qU))×(Nat×iw×(List kO))
def aC.L1.gZ:aC.L1.X1->Exit×AS:=λx=>(.exit 2,⟨([.undef,.undef,.ptr (.new 2 0) 0 [] 0,.undef,.ptr (.new 4 0) 0 [] 0,.ptr (.new 5 0) 0 [] 0,.fn 183 (.cons (.ptr (.new 5 0) 0 [] 0) (.nil)),.d ti x.1.1,.d ti x.1.2.1]++aT 123 []),[],([[],[],[.obj 0 false (.pr (.di) (.pr (.di) (.d (.pair ti .unit) x.1.2.2.1)))],[],[.obj 0 false (.pr (.aS (.new 32 0) 0 [] 0 0 x.1.2.2.2.1) (.pr (.aS (.new 58 0) 0 [] 0 0 x.2.1) (.d (.pair ti .unit) x.1.2.2.2.2.1)))],[.obj 0 false (.ptr (.new 16 0) 0 [] 0)]]++ct 10 ([[.obj 0 false (.d oa x.2.2.1)]]++ct 15 ([[.obj 0 false (.vec 52 nc x.1.2.2.2.2.2)]]++ct 25 ([[.obj 0 false (.vec 36 lO x.2.2.2)]]++ct 73 []))))⟩)
abbrev aC.L1.X:=(aC.L1.X0)⊕(aC.L1.X1)
abbrev aC.L1.Y:=(aC.L1.Y0)⊕(aC.L1.Y1)
def aC.L1.out:aC.L1.X->Out (Exit×AS):=λx=> .br x.isLeft (.get x.getLeft? λa=> .ok (aC.L1.eG a)) (.get x.getRight? λb=> .ok (aC.L1.gZ b))
def aC.L1.add:aC.L1.D->aC.L1.Y->aC.L1.X:=λ(sZ,m,t37,t38,lz,zx,vZ,rn,Bm,zu,Qf) y=>match y with | .inl y=> .inl y | .inr z=> .inr (((sZ,m,lz,zx,rn,zu),z))
abbrev aC.L2.D:=Int×Int×Int×Int×(Int×Unit)×Nat×Nat×(Int×Unit)×iw×(List qU)×(List kO)
def aC.L2.st:aC.L2.D->AS:=λ(RJ,JI,t66,t67,nK,zy,Bz,xE,Bn,fU,BD)=>⟨([.undef,.undef,.ptr (.new 2 0) 0 [] 0,.undef,.ptr (.new 4 0) 0 [] 0,.ptr (.new 5 0) 0 [] 0,.fn 183 (.cons (.ptr (.new 5 0) 0 [] 0) (.nil)),.d ti RJ,.d ti JI]++aT 57 ([.d ti t66,.d ti t67]++aT 64 [])),[],([[],[],[.obj 0 false (.pr (.di) (.pr (.di) (.d (.pair ti .unit) nK)))],[],[.obj 0 false (.pr (.aS (.new 32 0) 0 [] 0 0 zy) (.pr (.aS (.new 58 0) 0 [] 0 0 Bz) (.d (.pair ti .unit) xE)))],[.obj 0 false (.ptr (.new 16 0) 0 [] 0)]]++ct 10 ([[.obj 0 false (.d oa Bn)]]++ct 15 ([[.obj 0 false (.vec 52 nc fU)]]++ct 25 ([[.obj 0 false (.vec 36 lO BD)]]++ct 73 []))))⟩
abbrev aC.L2.Y0:=(Int×Unit)
abbrev aC.L2.X0:=(Int×Unit)
def aC.L2.eG:aC.L2.X0->Exit×AS:=λx=>(.ret,⟨([.undef,.undef,.ptr (.new 2 0) 0 [] 0,.d .bool false]++aT 128 []),[],([[],[],[.obj 0 false (.pr (.di) (.pr (.di) (.d (.pair ti .unit) x)))]]++ct 129 [])⟩)
abbrev aC.L2.Y1:=Int×Int×(Int×Unit)×Nat×Nat×(Int×Unit)×iw×(List qU)×(List kO)
abbrev aC.L2.X1:=Int×Int×(Int×Unit)×Nat×Nat×(Int×Unit)×iw×(List qU)×(List kO)
def aC.L2.gZ:aC.L2.X1->Exit×AS:=λx=>(.exit 4,⟨([.undef,.undef,.ptr (.new 2 0) 0 [] 0,.undef,.ptr (.new 4 0) 0 [] 0,.ptr (.new 5 0) 0 [] 0,.undef,.d ti x.1,.d ti x.2.1]++aT 123 []),[],([[],[],[.obj 0 false (.pr (.di) (.pr (.di) (.d (.pair ti .unit) x.2.2.1)))],[],[.obj 0 false (.pr (.aS (.new 32 0) 0 [] 0 0 x.2.2.2.1) (.pr (.aS (.new 58 0) 0 [] 0 0 x.2.2.2.2.1) (.d (.pair ti .unit) x.2.2.2.2.2.1)))],[.obj 0 false (.ptr (.new 16 0) 0 [] 0)]]++ct 10 ([[.obj 0 false (.d oa x.2.2.2.2.2.2.1)]]++ct 15 ([[.obj 0 false (.vec 52 nc x.2.2.2.2.2.2.2.1)]]++ct 25 ([[.obj 0 false (.vec 36 lO x.2.2.2.2.2.2.2.2)]]++ct 73 []))))⟩)
abbrev aC.L2.X:=(aC.L2.X0)⊕(aC.L2.X1)
abbrev aC.L2.Y:=(aC.L2.Y0)⊕(aC.L2.Y1)
def aC.L2.out:aC.L2.X->Out (Exit×AS):=λx=> .br x.isLeft (.get x.getLeft? λa=> .ok (aC.L2.eG a)) (.get x.getRight? λb=> .ok (aC.L2.gZ b))
def aC.L2.add:aC.L2.D->aC.L2.Y->aC.L2.X:=λ(RJ,JI,t66,t67,nK,zy,Bz,xE,Bn,fU,BD) y=>match y with | .inl y=> .inl y | .inr z=> .inr (z)
abbrev aC.L3.D:=Int×Int×Int×Int×Int×Int×(Int×Unit)×Nat×Nat×(Int×Unit)×iw×(List qU)×cd×Int×Nat×(Int×Unit)×(List qU)×(List kO)×(List Sg)
abbrev aC.L3.Y:=iw×(List qU)×(List Sg)
abbrev aC.L3.X:=(Int×Int×Int×Int×(Int×Unit)×Nat×Nat×(Int×Unit)×(List kO))×(iw×(List qU)×(List Sg))
def aC.L3.add:aC.L3.D->aC.L3.Y->aC.L3.X:=λ(RK,RG,Ci,sV,t85,t86,wK,BA,BB,Is,DD,DF,DG,DH,CP,DI,Bw,BE,n99) y=>((RK,RG,Ci,sV,wK,BA,BB,Is,BE),y)
abbrev aC.D:=Bs
abbrev aC.Y:=eZ×Bool
def aC.L0.aM:aC.L0.D->Prop:=λ(n,m,i,u,L,v,r,l)=>og r/\m<=64/\∃k:Nat,i=k/\k<=64/\L=l.length/\l.length=k
def aC.L0.F:aC.L0.D->aC.L0.Y:=λ(n,m,i,u,L,v,r,l)=>(L+(m - i).toNat,(vN (m - i).toNat r).2,l++(vN (m - i).toNat r).1.map Od)
def aC.L1.aM:aC.L1.D->Prop:=λ(n,m1,m,i,u,L,L2,v,r,l,os)=>og r/\m<=64/\∃k:Nat,i=k/\k<=64/\L2=os.length/\os.length=k
def aC.L1.F:aC.L1.D->aC.L1.Y:=λ(n,m1,m,i,u,L,L2,v,r,l,os)=>match ua (m - i).toNat r with | none=> .inl (0,()) | some x=> .inr (L2+x.1.length,x.2,os++x.1)
def aC.L3.aM:aC.L3.D->Prop:=λ(n,m1,mo,io,m,i,u,L,L2,v,r,la,op,br,Ls,sc,lb,os,sg)=>og r/\m<=12/\∃k:Nat,i=k/\k<=12/\Ls=sg.length/\sg.length=k
def aC.L3.F:aC.L3.D->aC.L3.Y:=λ(n,m1,mo,io,m,i,u,L,L2,v,r,la,op,br,Ls,sc,lb,os,sg)=>((tK (m - i).toNat r).2,la++(op,(br,some (sg++(tK (m - i).toNat r).1),sc),())::lb,sg++(tK (m - i).toNat r).1)
def aC.L2.aM:aC.L2.D->Prop:=λ(n,m1,m,i,u,L,L2,v,r,l,os)=>og r/\l.length<=64/\∃k:Nat,i=k/\k<=l.length/\m=l.length/\L=l.length/\∀x∈l.drop k,x=Od x.1
def aC.L2.F:aC.L2.D->aC.L2.Y:=λ(n,m1,m,i,u,L,L2,v,r,l,os)=>match uh ((l.drop i.toNat).map (·.1)) r with | none=> .inl (0,()) | some x=> .inr (n,m1,u,L,L2,v,x.2,l.take i.toNat++x.1.map Vn,os)
def aC.aM:aC.D->Prop:=λb=>Bytes b/\b.length<=1000000000
def aC.F:aC.D->aC.Y:=λb=>BT b
def aC.L0:Ls aC.L0.aM aC.L0.add aC.L0.F:=rX (λ(n,t20,t21,n2,O7,n4,n16,n32)=>⟨([.undef,.undef,.ptr (.new 2 0) 0 [] 0,.undef,.ptr (.new 4 0) 0 [] 0,.ptr (.new 5 0) 0 [] 0,.fn 183 (.cons (.ptr (.new 5 0) 0 [] 0) (.nil)),.d ti n]++aT 12 ([.d ti t20,.d ti t21]++aT 110 [])),[],([[],[],[.obj 0 false (.pr (.di) (.pr (.di) (.d (.pair ti .unit) n2)))],[],[.obj 0 false (.pr (.aS (.new 32 0) 0 [] 0 0 O7) (.pr (.di) (.d (.pair ti .unit) n4)))],[.obj 0 false (.ptr (.new 16 0) 0 [] 0)]]++ct 10 ([[.obj 0 false (.d oa n16)]]++ct 15 ([[.obj 0 false (.vec 52 nc n32)]]++ct 99 [])))⟩) (λx=>(.exit 0,⟨([.undef,.undef,.ptr (.new 2 0) 0 [] 0,.undef,.ptr (.new 4 0) 0 [] 0,.ptr (.new 5 0) 0 [] 0,.fn 183 (.cons (.ptr (.new 5 0) 0 [] 0) (.nil)),.d ti x.1.1]++aT 124 []),[],([[],[],[.obj 0 false (.pr (.di) (.pr (.di) (.d (.pair ti .unit) x.1.2.1)))],[],[.obj 0 false (.pr (.aS (.new 32 0) 0 [] 0 0 x.2.1) (.pr (.di) (.d (.pair ti .unit) x.1.2.2)))],[.obj 0 false (.ptr (.new 16 0) 0 [] 0)]]++ct 10 ([[.obj 0 false (.d oa x.2.2.1)]]++ct 15 ([[.obj 0 false (.vec 52 nc x.2.2.2)]]++ct 99 [])))⟩))
def aC.L1.E:=eE.iR aC.L1.st aC.L1.aM aC.L1.add aC.L1.F aC.L1.out
def aC.L1.call:aC.L1.D->Option aC.L1.X:=j9 aC.L1.E aC.L1.st
def aC.L2.E:=eE.iR aC.L2.st aC.L2.aM aC.L2.add aC.L2.F aC.L2.out
def aC.L2.call:aC.L2.D->Option aC.L2.X:=j9 aC.L2.E aC.L2.st
def aC.L3:Ls aC.L3.aM aC.L3.add aC.L3.F:=rX (λ(RK,RG,Ci,sV,t85,t86,wK,BA,BB,Is,DD,DF,DG,DH,CP,DI,Bw,BE,n99)=>⟨([.undef,.undef,.ptr (.new 2 0) 0 [] 0,.undef,.ptr (.new 4 0) 0 [] 0,.ptr (.new 5 0) 0 [] 0,.fn 183 (.cons (.ptr (.new 5 0) 0 [] 0) (.nil)),.d ti RK,.d ti RG]++aT 4 ([.ptr (.new 32 0) 0 [.snd,.fst,.snd,.fst] ((0+((Int.toNat sV)*36))+33)]++aT 52 ([.d ti Ci,.d ti sV]++aT 17 ([.d ti t85,.d ti t86]++aT 45 [])))),[],([[],[],[.obj 0 false (.pr (.di) (.pr (.di) (.d (.pair ti .unit) wK)))],[],[.obj 0 false (.pr (.aS (.new 32 0) 0 [] 0 0 BA) (.pr (.aS (.new 58 0) 0 [] 0 0 BB) (.d (.pair ti .unit) Is)))],[.obj 0 false (.ptr (.new 16 0) 0 [] 0)]]++ct 10 ([[.obj 0 false (.d oa DD)]]++ct 15 ([[.obj 0 false (.bx 52 36 (.pr (.d (.arr (0+(Int.toNat sV)) nc) DF) (.pr (.pr (.d b8 DG) (.pr (.pr (.d ti DH) (.pr (.aS (.new 99 0) 0 [] 0 0 CP) (.d (.pair tu .unit) DI))) (.d .unit ()))) (.d (.arr (List.length Bw) nc) Bw))))]]++ct 25 ([[.obj 0 false (.vec 36 lO BE)]]++ct 40 ([[.obj 0 false (.vec 135 yg n99)]]++ct 32 [])))))⟩) (λx=>(.exit 6,⟨([.undef,.undef,.ptr (.new 2 0) 0 [] 0,.undef,.ptr (.new 4 0) 0 [] 0,.ptr (.new 5 0) 0 [] 0,.fn 183 (.cons (.ptr (.new 5 0) 0 [] 0) (.nil)),.d ti x.1.1,.d ti x.1.2.1]++aT 4 ([.ptr (.new 32 0) 0 [.idx (0+(Int.toNat x.1.2.2.2.1)),.snd,.fst] ((0+((Int.toNat x.1.2.2.2.1)*36))+33)]++aT 52 ([.d ti x.1.2.2.1,.d ti x.1.2.2.2.1]++aT 64 []))),[],([[],[],[.obj 0 false (.pr (.di) (.pr (.di) (.d (.pair ti .unit) x.1.2.2.2.2.1)))],[],[.obj 0 false (.pr (.aS (.new 32 0) 0 [] 0 0 x.1.2.2.2.2.2.1) (.pr (.aS (.new 58 0) 0 [] 0 0 x.1.2.2.2.2.2.2.1) (.d (.pair ti .unit) x.1.2.2.2.2.2.2.2.1)))],[.obj 0 false (.ptr (.new 16 0) 0 [] 0)]]++ct 10 ([[.obj 0 false (.d oa x.2.1)]]++ct 15 ([[.obj 0 false (.vec 52 nc x.2.2.1)]]++ct 25 ([[.obj 0 false (.vec 36 lO x.1.2.2.2.2.2.2.2.2)]]++ct 40 ([[.obj 0 true (.vec 135 yg x.2.2.2)]]++ct 32 [])))))⟩))
def aC:Fs Tryz.prog aC.aM bP aC.F:=gC 126 Tryz.f126 (λb=>([.d tB b],[])) (λx=>⟨.cons (.d gU x.1) (.cons (.d .bool x.2) (.nil)),[],[]⟩) [some tB] [ki.sg,ju.sg,lA.sg,cU.sg,iO.sg,cS.sg,fR.sg,na.sg,jD.sg,az.sg] {bK:=[100031,100032],loops:=pz [(6,{bo:=[2,4,5,6,7,20,21],sites:=[2,4,5,16,32],owns:=[⟨4,[.fst],32,100038⟩]}),(11,{bo:=[2,4,5,6,7,8,37,38],sites:=[2,4,5,16,32,58],owns:=[⟨4,[.snd,.fst],58,37⟩]}),(21,{bo:=[2,4,5,6,7,8,66,67],sites:=[2,4,5,16,32,58]}),(29,{bo:=[2,4,5,6,7,8,13,66,67,85,86],sites:=[2,4,5,16,32,58,99],owns:=[⟨13,[.snd,.fst],99,48⟩],XG:=[13]})],outs:=py [(6,{bo:=[2,4,5,6,7],sites:=[2,4,5,16,32]},{bo:=[2,3]}),(11,{bo:=[2,4,5,6,7,8],sites:=[2,4,5,16,32,58]},{bo:=[2,3],sites:=[2]}),(21,{bo:=[2,4,5,7,8],sites:=[2,4,5,16,32,58]},{bo:=[2,3],sites:=[2]}),(29,{bo:=[2,4,5,6,7,8,13,66,67],sites:=[2,4,5,16,32,58,99],Yk:=[13]},{bo:=[2,3]})],iX:=lkn [(6,aC.L0.E),(11,aC.L1.E),(21,aC.L2.E),(29,aC.L3.E)],res:=[some gU,none]}
def aC.L1.R:= @gN Tryz.prog (oo aC.G) aC.an 0 Tryz.f126 1 _ aC.L1.st
abbrev aC.L1.Ok:=mS Tryz.prog (oo aC.G) aC.an 0 Tryz.f126 1 aC.L1.st aC.L1.aM aC.L1.add aC.L1.F aC.L1.out
def aC.L2.R:= @gN Tryz.prog (oo aC.G) aC.an 0 Tryz.f126 2 _ aC.L2.st
abbrev aC.L2.Ok:=mS Tryz.prog (oo aC.G) aC.an 0 Tryz.f126 2 aC.L2.st aC.L2.aM aC.L2.add aC.L2.F aC.L2.out
theorem aC.L0.run:aC.L0.RS:=rL [.d ti,.d ti,.d ti,.d (.pair ti .unit),.n,.d (.pair ti .unit),.d oa,.d (.slice nc)] aC.L0
theorem aC.L0.step{R:Type}(n t20 t21 n2 O7 n4 n16 n32)(kn:K2 R)(kx:K3 R):aC.R 0 aC.L0 (n,t20,t21,n2,O7,n4,n16,n32) kn kx=
  aP ((jx t21 t20)) (
   ah (lA.call n16) λx7=>
   ah (cU.call x7.2) λx8=>
   aP (decide (O7<=(List.length n32))) (
   aP (dZ (O7+1) 80) (
   kn (aC.L0.st (n,t20,(cG .i64 t21 1),n2,(O7+1),n4,x8.2,((List.take O7 n32)++ [((x7.1,(x8.1,())),((0,(none,(0,()))),()))])))) none) none) (
   aC.L0.go kx ((n,n2,n4),(O7,n16,n32))):=by kernel_rfl
theorem aC.L1.run:kF aC.L1.call aC.L1.aM aC.L1.add aC.L1.F:=oU (oR [.d ti,.d ti,.d ti,.d ti,.d (.pair ti .unit),.n,.n,.d (.pair ti .unit),.d oa,.d (.slice nc),.d (.slice lO)] λ_=>by kernel_rfl)
theorem aC.L1.cM:qa @aC.L1.R aC.L1.st aC.L1.aM aC.L1.add aC.L1.F aC.L1.out aC.L1.Ok:=qC
theorem aC.L1.step{R:Type}(sZ:Int)(m:Int)(t37:Int)(t38:Int)(lz:(Int×Unit))(zx:Nat)(vZ:Nat)(rn:(Int×Unit))(Bm:iw)(zu:(List qU))(Qf:(List kO))(kn:AS->Option R)(kx:Exit->AS->Option R):aC.L1.R (sZ,m,t37,t38,lz,zx,vZ,rn,Bm,zu,Qf) kn kx=
  aP ((jx t38 t37)) (
   ah (cU.call Bm) λCr=>
   ah (iO.call Cr.2) λPG=>
   ah (cS.call PG.1) λCs=>
   aP ((!Cs.2)) (
    kx (aC.L1.eG ((0:Int),())).1 (aC.L1.eG ((0:Int),())).2) (
    aP (decide (vZ<=(List.length Qf))) (
    aP (dZ (vZ+1) 32) (
    kn (aC.L1.st (sZ,m,t37,(cG .i64 t38 (1:Int)),lz,zx,(vZ+1),rn,PG.2,zu,((List.take vZ Qf)++ [(Cr.1,(Cs.1,()))])))) none) none)) (
   kx (aC.L1.gZ ((sZ,m,lz,zx,rn,zu),(vZ,Bm,Qf))).1 (aC.L1.gZ ((sZ,m,lz,zx,rn,zu),(vZ,Bm,Qf))).2):=by kernel_rfl
theorem aC.L2.run:kF aC.L2.call aC.L2.aM aC.L2.add aC.L2.F:=oU (oR [.d ti,.d ti,.d ti,.d ti,.d (.pair ti .unit),.n,.n,.d (.pair ti .unit),.d oa,.d (.slice nc),.d (.slice lO)] λ_=>by kernel_rfl)
theorem aC.L2.cM:qa @aC.L2.R aC.L2.st aC.L2.aM aC.L2.add aC.L2.F aC.L2.out aC.L2.Ok:=qC
theorem aC.L2.step{R:Type}(RJ:Int)(JI:Int)(t66:Int)(t67:Int)(nK:(Int×Unit))(zy:Nat)(Bz:Nat)(xE:(Int×Unit))(Bn:iw)(fU:(List qU))(BD:(List kO))(kn:AS->Option R)(kx:Exit->AS->Option R):aC.L2.R (RJ,JI,t66,t67,nK,zy,Bz,xE,Bn,fU,BD) kn kx=
  aP ((jx t67 t66)) (
   aP (jn t67 ((zy:Nat):Int)) (
   ah (cU.call Bn) λCr=>
   aP (decide ((0+(Int.toNat t67)) < (List.length fU))) (
   aP (decide ((((0+(Int.toNat t67))*36)+33)=(((0+((Int.toNat t67)*36))+33)+0))) (
   aP (decide ((0+(Int.toNat t67)) < (List.length fU))) (
   ah (ju.call ((12:Int),Cr.2)) λLQ=>
   aP ((jx LQ.1 (0:Int))) (
    kx (aC.L2.eG ((0:Int),())).1 (aC.L2.eG ((0:Int),())).2) (
    aP (decide ((0+(Int.toNat t67)) < (List.length (List.set fU (0+(Int.toNat t67)) ((nth nc fU (0+(Int.toNat t67))).1,((Cr.1,(nth nc fU (0+(Int.toNat t67))).2.1.2),(nth nc fU (0+(Int.toNat t67))).2.2)))))) (
    aP ((Option.isNone (nth nc (List.set fU (0+(Int.toNat t67)) ((nth nc fU (0+(Int.toNat t67))).1,((Cr.1,(nth nc fU (0+(Int.toNat t67))).2.1.2),(nth nc fU (0+(Int.toNat t67))).2.2))) (0+(Int.toNat t67))).2.1.2.1)) (
    ah (aC.L3.call (RJ,JI,t66,t67,LQ.1,(0:Int),nK,zy,Bz,xE,LQ.2,(List.take (0+(Int.toNat t67)) (List.set fU (0+(Int.toNat t67)) ((nth nc fU (0+(Int.toNat t67))).1,((Cr.1,(nth nc fU (0+(Int.toNat t67))).2.1.2),(nth nc fU (0+(Int.toNat t67))).2.2)))),((nth nc (List.set fU (0+(Int.toNat t67)) ((nth nc fU (0+(Int.toNat t67))).1,((Cr.1,(nth nc fU (0+(Int.toNat t67))).2.1.2),(nth nc fU (0+(Int.toNat t67))).2.2))) (0+(Int.toNat t67))).1.1,((nth nc (List.set fU (0+(Int.toNat t67)) ((nth nc fU (0+(Int.toNat t67))).1,((Cr.1,(nth nc fU (0+(Int.toNat t67))).2.1.2),(nth nc fU (0+(Int.toNat t67))).2.2))) (0+(Int.toNat t67))).1.2.1,(nth nc (List.set fU (0+(Int.toNat t67)) ((nth nc fU (0+(Int.toNat t67))).1,((Cr.1,(nth nc fU (0+(Int.toNat t67))).2.1.2),(nth nc fU (0+(Int.toNat t67))).2.2))) (0+(Int.toNat t67))).1.2.2)),(nth nc (List.set fU (0+(Int.toNat t67)) ((nth nc fU (0+(Int.toNat t67))).1,((Cr.1,(nth nc fU (0+(Int.toNat t67))).2.1.2),(nth nc fU (0+(Int.toNat t67))).2.2))) (0+(Int.toNat t67))).2.1.1,0,((nth nc (List.set fU (0+(Int.toNat t67)) ((nth nc fU (0+(Int.toNat t67))).1,((Cr.1,(nth nc fU (0+(Int.toNat t67))).2.1.2),(nth nc fU (0+(Int.toNat t67))).2.2))) (0+(Int.toNat t67))).2.1.2.2.1,(nth nc (List.set fU (0+(Int.toNat t67)) ((nth nc fU (0+(Int.toNat t67))).1,((Cr.1,(nth nc fU (0+(Int.toNat t67))).2.1.2),(nth nc fU (0+(Int.toNat t67))).2.2))) (0+(Int.toNat t67))).2.1.2.2.2),(List.drop ((0+(Int.toNat t67))+1) (List.set fU (0+(Int.toNat t67)) ((nth nc fU (0+(Int.toNat t67))).1,((Cr.1,(nth nc fU (0+(Int.toNat t67))).2.1.2),(nth nc fU (0+(Int.toNat t67))).2.2)))),BD,([]:List Sg))) λsY=>
    ah (fR.call sY.2.1) λCs=>
    aP (decide ((0+(Int.toNat sY.1.2.2.2.1)) < (List.length sY.2.2.1))) (
    aP (decide ((((0+(Int.toNat sY.1.2.2.2.1))*36)+35)=(((0+((Int.toNat sY.1.2.2.2.1)*36))+33)+2))) (
    aP (decide ((0+(Int.toNat sY.1.2.2.2.1)) < (List.length sY.2.2.1))) (
    kn (aC.L2.st (sY.1.1,sY.1.2.1,sY.1.2.2.1,(cG .i64 sY.1.2.2.2.1 (1:Int)),sY.1.2.2.2.2.1,sY.1.2.2.2.2.2.1,sY.1.2.2.2.2.2.2.1,sY.1.2.2.2.2.2.2.2.1,Cs.2,(List.set sY.2.2.1 (0+(Int.toNat sY.1.2.2.2.1)) ((nth nc sY.2.2.1 (0+(Int.toNat sY.1.2.2.2.1))).1,(((nth nc sY.2.2.1 (0+(Int.toNat sY.1.2.2.2.1))).2.1.1,((nth nc sY.2.2.1 (0+(Int.toNat sY.1.2.2.2.1))).2.1.2.1,(Cs.1,(nth nc sY.2.2.1 (0+(Int.toNat sY.1.2.2.2.1))).2.1.2.2.2))),(nth nc sY.2.2.1 (0+(Int.toNat sY.1.2.2.2.1))).2.2))),sY.1.2.2.2.2.2.2.2.2))) none) none) none) none) none)) none) none) none) none) (
   kx (aC.L2.gZ (RJ,JI,nK,zy,Bz,xE,Bn,fU,BD)).1 (aC.L2.gZ (RJ,JI,nK,zy,Bz,xE,Bn,fU,BD)).2):=by kernel_rfl
theorem aC.L3.run:aC.L3.RS:=rL [.d ti,.d ti,.d ti,.d ti,.d ti,.d ti,.d (.pair ti .unit),.n,.n,.d (.pair ti .unit),.d oa,.d (.slice nc),.d b8,.d ti,.n,.d (.pair tu .unit),.d (.slice nc),.d (.slice lO),.d (.slice yg)] aC.L3
theorem aC.L3.step{R:Type}(RK RG Ci sV t85 t86 wK BA BB Is DD DF DG DH CP DI Bw BE n99)(kn:K2 R)(kx:K3 R):aC.R 3 aC.L3 (RK,RG,Ci,sV,t85,t86,wK,BA,BB,Is,DD,DF,DG,DH,CP,DI,Bw,BE,n99) kn kx=
  aP ((jx t86 t85)) (
   aP (decide ((((0+(Int.toNat sV))*36)+34)=(((0+((Int.toNat sV)*36))+33)+1))) (
   ah (fR.call DD) λx7=>
   ah (fR.call x7.2) λx8=>
   aP (decide (CP<=(List.length n99))) (
   aP (dZ (CP+1) 16) (
   aP (decide ((((0+(Int.toNat sV))*36)+34)=(((0+((Int.toNat sV)*36))+33)+1))) (
   kn (aC.L3.st (RK,RG,Ci,sV,t85,(cG .i64 t86 1),wK,BA,BB,Is,x8.2,DF,DG,DH,(CP+1),DI,Bw,BE,((List.take CP n99)++ [(x7.1,(x8.1,()))])))) none) none) none) none) (
   aP (decide (0=0/\(0+CP)<=(List.length n99))) (
   aC.L3.go kx ((RK,RG,Ci,sV,wK,BA,BB,Is,BE),(DD,(DF++(DG,((DH,((some (cut n99 0 CP)),DI)),()))::Bw),n99))) none):=by kernel_rfl
theorem aC.eq{R:Type}(b)(k:K1 R):aC.A b k=
  ah (ki.call b) λx4=>
  ah (ju.call (64,x4)) λx8=>
  ah (aC.L0.call (x8.1,x8.1,0,(0,()),0,(0,()),x8.2,([]:List qU))) λCt=>
  ah (ju.call (64,Ct.2.2.1)) λzI=>
  ah (aC.L1.call (Ct.1.1,zI.1,zI.1,0,Ct.1.2.1,Ct.2.1,0,Ct.1.2.2,zI.2,Ct.2.2.2,([]:List kO))) λXw=>
  aP (Xw.isLeft) (
   ah (Xw.getLeft?) λa83=>
   k (aC.out ((([]:List kC),(([]:List kO),a83)),false))) (
   ah (Xw.getRight?) λb84=>
   ah (cU.call b84.2.2.1) λYm=>
   ah (aC.L2.call (b84.1.1,b84.1.2.1,((b84.1.2.2.2.1:Nat):Int),0,b84.1.2.2.1,b84.1.2.2.2.1,b84.2.1,(Ym.1,b84.1.2.2.2.2.1.2),Ym.2,b84.1.2.2.2.2.2,b84.2.2.2)) λSh=>
   aP (Sh.isLeft) (
    ah (Sh.getLeft?) λa125=>
    k (aC.out ((([]:List kC),(([]:List kO),a125)),false))) (
    ah (Sh.getRight?) λb126=>
    aP ((jx b126.1 0)) (
     k (aC.out ((([]:List kC),(([]:List kO),(0,()))),false))) (
     aP ((jx b126.2.1 0)) (
      k (aC.out ((([]:List kC),(([]:List kO),(0,()))),false))) (
      ah (na.call b126.2.2.2.2.2.2.1) λUK=>
      aP ((!UK.2)) (
       k (aC.out ((([]:List kC),(([]:List kO),(0,()))),false))) (
       ah (jD.call UK.1) λN4=>
       aP ((uK N4.2 0)) (
        k (aC.out ((([]:List kC),(([]:List kO),(0,()))),false))) (
        aP (decide (0=0/\(0+b126.2.2.2.1)<=(List.length b126.2.2.2.2.2.2.2.1))) (
        aP (decide (0=0/\(0+b126.2.2.2.2.1)<=(List.length b126.2.2.2.2.2.2.2.2))) (
        ah (az.call ((SD (.slice nc) (.slice jo) (cut b126.2.2.2.2.2.2.2.1 0 b126.2.2.2.1)),((cut b126.2.2.2.2.2.2.2.2 0 b126.2.2.2.2.1),b126.2.2.2.2.2.1))) λXq=>
        aP ((!Xq)) (
         k (aC.out ((([]:List kC),(([]:List kO),(0,()))),false))) (
         aP (decide (0=0/\(0+b126.2.2.2.1)<=(List.length b126.2.2.2.2.2.2.2.1))) (
         aP (decide (0=0/\(0+b126.2.2.2.2.1)<=(List.length b126.2.2.2.2.2.2.2.2))) (
         k (aC.out (((SD (.slice nc) (.slice jo) (cut b126.2.2.2.2.2.2.2.1 0 b126.2.2.2.1)),((cut b126.2.2.2.2.2.2.2.2 0 b126.2.2.2.2.1),b126.2.2.2.2.2.1)),true))) none) none)) none) none)))))):=by kernel_rfl
theorem aC.L0.ok:(aC.mL 0 aC.L0):=by
 refine(aC.oH 0 aC.L0) (λ(n,m,i,u,L,v,r,l)=>(m - i).toNat) ?_
 rintro⟨n,m,i,u,L,v,r,l⟩ ⟨hr,hm,k,rfl,hk,rfl,Fb⟩
 have hr:og r:=hr
 have hm:m<=64:=hm
 have Fb:l.length=k:=Fb
 by_cases h:(k:Int) < m
 ·left
  have e1:(m - (k:Int)).toNat=(m - ((k+1:Nat):Int)).toNat+1:=by omega
  have h1:=F6 hr
  refine⟨(n,m,((k+1:Nat):Int),u,l.length+1,v,(Qi r).2,l++ [Od (Qi r).1]),⟨(nk h1.1).1.1,hm,k+1,rfl,by omega,by rw[ae];rfl,by rw[ae];show l.length+1=_;omega⟩,by show(m - ((k+1:Nat):Int)).toNat < (m - (k:Int)).toNat;omega,?_,λkn kx=> ?_⟩
  ·simp only[aC.L0.add,aC.L0.F,e1,vN,bX,aD,dN]
   rw[show ∀a c:Nat,a+1+c=a+(c+1) from λa c=>by omega]
  ·rw[aC.L0.step,bg h,lA.run (d:=r) hr.1]
   simp only[ag,ab,bP,lA.F]
   rw[cU.run (d:=(uH r).2) h1.1.1]
   simp only[ab,bP,cU.F]
   rw[aY (aw _),fg (by omega) (by omega),N.p9 (by omega),dh]
   rfl
 ·right
  intro R kn kx
  have e1:(m - (k:Int)).toNat=0:=by omega
  rw[aC.L0.step,aX h,al]
  simp only[aC.L0.add,aC.L0.F,e1,vN,ij,bS,cF]
theorem aC.L1.ok:aC.L1.Ok:=by
 refine aC.L1.cM (λ(n,m1,m,i,u,L,L2,v,r,l,os)=>(m - i).toNat) ?_
 rintro⟨n,m1,m,i,u,L,L2,v,r,l,os⟩ ⟨hr,hm,k,rfl,hk,rfl,Fb⟩
 have hr:og r:=hr
 have hm:m<=64:=hm
 have Fb:os.length=k:=Fb
 by_cases h:(k:Int) < m
 ·have e1:(m - (k:Int)).toNat=(m - ((k+1:Nat):Int)).toNat+1:=by omega
  have h1:=nk hr
  have h2:=Eg h1.1.1
  have step:∀ {R:Type} (kn:AS->Option R) (kx:Exit->AS->Option R),aC.L1.R (n,m1,m,(k:Int),u,L,os.length,v,r,l,os) kn kx=aP (!(uc (uk (dH r).2).1).2) (kx (aC.L1.eG (0,())).1 (aC.L1.eG (0,())).2) (kn (aC.L1.st (n,m1,m,((k+1:Nat):Int),u,L,os.length+1,v,(BN r).2,l,os++ [(BN r).1]))):=by
   intro R kn kx
   rw[aC.L1.step,bg h,cU.run (d:=r) hr.1]
   simp only[ag,ab,bP,cU.F]
   rw[iO.run (d:=(dH r).2) h1.1.1.1]
   simp only[ab,bP,iO.F]
   rw[cS.run (d:=(uk (dH r).2).1) ⟨h2.2.1,h2.2.2⟩]
   simp only[ab,bP,cS.F]
   rw[aY (aw _),fg (by omega) (by omega),N.p9 (by omega),dh]
   rfl
  cases hp:(uc (uk (dH r).2).1).2
  ·right
   refine⟨aC.L1.eG (0,()),?_,λkn kx=> ?_⟩
   ·simp only[aC.L1.add,aC.L1.F,e1,ua,hp,cv,if_false]
    rfl
   ·rw[step,hp];rfl
  ·left
   refine⟨(n,m1,m,((k+1:Nat):Int),u,L,os.length+1,v,(BN r).2,l,os++ [(BN r).1]),⟨h2.1.1,hm,k+1,rfl,by omega,by rw[ae];rfl,by rw[ae];show os.length+1=_;omega⟩,by show(m - ((k+1:Nat):Int)).toNat < (m - (k:Int)).toNat;omega,?_,λkn kx=> ?_⟩
   ·simp only[aC.L1.add,aC.L1.F,e1,ua,hp,if_true]
    cases ua (m - ((k+1:Nat):Int)).toNat (BN r).2 with
    |none=>rfl
    |some x=>
     simp only[aB,aD,dN]
     rw[show ∀a c:Nat,a+1+c=a+(c+1) from λa c=>by omega]
   ·rw[step,hp];rfl
 ·right
  have e1:(m - (k:Int)).toNat=0:=by omega
  refine⟨aC.L1.gZ ((n,m1,u,L,v,l),(os.length,r,os)),?_,λkn kx=> ?_⟩
  ·simp only[aC.L1.add,aC.L1.F,e1,ua,bn,cF,bS]
   rfl
  ·rw[aC.L1.step,aX h,al]
theorem aC.L3.ok:(aC.mL 3 aC.L3):=by
 refine(aC.oH 3 aC.L3) (λ(n,m1,mo,io,m,i,u,L,L2,v,r,la,op,br,Ls,sc,lb,os,sg)=>(m - i).toNat) ?_
 rintro⟨n,m1,mo,io,m,i,u,L,L2,v,r,la,op,br,Ls,sc,lb,os,sg⟩ ⟨hr,hm,k,rfl,hk,rfl,Fb⟩
 have hr:og r:=hr
 have hm:m<=12:=hm
 have Fb:sg.length=k:=Fb
 by_cases h:(k:Int) < m
 ·left
  have e1:(m - (k:Int)).toNat=(m - ((k+1:Nat):Int)).toNat+1:=by omega
  have h1:=vG hr
  have h2:=vG h1.1
  refine⟨(n,m1,mo,io,m,((k+1:Nat):Int),u,L,L2,v,(Qo r).2,la,op,br,sg.length+1,sc,lb,os,sg++ [(Qo r).1]),⟨h2.1,hm,k+1,rfl,by omega,by rw[ae];rfl,by rw[ae];show sg.length+1=_;omega⟩,by show(m - ((k+1:Nat):Int)).toNat < (m - (k:Int)).toNat;omega,?_,λkn kx=> ?_⟩
  ·simp only[aC.L3.add,aC.L3.F,e1,tK,aD,dN]
  ·rw[aC.L3.step,bg h,aY (by omega),fR.run (d:=r) hr.1]
   simp only[ag,ab,bP,fR.F]
   rw[fR.run (d:=(ng r).2) h1.1.1]
   simp only[ab,bP,fR.F]
   rw[aY (aw _),fg (by omega) (by omega),N.p9 (by omega),dh]
   rfl
 ·right
  intro R kn kx
  have e1:(m - (k:Int)).toNat=0:=by omega
  rw[aC.L3.step,aX h,al]
  simp only[aC.L3.add,aC.L3.F,e1,tK,bS,aI,aw,and_self,decide_true,ag,gI]
theorem aC.L2.ok:aC.L2.Ok:=by
 refine aC.L2.cM (λ(n,m1,m,i,u,L,L2,v,r,l,os)=>l.length - i.toNat) ?_
 rintro⟨n,m1,m,i,u,L,L2,v,r,l,os⟩ ⟨hr,hl,k,rfl,hk,rfl,rfl,hg⟩
 have hr:og r:=hr
 have hl:l.length<=64:=hl
 have hk:k<=l.length:=hk
 by_cases h:k < l.length
 ·have n1:nth nc l k=l[k]:=dz (t:=nc) h
  have hd:l.drop k=l[k]::l.drop (k+1):=ax h
  have dr:l[k]=Od l[k].1:=hg _ (by rw[hd];exact aH)
  obtain⟨op,T7⟩:∃op,l[k].1=op:=⟨_,rfl⟩
  rw[T7]at dr
  have h1:=nk hr
  have h2:=J1 h1.1.1 12
  have h3:=J0 h1.1.1.1 (m:=12) (by decide)
  have hw:=J2 hr
  have hu:=vG hw.1
  have yk:(l.take k).length=k:=by rw[bQ];omega
  have step:∀ {R:Type} (kn:AS->Option R) (kx:Exit->AS->Option R),aC.L2.R (n,m1,(l.length:Int),(k:Int),u,l.length,L2,v,r,l,os) kn kx=aP (jx (wZ 12 (dH r).2).1 0) (kx (aC.L2.eG (0,())).1 (aC.L2.eG (0,())).2) (kn (aC.L2.st (n,m1,(l.length:Int),((k+1:Nat):Int),u,l.length,L2,v,(ng (pk r).2).2,l.take k++(op,((dH r).1,some (pk r).1,(ng (pk r).2).1,()),())::l.drop (k+1),os))):=by
   intro R kn kx
   rw[aC.L2.step,bg (by omega),bG (by omega) (by omega),cU.run (d:=r) hr.1]
   have ns:∀y:qU,nth nc (l.set k y) k=y:=λy=>Pd (t:=nc) h
   have nm:∀(y:qU) (b:List qU),nth nc (l.take k++y::b) k=y:=λy b=>Pc (t:=nc) yk
   simp only[ag,ab,bP,cU.F,aa,aI,cF,n1,dr,aY h,decide_true]
   rw[ju.run (d:=(12,(dH r).2)) h1.1.1.1]
   simp only[ag,ab,bP,ju.F]
   refine congrArg (λz=>aP _ _ z) ?_
   simp only[List.length_set,aY h,ag,Od,ns,Lt,Ks,Option.isNone_none]
   rw[aC.L3.run (d:=(n,m1,(l.length:Int),(k:Int),(wZ 12 (dH r).2).1,0,u,l.length,L2,v,(wZ 12 (dH r).2).2,l.take k,op,(dH r).1,0,(0,()),l.drop (k+1),os,[])) ⟨h2,h3.2,0,rfl,by decide,rfl,rfl⟩]
   simp only[ab,aC.L3.add,aC.L3.F,mw,aR]
   rw[show tK (wZ 12 (dH r).2).1.toNat (wZ 12 (dH r).2).2=pk r from rfl,fR.run (d:=(pk r).2) hw.1.1]
   simp only[ab,bP,fR.F,aa,nm,Ps yk,aY (show k < (l.take k++(op,((dH r).1,some (pk r).1,0,()),())::l.drop (k+1)).length by rw[ae,aB];omega),gb,Nat.reduceAdd,decide_true,ag]
   rw[N.p9 (by omega)]
  by_cases hp:(wZ 12 (dH r).2).1 < 0
  ·right
   refine⟨aC.L2.eG (0,()),?_,λkn kx=> ?_⟩
   ·simp only[aC.L2.add,aC.L2.F,aa,hd,bX,uh,I1,if_pos hp]
    rfl
   ·rw[step,bg hp,ag]
  ·left
   have H8:(l.take k++(op,((dH r).1,some (pk r).1,(ng (pk r).2).1,()),())::l.drop (k+1)).length=l.length:=by
    rw[ae,aB,dy];omega
   have U8:(l.take k++(op,((dH r).1,some (pk r).1,(ng (pk r).2).1,()),())::l.drop (k+1)).drop (k+1)=l.drop (k+1):=by
    rw[List.append_cons,jZ (by rw[ae];show(l.take k).length+1=_;omega)]
   have WK:(l.take k++(op,((dH r).1,some (pk r).1,(ng (pk r).2).1,()),())::l.drop (k+1)).take (k+1)=l.take k++ [(op,((dH r).1,some (pk r).1,(ng (pk r).2).1,()),())]:=by
    rw[List.append_cons,j2 (by rw[ae];show(l.take k).length+1=_;omega)]
   refine⟨(n,m1,(l.length:Int),((k+1:Nat):Int),u,l.length,L2,v,(ng (pk r).2).2,l.take k++(op,((dH r).1,some (pk r).1,(ng (pk r).2).1,()),())::l.drop (k+1),os),⟨hu.1,by rw[H8];exact hl,k+1,rfl,by rw[H8];omega,by rw[H8],by rw[H8],by rw[U8];exact λx hx=>hg x (by rw[hd];exact aF _ hx)⟩,by simp only[aa,H8];omega,?_,λkn kx=> ?_⟩
   ·simp only[aC.L2.add,aC.L2.F,aa,U8,WK,hd,bX,uh,I1,if_neg hp,T7]
    cases uh ((l.drop (k+1)).map (·.1)) (ng (pk r).2).2 with
    |none=>rfl
    |some x=>
     simp only[bX,aD,dN]
     rfl
   ·rw[step,aX hp,al]
 ·right
  obtain rfl:k=l.length:=by omega
  refine⟨aC.L2.gZ (n,m1,u,l.length,L2,v,r,l,os),?_,λkn kx=> ?_⟩
  ·simp only[aC.L2.add,aC.L2.F,aa,aZ,ij,uh,dh,bS]
   rfl
  ·rw[aC.L2.step,aX (by omega),al]
theorem O4(l:List cd):(l.map Od).map (·.1)=l:=by
 rw[List.map_map]
 have:((λx:qU=>x.1)∘Od)=id:=rfl
 rw[this,List.map_id]
theorem aC.ok:aC.Ok:=by
 rintro b ⟨hb,hl⟩
 have hb:Bytes b:=hb
 have hl:b.length<=1000000000:=hl
 have k0:=Po hb hl
 have k1:=J1 k0 64
 have u1:=J0 k0.1 (m:=64) (by decide)
 rw[aC.eq,ki.run (d:=b) hl]
 simp only[ab,bP,ki.F,bP,aC.F,BT]
 rw[ju.run (d:=(64,(b,false,()))) k0.1]
 simp only[ab,bP,ju.F]
 generalize wZ 64 (b,false,())=n at*
 have o2:=JN n.1.toNat k1
 rw[aC.L0.run (d:=(n.1,n.1,0,(0,()),0,(0,()),n.2,[])) ⟨k1,u1.2,0,rfl,by decide,rfl,rfl⟩]
 simp only[ab,aC.L0.add,aC.L0.F,mw,aR,aI]
 generalize vN n.1.toNat n.2=ops at*
 have k3:=J1 o2.1.1 64
 have u3:=J0 o2.1.1.1 (m:=64) (by decide)
 rw[ju.run (d:=(64,ops.2)) o2.1.1.1]
 simp only[ab,bP,ju.F]
 generalize wZ 64 ops.2=m at*
 rw[aC.L1.run (d:=(n.1,m.1,m.1,0,(0,()),n.1.toNat,0,(0,()),m.2,ops.1.map Od,[])) ⟨k3,u3.2,0,rfl,by decide,rfl,rfl⟩]
 simp only[ab,aC.L1.add,aC.L1.F,mw,aR,aI]
 cases hx:ua m.1.toNat m.2 with
 |none=>rfl
 |some x=>
  have o4:=GM _ k3 hx
  have o5:=nk o4.1.1
  have ol:(ops.1.map Od).length=n.1.toNat:=by rw[cK];exact o2.2.1
  simp only[fe,dX,al,ab]
  rw[cU.run (d:=x.2) o4.1.1.1]
  simp only[ab,bP,cU.F]
  rw[aC.L2.run (d:=(n.1,m.1,(n.1.toNat:Int),0,(0,()),n.1.toNat,x.1.length,((dH x.2).1,()),(dH x.2).2,ops.1.map Od,x.1)) ⟨o5.1.1,by rw[ol];omega,0,rfl,aK _,by rw[ol],by rw[ol],λz hz=>by
   rw[aJ]at hz
   obtain⟨o,_,rfl⟩:=eJ.1 hz
   rfl⟩]
  simp only[ab,aC.L2.add,aC.L2.F,bN,aJ,eF,aR,O4,M9]
  cases hy:uh ops.1 (dH x.2).2 with
  |none=>rfl
  |some y=>
   have o6:=Hl _ o5.1.1 hy
   have yl:y.1.length=n.1.toNat:=by rw[<-o2.2.1,<-o6.2.1,cK]
   have yl2:(y.1.map Vn).length=n.1.toNat:=by rw[cK];exact yl
   simp only[fe,dX,al,ab,Mt]
   by_cases c1:n.1 < 0
   ·rw[bg c1,ag,if_pos (Or.inl c1)];rfl
   rw[aX c1,al]
   by_cases c2:m.1 < 0
   ·rw[bg c2,ag,if_pos (Or.inr (Or.inl c2))];rfl
   rw[aX c2,al,na.run (d:=y.2) trivial]
   simp only[ab,na.add,na.F,Bool.not_not]
   cases c3:y.2.2.1
   ·rw[al,jD.run (d:=y.2) trivial]
    simp only[ab,jD.add,jD.F]
    by_cases c4:0 < y.2.1.length
    ·rw[eY (by omega),ag,if_pos (Or.inr (Or.inr (Or.inr (Or.inl c4))))];rfl
    ·rw[eC (by omega),al,aY ⟨by trivial,by omega⟩,aY ⟨by trivial,by omega⟩,gI yl2,gI rfl,QM,Sb]
     simp only[ag]
     rw[az.run (d:=(y.1,x.1,(dH x.2).1,())) ⟨λo ho=>(o4.2.2 o ho).2.2,by show y.1.length<=_;omega,by show x.1.length<=_;have:=o4.2.1;omega⟩]
     simp only[ab,bP,az.F]
     cases c5:jk (y.1,x.1,(dH x.2).1,())
     ·rw[if_pos (Or.inr (Or.inr (Or.inr (Or.inr (by trivial)))))];rfl
     ·rw[if_neg (by
       rintro(z | z | z | z | z)
       ·exact c1 z
       ·exact c2 z
       ·cases z
       ·exact c4 z
       ·cases z)]
      rfl
   ·rw[ag,if_pos (Or.inr (Or.inr (Or.inl (by trivial))))];rfl
theorem aC.run:aC.RS:=rE [.d tB] aC
def aC.sg:=aC.gG aC.ok 4 ⟨.iR aC.L0.ok,⟨.iR aC.L1.ok,⟨.iR aC.L2.ok,⟨.iR aC.L3.ok,trivial⟩⟩⟩⟩
theorem te{α:Type}{f:α->List Int}{l:List α}(h:∀x∈l,Bytes (f x)):Bytes (l.flatMap f):=λb hb=>by
 obtain⟨x,hx,hb⟩:=List.mem_flatMap.1 hb
 exact h x hx b hb
theorem uL{α:Type}{f:α->List Int}{n:Nat}:∀ {l:List α},(∀x∈l,(f x).length<=n)->(l.flatMap f).length<=n*l.length
 |[],_=>aK _
 |x::l,h=>by
  rw[dx,ae,aB,Nat.mul_add,jA]
  have h1:=h x aH
  have h2:=uL (l:=l) λy hy=>h y (aF _ hy)
  omega
theorem vF{t:eZ}(hv:rJ t):Bytes (Lx t)/\(Lx t).length<=1000000:=by
 cases jU:jk t
 ·unfold Lx
  rw[jU]
  exact⟨λx hx=>(by cases hx),aK _⟩
 obtain⟨⟨a1,a2,a3,a4⟩,b1,b2⟩:=kk jU
 have F7:∀x∈t.1,_:=λx hx=>tp (mg _ _ b1 x hx)
 rw[NT jU]
 have n0:∀ {n:Nat},n<=1000->ui (n:Int):=λh=>oE (by omega)
 have e1:∀x∈t.1,Bytes (IA x.1)/\(IA x.1).length<=43:=λx hx=>by
  have hi:=F7 x hx
  have hr:=lB x.1.2.1
  have hs:=(hv.2.1 x hx).1
  exact⟨gj hs.2 (j3 ⟨hi.1,by omega⟩),by unfold IA;rw[ae,hs.1];omega⟩
 have e2:∀o∈t.2.1,Bytes (sR o)/\(sR o).length<=1022:=λo ho=>by
  have hi:=(lk _ _ b2 o ho).1
  have hr:=lB o.1
  have F9:=lB (yP o.2.1).length
  have hl:=xz o.2.1
  exact⟨gj (j3 ⟨hi.1,by omega⟩) (gj (j3 (n0 hl)) (KQ _)),by unfold sR;rw[ae,ae];omega⟩
 have e3:∀x∈t.1,Bytes (sC x.2.1)/\(sC x.2.1).length<=300:=λx hx=>by
  have hi:=F7 x hx
  have hr:=lB x.2.1.1
  have F9:=lB x.2.1.2.1.length
  have hf:=uL (f:=LO) (n:=16) (l:=x.2.1.2.1) λs _=>by unfold LO;rw[ae,dB,dB];omega
  refine⟨gj (j3 ⟨hi.2.2.1,by omega⟩) (gj (j3 (n0 (by omega))) (gj (te λs _=>gj (sJ _) (sJ _)) (sJ _))),?_⟩
  unfold sC
  simp only[ae,dB]
  omega
 have f1:=uL (f:=λx:kC=>IA x.1) (n:=43) (l:=t.1) λx hx=>(e1 x hx).2
 have f2:=uL (f:=sR) (n:=1022) (l:=t.2.1) λx hx=>(e2 x hx).2
 have f3:=uL (f:=λx:kC=>sC x.2.1) (n:=300) (l:=t.1) λx hx=>(e3 x hx).2
 have r1:=lB t.1.length
 have r2:=lB t.2.1.length
 have r3:=lB t.2.2.1
 refine⟨gj (j3 (n0 (by omega))) (gj (te λx hx=>(e1 x hx).1) (gj (j3 (n0 (by omega))) (gj (te λx hx=>(e2 x hx).1) (gj (j3 ⟨a4,hv.2.2⟩) (te λx hx=>(e3 x hx).1))))),?_⟩
 unfold Vx
 simp only[ae]
 omega
section
variable {β:Type} {kt:Ty}
theorem z7(hc:kt.comp=true)(o o':kt.den)(v:β):∀l:List (kt.den×β),dG kt o (iT kt o' v l)=if kt.beq o o'=true then some v else dG kt o l
 |[]=>by rw[KZ,iN,sP]
 |p::l=>by
  rw[wJ]
  by_cases h:kt.beq o' p.1=true
  ·rw[if_pos h,iN,iN]
   have e:=beq_eq kt _ _ hc h
   by_cases h2:kt.beq o o'=true
   ·rw[if_pos h2,if_pos h2]
   ·rw[if_neg h2,if_neg h2,if_neg (by rw[<-e];exact h2)]
  ·rw[if_neg h,iN,iN,z7 hc o o' v l]
   by_cases h3:kt.beq o p.1=true
   ·rw[if_pos h3,if_pos h3,if_neg]
    intro h4
    apply h
    rw[<-beq_eq kt _ _ hc h4]
    exact h3
   ·rw[if_neg h3,if_neg h3]
theorem Jt(hc:kt.comp=true)(o o':kt.den):∀ {l:List (kt.den×β)},(l.map (·.1)).Nodup->dG kt o (kf kt o' l)=if kt.beq o o'=true then none else dG kt o l
 |[],_=>by rw[KY,sP];split <;> rfl
 |p::l,hn=>by
  rw[bX,dI]at hn
  rw[tx]
  by_cases h:kt.beq o' p.1=true
  ·rw[if_pos h,iN]
   have e:=beq_eq kt _ _ hc h
   by_cases h2:kt.beq o o'=true
   ·rw[if_pos h2]
    have e2:=beq_eq kt _ _ hc h2
    cases hg:dG kt o l with
    |none=>rfl
    |some v=>exact absurd (eJ.2 ⟨_,(kJ hc hn.2).1 hg,rfl⟩) (by rw[e2,e];exact hn.1)
   ·rw[if_neg h2,if_neg (by rw[<-e];exact h2)]
  ·rw[if_neg h,iN,iN,Jt hc o o' hn.2]
   by_cases h3:kt.beq o p.1=true
   ·rw[if_pos h3,if_pos h3,if_neg]
    intro h4
    apply h
    rw[<-beq_eq kt _ _ hc h4]
    exact h3
   ·rw[if_neg h3,if_neg h3]
theorem get_none(hc:kt.comp=true){o:kt.den}{l:List (kt.den×β)}(hn:(l.map (·.1)).Nodup):dG kt o l=none↔o ∉ l.map (·.1):=by
 constructor
 ·intro h hm
  obtain⟨p,hp,e⟩:=eJ.1 hm
  have e:p.1=o:=e
  have:=(kJ hc hn (x:=o) (v:=p.2)).2 (by rw[<-e];exact hp)
  rw[h]at this;cases this
 ·intro h
  cases hg:dG kt o l with
  |none=>rfl
  |some v=>exact absurd (eJ.2 ⟨_,(kJ hc hn).1 hg,rfl⟩) h
theorem v7{l:List (kt.den×β)}(hn:(l.map (·.1)).Nodup):l.Nodup:=by
 induction l with
 |nil=>exact ja
 |cons p l ih=>
  rw[bX,dI]at hn
  exact dI.2 ⟨λh=>hn.1 (eJ.2 ⟨p,h,rfl⟩),ih hn.2⟩
theorem GO(hc:kt.comp=true){l l':List (kt.den×β)}(hn:(l.map (·.1)).Nodup)(hn':(l'.map (·.1)).Nodup)(h:∀o,dG kt o l=dG kt o l'):l.Perm l':=by
 rw[List.perm_ext_iff_of_nodup (v7 hn) (v7 hn')]
 rintro⟨o,v⟩
 rw[<-kJ hc hn,<-kJ hc hn',h]
end
theorem yr(a b:cd):(Ty.beq b8 a b=true)↔a=b:=⟨beq_eq b8 a b rfl,λh=>by rw[h];exact beq_refl b8 b rfl⟩
abbrev At:=List (cd×dP)
abbrev mK(a:At):List cd:=a.map (·.1)
theorem Q3(o o':cd)(v:dP)(a:At):dG b8 o (iT b8 o' v a)=if o=o' then some v else dG b8 o a:=by
 rw[z7 jP]
 by_cases h:o=o'
 ·rw[if_pos ((yr _ _).2 h),if_pos h]
 ·rw[if_neg (λe=>h ((yr _ _).1 e)),if_neg h]
theorem OI(o o':cd){a:At}(hn:(mK a).Nodup):dG b8 o (kf b8 o' a)=if o=o' then none else dG b8 o a:=by
 rw[Jt jP _ _ hn]
 by_cases h:o=o'
 ·rw[if_pos ((yr _ _).2 h),if_pos h]
 ·rw[if_neg (λe=>h ((yr _ _).1 e)),if_neg h]
theorem AL{o:cd}{v:dP}{a:At}(hn:(mK a).Nodup):(mK (iT b8 o v a)).Nodup:=zt jP hn
theorem re{o:cd}{a:At}(hn:(mK a).Nodup):(mK (kf b8 o a)).Nodup:=uQ jP hn
theorem To{a a':At}(hn:(mK a).Nodup)(hn':(mK a').Nodup)(h:∀o,dG b8 o a=dG b8 o a'):a.Perm a':=GO jP hn hn' h
theorem IY{o:cd}{c:dP}{a:At}(hn:(mK a).Nodup)(hg:dG b8 o a=some c):a.Perm ((o,c)::kf b8 o a):=by
 refine To hn ?_ λx=> ?_
 ·show(o::mK (kf b8 o a)).Nodup
  refine dI.2 ⟨?_,re hn⟩
  have:=(get_none jP (re (o:=o) hn)).1 (by rw[OI o o hn,if_pos rfl])
  exact this
 ·rw[iN,OI x o hn]
  by_cases h:x=o
  ·subst h;rw[if_pos ((yr _ _).2 rfl),hg]
  ·rw[if_neg (λe=>h ((yr _ _).1 e)),if_neg h]
theorem yC(o:cd)(l:List cd)(a:At):sm (o::l) a=sm l (kf b8 o a):=rfl
theorem wy:∀(l:List cd) {a:At},(mK a).Nodup->(mK (sm l a)).Nodup
 |[],_,h=>h
 |o::l,a,h=>by rw[yC];exact wy l (re h)
theorem Js(x:cd):∀(l:List cd) {a:At},(mK a).Nodup->dG b8 x (sm l a)=if x∈l then none else dG b8 x a
 |[],a,_=>by rw[if_neg (by simp)];rfl
 |o::l,a,h=>by
  rw[yC,Js x l (re h),OI x o h]
  by_cases h1:x∈l
  ·rw[if_pos h1,if_pos (aF _ h1)]
  ·rw[if_neg h1]
   by_cases h2:x=o
   ·rw[if_pos h2,if_pos (by rw[h2];exact aH ..)]
   ·rw[if_neg h2,if_neg (by simp[h1,h2])]
theorem vf(h:Int)(o:cd)(l:List cd)(x:kO)(xs:List kO)(a:At):yp h (o::l) (x::xs) a=yp h l xs (iT b8 o (x,(h,())) a):=rfl
theorem Ap(h:Int):∀(l:List cd) (xs:List kO) {a:At},(mK a).Nodup->(mK (yp h l xs a)).Nodup
 |[],[],_,hn=>hn
 |[],_::_,_,hn=>hn
 |_::_,[],_,hn=>hn
 |o::l,x::xs,a,hn=>by rw[vf];exact Ap h l xs (AL hn)
theorem Jr(h:Int)(x:cd):∀(l:List cd) (xs:List kO) (a:At),x ∉ l->dG b8 x (yp h l xs a)=dG b8 x a
 |[],[],_,_=>rfl
 |[],_::_,_,_=>rfl
 |_::_,[],_,_=>rfl
 |o::l,y::xs,a,hx=>by
  rw[vf,Jr h x l xs _ (λe=>hx (aF _ e)),Q3,if_neg (λe=>hx (by rw[e];exact aH ..))]
theorem F1(h:Int):∀(l:List cd) (xs:List kO) (a:At),l.Nodup->∀(k:Nat) (hk:k < l.length) (N9:k < xs.length),dG b8 l[k] (yp h l xs a)=some (xs[k],(h,()))
 |[],_,_,_,k,hk,_=>by simp at hk
 |_::_,[],_,_,k,_,hk=>by simp at hk
 |o::l,y::xs,a,hn,k,hk,N9=>by
  rw[dI]at hn
  rw[vf]
  cases k with
  |zero=>
   show dG b8 o _=some (y,(h,()))
   rw[Jr h o l xs _ hn.1,Q3,if_pos rfl]
  |succ k=>
   simp only[List.getElem_cons_succ]
   exact F1 h l xs _ hn.2 k (by simpa using hk) (by simpa using N9)
def qm(a:At)(l:List cd):Int:=(l.map λo=>((dG b8 o a).getD Ho).1.1).sum
theorem FN:∀(l:List cd) {a:At},(mK a).Nodup->l.Nodup->(∀o∈l,(dG b8 o a).isSome=true)->kI (sm l a)=kI a - qm a l/\(sm l a).length+l.length=a.length
 |[],a,_,_,_=>by simp[sm,qm]
 |o::l,a,hn,hl,ht=>by
  rw[dI]at hl
  obtain⟨c,hc⟩:=bY.1 (ht o (aH ..))
  have hg:∀x∈l,dG b8 x (kf b8 o a)=dG b8 x a:=λx hx=>by
   rw[OI x o hn,if_neg (λe=>hl.1 (by rw[<-e];exact hx))]
  obtain⟨h1,h2⟩:=FN l (re (o:=o) hn) hl.2 λx hx=>by rw[hg x hx];exact ht x (aF _ hx)
  have hp:=IY hn hc
  have h3:=yq hp
  have h4:=hp.length_eq
  have h5:qm (kf b8 o a) l=qm a l:=by
   unfold qm
   congr 1
   exact gr λx hx=>by rw[hg x hx]
  rw[lE]at h3
  rw[aB]at h4
  rw[yC,h1,h5,aB]
  have h6:qm a (o::l)=c.1.1+qm a l:=by simp[qm,hc]
  rw[h6]
  exact⟨by have h3:kI a=c.1.1+kI (kf b8 o a):=h3;omega,by omega⟩
theorem GL(x:kO)(xs:List kO):mP (x::xs)=x.1+mP xs:=by simp[mP]
theorem Fk(h:Int):∀(l:List cd) (xs:List kO) {a:At},(mK a).Nodup->l.Nodup->l.length=xs.length->(∀o∈l,dG b8 o a=none)->kI (yp h l xs a)=kI a+mP xs/\(yp h l xs a).length=a.length+l.length
 |[],[],a,_,_,_,_=>by simp[yp,mP]
 |[],_::_,_,_,_,he,_=>by simp at he
 |_::_,[],_,_,_,he,_=>by simp at he
 |o::l,x::xs,a,hn,hl,he,ht=>by
  rw[dI]at hl
  have h0:=(get_none jP hn).1 (ht o (aH ..))
  have e:iT b8 o (x,(h,())) a=a++ [(o,(x,(h,())))]:=rY jP h0
  obtain⟨h1,h2⟩:=Fk h l xs (AL (o:=o) (v:=(x,(h,()))) hn) hl.2 (by simpa using he) λy hy=>by
   rw[Q3,if_neg (λe=>hl.1 (by rw[<-e];exact hy))];exact ht y (aF _ hy)
  rw[vf,h1,h2,e,Fo,GL,ae]
  simp only[kI,bX,ij,List.sum_cons,List.sum_nil,aB,bn]
  omega
theorem A3:∀(l:List kC) (m:List (cd×Bool)),um m l=true->(l.map (·.1)).Nodup/\∀x∈l,dG b8 x.1 m≠some true
 |[],_,_=>⟨ja,λ_ h=>by cases h⟩
 |x::l,m,h=>by
  rw[um,aj,aj]at h
  obtain⟨⟨h1,_⟩,h2⟩:=h
  obtain⟨h3,h4⟩:=A3 l _ h2
  have hs:∀y∈l,dG b8 y.1 (iT b8 x.1 true m)≠some true:=h4
  have fL:∀y∈l,y.1≠x.1:=λy hy e=>hs y hy (by rw[z7 jP,if_pos ((yr _ _).2 e)])
  refine⟨?_,λy hy=> ?_⟩
  ·rw[bX,dI]
   refine⟨λhm=> ?_,h3⟩
   obtain⟨y,hy,e⟩:=eJ.1 hm
   exact fL y hy e
  ·rcases cX.1 hy with rfl | hy
   ·intro e
    unfold zf at h1
    rw[e]at h1
    cases h1
   ·have:=hs y hy
    rw[z7 jP,if_neg (λe=>fL y hy ((yr _ _).1 e))]at this
    exact this
theorem E1(t:eZ):(dT t).Nodup:=by
 unfold dT
 split
 ·rename_i h
  exact(A3 _ _ (kk h).2.1).1
 ·exact ja
theorem Bf(t:eZ):(iq t).Nodup:=by
 unfold iq
 split
 ·unfold tZ
  refine List.Pairwise.map _ (λa b fL e=> ?_) (List.nodup_range' (s:=0) (n:=t.2.1.length) (step:=1))
  have:(a:Int)=b:=congrArg (λo:cd=>o.2.1) e
  exact fL (by omega)
 ·exact ja
theorem A1{h:Int}{id:List Int}{a:At}:∀(l:List kC) (f0 f:Int),rj h id a l f0= .inr f->(∀o∈l.map (·.1),(dG b8 o a).isSome=true)/\f=f0+qm a (l.map (·.1))
 |[],f0,f,e=>by simp only[rj,Sum.inr.injEq]at e;subst e;simp[qm]
 |x::l,f0,f,e=>by
  simp only[rj]at e
  cases hg:dG b8 x.1 a with
  |none=>rw[hg]at e;cases e
  |some c=>
   rw[hg]at e
   simp only at e
   split at e
   ·cases e
   ·obtain⟨h1,h2⟩:=A1 l _ _ e
    refine⟨λo ho=> ?_,?_⟩
    ·rw[bX]at ho
     rcases cX.1 ho with rfl | ho
     ·rw[hg];rfl
     ·exact h1 o ho
    ·rw[h2]
     simp only[qm,bX,List.sum_cons,hg,dW]
     omega
structure qb(t:eZ)(h:Int)(a:At)(lY:Int):Prop where
 ok:jk t=true
 h1:1<=h
 h2:h<=1048576
 ins:∃f,rj h (lW t) a t.1 0= .inr f/\lY=f - mP t.2.1
 there:∀o∈dT t,(dG b8 o a).isSome=true
 made:∀o∈iq t,dG b8 o a=none
 Tj:lY=qm a (dT t) - mP t.2.1
 pos:0<=lY
theorem Eh{t:eZ}{h:Int}{a:At}(e:(e7 t h a).2=0):qb t h a (e7 t h a).1:=by
 obtain⟨jU,h1,h2,f,hi,hm,hp,hc⟩:=yA e
 obtain⟨i1,i2⟩:=A1 _ _ _ hi
 have hs:dT t=t.1.map (·.1):=by unfold dT;rw[if_pos jU]
 rw[hc]
 refine⟨jU,h1,h2,⟨f,hi,rfl⟩,by rw[hs];exact i1,λo ho=> ?_,by rw[hs,i2];show 0+_ - _=_;omega,hp⟩
 have:=jl.1 hm o ho
 unfold pv at this
 cases hg:dG b8 o a with
 |none=>rfl
 |some c=>rw[hg]at this;simp at this
theorem HO{t:eZ}{h:Int}{a:At}(e:(e7 t h a).2≠0):(e7 t h a).1=0:=by
 unfold e7 at e ⊢
 split
 ·rename_i h0
  rw[if_pos h0]at e
  cases hi:rj h (lW t) a t.1 0 with
  |inl x=>rfl
  |inr f=>
   rw[hi]at e
   simp only at e ⊢
   split
   ·rfl
   ·rename_i h1
    rw[if_neg h1]at e
    split
    ·rfl
    ·rename_i h2
     rw[if_neg h2]at e
     exact absurd rfl e
 ·rfl
section
variable {t:eZ} {h lY:Int} {a:At}
theorem qb.UG(hc:qb t h a lY)(ha:(mK a).Nodup){o:cd}(ho:o∈dT t):dG b8 o (jV t h a)=none:=by
 have hm:o ∉ iq t:=λe=>by
  have:=hc.there o ho
  rw[hc.made o e]at this;cases this
 unfold jV
 rw[Jr h o _ _ _ hm,Js o _ ha,if_pos ho]
theorem qb.new(hc:qb t h a lY){k:Nat}(hk:k < (iq t).length)(N9:k < t.2.1.length):dG b8 (iq t)[k] (jV t h a)=some (t.2.1[k],(h,())):=by
 unfold jV
 exact F1 h _ _ _ (Bf t) k hk N9
theorem Ed(ha:(mK a).Nodup){o:cd}(h1:o ∉ dT t)(h2:o ∉ iq t):dG b8 o (jV t h a)=dG b8 o a:=by
 unfold jV
 rw[Jr h o _ _ _ h2,Js o _ ha,if_neg h1]
theorem xd(ha:(mK a).Nodup):(mK (jV t h a)).Nodup:=Ap h _ _ (wy _ ha)
theorem qb.sum(hc:qb t h a lY)(ha:(mK a).Nodup):kI (jV t h a)=kI a - lY/\(jV t h a).length+t.1.length=a.length+t.2.1.length:=by
 obtain⟨d1,d2⟩:=FN (dT t) ha (E1 t) hc.there
 obtain⟨e1,e2⟩:=Fk h (iq t) t.2.1 (wy (dT t) ha) (Bf t) (pb hc.ok) λo ho=>by
  rw[Js o _ ha];split
  ·rfl
  ·exact hc.made o ho
 have hf:=hc.Tj
 have hl:=A2 hc.ok
 have hm:=pb hc.ok
 unfold jV
 rw[e1,e2,d1]
 exact⟨by omega,by omega⟩
theorem qb.wF(hc:qb t h a lY)(ha:Fg a)(hv:rJ t):Fg (jV t h a):=by
 refine⟨xd ha.1,λp hp=> ?_⟩
 have hg:=(kJ jP (xd (t:=t) (h:=h) ha.1) (x:=p.1) (v:=p.2)).2 hp
 by_cases h2:p.1∈iq t
 ·obtain⟨k,hk,e⟩:=List.getElem_of_mem h2
  have N9:k < t.2.1.length:=by rw[<-pb hc.ok];exact hk
  rw[<-e,hc.new hk N9]at hg
  have hg:=(ba hg).symm
  have ho:=lk _ _ (kk hc.ok).2.2 _ (aL N9)
  have hu:=hv.1.1 _ (aL N9)
  have h1:=hc.h1
  have h3:=hc.h2
  refine⟨?_,?_⟩
  ·rw[<-e]
   have hm:iq t=tZ (lW t) 0 t.2.1.length:=by unfold iq;rw[if_pos hc.ok]
   simp only[hm,tZ,List.getElem_map]
   have:=(wX (t:=t))
   exact⟨this.1,λx hx=>this.2 x hx⟩
  ·rw[hg]
   exact⟨ho.2,hu.1,ho.1.1,ho.1.2,by show 0<=h;omega,h3⟩
 ·by_cases h1:p.1∈dT t
  ·rw[hc.UG ha.1 h1]at hg;cases hg
  ·rw[Ed ha.1 h1 h2]at hg
   exact ha.2 p ((kJ jP ha.1).1 hg)
end
end Go.Ab
namespace Go.Ab
open Go.Proofs
theorem Jf(k:Int):mq (fN k):=(GU _ _).u
def mT:List Int:=[152,45,158,62,185,150,245,89,230,51,244,209,148,222,243,118,29,144,159,90,59,100,125,26,133,31,234,214,124,50,201,209]
theorem s3:kK 3 mT=(2066670005889522986,1913675330412042729,()):=by decide+kernel
theorem s5:kK 5 mT=(1601457595092860225,1871270319440231866,()):=by decide+kernel
def keyOf(x:Int):Int:=1+x%2305843009213688668
theorem MY(x:Int):0 < keyOf x/\keyOf x < 2305843009213688669:=by unfold keyOf;omega
theorem MX{x:Int}(h:mq x):cG .u64 (1:Int) (kQ x (2305843009213688668:Int))=keyOf x:=by
 obtain⟨n,rfl⟩:∃n:Nat,x=n:=⟨x.toNat,by have:=h.1;omega⟩
 rw[show kQ (n:Int) (2305843009213688668:Int)=((n%2305843009213688668:Nat):Int) from N.Vt]
 show IntKind.u64.wrap _=_
 have e:IntKind.u64.wrap (1+((n%2305843009213688668:Nat):Int))=(1+((n%2305843009213688668:Nat):Int))%18446744073709551616:=rfl
 rw[e]
 unfold keyOf
 omega
theorem u0:mq 0:=⟨kS 0,by decide⟩
theorem Ih{x:Int}{l:List Int}(h:mq x)(hl:tQ l):tQ (x::l):=λp hp=>by
 rcases cX.1 hp with rfl | hp
 ·exact h
 ·exact hl p hp
theorem KN:tQ []:=λp hp=>by cases hp
theorem WJ:xt 0=true:=rfl
theorem Oq(ks:List Int)(a d:Int)(h:ks.length<=12):uj (ks,a,d,0,())=(ks.all sD && (xt a && xt d)):=by
 have e:uj (ks,a,d,0,())=(decide (ks.length<=12) && (ks.all sD && (xt a && (xt d && true)))):=rfl
 rw[e,aY h,ez,Bool.and_true]
def No(b:oV)(sg:List Sg)(s:Int)(m:List Int)(height age:Int):Int:=
 if height < b.2.1\/age < b.2.2.1 then 11
 else if b.2.2.2.1≠0/\fN s≠b.2.2.2.1 then 23
 else if sg.length≠b.1.length then 7
 else if qn m b.1 sg then 0 else 7
theorem Pf{l:Lk}{i:Nat}{b:oV}(jU:lN l=true)(hi:i < l.1.length)(hb:l.1[i]=b)(sg:List Sg)(s:Int)(m:List Int)(h a:Int):qu l ((i:Int),sg,s,()) m h a=No b sg s m h a:=by
 have n1:nth (.pair (.slice (.int .u64)) (.pair (.int .i64) (.pair (.int .i64) (.pair (.int .u64) .unit)))) l.1 i=l.1[i]:=dz (t:=(.pair (.slice (.int .u64)) (.pair (.int .i64) (.pair (.int .i64) (.pair (.int .u64) .unit))))) hi
 unfold qu
 rw[if_neg (by
  intro hh
  rcases hh with hh | hh | hh
  ·rw[jU]at hh;cases hh
  ·have hh:(i:Int) < 0:=hh
   omega
  ·have hh:(i:Int)>=l.1.length:=hh
   omega)]
 show(if h < (nth (.pair (.slice (.int .u64)) (.pair (.int .i64) (.pair (.int .i64) (.pair (.int .u64) .unit)))) l.1 i).2.1\/a < (nth (.pair (.slice (.int .u64)) (.pair (.int .i64) (.pair (.int .i64) (.pair (.int .u64) .unit)))) l.1 i).2.2.1 then 11 else if(nth (.pair (.slice (.int .u64)) (.pair (.int .i64) (.pair (.int .i64) (.pair (.int .u64) .unit)))) l.1 i).2.2.2.1≠0/\fN s≠(nth (.pair (.slice (.int .u64)) (.pair (.int .i64) (.pair (.int .i64) (.pair (.int .u64) .unit)))) l.1 i).2.2.2.1 then 23 else if sg.length≠(nth (.pair (.slice (.int .u64)) (.pair (.int .i64) (.pair (.int .i64) (.pair (.int .u64) .unit)))) l.1 i).1.length then 7 else if qn m (nth (.pair (.slice (.int .u64)) (.pair (.int .i64) (.pair (.int .i64) (.pair (.int .u64) .unit)))) l.1 i).1 sg then 0 else 7)=_
 rw[n1,hb]
 rfl
theorem Cp(m:List Int):∀ks:List Int,(∀k∈ks,0 < k/\k < 2305843009213688669)->qn m (ks.map fN) (ks.map λk=>kK k m)=true
 |[],_=>rfl
 |k::ks,h=>by
  have hk:=h k aH
  show(qY (fN k) m 1 (kK k m) && qn m (ks.map fN) (ks.map λk=>kK k m))=true
  rw[Pu k m hk.1 hk.2,Cp m ks λx hx=>h x (aF _ hx)]
  rfl
theorem EV(ks:List Int)(hk:∀k∈ks,0 < k/\k < 2305843009213688669)(af dl sc s:Int)(m:List Int)(h a:Int)(hs:sc=0\/fN s=sc):
  No (ks.map fN,af,dl,sc,()) (ks.map λk=>kK k m) s m h a=if h < af\/a < dl then 11 else 0:=by
 have e:No (ks.map fN,af,dl,sc,()) (ks.map λk=>kK k m) s m h a=if h < af\/a < dl then 11 else if sc≠0/\fN s≠sc then 23 else if(ks.map λk=>kK k m).length≠(ks.map fN).length then 7 else if qn m (ks.map fN) (ks.map λk=>kK k m) then 0 else 7:=rfl
 rw[e,Cp m ks hk,if_neg (c:=sc≠0/\fN s≠sc) (by rintro⟨h1,h2⟩;exact hs.elim h1 h2),if_neg (c:=(ks.map λk=>kK k m).length≠(ks.map fN).length) (by rw[cK,cK];exact λx=>x rfl)]
 rfl
theorem Uv{k:Int}(h:0 < k/\k < 2305843009213688669):∀x∈ [k],0 < x/\x < 2305843009213688669:=λx hx=>by rw[bI]at hx;subst hx;exact h
def z32:List Int:=List.replicate 32 0
def XA:Lk:=QA [fN 7]
def Yn:eZ:=([((z32,((0:Int),())),(((0:Int),(([]:List Sg),((0:Int),()))),()))],([((90:Int),(XA,()))],((0:Int),())))
def Xy:At:=[tV 0 ((100:Int),(XA,()))]
theorem WZ:¬lW Yn=z32:=by decide+kernel
theorem b7:mq (fN 7):=Jf 7
theorem n14(m:List Int)(hm:¬m=z32):dG b8 (m,((0:Int),())) Xy=none:=by
 unfold Xy tV
 rw[iN,if_neg,sP]
 intro e
 have:=(yr _ _).1 e
 exact hm (congrArg (λo:cd=>o.1) this)
theorem FO{o:cd}{c:dP}:sm [o] [(o,c)]=[]:=by
 show kf b8 o [(o,c)]=[]
 rw[tx]
 exact if_pos ((yr _ _).2 rfl)
theorem Kv{o:cd}{c:dP}{a:At}(hg:dG b8 o a=some c):tX a [o]=[(o,(c,()))]:=by
 simp only[tX,hg,dW]
structure sF(m n:Nat)(a:At)(s:List cn):Prop where
 wF:Fg a
 le:n<=s.length
 len:s.length<=m
 Vw:∀st∈s,Hx st
 sum:kI a<=1125899906842624
 U5:a.length<=256+64*m
theorem sF.mono{m m' n:Nat}{a:At}{s:List cn}(h:sF m n a s)(hm:m<=m'):sF m' n a s:=⟨h.wF,h.le,j6 h.len hm,h.Vw,h.sum,by have:=h.U5;omega⟩
theorem Fq{a:At}(h:∀p∈a,0<=p.2.1.1):0<=kI a:=by
 induction a with
 |nil=>exact kS 0
 |cons p a ih=>
  rw[lE]
  have:=h p aH
  have:=ih λq hq=>h q (aF _ hq)
  omega
theorem Fg.pos{a:At}(h:Fg a):0<=kI a:=Fq λp hp=>(h.2 p hp).2.2.2.1
theorem Dq:∀(l:List cd) (a:At),(tX a l).length=l.length
 |[],_=>rfl
 |o::l,a=>by rw[tX,aB,aB,Dq l]
theorem NN{t:eZ}{h lY:Int}{a:At}(hc:qb t h a lY):Hx (stepOf t a):=by
 have h1:=(kk hc.ok).1
 have h2:=pb hc.ok
 have h3:=A2 hc.ok
 unfold Hx stepOf
 rw[Dq]
 exact⟨by omega,by show(iq t).length<=1000;omega⟩
section
variable {m n:Nat} {t:eZ} {h:Int} {a:At} {s:List cn}
theorem sF.app(hg:sF m n a s)(hc:qb t h a (e7 t h a).1)(hv:rJ t):sF (m+1) (n+1) (jV t h a) (s.take n++ [stepOf t a]):=by
 have hl:=hg.le
 have hm:=hg.len
 have hs:=hc.sum hg.wF.1
 have hp:=hc.pos
 have h1:=(kk hc.ok).1
 have e:(s.take n).length=n:=by rw[bQ];omega
 refine⟨hc.wF hg.wF hv,by rw[ae,e];exact aw _,by rw[ae,e];show n+1<=_;omega,λst lZ=> ?_,?_,?_⟩
 ·rcases bt.1 lZ with lZ | lZ
  ·exact hg.Vw st (iZ lZ)
  ·rw[bI.1 lZ];exact NN hc
 ·have:=hg.sum;omega
 ·have:=hg.U5;omega
theorem sF.apply(hg:sF m n a s)(hm:m<=1000)(hv:rJ t):((e7 t h a).2≠0/\aN.call (t,h,n,a,s)=some (.inl ((e7 t h a).2,n,a,s)))\/
  (qb t h a (e7 t h a).1/\(e7 t h a).2=0/\aN.call (t,h,n,a,s)=some (.inr (0,n+1,jV t h a,s.take n++ [stepOf t a]))/\sF (m+1) (n+1) (jV t h a) (s.take n++ [stepOf t a])):=by
 have hr:=aN.run (d:=(t,h,n,a,s)) ⟨hv,hg.wF,hg.le,by have:=hg.len;show s.length<=_;omega⟩
 by_cases he:(e7 t h a).2=0
 ·right
  refine⟨Eh he,he,?_,hg.app (Eh he) hv⟩
  rw[hr]
  simp only[aN.add,aN.F,he,ne_eq,not_true_eq_false,if_false]
 ·left
  refine⟨he,?_⟩
  rw[hr]
  simp only[aN.add,aN.F,ne_eq,he,not_false_eq_true,if_true]
theorem sF.check(hg:sF m n a s)(hv:rJ t):aG.call (t,h,n,a,s)=some ((e7 t h a).1,(e7 t h a).2,n,a,s):=aG.run (d:=(t,h,n,a,s)) ⟨hv,hg.wF⟩
def VI(a:At):List cd:=zV (t:=b8) FH (mK a)
theorem sF.all(hg:sF m n a s)(hm:m<=1000):gz.call (n,a,s)=some (a.length,n,a,s,VI a):=gz.run (d:=(n,a,s)) ⟨by have:=hg.U5;show a.length<=_;omega,λp hp=>(hg.wF.2 p hp).1⟩
theorem sF.total(hg:sF m n a s):dV.call (n,a,s)=some (kI a,n,a,s):=dV.run (d:=(n,a,s)) ⟨λp hp=>(hg.wF.2 p hp).2.2.2.1,by have:=hg.sum;show kI a<=_;omega⟩
theorem sF.get(hg:sF m n a s)(o:cd):nN.call (o,n,a,s)=some ((n,a,s),((dG b8 o a).getD Ho,(dG b8 o a).isSome)):=nN.run (d:=(o,n,a,s)) hg.wF
theorem sF.copy(hg:sF m n a s)(hm:m<=1000):df.call (n,a,s)=some (n,a,s,(s.take n).length,iM a,s.take n):=df.run (d:=(n,a,s)) ⟨hg.le,by have:=hg.len;show s.length<=_;omega,hg.wF.1⟩
theorem Fg.perm{a':At}(h:Fg a)(hp:a.Perm a'):Fg a':=⟨(hp.map _).nodup_iff.1 h.1,λp hm=>h.2 p (hp.mem_iff.2 hm)⟩
theorem sF.canon(hg:sF m n a s):sF m n (iM a) (s.take n)/\(s.take n).length=n:=by
 have hp:=rS a
 have e:(s.take n).length=n:=by rw[bQ];have:=hg.le;omega
 exact⟨⟨hg.wF.perm hp.symm,by omega,by have:=hg.le;have:=hg.len;omega,λst lZ=>hg.Vw st (iZ lZ),by rw[yq hp];exact hg.sum,by rw[hp.length_eq];exact hg.U5⟩,e⟩
end
end Go.Ab
namespace Go.Ab
open Go.Proofs
def Hp(v o:cd):Bool:=Ty.beq b8 v o
def As(b:eN)(x:kC):Bool:=b.2.2.2.2.1.any (Hp x.1)
def Kb(b:eN)(t:eZ):Bool:=t.1.any (As b)
abbrev cm.L0.D:=(List cd)×cd×Int×Int
def cm.L0.st:cm.L0.D->AS:=λ(ky,S3,t7,t8)=>⟨([.d (.slice b8) ky,.undef,.undef,.eD b8 S3,.undef,.undef,.undef,.d ti t7,.d ti t8]++aT 10 []),[],(List.replicate 19 [])⟩
abbrev cm.L0.Y0:=Int
abbrev cm.L0.X0:=Int
def cm.L0.eG:cm.L0.X0->Exit×AS:=λx=>(.ret,⟨(aT 4 ([.d ti x]++aT 14 [])),[],(List.replicate 19 [])⟩)
abbrev cm.L0.Y1:=Unit
abbrev cm.L0.X1:=Unit
def cm.L0.gZ:cm.L0.X1->Exit×AS:=λx=>(.exit 0,⟨(aT 19 []),[],(List.replicate 19 [])⟩)
abbrev cm.L0.X:=(cm.L0.X0)⊕(cm.L0.X1)
abbrev cm.L0.Y:=(cm.L0.Y0)⊕(cm.L0.Y1)
def cm.L0.out:cm.L0.X->Out (Exit×AS):=λx=> .br x.isLeft (.get x.getLeft? λa=> .ok (cm.L0.eG a)) (.get x.getRight? λb=> .ok (cm.L0.gZ b))
def cm.L0.add:cm.L0.D->cm.L0.Y->cm.L0.X:=λ(ky,S3,t7,t8) y=>match y with | .inl y=> .inl y | .inr z=> .inr (z)
abbrev cm.D:=(List cd)×cd
abbrev cm.Y:=Int
def cm.L0.aM:cm.L0.D->Prop:=λ(l,v,n,i)=>l.length<=1000000000/\(True)/\n=l.length/\∃k:Nat,k<=l.length/\i=k
def cm.L0.F:cm.L0.D->cm.L0.Y:=λ(l,v,n,i)=>uJ (Hp v) (l.drop i.toNat) i
def cm.aM:cm.D->Prop:=λ(l,v)=>l.length<=1000000000/\(True)
def cm.F:cm.D->cm.Y:=λ(l,v)=>Gb (Hp v) l
def cm.L0.E:=eE.iR cm.L0.st cm.L0.aM cm.L0.add cm.L0.F cm.L0.out
def cm.L0.call:cm.L0.D->Option cm.L0.X:=j9 cm.L0.E cm.L0.st
def cm:Fs Tryz.prog cm.aM bP cm.F:=gC 181 Tryz.f181 (λ(sv,v)=>([.d (.slice b8) sv,.d b8 v],[])) (λx=>⟨.d ti x,[],[]⟩) [some (.slice b8),some b8] [] {loops:=pz [(2,{bo:=[0,3,7,8]})],outs:=py [(2,{},{bo:=[4]})],iX:=lkn [(2,cm.L0.E)]}
def cm.L0.R:= @gN Tryz.prog (oo cm.G) cm.an 0 Tryz.f181 0 _ cm.L0.st
abbrev cm.L0.Ok:=mS Tryz.prog (oo cm.G) cm.an 0 Tryz.f181 0 cm.L0.st cm.L0.aM cm.L0.add cm.L0.F cm.L0.out
theorem cm.L0.run:kF cm.L0.call cm.L0.aM cm.L0.add cm.L0.F:=oU (oR [.d (.slice b8),.d b8,.d ti,.d ti] λ_=>by kernel_rfl)
theorem cm.L0.cM:qa @cm.L0.R cm.L0.st cm.L0.aM cm.L0.add cm.L0.F cm.L0.out cm.L0.Ok:=qC
theorem cm.L0.step{R:Type}(ky:(List cd))(S3:cd)(t7:Int)(t8:Int)(kn:AS->Option R)(kx:Exit->AS->Option R):cm.L0.R (ky,S3,t7,t8) kn kx=
  aP ((jx t8 t7)) (
   aP (jn t8 (((List.length ky):Nat):Int)) (
   aP ((Ty.beq b8 S3 (nth b8 ky (Int.toNat t8)))) (
    kx (cm.L0.eG t8).1 (cm.L0.eG t8).2) (
    kn (cm.L0.st (ky,S3,t7,(cG .i64 t8 (1:Int)))))) none) (
   kx (cm.L0.gZ ()).1 (cm.L0.gZ ()).2):=by kernel_rfl
theorem cm.eq{R:Type}(sv v)(k:K1 R):cm.A (sv,v) k=
  ah (cm.L0.call (sv,v,(sv.length:Int),0)) λx1=>
  aP (x1.isLeft) (
   ah (x1.getLeft?) λa2=>
   k (cm.out a2)) (
   ah (x1.getRight?) λb3=>
   k (cm.out (-1))):=by kernel_rfl
theorem cm.L0.ok:cm.L0.Ok:=by
 refine cm.L0.cM (λ(l,v,n,i)=>l.length - i.toNat) ?_
 rintro⟨l,v,n,i⟩ ⟨hb,hv,rfl,k,hk,rfl⟩
 have hb:l.length<=1000000000:=hb
 have hk:k<=l.length:=hk
 by_cases h:k < l.length
 ·have n1:nth b8 l k=l[k]:=dz (t:=b8) h
  have hd:uJ (Hp v) (l.drop k) k=if Hp v l[k] then .inl (k:Int) else uJ (Hp v) (l.drop (k+1)) ((k+1:Nat):Int):=by rw[ax h];rfl
  have step:∀ {R:Type} (kn:AS->Option R) (kx:Exit->AS->Option R),cm.L0.R (l,v,(l.length:Int),(k:Int)) kn kx=aP (Hp v l[k]) (kx (cm.L0.eG (k:Int)).1 (cm.L0.eG (k:Int)).2) (kn (cm.L0.st (l,v,(l.length:Int),((k+1:Nat):Int)))):=by
   intro R kn kx
   rw[cm.L0.step,bg (by omega),bG (by omega) (by omega),aa,n1,N.p9 (by omega)]
   rfl
  cases hp:Hp v l[k]
  ·left
   refine⟨(l,v,l.length,((k+1:Nat):Int)),⟨hb,hv,rfl,k+1,by omega,rfl⟩,by simp only[aa];omega,?_,λkn kx=> ?_⟩
   ·simp only[cm.L0.add,cm.L0.F,aa,hd,hp,cv,if_false]
   ·rw[step,hp,al]
  ·right
   refine⟨cm.L0.eG (k:Int),?_,λkn kx=> ?_⟩
   ·simp only[cm.L0.add,cm.L0.F,aa,hd,hp,if_true]
    rfl
   ·rw[step,hp,ag]
 ·right
  obtain rfl:k=l.length:=by omega
  refine⟨cm.L0.gZ (),?_,λkn kx=> ?_⟩
  ·simp only[cm.L0.add,cm.L0.F,aa,aZ]
   rfl
  ·rw[cm.L0.step,aX (by omega),al]
theorem cm.ok:cm.Ok:=by
 rintro⟨l,v⟩ ⟨hb,hv⟩
 rw[cm.eq,cm.L0.run (d:=(l,v,l.length,0)) ⟨hb,hv,rfl,0,by omega,rfl⟩]
 simp only[ab,cm.L0.add,cm.L0.F,bN,aJ,bP,cm.F,Gb]
 cases uJ (Hp v) l 0 <;> rfl
theorem cm.run:cm.RS:=rE [.d (.slice b8),.d b8] cm
def cm.sg:=cm.gG cm.ok 1 ⟨.iR cm.L0.ok,trivial⟩
abbrev ku.D:=(List cd)×cd
abbrev ku.Y:=Bool
def ku.aM:ku.D->Prop:=λ(l,_)=>l.length<=1000000000
def ku.F:ku.D->ku.Y:=λ(l,v)=>l.any (Hp v)
def ku:Fs Tryz.prog ku.aM bP ku.F:=gC 125 Tryz.f125 (λ(sv,v)=>([.d (.slice b8) sv,.d b8 v],[])) (λx=>⟨.d .bool x,[],[]⟩) [some (.slice b8),some b8] [cm.sg]
theorem ku.eq{R:Type}(sv v)(k:K1 R):ku.A (sv,v) k=
 ah (cm.call (sv,v)) λx1=>
 k (ku.out (tY x1 0)):=by kernel_rfl
theorem ku.ok:ku.Ok:=by
 rintro⟨l,v⟩ hb
 rw[ku.eq,cm.run (d:=(l,v)) ⟨hb,trivial⟩]
 simp only[ab,bP,cm.F,AV]
 rfl
theorem ku.run:ku.RS:=rE [.d (.slice b8),.d b8] ku
def ku.sg:=ku.gG ku.ok
abbrev lQ.D:=kC×eN
abbrev lQ.Y:=Bool
def lQ.aM:lQ.D->Prop:=λ(_,b)=>b.2.2.2.2.1.length<=1000
def lQ.F:lQ.D->lQ.Y:=λ(x,b)=>As b x
def lQ:Fs Tryz.prog lQ.aM bP lQ.F:=gC 253 Tryz.f253 (λ(x,t1)=>([.d jo x,.eD fh t1],[])) (λx=>⟨.d .bool x,[],[]⟩) [some jo,none] [ku.sg]
theorem lQ.eq{R:Type}(x t1)(k:K1 R):lQ.A (x,t1) k=
 ah (ku.call (t1.2.2.2.2.1,x.1)) λx1=>
 k (lQ.out x1):=by kernel_rfl
theorem lQ.ok:lQ.Ok:=by
 rintro⟨x,b⟩ hb
 have hb:b.2.2.2.2.1.length<=1000:=hb
 rw[lQ.eq,ku.run (d:=(b.2.2.2.2.1,x.1)) (by show b.2.2.2.2.1.length<=_;omega)]
 rfl
theorem lQ.run:lQ.RS:=rE [.d jo,.d fh] lQ
def lQ.sg:=lQ.gG lQ.ok
abbrev ck.L0.D:=(List kC)×eN×Int×Int
def ck.L0.st:ck.L0.D->AS:=λ(ky,f,t7,t8)=>⟨([.d (.slice jo) ky,.fn 253 (.cons (.eD fh f) (.nil))]++aT 5 ([.d ti t7,.d ti t8]++aT 10 [])),[],(List.replicate 19 [])⟩
abbrev ck.L0.Y0:=Int
abbrev ck.L0.X0:=Int
def ck.L0.eG:ck.L0.X0->Exit×AS:=λx=>(.ret,⟨(aT 4 ([.d ti x]++aT 14 [])),[],(List.replicate 19 [])⟩)
abbrev ck.L0.Y1:=Unit
abbrev ck.L0.X1:=Unit
def ck.L0.gZ:ck.L0.X1->Exit×AS:=λx=>(.exit 0,⟨(aT 19 []),[],(List.replicate 19 [])⟩)
abbrev ck.L0.X:=(ck.L0.X0)⊕(ck.L0.X1)
abbrev ck.L0.Y:=(ck.L0.Y0)⊕(ck.L0.Y1)
def ck.L0.out:ck.L0.X->Out (Exit×AS):=λx=> .br x.isLeft (.get x.getLeft? λa=> .ok (ck.L0.eG a)) (.get x.getRight? λb=> .ok (ck.L0.gZ b))
def ck.L0.add:ck.L0.D->ck.L0.Y->ck.L0.X:=λ(ky,f,t7,t8) y=>match y with | .inl y=> .inl y | .inr z=> .inr (z)
abbrev ck.D:=(List kC)×eN
abbrev ck.Y:=Int
def ck.L0.aM:ck.L0.D->Prop:=λ(l,v,n,i)=>l.length<=1000000000/\(v.2.2.2.2.1.length<=1000)/\n=l.length/\∃k:Nat,k<=l.length/\i=k
def ck.L0.F:ck.L0.D->ck.L0.Y:=λ(l,v,n,i)=>uJ (As v) (l.drop i.toNat) i
def ck.aM:ck.D->Prop:=λ(l,v)=>l.length<=1000000000/\(v.2.2.2.2.1.length<=1000)
def ck.F:ck.D->ck.Y:=λ(l,v)=>Gb (As v) l
def ck.L0.E:=eE.iR ck.L0.st ck.L0.aM ck.L0.add ck.L0.F ck.L0.out
def ck.L0.call:ck.L0.D->Option ck.L0.X:=j9 ck.L0.E ck.L0.st
def ck:Fs Tryz.prog ck.aM bP ck.F:=gC 234 Tryz.f234 (λ(sv,fc)=>([.d (.slice jo) sv,.fn 253 (.cons (.eD fh fc) (.nil))],[])) (λx=>⟨.d ti x,[],[]⟩) [some (.slice jo),none] [lQ.sg] {loops:=pz [(2,{bo:=[0,1,7,8]})],outs:=py [(2,{},{bo:=[4]})],iX:=lkn [(2,ck.L0.E)]}
def ck.L0.R:= @gN Tryz.prog (oo ck.G) ck.an 0 Tryz.f234 0 _ ck.L0.st
abbrev ck.L0.Ok:=mS Tryz.prog (oo ck.G) ck.an 0 Tryz.f234 0 ck.L0.st ck.L0.aM ck.L0.add ck.L0.F ck.L0.out
theorem ck.L0.run:kF ck.L0.call ck.L0.aM ck.L0.add ck.L0.F:=oU (oR [.d (.slice jo),.d fh,.d ti,.d ti] λ_=>by kernel_rfl)
theorem ck.L0.cM:qa @ck.L0.R ck.L0.st ck.L0.aM ck.L0.add ck.L0.F ck.L0.out ck.L0.Ok:=qC
theorem ck.L0.step{R:Type}(ky:(List kC))(f:eN)(t7:Int)(t8:Int)(kn:AS->Option R)(kx:Exit->AS->Option R):ck.L0.R (ky,f,t7,t8) kn kx=
  aP ((jx t8 t7)) (
   aP (jn t8 (((List.length ky):Nat):Int)) (
   ah (lQ.call ((nth jo ky (Int.toNat t8)),f)) λx1=>
   aP (x1) (
    kx (ck.L0.eG t8).1 (ck.L0.eG t8).2) (
    kn (ck.L0.st (ky,f,t7,(cG .i64 t8 (1:Int)))))) none) (
   kx (ck.L0.gZ ()).1 (ck.L0.gZ ()).2):=by kernel_rfl
theorem ck.eq{R:Type}(sv fc)(k:K1 R):ck.A (sv,fc) k=
  ah (ck.L0.call (sv,fc,(sv.length:Int),0)) λx2=>
  aP (x2.isLeft) (
   ah (x2.getLeft?) λa3=>
   k (ck.out a3)) (
   ah (x2.getRight?) λb4=>
   k (ck.out (-1))):=by kernel_rfl
theorem ck.L0.ok:ck.L0.Ok:=by
 refine ck.L0.cM (λ(l,v,n,i)=>l.length - i.toNat) ?_
 rintro⟨l,v,n,i⟩ ⟨hb,hv,rfl,k,hk,rfl⟩
 have hb:l.length<=1000000000:=hb
 have hk:k<=l.length:=hk
 by_cases h:k < l.length
 ·have n1:nth jo l k=l[k]:=dz (t:=jo) h
  have hd:uJ (As v) (l.drop k) k=if As v l[k] then .inl (k:Int) else uJ (As v) (l.drop (k+1)) ((k+1:Nat):Int):=by rw[ax h];rfl
  have step:∀ {R:Type} (kn:AS->Option R) (kx:Exit->AS->Option R),ck.L0.R (l,v,(l.length:Int),(k:Int)) kn kx=aP (As v l[k]) (kx (ck.L0.eG (k:Int)).1 (ck.L0.eG (k:Int)).2) (kn (ck.L0.st (l,v,(l.length:Int),((k+1:Nat):Int)))):=by
   intro R kn kx
   rw[ck.L0.step,bg (by omega),bG (by omega) (by omega),aa,n1,lQ.run (d:=(l[k],v)) hv,N.p9 (by omega)]
   rfl
  cases hp:As v l[k]
  ·left
   refine⟨(l,v,l.length,((k+1:Nat):Int)),⟨hb,hv,rfl,k+1,by omega,rfl⟩,by simp only[aa];omega,?_,λkn kx=> ?_⟩
   ·simp only[ck.L0.add,ck.L0.F,aa,hd,hp,cv,if_false]
   ·rw[step,hp,al]
  ·right
   refine⟨ck.L0.eG (k:Int),?_,λkn kx=> ?_⟩
   ·simp only[ck.L0.add,ck.L0.F,aa,hd,hp,if_true]
    rfl
   ·rw[step,hp,ag]
 ·right
  obtain rfl:k=l.length:=by omega
  refine⟨ck.L0.gZ (),?_,λkn kx=> ?_⟩
  ·simp only[ck.L0.add,ck.L0.F,aa,aZ]
   rfl
  ·rw[ck.L0.step,aX (by omega),al]
theorem ck.ok:ck.Ok:=by
 rintro⟨l,v⟩ ⟨hb,hv⟩
 rw[ck.eq,ck.L0.run (d:=(l,v,l.length,0)) ⟨hb,hv,rfl,0,by omega,rfl⟩]
 simp only[ab,ck.L0.add,ck.L0.F,bN,aJ,bP,ck.F,Gb]
 cases uJ (As v) l 0 <;> rfl
theorem ck.run:ck.RS:=rE [.d (.slice jo),.d fh] ck
def ck.sg:=ck.gG ck.ok 1 ⟨.iR ck.L0.ok,trivial⟩
abbrev lT.D:=(List kC)×eN
abbrev lT.Y:=Bool
def lT.aM:lT.D->Prop:=λ(l,b)=>l.length<=1000000000/\b.2.2.2.2.1.length<=1000
def lT.F:lT.D->lT.Y:=λ(l,b)=>l.any (As b)
def lT:Fs Tryz.prog lT.aM bP lT.F:=gC 171 Tryz.f171 (λ(sv,fc)=>([.d (.slice jo) sv,.fn 253 (.cons (.eD fh fc) (.nil))],[])) (λx=>⟨.d .bool x,[],[]⟩) [some (.slice jo),none] [ck.sg]
theorem lT.eq{R:Type}(sv fc)(k:K1 R):lT.A (sv,fc) k=
 ah (ck.call (sv,fc)) λx1=>
 k (lT.out (tY x1 0)):=by kernel_rfl
theorem lT.ok:lT.Ok:=by
 rintro⟨l,v⟩ ⟨hb,hv⟩
 rw[lT.eq,ck.run (d:=(l,v)) ⟨hb,hv⟩]
 simp only[ab,bP,ck.F,AV]
 rfl
theorem lT.run:lT.RS:=rE [.d (.slice jo),.d fh] lT
def lT.sg:=lT.gG lT.ok
abbrev iL.D:=eZ×eN
abbrev iL.Y:=Bool
def iL.aM:iL.D->Prop:=λ(t,b)=>rJ t/\t.1.length<=1000000000/\b.2.2.2.2.1.length<=1000
def iL.F:iL.D->iL.Y:=λ(t,b)=>Kb b t
def iL:Fs Tryz.prog iL.aM bP iL.F:=gC 252 Tryz.f252 (λ(t,t1)=>([.d gU t,.eD fh t1],[])) (λx=>⟨.d .bool x,[],[]⟩) [some gU,none] [lT.sg]
theorem iL.eq{R:Type}(t t1)(k:K1 R):iL.A (t,t1) k=
 ah (lT.call (t.1,t1)) λx1=>
 k (iL.out x1):=by kernel_rfl
theorem iL.ok:iL.Ok:=by
 rintro⟨t,b⟩ ⟨_,hl,hb⟩
 rw[iL.eq,lT.run (d:=(t.1,b)) ⟨hl,hb⟩]
 rfl
theorem iL.run:iL.RS:=rE [.d gU,.d fh] iL
def iL.sg:=iL.gG iL.ok
abbrev bq.L0.D:=(List eZ)×Int×eN×Int×(List eZ)×Int×Int×Nat×(List (cd×dP))×(List cn)×Nat×(List (cd×dP))×(List cn)
def bq.L0.st:bq.L0.D->AS:=λ(yn,fD,endv,fees,t18,t19,t20,o0L,eQ,eA,Na,n17,Gw)=>⟨([.undef,.d (.slice gU) yn,.d ti fD,.fn 252 (.cons (.eD fh endv) (.nil))]++aT 5 ([.d ti fees,.undef,.ptr (.new 17 0) 0 [] 0]++aT 6 ([.d (.slice gU) t18,.d ti t19,.d ti t20]++aT 32 []))),[.obj 0 false (.pr (.db (.aV 1) 0) (.pr (.aS (.aV 2) 0 [] 0 0 o0L) (.d .unit ()))),.obj 0 false (.mp b8 eR eQ),.obj 0 false (.vec 161 cE eA)],(ct 17 ([[.obj 0 false (.pr (.db (.new 17 1) 0) (.pr (.aS (.new 17 2) 0 [] 0 0 Na) (.d .unit ()))),.obj 0 false (.mp b8 eR n17),.obj 0 false (.vec 161 cE Gw)]]++ct 35 []))⟩
abbrev bq.L0.Y0:=Int×Int×Int
abbrev bq.L0.X0:=(Nat×(List (cd×dP))×(List cn))×(Int×Int×Int)
def bq.L0.eG:bq.L0.X0->Exit×AS:=λx=>(.ret,⟨(aT 8 ([.d ti x.2.1,.d ti x.2.2.1,.d ti x.2.2.2]++aT 42 [])),[.obj 0 false (.pr (.db (.aV 1) 0) (.pr (.aS (.aV 2) 0 [] 0 0 x.1.1) (.d .unit ()))),.obj 0 false (.mp b8 eR x.1.2.1),.obj 0 false (.vec 161 cE x.1.2.2)],(List.replicate 53 [])⟩)
abbrev bq.L0.Y1:=Int
abbrev bq.L0.X1:=((List eZ)×Nat×(List (cd×dP))×(List cn))×(Int)
def bq.L0.gZ:bq.L0.X1->Exit×AS:=λx=>(.exit 0,⟨([.undef,.d (.slice gU) x.1.1]++aT 7 ([.d ti x.2]++aT 43 [])),[.obj 0 false (.pr (.db (.aV 1) 0) (.pr (.aS (.aV 2) 0 [] 0 0 x.1.2.1) (.d .unit ()))),.obj 0 false (.mp b8 eR x.1.2.2.1),.obj 0 false (.vec 161 cE x.1.2.2.2)],(List.replicate 53 [])⟩)
abbrev bq.L0.X:=(bq.L0.X0)⊕(bq.L0.X1)
abbrev bq.L0.Y:=(bq.L0.Y0)⊕(bq.L0.Y1)
def bq.L0.out:bq.L0.X->Out (Exit×AS):=λx=> .br x.isLeft (.get x.getLeft? λa=> .ok (bq.L0.eG a)) (.get x.getRight? λb=> .ok (bq.L0.gZ b))
def bq.L0.add:bq.L0.D->bq.L0.Y->bq.L0.X:=λ(yn,fD,endv,fees,t18,t19,t20,o0L,eQ,eA,Na,n17,Gw) y=>match y with | .inl y=> .inl ((o0L,eQ,eA),y) | .inr z=> .inr (((yn,o0L,eQ,eA),z))
abbrev bq.D:=(List eZ)×Int×eN×Nat×(List (cd×dP))×(List cn)
abbrev bq.Y:=Int×Int×Int×Nat×(List (cd×dP))×(List cn)
def wg(b:eN)(h:Int):List eZ->Int->Int->At->(Int×Int×Int)⊕Int
 |[],_,fees,_=> .inr fees
 |t::l,k,fees,a=>if Kb b t then .inl (k,fees,14) else if(e7 t h a).2≠0 then .inl (k,fees,(e7 t h a).2) else wg b h l (k+1) (fees+(e7 t h a).1) (jV t h a)
def L7(l:List eZ)(b:eN):Prop:=l.length<=100/\(∀t∈l,rJ t/\t.1.length<=1000000)/\b.2.2.2.2.1.length<=1000
def bq.L0.aM:bq.L0.D->Prop:=λ(_,_,b,fees,l,n',i,_,_,_,n,a,s)=>L7 l b/\n'=(l.length:Int)/\∃k:Nat,k<=l.length/\i=k/\sF (500+k) n a s/\0<=fees/\fees+kI a<=1125899906842624
def bq.L0.F:bq.L0.D->bq.L0.Y:=λ(_,h,b,fees,l,_,i,_,_,_,_,a,_)=>wg b h (l.drop i.toNat) i fees a
def Cq(b:eN)(h:Int)(l:List eZ)(a:At):Int×Int×Int:=match wg b h l 0 0 (iM a) with
 | .inl x=>x
 | .inr f=>((l.length:Int),f,0)
def bq.aM:bq.D->Prop:=λ(l,_,b,n,a,s)=>L7 l b/\sF 500 n a s
def bq.F:bq.D->bq.Y:=λ(l,h,b,n,a,s)=>((Cq b h l a).1,(Cq b h l a).2.1,(Cq b h l a).2.2,n,a,s)
def bq.L0.E:=eE.iR bq.L0.st bq.L0.aM bq.L0.add bq.L0.F bq.L0.out
def bq.L0.call:bq.L0.D->Option bq.L0.X:=j9 bq.L0.E bq.L0.st
def bq:Fs Tryz.prog bq.aM bP bq.F:=gC 254 Tryz.f254 (λ(l,height,endc,o0baL,o1,o2)=>([.ptr (.aV 0) 0 [] 0,.d (.slice gU) l,.d ti height,.fn 252 (.cons (.eD fh endc) (.nil))],[.obj 0 false (.pr (.db (.aV 1) 0) (.pr (.aS (.aV 2) 0 [] 0 0 o0baL) (.d .unit ()))),.obj 0 false (.mp b8 eR o1),.obj 0 false (.vec 161 cE o2)])) (λx=>⟨.cons (.d ti x.1) (.cons (.d ti x.2.1) (.cons (.d ti x.2.2.1) (.nil))),[.obj 0 false (.pr (.db (.aV 1) 0) (.pr (.aS (.aV 2) 0 [] 0 0 x.2.2.2.1) (.d .unit ()))),.obj 0 false (.mp b8 eR x.2.2.2.2.1),.obj 0 false (.vec 161 cE x.2.2.2.2.2)],[]⟩) [none,some (.slice gU),some ti,none] [df.sg,iL.sg,aG.sg,aN.sg] {loops:=pz [(3,{bo:=[1,2,3,9,11,18,19,20],sites:=[17],owns:=[⟨11,[.snd,.fst],17,68⟩]})],outs:=py [(3,{bo:=[1,9]},{bo:=[8,9,10]})],iX:=lkn [(3,bq.L0.E)]}
def bq.L0.R:= @gN Tryz.prog (oo bq.G) bq.an 0 Tryz.f254 0 _ bq.L0.st
abbrev bq.L0.Ok:=mS Tryz.prog (oo bq.G) bq.an 0 Tryz.f254 0 bq.L0.st bq.L0.aM bq.L0.add bq.L0.F bq.L0.out
theorem bq.L0.run:kF bq.L0.call bq.L0.aM bq.L0.add bq.L0.F:=oU (oR [.d (.slice gU),.d ti,.d fh,.d ti,.d (.slice gU),.d ti,.d ti,.n,.d (.slice (.pair b8 eR)),.d (.slice cE),.n,.d (.slice (.pair b8 eR)),.d (.slice cE)] λ_=>by kernel_rfl)
theorem bq.L0.cM:qa @bq.L0.R bq.L0.st bq.L0.aM bq.L0.add bq.L0.F bq.L0.out bq.L0.Ok:=qC
theorem bq.L0.step{R:Type}(yn:(List eZ))(fD:Int)(endv:eN)(fees:Int)(t18:(List eZ))(t19:Int)(t20:Int)(o0L:Nat)(eQ:(List (cd×dP)))(eA:(List cn))(Na:Nat)(n17:(List (cd×dP)))(Gw:(List cn))(kn:AS->Option R)(kx:Exit->AS->Option R):bq.L0.R (yn,fD,endv,fees,t18,t19,t20,o0L,eQ,eA,Na,n17,Gw) kn kx=
  aP ((jx t20 t19)) (
   aP (jn t20 (((List.length t18):Nat):Int)) (
   ah (iL.call ((nth gU t18 (Int.toNat t20)),endv)) λx1=>
   aP (x1) (
    kx (bq.L0.eG ((o0L,eQ,eA),(t20,fees,(14:Int)))).1 (bq.L0.eG ((o0L,eQ,eA),(t20,fees,(14:Int)))).2) (
    ah (aG.call ((nth gU t18 (Int.toNat t20)),fD,Na,n17,Gw)) λx2=>
    aP ((w8 x2.2.1 (0:Int))) (
     kx (bq.L0.eG ((o0L,eQ,eA),(t20,fees,x2.2.1))).1 (bq.L0.eG ((o0L,eQ,eA),(t20,fees,x2.2.1))).2) (
     ah (aN.call ((nth gU t18 (Int.toNat t20)),fD,x2.2.2.1,x2.2.2.2.1,x2.2.2.2.2)) λx3=>
     aP (x3.isLeft) (
      ah (x3.getLeft?) λVA=>
      kn (bq.L0.st (yn,fD,endv,(cG .i64 fees x2.1),t18,t19,(cG .i64 t20 (1:Int)),o0L,eQ,eA,VA.2.1,VA.2.2.1,VA.2.2.2))) (
      ah (x3.getRight?) λSn=>
      kn (bq.L0.st (yn,fD,endv,(cG .i64 fees x2.1),t18,t19,(cG .i64 t20 (1:Int)),o0L,eQ,eA,Sn.2.1,Sn.2.2.1,Sn.2.2.2)))))) none) (
   kx (bq.L0.gZ ((yn,o0L,eQ,eA),fees)).1 (bq.L0.gZ ((yn,o0L,eQ,eA),fees)).2):=by kernel_rfl
theorem bq.eq{R:Type}(l height endc o0baL o1 o2)(k:K1 R):bq.A (l,height,endc,o0baL,o1,o2) k=
  ah (df.call (o0baL,o1,o2)) λx1=>
  ah (bq.L0.call (l,height,endc,0,l,(l.length:Int),0,x1.1,x1.2.1,x1.2.2.1,x1.2.2.2.1,x1.2.2.2.2.1,x1.2.2.2.2.2)) λx8=>
  aP (x8.isLeft) (
   ah (x8.getLeft?) λa9=>
   k (bq.out (a9.2.1,a9.2.2.1,a9.2.2.2,a9.1.1,a9.1.2.1,a9.1.2.2))) (
   ah (x8.getRight?) λb10=>
   k (bq.out ((b10.1.1.length:Int),b10.2,0,b10.1.2.1,b10.1.2.2.1,b10.1.2.2.2))):=by kernel_rfl
theorem bq.L0.ok:bq.L0.Ok:=by
 refine bq.L0.cM (λ(_,_,_,_,l,_,i,_)=>l.length - i.toNat) ?_
 rintro⟨l0,h,b,fees,l,n',i,nS,a0,s0,n,a,s⟩ ⟨⟨h1,h2,h3⟩,rfl,k,hk,rfl,hg,f0,f1⟩
 have h1:l.length<=100:=h1
 have hk:k<=l.length:=hk
 have f0:0<=fees:=f0
 have f1:fees+kI a<=1125899906842624:=f1
 have hg:sF (500+k) n a s:=hg
 by_cases iv:k < l.length
 ·have n1:nth gU l k=l[k]:=dz (t:=gU) iv
  have hd:l.drop k=l[k]::l.drop (k+1):=ax iv
  obtain⟨hv,hi⟩:=h2 _ (aL iv)
  have Q6:=iL.run (d:=(l[k],b)) ⟨hv,j6 hi (by decide),h3⟩
  by_cases hb:Kb b l[k]=true
  ·right
   refine⟨bq.L0.eG ((nS,a0,s0),((k:Int),fees,14)),?_,λkn kx=> ?_⟩
   rotate_left
   ·rw[bq.L0.step,bg (by omega),ag,bG (by omega) (by omega),ag,aa,n1,Q6]
    simp only[ab,bP,iL.F,hb,ag]
   ·simp only[bq.L0.add,bq.L0.F,aa,hd,wg,if_pos hb]
    rfl
  ·have hb':Kb b l[k]=false:=by simpa using hb
   have hc:=hg.check (t:=l[k]) (h:=h) hv
   rcases hg.apply (t:=l[k]) (h:=h) (by omega) hv with⟨he,_⟩ | ⟨V7,he,ha,hg'⟩
   ·right
    refine⟨bq.L0.eG ((nS,a0,s0),((k:Int),fees,(e7 l[k] h a).2)),?_,λkn kx=> ?_⟩
    rotate_left
    ·rw[bq.L0.step,bg (by omega),ag,bG (by omega) (by omega),ag,aa,n1,Q6]
     simp only[ab,bP,iL.F,hb',al]
     rw[hc]
     simp only[ab]
     rw[iH he,ag]
    ·simp only[bq.L0.add,bq.L0.F,aa,hd,wg,if_neg hb,if_pos he]
     rfl
   ·left
    have cg:=(V7.sum hg.wF.1).1
    have YH:0<=(e7 l[k] h a).1:=by
     obtain⟨_,_,_,f,_,_,hp,V5⟩:=yA he
     rw[V5];exact hp
    have ot:=Fq λp hp=>(hg'.wF.2 p hp).2.2.2.1
    refine⟨(l0,h,b,fees+(e7 l[k] h a).1,l,(l.length:Int),((k+1:Nat):Int),nS,a0,s0,n+1,jV l[k] h a,s.take n++ [stepOf l[k] a]),⟨⟨h1,h2,h3⟩,rfl,k+1,by omega,rfl,hg',by show(0:Int)<=fees+(e7 l[k] h a).1;omega,by show fees+(e7 l[k] h a).1+kI (jV l[k] h a)<=_;omega⟩,by simp only[aa];omega,?_,λkn kx=> ?_⟩
    ·simp only[bq.L0.add,bq.L0.F,aa,hd,wg,if_neg hb,if_neg (λe=>e he:¬(e7 l[k] h a).2≠0)]
     rfl
    ·rw[bq.L0.step,bg (by omega),ag,bG (by omega) (by omega),ag,aa,n1,Q6]
     simp only[ab,bP,iL.F,hb',al]
     rw[hc]
     simp only[ab]
     rw[ff he,al,ha]
     simp only[ab,fe,al,dX]
     rw[fX (x:=fees) (by omega) (by omega),N.p9 (by omega)]
 ·right
  obtain rfl:k=l.length:=by omega
  refine⟨bq.L0.gZ ((l0,nS,a0,s0),fees),?_,λkn kx=> ?_⟩
  rotate_left
  ·rw[bq.L0.step,aX (by omega),al]
  ·simp only[bq.L0.add,bq.L0.F,aa,aZ,wg]
   rfl
theorem bq.ok:bq.Ok:=by
 rintro⟨l,h,b,n,a,s⟩ ⟨hw,hg⟩
 have hg:sF 500 n a s:=hg
 obtain⟨hc,hl⟩:=hg.canon
 have z1:((0:Int)).toNat=0:=rfl
 rw[bq.eq,hg.copy (by omega)]
 simp only[ab]
 rw[hl,bq.L0.run (d:=(l,h,b,0,l,(l.length:Int),0,n,a,s,n,iM a,s.take n)) ⟨hw,rfl,0,aK _,rfl,hc,kS 0,by show(0:Int)+kI (iM a)<=_;have:=hc.sum;omega⟩]
 simp only[ab,bq.L0.add,bq.L0.F,z1,aJ,bP,bq.F,Cq]
 cases wg b h l 0 0 (iM a) with
 |inl x=>rfl
 |inr f=>rfl
theorem bq.run:bq.RS:=rE [.d (.slice gU),.d ti,.d fh,.n,.d (.slice (.pair b8 eR)),.d (.slice cE)] bq
def bq.sg:=bq.gG bq.ok 1 ⟨.iR bq.L0.ok,trivial⟩
abbrev iA.D:=eN×Nat×(List (cd×dP))×(List cn)
abbrev iA.Y:=Int×Int×Nat×(List (cd×dP))×(List cn)
def r9(b:eN)(a:At):Int×Int:=if uD b.1 b.2.2.2.1 then(if 4000 < SB b then(0,3) else(Cq b b.1 b.2.2.1 a).2) else(0,1)
def Hv(b:eN):Prop:=I7 b/\b.2.2.1.length<=100/\∀t∈b.2.2.1,t.1.length<=1000000
theorem Hv.walk{b:eN}(h:Hv b):L7 b.2.2.1 b:=⟨h.2.1,λt ht=>⟨h.1.1.2 t ht,h.2.2 t ht⟩,h.1.2.2.1⟩
def iA.aM:iA.D->Prop:=λ(b,n,a,s)=>Hv b/\sF 500 n a s
def iA.F:iA.D->iA.Y:=λ(b,n,a,s)=>((r9 b a).1,(r9 b a).2,n,a,s)
def iA:Fs Tryz.prog iA.aM bP iA.F:=gC 204 Tryz.f204 (λ(b,o0baL,o1,o2)=>([.ptr (.aV 0) 0 [] 0,.d fh b],[.obj 0 false (.pr (.db (.aV 1) 0) (.pr (.aS (.aV 2) 0 [] 0 0 o0baL) (.d .unit ()))),.obj 0 false (.mp b8 eR o1),.obj 0 false (.vec 161 cE o2)])) (λx=>⟨.cons (.d ti x.1) (.cons (.d ti x.2.1) (.nil)),[.obj 0 false (.pr (.db (.aV 1) 0) (.pr (.aS (.aV 2) 0 [] 0 0 x.2.2.1) (.d .unit ()))),.obj 0 false (.mp b8 eR x.2.2.2.1),.obj 0 false (.vec 161 cE x.2.2.2.2)],[]⟩) [none,some fh] [il.sg,oN.sg,bq.sg]
theorem iA.eq{R:Type}(b o0baL o1 o2)(k:K1 R):iA.A (b,o0baL,o1,o2) k=
  ah (il.call (b.1,b.2.2.2.1)) λx1=>
  aP ((!x1)) (
   k (iA.out (0,1,o0baL,o1,o2))) (
   aP ((uK (b.2.2.1.length:Int) 200)) (
    k (iA.out (0,3,o0baL,o1,o2))) (
    ah (oN.call b) λx2=>
    aP ((uK x2 4000)) (
     k (iA.out (0,3,o0baL,o1,o2))) (
     ah (bq.call (b.2.2.1,b.1,b,o0baL,o1,o2)) λx3=>
     k (iA.out (x3.2.1,x3.2.2.1,x3.2.2.2.1,x3.2.2.2.2.1,x3.2.2.2.2.2))))):=by kernel_rfl
theorem iA.ok:iA.Ok:=by
 rintro⟨b,n,a,s⟩ ⟨hb,hg⟩
 have hb:Hv b:=hb
 have hl:b.2.2.1.length<=100:=hb.2.1
 rw[iA.eq,il.run (d:=(b.1,b.2.2.2.1)) trivial]
 simp only[ab,bP,il.F,bP,iA.F,r9]
 cases hf:uD b.1 b.2.2.2.1 with
 |false=>rfl
 |true=>
  have PV:=hf
  simp only[uD,decide_eq_true_eq]at PV
  rw[dj,al,eC (by omega),al,oN.run (d:=b) ⟨hb.1,PV.2.2.1,by show b.2.2.2.1<=_;omega⟩]
  simp only[ab,bP,oN.F,if_true]
  by_cases hw:4000 < SB b
  ·rw[eY (by omega),ag,if_pos hw]
  ·rw[eC (by omega),al,if_neg hw,bq.run (d:=(b.2.2.1,b.1,b,n,a,s)) ⟨hb.walk,hg⟩]
   rfl
theorem iA.run:iA.RS:=rE [.d fh,.n,.d (.slice (.pair b8 eR)),.d (.slice cE)] iA
def iA.sg:=iA.gG iA.ok
abbrev lq.D:=eN×Nat×(List (cd×dP))×(List cn)
abbrev lq.Y:=Int×Nat×(List (cd×dP))×(List cn)
def lq.aM:lq.D->Prop:=λ(b,n,a,s)=>Hv b/\sF 500 n a s
def lq.F:lq.D->lq.Y:=λ(b,n,a,s)=>((r9 b a).2,n,a,s)
def lq:Fs Tryz.prog lq.aM bP lq.F:=gC 147 Tryz.f147 (λ(b,o0baL,o1,o2)=>([.ptr (.aV 0) 0 [] 0,.d fh b],[.obj 0 false (.pr (.db (.aV 1) 0) (.pr (.aS (.aV 2) 0 [] 0 0 o0baL) (.d .unit ()))),.obj 0 false (.mp b8 eR o1),.obj 0 false (.vec 161 cE o2)])) (λx=>⟨.d ti x.1,[.obj 0 false (.pr (.db (.aV 1) 0) (.pr (.aS (.aV 2) 0 [] 0 0 x.2.1) (.d .unit ()))),.obj 0 false (.mp b8 eR x.2.2.1),.obj 0 false (.vec 161 cE x.2.2.2)],[]⟩) [none,some fh] [iA.sg]
theorem lq.eq{R:Type}(b o0baL o1 o2)(k:K1 R):lq.A (b,o0baL,o1,o2) k=
 ah (iA.call (b,o0baL,o1,o2)) λx1=>
 k (lq.out (x1.2.1,x1.2.2.1,x1.2.2.2.1,x1.2.2.2.2)):=by kernel_rfl
theorem lq.ok:lq.Ok:=by
 rintro⟨b,n,a,s⟩ h
 rw[lq.eq,iA.run (d:=(b,n,a,s)) h]
 rfl
theorem lq.run:lq.RS:=rE [.d fh,.n,.d (.slice (.pair b8 eR)),.d (.slice cE)] lq
def lq.sg:=lq.gG lq.ok
abbrev j8.D:=eN×Nat×(List (cd×dP))×(List cn)
abbrev j8.Y:=Int×Nat×(List (cd×dP))×(List cn)
abbrev LY:=Nat×At×List cn
def L9(h:Int)(S:LY)(t:eZ):LY:=if(e7 t h S.2.1).2≠0 then S else(S.1+1,jV t h S.2.1,S.2.2.take S.1++ [stepOf t S.2.1])
def HI(b:eN)(S:LY):LY:=b.2.2.1.foldl (L9 b.1) S
def j8.aM:j8.D->Prop:=λ(b,n,a,s)=>Hv b/\b.2.2.1.length<=1/\sF 400 n a s
def j8.F:j8.D->j8.Y:=λ(b,n,a,s)=>((r9 b a).2,if(r9 b a).2≠0 then(n,a,s) else HI b (n,a,s))
def j8:Fs Tryz.prog j8.aM bP j8.F:=gC 74 Tryz.f74 (λ(b,o0baL,o1,o2)=>([.ptr (.aV 0) 0 [] 0,.d fh b],[.obj 0 false (.pr (.db (.aV 1) 0) (.pr (.aS (.aV 2) 0 [] 0 0 o0baL) (.d .unit ()))),.obj 0 false (.mp b8 eR o1),.obj 0 false (.vec 161 cE o2)])) (λx=>⟨.d ti x.1,[.obj 0 false (.pr (.db (.aV 1) 0) (.pr (.aS (.aV 2) 1 [] 0 0 x.2.1) (.d .unit ()))),.obj 0 false (.mp b8 eR x.2.2.1),.obj 1 false (.vec 161 cE x.2.2.2)],[]⟩) [none,some fh] [lq.sg,aN.sg] {loops:=pz [(3,{bo:=[0,3,5,12,13,14],sites:=[7,10,25]})],outs:=py [(3,{bo:=[5],sites:=[7,10,25]},{bo:=[4],sites:=[7,10,25]})],SC:=[(2,1)]} 3
theorem j8.eq{R:Type}(b o0baL o1 o2)(k:K1 R):j8.A (b,o0baL,o1,o2) k=
  ah (lq.call (b,o0baL,o1,o2)) λx1=>
  aP ((jx 0 (b.2.2.1.length:Int))) (
   aP (jn 0 (b.2.2.1.length:Int)) (
   aP ((w8 x1.1 0)) (
    k (j8.out (x1.1,x1.2.1,x1.2.2.1,x1.2.2.2))) (
    ah (aN.call ((nth gU b.2.2.1 0),b.1,x1.2.1,x1.2.2.1,x1.2.2.2)) λx2=>
    aP (x2.isLeft) (
     ah (x2.getLeft?) λFf=>
     aP ((jx 1 (b.2.2.1.length:Int))) (
      aP (jn 1 (b.2.2.1.length:Int)) (
      none) none) (
      k (j8.out (x1.1,Ff.2.1,Ff.2.2.1,Ff.2.2.2)))) (
     ah (x2.getRight?) λI4=>
     aP ((jx 1 (b.2.2.1.length:Int))) (
      aP (jn 1 (b.2.2.1.length:Int)) (
      none) none) (
      k (j8.out (x1.1,I4.2.1,I4.2.2.1,I4.2.2.2)))))) none) (
   k (j8.out (x1.1,x1.2.1,x1.2.2.1,x1.2.2.2))):=by kernel_rfl
theorem j8.ok:j8.Ok:=by
 rintro⟨⟨bh,bp,l,bf,bar,u⟩,n,a,s⟩ ⟨hb,h1,hg⟩
 have hg:sF 400 n a s:=hg
 rw[j8.eq,lq.run (d:=((bh,bp,l,bf,bar,u),n,a,s)) ⟨hb,hg.mono (by decide)⟩]
 simp only[ab,bP,lq.F,bP,j8.F]
 obtain⟨e,he⟩:∃e,(r9 (bh,bp,l,bf,bar,u) a).2=e:=⟨_,rfl⟩
 rw[he]
 match l,hb,h1 with
 |[],hb,_=>
  rw[aX (by simp),al]
  by_cases h0:e≠0
  ·rw[if_pos h0]
  ·rw[if_neg h0];rfl
 |[t],hb,_=>
  have hv:rJ t:=hb.1.1.2 t (aH ..)
  have nt:nth gU [t] 0=t:=rfl
  rw[bg (by simp),ag,bG (by simp) (by simp),ag]
  by_cases h0:e=0
  ·rw[h0,ff rfl,al,nt,if_neg (λh=>h rfl)]
   rcases hg.apply (t:=t) (h:=bh) (by omega) hv with⟨hc,ha⟩ | ⟨_,hc,ha,_⟩
   ·rw[ha]
    simp only[ab,kH,ag,jH]
    rw[aX (by simp),al]
    simp only[HI,L9,bT,dR,if_pos hc]
   ·rw[ha]
    simp only[ab,fe,al,dX]
    rw[aX (by simp),al]
    simp only[HI,L9,bT,dR,if_neg (λh=>h hc:¬(e7 t bh a).2≠0)]
  ·rw[iH h0,ag,if_pos h0]
 |_::_::_,_,h1=>exact absurd h1 (by simp)
theorem j8.run:j8.RS:=rE [.d fh,.n,.d (.slice (.pair b8 eR)),.d (.slice cE)] j8
def j8.sg:=j8.gG j8.ok 1 ⟨.none (by kernel_rfl),trivial⟩
abbrev de.D:=Nat×Nat×(List (cd×dP))×(List cn)×(List eN)
abbrev de.Y:=Int
abbrev de.X:=(Nat×Nat×(List (cd×dP))×(List cn)×(List eN))×(Int)
def de.add:de.D->de.Y->de.X:=λ(o0baL,o1baL,o2,o3,o4) y=>((o0baL,o1baL,o2,o3,o4),y)
def de.aM:de.D->Prop:=λ_=>True
def de.F:de.D->de.Y:=λ(n,_)=>(n:Int)
def de:Fs Tryz.prog de.aM de.add de.F:=gC 58 Tryz.f58 (λ(o0baL,o1baL,o2,o3,o4)=>([.ptr (.aV 0) 0 [] 0],[.obj 0 false (.pr (.ptr (.aV 1) 0 [] 0) (.pr (.aS (.aV 4) 0 [] 0 0 o0baL) (.d .unit ()))),.obj 0 false (.pr (.db (.aV 2) 0) (.pr (.aS (.aV 3) 0 [] 0 0 o1baL) (.d .unit ()))),.obj 0 false (.mp b8 eR o2),.obj 0 false (.vec 161 cE o3),.obj 0 false (.vec 60 fh o4)])) (λx=>⟨.d ti x.2,[.obj 0 false (.pr (.ptr (.aV 1) 0 [] 0) (.pr (.aS (.aV 4) 0 [] 0 0 x.1.1) (.d .unit ()))),.obj 0 false (.pr (.db (.aV 2) 0) (.pr (.aS (.aV 3) 0 [] 0 0 x.1.2.1) (.d .unit ()))),.obj 0 false (.mp b8 eR x.1.2.2.1),.obj 0 false (.vec 161 cE x.1.2.2.2.1),.obj 0 false (.vec 60 fh x.1.2.2.2.2)],[]⟩) [none]
theorem de.eq{R:Type}(o0baL o1baL o2 o3 o4)(k:K1 R):de.A (o0baL,o1baL,o2,o3,o4) k=
 k (de.out ((o0baL,o1baL,o2,o3,o4),((o0baL:Nat):Int))):=by kernel_rfl
theorem de.ok:de.Ok:=by
 rintro⟨n,_⟩ _
 rw[de.eq]
 rfl
theorem de.run:de.RS:=rE [.n,.n,.d (.slice (.pair b8 eR)),.d (.slice cE),.d (.slice fh)] de
def de.sg:=de.gG de.ok
abbrev fC.D:=Nat×Nat×(List (cd×dP))×(List cn)×(List eN)
abbrev fC.Y:=Bs
abbrev fC.X:=(Nat×Nat×(List (cd×dP))×(List cn)×(List eN))×(Bs)
def fC.add:fC.D->fC.Y->fC.X:=λ(o0baL,o1baL,o2,o3,o4) y=>((o0baL,o1baL,o2,o3,o4),y)
def nZ(n:Nat)(bs:List eN):Bs:=if n=0 then List.replicate 32 0 else HH (nth fh bs (n - 1))
def fC.aM:fC.D->Prop:=λ(n,_,_,_,bs)=>y7 n bs
def fC.F:fC.D->fC.Y:=λ(n,_,_,_,bs)=>nZ n bs
def fC:Fs Tryz.prog fC.aM fC.add fC.F:=gC 21 Tryz.f21 (λ(o0baL,o1baL,o2,o3,o4)=>([.ptr (.aV 0) 0 [] 0],[.obj 0 false (.pr (.ptr (.aV 1) 0 [] 0) (.pr (.aS (.aV 4) 0 [] 0 0 o0baL) (.d .unit ()))),.obj 0 false (.pr (.db (.aV 2) 0) (.pr (.aS (.aV 3) 0 [] 0 0 o1baL) (.d .unit ()))),.obj 0 false (.mp b8 eR o2),.obj 0 false (.vec 161 cE o3),.obj 0 false (.vec 60 fh o4)])) (λx=>⟨.d tH x.2,[.obj 0 false (.pr (.ptr (.aV 1) 0 [] 0) (.pr (.aS (.aV 4) 0 [] 0 0 x.1.1) (.d .unit ()))),.obj 0 false (.pr (.db (.aV 2) 0) (.pr (.aS (.aV 3) 0 [] 0 0 x.1.2.1) (.d .unit ()))),.obj 0 false (.mp b8 eR x.1.2.2.1),.obj 0 false (.vec 161 cE x.1.2.2.2.1),.obj 0 false (.vec 60 fh x.1.2.2.2.2)],[]⟩) [none] [dF.sg]
theorem fC.eq{R:Type}(o0baL o1baL o2 o3 o4)(k:K1 R):fC.A (o0baL,o1baL,o2,o3,o4) k=
  aP ((w7 ((o0baL:Nat):Int) 0)) (
   k (fC.out ((o0baL,o1baL,o2,o3,o4),(List.replicate 32 0)))) (
   aP (jn (dJ .i64 ((o0baL:Nat):Int) 1) ((o0baL:Nat):Int)) (
   aP (decide ((0+(Int.toNat (dJ .i64 ((o0baL:Nat):Int) 1))) < (List.length o4))) (
   aP (decide ((((0+(Int.toNat (dJ .i64 ((o0baL:Nat):Int) 1)))*36)+0)=(0+((Int.toNat (dJ .i64 ((o0baL:Nat):Int) 1))*36)))) (
   ah (dF.call (nth fh o4 (0+(Int.toNat (dJ .i64 ((o0baL:Nat):Int) 1))))) λx1=>
   k (fC.out ((o0baL,o1baL,o2,o3,o4),x1))) none) none) none):=by kernel_rfl
theorem fC.ok:fC.Ok:=by
 rintro⟨n,m,a,s,bs⟩ ⟨h1,h2,h3⟩
 have h1:n<=bs.length:=h1
 have h2:n<=1000000:=h2
 rw[fC.eq]
 cases n with
 |zero=>
  rw[jf (show((0:Nat):Int)=0 from rfl),ag]
  rfl
 |succ k=>
  have e1:dJ .i64 (((k+1:Nat):Nat):Int) (1:Int)=(k:Int):=by rw[fP (by omega) (by omega)];omega
  have hk:k < bs.length:=by omega
  rw[lH (by omega),al,e1,bG (by omega) (by omega),ag]
  simp only[aa,aI,cF,aY hk,ag,decide_true]
  have n1:nth fh bs k=bs[k]:=dz (t:=fh) hk
  rw[n1,dF.run (d:=bs[k]) (h3 _ (aL hk))]
  simp only[ab,bP,dF.F,fC.F,nZ,kZ,n1,if_neg (Nat.succ_ne_zero k)]
  rfl
theorem fC.run:fC.RS:=rE [.n,.n,.d (.slice (.pair b8 eR)),.d (.slice cE),.d (.slice fh)] fC
def fC.sg:=fC.gG fC.ok
abbrev eo.D:=Nat×Nat×(List (cd×dP))×(List cn)×(List eN)
abbrev eo.Y:=Nat×(List (cd×dP))×(List cn)×Nat×(List (cd×dP))×(List cn)
abbrev eo.X:=(Nat×(List eN))×(Nat×(List (cd×dP))×(List cn)×Nat×(List (cd×dP))×(List cn))
def eo.add:eo.D->eo.Y->eo.X:=λ(o0baL,o1baL,o2,o3,o4) y=>((o0baL,o4),y)
def eo.aM:eo.D->Prop:=λ(_,n,a,s,_)=>sF 500 n a s
def eo.F:eo.D->eo.Y:=λ(_,n,a,s,_)=>(n,a,s,n,iM a,s.take n)
def eo:Fs Tryz.prog eo.aM eo.add eo.F:=gC 23 Tryz.f23 (λ(o0baL,o1baL,o2,o3,o4)=>([.ptr (.aV 0) 0 [] 0],[.obj 0 false (.pr (.ptr (.aV 1) 0 [] 0) (.pr (.aS (.aV 4) 0 [] 0 0 o0baL) (.d .unit ()))),.obj 0 false (.pr (.db (.aV 2) 0) (.pr (.aS (.aV 3) 0 [] 0 0 o1baL) (.d .unit ()))),.obj 0 false (.mp b8 eR o2),.obj 0 false (.vec 161 cE o3),.obj 0 false (.vec 60 fh o4)])) (λx=>⟨.ptr (.new 0 0) 0 [] 0,[.obj 0 false (.pr (.ptr (.aV 1) 0 [] 0) (.pr (.aS (.aV 4) 0 [] 0 0 x.1.1) (.d .unit ()))),.obj 0 false (.pr (.db (.aV 2) 0) (.pr (.aS (.aV 3) 0 [] 0 0 x.2.1) (.d .unit ()))),.obj 0 false (.mp b8 eR x.2.2.1),.obj 0 false (.vec 161 cE x.2.2.2.1),.obj 0 false (.vec 60 fh x.1.2)],[.obj 0 false (.pr (.db (.new 0 1) 0) (.pr (.aS (.new 0 2) 0 [] 0 0 x.2.2.2.2.1) (.d .unit ()))),.obj 0 false (.mp b8 eR x.2.2.2.2.2.1),.obj 0 false (.vec 161 cE x.2.2.2.2.2.2)]⟩) [none] [df.sg]
theorem eo.eq{R:Type}(o0baL o1baL o2 o3 o4)(k:K1 R):eo.A (o0baL,o1baL,o2,o3,o4) k=
 ah (df.call (o1baL,o2,o3)) λx1=>
 k (eo.out ((o0baL,o4),(x1.1,x1.2.1,x1.2.2.1,x1.2.2.2.1,x1.2.2.2.2.1,x1.2.2.2.2.2))):=by kernel_rfl
theorem eo.ok:eo.Ok:=by
 rintro⟨nb,n,a,s,bs⟩ hg
 have hg:sF 500 n a s:=hg
 rw[eo.eq,hg.copy (by omega),hg.canon.2]
 rfl
theorem eo.run:eo.RS:=rE [.n,.n,.d (.slice (.pair b8 eR)),.d (.slice cE),.d (.slice fh)] eo
def eo.sg:=eo.gG eo.ok
abbrev lX.D:=Nat×(List eN)
abbrev lX.Y:=Nat×(List eN)
abbrev lX.X:=((List eN))×(Nat×(List eN))
def lX.add:lX.D->lX.Y->lX.X:=λ(sL,o0) y=>(o0,y)
def lX.aM:lX.D->Prop:=λ(n,l)=>n<=l.length/\n<=1000000
def lX.F:lX.D->lX.Y:=λ(n,l)=>((l.take n).length,l.take n)
def lX:Fs Tryz.prog lX.aM lX.add lX.F:=gC 192 Tryz.f192 (λ(sL,o0)=>([.aS (.aV 0) 0 [] 0 0 sL],[.obj 0 false (.vec 60 fh o0)])) (λx=>⟨.aS (.new 0 0) 0 [] 0 0 x.2.1,[.obj 0 false (.vec 60 fh x.1)],[.obj 0 false (.vec 60 fh x.2.2)]⟩) [none] [] {bK:=[5],owns:=[⟨2,[],5,63⟩]}
theorem lX.eq{R:Type}(sL o0)(k:K1 R):lX.A (sL,o0) k=
  aP (decide (0 < sL)) (
   aP (decide (0=0/\(0+sL)<=(List.length o0))) (
   aP (dZ (0+(List.length (cut o0 0 sL))) 96) (
   k (lX.out (o0,((0+(List.length (cut o0 0 sL))),((List.take 0 (List.replicate 0 (0,((List.replicate 32 0),(([]:List eZ),(0,(([]:List cd),())))))))++(cut o0 0 sL)))))) none) none) (
   nd (
    k (lX.out (o0,(0,([]:List eN))))) (
    aP (decide (0=0/\(0+sL)<=(List.length o0))) (
    aP (dZ (0+(List.length (cut o0 0 sL))) 96) (
    k (lX.out (o0,((0+(List.length (cut o0 0 sL))),((List.take 0 (List.replicate 0 (0,((List.replicate 32 0),(([]:List eZ),(0,(([]:List cd),())))))))++(cut o0 0 sL)))))) none) none)):=by kernel_rfl
theorem lX.ok:lX.Ok:=by
 rintro⟨n,l⟩ ⟨h1,h2⟩
 have h1:n<=l.length:=h1
 have h2:n<=1000000:=h2
 have ec:cut l 0 n=l.take n:=by simp[cut]
 have ht:(l.take n).length<=1000000:=by rw[bQ];omega
 have hr:dZ (l.take n).length 96=true:=fg (by omega) (by omega)
 rw[lX.eq]
 simp only[aI,ec,hr,ag,eF,aR,true_and,aY h1,lX.add,lX.F]
 by_cases h:0 < n
 ·simp only[aY h,ag]
 ·have:n=0:=by omega
  subst this
  simp only[eF,bn,aK,decide_true,ag,qM,cH (gE 0),al]
theorem lX.run:lX.RS:=rE [.n,.d (.slice fh)] lX
def lX.sg:=lX.gG lX.ok
abbrev gF.D:=Nat×Nat×(List (cd×dP))×(List cn)×(List eN)
abbrev gF.Y:=Nat×(List (cd×dP))×(List cn)×(List eN)×Nat×Nat×(List (cd×dP))×(List cn)×(List eN)
abbrev gF.X:=(Nat)×(Nat×(List (cd×dP))×(List cn)×(List eN)×Nat×Nat×(List (cd×dP))×(List cn)×(List eN))
def gF.add:gF.D->gF.Y->gF.X:=λ(o0baL,o1baL,o2,o3,o4) y=>(o0baL,y)
def gF.aM:gF.D->Prop:=λ(nb,n,a,s,bs)=>sF 500 n a s/\y7 nb bs
def gF.F:gF.D->gF.Y:=λ(nb,n,a,s,bs)=>(n,a,s,bs,nb,n,iM a,s.take n,bs.take nb)
def gF:Fs Tryz.prog gF.aM gF.add gF.F:=gC 128 Tryz.f128 (λ(o0baL,o1baL,o2,o3,o4)=>([.ptr (.aV 0) 0 [] 0],[.obj 0 false (.pr (.ptr (.aV 1) 0 [] 0) (.pr (.aS (.aV 4) 0 [] 0 0 o0baL) (.d .unit ()))),.obj 0 false (.pr (.db (.aV 2) 0) (.pr (.aS (.aV 3) 0 [] 0 0 o1baL) (.d .unit ()))),.obj 0 false (.mp b8 eR o2),.obj 0 false (.vec 161 cE o3),.obj 0 false (.vec 60 fh o4)])) (λx=>⟨.ptr (.new 0 0) 0 [] 0,[.obj 0 false (.pr (.ptr (.aV 1) 0 [] 0) (.pr (.aS (.aV 4) 0 [] 0 0 x.1) (.d .unit ()))),.obj 0 false (.pr (.db (.aV 2) 0) (.pr (.aS (.aV 3) 0 [] 0 0 x.2.1) (.d .unit ()))),.obj 0 false (.mp b8 eR x.2.2.1),.obj 0 false (.vec 161 cE x.2.2.2.1),.obj 0 false (.vec 60 fh x.2.2.2.2.1)],[.obj 0 false (.pr (.ptr (.new 0 1) 0 [] 0) (.pr (.aS (.new 0 4) 0 [] 0 0 x.2.2.2.2.2.1) (.d .unit ()))),.obj 0 false (.pr (.db (.new 0 2) 0) (.pr (.aS (.new 0 3) 0 [] 0 0 x.2.2.2.2.2.2.1) (.d .unit ()))),.obj 0 false (.mp b8 eR x.2.2.2.2.2.2.2.1),.obj 0 false (.vec 161 cE x.2.2.2.2.2.2.2.2.1),.obj 0 false (.vec 60 fh x.2.2.2.2.2.2.2.2.2)]⟩) [none] [df.sg,lX.sg] {bK:=[14]}
theorem gF.eq{R:Type}(o0baL o1baL o2 o3 o4)(k:K1 R):gF.A (o0baL,o1baL,o2,o3,o4) k=
 ah (df.call (o1baL,o2,o3)) λx1=>
 ah (lX.call (o0baL,o4)) λx2=>
 k (gF.out (o0baL,(x1.1,x1.2.1,x1.2.2.1,x2.1,x2.2.1,x1.2.2.2.1,x1.2.2.2.2.1,x1.2.2.2.2.2,x2.2.2))):=by kernel_rfl
theorem gF.ok:gF.Ok:=by
 rintro⟨nb,n,a,s,bs⟩ ⟨hg,hc⟩
 have hg:sF 500 n a s:=hg
 obtain⟨h1,h2,_⟩:=hc
 have h1:nb<=bs.length:=h1
 rw[gF.eq,hg.copy (by omega),hg.canon.2]
 simp only[ab]
 have e:(bs.take nb).length=nb:=by rw[bQ];omega
 rw[lX.run (d:=(nb,bs)) ⟨h1,h2⟩]
 simp only[ab,lX.add,lX.F,e]
 rfl
theorem gF.run:gF.RS:=rE [.n,.n,.d (.slice (.pair b8 eR)),.d (.slice cE),.d (.slice fh)] gF
def gF.sg:=gF.gG gF.ok
abbrev oQ.D:=(List cd)
abbrev oQ.Y:=(List cd)
def oQ.aM:oQ.D->Prop:=λl=>l.length<=1000000
def oQ.F:oQ.D->oQ.Y:=λl=>l
def oQ:Fs Tryz.prog oQ.aM bP oQ.F:=gC 148 Tryz.f148 (λsv=>([.d (.slice b8) sv],[])) (λx=>⟨.d (.slice b8) x,[],[]⟩) [some (.slice b8)] [] {bK:=[5],res:=[some (.slice b8)]}
theorem oQ.eq{R:Type}(sv)(k:K1 R):oQ.A sv k=
  aP (decide (0 < (List.length sv))) (
   aP (dZ (0+(List.length sv)) 40) (
   aP (decide (0=0/\(0+(0+(List.length sv)))<=(List.length ((List.take 0 (List.replicate 0 ((List.replicate 32 0),(0,()))))++sv)))) (
   k (oQ.out (cut ((List.take 0 (List.replicate 0 ((List.replicate 32 0),(0,()))))++sv) 0 (0+(List.length sv))))) none) none) (
   nd (
    k (oQ.out ([]:List cd))) (
    aP (dZ (0+(List.length sv)) 40) (
    aP (decide (0=0/\(0+(0+(List.length sv)))<=(List.length ((List.take 0 (List.replicate 0 ((List.replicate 32 0),(0,()))))++sv)))) (
    k (oQ.out (cut ((List.take 0 (List.replicate 0 ((List.replicate 32 0),(0,()))))++sv) 0 (0+(List.length sv))))) none) none)):=by kernel_rfl
theorem oQ.ok:oQ.Ok:=by
 intro l hl
 have hl:l.length<=1000000:=hl
 have hr:dZ l.length 40=true:=fg (by omega) (by omega)
 rw[oQ.eq]
 simp only[aI,hr,ag,eF,aR,aw,and_self,decide_true,gI,bP,oQ.F]
 by_cases h:0 < l.length
 ·simp only[aY h,ag]
 ·have:l=[]:=bF (by omega)
  subst this
  simp only[bn,qM,cH (gE 0),al]
theorem oQ.run:oQ.RS:=rE [.d (.slice b8)] oQ
def oQ.sg:=oQ.gG oQ.ok
abbrev dU.L0.D:=Nat×(List eZ)×Int×Int×eN×Int×Bs×Int×(List eZ)
abbrev dU.L0.Y:=Nat×(List eZ)
abbrev dU.L0.X:=(eN×Int×Bs×Int)×(Nat×(List eZ))
def dU.L0.add:dU.L0.D->dU.L0.Y->dU.L0.X:=λ(txsL,t9,t10,t11,n1,n2,lz,nK,n24) y=>((n1,n2,lz,nK),y)
abbrev dU.D:=eN
abbrev dU.Y:=eN
def JS(t:eZ):eZ:=(BT (Lx t)).1
def Lc(b:eN):eN:=(b.1,(b.2.1,(b.2.2.1.map JS,(b.2.2.2.1,(b.2.2.2.2.1,())))))
theorem RV{t:eZ}(hv:rJ t)(jU:jk t=true):JS t=t:=by unfold JS;rw[IK hv jU]
theorem Pk{b:eN}(hv:I7 b)(jU:∀t∈b.2.2.1,jk t=true):Lc b=b:=by
 unfold Lc
 rw[show b.2.2.1.map JS=b.2.2.1 from(gr λt ht=>RV (hv.1.2 t ht) (jU t ht)).trans (List.map_id _)]
def dU.L0.aM:dU.L0.D->Prop:=λ(L,l,n,i,b1,b2,b3,b4,row)=>(l).length<=1000000/\∃k:Nat,k<=(l).length/\i=k/\n=(l).length/\L=(row).length/\(row).length<=1000000+k/\(∀t∈l,rJ t)
def dU.L0.F:dU.L0.D->dU.L0.Y:=λ(L,l,n,i,b1,b2,b3,b4,row)=>(L+(List.drop (Int.toNat i) l).length,row++(List.drop (Int.toNat i) l).map JS)
def dU.aM:dU.D->Prop:=λb=>I7 b
def dU.F:dU.D->dU.Y:=λb=>Lc b
def dU.L0:Ls dU.L0.aM dU.L0.add dU.L0.F:=rX (λ(txsL,t9,t10,t11,n1,n2,lz,nK,n24)=>⟨([.undef,.ptr (.new 1 0) 0 [] 0,.ptr (.new 2 0) 0 [] 0,.aS (.new 24 0) 0 [] 0 0 txsL]++aT 5 ([.d (.slice gU) t9,.d ti t10,.d ti t11]++aT 21 [])),[],([[],[.obj 0 false (.d fh n1)],[.obj 0 false (.pr (.d ti n2) (.pr (.d tH lz) (.pr (.di) (.pr (.d ti nK) (.pr (.di) (.d .unit ()))))))]]++ct 21 ([[.obj 0 false (.vec 40 gU n24)]]++ct 8 []))⟩) (λx=>(.exit 0,⟨([.undef,.ptr (.new 1 0) 0 [] 0,.ptr (.new 2 0) 0 [] 0,.aS (.new 24 0) 0 [] 0 0 x.2.1]++aT 29 []),[],([[],[.obj 0 false (.d fh x.1.1)],[.obj 0 false (.pr (.d ti x.1.2.1) (.pr (.d tH x.1.2.2.1) (.pr (.di) (.pr (.d ti x.1.2.2.2) (.pr (.di) (.d .unit ()))))))]]++ct 21 ([[.obj 0 false (.vec 40 gU x.2.2)]]++ct 8 []))⟩))
def dU:Fs Tryz.prog dU.aM bP dU.F:=gC 75 Tryz.f75 (λb=>([.d fh b],[])) (λx=>⟨.d fh x,[],[]⟩) [some fh] [bV.sg,aC.sg,oQ.sg] {bK:=[1],loops:=pz [(3,{bo:=[1,2,3,9,10,11],sites:=[1,2,24],owns:=[⟨3,[],24,57⟩]})],outs:=py [(3,{bo:=[1,2,3],sites:=[1,2,24]},{bo:=[2]})],iX:=lkn [(3,dU.L0.E)],res:=[some fh]}
theorem dU.L0.run:dU.L0.RS:=rL [.n,.d (.slice gU),.d ti,.d ti,.d fh,.d ti,.d tB,.d ti,.d (.slice gU)] dU.L0
theorem dU.L0.step{R:Type}(txsL t9 t10 t11 n1 n2 lz nK n24)(kn:K2 R)(kx:K3 R):dU.R 0 dU.L0 (txsL,t9,t10,t11,n1,n2,lz,nK,n24) kn kx=
  aP ((jx t11 t10)) (
   aP (jn t11 (t9.length:Int)) (
   ah (bV.call (nth gU t9 (Int.toNat t11))) λx1=>
   ah (aC.call x1) λx2=>
   aP (decide (txsL<=(List.length n24))) (
   aP (dZ (txsL+1) 56) (
   kn (dU.L0.st ((txsL+1),t9,t10,(cG .i64 t11 1),n1,n2,lz,nK,((List.take txsL n24)++ [x2.1])))) none) none) none) (
   dU.L0.go kx ((n1,n2,lz,nK),(txsL,n24))):=by kernel_rfl
theorem dU.eq{R:Type}(b)(k:K1 R):dU.A b k=
 ah (dU.L0.call (0,b.2.2.1,(b.2.2.1.length:Int),0,b,0,(List.replicate 32 0),0,([]:List eZ))) λx5=>
 ah (oQ.call x5.1.1.2.2.2.2.1) λx6=>
 aP (decide (0=0/\(0+x5.2.1)<=(List.length x5.2.2))) (
 k (dU.out (x5.1.1.1,(x5.1.1.2.1,((cut x5.2.2 0 x5.2.1),(x5.1.1.2.2.2.1,(x6,x5.1.1.2.2.2.2.2))))))) none:=by kernel_rfl
theorem dU.L0.ok:(dU.mL 0 dU.L0):=by
 refine(dU.oH 0 dU.L0) (λ(L,l,n,i,b1,b2,b3,b4,row)=>(l).length - Int.toNat i) ?_
 rintro⟨L,l,n,i,b1,b2,b3,b4,row⟩ ⟨hlen,k,hk,rfl,rfl,rfl,nC,hx⟩
 have hlen:(l).length<=1000000:=hlen
 have hk:k<=(l).length:=hk
 have nC:(row).length<=1000000+k:=nC
 have hx:∀t∈l,rJ t:=hx
 by_cases h:k < (l).length
 ·left
  have n1:nth gU l k=l[k]:=dz (t:=gU) h
  have hd:List.drop k l=l[k]::List.drop (k+1) l:=ax h
  refine⟨((row).length+1,l,((l).length:Int),((k+1:Nat):Int),b1,b2,b3,b4,row++ [JS l[k]]),⟨hlen,k+1,by omega,rfl,rfl,by rw[ae];rfl,by rw[ae];show(row).length+1<=_;omega,hx⟩,by simp only[aa];omega,?_,λkn kx=> ?_⟩
  ·simp only[dU.L0.add,dU.L0.F,aa,hd,bX,aB,aD,dN]
   rw[show ∀a c:Nat,a+1+c=a+(c+1) from λa c=>by omega]
  ·rw[dU.L0.step,bg (by omega),bG (show(0:Int)<=(k:Int) by omega) (by omega),aa,n1]
   simp only[ag]
   have hv:=hx _ (aL h)
   rw[bV.run (d:=l[k]) hv]
   simp only[ab,bP,bV.F]
   rw[aC.run (d:=Lx l[k]) ⟨(vF hv).1,by show(Lx l[k]).length<=_;have:=(vF hv).2;omega⟩]
   simp only[ab,bP,aC.F]
   rw[aY (aw _),fg (by omega) (by omega),N.p9 (by omega),dh]
   rfl
 ·right
  obtain rfl:k=(l).length:=by omega
  intro R kn kx
  rw[dU.L0.step,aX (by omega),al]
  simp only[dU.L0.add,dU.L0.F,aa,aZ,ij,bS,bn,cF]
theorem dU.ok:dU.Ok:=by
 rintro b ⟨⟨h1,h2⟩,h3,h4,h5⟩
 have z1:((0:Int)).toNat=0:=rfl
 rw[dU.eq,dU.L0.run (d:=(0,b.2.2.1,(b.2.2.1.length:Int),0,b,0,List.replicate 32 0,0,[])) ⟨by show b.2.2.1.length<=_;omega,0,aK _,rfl,rfl,rfl,by show(0:Nat)<=_;omega,h2⟩]
 simp only[ab,dU.L0.add,dU.L0.F,z1,aJ,aI,aR]
 rw[oQ.run (d:=b.2.2.2.2.1) (by show b.2.2.2.2.1.length<=_;omega)]
 simp only[ab,bP,oQ.F]
 rw[aY (by rw[cK];exact⟨trivial,aw _⟩),ag,gI (cK ..)]
 rfl
theorem dU.run:dU.RS:=rE [.d fh] dU
def dU.sg:=dU.gG dU.ok 1 ⟨.iR dU.L0.ok,trivial⟩
abbrev eO.D:=(List kO)
def eO.st:eO.D->SA:=λouts=>([.d (.slice lO) outs],[])
abbrev eO.Y:=(Unit)⊕((List (cd×dP))×(List cn)×(List eN))
abbrev eO.X:=(Unit)⊕((List (cd×dP))×(List cn)×(List eN))
def eO.out:eO.X->gV:=λx=>match x with | .inl x=>⟨.mO,[],[]⟩ | .inr x=>⟨.ptr (.new 0 0) 0 [] 0,[],[.obj 0 false (.pr (.ptr (.new 0 1) 0 [] 0) (.pr (.aS (.new 0 4) 0 [] 0 0 0) (.d .unit ()))),.obj 0 false (.pr (.db (.new 0 2) 0) (.pr (.aS (.new 0 3) 0 [] 0 0 0) (.d .unit ()))),.obj 0 false (.mp b8 eR x.1),.obj 0 false (.vec 161 cE x.2.1),.obj 0 false (.vec 60 fh x.2.2)]⟩
def eO.add:eO.D->eO.Y->eO.X:=λouts y=>match y with | .inl y=> .inl y | .inr y=> .inr y
def eO.aM:eO.D->Prop:=λouts=>∀o∈outs,Qv o
def eO.F:eO.D->eO.Y:=λouts=>match K4 outs with | none=> .inl () | some r=> .inr (r,[],[])
def eO.G:mR:=oo (P:=Tryz.prog) [bw.sg]
def eO.an:rM:= {bK:=[10],owns:=[⟨2,[.snd,.fst],0,63⟩]}
def eO.A:= @zJ Tryz.prog eO.G eO.an 0 Tryz.f15 _ eO.st
abbrev eO.Ok:=CB @eO.A eO.aM eO.add eO.F eO.out
theorem eO.eq{R:Type}(outs:(List kO))(k:gV->Option R):eO.A outs k=
  ah (bw.call outs) λx1=>
  aP (x1.isLeft) (
   ah (x1.getLeft?) λLP=>
   k (eO.out (.inl ()))) (
   ah (x1.getRight?) λN5=>
   k (eO.out (.inr (N5.1,N5.2,([]:List eN))))):=by kernel_rfl
theorem eO.ok:eO.Ok:=by
 intro outs h
 rw[eO.eq,bw.run (d:=outs) h]
 simp only[ab,bw.F,eO.F]
 cases K4 outs with
 |none=>rfl
 |some r=>rfl
def eO.E:=Entry.Bh [some (.slice lO)] eO.st eO.aM eO.add eO.F eO.out
def eO.call:eO.D->Option eO.X:=vT eO.E eO.st
theorem eO.run:kF eO.call eO.aM eO.add eO.F:=zD (EF [.d (.slice lO)] λ_=>by kernel_rfl)
def eO.sg:SG Tryz.prog:=⟨15,om,eO.E,.of (.PB (.fn 0 (by kernel_rfl) eO.ok trivial)) (by rfl)⟩
abbrev lh.D:=Int×Nat×Nat×(List (cd×dP))×(List cn)×(List eN)
abbrev lh.Y:=eN×Bool
abbrev lh.X:=(Nat×Nat×(List (cd×dP))×(List cn)×(List eN))×(eN×Bool)
def lh.add:lh.D->lh.Y->lh.X:=λ(height,o0baL,o1baL,o2,o3,o4) y=>((o0baL,o1baL,o2,o3,o4),y)
def QB(h:Int)(nb:Nat)(bs:List eN):eN×Bool:=if 1<=h/\h<=nb then(Lc (nth fh bs (h.toNat - 1)),true) else(fh.zero,false)
def lh.aM:lh.D->Prop:=λ(_,nb,_,_,_,bs)=>y7 nb bs
def lh.F:lh.D->lh.Y:=λ(h,nb,_,_,_,bs)=>((QB h nb bs).1,(QB h nb bs).2)
def lh:Fs Tryz.prog lh.aM lh.add lh.F:=gC 62 Tryz.f62 (λ(height,o0baL,o1baL,o2,o3,o4)=>([.ptr (.aV 0) 0 [] 0,.d ti height],[.obj 0 false (.pr (.ptr (.aV 1) 0 [] 0) (.pr (.aS (.aV 4) 0 [] 0 0 o0baL) (.d .unit ()))),.obj 0 false (.pr (.db (.aV 2) 0) (.pr (.aS (.aV 3) 0 [] 0 0 o1baL) (.d .unit ()))),.obj 0 false (.mp b8 eR o2),.obj 0 false (.vec 161 cE o3),.obj 0 false (.vec 60 fh o4)])) (λx=>⟨.cons (.d fh x.2.1) (.cons (.d .bool x.2.2) (.nil)),[.obj 0 false (.pr (.ptr (.aV 1) 0 [] 0) (.pr (.aS (.aV 4) 0 [] 0 0 x.1.1) (.d .unit ()))),.obj 0 false (.pr (.db (.aV 2) 0) (.pr (.aS (.aV 3) 0 [] 0 0 x.1.2.1) (.d .unit ()))),.obj 0 false (.mp b8 eR x.1.2.2.1),.obj 0 false (.vec 161 cE x.1.2.2.2.1),.obj 0 false (.vec 60 fh x.1.2.2.2.2)],[]⟩) [none,some ti] [dU.sg] {res:=[some fh,none]}
theorem lh.eq{R:Type}(height o0baL o1baL o2 o3 o4)(k:K1 R):lh.A (height,o0baL,o1baL,o2,o3,o4) k=
  aP ((jx height 1)) (
   k (lh.out ((o0baL,o1baL,o2,o3,o4),((0,((List.replicate 32 0),(([]:List eZ),(0,(([]:List cd),()))))),false)))) (
   aP ((uK height ((o0baL:Nat):Int))) (
    k (lh.out ((o0baL,o1baL,o2,o3,o4),((0,((List.replicate 32 0),(([]:List eZ),(0,(([]:List cd),()))))),false)))) (
    aP (jn (dJ .i64 height 1) ((o0baL:Nat):Int)) (
    aP (decide ((0+(Int.toNat (dJ .i64 height 1))) < (List.length o4))) (
    aP (decide ((((0+(Int.toNat (dJ .i64 height 1)))*36)+0)=(0+((Int.toNat (dJ .i64 height 1))*36)))) (
    ah (dU.call (nth fh o4 (0+(Int.toNat (dJ .i64 height 1))))) λx1=>
    k (lh.out ((o0baL,o1baL,o2,o3,o4),(x1,true)))) none) none) none)):=by kernel_rfl
theorem lh.ok:lh.Ok:=by
 rintro⟨h,nb,n,a,s,bs⟩ ⟨h1,h2,h3⟩
 have h1:nb<=bs.length:=h1
 have h2:nb<=1000000:=h2
 rw[lh.eq]
 by_cases a1:1<=h
 ·rw[aX (by omega),al]
  by_cases a2:h<=nb
  ·obtain⟨k,rfl⟩:∃k:Nat,h=(k:Int)+1:=⟨(h - 1).toNat,by omega⟩
   have hk:k < bs.length:=by omega
   have e1:dJ .i64 ((k:Int)+1) (1:Int)=(k:Int):=by rw[fP (by omega) (by omega)];omega
   have e2:((k:Int)+1).toNat - 1=k:=by omega
   rw[eC (by omega),al,e1,bG (by omega) (by omega),ag]
   simp only[aa,aI,cF,aY hk,ag,decide_true]
   have n1:nth fh bs k=bs[k]:=dz (t:=fh) hk
   rw[n1,dU.run (d:=bs[k]) (h3 _ (aL hk))]
   simp only[ab,bP,dU.F,lh.F,QB,if_pos (And.intro a1 a2),e2,n1]
   rfl
  ·rw[eY (by omega),ag]
   simp only[lh.F,QB,if_neg (λe:1<=h/\h<=(nb:Int)=>a2 e.2)]
   rfl
 ·rw[bg (by omega),ag]
  simp only[lh.F,QB,if_neg (λe:1<=h/\h<=(nb:Int)=>a1 e.1)]
  rfl
theorem lh.run:lh.RS:=rE [.d ti,.n,.n,.d (.slice (.pair b8 eR)),.d (.slice cE),.d (.slice fh)] lh
def lh.sg:=lh.gG lh.ok
abbrev fT.D:=eN×Nat×Nat×(List (cd×dP))×(List cn)×(List eN)
abbrev fT.Y:=Int×Nat×Nat×(List (cd×dP))×(List cn)×(List eN)
def qw(b:eN)(nb:Nat)(S:LY)(bs:List eN):Int×Nat×Nat×At×List cn×List eN:=
 if b.2.1=nZ nb bs/\b.1=(nb:Int)+1 then
  if(r9 b S.2.1).2=0 then(0,nb+1,(HI b S).1,(HI b S).2.1,(HI b S).2.2,bs.take nb++ [Lc b]) else((r9 b S.2.1).2,nb,S.1,S.2.1,S.2.2,bs)
 else(1,nb,S.1,S.2.1,S.2.2,bs)
def fT.aM:fT.D->Prop:=λ(b,nb,n,a,s,bs)=>Hv b/\b.2.2.1.length<=1/\sF 400 n a s/\y7 nb bs
def fT.F:fT.D->fT.Y:=λ(b,nb,n,a,s,bs)=>qw b nb (n,a,s) bs
def fT:Fs Tryz.prog fT.aM bP fT.F:=gC 19 Tryz.f19 (λ(b,o0baL,o1baL,o2,o3,o4)=>([.ptr (.aV 0) 0 [] 0,.d fh b],[.obj 0 false (.pr (.ptr (.aV 1) 0 [] 0) (.pr (.aS (.aV 4) 0 [] 0 0 o0baL) (.d .unit ()))),.obj 0 false (.pr (.db (.aV 2) 0) (.pr (.aS (.aV 3) 0 [] 0 0 o1baL) (.d .unit ()))),.obj 0 false (.mp b8 eR o2),.obj 0 false (.vec 161 cE o3),.obj 0 false (.vec 60 fh o4)])) (λx=>⟨.d ti x.1,[.obj 0 false (.pr (.ptr (.aV 1) 0 [] 0) (.pr (.aS (.aV 4) 1 [] 0 0 x.2.1) (.d .unit ()))),.obj 0 false (.pr (.db (.aV 2) 0) (.pr (.aS (.aV 3) 1 [] 0 0 x.2.2.1) (.d .unit ()))),.obj 0 false (.mp b8 eR x.2.2.2.1),.obj 1 false (.vec 161 cE x.2.2.2.2.1),.obj 1 false (.vec 60 fh x.2.2.2.2.2)],[]⟩) [none,some fh] [fC.sg,de.sg,j8.sg,dU.sg] {SC:=[(3,1),(4,1)]}
theorem fT.eq{R:Type}(b o0baL o1baL o2 o3 o4)(k:K1 R):fT.A (b,o0baL,o1baL,o2,o3,o4) k=
  ah (fC.call (o0baL,o1baL,o2,o3,o4)) λx1=>
  aP ((!(Ty.beq tH b.2.1 x1.2))) (
   k (fT.out (1,x1.1.1,x1.1.2.1,x1.1.2.2.1,x1.1.2.2.2.1,x1.1.2.2.2.2))) (
   ah (de.call (x1.1.1,x1.1.2.1,x1.1.2.2.1,x1.1.2.2.2.1,x1.1.2.2.2.2)) λx2=>
   aP ((w8 b.1 (cG .i64 x2.2 1))) (
    k (fT.out (1,x2.1.1,x2.1.2.1,x2.1.2.2.1,x2.1.2.2.2.1,x2.1.2.2.2.2))) (
    ah (j8.call (b,x2.1.2.1,x2.1.2.2.1,x2.1.2.2.2.1)) λx3=>
    aP ((w8 x3.1 0)) (
     k (fT.out (x3.1,x2.1.1,x3.2.1,x3.2.2.1,x3.2.2.2,x2.1.2.2.2.2))) (
     ah (dU.call b) λx4=>
     aP (decide (x2.1.1<=(List.length x2.1.2.2.2.2))) (
     aP (dZ (x2.1.1+1) 96) (
     k (fT.out (0,(x2.1.1+1),x3.2.1,x3.2.2.1,x3.2.2.2,((List.take x2.1.1 x2.1.2.2.2.2)++ [x4])))) none) none))):=by kernel_rfl
theorem fT.ok:fT.Ok:=by
 rintro⟨b,nb,n,a,s,bs⟩ ⟨hb,hl,hg,hc⟩
 have hb:Hv b:=hb
 obtain⟨h1,h2,_⟩:=id hc
 have h1:nb<=bs.length:=h1
 have h2:nb<=1000000:=h2
 rw[fT.eq,fC.run (d:=(nb,n,a,s,bs)) hc]
 simp only[ab,fC.add,fC.F,Mw,bP,fT.F,qw]
 by_cases ht:b.2.1=nZ nb bs
 ·rw[decide_eq_true ht,dj,al,de.run (d:=(nb,n,a,s,bs)) trivial]
  simp only[ab,de.add,de.F]
  rw[fX (by omega) (by omega)]
  by_cases hh:b.1=(nb:Int)+1
  ·rw[ff hh,al,j8.run (d:=(b,n,a,s)) ⟨hb,hl,hg⟩]
   simp only[ab,bP,j8.F,if_pos (And.intro ht hh)]
   by_cases he:(r9 b a).2=0
   ·rw[ff he,al,dU.run (d:=b) hb.1]
    simp only[ab,bP,dU.F]
    rw[aY h1,ag,fg (by omega) (by omega),ag,if_pos he,if_neg (λe=>e he)]
   ·rw[iH he,ag,if_neg he,if_pos he]
  ·rw[iH hh,ag,if_neg (λe=>hh e.2)]
 ·rw[decide_eq_false ht,ia,ag,if_neg (λe=>ht e.1)]
theorem fT.run:fT.RS:=rE [.d fh,.n,.n,.d (.slice (.pair b8 eR)),.d (.slice cE),.d (.slice fh)] fT
def fT.sg:=fT.gG fT.ok
end Go.Ab
end
