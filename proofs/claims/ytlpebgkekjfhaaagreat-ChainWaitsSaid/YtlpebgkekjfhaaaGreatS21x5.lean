/-
  Made short by a program of mine (wip/tools/mini.py).
-/
import Derived.Test.YtlpebgkekjfhaaaGreatS21x4
import Derived.Shelf.SlSortCmp.NoneTotal
import Derived.Test.YtlpebgkekjfhaaaGreatProg
set_option linter.unusedVariables false
set_option linter.unusedSimpArgs false
set_option maxRecDepth 100000
set_option synthInstance.maxSize 5000
noncomputable section
namespace Go.Ab
open Go.Proofs
def RD(x:Bs)(t:eZ):Bs:=x++lW t
def RC(x:Bs)(o:cd):Bs:=eh (x++o.1) o.2.1
def XF(b:eN):Bs:=b.2.2.2.2.1.foldl RC (eh (eh (b.2.2.1.foldl RD (eh (eh [] b.1++b.2.1) b.2.2.1.length)) b.2.2.2.1) b.2.2.2.2.1.length)
def HI(b:eN):Bs:=tag (cD (⟨#[98,108,111,99,107]⟩:ByteArray)) [XF b]
theorem Jz:∀(l:List eZ) (x:Bs),(l.foldl RD x).length=x.length+32*l.length
 |[],x=>rfl
 |t::l,x=>by rw[bT,Jz l,RD,ae,wY.1,aB];omega
theorem EE:∀(l:List cd) (x:Bs),(∀o∈l,Oj o)->(l.foldl RC x).length<=x.length+43*l.length
 |[],x,_=>aw _
 |o::l,x,h=>by
  have h1:=EE l (RC x o) λy hy=>h y (aF _ hy)
  have h2:=fE (x++o.1) o.2.1
  have h3:=(h o (aH ..)).1
  rw[ae]at h2
  rw[bT,aB]
  unfold RC at h1 ⊢
  omega
abbrev dF.L0.D:=eN×Bs×(List eZ)×Int×Int×Bs
abbrev dF.L0.Y:=Bs
abbrev dF.L0.X:=(eN×Bs)×(Bs)
def dF.L0.add:dF.L0.D->dF.L0.Y->dF.L0.X:=λ(rM,x,t19,t20,t21,n2) y=>((rM,n2),y)
abbrev dF.L1.D:=Bs×(List cd)×Int×Int×Bs
abbrev dF.L1.Y:=Bs
abbrev dF.L1.X:=(Bs)×(Bs)
def dF.L1.add:dF.L1.D->dF.L1.Y->dF.L1.X:=λ(S8,t39,t40,t41,lz) y=>(lz,y)
abbrev dF.D:=eN
abbrev dF.Y:=Bs
def dF.L0.aM:dF.L0.D->Prop:=λ(b,x,l,n,i,z)=>(l).length<=1000000000/\∃k:Nat,k<=(l).length/\i=k/\n=(l).length/\(l.length<=1000)/\(∀t∈l,rK t)/\(x.length<=1000+32*k)
def dF.L0.F:dF.L0.D->dF.L0.Y:=λ(b,x,l,n,i,z)=>(List.drop (Int.toNat i) l).foldl RD x
def dF.L1.aM:dF.L1.D->Prop:=λ(x,l,n,i,z)=>(l).length<=1000000000/\∃k:Nat,k<=(l).length/\i=k/\n=(l).length/\(l.length<=1000)/\(∀o∈l,Oj o)/\(x.length<=100000+43*k)
def dF.L1.F:dF.L1.D->dF.L1.Y:=λ(x,l,n,i,z)=>(List.drop (Int.toNat i) l).foldl RC x
def dF.aM:dF.D->Prop:=λb=>I8 b
def dF.F:dF.D->dF.Y:=λb=>HI b
def dF.L0:Ls dF.L0.aM dF.L0.add dF.L0.F:=rY (λ(rM,x,t19,t20,t21,n2)=>⟨([.undef,.eD fh rM,.ptr (.new 2 0) 0 [] 0,.d tB x]++aT 15 ([.d (.slice gU) t19,.d ti t20,.d ti t21]++aT 34 [])),[],([[],[],[.obj 0 false (.d tH n2)]]++ct 53 [])⟩) (λx=>(.exit 0,⟨([.undef,.eD fh x.1.1,.ptr (.new 2 0) 0 [] 0,.d tB x.2]++aT 52 []),[],([[],[],[.obj 0 false (.d tH x.1.2)]]++ct 53 [])⟩))
def dF.L1:Ls dF.L1.aM dF.L1.add dF.L1.F:=rY (λ(S8,t39,t40,t41,lz)=>⟨([.undef,.undef,.ptr (.new 2 0) 0 [] 0,.d tB S8]++aT 35 ([.d (.slice b8) t39,.d ti t40,.d ti t41]++aT 14 [])),[],([[],[],[.obj 0 false (.d tH lz)]]++ct 53 [])⟩) (λx=>(.exit 2,⟨([.undef,.undef,.ptr (.new 2 0) 0 [] 0,.d tB x.2]++aT 52 []),[],([[],[],[.obj 0 false (.d tH x.1)]]++ct 53 [])⟩))
def dF:Fs Tryz.prog dF.aM bP dF.F:=gC 59 Tryz.f59 (λb=>([.d fh b],[])) (λx=>⟨.d tH x,[],[]⟩) [some fh] [fO.sg,jd.sg,tid.sg,fm.sg] {loops:=pz [(3,{bo:=[1,2,3,19,20,21],sites:=[2]}),(9,{bo:=[2,3,39,40,41],sites:=[2]})],outs:=py [(3,{bo:=[1,2,3],sites:=[2]},{bo:=[2]}),(9,{bo:=[2,3],sites:=[2]},{bo:=[2]})],iX:=qg [(3,dF.L0.E),(9,dF.L1.E)]}
theorem dF.L0.run:dF.L0.RS:=rL [.d fh,.d tB,.d (.slice gU),.d ti,.d ti,.d tB] dF.L0
theorem dF.L0.step{R:Type}(rM x t19 t20 t21 n2)(kn:K2 R)(kx:K3 R):dF.R 0 dF.L0 (rM,x,t19,t20,t21,n2) kn kx=
  aP ((jx t21 t20)) (
   aP (jn t21 (t19.length:Int)) (
   ah (tid.call (nth gU t19 (Int.toNat t21))) λx1=>
   ah (jd.call (x,x1)) λx2=>
   kn (dF.L0.st (rM,x2,t19,t20,(cG .i64 t21 1),n2))) none) (
   dF.L0.go kx ((rM,n2),x)):=by kernel_rfl
theorem dF.L1.run:dF.L1.RS:=rL [.d tB,.d (.slice b8),.d ti,.d ti,.d tB] dF.L1
theorem dF.L1.step{R:Type}(S8 t39 t40 t41 lz)(kn:K2 R)(kx:K3 R):dF.R 1 dF.L1 (S8,t39,t40,t41,lz) kn kx=
  aP ((jx t41 t40)) (
   aP (jn t41 (t39.length:Int)) (
   ah (jd.call (S8,(nth b8 t39 (Int.toNat t41)).1)) λx1=>
   ah (fO.call (x1,(nth b8 t39 (Int.toNat t41)).2.1)) λx2=>
   kn (dF.L1.st (x2,t39,t40,(cG .i64 t41 1),lz))) none) (
   dF.L1.go kx (lz,S8)):=by kernel_rfl
theorem dF.eq{R:Type}(b)(k:K1 R):dF.A b k=
 ah (fO.call (([]:List Int),b.1)) λx1=>
 ah (jd.call (x1,b.2.1)) λx2=>
 ah (fO.call (x2,(b.2.2.1.length:Int))) λx3=>
 ah (dF.L0.call (b,x3,b.2.2.1,(b.2.2.1.length:Int),0,(List.replicate 32 0))) λx6=>
 ah (fO.call (x6.2,x6.1.1.2.2.2.1)) λx7=>
 ah (fO.call (x7,(x6.1.1.2.2.2.2.1.length:Int))) λx8=>
 ah (dF.L1.call (x8,x6.1.1.2.2.2.2.1,(x6.1.1.2.2.2.2.1.length:Int),0,x6.1.2)) λAp=>
 ah (fm.call ((⟨#[98,108,111,99,107]⟩:ByteArray),[Ap.2])) λHv=>
 k (dF.out Hv):=by kernel_rfl
theorem dF.L0.ok:(dF.mL 0 dF.L0):=by
 refine(dF.oH 0 dF.L0) (λ(b,x,l,n,i,z)=>(l).length - Int.toNat i) ?_
 rintro⟨b,x,l,n,i,z⟩ ⟨hlen,k,hk,rfl,rfl,h3,hx,hb⟩
 have hlen:(l).length<=1000000000:=hlen
 have hk:k<=(l).length:=hk
 have h3:l.length<=1000:=h3
 have hx:∀t∈l,rK t:=hx
 have hb:x.length<=1000+32*k:=hb
 by_cases h:k < (l).length
 ·left
  have n1:nth gU l k=l[k]:=dz (t:=gU) h
  have hd:List.drop k l=l[k]::List.drop (k+1) l:=ax h
  refine⟨(b,(RD x l[k]),l,((l).length:Int),((k+1:Nat):Int),z),⟨hlen,k+1,by omega,rfl,rfl,h3,hx,by unfold RD;rw[ae,wY.1];omega⟩,by simp only[aa];omega,?_,λkn kx=> ?_⟩
  ·simp only[dF.L0.add,dF.L0.F,aa,hd,bT]
  ·rw[dF.L0.step,bg (by omega),bG (by omega) (by omega),aa,n1]
   simp only[ag]
   rw[tid.run (d:=l[k]) (hx _ (aL h))]
   simp only[ab,bP,tid.F]
   rw[jd.run (d:=(x,lW l[k])) ⟨by show x.length+(lW l[k]).length<=_;rw[wY.1];omega,wY.1⟩]
   simp only[ab,bP,jd.F]
   rw[N.p9 (by omega)]
   rfl
 ·right
  obtain rfl:k=(l).length:=by omega
  intro R kn kx
  rw[dF.L0.step,aX (by omega),al]
  simp only[dF.L0.add,dF.L0.F,aa,aZ,dR]
theorem dF.L1.ok:(dF.mL 1 dF.L1):=by
 refine(dF.oH 1 dF.L1) (λ(x,l,n,i,z)=>(l).length - Int.toNat i) ?_
 rintro⟨x,l,n,i,z⟩ ⟨hlen,k,hk,rfl,rfl,h3,hx,hb⟩
 have hlen:(l).length<=1000000000:=hlen
 have hk:k<=(l).length:=hk
 have h3:l.length<=1000:=h3
 have hx:∀o∈l,Oj o:=hx
 have hb:x.length<=100000+43*k:=hb
 by_cases h:k < (l).length
 ·left
  have n1:nth b8 l k=l[k]:=dz (t:=b8) h
  have hd:List.drop k l=l[k]::List.drop (k+1) l:=ax h
  refine⟨((RC x l[k]),l,((l).length:Int),((k+1:Nat):Int),z),⟨hlen,k+1,by omega,rfl,rfl,h3,hx,by have:=EE [l[k]] x (λo ho=>by rw[bI]at ho;subst ho;exact hx _ (aL h));simp only[bT,dR,aB,bn]at this;omega⟩,by simp only[aa];omega,?_,λkn kx=> ?_⟩
  ·simp only[dF.L1.add,dF.L1.F,aa,hd,bT]
  ·rw[dF.L1.step,bg (by omega),bG (by omega) (by omega),aa,n1]
   simp only[ag]
   obtain⟨e1,e2⟩:=hx _ (aL h)
   rw[jd.run (d:=(x,l[k].1)) ⟨by show x.length+l[k].1.length<=_;rw[e1];omega,e1⟩]
   simp only[ab,bP,jd.F]
   rw[fO.run (d:=(x++l[k].1,l[k].2.1)) ⟨by show(x++l[k].1).length<=_;rw[ae,e1];omega,e2⟩]
   simp only[ab,bP,fO.F]
   rw[N.p9 (by omega)]
   rfl
 ·right
  obtain rfl:k=(l).length:=by omega
  intro R kn kx
  rw[dF.L1.step,aX (by omega),al]
  simp only[dF.L1.add,dF.L1.F,aa,aZ,dR]
theorem dF.ok:dF.Ok:=by
 rintro b ⟨⟨h1,h2⟩,⟨h3,h4,h5⟩,h6,h7⟩
 have z1:((0:Int)).toNat=0:=rfl
 have p1:=fE [] b.1
 have p2:=fE (eh [] b.1++b.2.1) b.2.2.1.length
 rw[ae,h4]at p2
 have l0:([]:Bs).length=0:=rfl
 rw[l0]at p1
 have q1:=Jz b.2.2.1 (eh (eh [] b.1++b.2.1) b.2.2.1.length)
 obtain⟨x3,e3⟩:∃x,eh (eh [] b.1++b.2.1) b.2.2.1.length=x:=⟨_,rfl⟩
 rw[e3]at p2 q1
 obtain⟨x6,e6⟩:∃x,b.2.2.1.foldl RD x3=x:=⟨_,rfl⟩
 rw[e6]at q1
 have p7:=fE x6 b.2.2.2.1
 have p8:=fE (eh x6 b.2.2.2.1) b.2.2.2.2.1.length
 obtain⟨x8,e8⟩:∃x,eh (eh x6 b.2.2.2.1) b.2.2.2.2.1.length=x:=⟨_,rfl⟩
 have q2:=EE b.2.2.2.2.1 x8 h7
 rw[e8]at p8
 rw[dF.eq,fO.run (d:=(([]:List Int),b.1)) ⟨by show(0:Nat)<=_;omega,h3⟩]
 simp only[ab,bP,fO.F]
 rw[jd.run (d:=(eh [] b.1,b.2.1)) ⟨by show(eh [] b.1).length+b.2.1.length<=_;rw[h4];omega,h4⟩]
 simp only[ab,bP,jd.F]
 rw[fO.run (d:=(eh [] b.1++b.2.1,(b.2.2.1.length:Int))) ⟨by show(eh [] b.1++b.2.1).length<=_;rw[ae,h4];omega,by show(b.2.2.1.length:Int)<=_;omega⟩]
 simp only[ab,bP,fO.F]
 rw[e3,dF.L0.run (d:=(b,x3,b.2.2.1,(b.2.2.1.length:Int),0,List.replicate 32 0)) ⟨by show b.2.2.1.length<=_;omega,0,aK _,rfl,rfl,h1,h2,by omega⟩]
 simp only[ab,dF.L0.add,dF.L0.F,z1,aJ]
 rw[e6,fO.run (d:=(x6,b.2.2.2.1)) ⟨by show x6.length<=_;omega,h5⟩]
 simp only[ab,bP,fO.F]
 rw[fO.run (d:=(eh x6 b.2.2.2.1,(b.2.2.2.2.1.length:Int))) ⟨by show(eh x6 b.2.2.2.1).length<=_;omega,by show(b.2.2.2.2.1.length:Int)<=_;omega⟩]
 simp only[ab,bP,fO.F]
 rw[e8,dF.L1.run (d:=(x8,b.2.2.2.2.1,(b.2.2.2.2.1.length:Int),0,List.replicate 32 0)) ⟨by show b.2.2.2.2.1.length<=_;omega,0,aK _,rfl,rfl,h6,h7,by omega⟩]
 simp only[ab,dF.L1.add,dF.L1.F,z1,aJ]
 rw[fm.run (d:=((⟨#[98,108,111,99,107]⟩:ByteArray),[b.2.2.2.2.1.foldl RC x8])) (He (by decide) (by omega))]
 simp only[ab,bP,dF.F,HI,XF,e3,e6,e8]
 rfl
theorem dF.run:dF.RS:=rE [.d fh] dF
def dF.sg:=dF.gG dF.ok 2 ⟨.iR dF.L0.ok,⟨.iR dF.L1.ok,trivial⟩⟩
abbrev oN.L0.D:=Int×(List eZ)×Int×Int
abbrev oN.L0.Y:=Int
abbrev oN.D:=eN
abbrev oN.Y:=Int
theorem D5:∀(l:List kC) (n:Int),(∀x∈l,x.2.1.2.1.length<=12)->n<=l.foldl qp n/\l.foldl qp n<=n+110*l.length
 |[],n,_=>by simp
 |x::l,n,h=>by
  have h1:=D5 l (qp n x) λy hy=>h y (aF _ hy)
  have h2:=h x (aH ..)
  have h3:n<=qp n x/\qp n x<=n+110:=by unfold qp;split <;> omega
  rw[bT,aB]
  omega
theorem y7(t:eZ):0<=tO t/\tO t<=8000:=by
 unfold tO
 split
 ·rename_i jU
  obtain⟨⟨_,a2,a3,_⟩,b1,b2⟩:=kk jU
  have:=D5 t.1 (10+8*t.2.1.length) λx hx=>(tq (mg _ _ b1 x hx)).2.2.2.2
  omega
 ·omega
def NZ(n:Int)(t:eZ):Int:=n+tO t
def SC(b:eN):Int:=b.2.2.1.foldl NZ b.2.2.2.1
def oN.L0.aM:oN.L0.D->Prop:=λ(n,l,m,i)=>(l).length<=1000000000/\∃k:Nat,k<=(l).length/\i=k/\m=(l).length/\(l.length<=1000)/\(∀t∈l,rK t)/\(0<=n)/\(n<=1000000+8000*(k:Int))
def oN.L0.F:oN.L0.D->oN.L0.Y:=λ(n,l,m,i)=>(List.drop (Int.toNat i) l).foldl NZ n
def oN.aM:oN.D->Prop:=λb=>I8 b/\0<=b.2.2.2.1/\b.2.2.2.1<=1000000
def oN.F:oN.D->oN.Y:=λb=>SC b
def oN.L0:Ls oN.L0.aM bP oN.L0.F:=rY (λ(n,t9,t10,t11)=>⟨([.undef,.undef,.undef,.d ti n]++aT 5 ([.d (.slice gU) t9,.d ti t10,.d ti t11]++aT 9 [])),[],(List.replicate 21 [])⟩) (λx=>(.exit 0,⟨([.undef,.undef,.undef,.d ti x]++aT 17 []),[],(List.replicate 21 [])⟩))
def oN:Fs Tryz.prog oN.aM bP oN.F:=gC 251 Tryz.f251 (λb=>([.d fh b],[])) (λx=>⟨.d ti x,[],[]⟩) [some fh] [cZ.sg] {loops:=pz [(3,{bo:=[3,9,10,11]})],outs:=py [(3,{bo:=[3]},{bo:=[2]})],iX:=qg [(3,oN.L0.E)]}
theorem oN.L0.run:oN.L0.RS:=rL [.d ti,.d (.slice gU),.d ti,.d ti] oN.L0
theorem oN.L0.step{R:Type}(n t9 t10 t11)(kn:K2 R)(kx:K3 R):oN.R 0 oN.L0 (n,t9,t10,t11) kn kx=
  aP ((jx t11 t10)) (
   aP (jn t11 (t9.length:Int)) (
   ah (cZ.call (nth gU t9 (Int.toNat t11))) λx1=>
   kn (oN.L0.st ((cG .i64 n x1),t9,t10,(cG .i64 t11 1)))) none) (
   oN.L0.go kx n):=by kernel_rfl
theorem oN.eq{R:Type}(b)(k:K1 R):oN.A b k=
 ah (oN.L0.call (b.2.2.2.1,b.2.2.1,(b.2.2.1.length:Int),0)) λx2=>
 k (oN.out x2):=by kernel_rfl
theorem oN.L0.ok:(oN.mL 0 oN.L0):=by
 refine(oN.oH 0 oN.L0) (λ(n,l,m,i)=>(l).length - Int.toNat i) ?_
 rintro⟨n,l,m,i⟩ ⟨hlen,k,hk,rfl,rfl,h3,hx,h0,h1⟩
 have hlen:(l).length<=1000000000:=hlen
 have hk:k<=(l).length:=hk
 have h3:l.length<=1000:=h3
 have hx:∀t∈l,rK t:=hx
 have h0:0<=n:=h0
 have h1:n<=1000000+8000*(k:Int):=h1
 by_cases h:k < (l).length
 ·left
  have n1:nth gU l k=l[k]:=dz (t:=gU) h
  have hd:List.drop k l=l[k]::List.drop (k+1) l:=ax h
  refine⟨((NZ n l[k]),l,((l).length:Int),((k+1:Nat):Int)),⟨hlen,k+1,by omega,rfl,rfl,h3,hx,by have:=y7 l[k];unfold NZ;omega,by have:=y7 l[k];unfold NZ;omega⟩,by simp only[aa];omega,?_,λkn kx=> ?_⟩
  ·simp only[bP,oN.L0.F,aa,hd,bT]
  ·rw[oN.L0.step,bg (by omega),bG (by omega) (by omega),aa,n1]
   simp only[ag]
   have e:=y7 l[k]
   rw[cZ.run (d:=l[k]) (hx _ (aL h))]
   simp only[ab,bP,cZ.F]
   rw[fX (x:=n) (by omega) (by omega),N.p9 (by omega)]
   rfl
 ·right
  obtain rfl:k=(l).length:=by omega
  intro R kn kx
  rw[oN.L0.step,aX (by omega),al]
  simp only[bP,oN.L0.F,aa,aZ,dR]
theorem oN.ok:oN.Ok:=by
 rintro b ⟨⟨⟨h1,h2⟩,_⟩,h3,h4⟩
 have z1:((0:Int)).toNat=0:=rfl
 rw[oN.eq,oN.L0.run (d:=(b.2.2.2.1,b.2.2.1,(b.2.2.1.length:Int),0)) ⟨by show b.2.2.1.length<=_;omega,0,aK _,rfl,rfl,h1,h2,h3,by show b.2.2.2.1<=_;omega⟩]
 simp only[ab,bP,oN.L0.F,z1,aJ,bP,oN.F,SC]
theorem oN.run:oN.RS:=rE [.d fh] oN
def oN.sg:=oN.gG oN.ok 1 ⟨.iR oN.L0.ok,trivial⟩
abbrev il.D:=Int×Int
abbrev il.Y:=Bool
def uE(h f:Int):Bool:=decide (1<=h/\h<=1048576/\0<=f/\f<=4000)
def il.aM:il.D->Prop:=λ_=>True
def il.F:il.D->il.Y:=λ(h,f)=>uE h f
def il:Fs Tryz.prog il.aM bP il.F:=gC 250 Tryz.f250 (λ(height,fill)=>([.d ti height,.d ti fill],[])) (λx=>⟨.d .bool x,[],[]⟩) [some ti,some ti]
theorem il.eq{R:Type}(height fill)(k:K1 R):il.A (height,fill) k=
  aP ((tZ height 1)) (
   aP ((JA height 1048576)) (
    aP ((tZ fill 0)) (
     k (il.out (JA fill 4000))) (
     k (il.out false))) (
    k (il.out false))) (
   k (il.out false)):=by kernel_rfl
theorem il.ok:il.Ok:=by
 rintro⟨h,f⟩ _
 rw[il.eq]
 simp only[bP,il.F,uE]
 by_cases a1:1<=h
 ·rw[jg a1,ag]
  by_cases a2:h<=1048576
  ·rw[rj a2,ag]
   by_cases a3:0<=f
   ·rw[jg a3,ag]
    by_cases a4:f<=4000
    ·rw[rj a4,decide_eq_true ⟨a1,a2,a3,a4⟩]
    ·rw[nP (by omega),decide_eq_false (by omega)]
   ·rw[fI (by omega),al,decide_eq_false (by omega)]
  ·rw[nP (by omega),al,decide_eq_false (by omega)]
 ·rw[fI (by omega),al,decide_eq_false (by omega)]
theorem il.run:il.RS:=rE [.d ti,.d ti] il
def il.sg:=il.gG il.ok
end Go.Ab
namespace Go.Ab
open Go.Sort (grow)
structure Ss(P:Program)(t:Ty)(g:FuncId)(Q:t.den->Prop)(cf:t.den->t.den->Int):Prop where
 bZ:∃en,nX P g en/\∀x y,Q x->Q y->∃X,en.run [.d t x,.d t y] []=some X/\en.out [.d t x,.d t y] [] X=⟨.d (.int .i64) (cf x y),[],[]⟩
 enters:∀args w,(callFunc g args).run P w= .ok (.enter g args) w
 irrefl:∀x,Q x->¬cf x x < 0
 trans:∀x y z,Q x->Q y->Q z->cf x y < 0->cf y z < 0->cf x z < 0
 ntrans:∀x y z,Q x->Q y->Q z->¬cf x y < 0->¬cf y z < 0->¬cf x z < 0
theorem ON{w w':World}(P6:w'.os=w.os)(WO:w'.tape=w.tape)(Ez:w'.output=w.output/\w.drawn<=w'.drawn)(ou:w.heap.size<=w'.heap.size)(hb:∀b:Nat,b < w.heap.size->w'.heap[b]? =w.heap[b]?):
  ∃q os,w'=grow (w.drewN q) os:=by
 obtain⟨h1,t1,d1,o1,p1⟩:=w
 obtain⟨h2,t2,d2,o2,p2⟩:=w'
 simp only at*
 obtain⟨Ez,hd⟩:=Ez
 subst P6 WO Ez
 obtain⟨q,rfl⟩:∃q,d2=d1+q:=⟨d2 - d1,by omega⟩
 refine⟨q,h2.extract h1.size h2.size,?_⟩
 have hh:h2=h1++h2.extract h1.size h2.size:=by
  apply nq
  intro i
  rw[jR]
  by_cases hi:i < h1.size
  ·rw[if_pos hi,hb i hi]
  ·rw[if_neg hi,Array.getElem?_extract]
   by_cases h3:i < h2.size
   ·rw[if_pos (by omega)]
    congr 1;omega
   ·rw[if_neg (by omega),Array.getElem?_eq_none (by omega)]
 show({heap:=h2,tape:=_,drawn:=_,os:=_,output:=_}:World)= {heap:=h1++h2.extract h1.size h2.size,tape:=_,drawn:=_,os:=_,output:=_}
 rw[<-hh]
 rfl
section
variable {P:Program} {t:Ty} {g:FuncId} {Q:t.den->Prop} {cf:t.den->t.den->Int}
theorem Ss.Tq(h:Ss P t g Q cf)(ha:t.agg=true){W:World}{cx cy:List Value}{x y:t.den}(hx:dm ((gl []).env W (λ_=> .free) (λ_=>none)) t cx x)
  (hy:dm ((gl []).env W (λ_=> .free) (λ_=>none)) t cy y) (qx:Q x) (qy:Q y):
  Calls P g #[.agg cx.toArray,.agg cy.toArray] W λe w'=>e= .returned (.int .i64 (cf x y))/\∃q os,w'=grow (W.drewN q) os:=by
 obtain⟨en,hd,mF⟩:=h.bZ
 obtain⟨X,hX1,hX2⟩:=mF x y qx qy
 have one:∀ {c:List Value} {z:t.den},dm ((gl []).env W (λ_=> .free) (λ_=>none)) t c z->VS ((gl []).env W (λ_=> .free) (λ_=>none)) (.d t z) (.agg c.toArray):=λhz=>
  ⟨_,by simpa only[V]using hz,by show fV t.agg _ _;rw[ha];rfl⟩
 have ho:jc ((gl []).env W (λ_=> .free) (λ_=>none)):=λid ver fr c h=>by
  exfalso
  cases id with
  |aV k=>simp[AS.env,AS.bZ,gl]at h
  |new i j=>simp[AS.env,AS.bZ,gl]at h
 rcases hd W (λ_=> .free) (λ_=>none) [.d t x,.d t y] [] [.agg cx.toArray,.agg cy.toArray] X ⟨one hx,one hy,trivial⟩ ho hX1 with⟨_,hc⟩ | ⟨v,w',hc,_⟩
 ·refine hc.mono λe w' he=> ?_
  obtain⟨v,rfl,g',β',hv,_,ht,_⟩:=he
  rw[hX2]at hv
  obtain⟨cs,k1,k2⟩:=hv
  have k1:cs=[.int .i64 (cf x y)]:=k1
  subst k1
  have k2: [Value.int .i64 (cf x y)]=[v]:=k2
  have hv:v= .int .i64 (cf x y):=by simpa using k2.symm
  exact⟨by rw[hv],ON ht.os ht.tape ht.output ht.size λb hb=>(ht.yu b hb).2⟩
 ·rw[h.enters]at hc;cases hc
def LY(cf:t.den->t.den->Int)(l l':List t.den):Prop:=l'.Perm l/\l'.Pairwise λx y=>¬cf y x < 0
open Classical in
def zW(cf:t.den->t.den->Int)(l:List t.den):List t.den:=if h:∃l',LY cf l l' then h.choose else l
theorem NN(h:Ss P t g Q cf){l:List t.den}(hQ:∀x∈l,Q x):LY cf l (zW cf l):=by
 have hx:∃l',LY cf l l':=by
  let le: {x // Q x}-> {x // Q x}->Bool:=λx y=> !decide (cf y.1 x.1 < 0)
  refine⟨((l.attachWith Q hQ).mergeSort le).map (·.1),?_,?_⟩
  ·have h1:=(List.mergeSort_perm (l.attachWith Q hQ) le).map (·.1)
   rwa[List.attachWith_map_subtype_val]at h1
  ·have h2:=List.pairwise_mergeSort (le:=le) (λa b c h1 h2=>by
    simp only[le,cC,decide_eq_false_iff_not]at*
    exact h.ntrans _ _ _ c.2 b.2 a.2 h2 h1) (λa b=>by
    simp only[le,ix,cC,decide_eq_false_iff_not]
    by_cases h1:cf b.1 a.1 < 0
    ·exact .inr λh2=>h.irrefl _ a.2 (h.trans _ _ _ a.2 b.2 a.2 h2 h1)
    ·exact .inl h1) (l.attachWith Q hQ)
   rw[List.pairwise_map]
   exact h2.imp λ {a b} h3=>by simpa[le]using h3
 unfold zW
 rw[dif_pos hx]
 exact hx.choose_spec
theorem IW(h:Ss P t g Q cf){l l':List t.den}(hQ:∀x∈l,Q x)(hT:∀x∈l,∀y∈l,¬cf x y < 0->¬cf y x < 0->x=y)(hs:LY cf l l'):l'=zW cf l:=by
 have h2:=NN h hQ
 exact List.Perm.eq_of_pairwise (λa b ha hb h3 h4=>hT a (hs.1.mem_iff.1 ha) b (h2.1.mem_iff.1 hb) h4 h3) hs.2 h2.2 (hs.1.trans h2.1.symm)
def yg(g:FuncId)(e:TypeId)(t:Ty):Nat×List t.den->List av×List dS:=λd=>([.aS (.aV 0) 0 [] 0 0 d.1,.fn g .nil],[.obj 0 false (.vec e t d.2)])
def E3(Q:t.den->Prop)(cf:t.den->t.den->Int):Nat×List t.den->Prop:=λd=>d.1=d.2.length/\d.2.length < 4611686018427387904/\(∀x∈d.2,Q x)/\∀x∈d.2,∀y∈d.2,¬cf x y < 0->¬cf y x < 0->x=y
def R9(e:TypeId)(t:Ty):Nat×List t.den->gV:=λx=>⟨.nil,[.obj 0 false (.vec e t x.2)],[]⟩
def Pw(g:FuncId)(e:TypeId)(t:Ty)(Q:t.den->Prop)(cf:t.den->t.den->Int):Entry:=
 Entry.of [none,none] (yg g e t) (E3 Q cf) (λd=>(d.1,zW cf d.2)) (R9 e t)
theorem Px{g:FuncId}{e:TypeId}{t:Ty}(d d':Nat×List t.den)(h:yg g e t d=yg g e t d'):d=d':=by
 obtain⟨n,l⟩:=d
 obtain⟨n',l'⟩:=d'
 simp only[yg,cR,ed,av.aS.injEq,dS.obj.injEq,true_and,and_true]at h
 obtain⟨rfl,h2⟩:=h
 rw[PE h2]
def JY(g:FuncId)(e:TypeId)(t:Ty)(Q:t.den->Prop)(cf:t.den->t.den->Int):Nat×List t.den->Option (Nat×List t.den):=λd=>(Pw g e t Q cf).run (yg g e t d).1 (yg g e t d).2
theorem Py{g:FuncId}{e:TypeId}{t:Ty}{Q:t.den->Prop}{cf:t.den->t.den->Int}{d:Nat×List t.den}(h:E3 Q cf d):JY g e t Q cf d=some (d.1,zW cf d.2):=Entry.tC Px h
theorem xj{R:List Value->t.den->Prop}:∀ {cs:List Value} {l:List t.den},bj R cs l->(∀x∈l,Q x)->∃ps:List {p:List Value×t.den // R p.1 p.2/\Q p.2},ps.map (·.1.2)=l/\(ps.map (·.1.1)).flatten=cs
 |cs,[],h,_=>⟨[],rfl,by have h:cs=[]:=h;rw[h];rfl⟩
 |cs,x::l,⟨c,cs',h1,h2,h3⟩,hq=>by
  obtain⟨ps,h4,h5⟩:=xj h3 λy hy=>hq y (aF _ hy)
  exact⟨⟨(c,x),h2,hq x (aH ..)⟩::ps,by simp[h4],by simp[h5,h1]⟩
theorem xK{R R':List Value->t.den->Prop}(hR:∀c x,R c x->R' c x):∀ps:List {p:List Value×t.den // R p.1 p.2/\Q p.2},bj R' (ps.map (·.1.1)).flatten (ps.map (·.1.2))
 |[]=>rfl
 |p::ps=>⟨p.1.1,(ps.map (·.1.1)).flatten,by simp,hR _ _ p.2.1,xK hR ps⟩
theorem FX{α:Type} [Inhabited α] (enc:α->List Value) {k:Nat} (hk:∀x,(enc x).length=k):∀(ps:List α) (j:Nat),j < ps.length*k->((ps.map enc).flatten)[j]? =(enc (ps.toArray[j / k]!))[j%k]?
 |[],j,h=>by simp at h
 |p::ps,j,h=>by
  have k0:0 < k:=by
   rcases iK k with h0 | h0
   ·subst h0;simp at h
   ·exact h0
  simp only[bX,jm]
  by_cases hj:j < k
  ·rw[fq (by rw[hk];exact hj),Nat.div_eq_of_lt hj,jG hj]
   rfl
  ·have e1:j / k=(j - k) / k+1:=by
    rw[Nat.div_eq_sub_div k0 (by omega)]
   have e2:j%k=(j - k)%k:=by rw[Nat.mod_eq_sub_mod (by omega)]
   rw[List.getElem?_append_right (by rw[hk];omega),hk,FX enc hk ps (j - k) (by simp only[aB,eM,iy]at h;omega),e1,e2]
   congr 2
   simp
theorem wF{α:Type} [Inhabited α] (enc:α->List Value) {k:Nat} (hk:∀x,(enc x).length=k) (d:Array α):(Go.Sort.flatK enc k d).toList=(d.toList.map enc).flatten:=by
 have hl:((d.toList.map enc).flatten).length=d.size*k:=by
  rw[List.length_flatten,List.map_map]
  have:(d.toList.map (List.length∘enc))=List.replicate d.size k:=by
   rw[List.eq_replicate_iff]
   exact⟨by simp,λx hx=>by obtain⟨y,_,rfl⟩:=eJ.1 hx;exact hk y⟩
  rw[this,List.sum_replicate_nat]
 apply j5
 intro j
 by_cases hj:j < d.size*k
 ·rw[FX enc hk d.toList j (by simpa using hj)]
  have h2:(Go.Sort.flatK enc k d).toList[j]? =some ((Go.Sort.flatK enc k d)[j]!):=by
   rw[iD,getElem!_pos _ j (by rw[Go.Sort.size_flatK];exact hj)]
   simp[hj]
  rw[h2,Go.Sort.get_flatK _ _ _ _ hj]
  have TU:0 < k:=by
   rcases iK k with h0 | h0
   ·subst h0;simp at hj
   ·exact h0
  have hm:j%k < k:=Nat.mod_lt _ TU
  simp only[Array.toArray_toList]
  rw[cj (by rw[hk];exact hm),getElem!_pos _ _ (by rw[hk];exact hm)]
 ·rw[dM (by simpa using hj),dM (by rw[hl];omega)]
theorem Nt{F cur:Array Value}(h:F.size<=cur.size):(Go.Sort.putCells id 0 F cur).toList=F.toList++cur.toList.drop F.size:=by
 apply j5
 intro j
 simp only[Go.Sort.putCells,iD,Array.getElem?_mapIdx,aK,true_and,aI,Nat.sub_zero,id]
 by_cases hj:j < F.size
 ·rw[fq (by simpa using hj),iD,fp hj,fp (by omega),ee,if_pos hj,getElem!_pos F j hj]
 ·rw[List.getElem?_append_right (by simpa using hj),fW,iD,cO,show F.size+(j - F.size)=j by omega]
  cases cur[j]? with
  |none=>rfl
  |some y=>rw[ee,if_neg hj]
end
section
open Go.Proofs Go.Shelf Go.Lib Go.Sort
variable {P:Program} {ρ:Go.Shelf.Ren} {t:Ty} {g:FuncId} {Q:t.den->Prop} {cf:t.den->t.den->Int}
theorem Cc{α:Type} [Inhabited α] (enc:α->List Value) (k:Nat) (w:World) (yu m:Nat) (dk:Array α) (os:Array Obj) {b:Nat} (hb:b < w.heap.size) (fL:b≠yu):(sortWorldK enc k w yu 0 m dk os).heap[b]? =w.heap[b]? :=by
 show((w.heap.modify yu _)++os)[b]? =_
 rw[jR,if_pos (by simpa using hb),gA,if_neg (λe=>fL e.symm)]
theorem PB{α:Type} [Inhabited α] (enc:α->List Value) (k:Nat) (w:World) (yu m:Nat) (dk:Array α) (os:Array Obj) {cur:Array Value} {e:TypeId} {fr:Nat×Nat} (hb:w.heap[yu]? =some (.cells cur e fr)):
  (sortWorldK enc k w yu 0 m dk os).heap[yu]? =some (.cells (putCells id 0 (flatK enc k dk) cur) e fr):=by
 have iv:yu < w.heap.size:=(bJ.1 hb).1
 show((w.heap.modify yu _)++os)[yu]? =_
 rw[jR,if_pos (by simpa using iv),gA,if_pos rfl,hb]
 rfl
set_option maxHeartbeats 1000000 in
theorem NM(L:SlLaysF0.n6 P ρ){e:TypeId}(ha:t.agg=true)(aE:∀w,(isAgg (ρ.t 24)).run P w= .ok true w)(zE:∀w,(Go.sizeOf (ρ.t 24)).run P w= .ok t.size w)(hc:Ss P t g Q cf):
  nX P (ρ.f 6) (Pw g e t Q cf):=by
 intro w γ β args cz km x hv ho hx
 obtain⟨d0,PT,T9⟩:∃d,yg g e t d=(args,cz)/\E3 Q cf d:=by
  by_cases hh:∃d,yg g e t d=(args,cz)/\E3 Q cf d
  ·exact hh
  ·exfalso
   have hn:(Pw g e t Q cf).run args cz=none:=dif_neg hh
   rw[hn]at hx
   cases hx
 have hr:=Py (g:=g) (e:=e) T9
 unfold JY at hr
 rw[PT]at hr
 obtain rfl:x=(d0.1,zW cf d0.2):=ba (hx.symm.trans hr)
 obtain⟨n,l⟩:=d0
 simp only[yg,cR]at PT
 obtain⟨rfl,rfl⟩:=PT
 obtain⟨hn,ou,hQ,hT⟩:=T9
 have hn:n=l.length:=hn
 subst hn
 match km,hv with
 |[y1,y2],⟨Rx,zh,_⟩=>
 obtain⟨vs,rfl,zi⟩:=Dm zh
 have zi:vs=[]:=by simpa only[VC]using zi
 subst zi
 have h1:=Rx.single rfl rfl
 simp only[V]at h1
 obtain⟨a,cap,h1,xq,mJ,_,fB⟩:=h1
 have h1:y1= .slice a l.length cap:=by simpa using h1
 subst h1
 have cV:(gl [dS.obj 0 false (.vec e t l)]).bZ (.aV 0)=some (.obj 0 false (.vec e t l)):=rfl
 obtain⟨hz,hO⟩:Td ((gl [dS.obj 0 false (.vec e t l)]).env w γ β) (.aV 0) false e t l:=ho (.aV 0) 0 false _ cV
 have fB:=fB ⟨false,_,cV⟩
 refine .inl ⟨L.f6.enters rfl _ _,?_⟩
 have YZ:∀v:Value,v= .tuple #[]->VS ((gV.st ⟨.nil,[.obj 0 false (.vec e t (zW cf l))],[]⟩).env w γ β) .nil v:=λv hv=>by rw[hv];exact rfl
 have hS:=NN hc hQ
 by_cases hl:l=[]
 ·subst hl
  have hs:zW cf ([]:List t.den)=[]:=bF hS.1.length_eq
  refine(AnyF.slices_SortFunc_none L a cap _ w).mono λe' w' he=> ?_
  obtain⟨rfl,rfl⟩:=he
  refine⟨_,rfl,?_⟩
  show qq _ (⟨.nil,[.obj 0 false (.vec e t (zW cf []))],[]⟩:gV) _ _
  rw[hs]
  exact qq.same rfl ho
 ·have ot:0 < l.length:=List.length_pos_iff.2 hl
  change (match β (.aV 0) with | none=>l=[] | some pl=>∃cur k,w.heap[pl.b]? =some (.cells cur e (0,0))/\cur.size=pl.cap*t.size/\l.length<=pl.cap/\pl.cap<=maxLen/\γ pl.b= .own (.id (.aV 0)) k/\
   k<=l.length*t.size/\(false=false->k=0)/\bj (dm ((gl [dS.obj 0 false (.vec e t l)]).env w γ β) t) (cur.toList.take (l.length*t.size)) l) at hO
  change (match β (.aV 0) with | some pl=>(0 < l.length\/True->a=some ⟨pl.b,0,none⟩)/\(True->True->cap=pl.cap) | none=>a=none/\l.length=0/\cap=0) at fB
  cases hβ:β (.aV 0) with
  |none=>rw[hβ]at hO;exact absurd hO hl
  |some pl=>
  rw[hβ]at hO fB
  obtain⟨cur,k0,q1,q2,q3,q4,q5,_,q7,q8⟩:=hO
  obtain rfl:=q7 rfl
  obtain rfl:=fB.1 (.inl ot)
  have hblk:pl.b < w.heap.size:=(bJ.1 q1).1
  obtain⟨R,hR⟩:∃R:List Value->t.den->Prop,R=dm ((gl [dS.obj 0 false (.vec e t l)]).env w γ β) t:=⟨_,rfl⟩
  have hRm:∀c x,R c x->dm ((gl [dS.obj 0 false (.vec e t l)]).env w γ β) t c x:=by rw[hR];exact λ_ _ h=>h
  rw[<-hR]at q8
  obtain⟨ps,p1,p2⟩:=xj (Q:=Q) q8 hQ
  have Ua:ps.length=l.length:=by rw[<-p1,cK]
  let α:= {p:List Value×t.den // R p.1 p.2/\Q p.2}
  have:0 < ps.length:=by omega
  letI:Inhabited α:=⟨ps[0]⟩
  let enc:α->List Value:=λp=>p.1.1
  let cf':α->α->Int:=λp q=>cf p.1.2 q.1.2
  have hk:∀x,(enc x).length=t.size:=λx=>(hRm _ _ x.2.1).size
  have hO:SWO (ltOf cf'):=⟨λx=>by simpa[ltOf,cf']using hc.irrefl _ x.2.2,λx y z h1 h2=>by
   simp only[ltOf,decide_eq_true_eq,cf']at*
   exact hc.trans _ _ _ x.2.2 y.2.2 z.2.2 h1 h2,λx y z h1 h2=>by
   simp only[ltOf,decide_eq_false_iff_not,cf']at*
   exact hc.ntrans _ _ _ x.2.2 y.2.2 z.2.2 h1 h2⟩
  have sN:∀j,j < l.length*t.size->cur[j]? =((ps.map enc).flatten)[j]? :=λj hj=>by
   have:(ps.map enc).flatten=cur.toList.take (l.length*t.size):=p2
   rw[this,dp,if_pos hj,iD]
  have hH:HoldsK enc t.size w pl.b 0 ps.toArray:=λj hj=>by
   rw[size_flatK]at hj
   have hj:j < ps.length*t.size:=by simpa using hj
   have h2:=sN j (by rw[<-Ua];exact hj)
   have h3:((flatK enc t.size ps.toArray).toList)[j]? =((ps.map enc).flatten)[j]? :=by rw[wF enc hk]
   rw[iD,fp (by rw[size_flatK];simpa using hj)]at h3
   refine⟨?_,?_⟩
   ·show(match w.heap[pl.b]? with | some (.cells c _ _)=>if(none:Option _).isSome then none else c[0+j]? | _=>none)=_
    rw[q1]
    simp only[Option.isSome_none,cv,if_false,aI]
    rw[h2,<-h3,getElem!_pos _ j (by rw[size_flatK];simpa using hj)]
    rfl
   ·show(match w.heap[pl.b]? with | some (.cells _ _ (lo,hi))=>decide (lo<=0+j) && decide (0+j < hi) | _=>false)=false
    rw[q1]
    simp
  have tp:∀(m:Nat) (dk:Array α) (os:Array Obj),oe ((gl [dS.obj 0 false (.vec e t l)]).env w γ β) ((gl []).env (sortWorldK enc t.size w pl.b 0 m dk os) (λ_=> .free) (λ_=>none)):=λm dk os=>by
   refine⟨λb off v hh=>⟨?_,trivial⟩,λb ob hf kr=>⟨rfl,?_⟩⟩
   ·obtain⟨h1,h2⟩:=hh
    have hb:b < w.heap.size:=World.block_lt_of_cell? _ _ h1
    have fL:b≠pl.b:=λe=>by
     have h2:oT γ b off:=h2
     unfold oT at h2
     rw[e,q5]at h2
     exact Nat.not_lt_zero _ h2
    have h1:w.cell? ⟨b,off,none⟩=some v:=h1
    show(sortWorldK enc t.size w pl.b 0 m dk os).cell? ⟨b,off,none⟩=some v
    simpa only[World.cell?,Cc enc t.size w pl.b m dk os hb fL]using h1
   ·have kr:w.heap[b]? =some ob:=kr
    have hb:b < w.heap.size:=(bJ.1 kr).1
    have fL:b≠pl.b:=λe=>by
     have hf:γ b= .free:=hf
     rw[e,q5]at hf;cases hf
    exact(Cc enc t.size w pl.b m dk os hb fL).trans kr
  have V9:CmpLays P g #[] enc t.size cf' pl.b 0 ps.toArray.size w:=λm os dk _ p q=>
   hc.Tq ha ((hRm _ _ p.2.1).mono (tp m dk os)) ((hRm _ _ q.2.1).mono (tp m dk os)) p.2.2 q.2.2
  have TJ:=AnyQ.slices_SortFunc L t.size aE zE enc hk (λp=>(hRm _ _ p.2.1).one) cf' hO g #[] pl.b 0 cap ps.toArray w hc.enters V9 hH hblk (by simpa[Ua]using ou)
  rw[show ps.toArray.size=l.length by simpa using Ua]at TJ
  refine TJ.mono λe' w' he=> ?_
  obtain⟨rfl,d',m,os,hp,hs,rfl⟩:=he
  refine⟨_,rfl,?_⟩
  obtain⟨s1,_,s2⟩:=hp
  have hd:d'.size=l.length:=by rw[s1];simpa using Ua
  have F9:d'.toList.Perm ps:=by
   have e1:(d'.extract 0 l.length)=d':=by rw[<-hd];simp
   have e2:(ps.toArray.extract 0 l.length)=ps.toArray:=by rw[<-Ua];simp
   rw[e1,e2]at s2
   exact s2
  have hl':LY cf l (d'.toList.map (·.1.2)):=by
   refine⟨by rw[<-p1];exact F9.map _,?_⟩
   rw[List.pairwise_map,List.pairwise_iff_getElem]
   intro i j hi hj Vf
   have:=hs i j (aK _) Vf (by rw[<-hd];simpa using hj)
   rw[getElem!_pos d' i (by simpa using hi),getElem!_pos d' j (by simpa using hj)]at this
   simpa[ltOf,cf']using this
  have heq:=IW hc hQ hT hl'
  show qq _ (⟨.nil,[.obj 0 false (.vec e t (zW cf l))],[]⟩:gV) _ _
  rw[<-heq]
  have kW:=PB enc t.size w pl.b m d' os q1
  have hFs:(flatK enc t.size d').size<=cur.size:=by
   rw[size_flatK,hd,q2]
   exact cY _ q3
  have xt:∀b,b < w.heap.size->b≠pl.b->(sortWorldK enc t.size w pl.b 0 m d' os).heap[b]? =w.heap[b]? :=λb hb fL=>Cc enc t.size w pl.b m d' os hb fL
  have MO:w.heap.size<=(sortWorldK enc t.size w pl.b 0 m d' os).heap.size:=size_sortWorldK_c enc t.size w pl.b 0 m d' os
  have hw:(sortWorldK enc t.size w pl.b 0 m d' os).os=w.os/\(sortWorldK enc t.size w pl.b 0 m d' os).tape=w.tape/\((sortWorldK enc t.size w pl.b 0 m d' os).output=w.output/\w.drawn<=(sortWorldK enc t.size w pl.b 0 m d' os).drawn):=⟨rfl,rfl,rfl,Nat.le_add_right _ _⟩
  generalize sortWorldK enc t.size w pl.b 0 m d' os=w' at kW xt MO hw
  have ht:Trans w w' γ γ:=by
   refine⟨hw.1,hw.2.1,hw.2.2,MO,λb hb=> ?_⟩
   by_cases V3:b=pl.b
   ·subst V3
    rw[q5]
    exact⟨.inr ⟨_,0,rfl,aw _⟩,λ_ _ hh=>by omega⟩
   ·rw[xt b hb V3]
    cases zN:γ b with
    |free=>exact⟨rfl,rfl⟩
    |own o' k=>cases o' with
     |eL=>exact⟨rfl,rfl⟩
     |id i'=>exact⟨.inr ⟨i',k,rfl,aw _⟩,λoff v _ hv=>by simpa only[World.cell?,xt b hb V3]using hv⟩
  have hle:cP ((gl [dS.obj 0 false (.vec e t l)]).env w γ β) ((gV.st ⟨.nil,[.obj 0 false (.vec e t (d'.toList.map (·.1.2)))],[]⟩).env w' γ β):=by
   have e0:∀id,(∃c,(gl [dS.obj 0 false (.vec e t l)]).bZ id=some (.obj 0 false c)/\id= .aV 0)\/((gl [dS.obj 0 false (.vec e t l)]).bZ id=none/\(gV.st ⟨.nil,[.obj 0 false (.vec e t (d'.toList.map (·.1.2)))],[]⟩).bZ id=none):=λid=>by
    cases id with
    |aV k=>cases k with
     |zero=>exact .inl ⟨_,rfl,rfl⟩
     |succ k=>exact .inr ⟨rfl,rfl⟩
    |new i j=>refine .inr ⟨?_,?_⟩ <;> cases i <;> rfl
   refine⟨Trans.mem (E:=(gl [dS.obj 0 false (.vec e t l)]).env w γ β) (E':=(gV.st ⟨.nil,[.obj 0 false (.vec e t (d'.toList.map (·.1.2)))],[]⟩).env w' γ β) ht,λid ver hb=> ?_,λid ver hb YD=> ?_⟩
   ·rcases e0 id with⟨c,_,rfl⟩ | ⟨h1,_⟩
    ·refine⟨by show(some _:Option dS)≠none;simp,λv fr c h=> ?_⟩
     have h:some (dS.obj 0 false (.vec e t (d'.toList.map (·.1.2))))=some (.obj v fr c):=h
     simp only[aq,dS.obj.injEq]at h
     have:=hb.2 0 false _ rfl
     omega
    ·exact absurd h1 hb.1
   ·rcases e0 id with⟨c,_,rfl⟩ | ⟨h1,_⟩
    ·obtain⟨fr,c,h⟩:=YD
     have h:some (dS.obj 0 false (.vec e t (d'.toList.map (·.1.2))))=some (.obj ver fr c):=h
     simp only[aq,dS.obj.injEq]at h
     obtain⟨rfl,rfl,_⟩:=h
     exact⟨⟨false,_,rfl⟩,rfl⟩
    ·exact absurd h1 hb.1
  refine⟨γ,β,rfl,λid ver fr c h=> ?_,ht,hle⟩
  have dq:id= .aV 0/\ver=0/\fr=false/\c= .vec e t (d'.toList.map (·.1.2)):=by
   cases id with
   |aV k=>cases k with
    |zero=>
     have h:some (dS.obj 0 false (.vec e t (d'.toList.map (·.1.2))))=some (.obj ver fr c):=h
     simp only[aq,dS.obj.injEq]at h
     obtain⟨rfl,rfl,rfl⟩:=h
     exact⟨rfl,rfl,rfl,rfl⟩
    |succ k=>cases h
   |new i j=>cases i <;> cases h
  obtain⟨rfl,rfl,rfl,rfl⟩:=dq
  refine⟨hz,?_⟩
  show(match β (.aV 0) with | none=>(d'.toList.map (·.1.2))=[] | some pl=>_)
  rw[hβ]
  have hlen:(d'.toList.map (λp:α=>p.1.2)).length=l.length:=by simpa using hd
  refine⟨_,0,kW,?_,by rw[hlen];exact q3,q4,q5,aK _,λ_=>rfl,?_⟩
  ·rw[<-q2];simp[putCells]
  ·have e3:(putCells id 0 (flatK enc t.size d') cur).toList.take ((d'.toList.map (λp:α=>p.1.2)).length*t.size)=(d'.toList.map enc).flatten:=by
    rw[Nt hFs,wF enc hk,hlen]
    have e4:((d'.toList.map enc).flatten).length=l.length*t.size:=by
     rw[<-wF enc hk,cO,size_flatK,hd]
    rw[<-e4,List.take_left]
   rw[e3]
   exact xK (Q:=Q) (λc x h=>(hRm c x h).mono hle.mem) d'.toList
end
end Go.Ab
namespace Go.Ab
open Go.Proofs
abbrev dA.L0.D:=Bs×Bs×Int×Int
def dA.L0.st:dA.L0.D->AS:=λ(IN,IP,t12,t13)=>⟨([.d tB IN,.d tB IP]++aT 10 ([.d ti t12,.d ti t13]++aT 12 [])),[],(List.replicate 26 [])⟩
abbrev dA.L0.Y0:=Unit
abbrev dA.L0.X0:=Unit
def dA.L0.eG:dA.L0.X0->Exit×AS:=λx=>(.ret,⟨(aT 4 ([.d .bool false]++aT 21 [])),[],(List.replicate 26 [])⟩)
abbrev dA.L0.Y1:=Unit
abbrev dA.L0.X1:=Unit
def dA.L0.gZ:dA.L0.X1->Exit×AS:=λx=>(.exit 0,⟨(aT 26 []),[],(List.replicate 26 [])⟩)
abbrev dA.L0.X:=(dA.L0.X0)⊕(dA.L0.X1)
abbrev dA.L0.Y:=(dA.L0.Y0)⊕(dA.L0.Y1)
def dA.L0.out:dA.L0.X->Out (Exit×AS):=λx=> .br x.isLeft (.get x.getLeft? λa=> .ok (dA.L0.eG a)) (.get x.getRight? λb=> .ok (dA.L0.gZ b))
def dA.L0.add:dA.L0.D->dA.L0.Y->dA.L0.X:=λ(IN,IP,t12,t13) y=>match y with | .inl y=> .inl y | .inr z=> .inr (z)
abbrev dA.D:=Bs×Bs
abbrev dA.Y:=Bool
def dA.L0.aM:dA.L0.D->Prop:=λ(a,b,m,i)=>a.length<=1000000000/\a.length=b.length/\m=a.length/\∃k:Nat,k<=a.length/\i=k
def dA.L0.F:dA.L0.D->dA.L0.Y:=λ(a,b,m,i)=>if a.drop i.toNat=b.drop i.toNat then .inr () else .inl ()
def dA.aM:dA.D->Prop:=λ(a,b)=>a.length<=1000000000
def dA.F:dA.D->dA.Y:=λ(a,b)=>decide (a=b)
def dA.L0.E:=eE.iR dA.L0.st dA.L0.aM dA.L0.add dA.L0.F dA.L0.out
def dA.L0.call:dA.L0.D->Option dA.L0.X:=j9 dA.L0.E dA.L0.st
def dA:Fs Tryz.prog dA.aM bP dA.F:=gC 241 Tryz.f241 (λ(s1,s2)=>([.d tB s1,.d tB s2],[])) (λx=>⟨.d .bool x,[],[]⟩) [some tB,some tB] [] {loops:=pz [(4,{bo:=[0,1,12,13]})],outs:=py [(4,{},{bo:=[4]})],iX:=qg [(4,dA.L0.E)]}
def dA.L0.R:= @gN Tryz.prog (oo dA.G) dA.an 0 Tryz.f241 0 _ dA.L0.st
abbrev dA.L0.Ok:=mS Tryz.prog (oo dA.G) dA.an 0 Tryz.f241 0 dA.L0.st dA.L0.aM dA.L0.add dA.L0.F dA.L0.out
theorem dA.L0.run:kF dA.L0.call dA.L0.aM dA.L0.add dA.L0.F:=oU (oR [.d tB,.d tB,.d ti,.d ti] λ_=>by kernel_rfl)
theorem dA.L0.cM:qa @dA.L0.R dA.L0.st dA.L0.aM dA.L0.add dA.L0.F dA.L0.out dA.L0.Ok:=qD
theorem dA.L0.step{R:Type}(IN:Bs)(IP:Bs)(t12:Int)(t13:Int)(kn:AS->Option R)(kx:Exit->AS->Option R):dA.L0.R (IN,IP,t12,t13) kn kx=
  aP ((jx t13 t12)) (
   aP (jn t13 (((List.length IN):Nat):Int)) (
   aP (jn t13 (((List.length IP):Nat):Int)) (
   aP ((w9 (nth tb IN (Int.toNat t13)) (nth tb IP (Int.toNat t13)))) (
    kx (dA.L0.eG ()).1 (dA.L0.eG ()).2) (
    kn (dA.L0.st (IN,IP,t12,(cG .i64 t13 (1:Int)))))) none) none) (
   kx (dA.L0.gZ ()).1 (dA.L0.gZ ()).2):=by kernel_rfl
theorem dA.eq{R:Type}(s1 s2)(k:K1 R):dA.A (s1,s2) k=
  aP ((w9 (s1.length:Int) (s2.length:Int))) (
   k (dA.out false)) (
   ah (dA.L0.call (s1,s2,(s1.length:Int),0)) λx1=>
   aP (x1.isLeft) (
    ah (x1.getLeft?) λa2=>
    k (dA.out false)) (
    ah (x1.getRight?) λb3=>
    k (dA.out true))):=by kernel_rfl
theorem dA.L0.ok:dA.L0.Ok:=by
 refine dA.L0.cM (λ(a,b,m,i)=>a.length - i.toNat) ?_
 rintro⟨a,b,m,i⟩ ⟨hl,PQ,rfl,k,hk,rfl⟩
 have hl:a.length<=1000000000:=hl
 have PQ:a.length=b.length:=PQ
 have hk:k<=a.length:=hk
 by_cases h:k < a.length
 ·have h2:k < b.length:=by omega
  have n1:nth (.int .u8) a k=a[k]:=dz (t:=(.int .u8)) h
  have n2:nth (.int .u8) b k=b[k]:=dz (t:=(.int .u8)) h2
  have hd:(a.drop k=b.drop k)=(a[k]=b[k]/\a.drop (k+1)=b.drop (k+1)):=by rw[ax h,ax h2,ed]
  have step:∀ {R:Type} (kn:AS->Option R) (kx:Exit->AS->Option R),dA.L0.R (a,b,(a.length:Int),(k:Int)) kn kx=if a[k]=b[k] then kn (dA.L0.st (a,b,(a.length:Int),((k+1:Nat):Int))) else kx (dA.L0.eG ()).1 (dA.L0.eG ()).2:=by
   intro R kn kx
   rw[dA.L0.step,bg (by omega),bG (by omega) (by omega),bG (by omega) (by omega),aa,n1,n2,N.p9 (by omega)]
   simp only[ag]
   by_cases hx:a[k]=b[k]
   ·rw[ff hx,if_pos hx];rfl
   ·rw[iH hx,if_neg hx];rfl
  by_cases hx:a[k]=b[k]
  ·left
   refine⟨(a,b,(a.length:Int),((k+1:Nat):Int)),⟨hl,PQ,rfl,k+1,by omega,rfl⟩,by simp only[aa];omega,?_,λkn kx=> ?_⟩
   ·simp only[dA.L0.add,dA.L0.F,aa,hd,hx,true_and]
   ·rw[step,if_pos hx]
  ·right
   refine⟨dA.L0.eG (),?_,λkn kx=> ?_⟩
   ·simp only[dA.L0.add,dA.L0.F,aa,hd,hx,false_and,if_false]
    rfl
   ·rw[step,if_neg hx]
 ·right
  obtain rfl:k=a.length:=by omega
  refine⟨dA.L0.gZ (),?_,λkn kx=> ?_⟩
  ·simp only[dA.L0.add,dA.L0.F,aa,aZ]
   rw[PQ,aZ,if_pos rfl]
   rfl
  ·rw[dA.L0.step,aX (by omega),al]
theorem dA.ok:dA.Ok:=by
 rintro⟨a,b⟩ hl
 have hl:a.length<=1000000000:=hl
 rw[dA.eq]
 simp only[bP,dA.F]
 by_cases h:a.length=b.length
 ·rw[ff (by omega),al,dA.L0.run (d:=(a,b,(a.length:Int),0)) ⟨hl,h,rfl,0,aK _,rfl⟩]
  simp only[ab,dA.L0.add,dA.L0.F,bN,aJ]
  by_cases hx:a=b
  ·rw[if_pos hx,aY hx];rfl
  ·rw[if_neg hx,cH hx];rfl
 ·rw[iH (by omega),cH (λx=>h (by rw[x]))];rfl
theorem dA.run:dA.RS:=rE [.d tB,.d tB] dA
def dA.sg:=dA.gG dA.ok 1 ⟨.iR dA.L0.ok,trivial⟩
abbrev qe.D:=cd×cd
abbrev qe.Y:=Int
def FI(a b:cd):Int:=S0 [CH a.1 b.1,HQ a.2.1 b.2.1]
def qe.aM:qe.D->Prop:=λ(a,b)=>a.1.length=32/\b.1.length=32
def qe.F:qe.D->qe.Y:=λ(a,b)=>FI a b
def qe:Fs Tryz.prog qe.aM bP qe.F:=gC 80 Tryz.f80 (λ(a,b)=>([.d b8 a,.d b8 b],[])) (λx=>⟨.d ti x,[],[]⟩) [some b8,some b8] [qc.sg,nD.sg,hZ.sg]
theorem qe.eq{R:Type}(a b)(k:K1 R):qe.A (a,b) k=
 ah (qc.call ((cut a.1 0 32),(cut b.1 0 32))) λx1=>
 ah (nD.call (a.2.1,b.2.1)) λx2=>
 ah (hZ.call [x1,x2]) λx3=>
 k (qe.out x3):=by kernel_rfl
theorem qe.ok:qe.Ok:=by
 rintro⟨a,b⟩ ⟨ha,hb⟩
 have ha:a.1.length=32:=ha
 have hb:b.1.length=32:=hb
 have c1:cut a.1 0 32=a.1:=gI ha
 have c2:cut b.1 0 32=b.1:=gI hb
 rw[qe.eq,c1,c2,qc.run (d:=(a.1,b.1)) trivial]
 simp only[ab,bP,qc.F]
 rw[nD.run (d:=(a.2.1,b.2.1)) trivial]
 simp only[ab,bP,nD.F]
 rw[hZ.run (d:=[CH a.1 b.1,HQ a.2.1 b.2.1]) (by show 2<=_;decide)]
 simp only[ab,bP,hZ.F,bP,qe.F,FI]
theorem qe.run:qe.RS:=rE [.d b8,.d b8] qe
def qe.sg:=qe.gG qe.ok
def lx:List Int->List Int->Int
 |x::xs,y::ys=>if x≠y then(if x < y then -1 else 1) else lx xs ys
 |_,_=>0
theorem JI:∀a,lx a a=0
 |[]=>rfl
 |x::a=>by simp[lx,JI a]
theorem EK:∀a b:List Int,lx b a= - lx a b
 |[],[]=>rfl
 |[],_::_=>rfl
 |_::_,[]=>rfl
 |x::a,y::b=>by
  simp only[lx]
  by_cases h:x=y
  ·rw[if_neg (by omega),if_neg (by omega),EK a b]
  ·rw[if_pos (by omega),if_pos h]
   by_cases h2:x < y
   ·rw[if_neg (by omega),if_pos h2];rfl
   ·rw[if_pos (by omega),if_neg h2]
theorem Bf:∀ {a b c:List Int},a.length=b.length->b.length=c.length->lx a b<=0->lx b c<=0->lx a c<=0/\(lx a c=0->lx a b=0/\lx b c=0)
 |[],[],[],_,_,_,_=>by simp[lx]
 |x::a,y::b,z::c,h1,h2,h3,h4=>by
  have ih:=Bf (a:=a) (b:=b) (c:=c) (by simpa using h1) (by simpa using h2)
  simp only[lx]at h3 h4 ⊢
  by_cases e1:x=y
  ·by_cases e2:y=z
   ·rw[if_neg (by omega)]at h3 h4
    rw[if_neg (by omega),if_neg (by omega),if_neg (by omega)]
    exact ih h3 h4
   ·rw[if_neg (by omega)]at h3
    rw[if_pos e2]at h4
    rw[if_pos (by omega)]
    by_cases e3:y < z
    ·rw[if_pos (by omega)]
     exact⟨by omega,λh=>by omega⟩
    ·rw[if_neg e3]at h4;omega
  ·rw[if_pos e1]at h3
   by_cases e3:x < y
   ·by_cases e2:y=z
    ·rw[if_pos (by omega),if_pos (by omega)]
     exact⟨by omega,λh=>by omega⟩
    ·rw[if_pos e2]at h4
     by_cases e4:y < z
     ·rw[if_pos (by omega),if_pos (by omega)]
      exact⟨by omega,λh=>by omega⟩
     ·rw[if_neg e4]at h4;omega
   ·rw[if_neg e3]at h3;omega
 |[],_::_,_,h,_,_,_=>by simp at h
 |_::_,[],_,h,_,_,_=>by simp at h
 |_,[],_::_,_,h,_,_=>by simp at h
 |_,_::_,[],_,h,_,_=>by simp at h
def Vt(a b:Int):Int:=if a=0 then b else a
theorem EL{p:Int}{a b:List Int}:lx (p::a) (p::b)=lx a b:=by simp[lx]
theorem yR{p q:Int}{a b:List Int}(h:¬p=q):lx (p::a) (q::b)=if p < q then -1 else 1:=by simp[lx,h]
theorem JH:∀ {a b:List Int} (x y:Int),a.length=b.length->lx (a++ [x]) (b++ [y])=Vt (lx a b) (HQ x y)
 |[],[],x,y,_=>by
  show lx [x] [y]=Vt 0 (HQ x y)
  simp only[Vt,if_true]
  unfold HQ
  by_cases h:x=y
  ·subst h
   rw[EL,if_neg (by omega),if_neg (by omega)]
   rfl
  ·rw[yR h]
   by_cases h2:x < y
   ·rw[if_pos h2,if_pos h2]
   ·rw[if_neg h2,if_neg h2,if_pos (by omega)]
 |[],_::_,_,_,h=>by simp at h
 |_::_,[],_,_,h=>by simp at h
 |p::a,q::b,x,y,h=>by
  show lx (p::(a++ [x])) (q::(b++ [y]))=_
  by_cases h2:p=q
  ·subst h2
   rw[EL,EL]
   exact JH x y (by simpa using h)
  ·rw[yR h2,yR h2]
   by_cases h3:p < q
   ·rw[if_pos h3];rfl
   ·rw[if_neg h3];rfl
def Mo:List UInt8->List UInt8->Int
 |x::xs,y::ys=>if x !=y then(if x < y then -1 else 1) else Mo xs ys
 |_,_=>0
theorem FJ:∀(xs ys:List UInt8),xs.length=ys.length->(match(List.range xs.length).find? λi=>xs[i]! !=ys[i]! with | some i=>if xs[i]! < ys[i]! then(-1:Int) else 1 | none=>0)=Mo xs ys
 |[],[],_=>rfl
 |[],_::_,h=>by simp at h
 |_::_,[],h=>by simp at h
 |x::xs,y::ys,h=>by
  have ih:=FJ xs ys (by simpa using h)
  rw[aB,List.range_succ_eq_map,List.find?_cons]
  simp only[List.getElem!_cons_zero,Mo]
  cases hb:(x !=y) with
  |true=>simp
  |false=>
   simp only[cv,if_false]
   rw[List.find?_map,<-ih]
   have e:((λi=>(x::xs)[i]! !=(y::ys)[i]!)∘Nat.succ)=λi=>xs[i]! !=ys[i]! :=by
    funext i;simp
   rw[e]
   cases(List.range xs.length).find? λi=>xs[i]! !=ys[i]! <;> simp
theorem Jn:∀ {a b:List Int},(∀x∈a,0<=x/\x < 256)->(∀x∈b,0<=x/\x < 256)->Mo (a.map λn=>UInt8.ofNat n.toNat) (b.map λn=>UInt8.ofNat n.toNat)=lx a b
 |[],_,_,_=>by cases ‹List Int› <;> rfl
 |_::_,[],_,_=>rfl
 |x::a,y::b,ha,hb=>by
  have hx:=ha x (aH ..)
  have hy:=hb y (aH ..)
  have ih:=Jn (a:=a) (b:=b) (λz hz=>ha z (aF _ hz)) (λz hz=>hb z (aF _ hz))
  simp only[bX,Mo,lx,ih]
  have e1:(UInt8.ofNat x.toNat).toNat=x.toNat:=by simp[UInt8.toNat_ofNat];omega
  have e2:(UInt8.ofNat y.toNat).toNat=y.toNat:=by simp[UInt8.toNat_ofNat];omega
  by_cases h:x=y
  ·subst h;simp
  ·have fL:(UInt8.ofNat x.toNat !=UInt8.ofNat y.toNat)=true:=by
    rw[bne_iff_ne]
    intro e
    have:=congrArg UInt8.toNat e
    rw[e1,e2]at this
    omega
   rw[fL,if_pos rfl,if_pos h]
   have iv:UInt8.ofNat x.toNat < UInt8.ofNat y.toNat↔x < y:=by
    rw[UInt8.lt_iff_toNat_lt,e1,e2];omega
   by_cases h2:x < y
   ·rw[if_pos (iv.2 h2),if_pos h2]
   ·rw[if_neg (λe=>h2 (iv.1 e)),if_neg h2]
theorem Oy{a b:List Int}(hl:a.length=b.length)(ha:∀x∈a,0<=x/\x < 256)(hb:∀x∈b,0<=x/\x < 256):CH a b=lx a b:=by
 rw[<-Jn ha hb,<-FJ _ _ (by simpa using hl)]
 unfold CH Extern.BytealgCompare.cmp
 have s1:∀l:List Int,(fy l).size=l.length:=λl=>by simp[fy,ByteArray.size]
 have g1:∀(l:List Int) (i:Nat),(fy l)[i]! =(l.map λn=>UInt8.ofNat n.toNat)[i]! :=λl i=>by
  by_cases h:i < (fy l).size
  ·rw[getElem!_pos _ i h]
   have h2:i < (l.map λn=>UInt8.ofNat n.toNat).length:=by simpa[fy,ByteArray.size]using h
   rw[getElem!_pos _ i h2]
   rfl
  ·rw[getElem!_neg _ i h]
   have h2:¬i < (l.map λn=>UInt8.ofNat n.toNat).length:=by simpa[fy,ByteArray.size]using h
   rw[getElem!_neg _ i h2]
 simp only[s1,g1,hl,Nat.min_self,cK]
 cases(List.range b.length).find? λi=>(a.map λn=>UInt8.ofNat n.toNat)[i]! !=(b.map λn=>UInt8.ofNat n.toNat)[i]! <;> simp
def Qv(o:cd):Prop:=o.1.length=32/\∀x∈o.1,0<=x/\x < 256
def sy(o:cd):List Int:=o.1++ [o.2.1]
theorem pO{o:cd}(h:Qv o):(sy o).length=33:=by simp[sy,h.1]
theorem tg{a b:cd}(ha:Qv a)(hb:Qv b):FI a b=lx (sy a) (sy b):=by
 unfold sy FI
 rw[JH _ _ (ha.1.trans hb.1.symm),Oy (ha.1.trans hb.1.symm) ha.2 hb.2]
 simp only[S0,Vt]
 by_cases h:lx a.1 b.1=0
 ·rw[if_pos h,if_neg (λe=>e h)]
  split
  ·rfl
  ·omega
 ·rw[if_neg h,if_pos h]
theorem Mn:Ss Tryz.prog b8 80 Qv FI:= {
 bZ:=⟨qe.E,qe.sg.h.1 (by rfl),λx y hx hy=>⟨_,qe.run (d:=(x,y)) ⟨hx.1,hy.1⟩,rfl⟩⟩
 enters:=enters_of Tryz.func80 (by kernel_rfl) rfl
 irrefl:=λx hx=>by rw[tg hx hx,JI];decide
 trans:=λx y z hx hy hz h1 h2=>by
  rw[tg hx hy]at h1
  rw[tg hy hz]at h2
  rw[tg hx hz]
  have:=Bf (by rw[pO hx,pO hy]) (by rw[pO hy,pO hz]) (by omega:lx (sy x) (sy y)<=0) (by omega:lx (sy y) (sy z)<=0)
  have h3:=this.1
  by_cases h4:lx (sy x) (sy z)=0
  ·have:=(this.2 h4).1;omega
  ·omega
 ntrans:=λx y z hx hy hz h1 h2=>by
  rw[tg hx hy]at h1
  rw[tg hy hz]at h2
  rw[tg hx hz]
  have e1:=EK (sy x) (sy y)
  have e2:=EK (sy y) (sy z)
  have e3:=EK (sy x) (sy z)
  have:=(Bf (by rw[pO hz,pO hy]) (by rw[pO hy,pO hx]) (by omega:lx (sy z) (sy y)<=0) (by omega:lx (sy y) (sy x)<=0)).1
  omega}
end Go.Ab
namespace Go.Proofs
open Go.Shelf
def Tryz.IS:Go.Shelf.Ren:=⟨λ | 6=>79 | 15=>155 | 14=>154 | 28=>214 | 29=>215 | 20=>206 | 21=>207 | 22=>208 | 23=>209 | 24=>210 | 25=>211 | 26=>212 | 27=>213 | 46=>255 | 47=>256 | 48=>257 | 49=>258 | 50=>259 | 57=>279 | n=>n,λ | 22=>58 | 24=>47 | 25=>157 | 3=>3 | 39=>224 | 0=>0 | 53=>255 | 55=>22 | 4=>4 | 46=>265 | 45=>264 | 50=>66 | 5=>5 | 9=>9 | 66=>298 | 70=>301 | 76=>313 | 77=>314 | n=>n,λ | n=>n⟩
theorem Tryz.R5:Go.Proofs.SlLaysF0.n6 Tryz.prog Tryz.IS:= {
 mixed:=by kernel_rfl
 f6:=⟨Tryz.f79.name,by decide,Tryz.func79.trans (congrArg some (by kernel_rfl))⟩
 f14:=⟨Tryz.f154.name,by decide,Tryz.func154.trans (congrArg some (by kernel_rfl))⟩
 f15:=Tryz.func155.trans (congrArg some (by kernel_rfl))
 f20:=⟨Tryz.f206.name,by decide,Tryz.func206.trans (congrArg some (by kernel_rfl))⟩
 f21:=⟨Tryz.f207.name,by decide,Tryz.func207.trans (congrArg some (by kernel_rfl))⟩
 f22:=⟨Tryz.f208.name,by decide,Tryz.func208.trans (congrArg some (by kernel_rfl))⟩
 f23:=⟨Tryz.f209.name,by decide,Tryz.func209.trans (congrArg some (by kernel_rfl))⟩
 f24:=⟨Tryz.f210.name,by decide,Tryz.func210.trans (congrArg some (by kernel_rfl))⟩
 f25:=⟨Tryz.f211.name,by decide,Tryz.func211.trans (congrArg some (by kernel_rfl))⟩
 f26:=⟨Tryz.f212.name,by decide,Tryz.func212.trans (congrArg some (by kernel_rfl))⟩
 f27:=⟨Tryz.f213.name,by decide,Tryz.func213.trans (congrArg some (by kernel_rfl))⟩
 f28:=Tryz.func214.trans (congrArg some (by kernel_rfl))
 f29:=Tryz.func215.trans (congrArg some (by kernel_rfl))
 f46:=⟨Tryz.f255.name,by decide,Tryz.func255.trans (congrArg some (by kernel_rfl))⟩
 f47:=Tryz.func256.trans (congrArg some (by kernel_rfl))
 f48:=Tryz.func257.trans (congrArg some (by kernel_rfl))
 f49:=⟨Tryz.f258.name,by decide,Tryz.func258.trans (congrArg some (by kernel_rfl))⟩
 f50:=⟨Tryz.f259.name,by decide,Tryz.func259.trans (congrArg some (by kernel_rfl))⟩
 f57:=⟨Tryz.f279.name,by decide,Tryz.func279.trans (congrArg some (by kernel_rfl))⟩
 t0:=Tryz.underlying0
 a0:=Tryz.isAgg0
 z0:=Tryz.sizeOf0
 v0:=Tryz.zeroValue0
 t3:=Tryz.underlying3
 a3:=Tryz.isAgg3
 z3:=Tryz.sizeOf3
 v3:=Tryz.zeroValue3
 t4:=Tryz.underlying4
 a4:=Tryz.isAgg4
 z4:=Tryz.sizeOf4
 v4:=Tryz.zeroValue4
 t5:=Tryz.underlying5
 a5:=Tryz.isAgg5
 z5:=Tryz.sizeOf5
 v5:=Tryz.zeroValue5
 t9:=Tryz.underlying9
 a9:=Tryz.isAgg9
 z9:=Tryz.sizeOf9
 v9:=Tryz.zeroValue9
 t22:=Tryz.underlying58
 a22:=Tryz.isAgg58
 z22:=Tryz.sizeOf58
 v22:=Tryz.zeroValue58
 t25:=Tryz.underlying157
 a25:=Tryz.isAgg157
 z25:=Tryz.sizeOf157
 v25:=Tryz.zeroValue157
 t39:=Tryz.underlying224
 a39:=Tryz.isAgg224
 z39:=Tryz.sizeOf224
 v39:=Tryz.zeroValue224
 t45:=Tryz.underlying264
 a45:=Tryz.isAgg264
 z45:=Tryz.sizeOf264
 v45:=Tryz.zeroValue264
 t46:=Tryz.underlying265
 a46:=Tryz.isAgg265
 z46:=Tryz.sizeOf265
 v46:=Tryz.zeroValue265
 t50:=Tryz.underlying66
 a50:=Tryz.isAgg66
 z50:=Tryz.sizeOf66
 v50:=Tryz.zeroValue66
 t53:=Tryz.underlying255
 a53:=Tryz.isAgg255
 z53:=Tryz.sizeOf255
 v53:=Tryz.zeroValue255
 t55:=Tryz.underlying22
 a55:=Tryz.isAgg22
 z55:=Tryz.sizeOf22
 v55:=Tryz.zeroValue22
 t66:=Tryz.underlying298
 a66:=Tryz.isAgg298
 z66:=Tryz.sizeOf298
 v66:=Tryz.zeroValue298
 t70:=Tryz.underlying301
 a70:=Tryz.isAgg301
 z70:=Tryz.sizeOf301
 v70:=Tryz.zeroValue301
 t76:=Tryz.underlying313
 a76:=Tryz.isAgg313
 z76:=Tryz.sizeOf313
 v76:=Tryz.zeroValue313
 t77:=Tryz.underlying314
 a77:=Tryz.isAgg314
 z77:=Tryz.sizeOf314
 v77:=Tryz.zeroValue314}
end Go.Proofs
namespace Go.Ab
open Go.Proofs
def R8.E:Entry:=Pw 80 47 b8 Qv FI
def R8.sg:SG Tryz.prog:=⟨79,om,R8.E,.of (NM Tryz.R5 (by rfl) (λw=>Tryz.isAgg47 w) (λw=>Tryz.sizeOf47 w) Mn) (by rfl)⟩
abbrev gz.L0.D:=Nat×Nat×(List (cd×dP))×(List cn)×(List (cd×dP))×(List cd)
def gz.L0.st:gz.L0.D->AS:=λ(outL,o0L,eQ,eA,n9,n17)=>⟨([.undef,.undef,.undef,.aS (.new 17 0) 0 [] 0 0 outL]++aT 5 ([.ptr (.new 9 0) 0 [] 0]++aT 11 [])),[.obj 0 false (.pr (.db (.aV 1) 0) (.pr (.aS (.aV 2) 0 [] 0 0 o0L) (.d .unit ()))),.obj 0 true (.mp b8 eR eQ),.obj 0 false (.vec 161 cE eA)],(ct 9 ([[.obj 0 false (.nH (.aV 1) 1 b8 eR n9 none)]]++ct 7 [[.obj 0 false (.vec 47 b8 n17)],[],[],[]]))⟩
abbrev gz.L0.Y0:=Nat×(List cd)
abbrev gz.L0.X0:=(Nat×(List (cd×dP))×(List cn))×(Nat×(List cd))
def gz.L0.eG:gz.L0.X0->Exit×AS:=λx=>(.exit 0,⟨([.undef,.undef,.undef,.aS (.new 17 0) 0 [] 0 0 x.2.1]++aT 17 []),[.obj 0 false (.pr (.db (.aV 1) 0) (.pr (.aS (.aV 2) 0 [] 0 0 x.1.1) (.d .unit ()))),.obj 0 false (.mp b8 eR x.1.2.1),.obj 0 false (.vec 161 cE x.1.2.2)],(ct 17 [[.obj 0 false (.vec 47 b8 x.2.2)],[],[],[]])⟩)
abbrev gz.L0.X:=gz.L0.X0
abbrev gz.L0.Y:=gz.L0.Y0
def gz.L0.out:gz.L0.X->Out (Exit×AS):=λx=> .ok (gz.L0.eG x)
def gz.L0.add:gz.L0.D->gz.L0.Y->gz.L0.X:=λ(outL,o0L,eQ,eA,n9,n17) y=>((o0L,eQ,eA),y)
abbrev gz.D:=Nat×(List (cd×dP))×(List cn)
abbrev gz.Y:=Nat×Nat×(List (cd×dP))×(List cn)×(List cd)
theorem rZ{β:Type}{kt:Ty}(hc:kt.comp=true){x:kt.den}{v:β}:∀ {l:List (kt.den×β)},x ∉ l.map (·.1)->iT kt x v l=l++ [(x,v)]
 |[],_=>rfl
 |p::l,h=>by
  rw[wK]
  have h1:¬kt.beq x p.1=true:=λe=>h (by rw[beq_eq kt _ _ hc e];simp)
  rw[if_neg h1,rZ hc λe=>h (by simp[e])]
  rfl
theorem jP:b8.comp=true:=rfl
def kI(l:List (cd×dP)):Int:=(l.map λp=>p.2.1.1).sum
theorem lE(p:cd×dP)(l:List (cd×dP)):kI (p::l)=p.2.1.1+kI l:=by simp[kI]
theorem Fp(l l':List (cd×dP)):kI (l++l')=kI l+kI l':=by simp[kI]
theorem yr{l l':List (cd×dP)}(h:l.Perm l'):kI l=kI l':=by
 induction h with
 |nil=>rfl
 |cons x _ ih=>rw[lE,lE,ih]
 |swap x y l=>rw[lE,lE,lE,lE];omega
 |trans _ _ h1 h2=>rw[h1,h2]
theorem AE{α:Type}{l:List α}{j:Nat}(h:j < l.length):l.Perm (l[j]::l.eraseIdx j):=by
 induction l generalizing j with
 |nil=>simp at h
 |cons x l ih=>
  cases j with
  |zero=>exact l9 _
  |succ j=>
   have h:j < l.length:=by simpa using h
   simp only[List.getElem_cons_succ,List.eraseIdx_cons_succ]
   exact((ih h).cons x).trans (List.Perm.swap _ _ _)
theorem ES{kt vt:Ty}{l:List (kt.den×vt.den)}{j:Nat}(h:j < l.length):qO kt vt l j=l[j]:=by
 simp[qO,aA,cj h]
theorem Fq{l:List (cd×dP)}(h:∀p∈l,0<=p.2.1.1):0<=kI l:=by
 induction l with
 |nil=>simp[kI]
 |cons p l ih=>
  rw[lE]
  have:=h p (aH ..)
  have:=ih λq hq=>h q (aF _ hq)
  omega
def gz.L0.aM:gz.L0.D->Prop:=λ(n,_,_,_,rest,out)=>n=out.length/\out.length+rest.length<=1000000
def gz.L0.Fi:gz.L0.D->gz.L0.Y->Prop:=λ(_,_,_,_,rest,out) (m,out')=>m=out'.length/\out'.Perm (out++rest.map (·.1))
def gz.aM:gz.D->Prop:=λ(_,a,_)=>a.length<=1000000/\∀p∈a,Qv p.1
def gz.F:gz.D->gz.Y:=λ(n,a,s)=>(a.length,n,a,s,zW (t:=b8) FI (a.map (·.1)))
def gz.L0.E:=eE.RI gz.L0.st gz.L0.aM gz.L0.add gz.L0.Fi gz.L0.out
def gz:Fs Tryz.prog gz.aM bP gz.F:=gC 28 Tryz.f28 (λ(o0baL,o1,o2)=>([.ptr (.aV 0) 0 [] 0],[.obj 0 false (.pr (.db (.aV 1) 0) (.pr (.aS (.aV 2) 0 [] 0 0 o0baL) (.d .unit ()))),.obj 0 false (.mp b8 eR o1),.obj 0 false (.vec 161 cE o2)])) (λx=>⟨.aS (.new 0 0) 0 [] 0 0 x.1,[.obj 0 false (.pr (.db (.aV 1) 0) (.pr (.aS (.aV 2) 0 [] 0 0 x.2.1) (.d .unit ()))),.obj 0 false (.mp b8 eR x.2.2.1),.obj 0 false (.vec 161 cE x.2.2.2.1)],[.obj 0 false (.vec 47 b8 x.2.2.2.2)]⟩) [none] [R8.sg] {loops:=pz [(3,{bo:=[3,9],sites:=[9,17],owns:=[⟨3,[],17,58⟩],Up:=[9]})],outs:=py [(3,{bo:=[3],sites:=[17]},{bo:=[2]})],iX:=qg [(3,gz.L0.E)]}
theorem gz.run:gz.RS:=rE [.n,.d (.slice (.pair b8 eR)),.d (.slice cE)] gz
abbrev dV.L0.D:=Int×Nat×(List (cd×dP))×(List cn)×(List (cd×dP))
abbrev dV.L0.Y:=Int
abbrev dV.L0.X:=(Nat×(List (cd×dP))×(List cn))×(Int)
def dV.L0.add:dV.L0.D->dV.L0.Y->dV.L0.X:=λ(sum,o0L,eQ,eA,n10) y=>((o0L,eQ,eA),y)
abbrev dV.D:=Nat×(List (cd×dP))×(List cn)
abbrev dV.Y:=Int×Nat×(List (cd×dP))×(List cn)
def dV.L0.aM:dV.L0.D->Prop:=λ(sum,_,_,_,rest)=>0<=sum/\(∀p∈rest,0<=p.2.1.1)/\sum+kI rest<=1000000000000000000
def dV.L0.F:dV.L0.D->dV.L0.Y:=λ(sum,_,_,_,rest)=>sum+kI rest
def dV.aM:dV.D->Prop:=λ(_,a,_)=>(∀p∈a,0<=p.2.1.1)/\kI a<=1000000000000000000
def dV.F:dV.D->dV.Y:=λ(n,a,s)=>(kI a,n,a,s)
def dV.L0:Ls dV.L0.aM dV.L0.add dV.L0.F:=rY (λ(sum,o0L,eQ,eA,n10)=>⟨([.undef,.undef,.undef,.d ti sum]++aT 6 ([.ptr (.new 10 0) 0 [] 0]++aT 10 [])),[.obj 0 false (.pr (.db (.aV 1) 0) (.pr (.aS (.aV 2) 0 [] 0 0 o0L) (.d .unit ()))),.obj 0 true (.mp b8 eR eQ),.obj 0 false (.vec 161 cE eA)],(ct 10 ([[.obj 0 false (.nH (.aV 1) 1 b8 eR n10 none)]]++ct 10 []))⟩) (λx=>(.exit 0,⟨([.undef,.undef,.undef,.d ti x.2]++aT 17 []),[.obj 0 false (.pr (.db (.aV 1) 0) (.pr (.aS (.aV 2) 0 [] 0 0 x.1.1) (.d .unit ()))),.obj 0 false (.mp b8 eR x.1.2.1),.obj 0 false (.vec 161 cE x.1.2.2)],(List.replicate 21 [])⟩))
def dV:Fs Tryz.prog dV.aM bP dV.F:=gC 24 Tryz.f24 (λ(o0baL,o1,o2)=>([.ptr (.aV 0) 0 [] 0],[.obj 0 false (.pr (.db (.aV 1) 0) (.pr (.aS (.aV 2) 0 [] 0 0 o0baL) (.d .unit ()))),.obj 0 false (.mp b8 eR o1),.obj 0 false (.vec 161 cE o2)])) (λx=>⟨.d ti x.1,[.obj 0 false (.pr (.db (.aV 1) 0) (.pr (.aS (.aV 2) 0 [] 0 0 x.2.1) (.d .unit ()))),.obj 0 false (.mp b8 eR x.2.2.1),.obj 0 false (.vec 161 cE x.2.2.2)],[]⟩) [none] [] {loops:=pz [(3,{bo:=[3,10],sites:=[10],Up:=[10]})],outs:=py [(3,{bo:=[3]},{bo:=[2]})],iX:=qg [(3,dV.L0.E)]}
theorem dV.L0.run:dV.L0.RS:=rL [.d ti,.n,.d (.slice (.pair b8 eR)),.d (.slice cE),.d (.slice (.pair b8 eR))] dV.L0
theorem dV.L0.step{R:Type}(sum o0L eQ eA n10)(kn:K2 R)(kx:K3 R):dV.R 0 dV.L0 (sum,o0L,eQ,eA,n10) kn kx=
  aP (decide (0 < (List.length n10))) (
   OC (List.length n10) λj1=>
   kn (dV.L0.st ((cG .i64 sum (qO b8 eR n10 j1).2.1.1),o0L,eQ,eA,(List.eraseIdx n10 j1)))) (
   dV.L0.go kx ((o0L,eQ,eA),sum)):=by kernel_rfl
theorem dV.eq{R:Type}(o0baL o1 o2)(k:K1 R):dV.A (o0baL,o1,o2) k=
 ah (dV.L0.call (0,o0baL,o1,o2,o1)) λx2=>
 k (dV.out (x2.2,x2.1.1,x2.1.2.1,x2.1.2.2)):=by kernel_rfl
theorem dV.L0.ok:(dV.mL 0 dV.L0):=by
 refine(dV.UC 0 dV.L0) (λ(_,_,_,_,rest)=>rest.length) ?_
 rintro⟨sum,o,a,s,rest⟩ ⟨h0,hn,hm⟩
 have h0:0<=sum:=h0
 have hm:sum+kI rest<=1000000000000000000:=hm
 by_cases h:0 < rest.length
 ·left
  have key:∀j,(hj:j < rest.length)->rest[j].2.1.1+kI (rest.eraseIdx j)=kI rest:=λj hj=>by rw[<-lE];exact yr (AE hj).symm
  refine⟨rest.length,λj=>(cG .i64 sum (qO b8 eR rest j).2.1.1,o,a,s,rest.eraseIdx j),h,λj hj=> ?_,λkn kx=> ?_⟩
  ·have hk:=key j hj
   have hx:=hn _ (aL hj)
   have hr:∀p∈rest.eraseIdx j,0<=p.2.1.1:=λp hp=>hn p ((List.eraseIdx_sublist rest j).subset hp)
   have:=Fq hr
   have e1:cG .i64 sum (qO b8 eR rest j).2.1.1=sum+rest[j].2.1.1:=by rw[ES hj];exact fX (by omega) (by omega)
   refine⟨⟨?_,hr,?_⟩,?_,?_⟩
   ·show 0<=cG .i64 sum _;rw[e1];omega
   ·show cG .i64 sum _+kI (rest.eraseIdx j)<=_;rw[e1];omega
   ·show(rest.eraseIdx j).length < rest.length
    rw[List.length_eraseIdx,if_pos hj];omega
   ·simp only[dV.L0.add,dV.L0.F,e1]
    rw[<-hk,Int.add_assoc]
  ·rw[dV.L0.step,aY h,ag]
 ·right
  obtain rfl:rest=[]:=bF (by omega)
  intro T kn kx
  rw[dV.L0.step,cH h,al]
  simp only[dV.L0.add,dV.L0.F,kI,ij,List.sum_nil,Int.add_zero]
theorem dV.ok:dV.Ok:=by
 rintro⟨n,a,s⟩ ⟨hn,hm⟩
 have hm:kI a<=_:=hm
 rw[dV.eq,dV.L0.run (d:=(0,n,a,s,a)) ⟨kS _,hn,by show 0+kI a<=_;omega⟩]
 simp only[ab,dV.L0.add,dV.L0.F,bP,dV.F,Int.zero_add]
theorem dV.run:dV.RS:=rE [.n,.d (.slice (.pair b8 eR)),.d (.slice cE)] dV
def dV.sg:=dV.gG dV.ok 1 ⟨.iR dV.L0.ok,trivial⟩
abbrev iQ.D:=Nat×(List cn)
abbrev iQ.Y:=Nat×(List cn)
abbrev iQ.X:=((List cn))×(Nat×(List cn))
def iQ.add:iQ.D->iQ.Y->iQ.X:=λ(sL,o0) y=>(o0,y)
def iQ.aM:iQ.D->Prop:=λ(n,l)=>n<=l.length/\l.length<=1000000
def iQ.F:iQ.D->iQ.Y:=λ(n,l)=>((l.take n).length,l.take n)
def iQ:Fs Tryz.prog iQ.aM iQ.add iQ.F:=gC 90 Tryz.f90 (λ(sL,o0)=>([.aS (.aV 0) 0 [] 0 0 sL],[.obj 0 false (.vec 161 cE o0)])) (λx=>⟨.aS (.new 0 0) 0 [] 0 0 x.2.1,[.obj 0 false (.vec 161 cE x.1)],[.obj 0 false (.vec 161 cE x.2.2)]⟩) [none] [] {bK:=[5],owns:=[⟨2,[],5,148⟩]}
theorem iQ.eq{R:Type}(sL o0)(k:K1 R):iQ.A (sL,o0) k=
  aP (decide (0 < sL)) (
   aP (decide (0=0/\(0+sL)<=(List.length o0))) (
   aP (dZ (0+(List.length (cut o0 0 sL))) 48) (
   k (iQ.out (o0,((0+(List.length (cut o0 0 sL))),((List.take 0 (List.replicate 0 (([]:List Ja),(([]:List cd),()))))++(cut o0 0 sL)))))) none) none) (
   nd (
    k (iQ.out (o0,(0,([]:List cn))))) (
    aP (decide (0=0/\(0+sL)<=(List.length o0))) (
    aP (dZ (0+(List.length (cut o0 0 sL))) 48) (
    k (iQ.out (o0,((0+(List.length (cut o0 0 sL))),((List.take 0 (List.replicate 0 (([]:List Ja),(([]:List cd),()))))++(cut o0 0 sL)))))) none) none)):=by kernel_rfl
theorem iQ.ok:iQ.Ok:=by
 rintro⟨n,l⟩ ⟨h1,h2⟩
 have h1:n<=l.length:=h1
 have h2:l.length<=1000000:=h2
 have ec:cut l 0 n=l.take n:=by simp[cut]
 have ht:(l.take n).length<=1000000:=by rw[bQ];omega
 have hr:dZ (l.take n).length 48=true:=fg (by omega) (by omega)
 rw[iQ.eq]
 simp only[aI,ec,hr,ag,eF,aR,true_and,aY h1,iQ.add,iQ.F]
 by_cases h:0 < n
 ·simp only[aY h,ag]
 ·have:n=0:=by omega
  subst this
  simp only[eF,bn,aK,decide_true,ag,qN,cH (gE 0),al]
theorem iQ.run:iQ.RS:=rE [.n,.d (.slice cE)] iQ
def iQ.sg:=iQ.Vw DX iQ.ok
abbrev df.L0.D:=Nat×(List (cd×dP))×(List cn)×(List (cd×dP))×(List cn)×Nat×(List (cd×dP))
abbrev df.L0.Y:=(List (cd×dP))
abbrev df.L0.X:=(Nat×(List (cd×dP))×(List cn)×(List cn)×Nat)×((List (cd×dP)))
def df.L0.add:df.L0.D->df.L0.Y->df.L0.X:=λ(o0L,eQ,eA,n6,n11,uq,n18) y=>((o0L,eQ,eA,n11,uq),y)
abbrev df.D:=Nat×(List (cd×dP))×(List cn)
abbrev df.Y:=Nat×(List (cd×dP))×(List cn)×Nat×(List (cd×dP))×(List cn)
def df.L0.aM:df.L0.D->Prop:=λ(_,_,_,m,_,_,rest)=>((m++rest).map (·.1)).Nodup
def df.L0.F:df.L0.D->df.L0.Y:=λ(_,_,_,m,_,_,rest)=>iM (m++rest)
def df.aM:df.D->Prop:=λ(n,a,s)=>n<=s.length/\s.length<=1000000/\(a.map (·.1)).Nodup
def df.F:df.D->df.Y:=λ(n,a,s)=>(n,a,s,(s.take n).length,iM a,s.take n)
def df.L0:Ls df.L0.aM df.L0.add df.L0.F:=rY (λ(o0L,eQ,eA,n6,n11,uq,n18)=>⟨([.undef,.undef,.undef,.ptr (.new 13 0) 0 [] 0]++aT 14 ([.ptr (.new 18 0) 0 [] 0]++aT 12 [])),[.obj 0 false (.pr (.db (.aV 1) 0) (.pr (.aS (.aV 2) 0 [] 0 0 o0L) (.d .unit ()))),.obj 0 true (.mp b8 eR eQ),.obj 0 false (.vec 161 cE eA)],(ct 6 ([[.obj 0 false (.mp b8 eR n6)]]++ct 4 ([[.obj 0 false (.vec 161 cE n11)],[],[.obj 0 false (.pr (.db (.new 6 0) 0) (.pr (.aS (.new 11 0) 0 [] 0 0 uq) (.d .unit ())))]]++ct 4 ([[.obj 0 false (.nH (.aV 1) 1 b8 eR n18 none)]]++ct 12 []))))⟩) (λx=>(.exit 0,⟨([.undef,.undef,.undef,.ptr (.new 13 0) 0 [] 0]++aT 27 []),[.obj 0 false (.pr (.db (.aV 1) 0) (.pr (.aS (.aV 2) 0 [] 0 0 x.1.1) (.d .unit ()))),.obj 0 false (.mp b8 eR x.1.2.1),.obj 0 false (.vec 161 cE x.1.2.2.1)],(ct 6 ([[.obj 0 false (.mp b8 eR x.2)]]++ct 4 ([[.obj 0 false (.vec 161 cE x.1.2.2.2.1)],[],[.obj 0 false (.pr (.db (.new 6 0) 0) (.pr (.aS (.new 11 0) 0 [] 0 0 x.1.2.2.2.2) (.d .unit ())))]]++ct 17 [])))⟩))
def df:Fs Tryz.prog df.aM bP df.F:=gC 39 Tryz.f39 (λ(o0baL,o1,o2)=>([.ptr (.aV 0) 0 [] 0],[.obj 0 false (.pr (.db (.aV 1) 0) (.pr (.aS (.aV 2) 0 [] 0 0 o0baL) (.d .unit ()))),.obj 0 false (.mp b8 eR o1),.obj 0 false (.vec 161 cE o2)])) (λx=>⟨.ptr (.new 0 0) 0 [] 0,[.obj 0 false (.pr (.db (.aV 1) 0) (.pr (.aS (.aV 2) 0 [] 0 0 x.1) (.d .unit ()))),.obj 0 false (.mp b8 eR x.2.1),.obj 0 false (.vec 161 cE x.2.2.1)],[.obj 0 false (.pr (.db (.new 0 1) 0) (.pr (.aS (.new 0 2) 0 [] 0 0 x.2.2.2.1) (.d .unit ()))),.obj 0 false (.mp b8 eR x.2.2.2.2.1),.obj 0 false (.vec 161 cE x.2.2.2.2.2)]⟩) [none] [iQ.sg] {bK:=[13],loops:=pz [(3,{bo:=[3,18],sites:=[6,11,13,18],Up:=[18]})],outs:=py [(3,{bo:=[3],sites:=[6,11,13],QM:=[(.new 6 0)]},{bo:=[2]})],iX:=qg [(3,df.L0.E)]}
theorem df.L0.run:df.L0.RS:=rL [.n,.d (.slice (.pair b8 eR)),.d (.slice cE),.d (.slice (.pair b8 eR)),.d (.slice cE),.n,.d (.slice (.pair b8 eR))] df.L0
theorem df.L0.step{R:Type}(o0L eQ eA n6 n11 uq n18)(kn:K2 R)(kx:K3 R):df.R 0 df.L0 (o0L,eQ,eA,n6,n11,uq,n18) kn kx=
  aP (decide (0 < (List.length n18))) (
   OC (List.length n18) λj1=>
   kn (df.L0.st (o0L,eQ,eA,(iT b8 (qO b8 eR n18 j1).1 (qO b8 eR n18 j1).2 n6),n11,uq,(List.eraseIdx n18 j1)))) (
   df.L0.go kx ((o0L,eQ,eA,n11,uq),(iM n6))):=by kernel_rfl
theorem df.eq{R:Type}(o0baL o1 o2)(k:K1 R):df.A (o0baL,o1,o2) k=
 ah (iQ.call (o0baL,o2)) λx1=>
 ah (df.L0.call (o0baL,o1,x1.1,([]:List (cd×dP)),x1.2.2,x1.2.1,o1)) λx3=>
 k (df.out (x3.1.1,x3.1.2.1,x3.1.2.2.1,x3.1.2.2.2.2,x3.2,x3.1.2.2.2.1)):=by kernel_rfl
theorem df.L0.ok:(df.mL 0 df.L0):=by
 refine(df.UC 0 df.L0) (λ(_,_,_,_,_,_,rest)=>rest.length) ?_
 rintro⟨n,a,s,m,u,k0,rest⟩ hn
 have hn:((m++rest).map (·.1)).Nodup:=hn
 by_cases h:0 < rest.length
 ·left
  have e1:∀j,j < rest.length->iT b8 (qO b8 eR rest j).1 (qO b8 eR rest j).2 m=m++ [qO b8 eR rest j]:=λj hj=>by
   rw[rZ jP]
   intro hm
   rw[List.map_append,List.nodup_append]at hn
   exact hn.2.2 _ hm _ (eJ.2 ⟨_,aL hj,by rw[ES hj]⟩) rfl
  have e2:∀j,j < rest.length->(m++ [qO b8 eR rest j]++rest.eraseIdx j).Perm (m++rest):=λj hj=>by
   rw[aD,ES hj]
   exact List.Perm.append_left _ (AE hj).symm
  refine⟨rest.length,λj=>(n,a,s,iT b8 (qO b8 eR rest j).1 (qO b8 eR rest j).2 m,u,k0,rest.eraseIdx j),h,λj hj=>⟨?_,?_,?_⟩,λkn kx=> ?_⟩
  ·show((iT b8 (qO b8 eR rest j).1 (qO b8 eR rest j).2 m++rest.eraseIdx j).map (·.1)).Nodup
   rw[e1 j hj]
   exact(((e2 j hj).map _).nodup_iff).2 hn
  ·show(rest.eraseIdx j).length < rest.length
   rw[List.length_eraseIdx,if_pos hj];omega
  ·simp only[df.L0.add,df.L0.F,e1 j hj]
   rw[Km (e2 j hj)]
  ·rw[df.L0.step,aY h,ag]
 ·right
  obtain rfl:rest=[]:=bF (by omega)
  intro T kn kx
  rw[df.L0.step,cH h,al]
  simp only[df.L0.add,df.L0.F,bS]
theorem df.ok:df.Ok:=by
 rintro⟨n,a,s⟩ ⟨h1,h2,h3⟩
 have h1:n<=s.length:=h1
 have h2:s.length<=1000000:=h2
 rw[df.eq,iQ.run (d:=(n,s)) ⟨h1,h2⟩]
 simp only[ab,iQ.add,iQ.F]
 rw[df.L0.run (d:=(n,a,s,[],s.take n,(s.take n).length,a)) h3]
 simp only[ab,df.L0.add,df.L0.F,bP,df.F,aR]
theorem df.run:df.RS:=rE [.n,.d (.slice (.pair b8 eR)),.d (.slice cE)] df
def df.sg:=df.gG df.ok 1 ⟨.iR df.L0.ok,trivial⟩
abbrev gv.L0.D:=kO×Nat×Nat×Int×Int×Int×(List oV)
abbrev gv.L0.Y:=(List oV)×(List oV)
abbrev gv.L0.X:=(kO×Int)×((List oV)×(List oV))
def gv.L0.add:gv.L0.D->gv.L0.Y->gv.L0.X:=λ(RQ,lL,sV,t11,t12,n2,n9) y=>((RQ,n2),y)
abbrev gv.D:=kO
abbrev gv.Y:=kO
def VD(l:Lk):Prop:=l.1.length<=1000/\∀b∈l.1,b.1.length<=1000000
def gv.L0.aM:gv.L0.D->Prop:=λ(_,n,m,t,i,_,l)=>(l.length<=1000/\∀b∈l,b.1.length<=1000000)/\∃k:Nat,k<=l.length/\i=k/\n=l.length/\m=l.length/\t=l.length
def gv.L0.F:gv.L0.D->gv.L0.Y:=λ(_,_,_,_,_,_,l)=>(l,l)
def gv.aM:gv.D->Prop:=λo=>VD o.2.1
def gv.F:gv.D->gv.Y:=λo=>o
def gv.L0:Ls gv.L0.aM gv.L0.add gv.L0.F:=rY (λ(RQ,lL,sV,t11,t12,n2,n9)=>⟨([.undef,.eD lO RQ,.ptr (.new 2 0) 0 [] 0,.aS (.new 9 0) 0 [] 0 0 lL]++aT 6 ([.aS (.new 9 0) 0 [] 0 0 sV,.d ti t11,.d ti t12]++aT 17 [])),[],([[],[],[.obj 0 false (.pr (.d ti n2) (.pr (.pr (.di) (.d .unit ())) (.d .unit ())))]]++ct 6 ([[.obj 0 false (.vec 29 oK n9)]]++ct 20 []))⟩) (λx=>(.exit 0,⟨([.undef,.eD lO x.1.1,.ptr (.new 2 0) 0 [] 0,.d (.slice oK) x.2.1]++aT 26 []),[],([[],[],[.obj 0 false (.pr (.d ti x.1.2) (.pr (.pr (.di) (.d .unit ())) (.d .unit ())))]]++ct 6 ([[.obj 0 true (.vec 29 oK x.2.2)]]++ct 20 []))⟩))
def gv:Fs Tryz.prog gv.aM bP gv.F:=gC 78 Tryz.f78 (λo=>([.d lO o],[])) (λx=>⟨.d lO x,[],[]⟩) [some lO] [mX.sg,fY.sg] {loops:=pz [(3,{bo:=[1,2,3,10,11,12],sites:=[2,9]})],outs:=py [(3,{bo:=[1,2,3],sites:=[2,9],data:=[(3,(.slice oK))]},{bo:=[2]})],iX:=qg [(3,gv.L0.E)],res:=[some lO]}
theorem gv.L0.run:gv.L0.RS:=rL [.d lO,.n,.n,.d ti,.d ti,.d ti,.d (.slice oK)] gv.L0
theorem gv.L0.step{R:Type}(RQ lL sV t11 t12 n2 n9)(kn:K2 R)(kx:K3 R):gv.R 0 gv.L0 (RQ,lL,sV,t11,t12,n2,n9) kn kx=
  aP ((jx t12 t11)) (
   aP (jn t12 ((sV:Nat):Int)) (
   aP (decide ((0+(Int.toNat t12)) < (List.length n9))) (
   aP (decide ((((0+(Int.toNat t12))*4)+0)=(0+((Int.toNat t12)*4)))) (
   ah (fY.call (nth oK n9 (0+(Int.toNat t12))).1) λx1=>
   aP (jn t12 ((lL:Nat):Int)) (
   aP (decide ((0+(Int.toNat t12)) < (List.length n9))) (
   aP (decide ((((0+(Int.toNat t12))*4)+0)=((0+((Int.toNat t12)*4))+0))) (
   aP (decide ((0+(Int.toNat t12)) < (List.length n9))) (
   kn (gv.L0.st (RQ,lL,sV,t11,(cG .i64 t12 1),n2,(List.set n9 (0+(Int.toNat t12)) (x1,(nth oK n9 (0+(Int.toNat t12))).2))))) none) none) none) none) none) none) none) (
   aP (decide (0=0/\(0+lL)<=(List.length n9))) (
   gv.L0.go kx ((RQ,n2),((cut n9 0 lL),n9))) none):=by kernel_rfl
theorem gv.eq{R:Type}(o)(k:K1 R):gv.A o k=
 ah (mX.call o.2.1.1) λx1=>
 ah (gv.L0.call (o,x1.1,x1.1,((x1.1:Nat):Int),0,0,x1.2)) λx3=>
 k (gv.out (x3.1.1.1,((x3.2.1,()),()))):=by kernel_rfl
theorem gv.L0.ok:(gv.mL 0 gv.L0):=by
 refine(gv.oH 0 gv.L0) (λ(_,_,_,_,i,_,l)=>l.length - i.toNat) ?_
 rintro⟨o,n,m,t,i,u,l⟩ ⟨⟨hlen,hx⟩,k,hk,rfl,rfl,rfl,rfl⟩
 have hlen:l.length<=1000:=hlen
 have hk:k<=l.length:=hk
 by_cases h:k < l.length
 ·left
  have n1:nth oK l k=l[k]:=dz (t:=oK) h
  have hs:l.set k l[k]=l:=gB h
  have e:=hx _ (aL h)
  refine⟨(o,l.length,l.length,(l.length:Int),((k+1:Nat):Int),u,l),⟨⟨hlen,hx⟩,k+1,by omega,rfl,rfl,rfl,rfl⟩,by simp only[aa];omega,rfl,λkn kx=> ?_⟩
  rw[gv.L0.step,bg (by omega),bG (by omega) (by omega)]
  simp only[aa,aI,cF,ag,aY h,decide_true,n1]
  rw[fY.run (d:=l[k].1) e]
  simp only[ab,bP,fY.F]
  rw[N.p9 (by omega)]
  exact congrArg (λz=>kn (gv.L0.st (_,_,_,_,_,_,z))) hs
 ·right
  obtain rfl:k=l.length:=by omega
  intro R kn kx
  rw[gv.L0.step,aX (by omega),al,aY (by omega),ag,gI rfl]
  rfl
theorem gv.ok:gv.Ok:=by
 rintro⟨a,⟨l,u⟩,v⟩ ⟨h1,h2⟩
 have h1:l.length<=1000:=h1
 rw[gv.eq,mX.run (d:=l) (by show l.length<=_;omega)]
 simp only[ab,bP,mX.F]
 rw[gv.L0.run (d:=((a,(l,u),v),l.length,l.length,(l.length:Int),0,0,l)) ⟨⟨h1,h2⟩,0,aK _,rfl,rfl,rfl,rfl⟩]
 rfl
theorem gv.run:gv.RS:=rE [.d lO] gv
def gv.sg:=gv.gG gv.ok 1 ⟨.iR gv.L0.ok,trivial⟩
abbrev bw.L0.D:=Int×(List kO)×Int×Int×(List (cd×dP))
def bw.L0.st:bw.L0.D->AS:=λ(sum,t13,t14,t15,n10)=>⟨([.undef,.undef,.undef,.ptr (.new 12 0) 0 [] 0,.d ti sum]++aT 8 ([.d (.slice lO) t13,.d ti t14,.d ti t15]++aT 35 [])),[],(ct 10 ([[.obj 0 false (.mp b8 eR n10)],[],[.obj 0 false (.pr (.db (.new 10 0) 0) (.pr (.di) (.d .unit ())))]]++ct 38 []))⟩
abbrev bw.L0.Y0:=Unit
abbrev bw.L0.X0:=Unit
def bw.L0.eG:bw.L0.X0->Exit×AS:=λx=>(.ret,⟨([.undef,.undef,.mO]++aT 48 []),[],(List.replicate 51 [])⟩)
abbrev bw.L0.Y1:=(List (cd×dP))
abbrev bw.L0.X1:=(List (cd×dP))
def bw.L0.gZ:bw.L0.X1->Exit×AS:=λx=>(.exit 0,⟨([.undef,.undef,.undef,.ptr (.new 12 0) 0 [] 0]++aT 47 []),[],(ct 10 ([[.obj 0 false (.mp b8 eR x)],[],[.obj 0 false (.pr (.db (.new 10 0) 0) (.pr (.di) (.d .unit ())))]]++ct 38 []))⟩)
abbrev bw.L0.X:=(bw.L0.X0)⊕(bw.L0.X1)
abbrev bw.L0.Y:=(bw.L0.Y0)⊕(bw.L0.Y1)
def bw.L0.out:bw.L0.X->Out (Exit×AS):=λx=> .br x.isLeft (.get x.getLeft? λa=> .ok (bw.L0.eG a)) (.get x.getRight? λb=> .ok (bw.L0.gZ b))
def bw.L0.add:bw.L0.D->bw.L0.Y->bw.L0.X:=λ(sum,t13,t14,t15,n10) y=>match y with | .inl y=> .inl y | .inr z=> .inr (z)
abbrev bw.D:=(List kO)
def bw.st:bw.D->SA:=λouts=>([.d (.slice lO) outs],[])
abbrev bw.Y:=(Unit)⊕((List (cd×dP))×(List cn))
abbrev bw.X:=(Unit)⊕((List (cd×dP))×(List cn))
def bw.out:bw.X->gV:=λx=>match x with | .inl x=>⟨.mO,[],[]⟩ | .inr x=>⟨.ptr (.new 0 0) 0 [] 0,[],[.obj 0 false (.pr (.db (.new 0 1) 0) (.pr (.aS (.new 0 2) 0 [] 0 0 0) (.d .unit ()))),.obj 0 false (.mp b8 eR x.1),.obj 0 false (.vec 161 cE x.2)]⟩
def bw.add:bw.D->bw.Y->bw.X:=λouts y=>match y with | .inl y=> .inl y | .inr y=> .inr y
def tW(k:Nat)(o:kO):cd×dP:=((List.replicate 32 (0:Int),((k:Int),())),(o,((0:Int),())))
def wT(sum:Int)(o:kO):Bool:=lN o.2.1 && decide (0<=o.1/\o.1<=1125899906842624 - sum)
def EP(sum:Int)(k:Nat):List kO->Option (List (cd×dP))
 |[]=>some []
 |o::l=>match wT sum o with | true=>(EP (sum+o.1) (k+1) l).map (tW k o:: ·) | false=>none
def K5(outs:List kO):Option (List (cd×dP)):=if outs.length<=256 then EP 0 0 outs else none
def Qw(o:kO):Prop:=J6 o.2.1/\o.2.1.1.length<=9223372036854775807/\o.1<=9223372036854775807
def bw.L0.aM:bw.L0.D->Prop:=λ(sum,outs,n,i,a)=>(∀o∈outs,Qw o)/\outs.length<=256/\0<=sum/\sum<=1125899906842624/\∃k:Nat,k<=outs.length/\i=k/\n=outs.length/\∀p∈a,p.1.2.1 < (k:Int)
def bw.L0.F:bw.L0.D->bw.L0.Y:=λ(sum,outs,_,i,a)=>match EP sum i.toNat (outs.drop i.toNat) with | none=> .inl () | some r=> .inr (a++r)
def bw.aM:bw.D->Prop:=λouts=>∀o∈outs,Qw o
def bw.F:bw.D->bw.Y:=λouts=>match K5 outs with | none=> .inl () | some r=> .inr (r,[])
def bw.G:mR:=oo (P:=Tryz.prog) [aW.sg,gv.sg]
def bw.L0.E:=eE.iR bw.L0.st bw.L0.aM bw.L0.add bw.L0.F bw.L0.out
def bw.L0.call:bw.L0.D->Option bw.L0.X:=j9 bw.L0.E bw.L0.st
def bw.an:rN:= {bK:=[12],loops:=pz [(5,{bo:=[3,4,13,14,15],sites:=[10,12]})],outs:=py [(5,{bo:=[3],sites:=[10,12]},{bo:=[2]})],iX:=qg [(5,bw.L0.E)],owns:=[⟨2,[.snd,.fst],0,148⟩]}
def bw.A:= @zK Tryz.prog bw.G bw.an 0 Tryz.f27 _ bw.st
abbrev bw.Ok:=CC @bw.A bw.aM bw.add bw.F bw.out
def bw.L0.R:= @gN Tryz.prog bw.G bw.an 0 Tryz.f27 0 _ bw.L0.st
abbrev bw.L0.Ok:=mS Tryz.prog bw.G bw.an 0 Tryz.f27 0 bw.L0.st bw.L0.aM bw.L0.add bw.L0.F bw.L0.out
theorem bw.L0.run:kF bw.L0.call bw.L0.aM bw.L0.add bw.L0.F:=oU (oR [.d ti,.d (.slice lO),.d ti,.d ti,.d (.slice (.pair b8 eR))] λ_=>by kernel_rfl)
theorem bw.L0.cM:qa @bw.L0.R bw.L0.st bw.L0.aM bw.L0.add bw.L0.F bw.L0.out bw.L0.Ok:=qD
theorem bw.L0.step{R:Type}(sum:Int)(t13:(List kO))(t14:Int)(t15:Int)(n10:(List (cd×dP)))(kn:AS->Option R)(kx:Exit->AS->Option R):bw.L0.R (sum,t13,t14,t15,n10) kn kx=
  aP ((jx t15 t14)) (
   aP (jn t15 (((List.length t13):Nat):Int)) (
   ah (aW.call (nth lO t13 (Int.toNat t15)).2.1) λx1=>
   aP ((!x1)) (
    kx (bw.L0.eG ()).1 (bw.L0.eG ()).2) (
    aP ((jx (nth lO t13 (Int.toNat t15)).1 (0:Int))) (
     kx (bw.L0.eG ()).1 (bw.L0.eG ()).2) (
     aP ((uL (nth lO t13 (Int.toNat t15)).1 (dJ .i64 (1125899906842624:Int) sum))) (
      kx (bw.L0.eG ()).1 (bw.L0.eG ()).2) (
      ah (gv.call (nth lO t13 (Int.toNat t15))) λx2=>
      kn (bw.L0.st ((cG .i64 sum (nth lO t13 (Int.toNat t15)).1),t13,t14,(cG .i64 t15 (1:Int)),(iT b8 ((List.replicate 32 (0:Int)),(t15,())) (x2,((0:Int),())) n10))))))) none) (
   kx (bw.L0.gZ n10).1 (bw.L0.gZ n10).2):=by kernel_rfl
theorem bw.eq{R:Type}(outs:(List kO))(k:gV->Option R):bw.A outs k=
  aP ((uL (((List.length outs):Nat):Int) (256:Int))) (
   k (bw.out (.inl ()))) (
   ah (bw.L0.call ((0:Int),outs,(((List.length outs):Nat):Int),(0:Int),([]:List (cd×dP)))) λx3=>
   aP (x3.isLeft) (
    ah (x3.getLeft?) λa4=>
    k (bw.out (.inl ()))) (
    ah (x3.getRight?) λb5=>
    k (bw.out (.inr (b5,([]:List cn)))))):=by kernel_rfl
theorem bw.L0.ok:bw.L0.Ok:=by
 refine bw.L0.cM (λ(_,outs,_,i,_)=>outs.length - i.toNat) ?_
 rintro⟨sum,outs,n,i,a⟩ ⟨hg,hl,h0,h1,k,hk,rfl,rfl,hf⟩
 have h0:0<=sum:=h0
 have h1:sum<=1125899906842624:=h1
 have hl:outs.length<=256:=hl
 have hk:k<=outs.length:=hk
 by_cases h:k < outs.length
 ·obtain⟨g1,g2,g3⟩:=hg _ (aL h)
  have n1:nth lO outs k=outs[k]:=dz (t:=lO) h
  have hd:outs.drop k=outs[k]::outs.drop (k+1):=ax h
  have hs:∀ {R:Type} (kn:AS->Option R) (kx:Exit->AS->Option R),bw.L0.R (sum,outs,(outs.length:Int),(k:Int),a) kn kx=
    aP (!(lN outs[k].2.1)) (kx (bw.L0.eG ()).1 (bw.L0.eG ()).2) (aP (jx outs[k].1 0) (kx (bw.L0.eG ()).1 (bw.L0.eG ()).2) (aP (uL outs[k].1 (1125899906842624 - sum)) (kx (bw.L0.eG ()).1 (bw.L0.eG ()).2)
     (ah (gv.call outs[k]) λx2=>kn (bw.L0.st ((cG .i64 sum outs[k].1),outs,(outs.length:Int),(cG .i64 (k:Int) (1:Int)),(iT b8 ((List.replicate 32 (0:Int)),((k:Int),())) (x2,((0:Int),())) a)))))):=λkn kx=>by
   rw[bw.L0.step,bg (by omega),ag,bG (by omega) (by omega),ag,aa,n1,aW.run (d:=outs[k].2.1) ⟨g1,g2⟩,fP (by omega) (by omega)]
   rfl
  by_cases jU:wT sum outs[k]=true
  ·left
   have hok':=jU
   unfold wT at hok'
   simp only[aj,decide_eq_true_eq]at hok'
   obtain⟨k1,k2,k3⟩:=hok'
   have Fc:=Bc k1
   refine⟨(sum+outs[k].1,outs,(outs.length:Int),((k+1:Nat):Int),a++ [tW k outs[k]]),⟨hg,hl,by show 0<=sum+outs[k].1;omega,by show sum+outs[k].1<=_;omega,k+1,by omega,rfl,rfl,λp hp=> ?_⟩,by simp only[aa];omega,?_,λkn kx=> ?_⟩
   ·rcases bt.1 hp with hp | hp
    ·have:=hf p hp;omega
    ·rw[bI.1 hp];show(k:Int) < _;omega
   ·simp only[bw.L0.add,bw.L0.F,aa,hd,EP,jU]
    cases EP (sum+outs[k].1) (k+1) (outs.drop (k+1)) with
    |none=>rfl
    |some r=>simp only[ee,aD,dN]
   ·rw[hs,k1,dj,al,aX (by omega),al,eC (by omega),al,gv.run (d:=outs[k]) ⟨by omega,λb hb=>by have:=Fc.2 b hb;omega⟩]
    simp only[ab,bP,gv.F]
    rw[fX (by omega) (by omega),N.p9 (by omega),rZ jP]
    ·rfl
    ·intro hm
     obtain⟨p,hp,he⟩:=eJ.1 hm
     have:=hf p hp
     have he:p.1=_:=he
     rw[he]at this
     have this:(k:Int) < k:=this
     omega
  ·right
   have OX:wT sum outs[k]=false:=by simpa using jU
   refine⟨bw.L0.eG (),?_,λkn kx=> ?_⟩
   rotate_left
   ·rw[hs]
    unfold wT at OX
    cases k1:lN outs[k].2.1 with
    |false=>rw[ia,ag]
    |true=>
     rw[k1]at OX
     simp only[ez,decide_eq_false_iff_not]at OX
     rw[dj,al]
     by_cases k2:outs[k].1 < 0
     ·rw[bg k2,ag]
     ·rw[aX k2,al,eY (by omega),ag]
   ·simp only[bw.L0.add,bw.L0.F,aa,hd,EP,OX]
    rfl
 ·right
  obtain rfl:k=outs.length:=by omega
  refine⟨bw.L0.gZ a,?_,λkn kx=> ?_⟩
  rotate_left
  ·rw[bw.L0.step,aX (by omega),al]
  ·simp only[bw.L0.add,bw.L0.F,aa,aZ,EP,bS]
   rfl
theorem bw.ok:bw.Ok:=by
 intro outs hg
 rw[bw.eq]
 simp only[bw.add,bw.F,K5]
 by_cases h:outs.length<=256
 ·rw[eC (by omega),al,bw.L0.run (d:=(0,outs,(outs.length:Int),0,[])) ⟨hg,h,by decide,by decide,0,aK _,rfl,rfl,λp hp=>by cases hp⟩,if_pos h]
  simp only[ab,bw.L0.add,bw.L0.F,bN,aJ]
  cases EP 0 0 outs with
  |none=>rfl
  |some r=>rfl
 ·rw[eY (by omega),ag,if_neg h]
def bw.E:=Entry.Bi [some (.slice lO)] bw.st bw.aM bw.add bw.F bw.out
def bw.call:bw.D->Option bw.X:=vU bw.E bw.st
theorem bw.run:kF bw.call bw.aM bw.add bw.F:=zF (EG [.d (.slice lO)] λ_=>by kernel_rfl)
def bw.sg:SG Tryz.prog:=⟨27,om,bw.E,.of (.PC (.fn 1 (by kernel_rfl) bw.ok (And.intro (.iR bw.L0.ok (by kernel_rfl)) trivial))) (by rfl)⟩
def U0(c:dP):Prop:=lN c.1.2.1=true/\J6 c.1.2.1/\0<=c.1.1/\c.1.1<=1125899906842624/\0<=c.2.1/\c.2.1<=1048576
def Fh(a:List (cd×dP)):Prop:=(a.map (·.1)).Nodup/\∀p∈a,Qv p.1/\U0 p.2
theorem Fh.get{a:List (cd×dP)}(h:Fh a){o:cd}{c:dP}(hg:dG b8 o a=some c):U0 c:=(h.2 _ ((kJ jP h.1).1 hg)).2
def Hp:dP:=((0,(([],()),())),(0,()))
theorem U0.own{c:dP}(h:U0 c):VD c.1.2.1:=by
 have:=Bc h.1
 exact⟨by omega,λb hb=>by have:=this.2 b hb;omega⟩
abbrev nN.D:=cd×Nat×(List (cd×dP))×(List cn)
abbrev nN.Y:=dP×Bool
abbrev nN.X:=(Nat×(List (cd×dP))×(List cn))×(dP×Bool)
def nN.add:nN.D->nN.Y->nN.X:=λ(o,o0baL,o1,o2) y=>((o0baL,o1,o2),y)
def nN.aM:nN.D->Prop:=λ(_,_,a,_)=>Fh a
def nN.F:nN.D->nN.Y:=λ(o,_,a,_)=>((dG b8 o a).getD Hp,(dG b8 o a).isSome)
def nN:Fs Tryz.prog nN.aM nN.add nN.F:=gC 34 Tryz.f34 (λ(o,o0baL,o1,o2)=>([.ptr (.aV 0) 0 [] 0,.d b8 o],[.obj 0 false (.pr (.db (.aV 1) 0) (.pr (.aS (.aV 2) 0 [] 0 0 o0baL) (.d .unit ()))),.obj 0 false (.mp b8 eR o1),.obj 0 false (.vec 161 cE o2)])) (λx=>⟨.cons (.d eR x.2.1) (.cons (.d .bool x.2.2) (.nil)),[.obj 0 false (.pr (.db (.aV 1) 0) (.pr (.aS (.aV 2) 0 [] 0 0 x.1.1) (.d .unit ()))),.obj 0 false (.mp b8 eR x.1.2.1),.obj 0 false (.vec 161 cE x.1.2.2)],[]⟩) [none,some b8] [gv.sg] {res:=[some eR,none]}
theorem nN.run:nN.RS:=rE [.d b8,.n,.d (.slice (.pair b8 eR)),.d (.slice cE)] nN
abbrev aG.L0.D:=Int×eZ×Int×(List kC)×Int×Int×Nat×(List (cd×dP))×(List cn)×Bs
def aG.L0.st:aG.L0.D->AS:=λ(fD,vC,lY,t35,t36,t37,o0L,eQ,eA,n8)=>⟨([.ptr (.aV 0) 0 [] 0,.undef,.d ti fD,.undef,.eD gU vC,.undef,.undef,.undef,.ptr (.new 8 0) 0 [] 0,.d ti lY]++aT 25 ([.d (.slice jo) t35,.d ti t36,.d ti t37]++aT 69 [])),[.obj 0 false (.pr (.db (.aV 1) 0) (.pr (.aS (.aV 2) 0 [] 0 0 o0L) (.d .unit ()))),.obj 0 false (.mp b8 eR eQ),.obj 0 false (.vec 161 cE eA)],(ct 8 ([[.obj 0 false (.d tH n8)]]++ct 98 []))⟩
abbrev aG.L0.Y0:=Int
abbrev aG.L0.X0:=(Nat×(List (cd×dP))×(List cn))×(Int)
def aG.L0.eG:aG.L0.X0->Exit×AS:=λx=>(.ret,⟨(aT 6 ([.d ti (0:Int),.d ti x.2]++aT 99 [])),[.obj 0 false (.pr (.db (.aV 1) 0) (.pr (.aS (.aV 2) 0 [] 0 0 x.1.1) (.d .unit ()))),.obj 0 false (.mp b8 eR x.1.2.1),.obj 0 false (.vec 161 cE x.1.2.2)],(List.replicate 107 [])⟩)
abbrev aG.L0.Y1:=Int
abbrev aG.L0.X1:=(eZ×Nat×(List (cd×dP))×(List cn))×(Int)
def aG.L0.gZ:aG.L0.X1->Exit×AS:=λx=>(.exit 0,⟨([.ptr (.aV 0) 0 [] 0,.undef,.undef,.undef,.eD gU x.1.1]++aT 4 ([.d ti x.2]++aT 97 [])),[.obj 0 false (.pr (.db (.aV 1) 0) (.pr (.aS (.aV 2) 0 [] 0 0 x.1.2.1) (.d .unit ()))),.obj 0 false (.mp b8 eR x.1.2.2.1),.obj 0 false (.vec 161 cE x.1.2.2.2)],(List.replicate 107 [])⟩)
abbrev aG.L0.X:=(aG.L0.X0)⊕(aG.L0.X1)
abbrev aG.L0.Y:=(aG.L0.Y0)⊕(aG.L0.Y1)
def aG.L0.out:aG.L0.X->Out (Exit×AS):=λx=> .br x.isLeft (.get x.getLeft? λa=> .ok (aG.L0.eG a)) (.get x.getRight? λb=> .ok (aG.L0.gZ b))
def aG.L0.add:aG.L0.D->aG.L0.Y->aG.L0.X:=λ(fD,vC,lY,t35,t36,t37,o0L,eQ,eA,n8) y=>match y with | .inl y=> .inl ((o0L,eQ,eA),y) | .inr z=> .inr (((vC,o0L,eQ,eA),z))
abbrev aG.L1.D:=eZ×Int×(List cd)×Int×Int×Nat×(List (cd×dP))×(List cn)
def aG.L1.st:aG.L1.D->AS:=λ(Ao,zd,t75,t76,t77,gY,mi,iJ)=>⟨([.ptr (.aV 0) 0 [] 0,.undef,.undef,.undef,.eD gU Ao]++aT 4 ([.d ti zd]++aT 65 ([.d (.slice b8) t75,.d ti t76,.d ti t77]++aT 29 []))),[.obj 0 false (.pr (.db (.aV 1) 0) (.pr (.aS (.aV 2) 0 [] 0 0 gY) (.d .unit ()))),.obj 0 false (.mp b8 eR mi),.obj 0 false (.vec 161 cE iJ)],(List.replicate 107 [])⟩
abbrev aG.L1.Y0:=Unit
abbrev aG.L1.X0:=Nat×(List (cd×dP))×(List cn)
def aG.L1.eG:aG.L1.X0->Exit×AS:=λx=>(.ret,⟨(aT 6 ([.d ti (0:Int),.d ti (4:Int)]++aT 99 [])),[.obj 0 false (.pr (.db (.aV 1) 0) (.pr (.aS (.aV 2) 0 [] 0 0 x.1) (.d .unit ()))),.obj 0 false (.mp b8 eR x.2.1),.obj 0 false (.vec 161 cE x.2.2)],(List.replicate 107 [])⟩)
abbrev aG.L1.Y1:=Unit
abbrev aG.L1.X1:=eZ×Int×Nat×(List (cd×dP))×(List cn)
def aG.L1.gZ:aG.L1.X1->Exit×AS:=λx=>(.exit 2,⟨(aT 4 ([.eD gU x.1]++aT 4 ([.d ti x.2.1]++aT 97 []))),[.obj 0 false (.pr (.db (.aV 1) 0) (.pr (.aS (.aV 2) 0 [] 0 0 x.2.2.1) (.d .unit ()))),.obj 0 false (.mp b8 eR x.2.2.2.1),.obj 0 false (.vec 161 cE x.2.2.2.2)],(List.replicate 107 [])⟩)
abbrev aG.L1.X:=(aG.L1.X0)⊕(aG.L1.X1)
abbrev aG.L1.Y:=(aG.L1.Y0)⊕(aG.L1.Y1)
def aG.L1.out:aG.L1.X->Out (Exit×AS):=λx=> .br x.isLeft (.get x.getLeft? λa=> .ok (aG.L1.eG a)) (.get x.getRight? λb=> .ok (aG.L1.gZ b))
def aG.L1.add:aG.L1.D->aG.L1.Y->aG.L1.X:=λ(Ao,zd,t75,t76,t77,gY,mi,iJ) y=>match y with | .inl y=> .inl (gY,mi,iJ) | .inr z=> .inr ((Ao,zd,gY,mi,iJ))
abbrev aG.L2.D:=Int×(List kO)×Int×Int×Nat×(List (cd×dP))×(List cn)
abbrev aG.L2.Y:=Int
abbrev aG.L2.X:=(Nat×(List (cd×dP))×(List cn))×(Int)
def aG.L2.add:aG.L2.D->aG.L2.Y->aG.L2.X:=λ(Dj,t93,t94,t95,BJ,Iy,Iz) y=>((BJ,Iy,Iz),y)
abbrev aG.D:=eZ×Int×Nat×(List (cd×dP))×(List cn)
abbrev aG.Y:=Int×Int×Nat×(List (cd×dP))×(List cn)
def rk(h:Int)(id:List Int)(a:List (cd×dP)):List kC->Int->Int⊕Int
 |[],lY=> .inr lY
 |x::l,lY=>match dG b8 x.1 a with
  |none=> .inl 5
  |some c=>if qv c.1.2.1 x.2.1 id h (h - c.2.1)≠0 then .inl (qv c.1.2.1 x.2.1 id h (h - c.2.1)) else rk h id a l (lY+c.1.1)
def pv(a:List (cd×dP))(o:cd):Bool:=(dG b8 o a).isSome
def mP(l:List kO):Int:=(l.map (·.1)).sum
def e7(t:eZ)(h:Int)(a:List (cd×dP)):Int×Int:=
 if jk t=true/\1<=h/\h<=1048576 then
  match rk h (lW t) a t.1 0 with
  | .inl e=>(0,e)
  | .inr lY=>if(iq t).any (pv a)=true then(0,4) else if lY - mP t.2.1 < 0 then(0,8) else(lY - mP t.2.1,0)
 else(0,1)
def aG.L0.aM:aG.L0.D->Prop:=λ(h,_,lY,l,n,i,_,a,_,id)=>(0<=h/\h<=1048576)/\Sm id/\l.length<=64/\(∀x∈l,XA x)/\Fh a/\∃k:Nat,k<=l.length/\i=k/\n=l.length/\0<=lY/\lY<=(k:Int)*1125899906842624
def aG.L0.F:aG.L0.D->aG.L0.Y:=λ(h,_,lY,l,_,i,_,a,_,id)=>rk h id a (l.drop i.toNat) lY
def aG.L1.aM:aG.L1.D->Prop:=λ(_,_,l,n,i,_,_,_)=>l.length<=1000/\∃k:Nat,k<=l.length/\i=k/\n=l.length
def aG.L1.F:aG.L1.D->aG.L1.Y:=λ(_,_,l,_,i,_,a,_)=>if(l.drop i.toNat).any (pv a)=true then .inl () else .inr ()
def aG.L2.aM:aG.L2.D->Prop:=λ(lY,l,n,i,_,_,_)=>l.length<=64/\(∀o∈l,0<=o.1/\o.1<=1125899906842624)/\∃k:Nat,k<=l.length/\i=k/\n=l.length/\ -((k:Int)*1125899906842624)<=lY/\lY<=1000000000000000000
def aG.L2.F:aG.L2.D->aG.L2.Y:=λ(lY,l,_,i,_,_,_)=>lY - mP (l.drop i.toNat)
def aG.aM:aG.D->Prop:=λ(t,_,_,a,_)=>rK t/\Fh a
def aG.F:aG.D->aG.Y:=λ(t,h,n,a,s)=>((e7 t h a).1,(e7 t h a).2,n,a,s)
def aG.L0.E:=eE.iR aG.L0.st aG.L0.aM aG.L0.add aG.L0.F aG.L0.out
def aG.L0.call:aG.L0.D->Option aG.L0.X:=j9 aG.L0.E aG.L0.st
def aG.L1.E:=eE.iR aG.L1.st aG.L1.aM aG.L1.add aG.L1.F aG.L1.out
def aG.L1.call:aG.L1.D->Option aG.L1.X:=j9 aG.L1.E aG.L1.st
def aG.L2:Ls aG.L2.aM aG.L2.add aG.L2.F:=rY (λ(Dj,t93,t94,t95,BJ,Iy,Iz)=>⟨(aT 9 ([.d ti Dj]++aT 83 ([.d (.slice lO) t93,.d ti t94,.d ti t95]++aT 11 []))),[.obj 0 false (.pr (.db (.aV 1) 0) (.pr (.aS (.aV 2) 0 [] 0 0 BJ) (.d .unit ()))),.obj 0 false (.mp b8 eR Iy),.obj 0 false (.vec 161 cE Iz)],(List.replicate 107 [])⟩) (λx=>(.exit 4,⟨(aT 9 ([.d ti x.2]++aT 97 [])),[.obj 0 false (.pr (.db (.aV 1) 0) (.pr (.aS (.aV 2) 0 [] 0 0 x.1.1) (.d .unit ()))),.obj 0 false (.mp b8 eR x.1.2.1),.obj 0 false (.vec 161 cE x.1.2.2)],(List.replicate 107 [])⟩))
def aG:Fs Tryz.prog aG.aM bP aG.F:=gC 29 Tryz.f29 (λ(t,height,o0baL,o1,o2)=>([.ptr (.aV 0) 0 [] 0,.d gU t,.d ti height],[.obj 0 false (.pr (.db (.aV 1) 0) (.pr (.aS (.aV 2) 0 [] 0 0 o0baL) (.d .unit ()))),.obj 0 false (.mp b8 eR o1),.obj 0 false (.vec 161 cE o2)])) (λx=>⟨.cons (.d ti x.1) (.cons (.d ti x.2.1) (.nil)),[.obj 0 false (.pr (.db (.aV 1) 0) (.pr (.aS (.aV 2) 0 [] 0 0 x.2.2.1) (.d .unit ()))),.obj 0 false (.mp b8 eR x.2.2.2.1),.obj 0 false (.vec 161 cE x.2.2.2.2)],[]⟩) [none,some gU,some ti] [az.sg,tid.sg,bR.sg,eI.sg] {loops:=pz [(5,{bo:=[0,2,4,8,9,35,36,37],sites:=[8]}),(16,{bo:=[0,4,9,75,76,77]}),(23,{bo:=[9,93,94,95]})],outs:=py [(5,{bo:=[0,4,9]},{bo:=[6,7]}),(16,{bo:=[4,9]},{bo:=[6,7]}),(23,{bo:=[9]},{bo:=[6,7]})],iX:=qg [(5,aG.L0.E),(16,aG.L1.E),(23,aG.L2.E)]}
def aG.L0.R:= @gN Tryz.prog (oo aG.G) aG.an 0 Tryz.f29 0 _ aG.L0.st
abbrev aG.L0.Ok:=mS Tryz.prog (oo aG.G) aG.an 0 Tryz.f29 0 aG.L0.st aG.L0.aM aG.L0.add aG.L0.F aG.L0.out
def aG.L1.R:= @gN Tryz.prog (oo aG.G) aG.an 0 Tryz.f29 1 _ aG.L1.st
abbrev aG.L1.Ok:=mS Tryz.prog (oo aG.G) aG.an 0 Tryz.f29 1 aG.L1.st aG.L1.aM aG.L1.add aG.L1.F aG.L1.out
theorem aG.L0.run:kF aG.L0.call aG.L0.aM aG.L0.add aG.L0.F:=oU (oR [.d ti,.d gU,.d ti,.d (.slice jo),.d ti,.d ti,.n,.d (.slice (.pair b8 eR)),.d (.slice cE),.d tB] λ_=>by kernel_rfl)
theorem aG.L0.cM:qa @aG.L0.R aG.L0.st aG.L0.aM aG.L0.add aG.L0.F aG.L0.out aG.L0.Ok:=qD
theorem aG.L0.step{R:Type}(fD:Int)(vC:eZ)(lY:Int)(t35:(List kC))(t36:Int)(t37:Int)(o0L:Nat)(eQ:(List (cd×dP)))(eA:(List cn))(n8:Bs)(kn:AS->Option R)(kx:Exit->AS->Option R):aG.L0.R (fD,vC,lY,t35,t36,t37,o0L,eQ,eA,n8) kn kx=
  aP ((jx t37 t36)) (
   aP (jn t37 (((List.length t35):Nat):Int)) (
   aP ((!(dG b8 (nth jo t35 (Int.toNat t37)).1 eQ).isSome)) (
    kx (aG.L0.eG ((o0L,eQ,eA),(5:Int))).1 (aG.L0.eG ((o0L,eQ,eA),(5:Int))).2) (
    ah (bR.call (((dG b8 (nth jo t35 (Int.toNat t37)).1 eQ).getD (((0:Int),((([]:List oV),()),())),((0:Int),()))).1.2.1,(nth jo t35 (Int.toNat t37)).2.1,n8,fD,(dJ .i64 fD ((dG b8 (nth jo t35 (Int.toNat t37)).1 eQ).getD (((0:Int),((([]:List oV),()),())),((0:Int),()))).2.1))) λx1=>
    aP ((w9 x1 (0:Int))) (
     kx (aG.L0.eG ((o0L,eQ,eA),x1)).1 (aG.L0.eG ((o0L,eQ,eA),x1)).2) (
     kn (aG.L0.st (fD,vC,(cG .i64 lY ((dG b8 (nth jo t35 (Int.toNat t37)).1 eQ).getD (((0:Int),((([]:List oV),()),())),((0:Int),()))).1.1),t35,t36,(cG .i64 t37 (1:Int)),o0L,eQ,eA,n8))))) none) (
   kx (aG.L0.gZ ((vC,o0L,eQ,eA),lY)).1 (aG.L0.gZ ((vC,o0L,eQ,eA),lY)).2):=by kernel_rfl
theorem aG.L1.run:kF aG.L1.call aG.L1.aM aG.L1.add aG.L1.F:=oU (oR [.d gU,.d ti,.d (.slice b8),.d ti,.d ti,.n,.d (.slice (.pair b8 eR)),.d (.slice cE)] λ_=>by kernel_rfl)
theorem aG.L1.cM:qa @aG.L1.R aG.L1.st aG.L1.aM aG.L1.add aG.L1.F aG.L1.out aG.L1.Ok:=qD
theorem aG.L1.step{R:Type}(Ao:eZ)(zd:Int)(t75:(List cd))(t76:Int)(t77:Int)(gY:Nat)(mi:(List (cd×dP)))(iJ:(List cn))(kn:AS->Option R)(kx:Exit->AS->Option R):aG.L1.R (Ao,zd,t75,t76,t77,gY,mi,iJ) kn kx=
  aP ((jx t77 t76)) (
   aP (jn t77 (((List.length t75):Nat):Int)) (
   aP ((dG b8 (nth b8 t75 (Int.toNat t77)) mi).isSome) (
    kx (aG.L1.eG (gY,mi,iJ)).1 (aG.L1.eG (gY,mi,iJ)).2) (
    kn (aG.L1.st (Ao,zd,t75,t76,(cG .i64 t77 (1:Int)),gY,mi,iJ)))) none) (
   kx (aG.L1.gZ (Ao,zd,gY,mi,iJ)).1 (aG.L1.gZ (Ao,zd,gY,mi,iJ)).2):=by kernel_rfl
theorem aG.L2.run:aG.L2.RS:=rL [.d ti,.d (.slice lO),.d ti,.d ti,.n,.d (.slice (.pair b8 eR)),.d (.slice cE)] aG.L2
theorem aG.L2.step{R:Type}(Dj t93 t94 t95 BJ Iy Iz)(kn:K2 R)(kx:K3 R):aG.R 2 aG.L2 (Dj,t93,t94,t95,BJ,Iy,Iz) kn kx=
  aP ((jx t95 t94)) (
   aP (jn t95 (t93.length:Int)) (
   kn (aG.L2.st ((dJ .i64 Dj (nth lO t93 (Int.toNat t95)).1),t93,t94,(cG .i64 t95 1),BJ,Iy,Iz))) none) (
   aG.L2.go kx ((BJ,Iy,Iz),Dj)):=by kernel_rfl
theorem aG.eq{R:Type}(t height o0baL o1 o2)(k:K1 R):aG.A (t,height,o0baL,o1,o2) k=
  ah (az.call t) λx1=>
  aP ((!x1)) (
   k (aG.out (0,1,o0baL,o1,o2))) (
   aP ((jx height 1)) (
    k (aG.out (0,1,o0baL,o1,o2))) (
    aP ((uL height 1048576)) (
     k (aG.out (0,1,o0baL,o1,o2))) (
     ah (tid.call t) λx2=>
     ah (aG.L0.call (height,t,0,t.1,(t.1.length:Int),0,o0baL,o1,o2,x2)) λx4=>
     aP (x4.isLeft) (
      ah (x4.getLeft?) λa5=>
      k (aG.out (0,a5.2,a5.1.1,a5.1.2.1,a5.1.2.2))) (
      ah (x4.getRight?) λb6=>
      ah (eI.call b6.1.1) λx7=>
      ah (aG.L1.call (b6.1.1,b6.2,x7,(x7.length:Int),0,b6.1.2.1,b6.1.2.2.1,b6.1.2.2.2)) λx8=>
      aP (x8.isLeft) (
       ah (x8.getLeft?) λa9=>
       k (aG.out (0,4,a9.1,a9.2.1,a9.2.2))) (
       ah (x8.getRight?) λb10=>
       ah (aG.L2.call (b10.2.1,b10.1.2.1,(b10.1.2.1.length:Int),0,b10.2.2.1,b10.2.2.2.1,b10.2.2.2.2)) λAp=>
       aP ((jx Ap.2 0)) (
        k (aG.out (0,8,Ap.1.1,Ap.1.2.1,Ap.1.2.2))) (
        k (aG.out (Ap.2,0,Ap.1.1,Ap.1.2.1,Ap.1.2.2)))))))):=by kernel_rfl
theorem aG.L0.ok:aG.L0.Ok:=by
 refine aG.L0.cM (λ(_,_,_,l,_,i,_,_,_,_)=>l.length - i.toNat) ?_
 rintro⟨h,t,lY,l,n,i,o,a,s,id⟩ ⟨⟨We,Wf⟩,dq,hl,hu,ha,k,hk,rfl,rfl,TO,PW⟩
 have We:0<=h:=We
 have Wf:h<=1048576:=Wf
 have hl:l.length<=64:=hl
 have TO:0<=lY:=TO
 have PW:lY<=(k:Int)*1125899906842624:=PW
 have hk:k<=l.length:=hk
 by_cases iv:k < l.length
 ·have hx:=hu _ (aL iv)
  have n1:nth jo l k=l[k]:=dz (t:=jo) iv
  have hd:l.drop k=l[k]::l.drop (k+1):=ax iv
  cases hg:dG b8 l[k].1 a with
  |none=>
   right
   refine⟨aG.L0.eG ((o,a,s),5),?_,λkn kx=> ?_⟩
   rotate_left
   ·rw[aG.L0.step,bg (by omega),ag,bG (by omega) (by omega),ag,aa,n1,hg]
    simp only[Option.isSome_none,ia,ag]
   ·simp only[aG.L0.add,aG.L0.F,aa,hd,rk,hg]
    rfl
  |some c=>
   have hc:=ha.get hg
   obtain⟨c1,c2,c3,c4,c5,c6⟩:=hc
   have lZ:∀ {R:Type} (kn:AS->Option R) (kx:Exit->AS->Option R),aG.L0.R (h,t,lY,l,(l.length:Int),(k:Int),o,a,s,id) kn kx=
     aP (w9 (qv c.1.2.1 l[k].2.1 id h (h - c.2.1)) 0) (kx (aG.L0.eG ((o,a,s),qv c.1.2.1 l[k].2.1 id h (h - c.2.1))).1 (aG.L0.eG ((o,a,s),qv c.1.2.1 l[k].2.1 id h (h - c.2.1))).2)
      (kn (aG.L0.st (h,t,lY+c.1.1,l,(l.length:Int),((k+1:Nat):Int),o,a,s,id))):=λkn kx=>by
    rw[aG.L0.step,bg (by omega),ag,bG (by omega) (by omega),ag,aa,n1,hg]
    simp only[Option.isSome_some,dj,al,dW]
    rw[fP (by omega) (by omega),bR.run (d:=(c.1.2.1,l[k].2.1,id,h,h - c.2.1)) ⟨c2,by have:=Bc c1;omega,hx.2.1,dq⟩]
    simp only[ab,bP,bR.F]
    rw[fX (by omega) (by omega),N.p9 (by omega)]
   by_cases he:qv c.1.2.1 l[k].2.1 id h (h - c.2.1)=0
   ·left
    refine⟨(h,t,lY+c.1.1,l,(l.length:Int),((k+1:Nat):Int),o,a,s,id),⟨⟨We,Wf⟩,dq,hl,hu,ha,k+1,by omega,rfl,rfl,by show 0<=lY+c.1.1;omega,by show lY+c.1.1<=_;omega⟩,by simp only[aa];omega,?_,λkn kx=> ?_⟩
    ·simp only[aG.L0.add,aG.L0.F,aa,hd,rk,hg,he,ne_eq,not_true_eq_false,if_false]
    ·rw[lZ,ff he,al]
   ·right
    refine⟨aG.L0.eG ((o,a,s),qv c.1.2.1 l[k].2.1 id h (h - c.2.1)),?_,λkn kx=> ?_⟩
    rotate_left
    ·rw[lZ,iH he,ag]
    ·simp only[aG.L0.add,aG.L0.F,aa,hd,rk,hg]
     rw[if_pos he]
     rfl
 ·right
  obtain rfl:k=l.length:=by omega
  refine⟨aG.L0.gZ ((t,o,a,s),lY),?_,λkn kx=> ?_⟩
  rotate_left
  ·rw[aG.L0.step,aX (by omega),al]
  ·simp only[aG.L0.add,aG.L0.F,aa,aZ,rk]
   rfl
theorem aG.L1.ok:aG.L1.Ok:=by
 refine aG.L1.cM (λ(_,_,l,_,i,_,_,_)=>l.length - i.toNat) ?_
 rintro⟨t,lY,l,n,i,o,a,s⟩ ⟨hl,k,hk,rfl,rfl⟩
 have hl:l.length<=1000:=hl
 have hk:k<=l.length:=hk
 by_cases iv:k < l.length
 ·have n1:nth b8 l k=l[k]:=dz (t:=b8) iv
  have hd:l.drop k=l[k]::l.drop (k+1):=ax iv
  cases hg:(dG b8 l[k] a).isSome with
  |true=>
   right
   refine⟨aG.L1.eG (o,a,s),?_,λkn kx=> ?_⟩
   rotate_left
   ·rw[aG.L1.step,bg (by omega),ag,bG (by omega) (by omega),ag,aa,n1,hg,ag]
   ·simp only[aG.L1.add,aG.L1.F,aa,hd,jz,pv,hg,Bool.true_or,if_true]
    rfl
  |false=>
   left
   refine⟨(t,lY,l,(l.length:Int),((k+1:Nat):Int),o,a,s),⟨hl,k+1,by omega,rfl,rfl⟩,by simp only[aa];omega,?_,λkn kx=> ?_⟩
   ·simp only[aG.L1.add,aG.L1.F,aa,hd,jz,pv,hg,Bool.false_or]
   ·rw[aG.L1.step,bg (by omega),ag,bG (by omega) (by omega),ag,aa,n1,hg,al,N.p9 (by omega)]
 ·right
  obtain rfl:k=l.length:=by omega
  refine⟨aG.L1.gZ (t,lY,o,a,s),?_,λkn kx=> ?_⟩
  rotate_left
  ·rw[aG.L1.step,aX (by omega),al]
  ·simp only[aG.L1.add,aG.L1.F,aa,aZ,List.any_nil,cv,if_false]
   rfl
theorem aG.L2.ok:(aG.mL 2 aG.L2):=by
 refine(aG.oH 2 aG.L2) (λ(_,l,_,i,_,_,_)=>l.length - i.toNat) ?_
 rintro⟨lY,l,n,i,o,a,s⟩ ⟨hl,ho,k,hk,rfl,rfl,TO,PW⟩
 have hl:l.length<=64:=hl
 have hk:k<=l.length:=hk
 have TO: -((k:Int)*1125899906842624)<=lY:=TO
 have PW:lY<=1000000000000000000:=PW
 by_cases iv:k < l.length
 ·left
  have n1:nth lO l k=l[k]:=dz (t:=lO) iv
  have hd:l.drop k=l[k]::l.drop (k+1):=ax iv
  have hx:=ho _ (aL iv)
  refine⟨(lY - l[k].1,l,(l.length:Int),((k+1:Nat):Int),o,a,s),⟨hl,ho,k+1,by omega,rfl,rfl,by show _<=lY - l[k].1;omega,by show lY - l[k].1<=_;omega⟩,by simp only[aa];omega,?_,λkn kx=> ?_⟩
  ·simp only[aG.L2.add,aG.L2.F,aa,hd,mP,bX,List.sum_cons]
   rw[Int.sub_sub]
  ·rw[aG.L2.step,bg (by omega),ag,bG (by omega) (by omega),ag,aa,n1,fP (by omega) (by omega),N.p9 (by omega)]
 ·right
  obtain rfl:k=l.length:=by omega
  intro R kn kx
  rw[aG.L2.step,aX (by omega),al]
  simp only[aG.L2.add,aG.L2.F,aa,aZ,mP,ij,List.sum_nil,mw]
theorem pb{t:eZ}(h:jk t=true):(iq t).length=t.2.1.length:=by
 unfold iq
 rw[if_pos h]
 simp[ua]
theorem A1{h:Int}{id:List Int}{a:List (cd×dP)}(ha:Fh a):∀(l:List kC) (lY f:Int),rk h id a l lY= .inr f->lY<=f/\f<=lY+(l.length:Int)*1125899906842624
 |[],lY,f,e=>by simp only[rk,Sum.inr.injEq]at e;subst e;simp
 |x::l,lY,f,e=>by
  simp only[rk]at e
  cases hg:dG b8 x.1 a with
  |none=>rw[hg]at e;cases e
  |some c=>
   rw[hg]at e
   simp only at e
   split at e
   ·cases e
   ·have hc:=ha.get hg
    have:=A1 ha l _ _ e
    obtain⟨_,_,c3,c4,_⟩:=hc
    rw[aB]
    omega
theorem aG.ok:aG.Ok:=by
 rintro⟨t,h,n,a,s⟩ ⟨hv,ha⟩
 have hv:rK t:=hv
 have ha:Fh a:=ha
 rw[aG.eq,az.run (d:=t) hv.1]
 simp only[ab,bP,az.F,bP,aG.F,e7]
 by_cases jU:jk t=true
 ·rw[jU,dj,al]
  obtain⟨⟨_,a2,a3,_⟩,b1,b2⟩:=kk jU
  by_cases h1:1<=h
  ·rw[aX (by omega),al]
   by_cases h2:h<=1048576
   ·rw[eC (by omega),al,if_pos ⟨rfl,h1,h2⟩,tid.run (d:=t) hv]
    simp only[ab,bP,tid.F]
    rw[aG.L0.run (d:=(h,t,0,t.1,(t.1.length:Int),0,n,a,s,lW t)) ⟨⟨by show 0<=h;omega,h2⟩,wY,a2,hv.2.1,ha,0,aK _,rfl,rfl,by decide,by decide⟩]
    simp only[ab,aG.L0.add,aG.L0.F,bN,aJ]
    cases hi:rk h (lW t) a t.1 0 with
    |inl e=>
     simp only[kH,ag,jH,ab]
    |inr lY=>
     have hb:=A1 ha _ _ _ hi
     simp only[fe,al,dX,ab]
     rw[eI.run (d:=t) hv]
     simp only[ab,bP,eI.F]
     rw[aG.L1.run (d:=(t,lY,iq t,((iq t).length:Int),0,n,a,s)) ⟨by rw[pb jU];omega,0,aK _,rfl,rfl⟩]
     simp only[ab,aG.L1.add,aG.L1.F,bN,aJ]
     by_cases hm:(iq t).any (pv a)=true
     ·rw[if_pos hm]
      simp only[kH,ag,jH,ab,if_true,hm]
     ·rw[if_neg hm]
      simp only[fe,al,dX,ab]
      rw[aG.L2.run (d:=(lY,t.2.1,(t.2.1.length:Int),0,n,a,s)) ⟨a3,λo ho=>(lk _ _ b2 o ho).1,0,aK _,rfl,rfl,by show -((0:Int)*_)<=lY;omega,by show lY<=_;omega⟩]
      simp only[ab,aG.L2.add,aG.L2.F,bN,aJ]
      rw[if_neg hm]
      by_cases hf:lY - mP t.2.1 < 0
      ·rw[bg hf,ag,if_pos hf]
      ·rw[aX hf,al,if_neg hf]
   ·rw[eY (by omega),ag,if_neg (λe=>h2 e.2.2)]
  ·rw[bg (by omega),ag,if_neg (λe=>h1 e.2.1)]
 ·have hok':jk t=false:=by simpa using jU
  rw[hok',ia,ag,if_neg (λe=>by cases e.1)]
theorem aG.run:aG.RS:=rE [.d gU,.d ti,.n,.d (.slice (.pair b8 eR)),.d (.slice cE)] aG
def aG.sg:=aG.gG aG.ok 3 ⟨.iR aG.L0.ok,⟨.iR aG.L1.ok,⟨.iR aG.L2.ok,trivial⟩⟩⟩
def so(l:List cd)(a:List (cd×dP)):List (cd×dP):=l.foldl (λm o=>kf b8 o m) a
def Ns(l:List Ja)(a:List (cd×dP)):List (cd×dP):=l.foldl (λm e=>iT b8 e.1 e.2.1 m) a
def zH(a:List (cd×dP))(st:cn):List (cd×dP):=Ns st.1 (so st.2.1 a)
abbrev cI.L0.D:=Int×(List cd)×Int×Int×Nat×(List (cd×dP))×(List cn)
abbrev cI.L0.Y:=(List (cd×dP))
abbrev cI.L0.X:=(Int×Nat×(List cn))×((List (cd×dP)))
def cI.L0.add:cI.L0.D->cI.L0.Y->cI.L0.X:=λ(n,t23,t24,t25,o0L,eQ,eA) y=>((n,o0L,eA),y)
abbrev cI.L1.D:=Int×(List Ja)×Int×Int×Nat×(List (cd×dP))×(List cn)
abbrev cI.L1.Y:=(List (cd×dP))
abbrev cI.L1.X:=(Int×Nat×(List cn))×((List (cd×dP)))
def cI.L1.add:cI.L1.D->cI.L1.Y->cI.L1.X:=λ(s8,t42,t43,t44,gY,mi,iJ) y=>((s8,gY,iJ),y)
abbrev cI.D:=Nat×(List (cd×dP))×(List cn)
abbrev cI.Y:=Bool×Nat×(List (cd×dP))×(List cn)
def cI.L0.aM:cI.L0.D->Prop:=λ(_,l,n,i,_,_,_)=>l.length<=1000/\∃k:Nat,k<=l.length/\i=k/\n=l.length
def cI.L0.F:cI.L0.D->cI.L0.Y:=λ(_,l,_,i,_,a,_)=>so (l.drop i.toNat) a
def cI.L1.aM:cI.L1.D->Prop:=λ(_,l,n,i,_,_,_)=>l.length<=1000/\∃k:Nat,k<=l.length/\i=k/\n=l.length
def cI.L1.F:cI.L1.D->cI.L1.Y:=λ(_,l,_,i,_,a,_)=>Ns (l.drop i.toNat) a
def Hy(st:cn):Prop:=st.1.length<=1000/\st.2.1.length<=1000
def cI.aM:cI.D->Prop:=λ(n,_,s)=>n<=s.length/\s.length<=1000000/\∀st∈s,Hy st
def cI.F:cI.D->cI.Y:=λ(n,a,s)=>if n=0 then(false,n,a,s) else(true,n - 1,zH a (nth cE s (n - 1)),s)
def cI.L0:Ls cI.L0.aM cI.L0.add cI.L0.F:=rY (λ(n,t23,t24,t25,o0L,eQ,eA)=>⟨([.ptr (.aV 0) 0 [] 0,.undef,.undef,.d ti n]++aT 19 ([.d (.slice b8) t23,.d ti t24,.d ti t25]++aT 40 [])),[.obj 0 false (.pr (.db (.aV 1) 0) (.pr (.aS (.aV 2) 0 [] 0 0 o0L) (.d .unit ()))),.obj 0 false (.mp b8 eR eQ),.obj 0 false (.vec 161 cE eA)],(List.replicate 66 [])⟩) (λx=>(.exit 0,⟨([.ptr (.aV 0) 0 [] 0,.undef,.undef,.d ti x.1.1]++aT 62 []),[.obj 0 false (.pr (.db (.aV 1) 0) (.pr (.aS (.aV 2) 0 [] 0 0 x.1.2.1) (.d .unit ()))),.obj 0 false (.mp b8 eR x.2),.obj 0 false (.vec 161 cE x.1.2.2)],(List.replicate 66 [])⟩))
def cI.L1:Ls cI.L1.aM cI.L1.add cI.L1.F:=rY (λ(s8,t42,t43,t44,gY,mi,iJ)=>⟨([.ptr (.aV 0) 0 [] 0,.undef,.undef,.d ti s8]++aT 38 ([.d (.slice Lr) t42,.d ti t43,.d ti t44]++aT 21 [])),[.obj 0 false (.pr (.db (.aV 1) 0) (.pr (.aS (.aV 2) 0 [] 0 0 gY) (.d .unit ()))),.obj 0 false (.mp b8 eR mi),.obj 0 false (.vec 161 cE iJ)],(List.replicate 66 [])⟩) (λx=>(.exit 2,⟨([.ptr (.aV 0) 0 [] 0,.undef,.undef,.d ti x.1.1]++aT 62 []),[.obj 0 false (.pr (.db (.aV 1) 0) (.pr (.aS (.aV 2) 0 [] 0 0 x.1.2.1) (.d .unit ()))),.obj 0 false (.mp b8 eR x.2),.obj 0 false (.vec 161 cE x.1.2.2)],(List.replicate 66 [])⟩))
def cI:Fs Tryz.prog cI.aM bP cI.F:=gC 37 Tryz.f37 (λ(o0baL,o1,o2)=>([.ptr (.aV 0) 0 [] 0],[.obj 0 false (.pr (.db (.aV 1) 0) (.pr (.aS (.aV 2) 0 [] 0 0 o0baL) (.d .unit ()))),.obj 0 false (.mp b8 eR o1),.obj 0 false (.vec 161 cE o2)])) (λx=>⟨.d .bool x.1,[.obj 0 false (.pr (.db (.aV 1) 0) (.pr (.aS (.aV 2) 0 [] 0 0 x.2.1) (.d .unit ()))),.obj 0 false (.mp b8 eR x.2.2.1),.obj 0 false (.vec 161 cE x.2.2.2)],[]⟩) [none] [] {loops:=pz [(5,{bo:=[0,3,23,24,25]}),(10,{bo:=[0,3,42,43,44]})],outs:=py [(5,{bo:=[0,3]},{bo:=[2]}),(10,{bo:=[0,3]},{bo:=[2]})],iX:=qg [(5,cI.L0.E),(10,cI.L1.E)]}
theorem cI.L0.run:cI.L0.RS:=rL [.d ti,.d (.slice b8),.d ti,.d ti,.n,.d (.slice (.pair b8 eR)),.d (.slice cE)] cI.L0
theorem cI.L0.step{R:Type}(n t23 t24 t25 o0L eQ eA)(kn:K2 R)(kx:K3 R):cI.R 0 cI.L0 (n,t23,t24,t25,o0L,eQ,eA) kn kx=
  aP ((jx t25 t24)) (
   aP (jn t25 (t23.length:Int)) (
   kn (cI.L0.st (n,t23,t24,(cG .i64 t25 1),o0L,(kf b8 (nth b8 t23 (Int.toNat t25)) eQ),eA))) none) (
   cI.L0.go kx ((n,o0L,eA),eQ)):=by kernel_rfl
theorem cI.L1.run:cI.L1.RS:=rL [.d ti,.d (.slice Lr),.d ti,.d ti,.n,.d (.slice (.pair b8 eR)),.d (.slice cE)] cI.L1
theorem cI.L1.step{R:Type}(s8 t42 t43 t44 gY mi iJ)(kn:K2 R)(kx:K3 R):cI.R 1 cI.L1 (s8,t42,t43,t44,gY,mi,iJ) kn kx=
  aP ((jx t44 t43)) (
   aP (jn t44 (t42.length:Int)) (
   kn (cI.L1.st (s8,t42,t43,(cG .i64 t44 1),gY,(iT b8 (nth Lr t42 (Int.toNat t44)).1 (nth Lr t42 (Int.toNat t44)).2.1 mi),iJ))) none) (
   cI.L1.go kx ((s8,gY,iJ),mi)):=by kernel_rfl
theorem cI.eq{R:Type}(o0baL o1 o2)(k:K1 R):cI.A (o0baL,o1,o2) k=
  aP ((jx (dJ .i64 ((o0baL:Nat):Int) 1) 0)) (
   k (cI.out (false,o0baL,o1,o2))) (
   aP (jn (dJ .i64 ((o0baL:Nat):Int) 1) ((o0baL:Nat):Int)) (
   aP (decide ((0+(Int.toNat (dJ .i64 ((o0baL:Nat):Int) 1))) < (List.length o2))) (
   aP (decide ((((0+(Int.toNat (dJ .i64 ((o0baL:Nat):Int) 1)))*2)+1)=((0+((Int.toNat (dJ .i64 ((o0baL:Nat):Int) 1))*2))+1))) (
   ah (cI.L0.call ((dJ .i64 ((o0baL:Nat):Int) 1),(nth cE o2 (0+(Int.toNat (dJ .i64 ((o0baL:Nat):Int) 1)))).2.1,(((List.length (nth cE o2 (0+(Int.toNat (dJ .i64 ((o0baL:Nat):Int) 1)))).2.1):Nat):Int),0,o0baL,o1,o2)) λx1=>
   aP (jn x1.1.1 ((x1.1.2.1:Nat):Int)) (
   aP (decide ((0+(Int.toNat x1.1.1)) < (List.length x1.1.2.2))) (
   aP (decide ((((0+(Int.toNat x1.1.1))*2)+0)=((0+((Int.toNat x1.1.1)*2))+0))) (
   ah (cI.L1.call (x1.1.1,(nth cE x1.1.2.2 (0+(Int.toNat x1.1.1))).1,(((List.length (nth cE x1.1.2.2 (0+(Int.toNat x1.1.1))).1):Nat):Int),0,x1.1.2.1,x1.2,x1.1.2.2)) λx2=>
   aP (inc x2.1.1 ((x2.1.2.1:Nat):Int)) (
   k (cI.out (true,((Int.toNat x2.1.1) - 0),x2.2,x2.1.2.2))) none) none) none) none) none) none) none):=by kernel_rfl
theorem cI.L0.ok:(cI.mL 0 cI.L0):=by
 refine(cI.oH 0 cI.L0) (λ(_,l,_,i,_,_,_)=>l.length - i.toNat) ?_
 rintro⟨u,l,n,i,o,a,s⟩ ⟨hl,k,hk,rfl,rfl⟩
 have hl:l.length<=1000:=hl
 have hk:k<=l.length:=hk
 by_cases iv:k < l.length
 ·left
  have n1:nth b8 l k=l[k]:=dz (t:=b8) iv
  have hd:l.drop k=l[k]::l.drop (k+1):=ax iv
  refine⟨(u,l,(l.length:Int),((k+1:Nat):Int),o,so [l[k]] a,s),⟨hl,k+1,by omega,rfl,rfl⟩,by simp only[aa];omega,?_,λkn kx=> ?_⟩
  ·simp only[cI.L0.add,cI.L0.F,aa,hd,so,bT,dR]
  ·rw[cI.L0.step,bg (by omega),ag,bG (by omega) (by omega),ag,aa,n1,N.p9 (by omega)]
   rfl
 ·right
  obtain rfl:k=l.length:=by omega
  intro R kn kx
  rw[cI.L0.step,aX (by omega),al]
  simp only[cI.L0.add,cI.L0.F,aa,aZ,so,dR]
theorem cI.L1.ok:(cI.mL 1 cI.L1):=by
 refine(cI.oH 1 cI.L1) (λ(_,l,_,i,_,_,_)=>l.length - i.toNat) ?_
 rintro⟨u,l,n,i,o,a,s⟩ ⟨hl,k,hk,rfl,rfl⟩
 have hl:l.length<=1000:=hl
 have hk:k<=l.length:=hk
 by_cases iv:k < l.length
 ·left
  have n1:nth Lr l k=l[k]:=dz (t:=Lr) iv
  have hd:l.drop k=l[k]::l.drop (k+1):=ax iv
  refine⟨(u,l,(l.length:Int),((k+1:Nat):Int),o,Ns [l[k]] a,s),⟨hl,k+1,by omega,rfl,rfl⟩,by simp only[aa];omega,?_,λkn kx=> ?_⟩
  ·simp only[cI.L1.add,cI.L1.F,aa,hd,Ns,bT,dR]
  ·rw[cI.L1.step,bg (by omega),ag,bG (by omega) (by omega),ag,aa,n1,N.p9 (by omega)]
   rfl
 ·right
  obtain rfl:k=l.length:=by omega
  intro R kn kx
  rw[cI.L1.step,aX (by omega),al]
  simp only[cI.L1.add,cI.L1.F,aa,aZ,Ns,dR]
theorem cI.ok:cI.Ok:=by
 rintro⟨n,a,s⟩ ⟨h1,h2,h3⟩
 have h1:n<=s.length:=h1
 have h2:s.length<=1000000:=h2
 have h3:∀st∈s,Hy st:=h3
 rw[cI.eq]
 simp only[bP,cI.F]
 cases n with
 |zero=>
  rw[bg (by decide),ag]
  rfl
 |succ m=>
  have e1:dJ .i64 (((m+1:Nat):Nat):Int) (1:Int)=(m:Int):=by rw[fP (by omega) (by omega)];omega
  have hm:m < s.length:=by omega
  have n1:nth cE s m=s[m]:=dz (t:=cE) hm
  have hs:=h3 _ (aL hm)
  rw[e1,aX (by omega),al,bG (by omega) (by omega),ag]
  simp only[aa,aI,cF,aY hm,ag,decide_true,n1]
  rw[cI.L0.run (d:=((m:Int),s[m].2.1,(s[m].2.1.length:Int),0,m+1,a,s)) ⟨hs.2,0,aK _,rfl,rfl⟩]
  simp only[ab,cI.L0.add,cI.L0.F,bN,aJ]
  rw[bG (by omega) (by omega),ag]
  simp only[aa,aI,cF,aY hm,ag,decide_true,n1]
  rw[cI.L1.run (d:=((m:Int),s[m].1,(s[m].1.length:Int),0,m+1,so s[m].2.1 a,s)) ⟨hs.1,0,aK _,rfl,rfl⟩]
  simp only[ab,cI.L1.add,cI.L1.F,bN,aJ]
  rw[oz (by omega) (by omega),ag,if_neg (by omega)]
  simp only[aa,Nat.sub_zero,kZ,n1,zH]
theorem cI.run:cI.RS:=rE [.n,.d (.slice (.pair b8 eR)),.d (.slice cE)] cI
def cI.sg:=cI.gG cI.ok 2 ⟨.iR cI.L0.ok,⟨.iR cI.L1.ok,trivial⟩⟩
abbrev aN.L0.D:=Int×eZ×(List cd)×Int×Int×Nat×(List (cd×dP))×(List cn)×Nat×((List cd)×Unit)×(List Ja)
def aN.L0.st:aN.L0.D->AS:=λ(fD,vC,t28,t29,t30,o0L,eQ,eA,Od,n9,n45)=>⟨([.ptr (.aV 0) 0 [] 0,.undef,.d ti fD,.undef,.eD gU vC]++aT 4 ([.ptr (.new 9 0) 0 [] 0]++aT 18 ([.d (.slice b8) t28,.d ti t29,.d ti t30]++aT 54 []))),[.obj 0 false (.pr (.db (.aV 1) 0) (.pr (.aS (.aV 2) 0 [] 0 0 o0L) (.d .unit ()))),.obj 0 false (.mp b8 eR eQ),.obj 0 false (.vec 161 cE eA)],(ct 9 ([[.obj 0 false (.pr (.aS (.new 45 0) 0 [] 0 0 Od) (.d (.pair (.slice b8) .unit) n9))]]++ct 35 ([[.obj 0 false (.vec 163 Lr n45)]]++ct 39 [])))⟩
abbrev aN.L0.Y0:=(List (cd×dP))×Nat×(List Ja)
abbrev aN.L0.X0:=(Int×eZ×Nat×(List cn)×((List cd)×Unit))×((List (cd×dP))×Nat×(List Ja))
def aN.L0.eG:aN.L0.X0->Exit×AS:=λx=>(.exit 0,⟨([.ptr (.aV 0) 0 [] 0,.undef,.d ti x.1.1,.undef,.eD gU x.1.2.1]++aT 4 ([.ptr (.new 9 0) 0 [] 0]++aT 75 [])),[.obj 0 false (.pr (.db (.aV 1) 0) (.pr (.aS (.aV 2) 0 [] 0 0 x.1.2.2.1) (.d .unit ()))),.obj 0 false (.mp b8 eR x.2.1),.obj 0 false (.vec 161 cE x.1.2.2.2.1)],(ct 9 ([[.obj 0 false (.pr (.aS (.new 45 0) 0 [] 0 0 x.2.2.1) (.d (.pair (.slice b8) .unit) x.1.2.2.2.2))]]++ct 35 ([[.obj 0 false (.vec 163 Lr x.2.2.2)]]++ct 39 [])))⟩)
abbrev aN.L0.X:=aN.L0.X0
abbrev aN.L0.Y:=aN.L0.Y0
def aN.L0.out:aN.L0.X->Out (Exit×AS):=λx=> .ok (aN.L0.eG x)
def aN.L0.add:aN.L0.D->aN.L0.Y->aN.L0.X:=λ(fD,vC,t28,t29,t30,o0L,eQ,eA,Od,n9,n45) y=>((fD,vC,o0L,eA,n9),y)
abbrev aN.L1.D:=Int×eZ×(List cd)×Int×Int×Nat×(List (cd×dP))×(List cn)×Nat×((List cd)×Unit)×(List Ja)
def aN.L1.st:aN.L1.D->AS:=λ(sO,Ao,t54,t55,t56,gY,mi,iJ,zA,xG,zx)=>⟨([.ptr (.aV 0) 0 [] 0,.undef,.d ti sO,.undef,.eD gU Ao]++aT 4 ([.ptr (.new 9 0) 0 [] 0]++aT 44 ([.d (.slice b8) t54,.d ti t55,.d ti t56]++aT 28 []))),[.obj 0 false (.pr (.db (.aV 1) 0) (.pr (.aS (.aV 2) 0 [] 0 0 gY) (.d .unit ()))),.obj 0 false (.mp b8 eR mi),.obj 0 false (.vec 161 cE iJ)],(ct 9 ([[.obj 0 false (.pr (.aS (.new 45 0) 0 [] 0 0 zA) (.d (.pair (.slice b8) .unit) xG))]]++ct 35 ([[.obj 0 false (.vec 163 Lr zx)]]++ct 39 [])))⟩
abbrev aN.L1.Y0:=(List (cd×dP))
abbrev aN.L1.X0:=(Nat×(List cn)×Nat×((List cd)×Unit)×(List Ja))×((List (cd×dP)))
def aN.L1.eG:aN.L1.X0->Exit×AS:=λx=>(.exit 2,⟨([.ptr (.aV 0) 0 [] 0]++aT 8 ([.ptr (.new 9 0) 0 [] 0]++aT 75 [])),[.obj 0 false (.pr (.db (.aV 1) 0) (.pr (.aS (.aV 2) 0 [] 0 0 x.1.1) (.d .unit ()))),.obj 0 false (.mp b8 eR x.2),.obj 0 false (.vec 161 cE x.1.2.1)],(ct 9 ([[.obj 0 false (.pr (.aS (.new 45 0) 0 [] 0 0 x.1.2.2.1) (.d (.pair (.slice b8) .unit) x.1.2.2.2.1))]]++ct 35 ([[.obj 0 false (.vec 163 Lr x.1.2.2.2.2)]]++ct 39 [])))⟩)
abbrev aN.L1.X:=aN.L1.X0
abbrev aN.L1.Y:=aN.L1.Y0
def aN.L1.out:aN.L1.X->Out (Exit×AS):=λx=> .ok (aN.L1.eG x)
def aN.L1.add:aN.L1.D->aN.L1.Y->aN.L1.X:=λ(sO,Ao,t54,t55,t56,gY,mi,iJ,zA,xG,zx) y=>((gY,iJ,zA,xG,zx),y)
abbrev aN.D:=eZ×Int×Nat×(List (cd×dP))×(List cn)
def aN.st:aN.D->SA:=λ(t,height,o0baL,o1,o2)=>([.ptr (.aV 0) 0 [] 0,.d gU t,.d ti height],[.obj 0 false (.pr (.db (.aV 1) 0) (.pr (.aS (.aV 2) 0 [] 0 0 o0baL) (.d .unit ()))),.obj 0 false (.mp b8 eR o1),.obj 0 false (.vec 161 cE o2)])
abbrev aN.Y:=(Int×Nat×(List (cd×dP))×(List cn))⊕(Int×Nat×(List (cd×dP))×(List cn))
abbrev aN.X:=(Int×Nat×(List (cd×dP))×(List cn))⊕(Int×Nat×(List (cd×dP))×(List cn))
def aN.out:aN.X->gV:=λx=>match x with | .inl x=>⟨.d ti x.1,[.obj 0 false (.pr (.db (.aV 1) 0) (.pr (.aS (.aV 2) 0 [] 0 0 x.2.1) (.d .unit ()))),.obj 0 false (.mp b8 eR x.2.2.1),.obj 0 false (.vec 161 cE x.2.2.2)],[]⟩ | .inr x=>⟨.d ti x.1,[.obj 0 false (.pr (.db (.aV 1) 0) (.pr (.aS (.aV 2) 1 [] 0 0 x.2.1) (.d .unit ()))),.obj 0 false (.mp b8 eR x.2.2.1),.obj 1 false (.vec 161 cE x.2.2.2)],[]⟩
def aN.add:aN.D->aN.Y->aN.X:=λ(t,height,o0baL,o1,o2) y=>match y with | .inl y=> .inl y | .inr y=> .inr y
def tY(a:List (cd×dP)):List cd->List Ja
 |[]=> []
 |o::l=>(o,((dG b8 o a).getD Hp,()))::tY (kf b8 o a) l
def yq(h:Int):List cd->List kO->List (cd×dP)->List (cd×dP)
 |o::l,x::xs,a=>yq h l xs (iT b8 o (x,(h,())) a)
 |_,_,a=>a
def stepOf(t:eZ)(a:List (cd×dP)):cn:=(tY a (dT t),(iq t,()))
def jV(t:eZ)(h:Int)(a:List (cd×dP)):List (cd×dP):=yq h (iq t) t.2.1 (so (dT t) a)
def aN.L0.aM:aN.L0.D->Prop:=λ(_,_,l,n,i,_,_,_,gL,_,g)=>l.length<=1000/\∃k:Nat,k<=l.length/\i=k/\n=l.length/\gL=g.length/\g.length=k
def aN.L0.F:aN.L0.D->aN.L0.Y:=λ(_,_,l,_,i,_,a,_,gL,_,g)=>(so (l.drop i.toNat) a,gL+(l.drop i.toNat).length,g++tY a (l.drop i.toNat))
def aN.L1.aM:aN.L1.D->Prop:=λ(_,t,l,n,i,_,_,_,_,_,_)=>l.length<=1000/\l.length=t.2.1.length/\(∀o∈t.2.1,VD o.2.1)/\∃k:Nat,k<=l.length/\i=k/\n=l.length
def aN.L1.F:aN.L1.D->aN.L1.Y:=λ(h,t,l,_,i,_,a,_,_,_,_)=>yq h (l.drop i.toNat) (t.2.1.drop i.toNat) a
def aN.aM:aN.D->Prop:=λ(t,_,n,a,s)=>rK t/\Fh a/\n<=s.length/\s.length<=1000000
def aN.F:aN.D->aN.Y:=λ(t,h,n,a,s)=>if(e7 t h a).2≠0 then .inl ((e7 t h a).2,n,a,s) else .inr (0,n+1,jV t h a,s.take n++ [stepOf t a])
def aN.G:mR:=oo (P:=Tryz.prog) [aG.sg,eI.sg,cQ.sg,gv.sg]
def aN.L0.E:=eE.iR aN.L0.st aN.L0.aM aN.L0.add aN.L0.F aN.L0.out
def aN.L0.call:aN.L0.D->Option aN.L0.X:=j9 aN.L0.E aN.L0.st
def aN.L1.E:=eE.iR aN.L1.st aN.L1.aM aN.L1.add aN.L1.F aN.L1.out
def aN.L1.call:aN.L1.D->Option aN.L1.X:=j9 aN.L1.E aN.L1.st
def aN.an:rN:= {loops:=pz [(6,{bo:=[0,2,4,9,28,29,30],sites:=[9,45],owns:=[⟨9,[.fst],45,159⟩]}),(12,{bo:=[0,2,4,9,54,55,56],sites:=[9,45]})],outs:=py [(6,{bo:=[0,2,4,9],sites:=[9,45]},{bo:=[6]}),(12,{bo:=[0,9],sites:=[9,45]},{bo:=[6]})],iX:=qg [(6,aN.L0.E),(12,aN.L1.E)]}
def aN.A:= @zK Tryz.prog aN.G aN.an 0 Tryz.f30 _ aN.st
abbrev aN.Ok:=CC @aN.A aN.aM aN.add aN.F aN.out
def aN.L0.R:= @gN Tryz.prog aN.G aN.an 0 Tryz.f30 0 _ aN.L0.st
abbrev aN.L0.Ok:=mS Tryz.prog aN.G aN.an 0 Tryz.f30 0 aN.L0.st aN.L0.aM aN.L0.add aN.L0.F aN.L0.out
def aN.L1.R:= @gN Tryz.prog aN.G aN.an 0 Tryz.f30 1 _ aN.L1.st
abbrev aN.L1.Ok:=mS Tryz.prog aN.G aN.an 0 Tryz.f30 1 aN.L1.st aN.L1.aM aN.L1.add aN.L1.F aN.L1.out
theorem aN.L0.run:kF aN.L0.call aN.L0.aM aN.L0.add aN.L0.F:=oU (oR [.d ti,.d gU,.d (.slice b8),.d ti,.d ti,.n,.d (.slice (.pair b8 eR)),.d (.slice cE),.n,.d (.pair (.slice b8) .unit),.d (.slice Lr)] λ_=>by kernel_rfl)
theorem aN.L0.cM:LU @aN.L0.R aN.L0.st aN.L0.aM aN.L0.add aN.L0.F aN.L0.eG aN.L0.Ok:=QK
theorem aN.L0.step{R:Type}(fD:Int)(vC:eZ)(t28:(List cd))(t29:Int)(t30:Int)(o0L:Nat)(eQ:(List (cd×dP)))(eA:(List cn))(Od:Nat)(n9:((List cd)×Unit))(n45:(List Ja))(kn:AS->Option R)(kx:Exit->AS->Option R):aN.L0.R (fD,vC,t28,t29,t30,o0L,eQ,eA,Od,n9,n45) kn kx=
  aP ((jx t30 t29)) (
   aP (jn t30 (((List.length t28):Nat):Int)) (
   aP (decide (Od<=(List.length n45))) (
   aP (dZ (Od+1) 80) (
   kn (aN.L0.st (fD,vC,t28,t29,(cG .i64 t30 (1:Int)),o0L,(kf b8 (nth b8 t28 (Int.toNat t30)) eQ),eA,(Od+1),n9,((List.take Od n45)++ [((nth b8 t28 (Int.toNat t30)),(((dG b8 (nth b8 t28 (Int.toNat t30)) eQ).getD (((0:Int),((([]:List oV),()),())),((0:Int),()))),()))])))) none) none) none) (
   kx (aN.L0.eG ((fD,vC,o0L,eA,n9),(eQ,Od,n45))).1 (aN.L0.eG ((fD,vC,o0L,eA,n9),(eQ,Od,n45))).2):=by kernel_rfl
theorem aN.L1.run:kF aN.L1.call aN.L1.aM aN.L1.add aN.L1.F:=oU (oR [.d ti,.d gU,.d (.slice b8),.d ti,.d ti,.n,.d (.slice (.pair b8 eR)),.d (.slice cE),.n,.d (.pair (.slice b8) .unit),.d (.slice Lr)] λ_=>by kernel_rfl)
theorem aN.L1.cM:LU @aN.L1.R aN.L1.st aN.L1.aM aN.L1.add aN.L1.F aN.L1.eG aN.L1.Ok:=QK
theorem aN.L1.step{R:Type}(sO:Int)(Ao:eZ)(t54:(List cd))(t55:Int)(t56:Int)(gY:Nat)(mi:(List (cd×dP)))(iJ:(List cn))(zA:Nat)(xG:((List cd)×Unit))(zx:(List Ja))(kn:AS->Option R)(kx:Exit->AS->Option R):aN.L1.R (sO,Ao,t54,t55,t56,gY,mi,iJ,zA,xG,zx) kn kx=
  aP ((jx t56 t55)) (
   aP (jn t56 (((List.length t54):Nat):Int)) (
   aP (jn t56 (((List.length Ao.2.1):Nat):Int)) (
   ah (gv.call (nth lO Ao.2.1 (Int.toNat t56))) λx1=>
   kn (aN.L1.st (sO,Ao,t54,t55,(cG .i64 t56 (1:Int)),gY,(iT b8 (nth b8 t54 (Int.toNat t56)) (x1,(sO,())) mi),iJ,zA,xG,zx))) none) none) (
   kx (aN.L1.eG ((gY,iJ,zA,xG,zx),mi)).1 (aN.L1.eG ((gY,iJ,zA,xG,zx),mi)).2):=by kernel_rfl
theorem aN.eq{R:Type}(t:eZ)(height:Int)(o0baL:Nat)(o1:(List (cd×dP)))(o2:(List cn))(k:gV->Option R):aN.A (t,height,o0baL,o1,o2) k=
  ah (aG.call (t,height,o0baL,o1,o2)) λx1=>
  aP ((w9 x1.2.1 (0:Int))) (
   k (aN.out (.inl (x1.2.1,x1.2.2.1,x1.2.2.2.1,x1.2.2.2.2)))) (
   ah (eI.call t) λx2=>
   ah (cQ.call t) λx3=>
   ah (aN.L0.call (height,t,x3,(((List.length x3):Nat):Int),(0:Int),x1.2.2.1,x1.2.2.2.1,x1.2.2.2.2,0,(x2,()),([]:List Ja))) λx4=>
   ah (aN.L1.call (x4.1.1,x4.1.2.1,x4.1.2.2.2.2.1,(((List.length x4.1.2.2.2.2.1):Nat):Int),(0:Int),x4.1.2.2.1,x4.2.1,x4.1.2.2.2.1,x4.2.2.1,x4.1.2.2.2.2,x4.2.2.2)) λx6=>
   aP (decide (0=0/\(0+x6.1.2.2.1)<=(List.length x6.1.2.2.2.2))) (
   aP (decide (x6.1.1<=(List.length x6.1.2.1))) (
   aP (dZ (x6.1.1+1) 48) (
   k (aN.out (.inr ((0:Int),(x6.1.1+1),x6.2,((List.take x6.1.1 x6.1.2.1)++ [((cut x6.1.2.2.2.2 0 x6.1.2.2.1),x6.1.2.2.2.1)]))))) none) none) none):=by kernel_rfl
theorem aN.L0.ok:aN.L0.Ok:=by
 refine aN.L0.cM (λ(_,_,l,_,i,_,_,_,_,_,_)=>l.length - i.toNat) ?_
 rintro⟨h,t,l,n,i,o,a,s,gL,u,g⟩ ⟨hl,k,hk,rfl,rfl,rfl,hg⟩
 have hl:l.length<=1000:=hl
 have hk:k<=l.length:=hk
 have hg:g.length=k:=hg
 by_cases iv:k < l.length
 ·left
  have n1:nth b8 l k=l[k]:=dz (t:=b8) iv
  have hd:l.drop k=l[k]::l.drop (k+1):=ax iv
  refine⟨(h,t,l,(l.length:Int),((k+1:Nat):Int),o,kf b8 l[k] a,s,g.length+1,u,g++ [(l[k],((dG b8 l[k] a).getD Hp,()))]),⟨hl,k+1,by omega,rfl,rfl,by simp,by simp[hg]⟩,by simp only[aa];omega,?_,λkn kx=> ?_⟩
  ·simp only[aN.L0.add,aN.L0.F,aa,hd,so,bT,tY,aD,dN,aB]
   rw[show g.length+1+(l.drop (k+1)).length=g.length+((l.drop (k+1)).length+1) by omega]
  ·rw[aN.L0.step,bg (by omega),ag,bG (by omega) (by omega),ag,aY (aw _),ag,fg (by omega) (by omega),ag,aa,n1,N.p9 (by omega),dh]
   rfl
 ·right
  obtain rfl:k=l.length:=by omega
  intro R kn kx
  rw[aN.L0.step,aX (by omega),al]
  simp only[aN.L0.add,aN.L0.F,aa,aZ,so,dR,tY,bS,bn,cF]
theorem aN.L1.ok:aN.L1.Ok:=by
 refine aN.L1.cM (λ(_,_,l,_,i,_,_,_,_,_,_)=>l.length - i.toNat) ?_
 rintro⟨h,t,l,n,i,o,a,s,gL,u,g⟩ ⟨hl,he,hb,k,hk,rfl,rfl⟩
 have hl:l.length<=1000:=hl
 have he:l.length=t.2.1.length:=he
 have hk:k<=l.length:=hk
 by_cases iv:k < l.length
 ·left
  have Rn:k < t.2.1.length:=by omega
  have n1:nth b8 l k=l[k]:=dz (t:=b8) iv
  have n2:nth lO t.2.1 k=t.2.1[k]:=dz (t:=lO) Rn
  have hd:l.drop k=l[k]::l.drop (k+1):=ax iv
  have U9:t.2.1.drop k=t.2.1[k]::t.2.1.drop (k+1):=ax Rn
  refine⟨(h,t,l,(l.length:Int),((k+1:Nat):Int),o,iT b8 l[k] (t.2.1[k],(h,())) a,s,gL,u,g),⟨hl,he,hb,k+1,by omega,rfl,rfl⟩,by simp only[aa];omega,?_,λkn kx=> ?_⟩
  ·simp only[aN.L1.add,aN.L1.F,aa,hd,U9,yq]
  ·rw[aN.L1.step,bg (by omega),ag,bG (by omega) (by omega),ag,bG (by omega) (by omega),ag,aa,n1,n2,gv.run (d:=t.2.1[k]) (hb _ (aL Rn))]
   simp only[ab,bP,gv.F]
   rw[N.p9 (by omega)]
 ·right
  obtain rfl:k=l.length:=by omega
  intro R kn kx
  rw[aN.L1.step,aX (by omega),al]
  simp only[aN.L1.add,aN.L1.F,aa,aZ,yq]
theorem yC{t:eZ}{h:Int}{a:List (cd×dP)}(e:(e7 t h a).2=0):jk t=true/\1<=h/\h<=1048576/\∃lY,rk h (lW t) a t.1 0= .inr lY/\(iq t).any (pv a)=false/\0<=lY - mP t.2.1/\e7 t h a=(lY - mP t.2.1,0):=by
 unfold e7 at e ⊢
 by_cases h0:jk t=true/\1<=h/\h<=1048576
 ·rw[if_pos h0]at e
  rw[if_pos h0]
  refine⟨h0.1,h0.2.1,h0.2.2,?_⟩
  cases hi:rk h (lW t) a t.1 0 with
  |inl x=>
   exfalso
   rw[hi]at e
   simp only at e
   subst e
   have key:∀(l:List kC) (f:Int),rk h (lW t) a l f≠ .inl 0:=by
    intro l
    induction l with
    |nil=>intro f hf;cases hf
    |cons x l ih=>
     intro f hf
     simp only[rk]at hf
     cases hg:dG b8 x.1 a with
     |none=>rw[hg]at hf;simp at hf
     |some c=>
      rw[hg]at hf
      simp only at hf
      split at hf
      ·rename_i fL;exact fL (by injection hf)
      ·exact ih _ hf
   exact key _ _ hi
  |inr lY=>
   rw[hi]at e
   simp only at e ⊢
   by_cases hm:(iq t).any (pv a)=true
   ·rw[if_pos hm]at e;cases e
   ·rw[if_neg hm]at e
    rw[if_neg hm]
    by_cases hf:lY - mP t.2.1 < 0
    ·rw[if_pos hf]at e;cases e
    ·rw[if_neg hf]
     exact⟨lY,rfl,by simpa using hm,by omega,rfl⟩
 ·rw[if_neg h0]at e;cases e
theorem A3{t:eZ}(h:jk t=true):(dT t).length=t.1.length:=by
 unfold dT
 rw[if_pos h,cK]
theorem aN.ok:aN.Ok:=by
 rintro⟨t,h,n,a,s⟩ ⟨hv,ha,hn,hs⟩
 have hv:rK t:=hv
 have ha:Fh a:=ha
 have hn:n<=s.length:=hn
 have hs:s.length<=1000000:=hs
 rw[aN.eq,aG.run (d:=(t,h,n,a,s)) ⟨hv,ha⟩]
 simp only[ab,bP,aG.F,aN.add,aN.F]
 by_cases he:(e7 t h a).2=0
 ·rw[ff he,al,if_neg (λe=>e he)]
  obtain⟨jU,_,_,_⟩:=yC he
  obtain⟨⟨_,a2,a3,_⟩,b1,b2⟩:=kk jU
  rw[eI.run (d:=t) hv]
  simp only[ab,bP,eI.F]
  rw[cQ.run (d:=t) hv.1]
  simp only[ab,bP,cQ.F]
  rw[aN.L0.run (d:=(h,t,dT t,((dT t).length:Int),0,n,a,s,0,(iq t,()),[])) ⟨by rw[A3 jU];omega,0,aK _,rfl,rfl,rfl,rfl⟩]
  simp only[ab,aN.L0.add,aN.L0.F,bN,aJ,aR,aI]
  rw[aN.L1.run (d:=(h,t,iq t,((iq t).length:Int),0,n,so (dT t) a,s,(dT t).length,(iq t,()),tY a (dT t))) ⟨by rw[pb jU];omega,pb jU,λo ho=>by
   have:=Bc (lk _ _ b2 o ho).2
   exact⟨by omega,λb hb=>by have:=this.2 b hb;omega⟩,0,aK _,rfl,rfl⟩]
  simp only[ab,aN.L1.add,aN.L1.F,bN,aJ]
  have XT:∀(l:List cd) (a:List (cd×dP)),(tY a l).length=l.length:=by
   intro l
   induction l with
   |nil=>intro a;rfl
   |cons o l ih=>intro a;simp[tY,ih]
  rw[aY (by rw[XT];exact⟨trivial,by omega⟩),ag,aY hn,ag,fg (by omega) (by omega),ag,gI (XT _ _)]
  rfl
 ·rw[iH he,ag,if_pos he]
def aN.E:=Entry.Bi [none,some gU,some ti] aN.st aN.aM aN.add aN.F aN.out
def aN.call:aN.D->Option aN.X:=vU aN.E aN.st
theorem aN.run:kF aN.call aN.aM aN.add aN.F:=zF (EG [.d gU,.d ti,.n,.d (.slice (.pair b8 eR)),.d (.slice cE)] λ_=>by kernel_rfl)
def aN.sg:SG Tryz.prog:=⟨30,om,aN.E,.of (.PC (.fn 2 (by kernel_rfl) aN.ok (And.intro (.iR aN.L0.ok (by kernel_rfl)) (And.intro (.iR aN.L1.ok (by kernel_rfl)) trivial)))) (by rfl)⟩
theorem NF(k:Int)(m:List Int):Qx (kK k m):=by
 unfold kK
 split
 ·exact⟨(PA _).u,(Jd _ _).u⟩
 ·exact⟨⟨kS 0,by decide⟩,kS 0,by decide⟩
theorem FY:∀(l l':List kC) (b:List Int),l.map (·.1)=l'.map (·.1)->l.foldl Ae b=l'.foldl Ae b
 |[],[],_,_=>rfl
 |[],_::_,_,h=>by cases h
 |_::_,[],_,h=>by cases h
 |x::l,y::l',b,h=>by
  rw[bX,bX,ed]at h
  have e:Ae b x=Ae b y:=by unfold Ae;rw[h.1]
  rw[bT,bT,e,FY l l' _ h.2]
theorem Lg{l l':List kC}(t:List kO×Int×Unit)(h:l.map (·.1)=l'.map (·.1)):qj (l,t)=qj (l',t):=by
 have hl:l.length=l'.length:=by have:=congrArg List.length h;simpa using this
 unfold qj
 simp only[hl]
 rw[FY l l' _ h]
theorem Ge:∀(l l':List kC) (m:List (cd×Bool)),l.map (·.1)=l'.map (·.1)->uo m l=true->(∀x∈l',uh x.2.1=true)->uo m l'=true
 |[],[],_,_,_,_=>rfl
 |[],_::_,_,h,_,_=>by cases h
 |_::_,[],_,h,_,_=>by cases h
 |x::l,y::l',m,h,hi,hw=>by
  rw[bX,bX,ed]at h
  rw[uo,aj,aj]at hi ⊢
  have hx:=hi.1.2
  unfold AY at hx
  rw[aj]at hx
  refine⟨⟨?_,?_⟩,?_⟩
  ·have:=hi.1.1
   unfold zg at this ⊢
   rw[<-h.1]
   exact this
  ·unfold AY
   rw[<-h.1,hx.1,hw y aH]
   rfl
  ·rw[<-h.1]
   exact Ge l l' _ h.2 hi.2 λz hz=>hw z (aF _ hz)
theorem NV{l l':List kC}{t:List kO×Int×Unit}(h:l.map (·.1)=l'.map (·.1))(jU:jk (l,t)=true)(hw:∀x∈l',uh x.2.1=true):jk (l',t)=true:=by
 have hl:l.length=l'.length:=by have:=congrArg List.length h;simpa using this
 unfold jk E5 at jU ⊢
 rw[aj,aj]at jU ⊢
 simp only[hl]at jU
 exact⟨jU.1,Ge l l' _ h jU.2.1 hw,jU.2.2⟩
theorem JZ{l l':List kC}{t:List kO×Int×Unit}(h:l.map (·.1)=l'.map (·.1))(h1:jk (l,t)=true)(h2:jk (l',t)=true):lW (l',t)=lW (l,t):=by
 unfold lW
 rw[h1,h2,Lg t h]
theorem IT{l l':List kC}{t:List kO×Int×Unit}(h:l.map (·.1)=l'.map (·.1))(h1:jk (l,t)=true)(h2:jk (l',t)=true):dT (l',t)=dT (l,t):=by
 unfold dT
 rw[h1,h2]
 exact h.symm
theorem M9{l l':List kC}{t:List kO×Int×Unit}(h:l.map (·.1)=l'.map (·.1))(h1:jk (l,t)=true)(h2:jk (l',t)=true):iq (l',t)=iq (l,t):=by
 unfold iq
 rw[h1,h2,JZ h h1 h2]
def zV(t:eZ)(k:Nat)(w:CD):eZ:=(t.1.set k ((nth jo t.1 k).1,w,()),t.2)
theorem xY(l:List kC)(k:Nat)(w:CD)(h:k < l.length):l.map (·.1)=(l.set k ((nth jo l k).1,w,())).map (·.1):=by
 have n1:nth jo l k=l[k]:=dz (t:=jo) h
 rw[n1,List.map_set]
 have e:(l[k].1:cd)=(l.map (·.1))[k]'(by rw[cK];exact h):=by rw[List.getElem_map]
 show _=(l.map (·.1)).set k l[k].1
 rw[e,gB]
theorem G0{l:List kC}{k:Nat}{w:CD}{x:kC}(h:k < l.length)(hx:x∈l.set k ((nth jo l k).1,w,())):x∈l\/(x.1=l[k].1/\x.2.1=w):=by
 have n1:nth jo l k=l[k]:=dz (t:=jo) h
 rw[n1]at hx
 rcases List.mem_or_eq_of_mem_set hx with h1 | h1
 ·exact .inl h1
 ·exact .inr ⟨by rw[h1],by rw[h1]⟩
theorem An{t:eZ}{k:Nat}{w:CD}(h:k < t.1.length)(jU:jk t=true)(hw:uh w=true):jk (zV t k w)=true:=by
 obtain⟨_,b1,_⟩:=kk jU
 refine NV (l:=t.1) (xY t.1 k w h) jU λx hx=> ?_
 rcases G0 h hx with h1 | h1
 ·have:=mg _ _ b1 x h1
  unfold AY at this
  rw[aj]at this
  exact this.2
 ·rw[h1.2];exact hw
theorem RZ{t:eZ}{k:Nat}{w:CD}(h:k < t.1.length)(hv:rK t)(hu:CE w)(hl:w.2.1.length<=9223372036854775807):rK (zV t k w):=by
 refine⟨⟨hv.1.1,by show(t.1.set k _).length<=_;rw[List.length_set];exact hv.1.2.1,hv.1.2.2⟩,λx hx=> ?_,hv.2.2⟩
 rcases G0 h hx with h1 | h1
 ·exact hv.2.1 x h1
 ·refine⟨?_,by rw[h1.2];exact hu,by rw[h1.2];exact hl⟩
  rw[h1.1]
  exact(hv.2.1 _ (aL h)).1
theorem Ps{t:eZ}{k:Nat}{w:CD}(h:k < t.1.length)(jU:jk t=true)(hw:uh w=true):lW (zV t k w)=lW t/\dT (zV t k w)=dT t/\iq (zV t k w)=iq t:=
 ⟨JZ (l:=t.1) (xY t.1 k w h) jU (An h jU hw),IT (l:=t.1) (xY t.1 k w h) jU (An h jU hw),M9 (l:=t.1) (xY t.1 k w h) jU (An h jU hw)⟩
def CZ(t:eZ)(br:Int)(ks:List Int)(sc:Int):CD:=(br,ks.map (λk=>kK k (lW t)),sc,())
theorem NH(t:eZ)(i br:Int)(ks:List Int)(sc:Int):NG t i br ks sc=if tN t i br ks then(zV t i.toNat (CZ t br ks sc),0) else(([],[],0,()),1):=rfl
theorem G4{t:eZ}{i br:Int}{ks:List Int}(h:tN t i br ks=true):jk t=true/\(0<=i/\i < t.1.length/\0<=br/\br < 4/\ks.length<=12)/\∀k∈ks,k < 2305843009213688669/\k≠0:=by
 unfold tN at h
 simp only[aj,decide_eq_true_eq,cC]at h
 refine⟨h.1,h.2.1,λk hk=> ?_⟩
 have:=h.2.2
 rw[jl]at this
 have:=this k hk
 unfold wk at this
 simpa using this
theorem Pu{t:eZ}{i br:Int}{ks:List Int}(sc:Int)(h:tN t i br ks=true):uh (CZ t br ks sc)=true:=by
 have e:=(G4 h).2.1
 unfold uh CZ
 rw[aY ⟨e.2.2.1,e.2.2.2.1⟩,aY (by rw[cK];exact e.2.2.2.2)]
 rfl
theorem R2(t:eZ)(br:Int)(ks:List Int){sc:Int}(h:mq sc):CE (CZ t br ks sc):=⟨λs hs=>by
  obtain⟨k,_,rfl⟩:=eJ.1 (show s∈ks.map λk=>kK k (lW t) from hs)
  exact NF k _,h⟩
theorem NI{t:eZ}{i br sc:Int}{ks:List Int}(hv:rK t)(h:tN t i br ks=true)(hs:mq sc):
  jk (zV t i.toNat (CZ t br ks sc))=true/\rK (zV t i.toNat (CZ t br ks sc))/\lW (zV t i.toNat (CZ t br ks sc))=lW t/\dT (zV t i.toNat (CZ t br ks sc))=dT t/\iq (zV t i.toNat (CZ t br ks sc))=iq t:=by
 obtain⟨jU,e,_⟩:=G4 h
 have hk:i.toNat < t.1.length:=by omega
 have hw:=Pu sc h
 exact⟨An hk jU hw,RZ hk hv (R2 t br ks hs) (by show(ks.map _).length<=_;rw[cK];omega),Ps hk jU hw⟩
def xm:iw:=([],true,())
def mU(r:iw):Prop:=r.1.length<=1000000000/\Bytes r.1
def kM(n:Nat)(r:iw):List Int×iw:=if r.2.1=true\/r.1.length < n then([],xm) else(r.1.take n,(r.1.drop n,r.2))
def wR(l:List Int):Int:=l.foldl (λn b=>n*256+b) 0
def ng(r:iw):Int×iw:=(wR (kM 8 r).1,(kM 8 r).2)
theorem Ep:mU xm:=⟨aK _,λx hx=>by cases hx⟩
theorem qT{n:Nat}{r:iw}(h:mU r):(kM n r).1.length<=n/\Bytes (kM n r).1/\mU (kM n r).2:=by
 unfold kM
 split
 ·exact⟨aK _,λx hx=>(by cases hx),Ep⟩
 ·refine⟨by rw[bQ];omega,λx hx=>h.2 x (iZ hx),?_,λx hx=>h.2 x (List.mem_of_mem_drop hx)⟩
  show(r.1.drop n).length<=_
  rw[dy]
  have:=h.1
  omega
theorem K9(l:List Int)(b:Int):wR (l++ [b])=wR l*256+b:=by unfold wR;rw[List.foldl_append];rfl
theorem GD:∀(l:List Int) (n:Int) (k:Nat),Bytes l->0<=n->n < 256^k->0<=l.foldl (λn b=>n*256+b) n/\l.foldl (λn b=>n*256+b) n < 256^(k+l.length)
 |[],n,k,_,h0,h1=>⟨h0,h1⟩
 |b::l,n,k,hb,h0,h1=>by
  obtain⟨Vm,Vn⟩:=hb b aH
  have e:(256:Int)^(k+1)=256^k*256:=gg 256 k
  have:=GD l (n*256+b) (k+1) (λx hx=>hb x (aF _ hx)) (by omega) (by rw[e];omega)
  rw[show k+(b::l).length=k+1+l.length by rw[aB];omega]
  exact this
theorem JM{l:List Int}(h:Bytes l):0<=wR l/\wR l < 256^l.length:=by
 have:=GD l 0 0 h (kS 0) (by decide)
 rw[aI]at this
 exact this
theorem DO{a b:Nat}(h:a<=b):(256:Int)^a<=256^b:=by
 have:((256^a:Nat):Int)<=((256^b:Nat):Int):=Int.ofNat_le.2 (Nat.pow_le_pow_right (by decide) h)
 rw[jY,jY]at this
 exact this
theorem RP{l:List Int}(h:Bytes l)(h8:l.length<=8):mq (wR l):=by
 have e:=JM h
 have e2:=DO h8
 have e3:(256:Int)^8=18446744073709551616:=rfl
 exact⟨e.1,by omega⟩
theorem y6{r:iw}(h:mU r):mq (ng r).1/\mU (ng r).2:=⟨RP (qT h).2.1 (qT h).1,(qT h).2.2⟩
theorem UI{n b:Int}(h0:0<=n)(h1:n < 72057594037927936)(hb:D7 b):dY .or .u64 (l5 .u64 n 8) (fa .u64 b)=n*256+b:=by
 have e:=(ze (n:=n) (b:=b) ⟨h0,by omega⟩ hb).1
 rw[pD 56 (by rfl) (by omega)]at e
 have p:(2:Int)^56=72057594037927936:=rfl
 rw[p]at e
 omega
abbrev kh.D:=iw
abbrev kh.Y:=iw
def kh.aM:kh.D->Prop:=λ_=>True
def kh.F:kh.D->kh.Y:=λ_=>xm
def kh:Fs Tryz.prog kh.aM bP kh.F:=gC 239 Tryz.f239 (λo0=>([.ptr (.aV 0) 0 [] 0],[.obj 0 false (.d oa o0)])) (λx=>⟨.nil,[.obj 0 false (.d oa x)],[]⟩) [none] [] {Az:=[⟨0,[.arr],oa⟩]}
theorem kh.eq{R:Type}(o0)(k:K1 R):kh.A o0 k=
 k (kh.out (([]:List Int),(true,o0.2.2))):=by kernel_rfl
theorem kh.ok:kh.Ok:=by
 intro o _
 rw[kh.eq]
 rfl
theorem kh.run:kh.RS:=rE [.d oa] kh
def kh.sg:=kh.gG kh.ok
abbrev jD.D:=iw
abbrev jD.Y:=Int
abbrev jD.X:=(iw)×(Int)
def jD.add:jD.D->jD.Y->jD.X:=λo0 y=>(o0,y)
def jD.aM:jD.D->Prop:=λ_=>True
def jD.F:jD.D->jD.Y:=λo=>(o.1.length:Int)
def jD:Fs Tryz.prog jD.aM jD.add jD.F:=gC 190 Tryz.f190 (λo0=>([.ptr (.aV 0) 0 [] 0],[.obj 0 false (.d oa o0)])) (λx=>⟨.d ti x.2,[.obj 0 false (.d oa x.1)],[]⟩) [none]
theorem jD.eq{R:Type}(o0)(k:K1 R):jD.A o0 k=
 k (jD.out (o0,(o0.1.length:Int))):=by kernel_rfl
theorem jD.ok:jD.Ok:=by
 intro o _
 rw[jD.eq]
 rfl
theorem jD.run:jD.RS:=rE [.d oa] jD
def jD.sg:=jD.gG jD.ok
abbrev na.D:=iw
abbrev na.Y:=Bool
abbrev na.X:=(iw)×(Bool)
def na.add:na.D->na.Y->na.X:=λo0 y=>(o0,y)
def na.aM:na.D->Prop:=λ_=>True
def na.F:na.D->na.Y:=λo=> !o.2.1
def na:Fs Tryz.prog na.aM na.add na.F:=gC 189 Tryz.f189 (λo0=>([.ptr (.aV 0) 0 [] 0],[.obj 0 false (.d oa o0)])) (λx=>⟨.d .bool x.2,[.obj 0 false (.d oa x.1)],[]⟩) [none]
theorem na.eq{R:Type}(o0)(k:K1 R):na.A o0 k=
 k (na.out (o0,(!o0.2.1))):=by kernel_rfl
theorem na.ok:na.Ok:=by
 intro o _
 rw[na.eq]
 rfl
theorem na.run:na.RS:=rE [.d oa] na
def na.sg:=na.gG na.ok
abbrev jh.D:=Int×iw
abbrev jh.Y:=Bs×iw
def jh.aM:jh.D->Prop:=λ(n,o)=>0<=n/\o.1.length<=1000000000
def jh.F:jh.D->jh.Y:=λ(n,o)=>kM n.toNat o
def jh:Fs Tryz.prog jh.aM bP jh.F:=gC 240 Tryz.f240 (λ(n,o0)=>([.ptr (.aV 0) 0 [] 0,.d ti n],[.obj 0 false (.d oa o0)])) (λx=>⟨.d tB x.1,[.obj 0 false (.d oa x.2)],[]⟩) [none,some ti] [kh.sg,fK.sg] {res:=[some tB],Az:=[⟨0,[.arr],oa⟩]}
theorem jh.eq{R:Type}(n o0)(k:K1 R):jh.A (n,o0) k=
  aP (o0.2.1) (
   ah (kh.call o0) λx1=>
   k (jh.out (([]:List Int),x1))) (
   aP ((uL n (o0.1.length:Int))) (
    ah (kh.call o0) λx2=>
    k (jh.out (([]:List Int),x2))) (
    aP (inc n (o0.1.length:Int)) (
    ah (fK.call (cut o0.1 0 ((Int.toNat n) - 0))) λx3=>
    aP (inc n (o0.1.length:Int)) (
    aP (decide (0=0/\(0+x3.1)<=(List.length x3.2))) (
    k (jh.out ((cut x3.2 0 x3.1),((cut o0.1 (Int.toNat n) ((List.length o0.1) - (Int.toNat n))),o0.2)))) none) none) none)):=by kernel_rfl
theorem jh.ok:jh.Ok:=by
 rintro⟨n,o⟩ ⟨h0,hl⟩
 have h0:0<=n:=h0
 have hl:o.1.length<=1000000000:=hl
 obtain⟨k,rfl⟩:∃k:Nat,n=k:=⟨n.toNat,by omega⟩
 rw[jh.eq]
 simp only[bP,jh.F,kM,aa,Nat.sub_zero]
 cases h2:o.2.1
 ·by_cases hn:o.1.length < k
  ·rw[eY (by omega),if_pos (Or.inr hn),kh.run (d:=o) trivial];rfl
  ·have e1:cut o.1 0 k=o.1.take k:=rfl
   have e2:cut o.1 k (o.1.length - k)=o.1.drop k:=by unfold cut;rw[bk];rw[dy];omega
   rw[eC (by omega),if_neg (by intro x;rcases x with x | x;exact absurd x (by decide);exact hn x),oz (by omega) (by omega),e1,e2,fK.run (d:=o.1.take k) (by show(o.1.take k).length<=_;rw[bQ];omega)]
   simp only[al,ag,ab,bP,fK.F,aI,aw,and_self,decide_true,gI]
 ·rw[ag,if_pos (Or.inl rfl),kh.run (d:=o) trivial];rfl
theorem jh.run:jh.RS:=rE [.d ti,.d oa] jh
def jh.sg:=jh.gG jh.ok
abbrev fR.L0.D:=Int×Bs×Int×Int×iw
abbrev fR.L0.Y:=Int
abbrev fR.L0.X:=(iw)×(Int)
def fR.L0.add:fR.L0.D->fR.L0.Y->fR.L0.X:=λ(n,t7,t8,t9,nM) y=>(nM,y)
abbrev fR.D:=iw
abbrev fR.Y:=Int×iw
def fR.L0.aM:fR.L0.D->Prop:=λ(n,l,m,i,o)=>Bytes l/\l.length<=8/\m=l.length/\∃k:Nat,k<=l.length/\i=k/\n=wR (l.take k)
def fR.L0.F:fR.L0.D->fR.L0.Y:=λ(n,l,m,i,o)=>wR l
def fR.aM:fR.D->Prop:=λo=>mU o
def fR.F:fR.D->fR.Y:=λo=>ng o
def fR.L0:Ls fR.L0.aM fR.L0.add fR.L0.F:=rY (λ(n,t7,t8,t9,nM)=>⟨([.undef,.undef,.undef,.d tu n,.undef,.undef,.undef,.d tB t7,.d ti t8,.d ti t9]++aT 10 []),[.obj 0 false (.d oa nM)],(List.replicate 20 [])⟩) (λx=>(.exit 0,⟨([.undef,.undef,.undef,.d tu x.2]++aT 16 []),[.obj 0 false (.d oa x.1)],(List.replicate 20 [])⟩))
def fR:Fs Tryz.prog fR.aM bP fR.F:=gC 188 Tryz.f188 (λo0=>([.ptr (.aV 0) 0 [] 0],[.obj 0 false (.d oa o0)])) (λx=>⟨.d tu x.1,[.obj 0 false (.d oa x.2)],[]⟩) [none] [jh.sg] {loops:=pz [(3,{bo:=[3,7,8,9]})],outs:=py [(3,{bo:=[3]},{bo:=[2]})],iX:=qg [(3,fR.L0.E)]}
theorem fR.L0.run:fR.L0.RS:=rL [.d tu,.d tB,.d ti,.d ti,.d oa] fR.L0
theorem fR.L0.step{R:Type}(n t7 t8 t9 nM)(kn:K2 R)(kx:K3 R):fR.R 0 fR.L0 (n,t7,t8,t9,nM) kn kx=
  aP ((jx t9 t8)) (
   aP (jn t9 (t7.length:Int)) (
   kn (fR.L0.st ((dY .or .u64 (l5 .u64 n 8) (fa .u64 (nth tb t7 (Int.toNat t9)))),t7,t8,(cG .i64 t9 1),nM))) none) (
   fR.L0.go kx (nM,n)):=by kernel_rfl
theorem fR.eq{R:Type}(o0)(k:K1 R):fR.A o0 k=
 ah (jh.call (8,o0)) λx1=>
 ah (fR.L0.call (0,x1.1,(x1.1.length:Int),0,x1.2)) λx2=>
 k (fR.out (x2.2,x2.1)):=by kernel_rfl
theorem fR.L0.ok:(fR.mL 0 fR.L0):=by
 refine(fR.oH 0 fR.L0) (λ(n,l,m,i,o)=>l.length - i.toNat) ?_
 rintro⟨n,l,m,i,o⟩ ⟨hb,h8,rfl,k,hk,rfl,rfl⟩
 have h8:l.length<=8:=h8
 have hk:k<=l.length:=hk
 by_cases h:k < l.length
 ·left
  have hx:=hb _ (aL h)
  have n1:nth (.int .u8) l k=l[k]:=dz (t:= .int .u8) h
  have ht:(l.take k).length=k:=by rw[bQ];omega
  have b0:=JM (l:=l.take k) λx hx=>hb x (iZ hx)
  rw[ht]at b0
  have b1:=DO (show k<=7 by omega)
  have b2:(256:Int)^7=72057594037927936:=rfl
  refine⟨(wR (l.take (k+1)),l,l.length,((k+1:Nat):Int),o),⟨hb,h8,rfl,k+1,by omega,rfl,rfl⟩,by simp only[aa];omega,rfl,λkn kx=> ?_⟩
  rw[fR.L0.step,bg (by omega),bG (by omega) (by omega),aa,n1,N.p9 (by omega),UI b0.1 (by omega) hx,List.take_succ_eq_append_getElem h,K9]
  rfl
 ·right
  obtain rfl:k=l.length:=by omega
  intro R kn kx
  rw[fR.L0.step,aX (by omega),al,dh]
  rfl
theorem fR.ok:fR.Ok:=by
 intro o h
 have h:mU o:=h
 have t:=qT (n:=8) h
 rw[fR.eq,jh.run (d:=(8,o)) ⟨by decide,h.1⟩]
 simp only[ab,bP,jh.F]
 rw[show Int.toNat 8=8 from rfl,fR.L0.run (d:=(0,(kM 8 o).1,(kM 8 o).1.length,0,(kM 8 o).2)) ⟨t.2.1,t.1,rfl,0,aK _,rfl,rfl⟩]
 rfl
theorem fR.run:fR.RS:=rE [.d oa] fR
def fR.sg:=fR.gG fR.ok 1 ⟨.iR fR.L0.ok,trivial⟩
abbrev ki.D:=Bs
abbrev ki.Y:=iw
def ki.aM:ki.D->Prop:=λb=>b.length<=1000000000
def ki.F:ki.D->ki.Y:=λb=>(b,false,())
def ki:Fs Tryz.prog ki.aM bP ki.F:=gC 182 Tryz.f182 (λb=>([.d tB b],[])) (λx=>⟨.ptr (.new 0 0) 0 [] 0,[],[.obj 0 false (.d oa x)]⟩) [some tB] [fK.sg] {bK:=[6],Az:=[⟨2,[.arr],oa⟩]}
theorem ki.eq{R:Type}(b)(k:K1 R):ki.A b k=
 ah (fK.call b) λx1=>
 aP (decide (0=0/\(0+x1.1)<=(List.length x1.2))) (
 k (ki.out ((cut x1.2 0 x1.1),(false,())))) none:=by kernel_rfl
theorem ki.ok:ki.Ok:=by
 intro b hb
 have hb:b.length<=1000000000:=hb
 rw[ki.eq,fK.run (d:=b) (by show b.length<=_;omega)]
 simp only[ab,bP,fK.F,aI,aw,and_self,decide_true,ag,gI]
 rfl
theorem ki.run:ki.RS:=rE [.d tB] ki
def ki.sg:=ki.gG ki.ok
abbrev fo.D:=Int×iw
abbrev fo.Y:=Bool
abbrev fo.X:=(Int×iw)×(Bool)
def fo.add:fo.D->fo.Y->fo.X:=λ(o0,o2) y=>((o0,o2),y)
def fo.aM:fo.D->Prop:=λ(a,o)=>0<=a
def fo.F:fo.D->fo.Y:=λ(a,o)=>decide (o.1.length<=a.toNat\/8 < a.toNat\/(0 < a.toNat/\nth (.int .u8) o.1 a.toNat=0))
def fo:Fs Tryz.prog fo.aM fo.add fo.F:=gC 238 Tryz.f238 (λ(o0,o2)=>([.ptr (.aV 0) 0 [] 0,.ptr (.aV 1) 0 [] 0],[.obj 0 false (.d ti o0),.obj 0 false (.ptr (.aV 2) 0 [] 0),.obj 0 false (.d oa o2)])) (λx=>⟨.d .bool x.2,[.obj 0 false (.d ti x.1.1),.obj 0 false (.ptr (.aV 2) 0 [] 0),.obj 0 false (.d oa x.1.2)],[]⟩) [none,none]
theorem fo.eq{R:Type}(o0 o2)(k:K1 R):fo.A (o0,o2) k=
  aP ((tZ o0 (o2.1.length:Int))) (
   k (fo.out ((o0,o2),true))) (
   aP ((uL o0 8)) (
    k (fo.out ((o0,o2),true))) (
    aP ((uL o0 0)) (
     aP (jn o0 (o2.1.length:Int)) (
     k (fo.out ((o0,o2),(w8 (nth tb o2.1 (Int.toNat o0)) 0)))) none) (
     k (fo.out ((o0,o2),false))))):=by kernel_rfl
theorem fo.ok:fo.Ok:=by
 rintro⟨a,o⟩ h0
 obtain⟨k,rfl⟩:∃k:Nat,a=k:=⟨a.toNat,by have h0:0<=a:=h0;omega⟩
 rw[fo.eq]
 simp only[fo.add,fo.F,aa]
 by_cases h1:o.1.length<=k
 ·rw[jg (by omega),aY (Or.inl h1)];rfl
 by_cases h2:8 < k
 ·rw[fI (by omega),eY (by omega),aY (Or.inr (Or.inl h2))];rfl
 by_cases h3:0 < k
 ·rw[fI (by omega),eC (by omega),eY (by omega),bG (by omega) (by omega)]
  simp only[al,ag]
  by_cases h4:nth (.int .u8) o.1 k=0
  ·rw[jf h4,aY (Or.inr (Or.inr ⟨h3,h4⟩))]
  ·rw[lH h4,cH (by rintro(x | x | x);exact h1 x;exact h2 x;exact h4 x.2)]
 ·rw[fI (by omega),eC (by omega),eC (by omega),cH (by rintro(x | x | x);exact h1 x;exact h2 x;exact h3 x.1)];rfl
theorem fo.run:fo.RS:=rE [.d ti,.d oa] fo
def fo.sg:=fo.gG fo.ok
def rr:List Int->Nat->Int->(Int×Nat)⊕Unit
 |[],_,_=> .inr ()
 |d::l,a,n=>if 8 < a\/(0 < a/\d=0) then .inr () else if d < 128 then .inl (n+d%128*128^a,a+1) else rr l (a+1) (n+d%128*128^a)
def dH(r:iw):Int×iw:=match rr r.1 0 0 with | .inl v=>(v.1,(r.1.drop v.2,r.2)) | .inr _=>(0,xm)
theorem IG(k:Nat):(128:Int)^k=((128^k:Nat):Int):=by rw[jY];rfl
theorem FQ{n d k:Nat}(hk:k<=8)(hn:n < 128^k)(hd:d < 128):dY .or .i64 (n:Int) (l5 .i64 (d:Int) ((7*k:Nat):Int))=((n+d*128^k:Nat):Int)/\n+d*128^k < 128^(k+1)/\128^(k+1)<=9223372036854775808:=by
 have p:128^k<=128^8:=Nat.pow_le_pow_right (by decide) hk
 have p8:128^8=72057594037927936:=rfl
 have e1:128^(k+1)=128^k*128:=Nat.pow_succ (n:=128) (m:=k)
 have e2:2^(7*k)=128^k:=by rw[Nat.pow_mul]
 have e3:d*128^k<=127*128^k:=cY _ (by omega)
 refine⟨?_,by omega,by omega⟩
 have s:l5 .i64 (d:Int) ((7*k:Nat):Int)=((d*128^k:Nat):Int):=by
  rw[l5]
  have e:min (Int.toNat ((7*k:Nat):Int)) IntKind.i64.bits=7*k:=by simp only[IntKind.bits,aa];omega
  rw[e,show(2:Int)^(7*k)=((2^(7*k):Nat):Int) by rw[jY];rfl,e2,<-jX]
  exact ov (by omega) (by omega)
 rw[s]
 have e:(BitVec.ofInt 64 (n:Int) ||| BitVec.ofInt 64 ((d*128^k:Nat):Int)).toNat=n+d*128^k:=by
  rw[BitVec.toNat_or]
  have a:(BitVec.ofInt 64 ((d*128^k:Nat):Int)).toNat=2^(7*k)*d:=by rw[iY,jJ,e2,mD];exact jG (by rw[mD];omega)
  have b:(BitVec.ofInt 64 (n:Int)).toNat=n:=by rw[iY,jJ];exact jG (by omega)
  rw[a,b,Nat.or_comm,<-Nat.two_pow_add_eq_or_of_lt (by rw[e2];exact hn),e2,mD]
  omega
 show IntKind.i64.wrap ((BitVec.ofInt 64 (n:Int) ||| BitVec.ofInt 64 ((d*128^k:Nat):Int)).toNat:Int)=_
 rw[e]
 exact ov (by omega) (by omega)
theorem ET:∀(l:List Int) (a:Nat) (n:Int) (v:Int×Nat),Bytes l->a<=9->0<=n->n < 128^a->rr l a n= .inl v->0<=v.1/\v.1 < 9223372036854775808/\a < v.2/\v.2<=a+l.length/\v.2<=9
 |[],a,n,v,_,_,_,_,h=>by cases h
 |d::l,a,n,v,hb,ha,h0,h1,h=>by
  have hx:=hb d aH
  obtain⟨x1,x2⟩:=hx
  rw[rr]at h
  split at h
  ·cases h
  ·rename_i hc
   have XL:a<=8:=by omega
   rw[IG]at h1 h
   obtain⟨nn,rfl⟩:∃m:Nat,n=m:=⟨n.toNat,by omega⟩
   obtain⟨dn,Va⟩:∃m:Nat,d%128=m:=⟨(d%128).toNat,by omega⟩
   have g:=(FQ (n:=nn) (d:=dn) XL (by omega) (by omega)).2
   rw[Va]at h
   have ec:((nn:Int)+(dn:Int)*((128^a:Nat):Int))=((nn+dn*128^a:Nat):Int):=by rw[Int.natCast_add,jX]
   rw[ec]at h
   split at h
   ·cases h
    simp only[aB]
    exact⟨by omega,by omega,by omega,by omega,by omega⟩
   ·have:=ET l (a+1) _ v (λx hx=>hb x (aF _ hx)) (by omega) (by omega) (by rw[IG];omega) h
    simp only[aB]
    exact⟨this.1,this.2.1,by omega,by omega,this.2.2.2.2⟩
theorem nj{r:iw}(h:mU r):0<=(dH r).1/\(dH r).1<=9223372036854775807/\mU (dH r).2:=by
 unfold dH
 cases hf:rr r.1 0 0 with
 |inl v=>
  have:=ET r.1 0 0 v h.2 (by decide) (by decide) (by decide) hf
  refine⟨this.1,by have:=this.2.1;show v.1<=_;omega,?_,λx hx=>h.2 x (List.mem_of_mem_drop hx)⟩
  show(r.1.drop v.2).length<=_
  rw[dy]
  have:=h.1
  omega
 |inr _=>exact⟨kS 0,(show(0:Int)<=9223372036854775807 by decide),Ep⟩
theorem GG:∀(f:Nat) (n:Int) (a:Nat) (m:Int) (rest:List Int),0<=n->n < 128^(f+1)->a+f<=8->(a=0\/0 < n)->
  rr ((gJ f n).1++(gJ f n).2::rest) a m= .inl (m+n*128^a,a+(gJ f n).1.length+1)
 | 0,n,a,m,rest,h0,h1,ha,hp=>by
  have h1:n < 128:=h1
  show rr (n::rest) a m=_
  rw[rr,if_neg (by omega),if_pos h1,fi h0 h1]
  rfl
 |f+1,n,a,m,rest,h0,h1,ha,hp=>by
  rw[gJ]
  have e:(128:Int)^(f+1+1)=128^(f+1)*128:=gg 128 (f+1)
  split
  ·rename_i h
   show rr ((n%128+128)::((gJ f (n / 128)).1++(gJ f (n / 128)).2::rest)) a m=_
   rw[rr,if_neg (by omega),if_neg (by omega),GG f (n / 128) (a+1) _ rest (by omega) (by omega) (by omega) (Or.inr (by omega))]
   have e2:(128:Int)^(a+1)=128^a*128:=gg 128 a
   have e3:(n%128+128)%128=n%128:=by omega
   have e4:m+n%128*128^a+n / 128*(128^a*128)=m+n*128^a:=by
    have:n*128^a=(n%128+n / 128*128)*128^a:=by rw[show n%128+n / 128*128=n by omega]
    rw[this,Int.add_mul,Int.mul_assoc (n / 128),Int.mul_comm 128 (128^a),Int.add_assoc]
   rw[e3,e2,e4]
   simp only[aB]
   rw[show a+1+(gJ f (n / 128)).1.length+1=a+((gJ f (n / 128)).1.length+1)+1 by omega]
  ·rename_i h
   show rr (n::rest) a m=_
   rw[rr,if_neg (by omega),if_pos (by omega),fi h0 (by omega)]
   rfl
theorem uS(n:Int)(h:uj n)(rest:List Int)(u:Bool×Unit):dH (iC n++rest,u)=(n,(rest,u)):=by
 have h0:=h.1
 have h1:=h.2
 have e8:(128:Int)^(8+1)=9223372036854775808:=rfl
 have e10:(128:Int)^(10+1)=151115727451828646838272:=rfl
 have er:gJ 10 n=gJ 8 n:=vy 10 8 n (by rw[e10];omega) (by rw[e8];omega)
 have el:iC n++rest=(gJ 8 n).1++(gJ 8 n).2::rest:=by unfold iC;rw[er,aD];rfl
 have e:=GG 8 n 0 0 rest h0 (by rw[e8];omega) (by decide) (Or.inl rfl)
 unfold dH
 show(match rr (iC n++rest) 0 0 with | .inl v=>(v.1,((iC n++rest).drop v.2,u)) | .inr _=>(0,xm))=_
 rw[el,e]
 show(0+n*128^0,(((gJ 8 n).1++(gJ 8 n).2::rest).drop (0+(gJ 8 n).1.length+1),u))=_
 rw[j4,Int.mul_one,Int.zero_add,aI,List.append_cons,jZ (by rw[ae];rfl)]
theorem Nj(n:Int)(h:mq n):wR (kP n)=n:=by
 obtain⟨h0,h1⟩:=h
 unfold wR kP
 simp only[bT,dR]
 omega
theorem va(n:Int)(h:mq n)(rest:List Int):ng (kP n++rest,false,())=(n,(rest,false,())):=by
 unfold ng kM
 have l8:=dB n
 rw[if_neg (by
  intro x
  rcases x with x | x
  ·have x:false=true:=x
   cases x
  ·have x:(kP n++rest).length < 8:=x
   rw[ae]at x
   omega)]
 show(wR ((kP n++rest).take 8),((kP n++rest).drop 8,false,()))=_
 rw[j2 l8,jZ l8,Nj n h]
abbrev cU.L0.D:=Int×iw×Int
def cU.L0.st:cU.L0.D->AS:=λ(n,nM,n4)=>⟨([.ptr (.aV 0) 0 [] 0,.ptr (.new 1 0) 0 [] 0,.undef,.d ti n,.ptr (.new 4 0) 0 [] 0,.fn 238 (.cons (.ptr (.new 4 0) 0 [] 0) (.cons (.ptr (.new 1 0) 0 [] 0) (.nil)))]++aT 35 []),[.obj 0 false (.d oa nM)],([[],[.obj 0 false (.ptr (.aV 0) 0 [] 0)],[],[],[.obj 0 false (.d ti n4)]]++ct 36 [])⟩
abbrev cU.L0.Y0:=iw
abbrev cU.L0.X0:=iw
def cU.L0.eG:cU.L0.X0->Exit×AS:=λx=>(.ret,⟨([.ptr (.aV 0) 0 [] 0,.undef,.d ti (0:Int)]++aT 38 []),[.obj 0 false (.d oa x)],(List.replicate 41 [])⟩)
abbrev cU.L0.Y1:=Int×iw×Int
abbrev cU.L0.X1:=Int×iw×Int
def cU.L0.gZ:cU.L0.X1->Exit×AS:=λx=>(.exit 0,⟨([.ptr (.aV 0) 0 [] 0,.ptr (.new 1 0) 0 [] 0,.undef,.d ti x.1,.ptr (.new 4 0) 0 [] 0]++aT 36 []),[.obj 0 false (.d oa x.2.1)],([[],[.obj 0 false (.ptr (.aV 0) 0 [] 0)],[],[],[.obj 0 false (.d ti x.2.2)]]++ct 36 [])⟩)
abbrev cU.L0.X:=(cU.L0.X0)⊕(cU.L0.X1)
abbrev cU.L0.Y:=(cU.L0.Y0)⊕(cU.L0.Y1)
def cU.L0.out:cU.L0.X->Out (Exit×AS):=λx=> .br x.isLeft (.get x.getLeft? λa=> .ok (cU.L0.eG a)) (.get x.getRight? λb=> .ok (cU.L0.gZ b))
def cU.L0.add:cU.L0.D->cU.L0.Y->cU.L0.X:=λ(n,nM,n4) y=>match y with | .inl y=> .inl y | .inr z=> .inr (z)
abbrev cU.D:=iw
abbrev cU.Y:=Int×iw
def cU.L0.aM:cU.L0.D->Prop:=λ(n,o,i)=>mU o/\∃(k m:Nat),k<=9/\i=k/\n=m/\m < 128^k
def cU.L0.F:cU.L0.D->cU.L0.Y:=λ(n,o,i)=>match rr (o.1.drop i.toNat) i.toNat n with | .inl v=> .inr (v.1,o,(v.2:Int)) | .inr _=> .inl xm
def cU.aM:cU.D->Prop:=λo=>mU o
def cU.F:cU.D->cU.Y:=λo=>dH o
def cU.L0.E:=eE.iR cU.L0.st cU.L0.aM cU.L0.add cU.L0.F cU.L0.out
def cU.L0.call:cU.L0.D->Option cU.L0.X:=j9 cU.L0.E cU.L0.st
def cU:Fs Tryz.prog cU.aM bP cU.F:=gC 184 Tryz.f184 (λo0=>([.ptr (.aV 0) 0 [] 0],[.obj 0 false (.d oa o0)])) (λx=>⟨.d ti x.1,[.obj 0 false (.d oa x.2)],[]⟩) [none] [fo.sg,kh.sg] {bK:=[1],loops:=pz [(3,{bo:=[0,1,3,4,5],sites:=[1,4]})],outs:=py [(3,{bo:=[0,1,3,4],sites:=[1,4]},{bo:=[0,2]})],iX:=qg [(3,cU.L0.E)],Az:=[⟨0,[.arr],oa⟩]}
def cU.L0.R:= @gN Tryz.prog (oo cU.G) cU.an 0 Tryz.f184 0 _ cU.L0.st
abbrev cU.L0.Ok:=mS Tryz.prog (oo cU.G) cU.an 0 Tryz.f184 0 cU.L0.st cU.L0.aM cU.L0.add cU.L0.F cU.L0.out
theorem cU.L0.run:kF cU.L0.call cU.L0.aM cU.L0.add cU.L0.F:=oU (oR [.d ti,.d oa,.d ti] λ_=>by kernel_rfl)
theorem cU.L0.cM:qa @cU.L0.R cU.L0.st cU.L0.aM cU.L0.add cU.L0.F cU.L0.out cU.L0.Ok:=qD
theorem cU.L0.step{R:Type}(n:Int)(nM:iw)(n4:Int)(kn:AS->Option R)(kx:Exit->AS->Option R):cU.L0.R (n,nM,n4) kn kx=
  ah (fo.call (n4,nM)) λx1=>
  aP (x1.2) (
   ah (kh.call x1.1.2) λx2=>
   kx (cU.L0.eG x2).1 (cU.L0.eG x2).2) (
   aP (jn x1.1.1 (((List.length x1.1.2.1):Nat):Int)) (
   aP (nL (jj .i64 (7:Int) x1.1.1)) (
   aP ((jx (nth tb x1.1.2.1 (Int.toNat x1.1.1)) (128:Int))) (
    kx (cU.L0.gZ ((dY .or .i64 n (l5 .i64 (fa .i64 (kQ (nth tb x1.1.2.1 (Int.toNat x1.1.1)) (128:Int))) (jj .i64 (7:Int) x1.1.1))),x1.1.2,(cG .i64 x1.1.1 (1:Int)))).1 (cU.L0.gZ ((dY .or .i64 n (l5 .i64 (fa .i64 (kQ (nth tb x1.1.2.1 (Int.toNat x1.1.1)) (128:Int))) (jj .i64 (7:Int) x1.1.1))),x1.1.2,(cG .i64 x1.1.1 (1:Int)))).2) (
    kn (cU.L0.st ((dY .or .i64 n (l5 .i64 (fa .i64 (kQ (nth tb x1.1.2.1 (Int.toNat x1.1.1)) (128:Int))) (jj .i64 (7:Int) x1.1.1))),x1.1.2,(cG .i64 x1.1.1 (1:Int)))))) none) none):=by kernel_rfl
theorem cU.eq{R:Type}(o0)(k:K1 R):cU.A o0 k=
  ah (cU.L0.call (0,o0,0)) λx3=>
  aP (x3.isLeft) (
   ah (x3.getLeft?) λa4=>
   k (cU.out (0,a4))) (
   ah (x3.getRight?) λb5=>
   aP (inc b5.2.2 (b5.2.1.1.length:Int)) (
   k (cU.out (b5.1,((cut b5.2.1.1 (Int.toNat b5.2.2) ((List.length b5.2.1.1) - (Int.toNat b5.2.2))),b5.2.1.2)))) none):=by kernel_rfl
theorem cU.L0.ok:cU.L0.Ok:=by
 refine cU.L0.cM (λ(n,o,i)=>9 - i.toNat) ?_
 rintro⟨n,o,i⟩ ⟨hr,k,m,hk,rfl,rfl,hm⟩
 have hk:k<=9:=hk
 have hr:mU o:=hr
 by_cases hw:o.1.length<=k\/8 < k\/(0 < k/\nth (.int .u8) o.1 k=0)
 ·right
  have hf:rr (o.1.drop k) k (m:Int)= .inr ():=by
   by_cases h:k < o.1.length
   ·have n1:nth (.int .u8) o.1 k=o.1[k]:=dz (t:= .int .u8) h
    rw[ax h,rr,if_pos (by rw[n1]at hw;rcases hw with x | x | x;exact absurd x (by omega);exact Or.inl x;exact Or.inr x)]
   ·rw[gh (by omega)];rfl
  refine⟨cU.L0.eG xm,?_,λkn kx=> ?_⟩
  ·simp only[cU.L0.add,cU.L0.F,aa,hf]
   rfl
  ·rw[cU.L0.step,fo.run (d:=((k:Int),o)) (gM k)]
   simp only[ab,fo.add,fo.F,aa]
   rw[aY hw,ag,kh.run (d:=o) trivial]
   rfl
 ·have h:k < o.1.length:=by omega
  have hx:=hr.2 _ (aL h)
  obtain⟨x1,x2⟩:=hx
  have n1:nth (.int .u8) o.1 k=o.1[k]:=dz (t:= .int .u8) h
  have hc:¬(8 < k\/(0 < k/\o.1[k]=0)):=λx=>hw (x.elim (λy=> .inr (.inl y)) λy=> .inr (.inr ⟨y.1,n1.trans y.2⟩))
  obtain⟨dn,Va⟩:∃d:Nat,o.1[k]=d:=⟨o.1[k].toNat,by omega⟩
  have g:=FQ (n:=m) (d:=dn%128) (k:=k) (by omega) hm (by omega)
  have step:∀ {R:Type} (kn:AS->Option R) (kx:Exit->AS->Option R),cU.L0.R ((m:Int),o,(k:Int)) kn kx=aP (jx o.1[k] 128) (kx (cU.L0.gZ (((m+dn%128*128^k:Nat):Int),o,((k+1:Nat):Int))).1 (cU.L0.gZ (((m+dn%128*128^k:Nat):Int),o,((k+1:Nat):Int))).2) (kn (cU.L0.st (((m+dn%128*128^k:Nat):Int),o,((k+1:Nat):Int)))):=by
   intro R kn kx
   rw[cU.L0.step,fo.run (d:=((k:Int),o)) (gM k)]
   simp only[ab,fo.add,fo.F,aa]
   rw[cH hw,al,bG (by omega) (by omega),n1,Va,N.Us (by omega),pM (by omega),N.Vu,N.cN (by omega),g.1,N.p9 (by omega)]
   rfl
  have ef:rr (o.1.drop k) k (m:Int)=if o.1[k] < 128 then .inl (((m+dn%128*128^k:Nat):Int),k+1) else rr (o.1.drop (k+1)) (k+1) ((m+dn%128*128^k:Nat):Int):=by
   have ec:(m:Int)+o.1[k]%128*128^k=((m+dn%128*128^k:Nat):Int):=by rw[Va,IG,Int.natCast_add,jX];rfl
   rw[ax h,rr,if_neg hc,ec]
  by_cases hl:o.1[k] < 128
  ·right
   refine⟨cU.L0.gZ (((m+dn%128*128^k:Nat):Int),o,((k+1:Nat):Int)),?_,λkn kx=> ?_⟩
   ·simp only[cU.L0.add,cU.L0.F,aa,ef,if_pos hl]
    rfl
   ·rw[step,bg hl,ag]
  ·left
   refine⟨(((m+dn%128*128^k:Nat):Int),o,((k+1:Nat):Int)),⟨hr,k+1,_,by omega,rfl,rfl,g.2.1⟩,by simp only[aa];omega,?_,λkn kx=> ?_⟩
   ·simp only[cU.L0.add,cU.L0.F,aa,ef,if_neg hl]
   ·rw[step,aX hl,al]
theorem cU.ok:cU.Ok:=by
 intro o h
 have h:mU o:=h
 rw[cU.eq,cU.L0.run (d:=(0,o,0)) ⟨h,0,0,by decide,rfl,rfl,by decide⟩]
 simp only[ab,cU.L0.add,cU.L0.F,bN,aJ,bP,cU.F,dH]
 cases hf:rr o.1 0 0 with
 |inl v=>
  have g:=ET o.1 0 0 v h.2 (by decide) (by decide) (by decide) hf
  have e2:cut o.1 v.2 (o.1.length - v.2)=o.1.drop v.2:=by unfold cut;rw[bk];rw[dy];omega
  simp only[fe,dX,al,ab,aa]
  rw[oz (by omega) (by omega),ag,e2]
 |inr _=>rfl
theorem cU.run:cU.RS:=rE [.d oa] cU
def cU.sg:=cU.gG cU.ok 1 ⟨.iR cU.L0.ok,trivial⟩
theorem gj{a b:List Int}(ha:Bytes a)(hb:Bytes b):Bytes (a++b):=λx hx=>by
 rcases bt.1 hx with h | h
 ·exact ha x h
 ·exact hb x h
theorem B0:∀(f:Nat) (n:Int),0<=n->n < 128^(f+1)->Bytes (gJ f n).1/\D7 (gJ f n).2
 | 0,n,h0,h1=>by have h1:n < 128:=h1;exact⟨λx hx=>(by cases hx),h0,by show n < 256;omega⟩
 |f+1,n,h0,h1=>by
  have e:(128:Int)^(f+1+1)=128^(f+1)*128:=gg 128 (f+1)
  rw[gJ]
  split
  ·have ih:=B0 f (n / 128) (by omega) (by omega)
   refine⟨λx hx=> ?_,ih.2⟩
   rcases cX.1 hx with rfl | hx
   ·exact⟨by omega,by omega⟩
   ·exact ih.1 x hx
  ·exact⟨λx hx=>(by cases hx),h0,by show n < 256;omega⟩
theorem j3{n:Int}(h:uj n):Bytes (iC n):=by
 have e10:(128:Int)^(10+1)=151115727451828646838272:=rfl
 obtain⟨h0,h1⟩:=h
 have:=B0 10 n h0 (by rw[e10];omega)
 unfold iC
 exact gj this.1 λx hx=>by rw[bI]at hx;subst hx;exact this.2
theorem Gi:∀(ks:List Int) (o:List Int),oW o ks=o++ks.flatMap kP
 |[],o=>by rw[my,bS];rfl
 |k::ks,o=>by
  show oW (o++kP k) ks=_
  rw[Gi ks,dx,aD]
theorem Ij(ks:List Int):Bytes (ks.flatMap kP):=λx hx=>by
 obtain⟨k,_,hk⟩:=List.mem_flatMap.1 hx
 exact sK k x hk
def N9(b:oV):List Int:=iC b.1.length++(b.1.flatMap kP++(iC b.2.1++(iC b.2.2.1++kP b.2.2.2.1)))
theorem Am(o:List Int){n:Int}(h:0<=n):eh o n=o++iC n:=by rw[eh,if_neg (by omega)]
structure Qu(b:oV):Prop where
 len:b.1.length<=12
 af:uj b.2.1
 dl:uj b.2.2.1
theorem QJ{b:oV}(h:uk b=true):Qu b:=by
 unfold uk xu at h
 simp only[aj,decide_eq_true_eq]at h
 obtain⟨h1,_,h2,h3,_⟩:=h
 exact⟨h1,⟨h2.1,by omega⟩,⟨h3.1,by omega⟩⟩
theorem oE{n:Nat}(h:n<=1000000000):uj (n:Int):=⟨by omega,by omega⟩
theorem QH(o:List Int){b:oV}(h:Qu b):N8 o b=o++N9 b:=by
 unfold N8 N9
 rw[Am _ (gM _),Gi,Am _ h.af.1,Am _ h.dl.1]
 simp only[aD]
theorem Jl:∀(bs:List oV) (o:List Int),(∀b∈bs,Qu b)->bs.foldl N8 o=o++bs.flatMap N9
 |[],o,_=>by rw[my,bS];rfl
 |b::bs,o,h=>by
  rw[bT,QH o (h b aH),Jl bs _ λx hx=>h x (aF _ hx),dx,aD]
theorem Im{l:Lk}(h:lN l=true):(∀b∈l.1,Qu b)/\0 < l.1.length/\l.1.length<=4:=by
 unfold lN at h
 simp only[aj,dv,decide_eq_true_eq]at h
 exact⟨λb hb=>QJ (h.1 b hb),h.2⟩
theorem M6{l:Lk}(h:lN l=true):yQ l=iC l.1.length++l.1.flatMap N9:=by
 unfold yQ
 rw[if_pos h,Jl _ _ (Im h).1,Am _ (gM _),aR]
theorem Kj{b:oV}(h:Qu b):Bytes (N9 b):=
 have LH:=h.len
 gj (j3 (oE (by omega))) (gj (Ij _) (gj (j3 h.af) (gj (j3 h.dl) (sK _))))
theorem KR(l:Lk):Bytes (yQ l):=by
 cases h:lN l
 ·unfold yQ
  rw[h,if_neg (by decide)]
  exact λx hx=>(by cases hx)
 ·have hk:=Im h
  rw[M6 h]
  refine gj (j3 (oE (by omega))) λx hx=> ?_
  obtain⟨b,hb,hx⟩:=List.mem_flatMap.1 hx
  exact Kj (hk.1 b hb) x hx
theorem IK{b:List Int}(h:Bytes b)(hl:b.length<=1000000000)(u:Bool×Unit):mU (b,u):=⟨hl,h⟩
def nQ:Nat->iw->List Int×iw
 | 0,r=>([],r)
 |k+1,r=>((ng r).1::(nQ k (ng r).2).1,(nQ k (ng r).2).2)
def sI(k:Nat)(r:iw):oV×iw:=
 (((nQ k r).1,(dH (nQ k r).2).1,(dH (dH (nQ k r).2).2).1,(ng (dH (dH (nQ k r).2).2).2).1,()),(ng (dH (dH (nQ k r).2).2).2).2)
def sJ:Nat->Int->iw->List oV
 | 0,_,_=> []
 |f+1,n,r=>if 0 < n then(if f=0\/12 < (dH r).1 then [] else(sI (dH r).1.toNat (dH r).2).1::sJ f (n - 1) (sI (dH r).1.toNat (dH r).2).2) else []
def nU(b:List Int):List oV:=sJ 5 (dH (b,false,())).1 (dH (b,false,())).2
theorem EI:∀(k:Nat) (r:iw),mU r->tR (nQ k r).1/\(nQ k r).1.length=k/\mU (nQ k r).2
 | 0,r,h=>⟨λx hx=>(by cases hx),rfl,h⟩
 |k+1,r,h=>by
  have e:=y6 h
  have ih:=EI k _ e.2
  refine⟨λx hx=> ?_,by rw[nQ,aB,ih.2.1],ih.2.2⟩
  rcases cX.1 hx with rfl | hx
  ·exact e.1
  ·exact ih.1 x hx
theorem Ji(k:Nat)(r:iw)(h:mU r):PI (sI k r).1/\(sI k r).1.1.length=k/\mU (sI k r).2:=by
 have h1:=EI k r h
 have h2:=nj h1.2.2
 have h3:=nj h2.2.2
 have h4:=y6 h3.2.2
 exact⟨⟨h1.1,h4.1⟩,h1.2.1,h4.2⟩
theorem Mg:∀(f:Nat) (n:Int) (r:iw),mU r->(∀b∈sJ f n r,PI b)/\(sJ f n r).length<=f
 | 0,n,r,h=>⟨λx hx=>(by cases hx),aw _⟩
 |f+1,n,r,h=>by
  have h1:=nj h
  have h2:=Ji (dH r).1.toNat _ h1.2.2
  have ih:=Mg f (n - 1) _ h2.2.2
  rw[sJ]
  split
  ·split
   ·exact⟨λx hx=>(by cases hx),aK _⟩
   ·refine⟨λx hx=> ?_,by rw[aB];omega⟩
    rcases cX.1 hx with rfl | hx
    ·exact h2.1
    ·exact ih.1 x hx
  ·exact⟨λx hx=>(by cases hx),aK _⟩
theorem JU{b:List Int}(h:Bytes b)(hl:b.length<=1000000000):J6 (nU b,())/\(nU b).length<=5:=by
 have e:=Mg 5 (dH (b,false,())).1 _ (nj (IK h hl (false,()))).2.2
 exact⟨e.1,e.2⟩
theorem Dy:∀(ks:List Int) (rest:List Int),tR ks->nQ ks.length (ks.flatMap kP++rest,false,())=(ks,(rest,false,()))
 |[],rest,_=>rfl
 |k::ks,rest,h=>by
  have e:ng ((k::ks).flatMap kP++rest,false,())=(k,(ks.flatMap kP++rest,false,())):=by
   rw[dx,aD]
   exact va k (h k aH) _
  have ih:=Dy ks rest λx hx=>h x (aF _ hx)
  rw[aB,nQ,e,ih]
theorem Ke(b:oV)(hb:PI b)(hk:Qu b)(rest:List Int):sI b.1.length (b.1.flatMap kP++(iC b.2.1++(iC b.2.2.1++(kP b.2.2.2.1++rest))),false,())=(b,(rest,false,())):=by
 unfold sI
 rw[Dy _ _ hb.1]
 simp only[]
 rw[uS _ hk.af,uS _ hk.dl,va _ hb.2]
theorem Mf(b:oV)(rest:List Int):N9 b++rest=iC b.1.length++(b.1.flatMap kP++(iC b.2.1++(iC b.2.2.1++(kP b.2.2.2.1++rest)))):=by
 unfold N9
 simp only[aD]
theorem FC:∀(bs:List oV) (f:Nat) (rest:List Int),(∀b∈bs,PI b)->(∀b∈bs,Qu b)->bs.length+1<=f->sJ f bs.length (bs.flatMap N9++rest,false,())=bs
 |[],0,rest,_,_,h=>absurd h (by simp)
 |[],f+1,rest,_,_,_=>by
  rw[sJ,if_neg (by show ¬(0:Int) < ((0:Nat):Int);omega)]
 |b::bs,0,rest,_,_,h=>absurd h (by simp)
 |b::bs,f+1,rest,hu,hk,h=>by
  have ub:=hu b aH
  have kb:=hk b aH
  have h:bs.length+1+1<=f+1:=h
  have e:(b::bs).flatMap N9++rest=iC b.1.length++(b.1.flatMap kP++(iC b.2.1++(iC b.2.2.1++(kP b.2.2.2.1++(bs.flatMap N9++rest))))):=by rw[dx,aD,Mf]
  have LH:=kb.len
  rw[sJ,if_pos (by rw[aB];omega),e,uS _ (oE (by omega))]
  simp only[aa]
  rw[if_neg (by omega),Ke b ub kb]
  simp only[]
  rw[show((b::bs).length:Int) - 1=(bs.length:Int) by rw[aB];omega,FC bs f rest (λx hx=>hu x (aF _ hx)) (λx hx=>hk x (aF _ hx)) (by omega)]
theorem Lh{l:Lk}(hu:J6 l)(jU:lN l=true)(rest:List Int):nU (yQ l++rest)=l.1:=by
 have hk:=Im jU
 unfold nU
 rw[M6 jU,aD,uS _ (oE (by omega))]
 exact FC l.1 5 rest hu hk.1 (by omega)
def ud(b:List Int):Lk×Bool:=if lN (nU b,())=true/\yQ (nU b,())=b then((nU b,()),true) else(([],()),false)
theorem DP{l:Lk}(hu:J6 l)(jU:lN l=true):ud (yQ l)=(l,true):=by
 have e:nU (yQ l)=l.1:=by have e:=Lh hu jU [];rw[bS]at e;exact e
 unfold ud
 rw[e]
 have e2:((l.1,()):Lk)=l:=rfl
 rw[e2,if_pos ⟨jU,rfl⟩]
theorem Ny{b:List Int}(h:(ud b).2=true):∃l:Lk,lN l=true/\yQ l=b/\ud b=(l,true)/\l=(nU b,()):=by
 unfold ud at h ⊢
 split at h
 ·rename_i hc
  exact⟨(nU b,()),hc.1,hc.2,by rw[if_pos hc],rfl⟩
 ·cases h
abbrev cS.L0.D:=Bs×Int×Int×Nat×iw×(List oV)
abbrev cS.L0.Y:=Bs×Nat×(List oV)
abbrev cS.L1.D:=Bs×Int×Int×Int×Int×Nat×Nat×(Int×(Int×(Int×Unit)))×iw×(List Int)×(List oV)
abbrev cS.L1.Y:=Nat×iw×(List Int)
abbrev cS.L1.X:=(Bs×Int×Int×Nat×(Int×(Int×(Int×Unit)))×(List oV))×(Nat×iw×(List Int))
def cS.L1.add:cS.L1.D->cS.L1.Y->cS.L1.X:=λ(Fb,s8,RB,t27,t28,BG,Pa,n8,DC,n35,BD) y=>((Fb,s8,RB,BG,n8,BD),y)
abbrev cS.D:=Bs
abbrev cS.Y:=Lk×Bool
def cS.L1.aM:cS.L1.D->Prop:=λ(b,n,i,t,j,m1,m2,x,r,ks,bs)=>mU r/\ks.length=m2/\m2<=1000/\∃k c:Nat,j=k/\t=c/\k<=c/\c<=12/\m2=k
def cS.L1.F:cS.L1.D->cS.L1.Y:=λ(b,n,i,t,j,m1,m2,x,r,ks,bs)=>(m2+(t - j).toNat,(nQ (t - j).toNat r).2,ks++(nQ (t - j).toNat r).1)
def cS.L0.aM:cS.L0.D->Prop:=λ(b,n,i,m,r,bs)=>mU r/\n<=9223372036854775807/\bs.length=m/\∃k:Nat,i=k/\k<=4/\m=k
def cS.L0.F:cS.L0.D->cS.L0.Y:=λ(b,n,i,m,r,bs)=>(b,m+(sJ (5 - i.toNat) (n - i) r).length,bs++sJ (5 - i.toNat) (n - i) r)
def cS.aM:cS.D->Prop:=λb=>Bytes b/\b.length<=1000000000
def cS.F:cS.D->cS.Y:=λb=>ud b
def cS.L0:Ls cS.L0.aM bP cS.L0.F:=rY (λ(rM,n,i,RJ,n11,n51)=>⟨([.d tB rM,.undef,.ptr (.new 2 0) 0 [] 0,.undef,.ptr (.new 11 0) 0 [] 0,.ptr (.new 5 0) 0 [] 0,.d ti n,.d ti i]++aT 57 []),[],([[],[],[.obj 0 false (.pr (.di) (.d .unit ()))],[],[],[.obj 0 false (.pr (.aS (.new 51 0) 0 [] 0 0 RJ) (.d .unit ()))]]++ct 5 ([[.obj 0 false (.d oa n11)]]++ct 39 ([[.obj 0 false (.vec 29 oK n51)]]++ct 13 [])))⟩) (λx=>(.exit 0,⟨([.d tB x.1,.undef,.ptr (.new 2 0) 0 [] 0,.undef,.undef,.ptr (.new 5 0) 0 [] 0]++aT 59 []),[],([[],[],[.obj 0 false (.pr (.di) (.d .unit ()))],[],[],[.obj 0 false (.pr (.aS (.new 51 0) 0 [] 0 0 x.2.1) (.d .unit ()))]]++ct 45 ([[.obj 0 false (.vec 29 oK x.2.2)]]++ct 13 []))⟩))
def cS.L1:Ls cS.L1.aM cS.L1.add cS.L1.F:=rY (λ(Fb,s8,RB,t27,t28,BG,Pa,n8,DC,n35,BD)=>⟨([.d tB Fb,.undef,.ptr (.new 2 0) 0 [] 0,.undef,.ptr (.new 11 0) 0 [] 0,.ptr (.new 5 0) 0 [] 0,.d ti s8,.d ti RB,.ptr (.new 8 0) 0 [] 0]++aT 18 ([.d ti t27,.d ti t28]++aT 36 [])),[],([[],[],[.obj 0 false (.pr (.di) (.d .unit ()))],[],[],[.obj 0 false (.pr (.aS (.new 51 0) 0 [] 0 0 BG) (.d .unit ()))],[],[],[.obj 0 false (.pr (.aS (.new 35 0) 0 [] 0 0 Pa) (.d (.pair ti (.pair ti (.pair tu .unit))) n8))],[],[],[.obj 0 false (.d oa DC)]]++ct 23 ([[.obj 0 false (.vec 25 tu n35)]]++ct 15 ([[.obj 0 false (.vec 29 oK BD)]]++ct 13 [])))⟩) (λx=>(.exit 2,⟨([.d tB x.1.1,.undef,.ptr (.new 2 0) 0 [] 0,.undef,.ptr (.new 11 0) 0 [] 0,.ptr (.new 5 0) 0 [] 0,.d ti x.1.2.1,.d ti x.1.2.2.1,.ptr (.new 8 0) 0 [] 0]++aT 56 []),[],([[],[],[.obj 0 false (.pr (.di) (.d .unit ()))],[],[],[.obj 0 false (.pr (.aS (.new 51 0) 0 [] 0 0 x.1.2.2.2.1) (.d .unit ()))],[],[],[.obj 0 false (.pr (.aS (.new 35 0) 0 [] 0 0 x.2.1) (.d (.pair ti (.pair ti (.pair tu .unit))) x.1.2.2.2.2.1))],[],[],[.obj 0 false (.d oa x.2.2.1)]]++ct 23 ([[.obj 0 false (.vec 25 tu x.2.2.2)]]++ct 15 ([[.obj 0 false (.vec 29 oK x.1.2.2.2.2.2)]]++ct 13 [])))⟩))
def cS:Fs Tryz.prog cS.aM bP cS.F:=gC 186 Tryz.f186 (λb=>([.d tB b],[])) (λx=>⟨.cons (.d Hd x.1) (.cons (.d .bool x.2) (.nil)),[],[]⟩) [some tB] [ki.sg,cU.sg,fR.sg,aW.sg,bU.sg,dA.sg] {loops:=pz [(5,{bo:=[0,2,4,5,6,7],sites:=[2,5,11,51],owns:=[⟨5,[.fst],51,32⟩]}),(11,{bo:=[0,2,4,5,6,7,8,27,28],sites:=[2,5,8,11,35,51],owns:=[⟨8,[.fst],35,27⟩]})],outs:=py [(5,{bo:=[0,2,5],sites:=[2,5,51]},{bo:=[2,3]}),(11,{bo:=[0,2,4,5,6,7,8],sites:=[2,5,8,11,35,51]},{bo:=[2,3]})],iX:=qg [(5,cS.L0.E),(11,cS.L1.E)],res:=[some Hd,none]}
theorem cS.L0.run:cS.L0.RS:=rL [.d tB,.d ti,.d ti,.n,.d oa,.d (.slice oK)] cS.L0
theorem cS.L0.step{R:Type}(rM n i RJ n11 n51)(kn:K2 R)(kx:K3 R):cS.R 0 cS.L0 (rM,n,i,RJ,n11,n51) kn kx=
  aP ((jx i n)) (
   ah (cU.call n11) λsZ=>
   aP ((w8 i 4)) (
    cS.L0.go kx (rM,RJ,n51)) (
    aP ((uL sZ.1 12)) (
     cS.L0.go kx (rM,RJ,n51)) (
     ah (cS.L1.call (rM,n,i,sZ.1,0,RJ,0,(0,(0,(0,()))),sZ.2,([]:List Int),n51)) λCt=>
     ah (cU.call Ct.2.2.1) λOg=>
     ah (cU.call Og.2) λOh=>
     ah (fR.call Oh.2) λOi=>
     aP (decide (0=0/\(0+Ct.2.1)<=(List.length Ct.2.2.2))) (
     aP (decide (Ct.1.2.2.2.1<=(List.length Ct.1.2.2.2.2.2))) (
     aP (dZ (Ct.1.2.2.2.1+1) 48) (
     kn (cS.L0.st (Ct.1.1,Ct.1.2.1,(cG .i64 Ct.1.2.2.1 1),(Ct.1.2.2.2.1+1),Oi.2,((List.take Ct.1.2.2.2.1 Ct.1.2.2.2.2.2)++ [((cut Ct.2.2.2 0 Ct.2.1),(Og.1,(Oh.1,(Oi.1,Ct.1.2.2.2.2.1.2.2.2))))])))) none) none) none))) (
   cS.L0.go kx (rM,RJ,n51)):=by kernel_rfl
theorem cS.L1.run:cS.L1.RS:=rL [.d tB,.d ti,.d ti,.d ti,.d ti,.n,.n,.d (.pair ti (.pair ti (.pair tu .unit))),.d oa,.d tU,.d (.slice oK)] cS.L1
theorem cS.L1.step{R:Type}(Fb s8 RB t27 t28 BG Pa n8 DC n35 BD)(kn:K2 R)(kx:K3 R):cS.R 1 cS.L1 (Fb,s8,RB,t27,t28,BG,Pa,n8,DC,n35,BD) kn kx=
  aP ((jx t28 t27)) (
   ah (fR.call DC) λx4=>
   aP (decide (Pa<=(List.length n35))) (
   aP (dZ (Pa+1) 8) (
   kn (cS.L1.st (Fb,s8,RB,t27,(cG .i64 t28 1),BG,(Pa+1),n8,x4.2,((List.take Pa n35)++ [x4.1]),BD))) none) none) (
   cS.L1.go kx ((Fb,s8,RB,BG,n8,BD),(Pa,DC,n35))):=by kernel_rfl
theorem cS.eq{R:Type}(b)(k:K1 R):cS.A b k=
  ah (ki.call b) λx4=>
  ah (cU.call x4) λx6=>
  ah (cS.L0.call (b,x6.1,0,0,x6.2,([]:List oV))) λLF=>
  aP (decide (0=0/\(0+LF.2.1)<=(List.length LF.2.2))) (
  ah (aW.call ((cut LF.2.2 0 LF.2.1),())) λXo=>
  aP ((!Xo)) (
   k (cS.out ((([]:List oV),()),false))) (
   aP (decide (0=0/\(0+LF.2.1)<=(List.length LF.2.2))) (
   ah (bU.call ((cut LF.2.2 0 LF.2.1),())) λXp=>
   ah (dA.call (Xp,LF.1)) λXq=>
   aP ((!Xq)) (
    k (cS.out ((([]:List oV),()),false))) (
    aP (decide (0=0/\(0+LF.2.1)<=(List.length LF.2.2))) (
    k (cS.out (((cut LF.2.2 0 LF.2.1),()),true))) none)) none)) none:=by kernel_rfl
theorem cS.L1.ok:(cS.mL 1 cS.L1):=by
 refine(cS.oH 1 cS.L1) (λ(b,n,i,t,j,m1,m2,x,r,ks,bs)=>(t - j).toNat) ?_
 rintro⟨b,n,i,t,j,m1,m2,x,r,ks,bs⟩ ⟨hr,Vg,hm,k,c,rfl,rfl,ZP,hc,OT⟩
 have hr:mU r:=hr
 have Vg:ks.length=m2:=Vg
 have OT:m2=k:=OT
 by_cases h:k < c
 ·left
  have e1:((c:Int) - (k:Int)).toNat=(c - (k+1))+1:=by omega
  have e2:((c:Int) - ((k+1:Nat):Int)).toNat=c - (k+1):=by omega
  refine⟨(b,n,i,(c:Int),((k+1:Nat):Int),m1,m2+1,x,(ng r).2,ks++ [(ng r).1],bs),⟨(y6 hr).2,by rw[ae];show ks.length+1=_;omega,by omega,k+1,c,rfl,rfl,by omega,hc,by omega⟩,by show((c:Int) - ((k+1:Nat):Int)).toNat < ((c:Int) - (k:Int)).toNat;omega,?_,λkn kx=> ?_⟩
  ·simp only[cS.L1.add,cS.L1.F,e1,e2,nQ,aD,dN]
   rw[show m2+1+(c - (k+1))=m2+(c - (k+1)+1) by omega]
  ·rw[cS.L1.step,bg (by omega),fR.run (d:=r) hr]
   simp only[ab,ag,bP,fR.F]
   rw[aY (by omega),fg (by omega) (by omega),N.p9 (by omega),bk (by omega)]
   rfl
 ·right
  obtain rfl:k=c:=by omega
  intro R kn kx
  rw[cS.L1.step,aX (by omega),al]
  simp only[cS.L1.add,cS.L1.F,Int.sub_self,bN,nQ,bS,cF]
theorem cS.L0.ok:(cS.mL 0 cS.L0):=by
 refine(cS.oH 0 cS.L0) (λ(b,n,i,m,r,bs)=>5 - i.toNat) ?_
 rintro⟨b,n,i,m,r,bs⟩ ⟨hr,hn,XO,k,rfl,hk,OT⟩
 have hr:mU r:=hr
 have hn:n<=9223372036854775807:=hn
 have XO:bs.length=m:=XO
 have OT:m=k:=OT
 have e0:5 - (k:Int).toNat=(4 - k)+1:=by rw[aa];omega
 have g1:=nj hr
 by_cases h:(k:Int) < n
 ·have hp:0 < n - (k:Int):=by omega
  by_cases hc:4 - k=0\/12 < (dH r).1
  ·right
   intro R kn kx
   have eb:sJ ((4 - k)+1) (n - (k:Int)) r=[]:=by rw[sJ,if_pos hp,if_pos hc]
   rw[cS.L0.step,bg h,cU.run (d:=r) hr]
   simp only[ab,ag,bP,cU.F,bP,cS.L0.F,e0,eb,bn,cF,bS]
   by_cases h4:(k:Int)=4
   ·rw[jf h4,ag]
   ·rw[lH h4,al,eY (by omega),ag]
  ·left
   have h4:¬(k:Int)=4:=by omega
   have YS:¬(dH r).1 > 12:=by omega
   obtain⟨c,SJ⟩:∃c:Nat,(dH r).1=c:=⟨(dH r).1.toNat,by omega⟩
   have H6:=Ji c _ g1.2.2
   have gk:=EI c _ g1.2.2
   have ga:=nj gk.2.2
   have gd:=nj ga.2.2
   have eb:sJ ((4 - k)+1) (n - (k:Int)) r=(sI c (dH r).2).1::sJ (4 - k) (n - (k:Int) - 1) (sI c (dH r).2).2:=by
    rw[sJ,if_pos hp,if_neg hc,SJ,aa]
   have e1:5 - ((k+1:Nat):Int).toNat=4 - k:=by rw[aa];omega
   refine⟨(b,n,((k+1:Nat):Int),m+1,(sI c (dH r).2).2,bs++ [(sI c (dH r).2).1]),⟨H6.2.2,hn,by rw[ae];show bs.length+1=_;omega,k+1,rfl,by omega,by omega⟩,by simp only[aa];omega,?_,λkn kx=> ?_⟩
   ·simp only[bP,cS.L0.F,e0,e1,eb,aD,dN,aB]
    rw[show n - ((k+1:Nat):Int)=n - (k:Int) - 1 by omega,show m+1+(sJ (4 - k) (n - (k:Int) - 1) (sI c (dH r).2).2).length=m+((sJ (4 - k) (n - (k:Int) - 1) (sI c (dH r).2).2).length+1) by omega]
   ·rw[cS.L0.step,bg h,cU.run (d:=r) hr]
    simp only[ab,ag,bP,cU.F]
    rw[lH h4,al,eC YS,al,SJ,cS.L1.run (d:=(b,n,(k:Int),(c:Int),0,m,0,(0,0,0,()),(dH r).2,[],bs)) ⟨g1.2.2,rfl,by decide,0,c,rfl,rfl,aK _,by omega,rfl⟩]
    simp only[ab,cS.L1.add,cS.L1.F,mw,aa,aI,aR]
    rw[cU.run (d:=(nQ c (dH r).2).2) gk.2.2]
    simp only[ab,bP,cU.F]
    rw[cU.run (d:=(dH (nQ c (dH r).2).2).2) ga.2.2]
    simp only[ab,bP,cU.F]
    rw[fR.run (d:=(dH (dH (nQ c (dH r).2).2).2).2) gd.2.2]
    simp only[ab,bP,fR.F]
    rw[aY ⟨by trivial,by rw[gk.2.1];exact aw _⟩,aY (by omega),fg (by omega) (by omega),N.p9 (by omega),bk (by omega),gI gk.2.1]
    rfl
 ·right
  intro R kn kx
  have eb:sJ ((4 - k)+1) (n - (k:Int)) r=[]:=by rw[sJ,if_neg (by omega)]
  rw[cS.L0.step,aX h,al]
  simp only[bP,cS.L0.F,e0,eb,bn,cF,bS]
theorem cS.ok:cS.Ok:=by
 rintro b ⟨hb,hl⟩
 have hb:Bytes b:=hb
 have hl:b.length<=1000000000:=hl
 have g0:=IK hb hl (false,())
 have g1:=nj g0
 have gu:=JU hb hl
 rw[cS.eq,ki.run (d:=b) hl]
 simp only[ab,bP,ki.F]
 rw[cU.run (d:=(b,false,())) g0]
 simp only[ab,bP,cU.F]
 rw[cS.L0.run (d:=(b,(dH (b,false,())).1,0,0,(dH (b,false,())).2,[])) ⟨g1.2.2,g1.2.1,rfl,0,rfl,by decide,rfl⟩]
 simp only[ab,bP,cS.L0.F,bN,Nat.sub_zero,mw,aI,aR,aw,and_self,decide_true,ag,gI]
 rw[show sJ 5 (dH (b,false,())).1 (dH (b,false,())).2=nU b from rfl]
 have hL1:((nU b,()):Lk).1.length<=1000000000:=by show(nU b).length<=_;omega
 rw[aW.run (d:=(nU b,())) ⟨gu.1,j6 hL1 (by decide)⟩]
 simp only[ab,bP,aW.F,bP,cS.F,ud]
 cases jU:lN (nU b,())
 ·rw[if_neg (by rintro⟨x,_⟩;cases x)];rfl
 ·rw[bU.run (d:=(nU b,())) ⟨gu.1,j6 hL1 (by decide)⟩]
  simp only[dj,al,ab,bP,bU.F]
  rw[dA.run (d:=(yQ (nU b,()),b)) (by show(yQ _).length<=_;have:=xA (nU b,());omega)]
  simp only[ab,bP,dA.F]
  by_cases hx:yQ (nU b,())=b
  ·rw[aY hx,if_pos ⟨by trivial,hx⟩];rfl
  ·rw[cH hx,if_neg (λy=>hx y.2)];rfl
theorem cS.run:cS.RS:=rE [.d tB] cS
def cS.sg:=cS.gG cS.ok 2 ⟨.iR cS.L0.ok,⟨.iR cS.L1.ok,trivial⟩⟩
def uI(r:iw):List Int×iw:=((kM 32 r).1++List.drop (kM 32 r).1.length (List.replicate 32 (0:Int)),(kM 32 r).2)
def um(r:iw):List Int×iw:=if(dH r).2.2.1=true then([],(dH r).2) else kM (dH r).1.toNat (dH r).2
def w5(most:Int)(r:iw):Int×iw:=(if(dH r).1 > most then -1 else(dH r).1,(dH r).2)
def Qj(r:iw):cd×iw:=(((uI r).1,(dH (uI r).2).1,()),(dH (uI r).2).2)
def vO:Nat->iw->List cd×iw
 | 0,r=>([],r)
 |k+1,r=>((Qj r).1::(vO k (Qj r).2).1,(vO k (Qj r).2).2)
def BO(r:iw):kO×iw:=(((dH r).1,(ud (um (dH r).2).1).1,()),(um (dH r).2).2)
def uc:Nat->iw->Option (List kO×iw)
 | 0,r=>some ([],r)
 |k+1,r=>if(ud (um (dH r).2).1).2=true then(match uc k (BO r).2 with
  |some x=>some ((BO r).1::x.1,x.2)
  |none=>none) else none
def Qp(r:iw):Sg×iw:=(((ng r).1,(ng (ng r).2).1,()),(ng (ng r).2).2)
def tM:Nat->iw->List Sg×iw
 | 0,r=>([],r)
 |k+1,r=>((Qp r).1::(tM k (Qp r).2).1,(tM k (Qp r).2).2)
def pk(r:iw):List Sg×iw:=tM (w5 12 (dH r).2).1.toNat (w5 12 (dH r).2).2
def I2(r:iw):Option (CD×iw):=if(w5 12 (dH r).2).1 < 0 then none else some (((dH r).1,(pk r).1,(ng (pk r).2).1,()),(ng (pk r).2).2)
def ui:List cd->iw->Option (List kC×iw)
 |[],r=>some ([],r)
 |o::l,r=>match I2 r with
  |none=>none
  |some w=>match ui l w.2 with
   |none=>none
   |some x=>some ((o,w.1,())::x.1,x.2)
def RN:eZ×Bool:=(([],[],0,()),false)
def Mu(n m:Int)(t:eZ)(r:iw):eZ×Bool:=if n < 0\/m < 0\/r.2.1=true\/0 < r.1.length\/jk t=false then RN else(t,true)
def Na(n m:Int)(ops:List cd)(os:List kO)(r:iw):eZ×Bool:=match ui ops (dH r).2 with
 |none=>RN
 |some x=>Mu n m (x.1,os,(dH r).1,()) x.2
def BU(b:List Int):eZ×Bool:=
 let n:=w5 64 (b,false,())
 let ops:=vO n.1.toNat n.2
 let m:=w5 64 ops.2
 match uc m.1.toNat m.2 with
 |none=>RN
 |some x=>Na n.1 m.1 ops.1 x.1 x.2
def IB(o:cd):List Int:=o.1++iC o.2.1
def sS(o:kO):List Int:=iC o.1++(iC (yQ o.2.1).length++yQ o.2.1)
def LP(s:Sg):List Int:=kP s.1++kP s.2.1
def sD(w:CD):List Int:=iC w.1++(iC w.2.1.length++(w.2.1.flatMap LP++kP w.2.2.1))
def Vy(t:eZ):List Int:=iC t.1.length++(t.1.flatMap (λx=>IB x.1)++(iC t.2.1.length++(t.2.1.flatMap sS++(iC t.2.2.1++t.1.flatMap λx=>sD x.2.1))))
theorem sM{α:Type}(f:List Int->α->List Int)(w:α->List Int):∀(l:List α) (b:List Int),(∀x∈l,∀b,f b x=b++w x)->l.foldl f b=b++l.flatMap w
 |[],b,_=>by simp
 |x::l,b,h=>by
  rw[bT,h x aH,sM f w l _ λy hy=>h y (aF _ hy),dx,aD]
theorem rz(b:List Int){n:Int}(h:0<=n):eh b n=b++iC n:=by unfold eh;rw[if_neg (by omega)]
theorem NU{t:eZ}(jU:jk t=true):Ly t=Vy t:=by
 obtain⟨⟨_,a2,a3,a4⟩,b1,b2⟩:=kk jU
 have e1:∀b,t.1.foldl Ae b=b++t.1.flatMap λx=>IB x.1:=λb=>sM _ _ _ _ λx hx b=>by
  have:=tq (mg _ _ b1 x hx)
  unfold Ae IB
  rw[rz _ this.1,aD]
 have e2:∀b,t.2.1.foldl zS b=b++t.2.1.flatMap sS:=λb=>sM _ _ _ _ λo ho b=>by
  have:=(lk _ _ b2 o ho).1
  unfold zS sS
  rw[rz _ this.1,aD]
 have e3:∀(l:List Sg) b,l.foldl B5 b=b++l.flatMap LP:=λl b=>sM _ _ _ _ λs _ b=>by
  unfold B5 LP
  rw[aD]
 have e4:∀b,t.1.foldl I1 b=b++t.1.flatMap λx=>sD x.2.1:=λb=>sM _ _ _ _ λx hx b=>by
  have:=tq (mg _ _ b1 x hx)
  unfold I1 sD
  rw[e3,rz _ this.2.2.1,rz _ (by omega)]
  simp only[aD]
 unfold Ly qj Vy
 rw[if_pos jU,e4,rz _ a4,e2,rz _ (by omega),e1,rz _ (by omega),aR]
 simp only[aD]
theorem DZ{n:Nat}(a rest:List Int)(h:a.length=n):kM n (a++rest,false,())=(a,(rest,false,())):=by
 unfold kM
 rw[if_neg (by
  intro x
  rcases x with x | x
  ·cases x
  ·have x:(a++rest).length < n:=x
   rw[ae]at x
   omega)]
 show((a++rest).take n,((a++rest).drop n,false,()))=_
 rw[j2 h,jZ h]
theorem KA(a rest:List Int)(h:a.length=32):uI (a++rest,false,())=(a,(rest,false,())):=by
 unfold uI
 rw[DZ a rest h]
 simp only[h]
 rw[show List.drop 32 (List.replicate 32 (0:Int))=[] from rfl,bS]
theorem sR(n:Int)(h:uj n)(rest:List Int):dH (iC n++rest,false,())=(n,(rest,false,())):=uS n h rest _
theorem Mj(a rest:List Int)(h:a.length<=1000000000):um (iC a.length++(a++rest),false,())=(a,(rest,false,())):=by
 unfold um
 rw[sR _ (oE (by omega))]
 simp only[cv,if_false,aa]
 exact DZ a rest rfl
theorem E6{n m:Int}(h:uj n)(hm:n<=m)(rest:List Int):w5 m (iC n++rest,false,())=(n,(rest,false,())):=by
 unfold w5
 rw[sR n h]
 simp only[if_neg (show ¬n > m by omega)]
theorem GK:∀(l:List cd) (rest:List Int),(∀o∈l,o.1.length=32/\uj o.2.1)->vO l.length (l.flatMap IB++rest,false,())=(l,(rest,false,()))
 |[],rest,_=>rfl
 |o::l,rest,h=>by
  obtain⟨h1,h2⟩:=h o aH
  have e:Qj ((o::l).flatMap IB++rest,false,())=(o,(l.flatMap IB++rest,false,())):=by
   unfold Qj IB
   rw[dx,aD,aD,KA _ _ h1]
   simp only[]
   rw[sR _ h2]
  rw[aB,vO,e,GK l rest λx hx=>h x (aF _ hx)]
theorem DM:∀(l:List kO) (rest:List Int),(∀o∈l,uj o.1/\lN o.2.1=true/\J6 o.2.1)->uc l.length (l.flatMap sS++rest,false,())=some (l,(rest,false,()))
 |[],rest,_=>rfl
 |o::l,rest,h=>by
  obtain⟨h1,h2,h3⟩:=h o aH
  have hl:=xA o.2.1
  have e0:dH ((o::l).flatMap sS++rest,false,())=(o.1,(iC (yQ o.2.1).length++(yQ o.2.1++(l.flatMap sS++rest)),false,())):=by
   rw[dx]
   unfold sS
   simp only[aD]
   exact sR _ h1 _
  have e1:um (dH ((o::l).flatMap sS++rest,false,())).2=(yQ o.2.1,(l.flatMap sS++rest,false,())):=by rw[e0];exact Mj _ _ (by omega)
  have e2:BO ((o::l).flatMap sS++rest,false,())=(o,(l.flatMap sS++rest,false,())):=by
   unfold BO
   rw[e1,e0,DP h3 h2]
  rw[aB,uc,e1,DP h3 h2,if_pos rfl,e2,DM l rest λx hx=>h x (aF _ hx)]
theorem G1:∀(l:List Sg) (rest:List Int),(∀s∈l,mq s.1/\mq s.2.1)->tM l.length (l.flatMap LP++rest,false,())=(l,(rest,false,()))
 |[],rest,_=>rfl
 |s::l,rest,h=>by
  obtain⟨h1,h2⟩:=h s aH
  have e:Qp ((s::l).flatMap LP++rest,false,())=(s,(l.flatMap LP++rest,false,())):=by
   unfold Qp LP
   rw[dx,aD,aD,va _ h1]
   simp only[]
   rw[va _ h2]
  rw[aB,tM,e,G1 l rest λx hx=>h x (aF _ hx)]
theorem N3(w:CD)(rest:List Int)(hw:CE w)(hb:uj w.1)(LH:w.2.1.length<=12):I2 (sD w++rest,false,())=some (w,(rest,false,())):=by
 have e0:dH (sD w++rest,false,())=(w.1,(iC w.2.1.length++(w.2.1.flatMap LP++(kP w.2.2.1++rest)),false,())):=by
  unfold sD
  simp only[aD]
  exact sR _ hb _
 have e1:w5 12 (dH (sD w++rest,false,())).2=((w.2.1.length:Int),(w.2.1.flatMap LP++(kP w.2.2.1++rest),false,())):=by
  rw[e0]
  exact E6 (oE (by omega)) (by omega) _
 have e2:pk (sD w++rest,false,())=(w.2.1,(kP w.2.2.1++rest,false,())):=by
  unfold pk
  rw[e1]
  exact G1 _ _ hw.1
 unfold I2
 rw[e1,if_neg (by show ¬(w.2.1.length:Int) < 0;omega),e2,e0]
 simp only[]
 rw[va _ hw.2]
theorem D6:∀(l:List kC) (rest:List Int),(∀x∈l,CE x.2.1/\uj x.2.1.1/\x.2.1.2.1.length<=12)->ui (l.map (·.1)) (l.flatMap (λx=>sD x.2.1)++rest,false,())=some (l,(rest,false,()))
 |[],rest,_=>rfl
 |x::l,rest,h=>by
  obtain⟨h1,h2,h3⟩:=h x aH
  rw[dx,aD,bX,ui,N3 _ _ h1 h2 h3]
  simp only[]
  rw[D6 l rest λy hy=>h y (aF _ hy)]
theorem IL{t:eZ}(hv:rK t)(jU:jk t=true):BU (Ly t)=(t,true):=by
 obtain⟨⟨a1,a2,a3,a4⟩,b1,b2⟩:=kk jU
 have F8:∀x∈t.1,_:=λx hx=>tq (mg _ _ b1 x hx)
 have Y3:=hv.2.2
 rw[NU jU]
 have e1:=E6 (n:=(t.1.length:Int)) (m:=64) (oE (by omega)) (by omega) (t.1.flatMap (λx=>IB x.1)++(iC t.2.1.length++(t.2.1.flatMap sS++(iC t.2.2.1++t.1.flatMap λx=>sD x.2.1))))
 have ef:t.1.flatMap (λx=>IB x.1)=(t.1.map (·.1)).flatMap IB:=by rw[List.flatMap_map]
 have e2:=GK (t.1.map (·.1)) (iC t.2.1.length++(t.2.1.flatMap sS++(iC t.2.2.1++t.1.flatMap λx=>sD x.2.1))) λo ho=>by
  obtain⟨x,hx,rfl⟩:=eJ.1 ho
  exact⟨(hv.2.1 x hx).1.1,(F8 x hx).1,by have:=(F8 x hx).2.1;omega⟩
 rw[<-ef,cK]at e2
 have e3:=E6 (n:=(t.2.1.length:Int)) (m:=64) (oE (by omega)) (by omega) (t.2.1.flatMap sS++(iC t.2.2.1++t.1.flatMap λx=>sD x.2.1))
 have e4:=DM t.2.1 (iC t.2.2.1++t.1.flatMap λx=>sD x.2.1) λo ho=>by
  have:=lk _ _ b2 o ho
  exact⟨⟨this.1.1,by omega⟩,this.2,(hv.1.1 o ho).1⟩
 have e5:=sR t.2.2.1 ⟨a4,Y3⟩ (t.1.flatMap λx=>sD x.2.1)
 have e6:=D6 t.1 [] λx hx=>⟨(hv.2.1 x hx).2.1,⟨(F8 x hx).2.2.1,by have:=(F8 x hx).2.2.2.1;omega⟩,(F8 x hx).2.2.2.2⟩
 rw[bS]at e6
 unfold BU Vy
 simp only[e1,aa,e2,e3,e4]
 unfold Na
 simp only[e5,e6]
 unfold Mu
 rw[if_neg]
 rintro(x | x | x | x | x)
 ·omega
 ·omega
 ·cases x
 ·simp at x
 ·rw[show((t.1,t.2.1,t.2.2.1,()):eZ)=t from rfl,jU]at x
  cases x
def og(r:iw):Prop:=mU r/\(r.2.1=true->r.1=[])
def Ov(r r':iw)(e:List Int):Prop:=og r'/\(r'.2.1=false->r.2.1=false/\r.1=e++r'.1)
theorem Ov.trans{r r1 r2:iw}{e1 e2:List Int}(h1:Ov r r1 e1)(h2:Ov r1 r2 e2):Ov r r2 (e1++e2):=
 ⟨h2.1,λh=>⟨(h1.2 (h2.2 h).1).1,by rw[(h1.2 (h2.2 h).1).2,(h2.2 h).2,aD]⟩⟩
theorem Ov.of{r r':iw}{e e':List Int}(h:Ov r r' e)(he:r'.2.1=false->e=e'):Ov r r' e':=⟨h.1,λh'=>by rw[<-he h'];exact h.2 h'⟩
theorem Ov.refl{r:iw}(h:og r):Ov r r []:=⟨h,λh'=>⟨h',rfl⟩⟩
theorem OE:og xm:=⟨Ep,λ_=>rfl⟩
theorem FV(r:iw)(e:List Int):Ov r xm e:=⟨OE,λh=>by cases h⟩
theorem Pp{b:List Int}(hb:Bytes b)(hl:b.length<=1000000000):og (b,false,()):=⟨IK hb hl (false,()),λh=>by cases h⟩
theorem Ck{r:iw}(h:og r)(n:Nat):Ov r (kM n r).2 (kM n r).1/\((kM n r).2.2.1=false->(kM n r).1.length=n):=by
 have hb:=(qT (n:=n) h.1).2.2
 revert hb
 unfold kM
 split
 ·exact λ_=>⟨FV _ _,λh=>by cases h⟩
 ·rename_i hc
  intro hb
  have h1:r.2.1=false:=by cases hr:r.2.1 with | false=>rfl | true=>exact absurd (Or.inl hr) hc
  have h2:¬r.1.length < n:=λx=>hc (Or.inr x)
  exact⟨⟨⟨hb,λ(hx:r.2.1=true)=>by rw[h1]at hx;cases hx⟩,λ_=>⟨h1,(dO n r.1).symm⟩⟩,λ_=>by show(r.1.take n).length=n;rw[bQ];omega⟩
theorem B2(f:Nat){d:Int}(h:d < 128):gJ f d=([],d):=by
 cases f with
 |zero=>rfl
 |succ f=>rw[gJ,if_neg (by omega)]
theorem GF:∀(l:List Int) (a:Nat) (n:Int) (v:Int×Nat),Bytes l->a<=9->rr l a n= .inl v->
  ∃w rest,v.1=n+w*128^a/\0<=w/\(a=0\/0 < w)/\w < 128^(9 - a)/\l=(gJ (8 - a) w).1++(gJ (8 - a) w).2::rest/\v.2=a+(gJ (8 - a) w).1.length+1
 |[],a,n,v,_,_,h=>by cases h
 |d::l,a,n,v,hb,ha,h=>by
  obtain⟨x1,x2⟩:=hb d aH
  rw[rr]at h
  split at h
  ·cases h
  rename_i hc
  have XL:a<=8:=by omega
  have e9:(128:Int)^(9 - a)=128^(8 - a)*128:=by rw[show 9 - a=(8 - a)+1 by omega];exact gg 128 (8 - a)
  have p8:(0:Int) < 128^(8 - a):=Int.pow_pos (by decide)
  split at h
  ·rename_i hd
   cases h
   refine⟨d,l,by rw[fi x1 hd],x1,by omega,by omega,?_,?_⟩
   ·rw[B2 _ hd];rfl
   ·rw[B2 _ hd];rfl
  ·rename_i hd
   obtain⟨w,rest,e1,w0,w1,w2,e2,e3⟩:=GF l (a+1) _ v (λx hx=>hb x (aF _ hx)) (by omega) h
   have w1:0 < w:=by omega
   rw[show 9 - (a+1)=8 - a by omega]at w2
   have ZM:a<=7:=by
    by_cases h8:a=8
    ·rw[h8]at w2
     have:(128:Int)^(8 - 8)=1:=rfl
     omega
    ·omega
   have er:gJ (8 - a) (d%128+128*w)=((d%128+128)::(gJ (8 - (a+1)) w).1,(gJ (8 - (a+1)) w).2):=by
    rw[show 8 - a=(8 - (a+1))+1 by omega,gJ,if_pos (by omega),show(d%128+128*w)%128=d%128 by omega,show(d%128+128*w) / 128=w by omega]
   refine⟨d%128+128*w,rest,?_,by omega,by omega,by omega,?_,?_⟩
   ·rw[e1,gg,Int.add_mul,Int.add_assoc,Int.mul_comm 128 w,Int.mul_assoc w,Int.mul_comm 128]
   ·rw[er,e2,show d%128+128=d by omega];rfl
   ·rw[er,e3];simp only[aB];omega
theorem nk{r:iw}(h:og r):Ov r (dH r).2 (iC (dH r).1)/\((dH r).2.2.1=false->uj (dH r).1):=by
 have hk:=nj h.1
 revert hk
 unfold dH
 cases hf:rr r.1 0 0 with
 |inr _=>exact λ_=>⟨FV _ _,λh=>by cases h⟩
 |inl v=>
  intro hk
  obtain⟨w,rest,e1,w0,_,w2,e2,e3⟩:=GF r.1 0 0 v h.1.2 (by decide) hf
  have h1:r.2.1=false:=by
   cases hr:r.2.1 with
   |false=>rfl
   |true=>rw[h.2 hr]at hf;cases hf
  have ew:v.1=w:=by rw[e1,j4];omega
  have e9:(128:Int)^(9 - 0)=9223372036854775808:=rfl
  have e8:(128:Int)^(8+1)=9223372036854775808:=rfl
  have e10:(128:Int)^(10+1)=151115727451828646838272:=rfl
  have er:gJ 10 w=gJ 8 w:=vy 10 8 w (by rw[e10];omega) (by rw[e8];omega)
  have en:iC v.1=(gJ 8 w).1++ [(gJ 8 w).2]:=by rw[ew];unfold iC;rw[er]
  refine⟨⟨⟨hk.2.2,λ(hx:r.2.1=true)=>by rw[h1]at hx;cases hx⟩,λ_=>⟨h1,?_⟩⟩,λ_=>⟨hk.1,hk.2.1⟩⟩
  show r.1=iC v.1++r.1.drop v.2
  rw[en,e3,aD]
  conv=>rhs;rw[e2]
  rw[List.append_cons,aI,jZ (by rw[ae];rfl)]
  exact e2
theorem Mb{l:List Int}(h:l.length=8)(hb:Bytes l):kP (wR l)=l:=by
 match l,h with
 |[a,b,c,d,e,f,g,i],_=>
  have h0:=hb a (by simp)
  have h1:=hb b (by simp)
  have h2:=hb c (by simp)
  have h3:=hb d (by simp)
  have h4:=hb e (by simp)
  have h5:=hb f (by simp)
  have h6:=hb g (by simp)
  have h7:=hb i (by simp)
  unfold D7 at h0 h1 h2 h3 h4 h5 h6 h7
  unfold kP wR
  simp only[bT,dR]
  congr 1
  ·omega
  congr 1
  ·omega
  congr 1
  ·omega
  congr 1
  ·omega
  congr 1
  ·omega
  congr 1
  ·omega
  congr 1
  ·omega
  congr 1
  omega
theorem vH{r:iw}(h:og r):Ov r (ng r).2 (kP (ng r).1):=by
 have e:=Ck h 8
 exact e.1.of λhk=>(Mb (e.2 hk) (qT h.1).2.1).symm
theorem F7{r:iw}(h:og r):Ov r (uI r).2 (uI r).1:=by
 have e:=Ck h 32
 refine e.1.of λhk=> ?_
 unfold uI
 simp only[e.2 hk]
 rw[show List.drop 32 (List.replicate 32 (0:Int))=[] from rfl,bS]
theorem MF{r:iw}(h:mU r):Sm (uI r).1:=by
 have e:=qT (n:=32) h
 refine⟨?_,gj e.2.1 λx hx=> ?_⟩
 ·show((kM 32 r).1++List.drop (kM 32 r).1.length (List.replicate 32 (0:Int))).length=32
  rw[ae,dy,dg]
  have:=e.1
  omega
 ·obtain rfl:=(List.mem_replicate.1 (List.mem_of_mem_drop hx)).2
  exact⟨by decide,by decide⟩
theorem Eh{r:iw}(h:og r):Ov r (um r).2 (iC (um r).1.length++(um r).1)/\Bytes (um r).1/\(um r).1.length<=1000000000:=by
 have e:=nk h
 unfold um
 split
 ·rename_i hc
  exact⟨⟨e.1.1,λhk=>by rw[hc]at hk;cases hk⟩,λx hx=>(by cases hx),aK _⟩
 ·rename_i hc
  have hc:(dH r).2.2.1=false:=by simpa using hc
  have t:=Ck e.1.1 (dH r).1.toNat
  have tb:=qT (n:=(dH r).1.toNat) e.1.1.1
  have n0:=(e.2 hc).1
  refine⟨(e.1.trans t.1).of λhk=> ?_,tb.2.1,?_⟩
  ·rw[t.2 hk,Int.toNat_of_nonneg n0]
  ·have hl:(kM (dH r).1.toNat (dH r).2).1.length<=(dH r).2.1.length:=by
    unfold kM
    split
    ·exact aK _
    ·show((dH r).2.1.take _).length<=_
     rw[bQ];omega
   have:=e.1.1.1.1
   omega
theorem Sf{r:iw}(h:og r){m:Int}(h0:0<=(w5 m r).1):Ov r (w5 m r).2 (iC (w5 m r).1)/\(w5 m r).1<=m:=by
 have e:=nk h
 unfold w5 at h0 ⊢
 by_cases hc:(dH r).1 > m
 ·simp only[if_pos hc]at h0
  omega
 ·simp only[if_neg hc]
  exact⟨e.1,by omega⟩
theorem J2{r:iw}(h:og r)(m:Int):og (w5 m r).2:=(nk h).1.1
theorem J1{r:iw}(h:mU r){m:Int}(hm:0<=m): -1<=(w5 m r).1/\(w5 m r).1<=m:=by
 have:=(nj h).1
 unfold w5
 split
 ·exact⟨by omega,by show(-1:Int)<=m;omega⟩
 ·rename_i hc
  have hc:¬(dH r).1 > m:=hc
  exact⟨by show -1<=(dH r).1;omega,by show(dH r).1<=m;omega⟩
theorem JO:∀(k:Nat) {r:iw},og r->Ov r (vO k r).2 ((vO k r).1.flatMap IB)/\(vO k r).1.length=k/\∀o∈(vO k r).1,Sm o.1
 | 0,r,h=>⟨Ov.refl h,rfl,λx hx=>by cases hx⟩
 |k+1,r,h=>by
  have e1:=F7 h
  have e2:=nk e1.1
  have ih:=JO k (r:=(Qj r).2) e2.1.1
  refine⟨?_,by rw[vO,aB,ih.2.1],λo ho=> ?_⟩
  ·have:=(e1.trans e2.1).trans ih.1
   rw[vO,dx]
   exact this
  ·rcases cX.1 ho with rfl | ho
   ·exact MF h.1
   ·exact ih.2.2 o ho
theorem RU{r:iw}(h:og r):og (BO r).2:=(Eh (nk h).1.1).1.1
theorem GN:∀(k:Nat) {r:iw} {x:List kO×iw},og r->uc k r=some x->Ov r x.2 (x.1.flatMap sS)/\x.1.length=k/\∀o∈x.1,o.1<=9223372036854775807/\lN o.2.1=true/\Sw o.2.1
 | 0,r,x,h,hx=>by
  cases hx
  exact⟨Ov.refl h,rfl,λx hx=>by cases hx⟩
 |k+1,r,x,h,hx=>by
  rw[uc]at hx
  split at hx
  ·rename_i hr
   split at hx
   ·rename_i y hy
    cases hx
    have e1:=nk h
    have e2:=Eh e1.1.1
    have ih:=GN k (RU h) hy
    obtain⟨l,hl,Rm,he,hle⟩:=Ny hr
    have hu:=JU e2.2.1 e2.2.2
    have el:(BO r).1.2.1=l:=by show(ud (um (dH r).2).1).1=l;rw[he]
    refine⟨?_,by rw[aB,ih.2.1],λo ho=> ?_⟩
    ·have:=(e1.1.trans e2.1).trans ih.1
     rw[dx]
     unfold sS
     rw[el,Rm]
     exact this
    ·rcases cX.1 ho with rfl | ho
     ·refine⟨(nj h.1).2.1,by rw[el];exact hl,?_⟩
      rw[el,hle]
      exact⟨hu.1,by show(nU _).length<=_;omega⟩
     ·exact ih.2.2 o ho
   ·cases hx
  ·cases hx
theorem EZ:∀(k:Nat) {r:iw},og r->Ov r (tM k r).2 ((tM k r).1.flatMap LP)/\(tM k r).1.length=k/\∀s∈(tM k r).1,Qx s
 | 0,r,h=>⟨Ov.refl h,rfl,λx hx=>by cases hx⟩
 |k+1,r,h=>by
  have e1:=vH h
  have e2:=vH e1.1
  have ih:=EZ k (r:=(Qp r).2) e2.1
  refine⟨?_,by rw[tM,aB,ih.2.1],λo ho=> ?_⟩
  ·have:=(e1.trans e2).trans ih.1
   rw[tM,dx]
   exact this
  ·rcases cX.1 ho with rfl | ho
   ·exact⟨(y6 h.1).1,(y6 e1.1.1).1⟩
   ·exact ih.2.2 o ho
theorem J3{r:iw}(h:og r):og (pk r).2/\(pk r).1.length<=12/\∀s∈(pk r).1,Qx s:=by
 have e1:=nk h
 have ih:=EZ (w5 12 (dH r).2).1.toNat (J2 e1.1.1 12)
 have:=J1 e1.1.1.1 (m:=12) (by decide)
 exact⟨ih.1.1,by show(tM _ _).1.length<=12;rw[ih.2.1];omega,ih.2.2⟩
theorem PF{r:iw}{w:CD×iw}(h:og r)(hw:I2 r=some w):Ov r w.2 (sD w.1)/\CE w.1/\w.1.2.1.length<=12:=by
 unfold I2 at hw
 split at hw
 ·cases hw
 ·rename_i hc
  cases hw
  have e1:=nk h
  have hc:0<=(w5 12 (dH r).2).1:=by omega
  have e2:=Sf e1.1.1 hc
  have e3:=EZ (w5 12 (dH r).2).1.toNat e2.1.1
  have g:=J3 h
  have e4:=vH g.1
  have hl:((pk r).1.length:Int)=(w5 12 (dH r).2).1:=by
   show((tM _ _).1.length:Int)=_
   rw[e3.2.1];omega
  have:=((e1.1.trans e2.1).trans e3.1).trans e4
  refine⟨this.of λ_=> ?_,⟨g.2.2,(y6 g.1.1).1⟩,g.2.1⟩
  unfold sD
  simp only[hl,aD]
  rfl
theorem Hm:∀(l:List cd) {r:iw} {x:List kC×iw},og r->ui l r=some x->Ov r x.2 (x.1.flatMap λy=>sD y.2.1)/\x.1.map (·.1)=l/\∀y∈x.1,CE y.2.1/\y.2.1.2.1.length<=12
 |[],r,x,h,hx=>by
  cases hx
  exact⟨Ov.refl h,rfl,λx hx=>by cases hx⟩
 |o::l,r,x,h,hx=>by
  rw[ui]at hx
  split at hx
  ·cases hx
  ·rename_i w hw
   have e:=PF h hw
   split at hx
   ·cases hx
   ·rename_i y hy
    cases hx
    have ih:=Hm l e.1.1 hy
    refine⟨?_,by rw[bX,ih.2.1],λz hz=> ?_⟩
    ·have:=e.1.trans ih.1
     rw[dx]
     exact this
    ·rcases cX.1 hz with rfl | hz
     ·exact e.2
     ·exact ih.2.2 z hz
def Oe(o:cd):qV:=(o,(0,none,0,()),())
def Vo(x:kC):qV:=(x.1,(x.2.1.1,some x.2.1.2.1,x.2.1.2.2),())
def Xn(x:qV):kC:=(x.1,(x.2.1.1,x.2.1.2.1.getD [],x.2.1.2.2),())
theorem QN(l:List qV):SE (.slice nc) (.slice jo) l=l.map Xn:=by kernel_rfl
theorem Sc(l:List kC):(l.map Vo).map Xn=l:=by
 rw[List.map_map]
 have:(Xn∘Vo)=id:=rfl
 rw[this,List.map_id]
theorem Pe{t:Ty}{l:List t.den}{k:Nat}{y:t.den}(h:k < l.length):nth t (l.set k y) k=y:=by simp[nth,h]
theorem Pd{t:Ty}{a b:List t.den}{k:Nat}{y:t.den}(h:a.length=k):nth t (a++y::b) k=y:=by subst h;simp[nth]
theorem Pt{α:Type}{a b:List α}{k:Nat}{y z:α}(h:a.length=k):(a++y::b).set k z=a++z::b:=by subst h;simp
theorem Lu{α:Type}{l:List α}{k:Nat}{y:α}:(l.set k y).take k=l.take k:=by rw[List.take_set,List.set_eq_of_length_le (by rw[bQ];omega)]
theorem Kt{α:Type}{l:List α}{k:Nat}{y:α}:(l.set k y).drop (k+1)=l.drop (k+1):=List.drop_set_of_lt (by omega)
abbrev lA.D:=iw
abbrev lA.Y:=Bs×iw
def lA.aM:lA.D->Prop:=λr=>mU r
def lA.F:lA.D->lA.Y:=λr=>uI r
def lA:Fs Tryz.prog lA.aM bP lA.F:=gC 185 Tryz.f185 (λo0=>([.ptr (.aV 0) 0 [] 0],[.obj 0 false (.d oa o0)])) (λx=>⟨.d tH x.1,[.obj 0 false (.d oa x.2)],[]⟩) [none] [jh.sg]
theorem lA.eq{R:Type}(o0)(k:K1 R):lA.A o0 k=
 ah (jh.call (32,o0)) λx1=>
 aP (decide ((List.length x1.1)<=32)) (
 k (lA.out ((x1.1++(List.drop (List.length x1.1) (List.replicate 32 0))),x1.2))) none:=by kernel_rfl
theorem lA.ok:lA.Ok:=by
 intro r h
 have h:mU r:=h
 have e:=(qT (n:=32) h).1
 rw[lA.eq,jh.run (d:=(32,r)) ⟨by decide,h.1⟩]
 simp only[ab,bP,jh.F]
 rw[show Int.toNat 32=32 from rfl,aY e]
 rfl
theorem lA.run:lA.RS:=rE [.d oa] lA
def lA.sg:=lA.gG lA.ok
abbrev iO.D:=iw
abbrev iO.Y:=Bs×iw
def iO.aM:iO.D->Prop:=λr=>mU r
def iO.F:iO.D->iO.Y:=λr=>um r
def iO:Fs Tryz.prog iO.aM bP iO.F:=gC 187 Tryz.f187 (λo0=>([.ptr (.aV 0) 0 [] 0],[.obj 0 false (.d oa o0)])) (λx=>⟨.d tB x.1,[.obj 0 false (.d oa x.2)],[]⟩) [none] [cU.sg,jh.sg] {res:=[some tB],Az:=[⟨0,[.arr],oa⟩]}
theorem iO.eq{R:Type}(o0)(k:K1 R):iO.A o0 k=
  ah (cU.call o0) λx1=>
  aP (x1.2.2.1) (
   k (iO.out (([]:List Int),x1.2))) (
   ah (jh.call (x1.1,x1.2)) λx2=>
   k (iO.out (x2.1,x2.2))):=by kernel_rfl
theorem iO.ok:iO.Ok:=by
 intro r h
 have h:mU r:=h
 have e:=nj h
 rw[iO.eq,cU.run (d:=r) h]
 simp only[ab,bP,cU.F,bP,iO.F,um]
 cases hc:(dH r).2.2.1
 ·rw[al,jh.run (d:=((dH r).1,(dH r).2)) ⟨e.1,e.2.2.1⟩]
  rfl
 ·rfl
theorem iO.run:iO.RS:=rE [.d oa] iO
def iO.sg:=iO.gG iO.ok
abbrev ju.D:=Int×iw
abbrev ju.Y:=Int×iw
def ju.aM:ju.D->Prop:=λ(m,r)=>mU r
def ju.F:ju.D->ju.Y:=λ(m,r)=>w5 m r
def ju:Fs Tryz.prog ju.aM bP ju.F:=gC 183 Tryz.f183 (λ(most,o1)=>([.d ti most,.ptr (.aV 0) 0 [] 0],[.obj 0 false (.ptr (.aV 1) 0 [] 0),.obj 0 false (.d oa o1)])) (λx=>⟨.d ti x.1,[.obj 0 false (.ptr (.aV 1) 0 [] 0),.obj 0 false (.d oa x.2)],[]⟩) [some ti,none] [cU.sg]
theorem ju.eq{R:Type}(most o1)(k:K1 R):ju.A (most,o1) k=
  ah (cU.call o1) λx1=>
  aP ((uL x1.1 most)) (
   k (ju.out ((-1),x1.2))) (
   k (ju.out (x1.1,x1.2))):=by kernel_rfl
theorem ju.ok:ju.Ok:=by
 rintro⟨m,r⟩ h
 have h:mU r:=h
 rw[ju.eq,cU.run (d:=r) h]
 simp only[ab,bP,cU.F,bP,ju.F,w5]
 by_cases hc:(dH r).1 > m
 ·rw[eY hc,if_pos hc];rfl
 ·rw[eC hc,if_neg hc];rfl
theorem ju.run:ju.RS:=rE [.d ti,.d oa] ju
def ju.sg:=ju.gG ju.ok
abbrev aC.L0.D:=Int×Int×Int×(Int×Unit)×Nat×(Int×Unit)×iw×(List qV)
abbrev aC.L0.Y:=Nat×iw×(List qV)
abbrev aC.L0.X:=(Int×(Int×Unit)×(Int×Unit))×(Nat×iw×(List qV))
def aC.L0.add:aC.L0.D->aC.L0.Y->aC.L0.X:=λ(n,t20,t21,n2,O8,n4,n16,n32) y=>((n,n2,n4),y)
abbrev aC.L1.D:=Int×Int×Int×Int×(Int×Unit)×Nat×Nat×(Int×Unit)×iw×(List qV)×(List kO)
def aC.L1.st:aC.L1.D->AS:=λ(s8,m,t37,t38,lz,zy,v7,rp,Bn,zw,Qg)=>⟨([.undef,.undef,.ptr (.new 2 0) 0 [] 0,.undef,.ptr (.new 4 0) 0 [] 0,.ptr (.new 5 0) 0 [] 0,.fn 183 (.cons (.ptr (.new 5 0) 0 [] 0) (.nil)),.d ti s8,.d ti m]++aT 28 ([.d ti t37,.d ti t38]++aT 93 [])),[],([[],[],[.obj 0 false (.pr (.di) (.pr (.di) (.d (.pair ti .unit) lz)))],[],[.obj 0 false (.pr (.aS (.new 32 0) 0 [] 0 0 zy) (.pr (.aS (.new 58 0) 0 [] 0 0 v7) (.d (.pair ti .unit) rp)))],[.obj 0 false (.ptr (.new 16 0) 0 [] 0)]]++ct 10 ([[.obj 0 false (.d oa Bn)]]++ct 15 ([[.obj 0 false (.vec 52 nc zw)]]++ct 25 ([[.obj 0 false (.vec 36 lO Qg)]]++ct 73 []))))⟩
abbrev aC.L1.Y0:=(Int×Unit)
abbrev aC.L1.X0:=(Int×Unit)
def aC.L1.eG:aC.L1.X0->Exit×AS:=λx=>(.ret,⟨([.undef,.undef,.ptr (.new 2 0) 0 [] 0,.d .bool false]++aT 128 []),[],([[],[],[.obj 0 false (.pr (.di) (.pr (.di) (.d (.pair ti .unit) x)))]]++ct 129 [])⟩)
abbrev aC.L1.Y1:=Nat×iw×(List kO)
abbrev aC.L1.X1:=(Int×Int×(Int×Unit)×Nat×(Int×Unit)×(List qV))×(Nat×iw×(List kO))
def aC.L1.gZ:aC.L1.X1->Exit×AS:=λx=>(.exit 2,⟨([.undef,.undef,.ptr (.new 2 0) 0 [] 0,.undef,.ptr (.new 4 0) 0 [] 0,.ptr (.new 5 0) 0 [] 0,.fn 183 (.cons (.ptr (.new 5 0) 0 [] 0) (.nil)),.d ti x.1.1,.d ti x.1.2.1]++aT 123 []),[],([[],[],[.obj 0 false (.pr (.di) (.pr (.di) (.d (.pair ti .unit) x.1.2.2.1)))],[],[.obj 0 false (.pr (.aS (.new 32 0) 0 [] 0 0 x.1.2.2.2.1) (.pr (.aS (.new 58 0) 0 [] 0 0 x.2.1) (.d (.pair ti .unit) x.1.2.2.2.2.1)))],[.obj 0 false (.ptr (.new 16 0) 0 [] 0)]]++ct 10 ([[.obj 0 false (.d oa x.2.2.1)]]++ct 15 ([[.obj 0 false (.vec 52 nc x.1.2.2.2.2.2)]]++ct 25 ([[.obj 0 false (.vec 36 lO x.2.2.2)]]++ct 73 []))))⟩)
abbrev aC.L1.X:=(aC.L1.X0)⊕(aC.L1.X1)
abbrev aC.L1.Y:=(aC.L1.Y0)⊕(aC.L1.Y1)
def aC.L1.out:aC.L1.X->Out (Exit×AS):=λx=> .br x.isLeft (.get x.getLeft? λa=> .ok (aC.L1.eG a)) (.get x.getRight? λb=> .ok (aC.L1.gZ b))
def aC.L1.add:aC.L1.D->aC.L1.Y->aC.L1.X:=λ(s8,m,t37,t38,lz,zy,v7,rp,Bn,zw,Qg) y=>match y with | .inl y=> .inl y | .inr z=> .inr (((s8,m,lz,zy,rp,zw),z))
abbrev aC.L2.D:=Int×Int×Int×Int×(Int×Unit)×Nat×Nat×(Int×Unit)×iw×(List qV)×(List kO)
def aC.L2.st:aC.L2.D->AS:=λ(RK,JJ,t66,t67,nK,zz,BA,xF,Bo,fU,BE)=>⟨([.undef,.undef,.ptr (.new 2 0) 0 [] 0,.undef,.ptr (.new 4 0) 0 [] 0,.ptr (.new 5 0) 0 [] 0,.fn 183 (.cons (.ptr (.new 5 0) 0 [] 0) (.nil)),.d ti RK,.d ti JJ]++aT 57 ([.d ti t66,.d ti t67]++aT 64 [])),[],([[],[],[.obj 0 false (.pr (.di) (.pr (.di) (.d (.pair ti .unit) nK)))],[],[.obj 0 false (.pr (.aS (.new 32 0) 0 [] 0 0 zz) (.pr (.aS (.new 58 0) 0 [] 0 0 BA) (.d (.pair ti .unit) xF)))],[.obj 0 false (.ptr (.new 16 0) 0 [] 0)]]++ct 10 ([[.obj 0 false (.d oa Bo)]]++ct 15 ([[.obj 0 false (.vec 52 nc fU)]]++ct 25 ([[.obj 0 false (.vec 36 lO BE)]]++ct 73 []))))⟩
abbrev aC.L2.Y0:=(Int×Unit)
abbrev aC.L2.X0:=(Int×Unit)
def aC.L2.eG:aC.L2.X0->Exit×AS:=λx=>(.ret,⟨([.undef,.undef,.ptr (.new 2 0) 0 [] 0,.d .bool false]++aT 128 []),[],([[],[],[.obj 0 false (.pr (.di) (.pr (.di) (.d (.pair ti .unit) x)))]]++ct 129 [])⟩)
abbrev aC.L2.Y1:=Int×Int×(Int×Unit)×Nat×Nat×(Int×Unit)×iw×(List qV)×(List kO)
abbrev aC.L2.X1:=Int×Int×(Int×Unit)×Nat×Nat×(Int×Unit)×iw×(List qV)×(List kO)
def aC.L2.gZ:aC.L2.X1->Exit×AS:=λx=>(.exit 4,⟨([.undef,.undef,.ptr (.new 2 0) 0 [] 0,.undef,.ptr (.new 4 0) 0 [] 0,.ptr (.new 5 0) 0 [] 0,.undef,.d ti x.1,.d ti x.2.1]++aT 123 []),[],([[],[],[.obj 0 false (.pr (.di) (.pr (.di) (.d (.pair ti .unit) x.2.2.1)))],[],[.obj 0 false (.pr (.aS (.new 32 0) 0 [] 0 0 x.2.2.2.1) (.pr (.aS (.new 58 0) 0 [] 0 0 x.2.2.2.2.1) (.d (.pair ti .unit) x.2.2.2.2.2.1)))],[.obj 0 false (.ptr (.new 16 0) 0 [] 0)]]++ct 10 ([[.obj 0 false (.d oa x.2.2.2.2.2.2.1)]]++ct 15 ([[.obj 0 false (.vec 52 nc x.2.2.2.2.2.2.2.1)]]++ct 25 ([[.obj 0 false (.vec 36 lO x.2.2.2.2.2.2.2.2)]]++ct 73 []))))⟩)
abbrev aC.L2.X:=(aC.L2.X0)⊕(aC.L2.X1)
abbrev aC.L2.Y:=(aC.L2.Y0)⊕(aC.L2.Y1)
def aC.L2.out:aC.L2.X->Out (Exit×AS):=λx=> .br x.isLeft (.get x.getLeft? λa=> .ok (aC.L2.eG a)) (.get x.getRight? λb=> .ok (aC.L2.gZ b))
def aC.L2.add:aC.L2.D->aC.L2.Y->aC.L2.X:=λ(RK,JJ,t66,t67,nK,zz,BA,xF,Bo,fU,BE) y=>match y with | .inl y=> .inl y | .inr z=> .inr (z)
abbrev aC.L3.D:=Int×Int×Int×Int×Int×Int×(Int×Unit)×Nat×Nat×(Int×Unit)×iw×(List qV)×cd×Int×Nat×(Int×Unit)×(List qV)×(List kO)×(List Sg)
abbrev aC.L3.Y:=iw×(List qV)×(List Sg)
abbrev aC.L3.X:=(Int×Int×Int×Int×(Int×Unit)×Nat×Nat×(Int×Unit)×(List kO))×(iw×(List qV)×(List Sg))
def aC.L3.add:aC.L3.D->aC.L3.Y->aC.L3.X:=λ(RL,RH,Cj,sX,t85,t86,wL,BB,BC,It,DE,DG,DH,DI,CQ,DJ,Bx,BF,n99) y=>((RL,RH,Cj,sX,wL,BB,BC,It,BF),y)
abbrev aC.D:=Bs
abbrev aC.Y:=eZ×Bool
def aC.L0.aM:aC.L0.D->Prop:=λ(n,m,i,u,L,v,r,l)=>og r/\m<=64/\∃k:Nat,i=k/\k<=64/\L=l.length/\l.length=k
def aC.L0.F:aC.L0.D->aC.L0.Y:=λ(n,m,i,u,L,v,r,l)=>(L+(m - i).toNat,(vO (m - i).toNat r).2,l++(vO (m - i).toNat r).1.map Oe)
def aC.L1.aM:aC.L1.D->Prop:=λ(n,m1,m,i,u,L,L2,v,r,l,os)=>og r/\m<=64/\∃k:Nat,i=k/\k<=64/\L2=os.length/\os.length=k
def aC.L1.F:aC.L1.D->aC.L1.Y:=λ(n,m1,m,i,u,L,L2,v,r,l,os)=>match uc (m - i).toNat r with | none=> .inl (0,()) | some x=> .inr (L2+x.1.length,x.2,os++x.1)
def aC.L3.aM:aC.L3.D->Prop:=λ(n,m1,mo,io,m,i,u,L,L2,v,r,la,op,br,Ls,sc,lb,os,sg)=>og r/\m<=12/\∃k:Nat,i=k/\k<=12/\Ls=sg.length/\sg.length=k
def aC.L3.F:aC.L3.D->aC.L3.Y:=λ(n,m1,mo,io,m,i,u,L,L2,v,r,la,op,br,Ls,sc,lb,os,sg)=>((tM (m - i).toNat r).2,la++(op,(br,some (sg++(tM (m - i).toNat r).1),sc),())::lb,sg++(tM (m - i).toNat r).1)
def aC.L2.aM:aC.L2.D->Prop:=λ(n,m1,m,i,u,L,L2,v,r,l,os)=>og r/\l.length<=64/\∃k:Nat,i=k/\k<=l.length/\m=l.length/\L=l.length/\∀x∈l.drop k,x=Oe x.1
def aC.L2.F:aC.L2.D->aC.L2.Y:=λ(n,m1,m,i,u,L,L2,v,r,l,os)=>match ui ((l.drop i.toNat).map (·.1)) r with | none=> .inl (0,()) | some x=> .inr (n,m1,u,L,L2,v,x.2,l.take i.toNat++x.1.map Vo,os)
def aC.aM:aC.D->Prop:=λb=>Bytes b/\b.length<=1000000000
def aC.F:aC.D->aC.Y:=λb=>BU b
def aC.L0:Ls aC.L0.aM aC.L0.add aC.L0.F:=rY (λ(n,t20,t21,n2,O8,n4,n16,n32)=>⟨([.undef,.undef,.ptr (.new 2 0) 0 [] 0,.undef,.ptr (.new 4 0) 0 [] 0,.ptr (.new 5 0) 0 [] 0,.fn 183 (.cons (.ptr (.new 5 0) 0 [] 0) (.nil)),.d ti n]++aT 12 ([.d ti t20,.d ti t21]++aT 110 [])),[],([[],[],[.obj 0 false (.pr (.di) (.pr (.di) (.d (.pair ti .unit) n2)))],[],[.obj 0 false (.pr (.aS (.new 32 0) 0 [] 0 0 O8) (.pr (.di) (.d (.pair ti .unit) n4)))],[.obj 0 false (.ptr (.new 16 0) 0 [] 0)]]++ct 10 ([[.obj 0 false (.d oa n16)]]++ct 15 ([[.obj 0 false (.vec 52 nc n32)]]++ct 99 [])))⟩) (λx=>(.exit 0,⟨([.undef,.undef,.ptr (.new 2 0) 0 [] 0,.undef,.ptr (.new 4 0) 0 [] 0,.ptr (.new 5 0) 0 [] 0,.fn 183 (.cons (.ptr (.new 5 0) 0 [] 0) (.nil)),.d ti x.1.1]++aT 124 []),[],([[],[],[.obj 0 false (.pr (.di) (.pr (.di) (.d (.pair ti .unit) x.1.2.1)))],[],[.obj 0 false (.pr (.aS (.new 32 0) 0 [] 0 0 x.2.1) (.pr (.di) (.d (.pair ti .unit) x.1.2.2)))],[.obj 0 false (.ptr (.new 16 0) 0 [] 0)]]++ct 10 ([[.obj 0 false (.d oa x.2.2.1)]]++ct 15 ([[.obj 0 false (.vec 52 nc x.2.2.2)]]++ct 99 [])))⟩))
def aC.L1.E:=eE.iR aC.L1.st aC.L1.aM aC.L1.add aC.L1.F aC.L1.out
def aC.L1.call:aC.L1.D->Option aC.L1.X:=j9 aC.L1.E aC.L1.st
def aC.L2.E:=eE.iR aC.L2.st aC.L2.aM aC.L2.add aC.L2.F aC.L2.out
def aC.L2.call:aC.L2.D->Option aC.L2.X:=j9 aC.L2.E aC.L2.st
def aC.L3:Ls aC.L3.aM aC.L3.add aC.L3.F:=rY (λ(RL,RH,Cj,sX,t85,t86,wL,BB,BC,It,DE,DG,DH,DI,CQ,DJ,Bx,BF,n99)=>⟨([.undef,.undef,.ptr (.new 2 0) 0 [] 0,.undef,.ptr (.new 4 0) 0 [] 0,.ptr (.new 5 0) 0 [] 0,.fn 183 (.cons (.ptr (.new 5 0) 0 [] 0) (.nil)),.d ti RL,.d ti RH]++aT 4 ([.ptr (.new 32 0) 0 [.snd,.fst,.snd,.fst] ((0+((Int.toNat sX)*36))+33)]++aT 52 ([.d ti Cj,.d ti sX]++aT 17 ([.d ti t85,.d ti t86]++aT 45 [])))),[],([[],[],[.obj 0 false (.pr (.di) (.pr (.di) (.d (.pair ti .unit) wL)))],[],[.obj 0 false (.pr (.aS (.new 32 0) 0 [] 0 0 BB) (.pr (.aS (.new 58 0) 0 [] 0 0 BC) (.d (.pair ti .unit) It)))],[.obj 0 false (.ptr (.new 16 0) 0 [] 0)]]++ct 10 ([[.obj 0 false (.d oa DE)]]++ct 15 ([[.obj 0 false (.bx 52 36 (.pr (.d (.arr (0+(Int.toNat sX)) nc) DG) (.pr (.pr (.d b8 DH) (.pr (.pr (.d ti DI) (.pr (.aS (.new 99 0) 0 [] 0 0 CQ) (.d (.pair tu .unit) DJ))) (.d .unit ()))) (.d (.arr (List.length Bx) nc) Bx))))]]++ct 25 ([[.obj 0 false (.vec 36 lO BF)]]++ct 40 ([[.obj 0 false (.vec 135 yh n99)]]++ct 32 [])))))⟩) (λx=>(.exit 6,⟨([.undef,.undef,.ptr (.new 2 0) 0 [] 0,.undef,.ptr (.new 4 0) 0 [] 0,.ptr (.new 5 0) 0 [] 0,.fn 183 (.cons (.ptr (.new 5 0) 0 [] 0) (.nil)),.d ti x.1.1,.d ti x.1.2.1]++aT 4 ([.ptr (.new 32 0) 0 [.idx (0+(Int.toNat x.1.2.2.2.1)),.snd,.fst] ((0+((Int.toNat x.1.2.2.2.1)*36))+33)]++aT 52 ([.d ti x.1.2.2.1,.d ti x.1.2.2.2.1]++aT 64 []))),[],([[],[],[.obj 0 false (.pr (.di) (.pr (.di) (.d (.pair ti .unit) x.1.2.2.2.2.1)))],[],[.obj 0 false (.pr (.aS (.new 32 0) 0 [] 0 0 x.1.2.2.2.2.2.1) (.pr (.aS (.new 58 0) 0 [] 0 0 x.1.2.2.2.2.2.2.1) (.d (.pair ti .unit) x.1.2.2.2.2.2.2.2.1)))],[.obj 0 false (.ptr (.new 16 0) 0 [] 0)]]++ct 10 ([[.obj 0 false (.d oa x.2.1)]]++ct 15 ([[.obj 0 false (.vec 52 nc x.2.2.1)]]++ct 25 ([[.obj 0 false (.vec 36 lO x.1.2.2.2.2.2.2.2.2)]]++ct 40 ([[.obj 0 true (.vec 135 yh x.2.2.2)]]++ct 32 [])))))⟩))
def aC:Fs Tryz.prog aC.aM bP aC.F:=gC 126 Tryz.f126 (λb=>([.d tB b],[])) (λx=>⟨.cons (.d gU x.1) (.cons (.d .bool x.2) (.nil)),[],[]⟩) [some tB] [ki.sg,ju.sg,lA.sg,cU.sg,iO.sg,cS.sg,fR.sg,na.sg,jD.sg,az.sg] {bK:=[100031,100032],loops:=pz [(6,{bo:=[2,4,5,6,7,20,21],sites:=[2,4,5,16,32],owns:=[⟨4,[.fst],32,100038⟩]}),(11,{bo:=[2,4,5,6,7,8,37,38],sites:=[2,4,5,16,32,58],owns:=[⟨4,[.snd,.fst],58,37⟩]}),(21,{bo:=[2,4,5,6,7,8,66,67],sites:=[2,4,5,16,32,58]}),(29,{bo:=[2,4,5,6,7,8,13,66,67,85,86],sites:=[2,4,5,16,32,58,99],owns:=[⟨13,[.snd,.fst],99,48⟩],XH:=[13]})],outs:=py [(6,{bo:=[2,4,5,6,7],sites:=[2,4,5,16,32]},{bo:=[2,3]}),(11,{bo:=[2,4,5,6,7,8],sites:=[2,4,5,16,32,58]},{bo:=[2,3],sites:=[2]}),(21,{bo:=[2,4,5,7,8],sites:=[2,4,5,16,32,58]},{bo:=[2,3],sites:=[2]}),(29,{bo:=[2,4,5,6,7,8,13,66,67],sites:=[2,4,5,16,32,58,99],Yl:=[13]},{bo:=[2,3]})],iX:=qg [(6,aC.L0.E),(11,aC.L1.E),(21,aC.L2.E),(29,aC.L3.E)],res:=[some gU,none]}
def aC.L1.R:= @gN Tryz.prog (oo aC.G) aC.an 0 Tryz.f126 1 _ aC.L1.st
abbrev aC.L1.Ok:=mS Tryz.prog (oo aC.G) aC.an 0 Tryz.f126 1 aC.L1.st aC.L1.aM aC.L1.add aC.L1.F aC.L1.out
def aC.L2.R:= @gN Tryz.prog (oo aC.G) aC.an 0 Tryz.f126 2 _ aC.L2.st
abbrev aC.L2.Ok:=mS Tryz.prog (oo aC.G) aC.an 0 Tryz.f126 2 aC.L2.st aC.L2.aM aC.L2.add aC.L2.F aC.L2.out
theorem aC.L0.run:aC.L0.RS:=rL [.d ti,.d ti,.d ti,.d (.pair ti .unit),.n,.d (.pair ti .unit),.d oa,.d (.slice nc)] aC.L0
theorem aC.L0.step{R:Type}(n t20 t21 n2 O8 n4 n16 n32)(kn:K2 R)(kx:K3 R):aC.R 0 aC.L0 (n,t20,t21,n2,O8,n4,n16,n32) kn kx=
  aP ((jx t21 t20)) (
   ah (lA.call n16) λx7=>
   ah (cU.call x7.2) λx8=>
   aP (decide (O8<=(List.length n32))) (
   aP (dZ (O8+1) 80) (
   kn (aC.L0.st (n,t20,(cG .i64 t21 1),n2,(O8+1),n4,x8.2,((List.take O8 n32)++ [((x7.1,(x8.1,())),((0,(none,(0,()))),()))])))) none) none) (
   aC.L0.go kx ((n,n2,n4),(O8,n16,n32))):=by kernel_rfl
theorem aC.L1.run:kF aC.L1.call aC.L1.aM aC.L1.add aC.L1.F:=oU (oR [.d ti,.d ti,.d ti,.d ti,.d (.pair ti .unit),.n,.n,.d (.pair ti .unit),.d oa,.d (.slice nc),.d (.slice lO)] λ_=>by kernel_rfl)
theorem aC.L1.cM:qa @aC.L1.R aC.L1.st aC.L1.aM aC.L1.add aC.L1.F aC.L1.out aC.L1.Ok:=qD
theorem aC.L1.step{R:Type}(s8:Int)(m:Int)(t37:Int)(t38:Int)(lz:(Int×Unit))(zy:Nat)(v7:Nat)(rp:(Int×Unit))(Bn:iw)(zw:(List qV))(Qg:(List kO))(kn:AS->Option R)(kx:Exit->AS->Option R):aC.L1.R (s8,m,t37,t38,lz,zy,v7,rp,Bn,zw,Qg) kn kx=
  aP ((jx t38 t37)) (
   ah (cU.call Bn) λCs=>
   ah (iO.call Cs.2) λPH=>
   ah (cS.call PH.1) λCt=>
   aP ((!Ct.2)) (
    kx (aC.L1.eG ((0:Int),())).1 (aC.L1.eG ((0:Int),())).2) (
    aP (decide (v7<=(List.length Qg))) (
    aP (dZ (v7+1) 32) (
    kn (aC.L1.st (s8,m,t37,(cG .i64 t38 (1:Int)),lz,zy,(v7+1),rp,PH.2,zw,((List.take v7 Qg)++ [(Cs.1,(Ct.1,()))])))) none) none)) (
   kx (aC.L1.gZ ((s8,m,lz,zy,rp,zw),(v7,Bn,Qg))).1 (aC.L1.gZ ((s8,m,lz,zy,rp,zw),(v7,Bn,Qg))).2):=by kernel_rfl
theorem aC.L2.run:kF aC.L2.call aC.L2.aM aC.L2.add aC.L2.F:=oU (oR [.d ti,.d ti,.d ti,.d ti,.d (.pair ti .unit),.n,.n,.d (.pair ti .unit),.d oa,.d (.slice nc),.d (.slice lO)] λ_=>by kernel_rfl)
theorem aC.L2.cM:qa @aC.L2.R aC.L2.st aC.L2.aM aC.L2.add aC.L2.F aC.L2.out aC.L2.Ok:=qD
theorem aC.L2.step{R:Type}(RK:Int)(JJ:Int)(t66:Int)(t67:Int)(nK:(Int×Unit))(zz:Nat)(BA:Nat)(xF:(Int×Unit))(Bo:iw)(fU:(List qV))(BE:(List kO))(kn:AS->Option R)(kx:Exit->AS->Option R):aC.L2.R (RK,JJ,t66,t67,nK,zz,BA,xF,Bo,fU,BE) kn kx=
  aP ((jx t67 t66)) (
   aP (jn t67 ((zz:Nat):Int)) (
   ah (cU.call Bo) λCs=>
   aP (decide ((0+(Int.toNat t67)) < (List.length fU))) (
   aP (decide ((((0+(Int.toNat t67))*36)+33)=(((0+((Int.toNat t67)*36))+33)+0))) (
   aP (decide ((0+(Int.toNat t67)) < (List.length fU))) (
   ah (ju.call ((12:Int),Cs.2)) λLR=>
   aP ((jx LR.1 (0:Int))) (
    kx (aC.L2.eG ((0:Int),())).1 (aC.L2.eG ((0:Int),())).2) (
    aP (decide ((0+(Int.toNat t67)) < (List.length (List.set fU (0+(Int.toNat t67)) ((nth nc fU (0+(Int.toNat t67))).1,((Cs.1,(nth nc fU (0+(Int.toNat t67))).2.1.2),(nth nc fU (0+(Int.toNat t67))).2.2)))))) (
    aP ((Option.isNone (nth nc (List.set fU (0+(Int.toNat t67)) ((nth nc fU (0+(Int.toNat t67))).1,((Cs.1,(nth nc fU (0+(Int.toNat t67))).2.1.2),(nth nc fU (0+(Int.toNat t67))).2.2))) (0+(Int.toNat t67))).2.1.2.1)) (
    ah (aC.L3.call (RK,JJ,t66,t67,LR.1,(0:Int),nK,zz,BA,xF,LR.2,(List.take (0+(Int.toNat t67)) (List.set fU (0+(Int.toNat t67)) ((nth nc fU (0+(Int.toNat t67))).1,((Cs.1,(nth nc fU (0+(Int.toNat t67))).2.1.2),(nth nc fU (0+(Int.toNat t67))).2.2)))),((nth nc (List.set fU (0+(Int.toNat t67)) ((nth nc fU (0+(Int.toNat t67))).1,((Cs.1,(nth nc fU (0+(Int.toNat t67))).2.1.2),(nth nc fU (0+(Int.toNat t67))).2.2))) (0+(Int.toNat t67))).1.1,((nth nc (List.set fU (0+(Int.toNat t67)) ((nth nc fU (0+(Int.toNat t67))).1,((Cs.1,(nth nc fU (0+(Int.toNat t67))).2.1.2),(nth nc fU (0+(Int.toNat t67))).2.2))) (0+(Int.toNat t67))).1.2.1,(nth nc (List.set fU (0+(Int.toNat t67)) ((nth nc fU (0+(Int.toNat t67))).1,((Cs.1,(nth nc fU (0+(Int.toNat t67))).2.1.2),(nth nc fU (0+(Int.toNat t67))).2.2))) (0+(Int.toNat t67))).1.2.2)),(nth nc (List.set fU (0+(Int.toNat t67)) ((nth nc fU (0+(Int.toNat t67))).1,((Cs.1,(nth nc fU (0+(Int.toNat t67))).2.1.2),(nth nc fU (0+(Int.toNat t67))).2.2))) (0+(Int.toNat t67))).2.1.1,0,((nth nc (List.set fU (0+(Int.toNat t67)) ((nth nc fU (0+(Int.toNat t67))).1,((Cs.1,(nth nc fU (0+(Int.toNat t67))).2.1.2),(nth nc fU (0+(Int.toNat t67))).2.2))) (0+(Int.toNat t67))).2.1.2.2.1,(nth nc (List.set fU (0+(Int.toNat t67)) ((nth nc fU (0+(Int.toNat t67))).1,((Cs.1,(nth nc fU (0+(Int.toNat t67))).2.1.2),(nth nc fU (0+(Int.toNat t67))).2.2))) (0+(Int.toNat t67))).2.1.2.2.2),(List.drop ((0+(Int.toNat t67))+1) (List.set fU (0+(Int.toNat t67)) ((nth nc fU (0+(Int.toNat t67))).1,((Cs.1,(nth nc fU (0+(Int.toNat t67))).2.1.2),(nth nc fU (0+(Int.toNat t67))).2.2)))),BE,([]:List Sg))) λsZ=>
    ah (fR.call sZ.2.1) λCt=>
    aP (decide ((0+(Int.toNat sZ.1.2.2.2.1)) < (List.length sZ.2.2.1))) (
    aP (decide ((((0+(Int.toNat sZ.1.2.2.2.1))*36)+35)=(((0+((Int.toNat sZ.1.2.2.2.1)*36))+33)+2))) (
    aP (decide ((0+(Int.toNat sZ.1.2.2.2.1)) < (List.length sZ.2.2.1))) (
    kn (aC.L2.st (sZ.1.1,sZ.1.2.1,sZ.1.2.2.1,(cG .i64 sZ.1.2.2.2.1 (1:Int)),sZ.1.2.2.2.2.1,sZ.1.2.2.2.2.2.1,sZ.1.2.2.2.2.2.2.1,sZ.1.2.2.2.2.2.2.2.1,Ct.2,(List.set sZ.2.2.1 (0+(Int.toNat sZ.1.2.2.2.1)) ((nth nc sZ.2.2.1 (0+(Int.toNat sZ.1.2.2.2.1))).1,(((nth nc sZ.2.2.1 (0+(Int.toNat sZ.1.2.2.2.1))).2.1.1,((nth nc sZ.2.2.1 (0+(Int.toNat sZ.1.2.2.2.1))).2.1.2.1,(Ct.1,(nth nc sZ.2.2.1 (0+(Int.toNat sZ.1.2.2.2.1))).2.1.2.2.2))),(nth nc sZ.2.2.1 (0+(Int.toNat sZ.1.2.2.2.1))).2.2))),sZ.1.2.2.2.2.2.2.2.2))) none) none) none) none) none)) none) none) none) none) (
   kx (aC.L2.gZ (RK,JJ,nK,zz,BA,xF,Bo,fU,BE)).1 (aC.L2.gZ (RK,JJ,nK,zz,BA,xF,Bo,fU,BE)).2):=by kernel_rfl
theorem aC.L3.run:aC.L3.RS:=rL [.d ti,.d ti,.d ti,.d ti,.d ti,.d ti,.d (.pair ti .unit),.n,.n,.d (.pair ti .unit),.d oa,.d (.slice nc),.d b8,.d ti,.n,.d (.pair tu .unit),.d (.slice nc),.d (.slice lO),.d (.slice yh)] aC.L3
theorem aC.L3.step{R:Type}(RL RH Cj sX t85 t86 wL BB BC It DE DG DH DI CQ DJ Bx BF n99)(kn:K2 R)(kx:K3 R):aC.R 3 aC.L3 (RL,RH,Cj,sX,t85,t86,wL,BB,BC,It,DE,DG,DH,DI,CQ,DJ,Bx,BF,n99) kn kx=
  aP ((jx t86 t85)) (
   aP (decide ((((0+(Int.toNat sX))*36)+34)=(((0+((Int.toNat sX)*36))+33)+1))) (
   ah (fR.call DE) λx7=>
   ah (fR.call x7.2) λx8=>
   aP (decide (CQ<=(List.length n99))) (
   aP (dZ (CQ+1) 16) (
   aP (decide ((((0+(Int.toNat sX))*36)+34)=(((0+((Int.toNat sX)*36))+33)+1))) (
   kn (aC.L3.st (RL,RH,Cj,sX,t85,(cG .i64 t86 1),wL,BB,BC,It,x8.2,DG,DH,DI,(CQ+1),DJ,Bx,BF,((List.take CQ n99)++ [(x7.1,(x8.1,()))])))) none) none) none) none) (
   aP (decide (0=0/\(0+CQ)<=(List.length n99))) (
   aC.L3.go kx ((RL,RH,Cj,sX,wL,BB,BC,It,BF),(DE,(DG++(DH,((DI,((some (cut n99 0 CQ)),DJ)),()))::Bx),n99))) none):=by kernel_rfl
theorem aC.eq{R:Type}(b)(k:K1 R):aC.A b k=
  ah (ki.call b) λx4=>
  ah (ju.call (64,x4)) λx8=>
  ah (aC.L0.call (x8.1,x8.1,0,(0,()),0,(0,()),x8.2,([]:List qV))) λCu=>
  ah (ju.call (64,Cu.2.2.1)) λzJ=>
  ah (aC.L1.call (Cu.1.1,zJ.1,zJ.1,0,Cu.1.2.1,Cu.2.1,0,Cu.1.2.2,zJ.2,Cu.2.2.2,([]:List kO))) λXx=>
  aP (Xx.isLeft) (
   ah (Xx.getLeft?) λa83=>
   k (aC.out ((([]:List kC),(([]:List kO),a83)),false))) (
   ah (Xx.getRight?) λb84=>
   ah (cU.call b84.2.2.1) λYn=>
   ah (aC.L2.call (b84.1.1,b84.1.2.1,((b84.1.2.2.2.1:Nat):Int),0,b84.1.2.2.1,b84.1.2.2.2.1,b84.2.1,(Yn.1,b84.1.2.2.2.2.1.2),Yn.2,b84.1.2.2.2.2.2,b84.2.2.2)) λSi=>
   aP (Si.isLeft) (
    ah (Si.getLeft?) λa125=>
    k (aC.out ((([]:List kC),(([]:List kO),a125)),false))) (
    ah (Si.getRight?) λb126=>
    aP ((jx b126.1 0)) (
     k (aC.out ((([]:List kC),(([]:List kO),(0,()))),false))) (
     aP ((jx b126.2.1 0)) (
      k (aC.out ((([]:List kC),(([]:List kO),(0,()))),false))) (
      ah (na.call b126.2.2.2.2.2.2.1) λUL=>
      aP ((!UL.2)) (
       k (aC.out ((([]:List kC),(([]:List kO),(0,()))),false))) (
       ah (jD.call UL.1) λN5=>
       aP ((uL N5.2 0)) (
        k (aC.out ((([]:List kC),(([]:List kO),(0,()))),false))) (
        aP (decide (0=0/\(0+b126.2.2.2.1)<=(List.length b126.2.2.2.2.2.2.2.1))) (
        aP (decide (0=0/\(0+b126.2.2.2.2.1)<=(List.length b126.2.2.2.2.2.2.2.2))) (
        ah (az.call ((SE (.slice nc) (.slice jo) (cut b126.2.2.2.2.2.2.2.1 0 b126.2.2.2.1)),((cut b126.2.2.2.2.2.2.2.2 0 b126.2.2.2.2.1),b126.2.2.2.2.2.1))) λXr=>
        aP ((!Xr)) (
         k (aC.out ((([]:List kC),(([]:List kO),(0,()))),false))) (
         aP (decide (0=0/\(0+b126.2.2.2.1)<=(List.length b126.2.2.2.2.2.2.2.1))) (
         aP (decide (0=0/\(0+b126.2.2.2.2.1)<=(List.length b126.2.2.2.2.2.2.2.2))) (
         k (aC.out (((SE (.slice nc) (.slice jo) (cut b126.2.2.2.2.2.2.2.1 0 b126.2.2.2.1)),((cut b126.2.2.2.2.2.2.2.2 0 b126.2.2.2.2.1),b126.2.2.2.2.2.1)),true))) none) none)) none) none)))))):=by kernel_rfl
theorem aC.L0.ok:(aC.mL 0 aC.L0):=by
 refine(aC.oH 0 aC.L0) (λ(n,m,i,u,L,v,r,l)=>(m - i).toNat) ?_
 rintro⟨n,m,i,u,L,v,r,l⟩ ⟨hr,hm,k,rfl,hk,rfl,Fc⟩
 have hr:og r:=hr
 have hm:m<=64:=hm
 have Fc:l.length=k:=Fc
 by_cases h:(k:Int) < m
 ·left
  have e1:(m - (k:Int)).toNat=(m - ((k+1:Nat):Int)).toNat+1:=by omega
  have h1:=F7 hr
  refine⟨(n,m,((k+1:Nat):Int),u,l.length+1,v,(Qj r).2,l++ [Oe (Qj r).1]),⟨(nk h1.1).1.1,hm,k+1,rfl,by omega,by rw[ae];rfl,by rw[ae];show l.length+1=_;omega⟩,by show(m - ((k+1:Nat):Int)).toNat < (m - (k:Int)).toNat;omega,?_,λkn kx=> ?_⟩
  ·simp only[aC.L0.add,aC.L0.F,e1,vO,bX,aD,dN]
   rw[show ∀a c:Nat,a+1+c=a+(c+1) from λa c=>by omega]
  ·rw[aC.L0.step,bg h,lA.run (d:=r) hr.1]
   simp only[ag,ab,bP,lA.F]
   rw[cU.run (d:=(uI r).2) h1.1.1]
   simp only[ab,bP,cU.F]
   rw[aY (aw _),fg (by omega) (by omega),N.p9 (by omega),dh]
   rfl
 ·right
  intro R kn kx
  have e1:(m - (k:Int)).toNat=0:=by omega
  rw[aC.L0.step,aX h,al]
  simp only[aC.L0.add,aC.L0.F,e1,vO,ij,bS,cF]
theorem aC.L1.ok:aC.L1.Ok:=by
 refine aC.L1.cM (λ(n,m1,m,i,u,L,L2,v,r,l,os)=>(m - i).toNat) ?_
 rintro⟨n,m1,m,i,u,L,L2,v,r,l,os⟩ ⟨hr,hm,k,rfl,hk,rfl,Fc⟩
 have hr:og r:=hr
 have hm:m<=64:=hm
 have Fc:os.length=k:=Fc
 by_cases h:(k:Int) < m
 ·have e1:(m - (k:Int)).toNat=(m - ((k+1:Nat):Int)).toNat+1:=by omega
  have h1:=nk hr
  have h2:=Eh h1.1.1
  have step:∀ {R:Type} (kn:AS->Option R) (kx:Exit->AS->Option R),aC.L1.R (n,m1,m,(k:Int),u,L,os.length,v,r,l,os) kn kx=aP (!(ud (um (dH r).2).1).2) (kx (aC.L1.eG (0,())).1 (aC.L1.eG (0,())).2) (kn (aC.L1.st (n,m1,m,((k+1:Nat):Int),u,L,os.length+1,v,(BO r).2,l,os++ [(BO r).1]))):=by
   intro R kn kx
   rw[aC.L1.step,bg h,cU.run (d:=r) hr.1]
   simp only[ag,ab,bP,cU.F]
   rw[iO.run (d:=(dH r).2) h1.1.1.1]
   simp only[ab,bP,iO.F]
   rw[cS.run (d:=(um (dH r).2).1) ⟨h2.2.1,h2.2.2⟩]
   simp only[ab,bP,cS.F]
   rw[aY (aw _),fg (by omega) (by omega),N.p9 (by omega),dh]
   rfl
  cases hp:(ud (um (dH r).2).1).2
  ·right
   refine⟨aC.L1.eG (0,()),?_,λkn kx=> ?_⟩
   ·simp only[aC.L1.add,aC.L1.F,e1,uc,hp,cv,if_false]
    rfl
   ·rw[step,hp];rfl
  ·left
   refine⟨(n,m1,m,((k+1:Nat):Int),u,L,os.length+1,v,(BO r).2,l,os++ [(BO r).1]),⟨h2.1.1,hm,k+1,rfl,by omega,by rw[ae];rfl,by rw[ae];show os.length+1=_;omega⟩,by show(m - ((k+1:Nat):Int)).toNat < (m - (k:Int)).toNat;omega,?_,λkn kx=> ?_⟩
   ·simp only[aC.L1.add,aC.L1.F,e1,uc,hp,if_true]
    cases uc (m - ((k+1:Nat):Int)).toNat (BO r).2 with
    |none=>rfl
    |some x=>
     simp only[aB,aD,dN]
     rw[show ∀a c:Nat,a+1+c=a+(c+1) from λa c=>by omega]
   ·rw[step,hp];rfl
 ·right
  have e1:(m - (k:Int)).toNat=0:=by omega
  refine⟨aC.L1.gZ ((n,m1,u,L,v,l),(os.length,r,os)),?_,λkn kx=> ?_⟩
  ·simp only[aC.L1.add,aC.L1.F,e1,uc,bn,cF,bS]
   rfl
  ·rw[aC.L1.step,aX h,al]
theorem aC.L3.ok:(aC.mL 3 aC.L3):=by
 refine(aC.oH 3 aC.L3) (λ(n,m1,mo,io,m,i,u,L,L2,v,r,la,op,br,Ls,sc,lb,os,sg)=>(m - i).toNat) ?_
 rintro⟨n,m1,mo,io,m,i,u,L,L2,v,r,la,op,br,Ls,sc,lb,os,sg⟩ ⟨hr,hm,k,rfl,hk,rfl,Fc⟩
 have hr:og r:=hr
 have hm:m<=12:=hm
 have Fc:sg.length=k:=Fc
 by_cases h:(k:Int) < m
 ·left
  have e1:(m - (k:Int)).toNat=(m - ((k+1:Nat):Int)).toNat+1:=by omega
  have h1:=vH hr
  have h2:=vH h1.1
  refine⟨(n,m1,mo,io,m,((k+1:Nat):Int),u,L,L2,v,(Qp r).2,la,op,br,sg.length+1,sc,lb,os,sg++ [(Qp r).1]),⟨h2.1,hm,k+1,rfl,by omega,by rw[ae];rfl,by rw[ae];show sg.length+1=_;omega⟩,by show(m - ((k+1:Nat):Int)).toNat < (m - (k:Int)).toNat;omega,?_,λkn kx=> ?_⟩
  ·simp only[aC.L3.add,aC.L3.F,e1,tM,aD,dN]
  ·rw[aC.L3.step,bg h,aY (by omega),fR.run (d:=r) hr.1]
   simp only[ag,ab,bP,fR.F]
   rw[fR.run (d:=(ng r).2) h1.1.1]
   simp only[ab,bP,fR.F]
   rw[aY (aw _),fg (by omega) (by omega),N.p9 (by omega),dh]
   rfl
 ·right
  intro R kn kx
  have e1:(m - (k:Int)).toNat=0:=by omega
  rw[aC.L3.step,aX h,al]
  simp only[aC.L3.add,aC.L3.F,e1,tM,bS,aI,aw,and_self,decide_true,ag,gI]
theorem aC.L2.ok:aC.L2.Ok:=by
 refine aC.L2.cM (λ(n,m1,m,i,u,L,L2,v,r,l,os)=>l.length - i.toNat) ?_
 rintro⟨n,m1,m,i,u,L,L2,v,r,l,os⟩ ⟨hr,hl,k,rfl,hk,rfl,rfl,hg⟩
 have hr:og r:=hr
 have hl:l.length<=64:=hl
 have hk:k<=l.length:=hk
 by_cases h:k < l.length
 ·have n1:nth nc l k=l[k]:=dz (t:=nc) h
  have hd:l.drop k=l[k]::l.drop (k+1):=ax h
  have dr:l[k]=Oe l[k].1:=hg _ (by rw[hd];exact aH)
  obtain⟨op,T8⟩:∃op,l[k].1=op:=⟨_,rfl⟩
  rw[T8]at dr
  have h1:=nk hr
  have h2:=J2 h1.1.1 12
  have h3:=J1 h1.1.1.1 (m:=12) (by decide)
  have hw:=J3 hr
  have hu:=vH hw.1
  have ym:(l.take k).length=k:=by rw[bQ];omega
  have step:∀ {R:Type} (kn:AS->Option R) (kx:Exit->AS->Option R),aC.L2.R (n,m1,(l.length:Int),(k:Int),u,l.length,L2,v,r,l,os) kn kx=aP (jx (w5 12 (dH r).2).1 0) (kx (aC.L2.eG (0,())).1 (aC.L2.eG (0,())).2) (kn (aC.L2.st (n,m1,(l.length:Int),((k+1:Nat):Int),u,l.length,L2,v,(ng (pk r).2).2,l.take k++(op,((dH r).1,some (pk r).1,(ng (pk r).2).1,()),())::l.drop (k+1),os))):=by
   intro R kn kx
   rw[aC.L2.step,bg (by omega),bG (by omega) (by omega),cU.run (d:=r) hr.1]
   have ns:∀y:qV,nth nc (l.set k y) k=y:=λy=>Pe (t:=nc) h
   have nm:∀(y:qV) (b:List qV),nth nc (l.take k++y::b) k=y:=λy b=>Pd (t:=nc) ym
   simp only[ag,ab,bP,cU.F,aa,aI,cF,n1,dr,aY h,decide_true]
   rw[ju.run (d:=(12,(dH r).2)) h1.1.1.1]
   simp only[ag,ab,bP,ju.F]
   refine congrArg (λz=>aP _ _ z) ?_
   simp only[List.length_set,aY h,ag,Oe,ns,Lu,Kt,Option.isNone_none]
   rw[aC.L3.run (d:=(n,m1,(l.length:Int),(k:Int),(w5 12 (dH r).2).1,0,u,l.length,L2,v,(w5 12 (dH r).2).2,l.take k,op,(dH r).1,0,(0,()),l.drop (k+1),os,[])) ⟨h2,h3.2,0,rfl,by decide,rfl,rfl⟩]
   simp only[ab,aC.L3.add,aC.L3.F,mw,aR]
   rw[show tM (w5 12 (dH r).2).1.toNat (w5 12 (dH r).2).2=pk r from rfl,fR.run (d:=(pk r).2) hw.1.1]
   simp only[ab,bP,fR.F,aa,nm,Pt ym,aY (show k < (l.take k++(op,((dH r).1,some (pk r).1,0,()),())::l.drop (k+1)).length by rw[ae,aB];omega),gb,Nat.reduceAdd,decide_true,ag]
   rw[N.p9 (by omega)]
  by_cases hp:(w5 12 (dH r).2).1 < 0
  ·right
   refine⟨aC.L2.eG (0,()),?_,λkn kx=> ?_⟩
   ·simp only[aC.L2.add,aC.L2.F,aa,hd,bX,ui,I2,if_pos hp]
    rfl
   ·rw[step,bg hp,ag]
  ·left
   have H9:(l.take k++(op,((dH r).1,some (pk r).1,(ng (pk r).2).1,()),())::l.drop (k+1)).length=l.length:=by
    rw[ae,aB,dy];omega
   have U9:(l.take k++(op,((dH r).1,some (pk r).1,(ng (pk r).2).1,()),())::l.drop (k+1)).drop (k+1)=l.drop (k+1):=by
    rw[List.append_cons,jZ (by rw[ae];show(l.take k).length+1=_;omega)]
   have WL:(l.take k++(op,((dH r).1,some (pk r).1,(ng (pk r).2).1,()),())::l.drop (k+1)).take (k+1)=l.take k++ [(op,((dH r).1,some (pk r).1,(ng (pk r).2).1,()),())]:=by
    rw[List.append_cons,j2 (by rw[ae];show(l.take k).length+1=_;omega)]
   refine⟨(n,m1,(l.length:Int),((k+1:Nat):Int),u,l.length,L2,v,(ng (pk r).2).2,l.take k++(op,((dH r).1,some (pk r).1,(ng (pk r).2).1,()),())::l.drop (k+1),os),⟨hu.1,by rw[H9];exact hl,k+1,rfl,by rw[H9];omega,by rw[H9],by rw[H9],by rw[U9];exact λx hx=>hg x (by rw[hd];exact aF _ hx)⟩,by simp only[aa,H9];omega,?_,λkn kx=> ?_⟩
   ·simp only[aC.L2.add,aC.L2.F,aa,U9,WL,hd,bX,ui,I2,if_neg hp,T8]
    cases ui ((l.drop (k+1)).map (·.1)) (ng (pk r).2).2 with
    |none=>rfl
    |some x=>
     simp only[bX,aD,dN]
     rfl
   ·rw[step,aX hp,al]
 ·right
  obtain rfl:k=l.length:=by omega
  refine⟨aC.L2.gZ (n,m1,u,l.length,L2,v,r,l,os),?_,λkn kx=> ?_⟩
  ·simp only[aC.L2.add,aC.L2.F,aa,aZ,ij,ui,dh,bS]
   rfl
  ·rw[aC.L2.step,aX (by omega),al]
theorem O5(l:List cd):(l.map Oe).map (·.1)=l:=by
 rw[List.map_map]
 have:((λx:qV=>x.1)∘Oe)=id:=rfl
 rw[this,List.map_id]
theorem aC.ok:aC.Ok:=by
 rintro b ⟨hb,hl⟩
 have hb:Bytes b:=hb
 have hl:b.length<=1000000000:=hl
 have k0:=Pp hb hl
 have k1:=J2 k0 64
 have u1:=J1 k0.1 (m:=64) (by decide)
 rw[aC.eq,ki.run (d:=b) hl]
 simp only[ab,bP,ki.F,bP,aC.F,BU]
 rw[ju.run (d:=(64,(b,false,()))) k0.1]
 simp only[ab,bP,ju.F]
 generalize w5 64 (b,false,())=n at*
 have o2:=JO n.1.toNat k1
 rw[aC.L0.run (d:=(n.1,n.1,0,(0,()),0,(0,()),n.2,[])) ⟨k1,u1.2,0,rfl,by decide,rfl,rfl⟩]
 simp only[ab,aC.L0.add,aC.L0.F,mw,aR,aI]
 generalize vO n.1.toNat n.2=ops at*
 have k3:=J2 o2.1.1 64
 have u3:=J1 o2.1.1.1 (m:=64) (by decide)
 rw[ju.run (d:=(64,ops.2)) o2.1.1.1]
 simp only[ab,bP,ju.F]
 generalize w5 64 ops.2=m at*
 rw[aC.L1.run (d:=(n.1,m.1,m.1,0,(0,()),n.1.toNat,0,(0,()),m.2,ops.1.map Oe,[])) ⟨k3,u3.2,0,rfl,by decide,rfl,rfl⟩]
 simp only[ab,aC.L1.add,aC.L1.F,mw,aR,aI]
 cases hx:uc m.1.toNat m.2 with
 |none=>rfl
 |some x=>
  have o4:=GN _ k3 hx
  have o5:=nk o4.1.1
  have ol:(ops.1.map Oe).length=n.1.toNat:=by rw[cK];exact o2.2.1
  simp only[fe,dX,al,ab]
  rw[cU.run (d:=x.2) o4.1.1.1]
  simp only[ab,bP,cU.F]
  rw[aC.L2.run (d:=(n.1,m.1,(n.1.toNat:Int),0,(0,()),n.1.toNat,x.1.length,((dH x.2).1,()),(dH x.2).2,ops.1.map Oe,x.1)) ⟨o5.1.1,by rw[ol];omega,0,rfl,aK _,by rw[ol],by rw[ol],λz hz=>by
   rw[aJ]at hz
   obtain⟨o,_,rfl⟩:=eJ.1 hz
   rfl⟩]
  simp only[ab,aC.L2.add,aC.L2.F,bN,aJ,eF,aR,O5,Na]
  cases hy:ui ops.1 (dH x.2).2 with
  |none=>rfl
  |some y=>
   have o6:=Hm _ o5.1.1 hy
   have yl:y.1.length=n.1.toNat:=by rw[<-o2.2.1,<-o6.2.1,cK]
   have yl2:(y.1.map Vo).length=n.1.toNat:=by rw[cK];exact yl
   simp only[fe,dX,al,ab,Mu]
   by_cases c1:n.1 < 0
   ·rw[bg c1,ag,if_pos (Or.inl c1)];rfl
   rw[aX c1,al]
   by_cases c2:m.1 < 0
   ·rw[bg c2,ag,if_pos (Or.inr (Or.inl c2))];rfl
   rw[aX c2,al,na.run (d:=y.2) trivial]
   simp only[ab,na.add,na.F,Bool.not_not]
   cases c3:y.2.2.1
   ·rw[al,jD.run (d:=y.2) trivial]
    simp only[ab,jD.add,jD.F]
    by_cases c4:0 < y.2.1.length
    ·rw[eY (by omega),ag,if_pos (Or.inr (Or.inr (Or.inr (Or.inl c4))))];rfl
    ·rw[eC (by omega),al,aY ⟨by trivial,by omega⟩,aY ⟨by trivial,by omega⟩,gI yl2,gI rfl,QN,Sc]
     simp only[ag]
     rw[az.run (d:=(y.1,x.1,(dH x.2).1,())) ⟨λo ho=>(o4.2.2 o ho).2.2,by show y.1.length<=_;omega,by show x.1.length<=_;have:=o4.2.1;omega⟩]
     simp only[ab,bP,az.F]
     cases c5:jk (y.1,x.1,(dH x.2).1,())
     ·rw[if_pos (Or.inr (Or.inr (Or.inr (Or.inr (by trivial)))))];rfl
     ·rw[if_neg (by
       rintro(z | z | z | z | z)
       ·exact c1 z
       ·exact c2 z
       ·cases z
       ·exact c4 z
       ·cases z)]
      rfl
   ·rw[ag,if_pos (Or.inr (Or.inr (Or.inl (by trivial))))];rfl
theorem aC.run:aC.RS:=rE [.d tB] aC
def aC.sg:=aC.gG aC.ok 4 ⟨.iR aC.L0.ok,⟨.iR aC.L1.ok,⟨.iR aC.L2.ok,⟨.iR aC.L3.ok,trivial⟩⟩⟩⟩
theorem tf{α:Type}{f:α->List Int}{l:List α}(h:∀x∈l,Bytes (f x)):Bytes (l.flatMap f):=λb hb=>by
 obtain⟨x,hx,hb⟩:=List.mem_flatMap.1 hb
 exact h x hx b hb
theorem uM{α:Type}{f:α->List Int}{n:Nat}:∀ {l:List α},(∀x∈l,(f x).length<=n)->(l.flatMap f).length<=n*l.length
 |[],_=>aK _
 |x::l,h=>by
  rw[dx,ae,aB,Nat.mul_add,jA]
  have h1:=h x aH
  have h2:=uM (l:=l) λy hy=>h y (aF _ hy)
  omega
theorem vG{t:eZ}(hv:rK t):Bytes (Ly t)/\(Ly t).length<=1000000:=by
 cases jU:jk t
 ·unfold Ly
  rw[jU]
  exact⟨λx hx=>(by cases hx),aK _⟩
 obtain⟨⟨a1,a2,a3,a4⟩,b1,b2⟩:=kk jU
 have F8:∀x∈t.1,_:=λx hx=>tq (mg _ _ b1 x hx)
 rw[NU jU]
 have n0:∀ {n:Nat},n<=1000->uj (n:Int):=λh=>oE (by omega)
 have e1:∀x∈t.1,Bytes (IB x.1)/\(IB x.1).length<=43:=λx hx=>by
  have hi:=F8 x hx
  have hr:=lB x.1.2.1
  have hs:=(hv.2.1 x hx).1
  exact⟨gj hs.2 (j3 ⟨hi.1,by omega⟩),by unfold IB;rw[ae,hs.1];omega⟩
 have e2:∀o∈t.2.1,Bytes (sS o)/\(sS o).length<=1022:=λo ho=>by
  have hi:=(lk _ _ b2 o ho).1
  have hr:=lB o.1
  have Ga:=lB (yQ o.2.1).length
  have hl:=xA o.2.1
  exact⟨gj (j3 ⟨hi.1,by omega⟩) (gj (j3 (n0 hl)) (KR _)),by unfold sS;rw[ae,ae];omega⟩
 have e3:∀x∈t.1,Bytes (sD x.2.1)/\(sD x.2.1).length<=300:=λx hx=>by
  have hi:=F8 x hx
  have hr:=lB x.2.1.1
  have Ga:=lB x.2.1.2.1.length
  have hf:=uM (f:=LP) (n:=16) (l:=x.2.1.2.1) λs _=>by unfold LP;rw[ae,dB,dB];omega
  refine⟨gj (j3 ⟨hi.2.2.1,by omega⟩) (gj (j3 (n0 (by omega))) (gj (tf λs _=>gj (sK _) (sK _)) (sK _))),?_⟩
  unfold sD
  simp only[ae,dB]
  omega
 have f1:=uM (f:=λx:kC=>IB x.1) (n:=43) (l:=t.1) λx hx=>(e1 x hx).2
 have f2:=uM (f:=sS) (n:=1022) (l:=t.2.1) λx hx=>(e2 x hx).2
 have f3:=uM (f:=λx:kC=>sD x.2.1) (n:=300) (l:=t.1) λx hx=>(e3 x hx).2
 have r1:=lB t.1.length
 have r2:=lB t.2.1.length
 have r3:=lB t.2.2.1
 refine⟨gj (j3 (n0 (by omega))) (gj (tf λx hx=>(e1 x hx).1) (gj (j3 (n0 (by omega))) (gj (tf λx hx=>(e2 x hx).1) (gj (j3 ⟨a4,hv.2.2⟩) (tf λx hx=>(e3 x hx).1))))),?_⟩
 unfold Vy
 simp only[ae]
 omega
section
variable {β:Type} {kt:Ty}
theorem z8(hc:kt.comp=true)(o o':kt.den)(v:β):∀l:List (kt.den×β),dG kt o (iT kt o' v l)=if kt.beq o o'=true then some v else dG kt o l
 |[]=>by rw[K4,iN,sQ]
 |p::l=>by
  rw[wK]
  by_cases h:kt.beq o' p.1=true
  ·rw[if_pos h,iN,iN]
   have e:=beq_eq kt _ _ hc h
   by_cases h2:kt.beq o o'=true
   ·rw[if_pos h2,if_pos h2]
   ·rw[if_neg h2,if_neg h2,if_neg (by rw[<-e];exact h2)]
  ·rw[if_neg h,iN,iN,z8 hc o o' v l]
   by_cases h3:kt.beq o p.1=true
   ·rw[if_pos h3,if_pos h3,if_neg]
    intro h4
    apply h
    rw[<-beq_eq kt _ _ hc h4]
    exact h3
   ·rw[if_neg h3,if_neg h3]
theorem Ju(hc:kt.comp=true)(o o':kt.den):∀ {l:List (kt.den×β)},(l.map (·.1)).Nodup->dG kt o (kf kt o' l)=if kt.beq o o'=true then none else dG kt o l
 |[],_=>by rw[KZ,sQ];split <;> rfl
 |p::l,hn=>by
  rw[bX,dI]at hn
  rw[tz]
  by_cases h:kt.beq o' p.1=true
  ·rw[if_pos h,iN]
   have e:=beq_eq kt _ _ hc h
   by_cases h2:kt.beq o o'=true
   ·rw[if_pos h2]
    have e2:=beq_eq kt _ _ hc h2
    cases hg:dG kt o l with
    |none=>rfl
    |some v=>exact absurd (eJ.2 ⟨_,(kJ hc hn.2).1 hg,rfl⟩) (by rw[e2,e];exact hn.1)
   ·rw[if_neg h2,if_neg (by rw[<-e];exact h2)]
  ·rw[if_neg h,iN,iN,Ju hc o o' hn.2]
   by_cases h3:kt.beq o p.1=true
   ·rw[if_pos h3,if_pos h3,if_neg]
    intro h4
    apply h
    rw[<-beq_eq kt _ _ hc h4]
    exact h3
   ·rw[if_neg h3,if_neg h3]
theorem get_none(hc:kt.comp=true){o:kt.den}{l:List (kt.den×β)}(hn:(l.map (·.1)).Nodup):dG kt o l=none↔o ∉ l.map (·.1):=by
 constructor
 ·intro h hm
  obtain⟨p,hp,e⟩:=eJ.1 hm
  have e:p.1=o:=e
  have:=(kJ hc hn (x:=o) (v:=p.2)).2 (by rw[<-e];exact hp)
  rw[h]at this;cases this
 ·intro h
  cases hg:dG kt o l with
  |none=>rfl
  |some v=>exact absurd (eJ.2 ⟨_,(kJ hc hn).1 hg,rfl⟩) h
theorem v8{l:List (kt.den×β)}(hn:(l.map (·.1)).Nodup):l.Nodup:=by
 induction l with
 |nil=>exact ja
 |cons p l ih=>
  rw[bX,dI]at hn
  exact dI.2 ⟨λh=>hn.1 (eJ.2 ⟨p,h,rfl⟩),ih hn.2⟩
theorem GP(hc:kt.comp=true){l l':List (kt.den×β)}(hn:(l.map (·.1)).Nodup)(hn':(l'.map (·.1)).Nodup)(h:∀o,dG kt o l=dG kt o l'):l.Perm l':=by
 rw[List.perm_ext_iff_of_nodup (v8 hn) (v8 hn')]
 rintro⟨o,v⟩
 rw[<-kJ hc hn,<-kJ hc hn',h]
end
theorem yt(a b:cd):(Ty.beq b8 a b=true)↔a=b:=⟨beq_eq b8 a b rfl,λh=>by rw[h];exact beq_refl b8 b rfl⟩
abbrev At:=List (cd×dP)
abbrev mK(a:At):List cd:=a.map (·.1)
theorem Q4(o o':cd)(v:dP)(a:At):dG b8 o (iT b8 o' v a)=if o=o' then some v else dG b8 o a:=by
 rw[z8 jP]
 by_cases h:o=o'
 ·rw[if_pos ((yt _ _).2 h),if_pos h]
 ·rw[if_neg (λe=>h ((yt _ _).1 e)),if_neg h]
theorem OJ(o o':cd){a:At}(hn:(mK a).Nodup):dG b8 o (kf b8 o' a)=if o=o' then none else dG b8 o a:=by
 rw[Ju jP _ _ hn]
 by_cases h:o=o'
 ·rw[if_pos ((yt _ _).2 h),if_pos h]
 ·rw[if_neg (λe=>h ((yt _ _).1 e)),if_neg h]
theorem AM{o:cd}{v:dP}{a:At}(hn:(mK a).Nodup):(mK (iT b8 o v a)).Nodup:=zu jP hn
theorem rh{o:cd}{a:At}(hn:(mK a).Nodup):(mK (kf b8 o a)).Nodup:=uR jP hn
theorem Tp{a a':At}(hn:(mK a).Nodup)(hn':(mK a').Nodup)(h:∀o,dG b8 o a=dG b8 o a'):a.Perm a':=GP jP hn hn' h
theorem IZ{o:cd}{c:dP}{a:At}(hn:(mK a).Nodup)(hg:dG b8 o a=some c):a.Perm ((o,c)::kf b8 o a):=by
 refine Tp hn ?_ λx=> ?_
 ·show(o::mK (kf b8 o a)).Nodup
  refine dI.2 ⟨?_,rh hn⟩
  have:=(get_none jP (rh (o:=o) hn)).1 (by rw[OJ o o hn,if_pos rfl])
  exact this
 ·rw[iN,OJ x o hn]
  by_cases h:x=o
  ·subst h;rw[if_pos ((yt _ _).2 rfl),hg]
  ·rw[if_neg (λe=>h ((yt _ _).1 e)),if_neg h]
theorem yD(o:cd)(l:List cd)(a:At):so (o::l) a=so l (kf b8 o a):=rfl
theorem wz:∀(l:List cd) {a:At},(mK a).Nodup->(mK (so l a)).Nodup
 |[],_,h=>h
 |o::l,a,h=>by rw[yD];exact wz l (rh h)
theorem Jt(x:cd):∀(l:List cd) {a:At},(mK a).Nodup->dG b8 x (so l a)=if x∈l then none else dG b8 x a
 |[],a,_=>by rw[if_neg (by simp)];rfl
 |o::l,a,h=>by
  rw[yD,Jt x l (rh h),OJ x o h]
  by_cases h1:x∈l
  ·rw[if_pos h1,if_pos (aF _ h1)]
  ·rw[if_neg h1]
   by_cases h2:x=o
   ·rw[if_pos h2,if_pos (by rw[h2];exact aH ..)]
   ·rw[if_neg h2,if_neg (by simp[h1,h2])]
theorem vg(h:Int)(o:cd)(l:List cd)(x:kO)(xs:List kO)(a:At):yq h (o::l) (x::xs) a=yq h l xs (iT b8 o (x,(h,())) a):=rfl
theorem Aq(h:Int):∀(l:List cd) (xs:List kO) {a:At},(mK a).Nodup->(mK (yq h l xs a)).Nodup
 |[],[],_,hn=>hn
 |[],_::_,_,hn=>hn
 |_::_,[],_,hn=>hn
 |o::l,x::xs,a,hn=>by rw[vg];exact Aq h l xs (AM hn)
theorem Js(h:Int)(x:cd):∀(l:List cd) (xs:List kO) (a:At),x ∉ l->dG b8 x (yq h l xs a)=dG b8 x a
 |[],[],_,_=>rfl
 |[],_::_,_,_=>rfl
 |_::_,[],_,_=>rfl
 |o::l,y::xs,a,hx=>by
  rw[vg,Js h x l xs _ (λe=>hx (aF _ e)),Q4,if_neg (λe=>hx (by rw[e];exact aH ..))]
theorem F2(h:Int):∀(l:List cd) (xs:List kO) (a:At),l.Nodup->∀(k:Nat) (hk:k < l.length) (Oa:k < xs.length),dG b8 l[k] (yq h l xs a)=some (xs[k],(h,()))
 |[],_,_,_,k,hk,_=>by simp at hk
 |_::_,[],_,_,k,_,hk=>by simp at hk
 |o::l,y::xs,a,hn,k,hk,Oa=>by
  rw[dI]at hn
  rw[vg]
  cases k with
  |zero=>
   show dG b8 o _=some (y,(h,()))
   rw[Js h o l xs _ hn.1,Q4,if_pos rfl]
  |succ k=>
   simp only[List.getElem_cons_succ]
   exact F2 h l xs _ hn.2 k (by simpa using hk) (by simpa using Oa)
def qn(a:At)(l:List cd):Int:=(l.map λo=>((dG b8 o a).getD Hp).1.1).sum
theorem FO:∀(l:List cd) {a:At},(mK a).Nodup->l.Nodup->(∀o∈l,(dG b8 o a).isSome=true)->kI (so l a)=kI a - qn a l/\(so l a).length+l.length=a.length
 |[],a,_,_,_=>by simp[so,qn]
 |o::l,a,hn,hl,ht=>by
  rw[dI]at hl
  obtain⟨c,hc⟩:=bY.1 (ht o (aH ..))
  have hg:∀x∈l,dG b8 x (kf b8 o a)=dG b8 x a:=λx hx=>by
   rw[OJ x o hn,if_neg (λe=>hl.1 (by rw[<-e];exact hx))]
  obtain⟨h1,h2⟩:=FO l (rh (o:=o) hn) hl.2 λx hx=>by rw[hg x hx];exact ht x (aF _ hx)
  have hp:=IZ hn hc
  have h3:=yr hp
  have h4:=hp.length_eq
  have h5:qn (kf b8 o a) l=qn a l:=by
   unfold qn
   congr 1
   exact gr λx hx=>by rw[hg x hx]
  rw[lE]at h3
  rw[aB]at h4
  rw[yD,h1,h5,aB]
  have h6:qn a (o::l)=c.1.1+qn a l:=by simp[qn,hc]
  rw[h6]
  exact⟨by have h3:kI a=c.1.1+kI (kf b8 o a):=h3;omega,by omega⟩
theorem GM(x:kO)(xs:List kO):mP (x::xs)=x.1+mP xs:=by simp[mP]
theorem Fl(h:Int):∀(l:List cd) (xs:List kO) {a:At},(mK a).Nodup->l.Nodup->l.length=xs.length->(∀o∈l,dG b8 o a=none)->kI (yq h l xs a)=kI a+mP xs/\(yq h l xs a).length=a.length+l.length
 |[],[],a,_,_,_,_=>by simp[yq,mP]
 |[],_::_,_,_,_,he,_=>by simp at he
 |_::_,[],_,_,_,he,_=>by simp at he
 |o::l,x::xs,a,hn,hl,he,ht=>by
  rw[dI]at hl
  have h0:=(get_none jP hn).1 (ht o (aH ..))
  have e:iT b8 o (x,(h,())) a=a++ [(o,(x,(h,())))]:=rZ jP h0
  obtain⟨h1,h2⟩:=Fl h l xs (AM (o:=o) (v:=(x,(h,()))) hn) hl.2 (by simpa using he) λy hy=>by
   rw[Q4,if_neg (λe=>hl.1 (by rw[<-e];exact hy))];exact ht y (aF _ hy)
  rw[vg,h1,h2,e,Fp,GM,ae]
  simp only[kI,bX,ij,List.sum_cons,List.sum_nil,aB,bn]
  omega
theorem A4:∀(l:List kC) (m:List (cd×Bool)),uo m l=true->(l.map (·.1)).Nodup/\∀x∈l,dG b8 x.1 m≠some true
 |[],_,_=>⟨ja,λ_ h=>by cases h⟩
 |x::l,m,h=>by
  rw[uo,aj,aj]at h
  obtain⟨⟨h1,_⟩,h2⟩:=h
  obtain⟨h3,h4⟩:=A4 l _ h2
  have hs:∀y∈l,dG b8 y.1 (iT b8 x.1 true m)≠some true:=h4
  have fL:∀y∈l,y.1≠x.1:=λy hy e=>hs y hy (by rw[z8 jP,if_pos ((yt _ _).2 e)])
  refine⟨?_,λy hy=> ?_⟩
  ·rw[bX,dI]
   refine⟨λhm=> ?_,h3⟩
   obtain⟨y,hy,e⟩:=eJ.1 hm
   exact fL y hy e
  ·rcases cX.1 hy with rfl | hy
   ·intro e
    unfold zg at h1
    rw[e]at h1
    cases h1
   ·have:=hs y hy
    rw[z8 jP,if_neg (λe=>fL y hy ((yt _ _).1 e))]at this
    exact this
theorem E2(t:eZ):(dT t).Nodup:=by
 unfold dT
 split
 ·rename_i h
  exact(A4 _ _ (kk h).2.1).1
 ·exact ja
theorem Bg(t:eZ):(iq t).Nodup:=by
 unfold iq
 split
 ·unfold ua
  refine List.Pairwise.map _ (λa b fL e=> ?_) (List.nodup_range' (s:=0) (n:=t.2.1.length) (step:=1))
  have:(a:Int)=b:=congrArg (λo:cd=>o.2.1) e
  exact fL (by omega)
 ·exact ja
theorem A2{h:Int}{id:List Int}{a:At}:∀(l:List kC) (f0 f:Int),rk h id a l f0= .inr f->(∀o∈l.map (·.1),(dG b8 o a).isSome=true)/\f=f0+qn a (l.map (·.1))
 |[],f0,f,e=>by simp only[rk,Sum.inr.injEq]at e;subst e;simp[qn]
 |x::l,f0,f,e=>by
  simp only[rk]at e
  cases hg:dG b8 x.1 a with
  |none=>rw[hg]at e;cases e
  |some c=>
   rw[hg]at e
   simp only at e
   split at e
   ·cases e
   ·obtain⟨h1,h2⟩:=A2 l _ _ e
    refine⟨λo ho=> ?_,?_⟩
    ·rw[bX]at ho
     rcases cX.1 ho with rfl | ho
     ·rw[hg];rfl
     ·exact h1 o ho
    ·rw[h2]
     simp only[qn,bX,List.sum_cons,hg,dW]
     omega
structure qb(t:eZ)(h:Int)(a:At)(lY:Int):Prop where
 ok:jk t=true
 h1:1<=h
 h2:h<=1048576
 ins:∃f,rk h (lW t) a t.1 0= .inr f/\lY=f - mP t.2.1
 there:∀o∈dT t,(dG b8 o a).isSome=true
 made:∀o∈iq t,dG b8 o a=none
 Tk:lY=qn a (dT t) - mP t.2.1
 pos:0<=lY
theorem Ei{t:eZ}{h:Int}{a:At}(e:(e7 t h a).2=0):qb t h a (e7 t h a).1:=by
 obtain⟨jU,h1,h2,f,hi,hm,hp,hc⟩:=yC e
 obtain⟨i1,i2⟩:=A2 _ _ _ hi
 have hs:dT t=t.1.map (·.1):=by unfold dT;rw[if_pos jU]
 rw[hc]
 refine⟨jU,h1,h2,⟨f,hi,rfl⟩,by rw[hs];exact i1,λo ho=> ?_,by rw[hs,i2];show 0+_ - _=_;omega,hp⟩
 have:=jl.1 hm o ho
 unfold pv at this
 cases hg:dG b8 o a with
 |none=>rfl
 |some c=>rw[hg]at this;simp at this
theorem HP{t:eZ}{h:Int}{a:At}(e:(e7 t h a).2≠0):(e7 t h a).1=0:=by
 unfold e7 at e ⊢
 split
 ·rename_i h0
  rw[if_pos h0]at e
  cases hi:rk h (lW t) a t.1 0 with
  |inl x=>rfl
  |inr f=>
   rw[hi]at e
   simp only at e ⊢
   split
   ·rfl
   ·rename_i h1
    rw[if_neg h1]at e
    split
    ·rfl
    ·rename_i h2
     rw[if_neg h2]at e
     exact absurd rfl e
 ·rfl
section
variable {t:eZ} {h lY:Int} {a:At}
theorem qb.UH(hc:qb t h a lY)(ha:(mK a).Nodup){o:cd}(ho:o∈dT t):dG b8 o (jV t h a)=none:=by
 have hm:o ∉ iq t:=λe=>by
  have:=hc.there o ho
  rw[hc.made o e]at this;cases this
 unfold jV
 rw[Js h o _ _ _ hm,Jt o _ ha,if_pos ho]
theorem qb.new(hc:qb t h a lY){k:Nat}(hk:k < (iq t).length)(Oa:k < t.2.1.length):dG b8 (iq t)[k] (jV t h a)=some (t.2.1[k],(h,())):=by
 unfold jV
 exact F2 h _ _ _ (Bg t) k hk Oa
theorem Ee(ha:(mK a).Nodup){o:cd}(h1:o ∉ dT t)(h2:o ∉ iq t):dG b8 o (jV t h a)=dG b8 o a:=by
 unfold jV
 rw[Js h o _ _ _ h2,Jt o _ ha,if_neg h1]
theorem xe(ha:(mK a).Nodup):(mK (jV t h a)).Nodup:=Aq h _ _ (wz _ ha)
theorem qb.sum(hc:qb t h a lY)(ha:(mK a).Nodup):kI (jV t h a)=kI a - lY/\(jV t h a).length+t.1.length=a.length+t.2.1.length:=by
 obtain⟨d1,d2⟩:=FO (dT t) ha (E2 t) hc.there
 obtain⟨e1,e2⟩:=Fl h (iq t) t.2.1 (wz (dT t) ha) (Bg t) (pb hc.ok) λo ho=>by
  rw[Jt o _ ha];split
  ·rfl
  ·exact hc.made o ho
 have hf:=hc.Tk
 have hl:=A3 hc.ok
 have hm:=pb hc.ok
 unfold jV
 rw[e1,e2,d1]
 exact⟨by omega,by omega⟩
theorem qb.wG(hc:qb t h a lY)(ha:Fh a)(hv:rK t):Fh (jV t h a):=by
 refine⟨xe ha.1,λp hp=> ?_⟩
 have hg:=(kJ jP (xe (t:=t) (h:=h) ha.1) (x:=p.1) (v:=p.2)).2 hp
 by_cases h2:p.1∈iq t
 ·obtain⟨k,hk,e⟩:=List.getElem_of_mem h2
  have Oa:k < t.2.1.length:=by rw[<-pb hc.ok];exact hk
  rw[<-e,hc.new hk Oa]at hg
  have hg:=(ba hg).symm
  have ho:=lk _ _ (kk hc.ok).2.2 _ (aL Oa)
  have hu:=hv.1.1 _ (aL Oa)
  have h1:=hc.h1
  have h3:=hc.h2
  refine⟨?_,?_⟩
  ·rw[<-e]
   have hm:iq t=ua (lW t) 0 t.2.1.length:=by unfold iq;rw[if_pos hc.ok]
   simp only[hm,ua,List.getElem_map]
   have:=(wY (t:=t))
   exact⟨this.1,λx hx=>this.2 x hx⟩
  ·rw[hg]
   exact⟨ho.2,hu.1,ho.1.1,ho.1.2,by show 0<=h;omega,h3⟩
 ·by_cases h1:p.1∈dT t
  ·rw[hc.UH ha.1 h1]at hg;cases hg
  ·rw[Ee ha.1 h1 h2]at hg
   exact ha.2 p ((kJ jP ha.1).1 hg)
end
end Go.Ab
namespace Go.Ab
open Go.Proofs
theorem Jg(k:Int):mq (fN k):=(GV _ _).u
def mT:List Int:=[152,45,158,62,185,150,245,89,230,51,244,209,148,222,243,118,29,144,159,90,59,100,125,26,133,31,234,214,124,50,201,209]
theorem s3:kK 3 mT=(2066670005889522986,1913675330412042729,()):=by decide+kernel
theorem s5:kK 5 mT=(1601457595092860225,1871270319440231866,()):=by decide+kernel
def keyOf(x:Int):Int:=1+x%2305843009213688668
theorem MZ(x:Int):0 < keyOf x/\keyOf x < 2305843009213688669:=by unfold keyOf;omega
theorem MY{x:Int}(h:mq x):cG .u64 (1:Int) (kQ x (2305843009213688668:Int))=keyOf x:=by
 obtain⟨n,rfl⟩:∃n:Nat,x=n:=⟨x.toNat,by have:=h.1;omega⟩
 rw[show kQ (n:Int) (2305843009213688668:Int)=((n%2305843009213688668:Nat):Int) from N.Vu]
 show IntKind.u64.wrap _=_
 have e:IntKind.u64.wrap (1+((n%2305843009213688668:Nat):Int))=(1+((n%2305843009213688668:Nat):Int))%18446744073709551616:=rfl
 rw[e]
 unfold keyOf
 omega
theorem u0:mq 0:=⟨kS 0,by decide⟩
theorem Ii{x:Int}{l:List Int}(h:mq x)(hl:tR l):tR (x::l):=λp hp=>by
 rcases cX.1 hp with rfl | hp
 ·exact h
 ·exact hl p hp
theorem KO:tR []:=λp hp=>by cases hp
theorem WK:xu 0=true:=rfl
theorem Ot(ks:List Int)(a d:Int)(h:ks.length<=12):uk (ks,a,d,0,())=(ks.all sE && (xu a && xu d)):=by
 have e:uk (ks,a,d,0,())=(decide (ks.length<=12) && (ks.all sE && (xu a && (xu d && true)))):=rfl
 rw[e,aY h,ez,Bool.and_true]
def Np(b:oV)(sg:List Sg)(s:Int)(m:List Int)(height age:Int):Int:=
 if height < b.2.1\/age < b.2.2.1 then 11
 else if b.2.2.2.1≠0/\fN s≠b.2.2.2.1 then 23
 else if sg.length≠b.1.length then 7
 else if qo m b.1 sg then 0 else 7
theorem Pg{l:Lk}{i:Nat}{b:oV}(jU:lN l=true)(hi:i < l.1.length)(hb:l.1[i]=b)(sg:List Sg)(s:Int)(m:List Int)(h a:Int):qv l ((i:Int),sg,s,()) m h a=Np b sg s m h a:=by
 have n1:nth (.pair (.slice (.int .u64)) (.pair (.int .i64) (.pair (.int .i64) (.pair (.int .u64) .unit)))) l.1 i=l.1[i]:=dz (t:=(.pair (.slice (.int .u64)) (.pair (.int .i64) (.pair (.int .i64) (.pair (.int .u64) .unit))))) hi
 unfold qv
 rw[if_neg (by
  intro hh
  rcases hh with hh | hh | hh
  ·rw[jU]at hh;cases hh
  ·have hh:(i:Int) < 0:=hh
   omega
  ·have hh:(i:Int)>=l.1.length:=hh
   omega)]
 show(if h < (nth (.pair (.slice (.int .u64)) (.pair (.int .i64) (.pair (.int .i64) (.pair (.int .u64) .unit)))) l.1 i).2.1\/a < (nth (.pair (.slice (.int .u64)) (.pair (.int .i64) (.pair (.int .i64) (.pair (.int .u64) .unit)))) l.1 i).2.2.1 then 11 else if(nth (.pair (.slice (.int .u64)) (.pair (.int .i64) (.pair (.int .i64) (.pair (.int .u64) .unit)))) l.1 i).2.2.2.1≠0/\fN s≠(nth (.pair (.slice (.int .u64)) (.pair (.int .i64) (.pair (.int .i64) (.pair (.int .u64) .unit)))) l.1 i).2.2.2.1 then 23 else if sg.length≠(nth (.pair (.slice (.int .u64)) (.pair (.int .i64) (.pair (.int .i64) (.pair (.int .u64) .unit)))) l.1 i).1.length then 7 else if qo m (nth (.pair (.slice (.int .u64)) (.pair (.int .i64) (.pair (.int .i64) (.pair (.int .u64) .unit)))) l.1 i).1 sg then 0 else 7)=_
 rw[n1,hb]
 rfl
theorem Cq(m:List Int):∀ks:List Int,(∀k∈ks,0 < k/\k < 2305843009213688669)->qo m (ks.map fN) (ks.map λk=>kK k m)=true
 |[],_=>rfl
 |k::ks,h=>by
  have hk:=h k aH
  show(qZ (fN k) m 1 (kK k m) && qo m (ks.map fN) (ks.map λk=>kK k m))=true
  rw[Pv k m hk.1 hk.2,Cq m ks λx hx=>h x (aF _ hx)]
  rfl
theorem EW(ks:List Int)(hk:∀k∈ks,0 < k/\k < 2305843009213688669)(af dl sc s:Int)(m:List Int)(h a:Int)(hs:sc=0\/fN s=sc):
  Np (ks.map fN,af,dl,sc,()) (ks.map λk=>kK k m) s m h a=if h < af\/a < dl then 11 else 0:=by
 have e:Np (ks.map fN,af,dl,sc,()) (ks.map λk=>kK k m) s m h a=if h < af\/a < dl then 11 else if sc≠0/\fN s≠sc then 23 else if(ks.map λk=>kK k m).length≠(ks.map fN).length then 7 else if qo m (ks.map fN) (ks.map λk=>kK k m) then 0 else 7:=rfl
 rw[e,Cq m ks hk,if_neg (c:=sc≠0/\fN s≠sc) (by rintro⟨h1,h2⟩;exact hs.elim h1 h2),if_neg (c:=(ks.map λk=>kK k m).length≠(ks.map fN).length) (by rw[cK,cK];exact λx=>x rfl)]
 rfl
theorem Uw{k:Int}(h:0 < k/\k < 2305843009213688669):∀x∈ [k],0 < x/\x < 2305843009213688669:=λx hx=>by rw[bI]at hx;subst hx;exact h
def z32:List Int:=List.replicate 32 0
def XB:Lk:=QB [fN 7]
def Yo:eZ:=([((z32,((0:Int),())),(((0:Int),(([]:List Sg),((0:Int),()))),()))],([((90:Int),(XB,()))],((0:Int),())))
def Xz:At:=[tW 0 ((100:Int),(XB,()))]
theorem W0:¬lW Yo=z32:=by decide+kernel
theorem b7:mq (fN 7):=Jg 7
theorem n14(m:List Int)(hm:¬m=z32):dG b8 (m,((0:Int),())) Xz=none:=by
 unfold Xz tW
 rw[iN,if_neg,sQ]
 intro e
 have:=(yt _ _).1 e
 exact hm (congrArg (λo:cd=>o.1) this)
theorem FP{o:cd}{c:dP}:so [o] [(o,c)]=[]:=by
 show kf b8 o [(o,c)]=[]
 rw[tz]
 exact if_pos ((yt _ _).2 rfl)
theorem Kw{o:cd}{c:dP}{a:At}(hg:dG b8 o a=some c):tY a [o]=[(o,(c,()))]:=by
 simp only[tY,hg,dW]
structure sG(m n:Nat)(a:At)(s:List cn):Prop where
 wG:Fh a
 le:n<=s.length
 len:s.length<=m
 Vx:∀st∈s,Hy st
 sum:kI a<=1125899906842624
 U6:a.length<=256+64*m
theorem sG.mono{m m' n:Nat}{a:At}{s:List cn}(h:sG m n a s)(hm:m<=m'):sG m' n a s:=⟨h.wG,h.le,j6 h.len hm,h.Vx,h.sum,by have:=h.U6;omega⟩
theorem Ft{a:At}(h:∀p∈a,0<=p.2.1.1):0<=kI a:=by
 induction a with
 |nil=>exact kS 0
 |cons p a ih=>
  rw[lE]
  have:=h p aH
  have:=ih λq hq=>h q (aF _ hq)
  omega
theorem Fh.pos{a:At}(h:Fh a):0<=kI a:=Ft λp hp=>(h.2 p hp).2.2.2.1
theorem Dr:∀(l:List cd) (a:At),(tY a l).length=l.length
 |[],_=>rfl
 |o::l,a=>by rw[tY,aB,aB,Dr l]
theorem NO{t:eZ}{h lY:Int}{a:At}(hc:qb t h a lY):Hy (stepOf t a):=by
 have h1:=(kk hc.ok).1
 have h2:=pb hc.ok
 have h3:=A3 hc.ok
 unfold Hy stepOf
 rw[Dr]
 exact⟨by omega,by show(iq t).length<=1000;omega⟩
section
variable {m n:Nat} {t:eZ} {h:Int} {a:At} {s:List cn}
theorem sG.app(hg:sG m n a s)(hc:qb t h a (e7 t h a).1)(hv:rK t):sG (m+1) (n+1) (jV t h a) (s.take n++ [stepOf t a]):=by
 have hl:=hg.le
 have hm:=hg.len
 have hs:=hc.sum hg.wG.1
 have hp:=hc.pos
 have h1:=(kk hc.ok).1
 have e:(s.take n).length=n:=by rw[bQ];omega
 refine⟨hc.wG hg.wG hv,by rw[ae,e];exact aw _,by rw[ae,e];show n+1<=_;omega,λst lZ=> ?_,?_,?_⟩
 ·rcases bt.1 lZ with lZ | lZ
  ·exact hg.Vx st (iZ lZ)
  ·rw[bI.1 lZ];exact NO hc
 ·have:=hg.sum;omega
 ·have:=hg.U6;omega
theorem sG.apply(hg:sG m n a s)(hm:m<=1000)(hv:rK t):((e7 t h a).2≠0/\aN.call (t,h,n,a,s)=some (.inl ((e7 t h a).2,n,a,s)))\/
  (qb t h a (e7 t h a).1/\(e7 t h a).2=0/\aN.call (t,h,n,a,s)=some (.inr (0,n+1,jV t h a,s.take n++ [stepOf t a]))/\sG (m+1) (n+1) (jV t h a) (s.take n++ [stepOf t a])):=by
 have hr:=aN.run (d:=(t,h,n,a,s)) ⟨hv,hg.wG,hg.le,by have:=hg.len;show s.length<=_;omega⟩
 by_cases he:(e7 t h a).2=0
 ·right
  refine⟨Ei he,he,?_,hg.app (Ei he) hv⟩
  rw[hr]
  simp only[aN.add,aN.F,he,ne_eq,not_true_eq_false,if_false]
 ·left
  refine⟨he,?_⟩
  rw[hr]
  simp only[aN.add,aN.F,ne_eq,he,not_false_eq_true,if_true]
theorem sG.check(hg:sG m n a s)(hv:rK t):aG.call (t,h,n,a,s)=some ((e7 t h a).1,(e7 t h a).2,n,a,s):=aG.run (d:=(t,h,n,a,s)) ⟨hv,hg.wG⟩
def VJ(a:At):List cd:=zW (t:=b8) FI (mK a)
theorem sG.all(hg:sG m n a s)(hm:m<=1000):gz.call (n,a,s)=some (a.length,n,a,s,VJ a):=gz.run (d:=(n,a,s)) ⟨by have:=hg.U6;show a.length<=_;omega,λp hp=>(hg.wG.2 p hp).1⟩
theorem sG.total(hg:sG m n a s):dV.call (n,a,s)=some (kI a,n,a,s):=dV.run (d:=(n,a,s)) ⟨λp hp=>(hg.wG.2 p hp).2.2.2.1,by have:=hg.sum;show kI a<=_;omega⟩
theorem sG.get(hg:sG m n a s)(o:cd):nN.call (o,n,a,s)=some ((n,a,s),((dG b8 o a).getD Hp,(dG b8 o a).isSome)):=nN.run (d:=(o,n,a,s)) hg.wG
theorem sG.copy(hg:sG m n a s)(hm:m<=1000):df.call (n,a,s)=some (n,a,s,(s.take n).length,iM a,s.take n):=df.run (d:=(n,a,s)) ⟨hg.le,by have:=hg.len;show s.length<=_;omega,hg.wG.1⟩
theorem Fh.perm{a':At}(h:Fh a)(hp:a.Perm a'):Fh a':=⟨(hp.map _).nodup_iff.1 h.1,λp hm=>h.2 p (hp.mem_iff.2 hm)⟩
theorem sG.canon(hg:sG m n a s):sG m n (iM a) (s.take n)/\(s.take n).length=n:=by
 have hp:=rT a
 have e:(s.take n).length=n:=by rw[bQ];have:=hg.le;omega
 exact⟨⟨hg.wG.perm hp.symm,by omega,by have:=hg.le;have:=hg.len;omega,λst lZ=>hg.Vx st (iZ lZ),by rw[yr hp];exact hg.sum,by rw[hp.length_eq];exact hg.U6⟩,e⟩
end
end Go.Ab
namespace Go.Ab
open Go.Proofs
def Hq(v o:cd):Bool:=Ty.beq b8 v o
def Au(b:eN)(x:kC):Bool:=b.2.2.2.2.1.any (Hq x.1)
def Kc(b:eN)(t:eZ):Bool:=t.1.any (Au b)
abbrev cm.L0.D:=(List cd)×cd×Int×Int
def cm.L0.st:cm.L0.D->AS:=λ(ky,S4,t7,t8)=>⟨([.d (.slice b8) ky,.undef,.undef,.eD b8 S4,.undef,.undef,.undef,.d ti t7,.d ti t8]++aT 10 []),[],(List.replicate 19 [])⟩
abbrev cm.L0.Y0:=Int
abbrev cm.L0.X0:=Int
def cm.L0.eG:cm.L0.X0->Exit×AS:=λx=>(.ret,⟨(aT 4 ([.d ti x]++aT 14 [])),[],(List.replicate 19 [])⟩)
abbrev cm.L0.Y1:=Unit
abbrev cm.L0.X1:=Unit
def cm.L0.gZ:cm.L0.X1->Exit×AS:=λx=>(.exit 0,⟨(aT 19 []),[],(List.replicate 19 [])⟩)
abbrev cm.L0.X:=(cm.L0.X0)⊕(cm.L0.X1)
abbrev cm.L0.Y:=(cm.L0.Y0)⊕(cm.L0.Y1)
def cm.L0.out:cm.L0.X->Out (Exit×AS):=λx=> .br x.isLeft (.get x.getLeft? λa=> .ok (cm.L0.eG a)) (.get x.getRight? λb=> .ok (cm.L0.gZ b))
def cm.L0.add:cm.L0.D->cm.L0.Y->cm.L0.X:=λ(ky,S4,t7,t8) y=>match y with | .inl y=> .inl y | .inr z=> .inr (z)
abbrev cm.D:=(List cd)×cd
abbrev cm.Y:=Int
def cm.L0.aM:cm.L0.D->Prop:=λ(l,v,n,i)=>l.length<=1000000000/\(True)/\n=l.length/\∃k:Nat,k<=l.length/\i=k
def cm.L0.F:cm.L0.D->cm.L0.Y:=λ(l,v,n,i)=>uK (Hq v) (l.drop i.toNat) i
def cm.aM:cm.D->Prop:=λ(l,v)=>l.length<=1000000000/\(True)
def cm.F:cm.D->cm.Y:=λ(l,v)=>Gc (Hq v) l
def cm.L0.E:=eE.iR cm.L0.st cm.L0.aM cm.L0.add cm.L0.F cm.L0.out
def cm.L0.call:cm.L0.D->Option cm.L0.X:=j9 cm.L0.E cm.L0.st
def cm:Fs Tryz.prog cm.aM bP cm.F:=gC 181 Tryz.f181 (λ(sv,v)=>([.d (.slice b8) sv,.d b8 v],[])) (λx=>⟨.d ti x,[],[]⟩) [some (.slice b8),some b8] [] {loops:=pz [(2,{bo:=[0,3,7,8]})],outs:=py [(2,{},{bo:=[4]})],iX:=qg [(2,cm.L0.E)]}
def cm.L0.R:= @gN Tryz.prog (oo cm.G) cm.an 0 Tryz.f181 0 _ cm.L0.st
abbrev cm.L0.Ok:=mS Tryz.prog (oo cm.G) cm.an 0 Tryz.f181 0 cm.L0.st cm.L0.aM cm.L0.add cm.L0.F cm.L0.out
theorem cm.L0.run:kF cm.L0.call cm.L0.aM cm.L0.add cm.L0.F:=oU (oR [.d (.slice b8),.d b8,.d ti,.d ti] λ_=>by kernel_rfl)
theorem cm.L0.cM:qa @cm.L0.R cm.L0.st cm.L0.aM cm.L0.add cm.L0.F cm.L0.out cm.L0.Ok:=qD
theorem cm.L0.step{R:Type}(ky:(List cd))(S4:cd)(t7:Int)(t8:Int)(kn:AS->Option R)(kx:Exit->AS->Option R):cm.L0.R (ky,S4,t7,t8) kn kx=
  aP ((jx t8 t7)) (
   aP (jn t8 (((List.length ky):Nat):Int)) (
   aP ((Ty.beq b8 S4 (nth b8 ky (Int.toNat t8)))) (
    kx (cm.L0.eG t8).1 (cm.L0.eG t8).2) (
    kn (cm.L0.st (ky,S4,t7,(cG .i64 t8 (1:Int)))))) none) (
   kx (cm.L0.gZ ()).1 (cm.L0.gZ ()).2):=by kernel_rfl
theorem cm.eq{R:Type}(sv v)(k:K1 R):cm.A (sv,v) k=
  ah (cm.L0.call (sv,v,(sv.length:Int),0)) λx1=>
  aP (x1.isLeft) (
   ah (x1.getLeft?) λa2=>
   k (cm.out a2)) (
   ah (x1.getRight?) λb3=>
   k (cm.out (-1))):=by kernel_rfl
theorem cm.L0.ok:cm.L0.Ok:=by
 refine cm.L0.cM (λ(l,v,n,i)=>l.length - i.toNat) ?_
 rintro⟨l,v,n,i⟩ ⟨hb,hv,rfl,k,hk,rfl⟩
 have hb:l.length<=1000000000:=hb
 have hk:k<=l.length:=hk
 by_cases h:k < l.length
 ·have n1:nth b8 l k=l[k]:=dz (t:=b8) h
  have hd:uK (Hq v) (l.drop k) k=if Hq v l[k] then .inl (k:Int) else uK (Hq v) (l.drop (k+1)) ((k+1:Nat):Int):=by rw[ax h];rfl
  have step:∀ {R:Type} (kn:AS->Option R) (kx:Exit->AS->Option R),cm.L0.R (l,v,(l.length:Int),(k:Int)) kn kx=aP (Hq v l[k]) (kx (cm.L0.eG (k:Int)).1 (cm.L0.eG (k:Int)).2) (kn (cm.L0.st (l,v,(l.length:Int),((k+1:Nat):Int)))):=by
   intro R kn kx
   rw[cm.L0.step,bg (by omega),bG (by omega) (by omega),aa,n1,N.p9 (by omega)]
   rfl
  cases hp:Hq v l[k]
  ·left
   refine⟨(l,v,l.length,((k+1:Nat):Int)),⟨hb,hv,rfl,k+1,by omega,rfl⟩,by simp only[aa];omega,?_,λkn kx=> ?_⟩
   ·simp only[cm.L0.add,cm.L0.F,aa,hd,hp,cv,if_false]
   ·rw[step,hp,al]
  ·right
   refine⟨cm.L0.eG (k:Int),?_,λkn kx=> ?_⟩
   ·simp only[cm.L0.add,cm.L0.F,aa,hd,hp,if_true]
    rfl
   ·rw[step,hp,ag]
 ·right
  obtain rfl:k=l.length:=by omega
  refine⟨cm.L0.gZ (),?_,λkn kx=> ?_⟩
  ·simp only[cm.L0.add,cm.L0.F,aa,aZ]
   rfl
  ·rw[cm.L0.step,aX (by omega),al]
theorem cm.ok:cm.Ok:=by
 rintro⟨l,v⟩ ⟨hb,hv⟩
 rw[cm.eq,cm.L0.run (d:=(l,v,l.length,0)) ⟨hb,hv,rfl,0,by omega,rfl⟩]
 simp only[ab,cm.L0.add,cm.L0.F,bN,aJ,bP,cm.F,Gc]
 cases uK (Hq v) l 0 <;> rfl
theorem cm.run:cm.RS:=rE [.d (.slice b8),.d b8] cm
def cm.sg:=cm.gG cm.ok 1 ⟨.iR cm.L0.ok,trivial⟩
abbrev ku.D:=(List cd)×cd
abbrev ku.Y:=Bool
def ku.aM:ku.D->Prop:=λ(l,_)=>l.length<=1000000000
def ku.F:ku.D->ku.Y:=λ(l,v)=>l.any (Hq v)
def ku:Fs Tryz.prog ku.aM bP ku.F:=gC 125 Tryz.f125 (λ(sv,v)=>([.d (.slice b8) sv,.d b8 v],[])) (λx=>⟨.d .bool x,[],[]⟩) [some (.slice b8),some b8] [cm.sg]
theorem ku.eq{R:Type}(sv v)(k:K1 R):ku.A (sv,v) k=
 ah (cm.call (sv,v)) λx1=>
 k (ku.out (tZ x1 0)):=by kernel_rfl
theorem ku.ok:ku.Ok:=by
 rintro⟨l,v⟩ hb
 rw[ku.eq,cm.run (d:=(l,v)) ⟨hb,trivial⟩]
 simp only[ab,bP,cm.F,AX]
 rfl
theorem ku.run:ku.RS:=rE [.d (.slice b8),.d b8] ku
def ku.sg:=ku.gG ku.ok
abbrev lQ.D:=kC×eN
abbrev lQ.Y:=Bool
def lQ.aM:lQ.D->Prop:=λ(_,b)=>b.2.2.2.2.1.length<=1000
def lQ.F:lQ.D->lQ.Y:=λ(x,b)=>Au b x
def lQ:Fs Tryz.prog lQ.aM bP lQ.F:=gC 253 Tryz.f253 (λ(x,t1)=>([.d jo x,.eD fh t1],[])) (λx=>⟨.d .bool x,[],[]⟩) [some jo,none] [ku.sg]
theorem lQ.eq{R:Type}(x t1)(k:K1 R):lQ.A (x,t1) k=
 ah (ku.call (t1.2.2.2.2.1,x.1)) λx1=>
 k (lQ.out x1):=by kernel_rfl
theorem lQ.ok:lQ.Ok:=by
 rintro⟨x,b⟩ hb
 have hb:b.2.2.2.2.1.length<=1000:=hb
 rw[lQ.eq,ku.run (d:=(b.2.2.2.2.1,x.1)) (by show b.2.2.2.2.1.length<=_;omega)]
 rfl
theorem lQ.run:lQ.RS:=rE [.d jo,.d fh] lQ
def lQ.sg:=lQ.gG lQ.ok
abbrev ck.L0.D:=(List kC)×eN×Int×Int
def ck.L0.st:ck.L0.D->AS:=λ(ky,f,t7,t8)=>⟨([.d (.slice jo) ky,.fn 253 (.cons (.eD fh f) (.nil))]++aT 5 ([.d ti t7,.d ti t8]++aT 10 [])),[],(List.replicate 19 [])⟩
abbrev ck.L0.Y0:=Int
abbrev ck.L0.X0:=Int
def ck.L0.eG:ck.L0.X0->Exit×AS:=λx=>(.ret,⟨(aT 4 ([.d ti x]++aT 14 [])),[],(List.replicate 19 [])⟩)
abbrev ck.L0.Y1:=Unit
abbrev ck.L0.X1:=Unit
def ck.L0.gZ:ck.L0.X1->Exit×AS:=λx=>(.exit 0,⟨(aT 19 []),[],(List.replicate 19 [])⟩)
abbrev ck.L0.X:=(ck.L0.X0)⊕(ck.L0.X1)
abbrev ck.L0.Y:=(ck.L0.Y0)⊕(ck.L0.Y1)
def ck.L0.out:ck.L0.X->Out (Exit×AS):=λx=> .br x.isLeft (.get x.getLeft? λa=> .ok (ck.L0.eG a)) (.get x.getRight? λb=> .ok (ck.L0.gZ b))
def ck.L0.add:ck.L0.D->ck.L0.Y->ck.L0.X:=λ(ky,f,t7,t8) y=>match y with | .inl y=> .inl y | .inr z=> .inr (z)
abbrev ck.D:=(List kC)×eN
abbrev ck.Y:=Int
def ck.L0.aM:ck.L0.D->Prop:=λ(l,v,n,i)=>l.length<=1000000000/\(v.2.2.2.2.1.length<=1000)/\n=l.length/\∃k:Nat,k<=l.length/\i=k
def ck.L0.F:ck.L0.D->ck.L0.Y:=λ(l,v,n,i)=>uK (Au v) (l.drop i.toNat) i
def ck.aM:ck.D->Prop:=λ(l,v)=>l.length<=1000000000/\(v.2.2.2.2.1.length<=1000)
def ck.F:ck.D->ck.Y:=λ(l,v)=>Gc (Au v) l
def ck.L0.E:=eE.iR ck.L0.st ck.L0.aM ck.L0.add ck.L0.F ck.L0.out
def ck.L0.call:ck.L0.D->Option ck.L0.X:=j9 ck.L0.E ck.L0.st
def ck:Fs Tryz.prog ck.aM bP ck.F:=gC 234 Tryz.f234 (λ(sv,fc)=>([.d (.slice jo) sv,.fn 253 (.cons (.eD fh fc) (.nil))],[])) (λx=>⟨.d ti x,[],[]⟩) [some (.slice jo),none] [lQ.sg] {loops:=pz [(2,{bo:=[0,1,7,8]})],outs:=py [(2,{},{bo:=[4]})],iX:=qg [(2,ck.L0.E)]}
def ck.L0.R:= @gN Tryz.prog (oo ck.G) ck.an 0 Tryz.f234 0 _ ck.L0.st
abbrev ck.L0.Ok:=mS Tryz.prog (oo ck.G) ck.an 0 Tryz.f234 0 ck.L0.st ck.L0.aM ck.L0.add ck.L0.F ck.L0.out
theorem ck.L0.run:kF ck.L0.call ck.L0.aM ck.L0.add ck.L0.F:=oU (oR [.d (.slice jo),.d fh,.d ti,.d ti] λ_=>by kernel_rfl)
theorem ck.L0.cM:qa @ck.L0.R ck.L0.st ck.L0.aM ck.L0.add ck.L0.F ck.L0.out ck.L0.Ok:=qD
theorem ck.L0.step{R:Type}(ky:(List kC))(f:eN)(t7:Int)(t8:Int)(kn:AS->Option R)(kx:Exit->AS->Option R):ck.L0.R (ky,f,t7,t8) kn kx=
  aP ((jx t8 t7)) (
   aP (jn t8 (((List.length ky):Nat):Int)) (
   ah (lQ.call ((nth jo ky (Int.toNat t8)),f)) λx1=>
   aP (x1) (
    kx (ck.L0.eG t8).1 (ck.L0.eG t8).2) (
    kn (ck.L0.st (ky,f,t7,(cG .i64 t8 (1:Int)))))) none) (
   kx (ck.L0.gZ ()).1 (ck.L0.gZ ()).2):=by kernel_rfl
theorem ck.eq{R:Type}(sv fc)(k:K1 R):ck.A (sv,fc) k=
  ah (ck.L0.call (sv,fc,(sv.length:Int),0)) λx2=>
  aP (x2.isLeft) (
   ah (x2.getLeft?) λa3=>
   k (ck.out a3)) (
   ah (x2.getRight?) λb4=>
   k (ck.out (-1))):=by kernel_rfl
theorem ck.L0.ok:ck.L0.Ok:=by
 refine ck.L0.cM (λ(l,v,n,i)=>l.length - i.toNat) ?_
 rintro⟨l,v,n,i⟩ ⟨hb,hv,rfl,k,hk,rfl⟩
 have hb:l.length<=1000000000:=hb
 have hk:k<=l.length:=hk
 by_cases h:k < l.length
 ·have n1:nth jo l k=l[k]:=dz (t:=jo) h
  have hd:uK (Au v) (l.drop k) k=if Au v l[k] then .inl (k:Int) else uK (Au v) (l.drop (k+1)) ((k+1:Nat):Int):=by rw[ax h];rfl
  have step:∀ {R:Type} (kn:AS->Option R) (kx:Exit->AS->Option R),ck.L0.R (l,v,(l.length:Int),(k:Int)) kn kx=aP (Au v l[k]) (kx (ck.L0.eG (k:Int)).1 (ck.L0.eG (k:Int)).2) (kn (ck.L0.st (l,v,(l.length:Int),((k+1:Nat):Int)))):=by
   intro R kn kx
   rw[ck.L0.step,bg (by omega),bG (by omega) (by omega),aa,n1,lQ.run (d:=(l[k],v)) hv,N.p9 (by omega)]
   rfl
  cases hp:Au v l[k]
  ·left
   refine⟨(l,v,l.length,((k+1:Nat):Int)),⟨hb,hv,rfl,k+1,by omega,rfl⟩,by simp only[aa];omega,?_,λkn kx=> ?_⟩
   ·simp only[ck.L0.add,ck.L0.F,aa,hd,hp,cv,if_false]
   ·rw[step,hp,al]
  ·right
   refine⟨ck.L0.eG (k:Int),?_,λkn kx=> ?_⟩
   ·simp only[ck.L0.add,ck.L0.F,aa,hd,hp,if_true]
    rfl
   ·rw[step,hp,ag]
 ·right
  obtain rfl:k=l.length:=by omega
  refine⟨ck.L0.gZ (),?_,λkn kx=> ?_⟩
  ·simp only[ck.L0.add,ck.L0.F,aa,aZ]
   rfl
  ·rw[ck.L0.step,aX (by omega),al]
theorem ck.ok:ck.Ok:=by
 rintro⟨l,v⟩ ⟨hb,hv⟩
 rw[ck.eq,ck.L0.run (d:=(l,v,l.length,0)) ⟨hb,hv,rfl,0,by omega,rfl⟩]
 simp only[ab,ck.L0.add,ck.L0.F,bN,aJ,bP,ck.F,Gc]
 cases uK (Au v) l 0 <;> rfl
theorem ck.run:ck.RS:=rE [.d (.slice jo),.d fh] ck
def ck.sg:=ck.gG ck.ok 1 ⟨.iR ck.L0.ok,trivial⟩
abbrev lT.D:=(List kC)×eN
abbrev lT.Y:=Bool
def lT.aM:lT.D->Prop:=λ(l,b)=>l.length<=1000000000/\b.2.2.2.2.1.length<=1000
def lT.F:lT.D->lT.Y:=λ(l,b)=>l.any (Au b)
def lT:Fs Tryz.prog lT.aM bP lT.F:=gC 171 Tryz.f171 (λ(sv,fc)=>([.d (.slice jo) sv,.fn 253 (.cons (.eD fh fc) (.nil))],[])) (λx=>⟨.d .bool x,[],[]⟩) [some (.slice jo),none] [ck.sg]
theorem lT.eq{R:Type}(sv fc)(k:K1 R):lT.A (sv,fc) k=
 ah (ck.call (sv,fc)) λx1=>
 k (lT.out (tZ x1 0)):=by kernel_rfl
theorem lT.ok:lT.Ok:=by
 rintro⟨l,v⟩ ⟨hb,hv⟩
 rw[lT.eq,ck.run (d:=(l,v)) ⟨hb,hv⟩]
 simp only[ab,bP,ck.F,AX]
 rfl
theorem lT.run:lT.RS:=rE [.d (.slice jo),.d fh] lT
def lT.sg:=lT.gG lT.ok
abbrev iL.D:=eZ×eN
abbrev iL.Y:=Bool
def iL.aM:iL.D->Prop:=λ(t,b)=>rK t/\t.1.length<=1000000000/\b.2.2.2.2.1.length<=1000
def iL.F:iL.D->iL.Y:=λ(t,b)=>Kc b t
def iL:Fs Tryz.prog iL.aM bP iL.F:=gC 252 Tryz.f252 (λ(t,t1)=>([.d gU t,.eD fh t1],[])) (λx=>⟨.d .bool x,[],[]⟩) [some gU,none] [lT.sg]
theorem iL.eq{R:Type}(t t1)(k:K1 R):iL.A (t,t1) k=
 ah (lT.call (t.1,t1)) λx1=>
 k (iL.out x1):=by kernel_rfl
theorem iL.ok:iL.Ok:=by
 rintro⟨t,b⟩ ⟨_,hl,hb⟩
 rw[iL.eq,lT.run (d:=(t.1,b)) ⟨hl,hb⟩]
 rfl
theorem iL.run:iL.RS:=rE [.d gU,.d fh] iL
def iL.sg:=iL.gG iL.ok
abbrev bq.L0.D:=(List eZ)×Int×eN×Int×(List eZ)×Int×Int×Nat×(List (cd×dP))×(List cn)×Nat×(List (cd×dP))×(List cn)
def bq.L0.st:bq.L0.D->AS:=λ(yo,fD,endv,fees,t18,t19,t20,o0L,eQ,eA,Nb,n17,Gx)=>⟨([.undef,.d (.slice gU) yo,.d ti fD,.fn 252 (.cons (.eD fh endv) (.nil))]++aT 5 ([.d ti fees,.undef,.ptr (.new 17 0) 0 [] 0]++aT 6 ([.d (.slice gU) t18,.d ti t19,.d ti t20]++aT 32 []))),[.obj 0 false (.pr (.db (.aV 1) 0) (.pr (.aS (.aV 2) 0 [] 0 0 o0L) (.d .unit ()))),.obj 0 false (.mp b8 eR eQ),.obj 0 false (.vec 161 cE eA)],(ct 17 ([[.obj 0 false (.pr (.db (.new 17 1) 0) (.pr (.aS (.new 17 2) 0 [] 0 0 Nb) (.d .unit ()))),.obj 0 false (.mp b8 eR n17),.obj 0 false (.vec 161 cE Gx)]]++ct 35 []))⟩
abbrev bq.L0.Y0:=Int×Int×Int
abbrev bq.L0.X0:=(Nat×(List (cd×dP))×(List cn))×(Int×Int×Int)
def bq.L0.eG:bq.L0.X0->Exit×AS:=λx=>(.ret,⟨(aT 8 ([.d ti x.2.1,.d ti x.2.2.1,.d ti x.2.2.2]++aT 42 [])),[.obj 0 false (.pr (.db (.aV 1) 0) (.pr (.aS (.aV 2) 0 [] 0 0 x.1.1) (.d .unit ()))),.obj 0 false (.mp b8 eR x.1.2.1),.obj 0 false (.vec 161 cE x.1.2.2)],(List.replicate 53 [])⟩)
abbrev bq.L0.Y1:=Int
abbrev bq.L0.X1:=((List eZ)×Nat×(List (cd×dP))×(List cn))×(Int)
def bq.L0.gZ:bq.L0.X1->Exit×AS:=λx=>(.exit 0,⟨([.undef,.d (.slice gU) x.1.1]++aT 7 ([.d ti x.2]++aT 43 [])),[.obj 0 false (.pr (.db (.aV 1) 0) (.pr (.aS (.aV 2) 0 [] 0 0 x.1.2.1) (.d .unit ()))),.obj 0 false (.mp b8 eR x.1.2.2.1),.obj 0 false (.vec 161 cE x.1.2.2.2)],(List.replicate 53 [])⟩)
abbrev bq.L0.X:=(bq.L0.X0)⊕(bq.L0.X1)
abbrev bq.L0.Y:=(bq.L0.Y0)⊕(bq.L0.Y1)
def bq.L0.out:bq.L0.X->Out (Exit×AS):=λx=> .br x.isLeft (.get x.getLeft? λa=> .ok (bq.L0.eG a)) (.get x.getRight? λb=> .ok (bq.L0.gZ b))
def bq.L0.add:bq.L0.D->bq.L0.Y->bq.L0.X:=λ(yo,fD,endv,fees,t18,t19,t20,o0L,eQ,eA,Nb,n17,Gx) y=>match y with | .inl y=> .inl ((o0L,eQ,eA),y) | .inr z=> .inr (((yo,o0L,eQ,eA),z))
abbrev bq.D:=(List eZ)×Int×eN×Nat×(List (cd×dP))×(List cn)
abbrev bq.Y:=Int×Int×Int×Nat×(List (cd×dP))×(List cn)
def wh(b:eN)(h:Int):List eZ->Int->Int->At->(Int×Int×Int)⊕Int
 |[],_,fees,_=> .inr fees
 |t::l,k,fees,a=>if Kc b t then .inl (k,fees,14) else if(e7 t h a).2≠0 then .inl (k,fees,(e7 t h a).2) else wh b h l (k+1) (fees+(e7 t h a).1) (jV t h a)
def L8(l:List eZ)(b:eN):Prop:=l.length<=100/\(∀t∈l,rK t/\t.1.length<=1000000)/\b.2.2.2.2.1.length<=1000
def bq.L0.aM:bq.L0.D->Prop:=λ(_,_,b,fees,l,n',i,_,_,_,n,a,s)=>L8 l b/\n'=(l.length:Int)/\∃k:Nat,k<=l.length/\i=k/\sG (500+k) n a s/\0<=fees/\fees+kI a<=1125899906842624
def bq.L0.F:bq.L0.D->bq.L0.Y:=λ(_,h,b,fees,l,_,i,_,_,_,_,a,_)=>wh b h (l.drop i.toNat) i fees a
def Cr(b:eN)(h:Int)(l:List eZ)(a:At):Int×Int×Int:=match wh b h l 0 0 (iM a) with
 | .inl x=>x
 | .inr f=>((l.length:Int),f,0)
def bq.aM:bq.D->Prop:=λ(l,_,b,n,a,s)=>L8 l b/\sG 500 n a s
def bq.F:bq.D->bq.Y:=λ(l,h,b,n,a,s)=>((Cr b h l a).1,(Cr b h l a).2.1,(Cr b h l a).2.2,n,a,s)
def bq.L0.E:=eE.iR bq.L0.st bq.L0.aM bq.L0.add bq.L0.F bq.L0.out
def bq.L0.call:bq.L0.D->Option bq.L0.X:=j9 bq.L0.E bq.L0.st
def bq:Fs Tryz.prog bq.aM bP bq.F:=gC 254 Tryz.f254 (λ(l,height,endc,o0baL,o1,o2)=>([.ptr (.aV 0) 0 [] 0,.d (.slice gU) l,.d ti height,.fn 252 (.cons (.eD fh endc) (.nil))],[.obj 0 false (.pr (.db (.aV 1) 0) (.pr (.aS (.aV 2) 0 [] 0 0 o0baL) (.d .unit ()))),.obj 0 false (.mp b8 eR o1),.obj 0 false (.vec 161 cE o2)])) (λx=>⟨.cons (.d ti x.1) (.cons (.d ti x.2.1) (.cons (.d ti x.2.2.1) (.nil))),[.obj 0 false (.pr (.db (.aV 1) 0) (.pr (.aS (.aV 2) 0 [] 0 0 x.2.2.2.1) (.d .unit ()))),.obj 0 false (.mp b8 eR x.2.2.2.2.1),.obj 0 false (.vec 161 cE x.2.2.2.2.2)],[]⟩) [none,some (.slice gU),some ti,none] [df.sg,iL.sg,aG.sg,aN.sg] {loops:=pz [(3,{bo:=[1,2,3,9,11,18,19,20],sites:=[17],owns:=[⟨11,[.snd,.fst],17,68⟩]})],outs:=py [(3,{bo:=[1,9]},{bo:=[8,9,10]})],iX:=qg [(3,bq.L0.E)]}
def bq.L0.R:= @gN Tryz.prog (oo bq.G) bq.an 0 Tryz.f254 0 _ bq.L0.st
abbrev bq.L0.Ok:=mS Tryz.prog (oo bq.G) bq.an 0 Tryz.f254 0 bq.L0.st bq.L0.aM bq.L0.add bq.L0.F bq.L0.out
theorem bq.L0.run:kF bq.L0.call bq.L0.aM bq.L0.add bq.L0.F:=oU (oR [.d (.slice gU),.d ti,.d fh,.d ti,.d (.slice gU),.d ti,.d ti,.n,.d (.slice (.pair b8 eR)),.d (.slice cE),.n,.d (.slice (.pair b8 eR)),.d (.slice cE)] λ_=>by kernel_rfl)
theorem bq.L0.cM:qa @bq.L0.R bq.L0.st bq.L0.aM bq.L0.add bq.L0.F bq.L0.out bq.L0.Ok:=qD
theorem bq.L0.step{R:Type}(yo:(List eZ))(fD:Int)(endv:eN)(fees:Int)(t18:(List eZ))(t19:Int)(t20:Int)(o0L:Nat)(eQ:(List (cd×dP)))(eA:(List cn))(Nb:Nat)(n17:(List (cd×dP)))(Gx:(List cn))(kn:AS->Option R)(kx:Exit->AS->Option R):bq.L0.R (yo,fD,endv,fees,t18,t19,t20,o0L,eQ,eA,Nb,n17,Gx) kn kx=
  aP ((jx t20 t19)) (
   aP (jn t20 (((List.length t18):Nat):Int)) (
   ah (iL.call ((nth gU t18 (Int.toNat t20)),endv)) λx1=>
   aP (x1) (
    kx (bq.L0.eG ((o0L,eQ,eA),(t20,fees,(14:Int)))).1 (bq.L0.eG ((o0L,eQ,eA),(t20,fees,(14:Int)))).2) (
    ah (aG.call ((nth gU t18 (Int.toNat t20)),fD,Nb,n17,Gx)) λx2=>
    aP ((w9 x2.2.1 (0:Int))) (
     kx (bq.L0.eG ((o0L,eQ,eA),(t20,fees,x2.2.1))).1 (bq.L0.eG ((o0L,eQ,eA),(t20,fees,x2.2.1))).2) (
     ah (aN.call ((nth gU t18 (Int.toNat t20)),fD,x2.2.2.1,x2.2.2.2.1,x2.2.2.2.2)) λx3=>
     aP (x3.isLeft) (
      ah (x3.getLeft?) λVB=>
      kn (bq.L0.st (yo,fD,endv,(cG .i64 fees x2.1),t18,t19,(cG .i64 t20 (1:Int)),o0L,eQ,eA,VB.2.1,VB.2.2.1,VB.2.2.2))) (
      ah (x3.getRight?) λSp=>
      kn (bq.L0.st (yo,fD,endv,(cG .i64 fees x2.1),t18,t19,(cG .i64 t20 (1:Int)),o0L,eQ,eA,Sp.2.1,Sp.2.2.1,Sp.2.2.2)))))) none) (
   kx (bq.L0.gZ ((yo,o0L,eQ,eA),fees)).1 (bq.L0.gZ ((yo,o0L,eQ,eA),fees)).2):=by kernel_rfl
theorem bq.eq{R:Type}(l height endc o0baL o1 o2)(k:K1 R):bq.A (l,height,endc,o0baL,o1,o2) k=
  ah (df.call (o0baL,o1,o2)) λx1=>
  ah (bq.L0.call (l,height,endc,0,l,(l.length:Int),0,x1.1,x1.2.1,x1.2.2.1,x1.2.2.2.1,x1.2.2.2.2.1,x1.2.2.2.2.2)) λx8=>
  aP (x8.isLeft) (
   ah (x8.getLeft?) λa9=>
   k (bq.out (a9.2.1,a9.2.2.1,a9.2.2.2,a9.1.1,a9.1.2.1,a9.1.2.2))) (
   ah (x8.getRight?) λb10=>
   k (bq.out ((b10.1.1.length:Int),b10.2,0,b10.1.2.1,b10.1.2.2.1,b10.1.2.2.2))):=by kernel_rfl
theorem bq.L0.ok:bq.L0.Ok:=by
 refine bq.L0.cM (λ(_,_,_,_,l,_,i,_)=>l.length - i.toNat) ?_
 rintro⟨l0,h,b,fees,l,n',i,nS,a0,s0,n,a,s⟩ ⟨⟨h1,h2,h3⟩,rfl,k,hk,rfl,hg,f0,f1⟩
 have h1:l.length<=100:=h1
 have hk:k<=l.length:=hk
 have f0:0<=fees:=f0
 have f1:fees+kI a<=1125899906842624:=f1
 have hg:sG (500+k) n a s:=hg
 by_cases iv:k < l.length
 ·have n1:nth gU l k=l[k]:=dz (t:=gU) iv
  have hd:l.drop k=l[k]::l.drop (k+1):=ax iv
  obtain⟨hv,hi⟩:=h2 _ (aL iv)
  have Q7:=iL.run (d:=(l[k],b)) ⟨hv,j6 hi (by decide),h3⟩
  by_cases hb:Kc b l[k]=true
  ·right
   refine⟨bq.L0.eG ((nS,a0,s0),((k:Int),fees,14)),?_,λkn kx=> ?_⟩
   rotate_left
   ·rw[bq.L0.step,bg (by omega),ag,bG (by omega) (by omega),ag,aa,n1,Q7]
    simp only[ab,bP,iL.F,hb,ag]
   ·simp only[bq.L0.add,bq.L0.F,aa,hd,wh,if_pos hb]
    rfl
  ·have hb':Kc b l[k]=false:=by simpa using hb
   have hc:=hg.check (t:=l[k]) (h:=h) hv
   rcases hg.apply (t:=l[k]) (h:=h) (by omega) hv with⟨he,_⟩ | ⟨V8,he,ha,hg'⟩
   ·right
    refine⟨bq.L0.eG ((nS,a0,s0),((k:Int),fees,(e7 l[k] h a).2)),?_,λkn kx=> ?_⟩
    rotate_left
    ·rw[bq.L0.step,bg (by omega),ag,bG (by omega) (by omega),ag,aa,n1,Q7]
     simp only[ab,bP,iL.F,hb',al]
     rw[hc]
     simp only[ab]
     rw[iH he,ag]
    ·simp only[bq.L0.add,bq.L0.F,aa,hd,wh,if_neg hb,if_pos he]
     rfl
   ·left
    have cg:=(V8.sum hg.wG.1).1
    have YI:0<=(e7 l[k] h a).1:=by
     obtain⟨_,_,_,f,_,_,hp,V6⟩:=yC he
     rw[V6];exact hp
    have ot:=Ft λp hp=>(hg'.wG.2 p hp).2.2.2.1
    refine⟨(l0,h,b,fees+(e7 l[k] h a).1,l,(l.length:Int),((k+1:Nat):Int),nS,a0,s0,n+1,jV l[k] h a,s.take n++ [stepOf l[k] a]),⟨⟨h1,h2,h3⟩,rfl,k+1,by omega,rfl,hg',by show(0:Int)<=fees+(e7 l[k] h a).1;omega,by show fees+(e7 l[k] h a).1+kI (jV l[k] h a)<=_;omega⟩,by simp only[aa];omega,?_,λkn kx=> ?_⟩
    ·simp only[bq.L0.add,bq.L0.F,aa,hd,wh,if_neg hb,if_neg (λe=>e he:¬(e7 l[k] h a).2≠0)]
     rfl
    ·rw[bq.L0.step,bg (by omega),ag,bG (by omega) (by omega),ag,aa,n1,Q7]
     simp only[ab,bP,iL.F,hb',al]
     rw[hc]
     simp only[ab]
     rw[ff he,al,ha]
     simp only[ab,fe,al,dX]
     rw[fX (x:=fees) (by omega) (by omega),N.p9 (by omega)]
 ·right
  obtain rfl:k=l.length:=by omega
  refine⟨bq.L0.gZ ((l0,nS,a0,s0),fees),?_,λkn kx=> ?_⟩
  rotate_left
  ·rw[bq.L0.step,aX (by omega),al]
  ·simp only[bq.L0.add,bq.L0.F,aa,aZ,wh]
   rfl
theorem bq.ok:bq.Ok:=by
 rintro⟨l,h,b,n,a,s⟩ ⟨hw,hg⟩
 have hg:sG 500 n a s:=hg
 obtain⟨hc,hl⟩:=hg.canon
 have z1:((0:Int)).toNat=0:=rfl
 rw[bq.eq,hg.copy (by omega)]
 simp only[ab]
 rw[hl,bq.L0.run (d:=(l,h,b,0,l,(l.length:Int),0,n,a,s,n,iM a,s.take n)) ⟨hw,rfl,0,aK _,rfl,hc,kS 0,by show(0:Int)+kI (iM a)<=_;have:=hc.sum;omega⟩]
 simp only[ab,bq.L0.add,bq.L0.F,z1,aJ,bP,bq.F,Cr]
 cases wh b h l 0 0 (iM a) with
 |inl x=>rfl
 |inr f=>rfl
theorem bq.run:bq.RS:=rE [.d (.slice gU),.d ti,.d fh,.n,.d (.slice (.pair b8 eR)),.d (.slice cE)] bq
def bq.sg:=bq.gG bq.ok 1 ⟨.iR bq.L0.ok,trivial⟩
abbrev iA.D:=eN×Nat×(List (cd×dP))×(List cn)
abbrev iA.Y:=Int×Int×Nat×(List (cd×dP))×(List cn)
def sa(b:eN)(a:At):Int×Int:=if uE b.1 b.2.2.2.1 then(if 4000 < SC b then(0,3) else(Cr b b.1 b.2.2.1 a).2) else(0,1)
def Hw(b:eN):Prop:=I8 b/\b.2.2.1.length<=100/\∀t∈b.2.2.1,t.1.length<=1000000
theorem Hw.walk{b:eN}(h:Hw b):L8 b.2.2.1 b:=⟨h.2.1,λt ht=>⟨h.1.1.2 t ht,h.2.2 t ht⟩,h.1.2.2.1⟩
def iA.aM:iA.D->Prop:=λ(b,n,a,s)=>Hw b/\sG 500 n a s
def iA.F:iA.D->iA.Y:=λ(b,n,a,s)=>((sa b a).1,(sa b a).2,n,a,s)
def iA:Fs Tryz.prog iA.aM bP iA.F:=gC 204 Tryz.f204 (λ(b,o0baL,o1,o2)=>([.ptr (.aV 0) 0 [] 0,.d fh b],[.obj 0 false (.pr (.db (.aV 1) 0) (.pr (.aS (.aV 2) 0 [] 0 0 o0baL) (.d .unit ()))),.obj 0 false (.mp b8 eR o1),.obj 0 false (.vec 161 cE o2)])) (λx=>⟨.cons (.d ti x.1) (.cons (.d ti x.2.1) (.nil)),[.obj 0 false (.pr (.db (.aV 1) 0) (.pr (.aS (.aV 2) 0 [] 0 0 x.2.2.1) (.d .unit ()))),.obj 0 false (.mp b8 eR x.2.2.2.1),.obj 0 false (.vec 161 cE x.2.2.2.2)],[]⟩) [none,some fh] [il.sg,oN.sg,bq.sg]
theorem iA.eq{R:Type}(b o0baL o1 o2)(k:K1 R):iA.A (b,o0baL,o1,o2) k=
  ah (il.call (b.1,b.2.2.2.1)) λx1=>
  aP ((!x1)) (
   k (iA.out (0,1,o0baL,o1,o2))) (
   aP ((uL (b.2.2.1.length:Int) 200)) (
    k (iA.out (0,3,o0baL,o1,o2))) (
    ah (oN.call b) λx2=>
    aP ((uL x2 4000)) (
     k (iA.out (0,3,o0baL,o1,o2))) (
     ah (bq.call (b.2.2.1,b.1,b,o0baL,o1,o2)) λx3=>
     k (iA.out (x3.2.1,x3.2.2.1,x3.2.2.2.1,x3.2.2.2.2.1,x3.2.2.2.2.2))))):=by kernel_rfl
theorem iA.ok:iA.Ok:=by
 rintro⟨b,n,a,s⟩ ⟨hb,hg⟩
 have hb:Hw b:=hb
 have hl:b.2.2.1.length<=100:=hb.2.1
 rw[iA.eq,il.run (d:=(b.1,b.2.2.2.1)) trivial]
 simp only[ab,bP,il.F,bP,iA.F,sa]
 cases hf:uE b.1 b.2.2.2.1 with
 |false=>rfl
 |true=>
  have PW:=hf
  simp only[uE,decide_eq_true_eq]at PW
  rw[dj,al,eC (by omega),al,oN.run (d:=b) ⟨hb.1,PW.2.2.1,by show b.2.2.2.1<=_;omega⟩]
  simp only[ab,bP,oN.F,if_true]
  by_cases hw:4000 < SC b
  ·rw[eY (by omega),ag,if_pos hw]
  ·rw[eC (by omega),al,if_neg hw,bq.run (d:=(b.2.2.1,b.1,b,n,a,s)) ⟨hb.walk,hg⟩]
   rfl
theorem iA.run:iA.RS:=rE [.d fh,.n,.d (.slice (.pair b8 eR)),.d (.slice cE)] iA
def iA.sg:=iA.gG iA.ok
abbrev lq.D:=eN×Nat×(List (cd×dP))×(List cn)
abbrev lq.Y:=Int×Nat×(List (cd×dP))×(List cn)
def lq.aM:lq.D->Prop:=λ(b,n,a,s)=>Hw b/\sG 500 n a s
def lq.F:lq.D->lq.Y:=λ(b,n,a,s)=>((sa b a).2,n,a,s)
def lq:Fs Tryz.prog lq.aM bP lq.F:=gC 147 Tryz.f147 (λ(b,o0baL,o1,o2)=>([.ptr (.aV 0) 0 [] 0,.d fh b],[.obj 0 false (.pr (.db (.aV 1) 0) (.pr (.aS (.aV 2) 0 [] 0 0 o0baL) (.d .unit ()))),.obj 0 false (.mp b8 eR o1),.obj 0 false (.vec 161 cE o2)])) (λx=>⟨.d ti x.1,[.obj 0 false (.pr (.db (.aV 1) 0) (.pr (.aS (.aV 2) 0 [] 0 0 x.2.1) (.d .unit ()))),.obj 0 false (.mp b8 eR x.2.2.1),.obj 0 false (.vec 161 cE x.2.2.2)],[]⟩) [none,some fh] [iA.sg]
theorem lq.eq{R:Type}(b o0baL o1 o2)(k:K1 R):lq.A (b,o0baL,o1,o2) k=
 ah (iA.call (b,o0baL,o1,o2)) λx1=>
 k (lq.out (x1.2.1,x1.2.2.1,x1.2.2.2.1,x1.2.2.2.2)):=by kernel_rfl
theorem lq.ok:lq.Ok:=by
 rintro⟨b,n,a,s⟩ h
 rw[lq.eq,iA.run (d:=(b,n,a,s)) h]
 rfl
theorem lq.run:lq.RS:=rE [.d fh,.n,.d (.slice (.pair b8 eR)),.d (.slice cE)] lq
def lq.sg:=lq.gG lq.ok
abbrev j8.D:=eN×Nat×(List (cd×dP))×(List cn)
abbrev j8.Y:=Int×Nat×(List (cd×dP))×(List cn)
abbrev LZ:=Nat×At×List cn
def Ma(h:Int)(S:LZ)(t:eZ):LZ:=if(e7 t h S.2.1).2≠0 then S else(S.1+1,jV t h S.2.1,S.2.2.take S.1++ [stepOf t S.2.1])
def HJ(b:eN)(S:LZ):LZ:=b.2.2.1.foldl (Ma b.1) S
def j8.aM:j8.D->Prop:=λ(b,n,a,s)=>Hw b/\b.2.2.1.length<=1/\sG 400 n a s
def j8.F:j8.D->j8.Y:=λ(b,n,a,s)=>((sa b a).2,if(sa b a).2≠0 then(n,a,s) else HJ b (n,a,s))
def j8:Fs Tryz.prog j8.aM bP j8.F:=gC 74 Tryz.f74 (λ(b,o0baL,o1,o2)=>([.ptr (.aV 0) 0 [] 0,.d fh b],[.obj 0 false (.pr (.db (.aV 1) 0) (.pr (.aS (.aV 2) 0 [] 0 0 o0baL) (.d .unit ()))),.obj 0 false (.mp b8 eR o1),.obj 0 false (.vec 161 cE o2)])) (λx=>⟨.d ti x.1,[.obj 0 false (.pr (.db (.aV 1) 0) (.pr (.aS (.aV 2) 1 [] 0 0 x.2.1) (.d .unit ()))),.obj 0 false (.mp b8 eR x.2.2.1),.obj 1 false (.vec 161 cE x.2.2.2)],[]⟩) [none,some fh] [lq.sg,aN.sg] {loops:=pz [(3,{bo:=[0,3,5,12,13,14],sites:=[7,10,25]})],outs:=py [(3,{bo:=[5],sites:=[7,10,25]},{bo:=[4],sites:=[7,10,25]})],SD:=[(2,1)]} 3
theorem j8.eq{R:Type}(b o0baL o1 o2)(k:K1 R):j8.A (b,o0baL,o1,o2) k=
  ah (lq.call (b,o0baL,o1,o2)) λx1=>
  aP ((jx 0 (b.2.2.1.length:Int))) (
   aP (jn 0 (b.2.2.1.length:Int)) (
   aP ((w9 x1.1 0)) (
    k (j8.out (x1.1,x1.2.1,x1.2.2.1,x1.2.2.2))) (
    ah (aN.call ((nth gU b.2.2.1 0),b.1,x1.2.1,x1.2.2.1,x1.2.2.2)) λx2=>
    aP (x2.isLeft) (
     ah (x2.getLeft?) λFg=>
     aP ((jx 1 (b.2.2.1.length:Int))) (
      aP (jn 1 (b.2.2.1.length:Int)) (
      none) none) (
      k (j8.out (x1.1,Fg.2.1,Fg.2.2.1,Fg.2.2.2)))) (
     ah (x2.getRight?) λI5=>
     aP ((jx 1 (b.2.2.1.length:Int))) (
      aP (jn 1 (b.2.2.1.length:Int)) (
      none) none) (
      k (j8.out (x1.1,I5.2.1,I5.2.2.1,I5.2.2.2)))))) none) (
   k (j8.out (x1.1,x1.2.1,x1.2.2.1,x1.2.2.2))):=by kernel_rfl
theorem j8.ok:j8.Ok:=by
 rintro⟨⟨bh,bp,l,bf,bar,u⟩,n,a,s⟩ ⟨hb,h1,hg⟩
 have hg:sG 400 n a s:=hg
 rw[j8.eq,lq.run (d:=((bh,bp,l,bf,bar,u),n,a,s)) ⟨hb,hg.mono (by decide)⟩]
 simp only[ab,bP,lq.F,bP,j8.F]
 obtain⟨e,he⟩:∃e,(sa (bh,bp,l,bf,bar,u) a).2=e:=⟨_,rfl⟩
 rw[he]
 match l,hb,h1 with
 |[],hb,_=>
  rw[aX (by simp),al]
  by_cases h0:e≠0
  ·rw[if_pos h0]
  ·rw[if_neg h0];rfl
 |[t],hb,_=>
  have hv:rK t:=hb.1.1.2 t (aH ..)
  have nt:nth gU [t] 0=t:=rfl
  rw[bg (by simp),ag,bG (by simp) (by simp),ag]
  by_cases h0:e=0
  ·rw[h0,ff rfl,al,nt,if_neg (λh=>h rfl)]
   rcases hg.apply (t:=t) (h:=bh) (by omega) hv with⟨hc,ha⟩ | ⟨_,hc,ha,_⟩
   ·rw[ha]
    simp only[ab,kH,ag,jH]
    rw[aX (by simp),al]
    simp only[HJ,Ma,bT,dR,if_pos hc]
   ·rw[ha]
    simp only[ab,fe,al,dX]
    rw[aX (by simp),al]
    simp only[HJ,Ma,bT,dR,if_neg (λh=>h hc:¬(e7 t bh a).2≠0)]
  ·rw[iH h0,ag,if_pos h0]
 |_::_::_,_,h1=>exact absurd h1 (by simp)
theorem j8.run:j8.RS:=rE [.d fh,.n,.d (.slice (.pair b8 eR)),.d (.slice cE)] j8
def j8.sg:=j8.gG j8.ok 1 ⟨.none (by kernel_rfl),trivial⟩
abbrev de.D:=Nat×Nat×(List (cd×dP))×(List cn)×(List eN)
abbrev de.Y:=Int
abbrev de.X:=(Nat×Nat×(List (cd×dP))×(List cn)×(List eN))×(Int)
def de.add:de.D->de.Y->de.X:=λ(o0baL,o1baL,o2,o3,o4) y=>((o0baL,o1baL,o2,o3,o4),y)
def de.aM:de.D->Prop:=λ_=>True
def de.F:de.D->de.Y:=λ(n,_)=>(n:Int)
def de:Fs Tryz.prog de.aM de.add de.F:=gC 58 Tryz.f58 (λ(o0baL,o1baL,o2,o3,o4)=>([.ptr (.aV 0) 0 [] 0],[.obj 0 false (.pr (.ptr (.aV 1) 0 [] 0) (.pr (.aS (.aV 4) 0 [] 0 0 o0baL) (.d .unit ()))),.obj 0 false (.pr (.db (.aV 2) 0) (.pr (.aS (.aV 3) 0 [] 0 0 o1baL) (.d .unit ()))),.obj 0 false (.mp b8 eR o2),.obj 0 false (.vec 161 cE o3),.obj 0 false (.vec 60 fh o4)])) (λx=>⟨.d ti x.2,[.obj 0 false (.pr (.ptr (.aV 1) 0 [] 0) (.pr (.aS (.aV 4) 0 [] 0 0 x.1.1) (.d .unit ()))),.obj 0 false (.pr (.db (.aV 2) 0) (.pr (.aS (.aV 3) 0 [] 0 0 x.1.2.1) (.d .unit ()))),.obj 0 false (.mp b8 eR x.1.2.2.1),.obj 0 false (.vec 161 cE x.1.2.2.2.1),.obj 0 false (.vec 60 fh x.1.2.2.2.2)],[]⟩) [none]
theorem de.eq{R:Type}(o0baL o1baL o2 o3 o4)(k:K1 R):de.A (o0baL,o1baL,o2,o3,o4) k=
 k (de.out ((o0baL,o1baL,o2,o3,o4),((o0baL:Nat):Int))):=by kernel_rfl
theorem de.ok:de.Ok:=by
 rintro⟨n,_⟩ _
 rw[de.eq]
 rfl
theorem de.run:de.RS:=rE [.n,.n,.d (.slice (.pair b8 eR)),.d (.slice cE),.d (.slice fh)] de
def de.sg:=de.gG de.ok
abbrev fC.D:=Nat×Nat×(List (cd×dP))×(List cn)×(List eN)
abbrev fC.Y:=Bs
abbrev fC.X:=(Nat×Nat×(List (cd×dP))×(List cn)×(List eN))×(Bs)
def fC.add:fC.D->fC.Y->fC.X:=λ(o0baL,o1baL,o2,o3,o4) y=>((o0baL,o1baL,o2,o3,o4),y)
def nZ(n:Nat)(bs:List eN):Bs:=if n=0 then List.replicate 32 0 else HI (nth fh bs (n - 1))
def fC.aM:fC.D->Prop:=λ(n,_,_,_,bs)=>y8 n bs
def fC.F:fC.D->fC.Y:=λ(n,_,_,_,bs)=>nZ n bs
def fC:Fs Tryz.prog fC.aM fC.add fC.F:=gC 21 Tryz.f21 (λ(o0baL,o1baL,o2,o3,o4)=>([.ptr (.aV 0) 0 [] 0],[.obj 0 false (.pr (.ptr (.aV 1) 0 [] 0) (.pr (.aS (.aV 4) 0 [] 0 0 o0baL) (.d .unit ()))),.obj 0 false (.pr (.db (.aV 2) 0) (.pr (.aS (.aV 3) 0 [] 0 0 o1baL) (.d .unit ()))),.obj 0 false (.mp b8 eR o2),.obj 0 false (.vec 161 cE o3),.obj 0 false (.vec 60 fh o4)])) (λx=>⟨.d tH x.2,[.obj 0 false (.pr (.ptr (.aV 1) 0 [] 0) (.pr (.aS (.aV 4) 0 [] 0 0 x.1.1) (.d .unit ()))),.obj 0 false (.pr (.db (.aV 2) 0) (.pr (.aS (.aV 3) 0 [] 0 0 x.1.2.1) (.d .unit ()))),.obj 0 false (.mp b8 eR x.1.2.2.1),.obj 0 false (.vec 161 cE x.1.2.2.2.1),.obj 0 false (.vec 60 fh x.1.2.2.2.2)],[]⟩) [none] [dF.sg]
theorem fC.eq{R:Type}(o0baL o1baL o2 o3 o4)(k:K1 R):fC.A (o0baL,o1baL,o2,o3,o4) k=
  aP ((w8 ((o0baL:Nat):Int) 0)) (
   k (fC.out ((o0baL,o1baL,o2,o3,o4),(List.replicate 32 0)))) (
   aP (jn (dJ .i64 ((o0baL:Nat):Int) 1) ((o0baL:Nat):Int)) (
   aP (decide ((0+(Int.toNat (dJ .i64 ((o0baL:Nat):Int) 1))) < (List.length o4))) (
   aP (decide ((((0+(Int.toNat (dJ .i64 ((o0baL:Nat):Int) 1)))*36)+0)=(0+((Int.toNat (dJ .i64 ((o0baL:Nat):Int) 1))*36)))) (
   ah (dF.call (nth fh o4 (0+(Int.toNat (dJ .i64 ((o0baL:Nat):Int) 1))))) λx1=>
   k (fC.out ((o0baL,o1baL,o2,o3,o4),x1))) none) none) none):=by kernel_rfl
theorem fC.ok:fC.Ok:=by
 rintro⟨n,m,a,s,bs⟩ ⟨h1,h2,h3⟩
 have h1:n<=bs.length:=h1
 have h2:n<=1000000:=h2
 rw[fC.eq]
 cases n with
 |zero=>
  rw[jf (show((0:Nat):Int)=0 from rfl),ag]
  rfl
 |succ k=>
  have e1:dJ .i64 (((k+1:Nat):Nat):Int) (1:Int)=(k:Int):=by rw[fP (by omega) (by omega)];omega
  have hk:k < bs.length:=by omega
  rw[lH (by omega),al,e1,bG (by omega) (by omega),ag]
  simp only[aa,aI,cF,aY hk,ag,decide_true]
  have n1:nth fh bs k=bs[k]:=dz (t:=fh) hk
  rw[n1,dF.run (d:=bs[k]) (h3 _ (aL hk))]
  simp only[ab,bP,dF.F,fC.F,nZ,kZ,n1,if_neg (Nat.succ_ne_zero k)]
  rfl
theorem fC.run:fC.RS:=rE [.n,.n,.d (.slice (.pair b8 eR)),.d (.slice cE),.d (.slice fh)] fC
def fC.sg:=fC.gG fC.ok
abbrev eo.D:=Nat×Nat×(List (cd×dP))×(List cn)×(List eN)
abbrev eo.Y:=Nat×(List (cd×dP))×(List cn)×Nat×(List (cd×dP))×(List cn)
abbrev eo.X:=(Nat×(List eN))×(Nat×(List (cd×dP))×(List cn)×Nat×(List (cd×dP))×(List cn))
def eo.add:eo.D->eo.Y->eo.X:=λ(o0baL,o1baL,o2,o3,o4) y=>((o0baL,o4),y)
def eo.aM:eo.D->Prop:=λ(_,n,a,s,_)=>sG 500 n a s
def eo.F:eo.D->eo.Y:=λ(_,n,a,s,_)=>(n,a,s,n,iM a,s.take n)
def eo:Fs Tryz.prog eo.aM eo.add eo.F:=gC 23 Tryz.f23 (λ(o0baL,o1baL,o2,o3,o4)=>([.ptr (.aV 0) 0 [] 0],[.obj 0 false (.pr (.ptr (.aV 1) 0 [] 0) (.pr (.aS (.aV 4) 0 [] 0 0 o0baL) (.d .unit ()))),.obj 0 false (.pr (.db (.aV 2) 0) (.pr (.aS (.aV 3) 0 [] 0 0 o1baL) (.d .unit ()))),.obj 0 false (.mp b8 eR o2),.obj 0 false (.vec 161 cE o3),.obj 0 false (.vec 60 fh o4)])) (λx=>⟨.ptr (.new 0 0) 0 [] 0,[.obj 0 false (.pr (.ptr (.aV 1) 0 [] 0) (.pr (.aS (.aV 4) 0 [] 0 0 x.1.1) (.d .unit ()))),.obj 0 false (.pr (.db (.aV 2) 0) (.pr (.aS (.aV 3) 0 [] 0 0 x.2.1) (.d .unit ()))),.obj 0 false (.mp b8 eR x.2.2.1),.obj 0 false (.vec 161 cE x.2.2.2.1),.obj 0 false (.vec 60 fh x.1.2)],[.obj 0 false (.pr (.db (.new 0 1) 0) (.pr (.aS (.new 0 2) 0 [] 0 0 x.2.2.2.2.1) (.d .unit ()))),.obj 0 false (.mp b8 eR x.2.2.2.2.2.1),.obj 0 false (.vec 161 cE x.2.2.2.2.2.2)]⟩) [none] [df.sg]
theorem eo.eq{R:Type}(o0baL o1baL o2 o3 o4)(k:K1 R):eo.A (o0baL,o1baL,o2,o3,o4) k=
 ah (df.call (o1baL,o2,o3)) λx1=>
 k (eo.out ((o0baL,o4),(x1.1,x1.2.1,x1.2.2.1,x1.2.2.2.1,x1.2.2.2.2.1,x1.2.2.2.2.2))):=by kernel_rfl
theorem eo.ok:eo.Ok:=by
 rintro⟨nb,n,a,s,bs⟩ hg
 have hg:sG 500 n a s:=hg
 rw[eo.eq,hg.copy (by omega),hg.canon.2]
 rfl
theorem eo.run:eo.RS:=rE [.n,.n,.d (.slice (.pair b8 eR)),.d (.slice cE),.d (.slice fh)] eo
def eo.sg:=eo.gG eo.ok
abbrev lX.D:=Nat×(List eN)
abbrev lX.Y:=Nat×(List eN)
abbrev lX.X:=((List eN))×(Nat×(List eN))
def lX.add:lX.D->lX.Y->lX.X:=λ(sL,o0) y=>(o0,y)
def lX.aM:lX.D->Prop:=λ(n,l)=>n<=l.length/\n<=1000000
def lX.F:lX.D->lX.Y:=λ(n,l)=>((l.take n).length,l.take n)
def lX:Fs Tryz.prog lX.aM lX.add lX.F:=gC 192 Tryz.f192 (λ(sL,o0)=>([.aS (.aV 0) 0 [] 0 0 sL],[.obj 0 false (.vec 60 fh o0)])) (λx=>⟨.aS (.new 0 0) 0 [] 0 0 x.2.1,[.obj 0 false (.vec 60 fh x.1)],[.obj 0 false (.vec 60 fh x.2.2)]⟩) [none] [] {bK:=[5],owns:=[⟨2,[],5,63⟩]}
theorem lX.eq{R:Type}(sL o0)(k:K1 R):lX.A (sL,o0) k=
  aP (decide (0 < sL)) (
   aP (decide (0=0/\(0+sL)<=(List.length o0))) (
   aP (dZ (0+(List.length (cut o0 0 sL))) 96) (
   k (lX.out (o0,((0+(List.length (cut o0 0 sL))),((List.take 0 (List.replicate 0 (0,((List.replicate 32 0),(([]:List eZ),(0,(([]:List cd),())))))))++(cut o0 0 sL)))))) none) none) (
   nd (
    k (lX.out (o0,(0,([]:List eN))))) (
    aP (decide (0=0/\(0+sL)<=(List.length o0))) (
    aP (dZ (0+(List.length (cut o0 0 sL))) 96) (
    k (lX.out (o0,((0+(List.length (cut o0 0 sL))),((List.take 0 (List.replicate 0 (0,((List.replicate 32 0),(([]:List eZ),(0,(([]:List cd),())))))))++(cut o0 0 sL)))))) none) none)):=by kernel_rfl
theorem lX.ok:lX.Ok:=by
 rintro⟨n,l⟩ ⟨h1,h2⟩
 have h1:n<=l.length:=h1
 have h2:n<=1000000:=h2
 have ec:cut l 0 n=l.take n:=by simp[cut]
 have ht:(l.take n).length<=1000000:=by rw[bQ];omega
 have hr:dZ (l.take n).length 96=true:=fg (by omega) (by omega)
 rw[lX.eq]
 simp only[aI,ec,hr,ag,eF,aR,true_and,aY h1,lX.add,lX.F]
 by_cases h:0 < n
 ·simp only[aY h,ag]
 ·have:n=0:=by omega
  subst this
  simp only[eF,bn,aK,decide_true,ag,qN,cH (gE 0),al]
theorem lX.run:lX.RS:=rE [.n,.d (.slice fh)] lX
def lX.sg:=lX.gG lX.ok
abbrev gF.D:=Nat×Nat×(List (cd×dP))×(List cn)×(List eN)
abbrev gF.Y:=Nat×(List (cd×dP))×(List cn)×(List eN)×Nat×Nat×(List (cd×dP))×(List cn)×(List eN)
abbrev gF.X:=(Nat)×(Nat×(List (cd×dP))×(List cn)×(List eN)×Nat×Nat×(List (cd×dP))×(List cn)×(List eN))
def gF.add:gF.D->gF.Y->gF.X:=λ(o0baL,o1baL,o2,o3,o4) y=>(o0baL,y)
def gF.aM:gF.D->Prop:=λ(nb,n,a,s,bs)=>sG 500 n a s/\y8 nb bs
def gF.F:gF.D->gF.Y:=λ(nb,n,a,s,bs)=>(n,a,s,bs,nb,n,iM a,s.take n,bs.take nb)
def gF:Fs Tryz.prog gF.aM gF.add gF.F:=gC 128 Tryz.f128 (λ(o0baL,o1baL,o2,o3,o4)=>([.ptr (.aV 0) 0 [] 0],[.obj 0 false (.pr (.ptr (.aV 1) 0 [] 0) (.pr (.aS (.aV 4) 0 [] 0 0 o0baL) (.d .unit ()))),.obj 0 false (.pr (.db (.aV 2) 0) (.pr (.aS (.aV 3) 0 [] 0 0 o1baL) (.d .unit ()))),.obj 0 false (.mp b8 eR o2),.obj 0 false (.vec 161 cE o3),.obj 0 false (.vec 60 fh o4)])) (λx=>⟨.ptr (.new 0 0) 0 [] 0,[.obj 0 false (.pr (.ptr (.aV 1) 0 [] 0) (.pr (.aS (.aV 4) 0 [] 0 0 x.1) (.d .unit ()))),.obj 0 false (.pr (.db (.aV 2) 0) (.pr (.aS (.aV 3) 0 [] 0 0 x.2.1) (.d .unit ()))),.obj 0 false (.mp b8 eR x.2.2.1),.obj 0 false (.vec 161 cE x.2.2.2.1),.obj 0 false (.vec 60 fh x.2.2.2.2.1)],[.obj 0 false (.pr (.ptr (.new 0 1) 0 [] 0) (.pr (.aS (.new 0 4) 0 [] 0 0 x.2.2.2.2.2.1) (.d .unit ()))),.obj 0 false (.pr (.db (.new 0 2) 0) (.pr (.aS (.new 0 3) 0 [] 0 0 x.2.2.2.2.2.2.1) (.d .unit ()))),.obj 0 false (.mp b8 eR x.2.2.2.2.2.2.2.1),.obj 0 false (.vec 161 cE x.2.2.2.2.2.2.2.2.1),.obj 0 false (.vec 60 fh x.2.2.2.2.2.2.2.2.2)]⟩) [none] [df.sg,lX.sg] {bK:=[14]}
theorem gF.eq{R:Type}(o0baL o1baL o2 o3 o4)(k:K1 R):gF.A (o0baL,o1baL,o2,o3,o4) k=
 ah (df.call (o1baL,o2,o3)) λx1=>
 ah (lX.call (o0baL,o4)) λx2=>
 k (gF.out (o0baL,(x1.1,x1.2.1,x1.2.2.1,x2.1,x2.2.1,x1.2.2.2.1,x1.2.2.2.2.1,x1.2.2.2.2.2,x2.2.2))):=by kernel_rfl
theorem gF.ok:gF.Ok:=by
 rintro⟨nb,n,a,s,bs⟩ ⟨hg,hc⟩
 have hg:sG 500 n a s:=hg
 obtain⟨h1,h2,_⟩:=hc
 have h1:nb<=bs.length:=h1
 rw[gF.eq,hg.copy (by omega),hg.canon.2]
 simp only[ab]
 have e:(bs.take nb).length=nb:=by rw[bQ];omega
 rw[lX.run (d:=(nb,bs)) ⟨h1,h2⟩]
 simp only[ab,lX.add,lX.F,e]
 rfl
theorem gF.run:gF.RS:=rE [.n,.n,.d (.slice (.pair b8 eR)),.d (.slice cE),.d (.slice fh)] gF
def gF.sg:=gF.gG gF.ok
abbrev oQ.D:=(List cd)
abbrev oQ.Y:=(List cd)
def oQ.aM:oQ.D->Prop:=λl=>l.length<=1000000
def oQ.F:oQ.D->oQ.Y:=λl=>l
def oQ:Fs Tryz.prog oQ.aM bP oQ.F:=gC 148 Tryz.f148 (λsv=>([.d (.slice b8) sv],[])) (λx=>⟨.d (.slice b8) x,[],[]⟩) [some (.slice b8)] [] {bK:=[5],res:=[some (.slice b8)]}
theorem oQ.eq{R:Type}(sv)(k:K1 R):oQ.A sv k=
  aP (decide (0 < (List.length sv))) (
   aP (dZ (0+(List.length sv)) 40) (
   aP (decide (0=0/\(0+(0+(List.length sv)))<=(List.length ((List.take 0 (List.replicate 0 ((List.replicate 32 0),(0,()))))++sv)))) (
   k (oQ.out (cut ((List.take 0 (List.replicate 0 ((List.replicate 32 0),(0,()))))++sv) 0 (0+(List.length sv))))) none) none) (
   nd (
    k (oQ.out ([]:List cd))) (
    aP (dZ (0+(List.length sv)) 40) (
    aP (decide (0=0/\(0+(0+(List.length sv)))<=(List.length ((List.take 0 (List.replicate 0 ((List.replicate 32 0),(0,()))))++sv)))) (
    k (oQ.out (cut ((List.take 0 (List.replicate 0 ((List.replicate 32 0),(0,()))))++sv) 0 (0+(List.length sv))))) none) none)):=by kernel_rfl
theorem oQ.ok:oQ.Ok:=by
 intro l hl
 have hl:l.length<=1000000:=hl
 have hr:dZ l.length 40=true:=fg (by omega) (by omega)
 rw[oQ.eq]
 simp only[aI,hr,ag,eF,aR,aw,and_self,decide_true,gI,bP,oQ.F]
 by_cases h:0 < l.length
 ·simp only[aY h,ag]
 ·have:l=[]:=bF (by omega)
  subst this
  simp only[bn,qN,cH (gE 0),al]
theorem oQ.run:oQ.RS:=rE [.d (.slice b8)] oQ
def oQ.sg:=oQ.gG oQ.ok
abbrev dU.L0.D:=Nat×(List eZ)×Int×Int×eN×Int×Bs×Int×(List eZ)
abbrev dU.L0.Y:=Nat×(List eZ)
abbrev dU.L0.X:=(eN×Int×Bs×Int)×(Nat×(List eZ))
def dU.L0.add:dU.L0.D->dU.L0.Y->dU.L0.X:=λ(txsL,t9,t10,t11,n1,n2,lz,nK,n24) y=>((n1,n2,lz,nK),y)
abbrev dU.D:=eN
abbrev dU.Y:=eN
def JT(t:eZ):eZ:=(BU (Ly t)).1
def Ld(b:eN):eN:=(b.1,(b.2.1,(b.2.2.1.map JT,(b.2.2.2.1,(b.2.2.2.2.1,())))))
theorem RW{t:eZ}(hv:rK t)(jU:jk t=true):JT t=t:=by unfold JT;rw[IL hv jU]
theorem Pm{b:eN}(hv:I8 b)(jU:∀t∈b.2.2.1,jk t=true):Ld b=b:=by
 unfold Ld
 rw[show b.2.2.1.map JT=b.2.2.1 from(gr λt ht=>RW (hv.1.2 t ht) (jU t ht)).trans (List.map_id _)]
def dU.L0.aM:dU.L0.D->Prop:=λ(L,l,n,i,b1,b2,b3,b4,row)=>(l).length<=1000000/\∃k:Nat,k<=(l).length/\i=k/\n=(l).length/\L=(row).length/\(row).length<=1000000+k/\(∀t∈l,rK t)
def dU.L0.F:dU.L0.D->dU.L0.Y:=λ(L,l,n,i,b1,b2,b3,b4,row)=>(L+(List.drop (Int.toNat i) l).length,row++(List.drop (Int.toNat i) l).map JT)
def dU.aM:dU.D->Prop:=λb=>I8 b
def dU.F:dU.D->dU.Y:=λb=>Ld b
def dU.L0:Ls dU.L0.aM dU.L0.add dU.L0.F:=rY (λ(txsL,t9,t10,t11,n1,n2,lz,nK,n24)=>⟨([.undef,.ptr (.new 1 0) 0 [] 0,.ptr (.new 2 0) 0 [] 0,.aS (.new 24 0) 0 [] 0 0 txsL]++aT 5 ([.d (.slice gU) t9,.d ti t10,.d ti t11]++aT 21 [])),[],([[],[.obj 0 false (.d fh n1)],[.obj 0 false (.pr (.d ti n2) (.pr (.d tH lz) (.pr (.di) (.pr (.d ti nK) (.pr (.di) (.d .unit ()))))))]]++ct 21 ([[.obj 0 false (.vec 40 gU n24)]]++ct 8 []))⟩) (λx=>(.exit 0,⟨([.undef,.ptr (.new 1 0) 0 [] 0,.ptr (.new 2 0) 0 [] 0,.aS (.new 24 0) 0 [] 0 0 x.2.1]++aT 29 []),[],([[],[.obj 0 false (.d fh x.1.1)],[.obj 0 false (.pr (.d ti x.1.2.1) (.pr (.d tH x.1.2.2.1) (.pr (.di) (.pr (.d ti x.1.2.2.2) (.pr (.di) (.d .unit ()))))))]]++ct 21 ([[.obj 0 false (.vec 40 gU x.2.2)]]++ct 8 []))⟩))
def dU:Fs Tryz.prog dU.aM bP dU.F:=gC 75 Tryz.f75 (λb=>([.d fh b],[])) (λx=>⟨.d fh x,[],[]⟩) [some fh] [bV.sg,aC.sg,oQ.sg] {bK:=[1],loops:=pz [(3,{bo:=[1,2,3,9,10,11],sites:=[1,2,24],owns:=[⟨3,[],24,57⟩]})],outs:=py [(3,{bo:=[1,2,3],sites:=[1,2,24]},{bo:=[2]})],iX:=qg [(3,dU.L0.E)],res:=[some fh]}
theorem dU.L0.run:dU.L0.RS:=rL [.n,.d (.slice gU),.d ti,.d ti,.d fh,.d ti,.d tB,.d ti,.d (.slice gU)] dU.L0
theorem dU.L0.step{R:Type}(txsL t9 t10 t11 n1 n2 lz nK n24)(kn:K2 R)(kx:K3 R):dU.R 0 dU.L0 (txsL,t9,t10,t11,n1,n2,lz,nK,n24) kn kx=
  aP ((jx t11 t10)) (
   aP (jn t11 (t9.length:Int)) (
   ah (bV.call (nth gU t9 (Int.toNat t11))) λx1=>
   ah (aC.call x1) λx2=>
   aP (decide (txsL<=(List.length n24))) (
   aP (dZ (txsL+1) 56) (
   kn (dU.L0.st ((txsL+1),t9,t10,(cG .i64 t11 1),n1,n2,lz,nK,((List.take txsL n24)++ [x2.1])))) none) none) none) (
   dU.L0.go kx ((n1,n2,lz,nK),(txsL,n24))):=by kernel_rfl
theorem dU.eq{R:Type}(b)(k:K1 R):dU.A b k=
 ah (dU.L0.call (0,b.2.2.1,(b.2.2.1.length:Int),0,b,0,(List.replicate 32 0),0,([]:List eZ))) λx5=>
 ah (oQ.call x5.1.1.2.2.2.2.1) λx6=>
 aP (decide (0=0/\(0+x5.2.1)<=(List.length x5.2.2))) (
 k (dU.out (x5.1.1.1,(x5.1.1.2.1,((cut x5.2.2 0 x5.2.1),(x5.1.1.2.2.2.1,(x6,x5.1.1.2.2.2.2.2))))))) none:=by kernel_rfl
theorem dU.L0.ok:(dU.mL 0 dU.L0):=by
 refine(dU.oH 0 dU.L0) (λ(L,l,n,i,b1,b2,b3,b4,row)=>(l).length - Int.toNat i) ?_
 rintro⟨L,l,n,i,b1,b2,b3,b4,row⟩ ⟨hlen,k,hk,rfl,rfl,rfl,nC,hx⟩
 have hlen:(l).length<=1000000:=hlen
 have hk:k<=(l).length:=hk
 have nC:(row).length<=1000000+k:=nC
 have hx:∀t∈l,rK t:=hx
 by_cases h:k < (l).length
 ·left
  have n1:nth gU l k=l[k]:=dz (t:=gU) h
  have hd:List.drop k l=l[k]::List.drop (k+1) l:=ax h
  refine⟨((row).length+1,l,((l).length:Int),((k+1:Nat):Int),b1,b2,b3,b4,row++ [JT l[k]]),⟨hlen,k+1,by omega,rfl,rfl,by rw[ae];rfl,by rw[ae];show(row).length+1<=_;omega,hx⟩,by simp only[aa];omega,?_,λkn kx=> ?_⟩
  ·simp only[dU.L0.add,dU.L0.F,aa,hd,bX,aB,aD,dN]
   rw[show ∀a c:Nat,a+1+c=a+(c+1) from λa c=>by omega]
  ·rw[dU.L0.step,bg (by omega),bG (show(0:Int)<=(k:Int) by omega) (by omega),aa,n1]
   simp only[ag]
   have hv:=hx _ (aL h)
   rw[bV.run (d:=l[k]) hv]
   simp only[ab,bP,bV.F]
   rw[aC.run (d:=Ly l[k]) ⟨(vG hv).1,by show(Ly l[k]).length<=_;have:=(vG hv).2;omega⟩]
   simp only[ab,bP,aC.F]
   rw[aY (aw _),fg (by omega) (by omega),N.p9 (by omega),dh]
   rfl
 ·right
  obtain rfl:k=(l).length:=by omega
  intro R kn kx
  rw[dU.L0.step,aX (by omega),al]
  simp only[dU.L0.add,dU.L0.F,aa,aZ,ij,bS,bn,cF]
theorem dU.ok:dU.Ok:=by
 rintro b ⟨⟨h1,h2⟩,h3,h4,h5⟩
 have z1:((0:Int)).toNat=0:=rfl
 rw[dU.eq,dU.L0.run (d:=(0,b.2.2.1,(b.2.2.1.length:Int),0,b,0,List.replicate 32 0,0,[])) ⟨by show b.2.2.1.length<=_;omega,0,aK _,rfl,rfl,rfl,by show(0:Nat)<=_;omega,h2⟩]
 simp only[ab,dU.L0.add,dU.L0.F,z1,aJ,aI,aR]
 rw[oQ.run (d:=b.2.2.2.2.1) (by show b.2.2.2.2.1.length<=_;omega)]
 simp only[ab,bP,oQ.F]
 rw[aY (by rw[cK];exact⟨trivial,aw _⟩),ag,gI (cK ..)]
 rfl
theorem dU.run:dU.RS:=rE [.d fh] dU
def dU.sg:=dU.gG dU.ok 1 ⟨.iR dU.L0.ok,trivial⟩
abbrev eO.D:=(List kO)
def eO.st:eO.D->SA:=λouts=>([.d (.slice lO) outs],[])
abbrev eO.Y:=(Unit)⊕((List (cd×dP))×(List cn)×(List eN))
abbrev eO.X:=(Unit)⊕((List (cd×dP))×(List cn)×(List eN))
def eO.out:eO.X->gV:=λx=>match x with | .inl x=>⟨.mO,[],[]⟩ | .inr x=>⟨.ptr (.new 0 0) 0 [] 0,[],[.obj 0 false (.pr (.ptr (.new 0 1) 0 [] 0) (.pr (.aS (.new 0 4) 0 [] 0 0 0) (.d .unit ()))),.obj 0 false (.pr (.db (.new 0 2) 0) (.pr (.aS (.new 0 3) 0 [] 0 0 0) (.d .unit ()))),.obj 0 false (.mp b8 eR x.1),.obj 0 false (.vec 161 cE x.2.1),.obj 0 false (.vec 60 fh x.2.2)]⟩
def eO.add:eO.D->eO.Y->eO.X:=λouts y=>match y with | .inl y=> .inl y | .inr y=> .inr y
def eO.aM:eO.D->Prop:=λouts=>∀o∈outs,Qw o
def eO.F:eO.D->eO.Y:=λouts=>match K5 outs with | none=> .inl () | some r=> .inr (r,[],[])
def eO.G:mR:=oo (P:=Tryz.prog) [bw.sg]
def eO.an:rN:= {bK:=[10],owns:=[⟨2,[.snd,.fst],0,63⟩]}
def eO.A:= @zK Tryz.prog eO.G eO.an 0 Tryz.f15 _ eO.st
abbrev eO.Ok:=CC @eO.A eO.aM eO.add eO.F eO.out
theorem eO.eq{R:Type}(outs:(List kO))(k:gV->Option R):eO.A outs k=
  ah (bw.call outs) λx1=>
  aP (x1.isLeft) (
   ah (x1.getLeft?) λLQ=>
   k (eO.out (.inl ()))) (
   ah (x1.getRight?) λN6=>
   k (eO.out (.inr (N6.1,N6.2,([]:List eN))))):=by kernel_rfl
theorem eO.ok:eO.Ok:=by
 intro outs h
 rw[eO.eq,bw.run (d:=outs) h]
 simp only[ab,bw.F,eO.F]
 cases K5 outs with
 |none=>rfl
 |some r=>rfl
def eO.E:=Entry.Bi [some (.slice lO)] eO.st eO.aM eO.add eO.F eO.out
def eO.call:eO.D->Option eO.X:=vU eO.E eO.st
theorem eO.run:kF eO.call eO.aM eO.add eO.F:=zF (EG [.d (.slice lO)] λ_=>by kernel_rfl)
def eO.sg:SG Tryz.prog:=⟨15,om,eO.E,.of (.PC (.fn 0 (by kernel_rfl) eO.ok trivial)) (by rfl)⟩
abbrev lh.D:=Int×Nat×Nat×(List (cd×dP))×(List cn)×(List eN)
abbrev lh.Y:=eN×Bool
abbrev lh.X:=(Nat×Nat×(List (cd×dP))×(List cn)×(List eN))×(eN×Bool)
def lh.add:lh.D->lh.Y->lh.X:=λ(height,o0baL,o1baL,o2,o3,o4) y=>((o0baL,o1baL,o2,o3,o4),y)
def QC(h:Int)(nb:Nat)(bs:List eN):eN×Bool:=if 1<=h/\h<=nb then(Ld (nth fh bs (h.toNat - 1)),true) else(fh.zero,false)
def lh.aM:lh.D->Prop:=λ(_,nb,_,_,_,bs)=>y8 nb bs
def lh.F:lh.D->lh.Y:=λ(h,nb,_,_,_,bs)=>((QC h nb bs).1,(QC h nb bs).2)
def lh:Fs Tryz.prog lh.aM lh.add lh.F:=gC 62 Tryz.f62 (λ(height,o0baL,o1baL,o2,o3,o4)=>([.ptr (.aV 0) 0 [] 0,.d ti height],[.obj 0 false (.pr (.ptr (.aV 1) 0 [] 0) (.pr (.aS (.aV 4) 0 [] 0 0 o0baL) (.d .unit ()))),.obj 0 false (.pr (.db (.aV 2) 0) (.pr (.aS (.aV 3) 0 [] 0 0 o1baL) (.d .unit ()))),.obj 0 false (.mp b8 eR o2),.obj 0 false (.vec 161 cE o3),.obj 0 false (.vec 60 fh o4)])) (λx=>⟨.cons (.d fh x.2.1) (.cons (.d .bool x.2.2) (.nil)),[.obj 0 false (.pr (.ptr (.aV 1) 0 [] 0) (.pr (.aS (.aV 4) 0 [] 0 0 x.1.1) (.d .unit ()))),.obj 0 false (.pr (.db (.aV 2) 0) (.pr (.aS (.aV 3) 0 [] 0 0 x.1.2.1) (.d .unit ()))),.obj 0 false (.mp b8 eR x.1.2.2.1),.obj 0 false (.vec 161 cE x.1.2.2.2.1),.obj 0 false (.vec 60 fh x.1.2.2.2.2)],[]⟩) [none,some ti] [dU.sg] {res:=[some fh,none]}
theorem lh.eq{R:Type}(height o0baL o1baL o2 o3 o4)(k:K1 R):lh.A (height,o0baL,o1baL,o2,o3,o4) k=
  aP ((jx height 1)) (
   k (lh.out ((o0baL,o1baL,o2,o3,o4),((0,((List.replicate 32 0),(([]:List eZ),(0,(([]:List cd),()))))),false)))) (
   aP ((uL height ((o0baL:Nat):Int))) (
    k (lh.out ((o0baL,o1baL,o2,o3,o4),((0,((List.replicate 32 0),(([]:List eZ),(0,(([]:List cd),()))))),false)))) (
    aP (jn (dJ .i64 height 1) ((o0baL:Nat):Int)) (
    aP (decide ((0+(Int.toNat (dJ .i64 height 1))) < (List.length o4))) (
    aP (decide ((((0+(Int.toNat (dJ .i64 height 1)))*36)+0)=(0+((Int.toNat (dJ .i64 height 1))*36)))) (
    ah (dU.call (nth fh o4 (0+(Int.toNat (dJ .i64 height 1))))) λx1=>
    k (lh.out ((o0baL,o1baL,o2,o3,o4),(x1,true)))) none) none) none)):=by kernel_rfl
theorem lh.ok:lh.Ok:=by
 rintro⟨h,nb,n,a,s,bs⟩ ⟨h1,h2,h3⟩
 have h1:nb<=bs.length:=h1
 have h2:nb<=1000000:=h2
 rw[lh.eq]
 by_cases a1:1<=h
 ·rw[aX (by omega),al]
  by_cases a2:h<=nb
  ·obtain⟨k,rfl⟩:∃k:Nat,h=(k:Int)+1:=⟨(h - 1).toNat,by omega⟩
   have hk:k < bs.length:=by omega
   have e1:dJ .i64 ((k:Int)+1) (1:Int)=(k:Int):=by rw[fP (by omega) (by omega)];omega
   have e2:((k:Int)+1).toNat - 1=k:=by omega
   rw[eC (by omega),al,e1,bG (by omega) (by omega),ag]
   simp only[aa,aI,cF,aY hk,ag,decide_true]
   have n1:nth fh bs k=bs[k]:=dz (t:=fh) hk
   rw[n1,dU.run (d:=bs[k]) (h3 _ (aL hk))]
   simp only[ab,bP,dU.F,lh.F,QC,if_pos (And.intro a1 a2),e2,n1]
   rfl
  ·rw[eY (by omega),ag]
   simp only[lh.F,QC,if_neg (λe:1<=h/\h<=(nb:Int)=>a2 e.2)]
   rfl
 ·rw[bg (by omega),ag]
  simp only[lh.F,QC,if_neg (λe:1<=h/\h<=(nb:Int)=>a1 e.1)]
  rfl
theorem lh.run:lh.RS:=rE [.d ti,.n,.n,.d (.slice (.pair b8 eR)),.d (.slice cE),.d (.slice fh)] lh
def lh.sg:=lh.gG lh.ok
abbrev fT.D:=eN×Nat×Nat×(List (cd×dP))×(List cn)×(List eN)
abbrev fT.Y:=Int×Nat×Nat×(List (cd×dP))×(List cn)×(List eN)
def qz(b:eN)(nb:Nat)(S:LZ)(bs:List eN):Int×Nat×Nat×At×List cn×List eN:=
 if b.2.1=nZ nb bs/\b.1=(nb:Int)+1 then
  if(sa b S.2.1).2=0 then(0,nb+1,(HJ b S).1,(HJ b S).2.1,(HJ b S).2.2,bs.take nb++ [Ld b]) else((sa b S.2.1).2,nb,S.1,S.2.1,S.2.2,bs)
 else(1,nb,S.1,S.2.1,S.2.2,bs)
def fT.aM:fT.D->Prop:=λ(b,nb,n,a,s,bs)=>Hw b/\b.2.2.1.length<=1/\sG 400 n a s/\y8 nb bs
def fT.F:fT.D->fT.Y:=λ(b,nb,n,a,s,bs)=>qz b nb (n,a,s) bs
def fT:Fs Tryz.prog fT.aM bP fT.F:=gC 19 Tryz.f19 (λ(b,o0baL,o1baL,o2,o3,o4)=>([.ptr (.aV 0) 0 [] 0,.d fh b],[.obj 0 false (.pr (.ptr (.aV 1) 0 [] 0) (.pr (.aS (.aV 4) 0 [] 0 0 o0baL) (.d .unit ()))),.obj 0 false (.pr (.db (.aV 2) 0) (.pr (.aS (.aV 3) 0 [] 0 0 o1baL) (.d .unit ()))),.obj 0 false (.mp b8 eR o2),.obj 0 false (.vec 161 cE o3),.obj 0 false (.vec 60 fh o4)])) (λx=>⟨.d ti x.1,[.obj 0 false (.pr (.ptr (.aV 1) 0 [] 0) (.pr (.aS (.aV 4) 1 [] 0 0 x.2.1) (.d .unit ()))),.obj 0 false (.pr (.db (.aV 2) 0) (.pr (.aS (.aV 3) 1 [] 0 0 x.2.2.1) (.d .unit ()))),.obj 0 false (.mp b8 eR x.2.2.2.1),.obj 1 false (.vec 161 cE x.2.2.2.2.1),.obj 1 false (.vec 60 fh x.2.2.2.2.2)],[]⟩) [none,some fh] [fC.sg,de.sg,j8.sg,dU.sg] {SD:=[(3,1),(4,1)]}
theorem fT.eq{R:Type}(b o0baL o1baL o2 o3 o4)(k:K1 R):fT.A (b,o0baL,o1baL,o2,o3,o4) k=
  ah (fC.call (o0baL,o1baL,o2,o3,o4)) λx1=>
  aP ((!(Ty.beq tH b.2.1 x1.2))) (
   k (fT.out (1,x1.1.1,x1.1.2.1,x1.1.2.2.1,x1.1.2.2.2.1,x1.1.2.2.2.2))) (
   ah (de.call (x1.1.1,x1.1.2.1,x1.1.2.2.1,x1.1.2.2.2.1,x1.1.2.2.2.2)) λx2=>
   aP ((w9 b.1 (cG .i64 x2.2 1))) (
    k (fT.out (1,x2.1.1,x2.1.2.1,x2.1.2.2.1,x2.1.2.2.2.1,x2.1.2.2.2.2))) (
    ah (j8.call (b,x2.1.2.1,x2.1.2.2.1,x2.1.2.2.2.1)) λx3=>
    aP ((w9 x3.1 0)) (
     k (fT.out (x3.1,x2.1.1,x3.2.1,x3.2.2.1,x3.2.2.2,x2.1.2.2.2.2))) (
     ah (dU.call b) λx4=>
     aP (decide (x2.1.1<=(List.length x2.1.2.2.2.2))) (
     aP (dZ (x2.1.1+1) 96) (
     k (fT.out (0,(x2.1.1+1),x3.2.1,x3.2.2.1,x3.2.2.2,((List.take x2.1.1 x2.1.2.2.2.2)++ [x4])))) none) none))):=by kernel_rfl
theorem fT.ok:fT.Ok:=by
 rintro⟨b,nb,n,a,s,bs⟩ ⟨hb,hl,hg,hc⟩
 have hb:Hw b:=hb
 obtain⟨h1,h2,_⟩:=id hc
 have h1:nb<=bs.length:=h1
 have h2:nb<=1000000:=h2
 rw[fT.eq,fC.run (d:=(nb,n,a,s,bs)) hc]
 simp only[ab,fC.add,fC.F,Mx,bP,fT.F,qz]
 by_cases ht:b.2.1=nZ nb bs
 ·rw[decide_eq_true ht,dj,al,de.run (d:=(nb,n,a,s,bs)) trivial]
  simp only[ab,de.add,de.F]
  rw[fX (by omega) (by omega)]
  by_cases hh:b.1=(nb:Int)+1
  ·rw[ff hh,al,j8.run (d:=(b,n,a,s)) ⟨hb,hl,hg⟩]
   simp only[ab,bP,j8.F,if_pos (And.intro ht hh)]
   by_cases he:(sa b a).2=0
   ·rw[ff he,al,dU.run (d:=b) hb.1]
    simp only[ab,bP,dU.F]
    rw[aY h1,ag,fg (by omega) (by omega),ag,if_pos he,if_neg (λe=>e he)]
   ·rw[iH he,ag,if_neg he,if_pos he]
  ·rw[iH hh,ag,if_neg (λe=>hh e.2)]
 ·rw[decide_eq_false ht,ia,ag,if_neg (λe=>ht e.1)]
theorem fT.run:fT.RS:=rE [.d fh,.n,.n,.d (.slice (.pair b8 eR)),.d (.slice cE),.d (.slice fh)] fT
def fT.sg:=fT.gG fT.ok
end Go.Ab
end
