/-
  Made short by a program of mine (wip/tools/mini.py).
-/
import Derived.Test.YtcdokckdlaegdaaGreatS19x5
set_option linter.unusedVariables false
set_option linter.unusedSimpArgs false
set_option maxRecDepth 100000
set_option synthInstance.maxSize 5000
noncomputable section
namespace Go.Ab
open Go.Proofs
noncomputable section
def Py:ByteArray:=⟨#[109,105,120]⟩
def ud:ByteArray:=⟨#[114,101,118,111,107,101]⟩
theorem JK:∃f:ByteArray->Int->Int->Int,∀n a b,f n a b=kT (C9 n [mn a,mn b]):=⟨_,λ_ _ _=>rfl⟩
def tC:ByteArray->Int->Int->Int:=Classical.choose JK
theorem wG(n:ByteArray)(a b:Int):tC n a b=kT (C9 n [mn a,mn b]):=Classical.choose_spec JK n a b
def l5(s:List Int):Int:=fy (kT s)
def vY(b p:Int):Int:=uY [b,fy (tC Py p b)]
def uU(b p:Int):Int:=uY [oH b (tC ud b p),oH p (tC ud p b)]
def sm(b:Int)(s:List Int):Int:=BJ (yK b (tC ud (fy b) (l5 s))) (yK (kT s) (tC ud (l5 s) (fy b)))
theorem BZ(n:ByteArray)(a b:Int):iy (tC n a b):=by rw[wG];exact vQ _
abbrev fG.D:=Int
def fG.st:fG.D->SA:=λp=>([.d tu p],[])
abbrev fG.Y:=Bs
abbrev fG.X:=Bs
def fG.out:fG.X->aX:=λx=>⟨.d tB x,[],[]⟩
def fG.add:fG.D->fG.Y->fG.X:=λp y=>y
def fG.az:fG.D->Prop:=λ_=>True
def fG.F:fG.D->fG.Y:=λn=>mn n
def fG.G:fD:=gr (P:=Tryz.prog) []
def fG.an:fR:= {loops:=om [(3,{bO:=[0,3,5],sites:=[3]})],outs:=oh [(3,{bO:=[3],sites:=[3]},{bO:=[2],sites:=[3]})],res:=[some tB]}
def fG.A:= @dm Tryz.prog fG.G fG.an 12 Tryz.f162 _ fG.st
abbrev fG.Ok:=dn @fG.A fG.az fG.add fG.F fG.out
theorem fG.eq{R:Type}(p:Int)(k:aX->Option R):fG.A p k=
 k (fG.out [(fa .u8 (cX .u64 p (56:Int))),(fa .u8 (cX .u64 p (48:Int))),(fa .u8 (cX .u64 p (40:Int))),(fa .u8 (cX .u64 p (32:Int))),(fa .u8 (cX .u64 p (24:Int))),(fa .u8 (cX .u64 p (16:Int))),(fa .u8 (cX .u64 p (8:Int))),(fa .u8 (cX .u64 p (0:Int)))]):=by kernel_rfl
theorem fG.ok:fG.Ok:=by
 intro n _
 rw[fG.eq,BN]
 rfl
def fG.E:=Entry.dp [some tu] fG.st fG.az fG.add fG.F fG.out
def fG.call:fG.D->Option fG.X:=bX fG.E fG.st
theorem fG.run:b8 fG.call fG.az fG.add fG.F:=dv (du [.d tu] λ_=>by kernel_rfl)
def fG.sg:SG Tryz.prog:=⟨162,aP,fG.E,.fn 1 (by kernel_rfl) fG.ok (And.intro (.none (by kernel_rfl)) trivial)⟩
abbrev bo.L0.D:=ByteArray×Nat×Bs×Int×Int×(List Bs)
def bo.L0.st:bo.L0.D->AS:=λ(wb,partsL,t8,t9,t10,oA)=>⟨([.d .str wb]++bG 4 ([.di (.new 18 0) 0 [] 0 0 partsL,.undef,.undef,.d tU t8,.d ti t9,.d ti t10]++bG 13 [])),[],(dh 18 ([[.obj 0 false (.vec 135 tB oA)]]++dh 5 []))⟩
abbrev bo.L0.Y0:=Nat×(List Bs)
abbrev bo.L0.X0:=(ByteArray)×(Nat×(List Bs))
def bo.L0.bY:bo.L0.X0->Exit×AS:=λx=>(.exit 0,⟨([.d .str x.1]++bG 4 ([.di (.new 18 0) 0 [] 0 0 x.2.1]++bG 18 [])),[],(dh 18 ([[.obj 0 false (.vec 135 tB x.2.2)]]++dh 5 []))⟩)
abbrev bo.L0.X:=bo.L0.X0
abbrev bo.L0.Y:=bo.L0.Y0
def bo.L0.out:bo.L0.X->Out (Exit×AS):=λx=> .ok (bo.L0.bY x)
def bo.L0.add:bo.L0.D->bo.L0.Y->bo.L0.X:=λ(wb,partsL,t8,t9,t10,oA) y=>(wb,y)
abbrev bo.D:=ByteArray×Bs
def bo.st:bo.D->SA:=λ(name,points)=>([.d .str name,.d tU points],[])
abbrev bo.Y:=Int
abbrev bo.X:=Int
def bo.out:bo.X->aX:=λx=>⟨.d tu x,[],[]⟩
def bo.add:bo.D->bo.Y->bo.X:=λ(name,points) y=>y
def bo.L0.az:bo.L0.D->Prop:=λ(name,L,ps,m,i,row)=>(ps).length<=1000000/\∃k:Nat,k<=(ps).length/\i=k/\m=(ps).length/\L=(row).length/\(row).length<=1000000+k
def bo.L0.F:bo.L0.D->bo.L0.Y:=λ(name,L,ps,m,i,row)=>(L+(List.drop (Int.toNat i) ps).length,row++(List.drop (Int.toNat i) ps).map mn)
def bo.az:bo.D->Prop:=λ(name,ps)=>name.size<=100/\ps.length=2
def bo.F:bo.D->bo.Y:=λ(name,ps)=>tC name (nth tu ps 0) (nth tu ps 1)
def bo.G:fD:=gr (P:=Tryz.prog) [fG.sg,dH.sg,cC.sg]
def bo.L0.E:=cU.dp bo.L0.st bo.L0.az bo.L0.add bo.L0.F bo.L0.out
def bo.L0.call:bo.L0.D->Option bo.L0.X:=eI bo.L0.E bo.L0.st
def bo.an:fR:= {loops:=om [(3,{bO:=[0,5,8,9,10],sites:=[18],nR:=[⟨5,[],18,199⟩]})],outs:=oh [(3,{bO:=[0,5],sites:=[18]},{bO:=[4]})],jo:=pb [(3,bo.L0.E)]}
def bo.A:= @dm Tryz.prog bo.G bo.an 0 Tryz.f124 _ bo.st
abbrev bo.Ok:=dn @bo.A bo.az bo.add bo.F bo.out
def bo.L0.R:= @dr Tryz.prog bo.G bo.an 0 Tryz.f124 0 _ bo.L0.st
abbrev bo.L0.Ok:=gz Tryz.prog bo.G bo.an 0 Tryz.f124 0 bo.L0.st bo.L0.az bo.L0.add bo.L0.F bo.L0.out
theorem bo.L0.run:b8 bo.L0.call bo.L0.az bo.L0.add bo.L0.F:=gR (gJ [.d .str,.n,.d tU,.d ti,.d ti,.d (.slice tB)] λ_=>by kernel_rfl)
theorem bo.L0.aI:jl @bo.L0.R bo.L0.st bo.L0.az bo.L0.add bo.L0.F bo.L0.bY bo.L0.Ok:=js
theorem bo.L0.step{R:Type}(wb:ByteArray)(partsL:Nat)(t8:Bs)(t9:Int)(t10:Int)(oA:(List Bs))(kn:AS->Option R)(kx:Exit->AS->Option R):bo.L0.R (wb,partsL,t8,t9,t10,oA) kn kx=
  aJ ((jM t10 t9)) (
   aJ (fB t10 (((List.length t8):Nat):Int)) (
   ah (fG.call (nth tu t8 (Int.toNat t10))) λx1=>
   aJ (decide (partsL<=(List.length oA))) (
   aJ (fq (partsL+1) 24) (
   kn (bo.L0.st (wb,(partsL+1),t8,t9,(bV .i64 t10 (1:Int)),((List.take partsL oA)++ [x1])))) none) none) none) (
   kx (bo.L0.bY (wb,(partsL,oA))).1 (bo.L0.bY (wb,(partsL,oA))).2):=by kernel_rfl
theorem bo.eq{R:Type}(name:ByteArray)(points:Bs)(k:aX->Option R):bo.A (name,points) k=
 ah (bo.L0.call (name,0,points,(((List.length points):Nat):Int),(0:Int),([]:List Bs))) λx3=>
 aJ (decide (0=0/\(0+x3.2.1)<=(List.length x3.2.2))) (
 ah (dH.call (x3.1,(cut x3.2.2 0 x3.2.1))) λx4=>
 ah (cC.call x4) λx5=>
 k (bo.out x5)) none:=by kernel_rfl
theorem bo.L0.ok:bo.L0.Ok:=by
 refine bo.L0.aI (λ(name,L,ps,m,i,row)=>(ps).length - Int.toNat i) ?_
 rintro⟨name,L,ps,m,i,row⟩ ⟨hlen,k,hk,rfl,rfl,rfl,mZ⟩
 have hlen:(ps).length<=1000000:=hlen
 have hk:k<=(ps).length:=hk
 have mZ:(row).length<=1000000+k:=mZ
 by_cases h:k < (ps).length
 ·left
  have n1:nth tu ps k=ps[k]:=dQ (t:=tu) h
  have hd:List.drop k ps=ps[k]::List.drop (k+1) ps:=av h
  refine⟨(name,(row).length+1,ps,((ps).length:Int),((k+1:Nat):Int),row++ [mn ps[k]]),⟨hlen,k+1,by omega,rfl,rfl,by rw[aj];rfl,by rw[aj];show(row).length+1<=_;omega⟩,by simp only[aa];omega,?_,λkn kx=> ?_⟩
  ·simp only[bo.L0.add,bo.L0.F,aa,hd,cO,aO,bR,fp]
   rw[show ∀a c:Nat,a+1+c=a+(c+1) from λa c=>by omega]
  ·rw[bo.L0.step,bI (by omega),bF (show(0:Int)<=(k:Int) by omega) (by omega),aa,n1]
   simp only[ae]
   rw[fG.run (d:=ps[k]) trivial]
   simp only[ab,fG.add,fG.F]
   rw[aM (aE _),gk (by omega) (by omega),N.pF (by omega),cQ]
   rfl
 ·right
  obtain rfl:k=(ps).length:=by omega
  intro R kn kx
  rw[bo.L0.step,bp (by omega),ai]
  simp only[bo.L0.add,bo.L0.F,aa,bB,jH,dg,bM,dR]
theorem bo.ok:bo.Ok:=by
 rintro⟨name,ps⟩ ⟨hn,h2⟩
 have h2:ps.length=2:=h2
 match ps,h2 with
 |[a,b],_=>
  rw[bo.eq,bo.L0.run (d:=(name,0,[a,b],(([a,b].length:Nat):Int),0,[])) ⟨by show 2<=_;decide,0,bm _,rfl,rfl,rfl,bm _⟩]
  simp only[ab,bo.L0.add,bo.L0.F,bH,aW,bt,bl,cO,jH,aO,bM]
  rw[aM ⟨trivial,by decide⟩,ae,show cut [mn a,mn b] 0 (1+1)=[mn a,mn b] from jf (l:=[mn a,mn b]) (n:=1+1) rfl,dH.run (d:=(name,[mn a,mn b])) (Da hn (by rw[dO];omega) (by rw[dO];omega))]
  simp only[ab,dH.add,dH.F]
  rw[cC.run (d:=tag (cm name) [mn a,mn b]) (C6 _ _)]
  simp only[ab,cC.add,cC.F,bo.add,bo.F,wG,C9]
  rfl
def bo.E:=Entry.dp [some .str,some tU] bo.st bo.az bo.add bo.F bo.out
def bo.call:bo.D->Option bo.X:=bX bo.E bo.st
theorem bo.run:b8 bo.call bo.az bo.add bo.F:=dv (du [.d .str,.d tU] λ_=>by kernel_rfl)
def bo.sg:SG Tryz.prog:=⟨124,aP,bo.E,.fn 1 (by kernel_rfl) bo.ok (And.intro (.dp bo.L0.ok (by kernel_rfl)) trivial)⟩
theorem bo.c{n:ByteArray}(h:n.size<=100)(a b:Int):bo.call (n,[a,b])=some (tC n a b):=bo.run (d:=(n,[a,b])) ⟨h,rfl⟩
theorem dZ.c{k:Int}(h:iy k):dZ.call k=some (fy k):=dZ.run (d:=k) h
theorem jw.c{a b:Int}(h:iy a)(h2:iy b):jw.call (a,b)=some (uY [a,b]):=jw.run (d:=(a,b)) ⟨h,h2⟩
theorem eL.c{a b:Int}(h:iy a)(h2:iy b):eL.call (a,b)=some (oH a b):=eL.run (d:=(a,b)) ⟨h,h2⟩
theorem jD.c{a b:Int}(h:iy a)(h2:iy b):jD.call (a,b)=some (yK a b):=jD.run (d:=(a,b)) ⟨h,h2⟩
theorem jS.c{a b:Int}(h:iy a)(h2:iy b):jS.call (a,b)=some (BJ a b):=jS.run (d:=(a,b)) ⟨h,h2⟩
theorem cC.c{s:List Int}(h:Sm s):cC.call s=some (kT s):=cC.run (d:=s) h
theorem RH(a b:Int):bo.call ((⟨#[109,105,120]⟩:ByteArray),[a,b])=some (tC Py a b):=bo.c (n:=Py) (by decide) a b
theorem Fv(a b:Int):bo.call ((⟨#[114,101,118,111,107,101]⟩:ByteArray),[a,b])=some (tC ud a b):=bo.c (n:=ud) (by decide) a b
theorem HE(a b:Int):iy (oH a b):=(EB _ _).u
abbrev eu.D:=pE
def eu.st:eu.D->SA:=λkv=>([.d rU kv],[])
abbrev eu.Y:=Kz
abbrev eu.X:=Kz
def eu.out:eu.X->aX:=λx=>⟨.d qo x,[],[]⟩
def eu.add:eu.D->eu.Y->eu.X:=λkv y=>y
def eu.az:eu.D->Prop:=λk=>EU k
def eu.F:eu.D->eu.Y:=λk=>uw k
def eu.G:fD:=gr (P:=Tryz.prog) [dZ.sg]
def eu.an:fR:= {}
def eu.A:= @dm Tryz.prog eu.G eu.an 0 Tryz.f13 _ eu.st
abbrev eu.Ok:=dn @eu.A eu.az eu.add eu.F eu.out
theorem eu.eq{R:Type}(kv:pE)(k:aX->Option R):eu.A kv k=
 ah (dZ.call kv.1) λx1=>
 ah (dZ.call kv.2.1) λx2=>
 ah (dZ.call kv.2.2.1) λx3=>
 ah (dZ.call kv.2.2.2.1) λx4=>
 ah (dZ.call kv.2.2.2.2.1) λx5=>
 k (eu.out (x1,(x2,(x3,(x4,(x5,())))))):=by kernel_rfl
theorem eu.ok:eu.Ok:=by
 rintro k ⟨h1,h2,h3,h4,h5⟩
 rw[eu.eq,dZ.c h1,ab,dZ.c h2,ab,dZ.c h3,ab,dZ.c h4,ab,dZ.c h5,ab]
 rfl
def eu.E:=Entry.dp [some rU] eu.st eu.az eu.add eu.F eu.out
def eu.call:eu.D->Option eu.X:=bX eu.E eu.st
theorem eu.run:b8 eu.call eu.az eu.add eu.F:=dv (du [.d rU] λ_=>by kernel_rfl)
def eu.sg:SG Tryz.prog:=⟨13,aP,eu.E,.fn 0 (by kernel_rfl) eu.ok trivial⟩
abbrev eT.D:=Bs
def eT.st:eT.D->SA:=λsecret=>([.d tH secret],[])
abbrev eT.Y:=Int
abbrev eT.X:=Int
def eT.out:eT.X->aX:=λx=>⟨.d tu x,[],[]⟩
def eT.add:eT.D->eT.Y->eT.X:=λsecret y=>y
def eT.az:eT.D->Prop:=λs=>Sm s
def eT.F:eT.D->eT.Y:=λs=>l5 s
def eT.G:fD:=gr (P:=Tryz.prog) [cC.sg,dZ.sg]
def eT.an:fR:= {}
def eT.A:= @dm Tryz.prog eT.G eT.an 0 Tryz.f45 _ eT.st
abbrev eT.Ok:=dn @eT.A eT.az eT.add eT.F eT.out
theorem eT.eq{R:Type}(secret:Bs)(k:aX->Option R):eT.A secret k=
 ah (cC.call secret) λx1=>
 ah (dZ.call x1) λx2=>
 k (eT.out x2):=by kernel_rfl
theorem eT.ok:eT.Ok:=by
 intro s hs
 rw[eT.eq,cC.c hs,ab,dZ.c (vQ s),ab]
 rfl
def eT.E:=Entry.dp [some tH] eT.st eT.az eT.add eT.F eT.out
def eT.call:eT.D->Option eT.X:=bX eT.E eT.st
theorem eT.run:b8 eT.call eT.az eT.add eT.F:=dv (du [.d tB] λ_=>by kernel_rfl)
def eT.sg:SG Tryz.prog:=⟨45,aP,eT.E,.fn 0 (by kernel_rfl) eT.ok trivial⟩
theorem eT.c{s:List Int}(h:Sm s):eT.call s=some (l5 s):=eT.run (d:=s) h
abbrev jh.D:=Int×Int
def jh.st:jh.D->SA:=λ(base,per)=>([.d tu base,.d tu per],[])
abbrev jh.Y:=Int
abbrev jh.X:=Int
def jh.out:jh.X->aX:=λx=>⟨.d tu x,[],[]⟩
def jh.add:jh.D->jh.Y->jh.X:=λ(base,per) y=>y
def jh.az:jh.D->Prop:=λ(b,_)=>iy b
def jh.F:jh.D->jh.Y:=λ(b,p)=>vY b p
def jh.G:fD:=gr (P:=Tryz.prog) [bo.sg,dZ.sg,jw.sg]
def jh.an:fR:= {}
def jh.A:= @dm Tryz.prog jh.G jh.an 0 Tryz.f79 _ jh.st
abbrev jh.Ok:=dn @jh.A jh.az jh.add jh.F jh.out
theorem jh.eq{R:Type}(base:Int)(per:Int)(k:aX->Option R):jh.A (base,per) k=
 ah (bo.call ((⟨#[109,105,120]⟩:ByteArray),[per,base])) λx1=>
 ah (dZ.call x1) λx2=>
 ah (jw.call (base,x2)) λx3=>
 k (jh.out x3):=by kernel_rfl
theorem jh.ok:jh.Ok:=by
 rintro⟨b,p⟩ hb
 rw[jh.eq,RH,ab,dZ.c (BZ Py p b),ab,jw.c hb (uz _),ab]
 have ea:∀d y,jh.add d y=y:=λ_ _=>rfl
 have eF:jh.F (b,p)=vY b p:=rfl
 rw[ea,eF]
 unfold vY
 rfl
def jh.E:=Entry.dp [some tu,some tu] jh.st jh.az jh.add jh.F jh.out
def jh.call:jh.D->Option jh.X:=bX jh.E jh.st
theorem jh.run:b8 jh.call jh.az jh.add jh.F:=dv (du [.d tu,.d tu] λ_=>by kernel_rfl)
def jh.sg:SG Tryz.prog:=⟨79,aP,jh.E,.fn 0 (by kernel_rfl) jh.ok trivial⟩
abbrev dF.D:=Int×Int
def dF.st:dF.D->SA:=λ(base,per)=>([.d tu base,.d tu per],[])
abbrev dF.Y:=Int
abbrev dF.X:=Int
def dF.out:dF.X->aX:=λx=>⟨.d tu x,[],[]⟩
def dF.add:dF.D->dF.Y->dF.X:=λ(base,per) y=>y
def dF.az:dF.D->Prop:=λ(b,p)=>iy b/\iy p
def dF.F:dF.D->dF.Y:=λ(b,p)=>uU b p
def dF.G:fD:=gr (P:=Tryz.prog) [bo.sg,eL.sg,jw.sg]
def dF.an:fR:= {}
def dF.A:= @dm Tryz.prog dF.G dF.an 0 Tryz.f78 _ dF.st
abbrev dF.Ok:=dn @dF.A dF.az dF.add dF.F dF.out
theorem dF.eq{R:Type}(base:Int)(per:Int)(k:aX->Option R):dF.A (base,per) k=
 ah (bo.call ((⟨#[114,101,118,111,107,101]⟩:ByteArray),[base,per])) λx1=>
 ah (eL.call (base,x1)) λx2=>
 ah (bo.call ((⟨#[114,101,118,111,107,101]⟩:ByteArray),[per,base])) λx3=>
 ah (eL.call (per,x3)) λx4=>
 ah (jw.call (x2,x4)) λx5=>
 k (dF.out x5):=by kernel_rfl
theorem dF.ok:dF.Ok:=by
 rintro⟨b,p⟩ ⟨hb,hp⟩
 have hb:iy b:=hb
 have hp:iy p:=hp
 have e1:=Fv b p
 have e2:=Fv p b
 have u1:=BZ ud b p
 have u2:=BZ ud p b
 have ea:∀d y,dF.add d y=y:=λ_ _=>rfl
 have eF:dF.F (b,p)=uU b p:=rfl
 rw[ea,eF]
 unfold uU
 generalize tC ud b p=x at e1 u1
 generalize tC ud p b=y at e2 u2
 have q1:=eL.c hb u1
 have q2:=eL.c hp u2
 have q3:=jw.c (HE b x) (HE p y)
 generalize oH b x=v at q1 q3
 generalize oH p y=w at q2 q3
 generalize uY [v,w]=z at q3
 rw[dF.eq,e1,ab,q1,ab,e2,ab,q2,ab,q3,ab]
def dF.E:=Entry.dp [some tu,some tu] dF.st dF.az dF.add dF.F dF.out
def dF.call:dF.D->Option dF.X:=bX dF.E dF.st
theorem dF.run:b8 dF.call dF.az dF.add dF.F:=dv (du [.d tu,.d tu] λ_=>by kernel_rfl)
def dF.sg:SG Tryz.prog:=⟨78,aP,dF.E,.fn 0 (by kernel_rfl) dF.ok trivial⟩
abbrev dJ.D:=Int×Bs
def dJ.st:dJ.D->SA:=λ(base,secret)=>([.d tu base,.d tH secret],[])
abbrev dJ.Y:=Int
abbrev dJ.X:=Int
def dJ.out:dJ.X->aX:=λx=>⟨.d tu x,[],[]⟩
def dJ.add:dJ.D->dJ.Y->dJ.X:=λ(base,secret) y=>y
def dJ.az:dJ.D->Prop:=λ(b,s)=>iy b/\Sm s
def dJ.F:dJ.D->dJ.Y:=λ(b,s)=>sm b s
def dJ.G:fD:=gr (P:=Tryz.prog) [dZ.sg,eT.sg,bo.sg,jD.sg,cC.sg,jS.sg]
def dJ.an:fR:= {}
def dJ.A:= @dm Tryz.prog dJ.G dJ.an 0 Tryz.f73 _ dJ.st
abbrev dJ.Ok:=dn @dJ.A dJ.az dJ.add dJ.F dJ.out
theorem dJ.eq{R:Type}(base:Int)(secret:Bs)(k:aX->Option R):dJ.A (base,secret) k=
 ah (dZ.call base) λx1=>
 ah (eT.call secret) λx2=>
 ah (bo.call ((⟨#[114,101,118,111,107,101]⟩:ByteArray),[x1,x2])) λx3=>
 ah (jD.call (base,x3)) λx4=>
 ah (cC.call secret) λx5=>
 ah (bo.call ((⟨#[114,101,118,111,107,101]⟩:ByteArray),[x2,x1])) λx6=>
 ah (jD.call (x5,x6)) λx7=>
 ah (jS.call (x4,x7)) λx8=>
 k (dJ.out x8):=by kernel_rfl
theorem dJ.ok:dJ.Ok:=by
 rintro⟨b,s⟩ ⟨hb,hs⟩
 rw[dJ.eq,dZ.c hb,ab,eT.c hs,ab,Fv,ab,jD.c hb (BZ ud _ _),ab,cC.c hs,ab,Fv,ab,jD.c (vQ s) (BZ ud _ _),ab,jS.c (yL _ _).u (yL _ _).u,ab]
 have ea:∀d y,dJ.add d y=y:=λ_ _=>rfl
 have eF:dJ.F (b,s)=sm b s:=rfl
 rw[ea,eF]
 unfold sm
 rfl
def dJ.E:=Entry.dp [some tu,some tH] dJ.st dJ.az dJ.add dJ.F dJ.out
def dJ.call:dJ.D->Option dJ.X:=bX dJ.E dJ.st
theorem dJ.run:b8 dJ.call dJ.az dJ.add dJ.F:=dv (du [.d tu,.d tB] λ_=>by kernel_rfl)
def dJ.sg:SG Tryz.prog:=⟨73,aP,dJ.E,.fn 0 (by kernel_rfl) dJ.ok trivial⟩
theorem jh.c{b:Int}(h:iy b)(p:Int):jh.call (b,p)=some (vY b p):=by
 have ea:∀d y,jh.add d y=y:=λ_ _=>rfl
 have eF:jh.F (b,p)=vY b p:=rfl
 rw[jh.run (d:=(b,p)) h,ea,eF]
theorem dF.c{b p:Int}(h:iy b)(h2:iy p):dF.call (b,p)=some (uU b p):=by
 have ea:∀d y,dF.add d y=y:=λ_ _=>rfl
 have eF:dF.F (b,p)=uU b p:=rfl
 rw[dF.run (d:=(b,p)) ⟨h,h2⟩,ea,eF]
theorem dJ.c{b:Int}{s:List Int}(h:iy b)(h2:Sm s):dJ.call (b,s)=some (sm b s):=by
 have ea:∀d y,dJ.add d y=y:=λ_ _=>rfl
 have eF:dJ.F (b,s)=sm b s:=rfl
 rw[dJ.run (d:=(b,s)) ⟨h,h2⟩,ea,eF]
abbrev gF.D:=Int
def gF.st:gF.D->SA:=λn=>([.d ti n],[])
abbrev gF.Y:=Bool
abbrev gF.X:=Bool
def gF.out:gF.X->aX:=λx=>⟨.d .bool x,[],[]⟩
def gF.add:gF.D->gF.Y->gF.X:=λn y=>y
def gF.az:gF.D->Prop:=λ_=>True
def gF.F:gF.D->gF.Y:=λn=>decide (n=0\/n=1)
def gF.G:fD:=gr (P:=Tryz.prog) []
def gF.an:fR:= {}
def gF.A:= @dm Tryz.prog gF.G gF.an 0 Tryz.f40 _ gF.st
abbrev gF.Ok:=dn @gF.A gF.az gF.add gF.F gF.out
theorem gF.eq{R:Type}(n:Int)(k:aX->Option R):gF.A n k=
  aJ ((mV n (0:Int))) (
   k (gF.out true)) (
   k (gF.out (mV n (1:Int)))):=by kernel_rfl
theorem gF.ok:gF.Ok:=by
 intro(n:Int) _
 rw[gF.eq]
 simp only[gF.add,gF.F]
 by_cases h:n=0
 ·rw[fA h,ae,aM (.inl h)]
 ·rw[fJ h,ai]
  by_cases h2:n=1
  ·rw[fA h2,aM (.inr h2)]
  ·rw[fJ h2,cq (by rintro(x | x);exact h x;exact h2 x)]
def gF.E:=Entry.dp [some ti] gF.st gF.az gF.add gF.F gF.out
def gF.call:gF.D->Option gF.X:=bX gF.E gF.st
theorem gF.run:b8 gF.call gF.az gF.add gF.F:=dv (du [.d ti] λ_=>by kernel_rfl)
def gF.sg:SG Tryz.prog:=⟨40,aP,gF.E,.fn 0 (by kernel_rfl) gF.ok trivial⟩
abbrev bP.L0.D:=Int×iP×Nat×(List jj)×Int×Int×(List jj)
def bP.L0.st:bP.L0.D->AS:=λ(qi,jC,outL,t11,t12,t13,Pw)=>⟨([.undef,.undef,.d ti qi,.gE mW jC,.undef,.undef,.undef,.di (.new 27 0) 0 [] 0 0 outL,.undef,.undef,.undef,.d (.slice kf) t11,.d ti t12,.d ti t13]++bG 16 []),[],(dh 27 [[.obj 0 false (.vec 75 kf Pw)],[],[]])⟩
abbrev bP.L0.Y0:=Nat×(List jj)
abbrev bP.L0.X0:=Nat×(List jj)
def bP.L0.bY:bP.L0.X0->Exit×AS:=λx=>(.exit 0,⟨(bG 7 ([.di (.new 27 0) 0 [] 0 0 x.1]++bG 22 [])),[],(dh 27 [[.obj 0 false (.vec 75 kf x.2)],[],[]])⟩)
abbrev bP.L0.X:=bP.L0.X0
abbrev bP.L0.Y:=bP.L0.Y0
def bP.L0.out:bP.L0.X->Out (Exit×AS):=λx=> .ok (bP.L0.bY x)
def bP.L0.add:bP.L0.D->bP.L0.Y->bP.L0.X:=λ(qi,jC,outL,t11,t12,t13,Pw) y=>y
abbrev bP.D:=iP×jk×Int
def bP.st:bP.D->SA:=λ(ch,sv,own)=>([.d mW ch,.d mu sv,.d ti own],[])
abbrev bP.Y:=(List jj)
abbrev bP.X:=(List jj)
def bP.out:bP.X->aX:=λx=>⟨.d (.slice kf) x,[],[]⟩
def bP.add:bP.D->bP.Y->bP.X:=λ(ch,sv,own) y=>y
def FM(n:Int):Bool:=qu n 100
def ja(l:List jj):List jj:=l.filter λc=>FM c.2.2.1
theorem AX(c:jj)(l:List jj):ja (c::l)=if FM c.2.2.1=true then c::ja l else ja l:=by
 unfold ja
 rw[iw]
def bP.L0.az:bP.L0.D->Prop:=λ(own,ch,L,l,m,i,row)=>mX ch/\(own=0\/own=1)/\l.length<=1000/\m=l.length/\L=row.length/\∃k:Nat,k<=l.length/\i=k/\row.length<=k
def bP.L0.F:bP.L0.D->bP.L0.Y:=λ(own,ch,L,l,m,i,row)=>((row++ja (l.drop i.toNat)).length,row++ja (l.drop i.toNat))
def bP.az:bP.D->Prop:=λ(ch,s,own)=>mX ch/\(own=0\/own=1)/\s.2.2.1.length<=1000
def bP.F:bP.D->bP.Y:=λ(_,s,_)=>ja s.2.2.1
def bP.G:fD:=gr (P:=Tryz.prog) [dT.sg]
def bP.L0.E:=cU.dp bP.L0.st bP.L0.az bP.L0.add bP.L0.F bP.L0.out
def bP.L0.call:bP.L0.D->Option bP.L0.X:=eI bP.L0.E bP.L0.st
def bP.an:fR:= {loops:=om [(3,{bO:=[2,3,7,11,12,13],sites:=[27],nR:=[⟨7,[],27,51⟩]})],outs:=oh [(3,{bO:=[7],sites:=[27]},{bO:=[6]})],jo:=pb [(3,bP.L0.E)],res:=[some (.slice kf)]}
def bP.A:= @dm Tryz.prog bP.G bP.an 0 Tryz.f84 _ bP.st
abbrev bP.Ok:=dn @bP.A bP.az bP.add bP.F bP.out
def bP.L0.R:= @dr Tryz.prog bP.G bP.an 0 Tryz.f84 0 _ bP.L0.st
abbrev bP.L0.Ok:=gz Tryz.prog bP.G bP.an 0 Tryz.f84 0 bP.L0.st bP.L0.az bP.L0.add bP.L0.F bP.L0.out
theorem bP.L0.run:b8 bP.L0.call bP.L0.az bP.L0.add bP.L0.F:=gR (gJ [.d ti,.d mW,.n,.d (.slice kf),.d ti,.d ti,.d (.slice kf)] λ_=>by kernel_rfl)
theorem bP.L0.aI:jl @bP.L0.R bP.L0.st bP.L0.az bP.L0.add bP.L0.F bP.L0.bY bP.L0.Ok:=js
theorem bP.L0.step{R:Type}(qi:Int)(jC:iP)(outL:Nat)(t11:(List jj))(t12:Int)(t13:Int)(Pw:(List jj))(kn:AS->Option R)(kx:Exit->AS->Option R):bP.L0.R (qi,jC,outL,t11,t12,t13,Pw) kn kx=
  aJ ((jM t13 t12)) (
   aJ (fB t13 (((List.length t11):Nat):Int)) (
   aJ (fB qi (2:Int)) (
   ah (dT.call ((nth oI jC.2.2.2.1 (Int.toNat qi)),(nth kf t11 (Int.toNat t13)).2.2.1)) λx1=>
   aJ (x1) (
    aJ (decide (outL<=(List.length Pw))) (
    aJ (fq (outL+1) 40) (
    kn (bP.L0.st (qi,jC,(outL+1),t11,t12,(bV .i64 t13 (1:Int)),((List.take outL Pw)++ [(nth kf t11 (Int.toNat t13))])))) none) none) (
    kn (bP.L0.st (qi,jC,outL,t11,t12,(bV .i64 t13 (1:Int)),Pw)))) none) none) (
   kx (bP.L0.bY (outL,Pw)).1 (bP.L0.bY (outL,Pw)).2):=by kernel_rfl
theorem bP.eq{R:Type}(ch:iP)(sv:jk)(own:Int)(k:aX->Option R):bP.A (ch,sv,own) k=
 ah (bP.L0.call (own,ch,0,sv.2.2.1,(((List.length sv.2.2.1):Nat):Int),(0:Int),([]:List jj))) λx3=>
 aJ (decide (0=0/\(0+x3.1)<=(List.length x3.2))) (
 k (bP.out (cut x3.2 0 x3.1))) none:=by kernel_rfl
theorem mX.shown{ch:iP}(h:mX ch){own:Int}(ho:own=0\/own=1)(n:Int):dT.call (nth oI ch.2.2.2.1 own.toNat,n)=some (FM n):=by
 obtain⟨d,hd,_⟩:=h.t ho
 rw[hd,dT.run (d:=(te d,n)) trivial]
 rfl
theorem bP.L0.ok:bP.L0.Ok:=by
 refine bP.L0.aI (λ(_,_,_,l,_,i,_)=>l.length - i.toNat) ?_
 rintro⟨own,ch,L,l,m,i,row⟩ ⟨fI,ho,hl,rfl,rfl,k,hk,rfl,hr⟩
 have hk:k<=l.length:=hk
 have hl:l.length<=1000:=hl
 have hr:row.length<=k:=hr
 have ho:own=0\/own=1:=ho
 have fI:mX ch:=fI
 by_cases h:k < l.length
 ·left
  have n1:nth kf l k=l[k]:=dQ (t:=kf) h
  have hd:ja (l.drop k)=if FM l[k].2.2.1=true then l[k]::ja (l.drop (k+1)) else ja (l.drop (k+1)):=by rw[av h,AX]
  have e1:(row++ [l[k]]).length=row.length+1:=by rw[aj];rfl
  cases hs:FM l[k].2.2.1
  ·refine⟨(own,ch,row.length,l,(l.length:Int),((k+1:Nat):Int),row),⟨fI,ho,hl,rfl,rfl,k+1,by omega,rfl,by show row.length<=_;omega⟩,by simp only[aa];omega,?_,λkn kx=> ?_⟩
   ·rw[hs,if_neg (by simp)]at hd
    simp only[bP.L0.add,bP.L0.F,aa,hd]
   ·rw[bP.L0.step,bI (by omega),bF (by omega) (by omega),bF (by omega) (by omega),aa,n1,fI.shown ho,hs,N.pF (by omega)]
    rfl
  ·refine⟨(own,ch,row.length+1,l,(l.length:Int),((k+1:Nat):Int),row++ [l[k]]),⟨fI,ho,hl,rfl,e1.symm,k+1,by omega,rfl,by show(row++ [l[k]]).length<=_;omega⟩,by simp only[aa];omega,?_,λkn kx=> ?_⟩
   ·rw[hs,if_pos rfl]at hd
    simp only[bP.L0.add,bP.L0.F,aa,hd,bR,fp]
   ·rw[bP.L0.step,bI (by omega),bF (by omega) (by omega),bF (by omega) (by omega),aa,n1,fI.shown ho,hs,N.pF (by omega),aM (aE _),gk (by omega) (by omega),cQ]
    rfl
 ·right
  obtain rfl:k=l.length:=by omega
  intro R kn kx
  rw[bP.L0.step,bp (by omega),ai]
  simp only[bP.L0.add,bP.L0.F,aa,bB,ja,List.filter_nil,dg]
theorem bP.ok:bP.Ok:=by
 rintro⟨ch,s,own⟩ ⟨fI,ho,hl⟩
 rw[bP.eq,bP.L0.run (d:=(own,ch,0,s.2.2.1,(s.2.2.1.length:Int),0,[])) ⟨fI,ho,hl,rfl,rfl,0,bm _,rfl,bm _⟩]
 simp only[ab,bP.L0.add,bP.L0.F,bH,aW,bt,bP.add,bP.F]
 rw[aM ⟨trivial,by omega⟩,ae,jf (by omega)]
def bP.E:=Entry.dp [some mW,some mu,some ti] bP.st bP.az bP.add bP.F bP.out
def bP.call:bP.D->Option bP.X:=bX bP.E bP.st
theorem bP.run:b8 bP.call bP.az bP.add bP.F:=dv (du [.d mW,.d mu,.d ti] λ_=>by kernel_rfl)
def bP.sg:SG Tryz.prog:=⟨84,aP,bP.E,.fn 1 (by kernel_rfl) bP.ok (And.intro (.dp bP.L0.ok (by kernel_rfl)) trivial)⟩
def j5(ch:iP)(s:jk)(f:Int):Int:=nth ti s.2.1 f.toNat - (if f=ch.2.2.2.2.1 then Bm s.2.2.2.1 (ja s.2.2.1).length+660 else 0)
abbrev gq.D:=iP×jk×Int×Int
def gq.st:gq.D->SA:=λ(ch,sv,own,of)=>([.d mW ch,.d mu sv,.d ti own,.d ti of],[])
abbrev gq.Y:=Int
abbrev gq.X:=Int
def gq.out:gq.X->aX:=λx=>⟨.d ti x,[],[]⟩
def gq.add:gq.D->gq.Y->gq.X:=λ(ch,sv,own,of) y=>y
def gq.az:gq.D->Prop:=λ(ch,s,own,of)=>mX ch/\wB ch s/\(own=0\/own=1)/\(of=0\/of=1)
def gq.F:gq.D->gq.Y:=λ(ch,s,_,of)=>j5 ch s of
def gq.G:fD:=gr (P:=Tryz.prog) [bP.sg,gb.sg]
def gq.an:fR:= {}
def gq.A:= @dm Tryz.prog gq.G gq.an 0 Tryz.f42 _ gq.st
abbrev gq.Ok:=dn @gq.A gq.az gq.add gq.F gq.out
theorem gq.eq{R:Type}(ch:iP)(sv:jk)(own:Int)(of:Int)(k:aX->Option R):gq.A (ch,sv,own,of) k=
  aJ (fB of (2:Int)) (
  aJ ((mV of ch.2.2.2.2.1)) (
   ah (bP.call (ch,sv,own)) λx1=>
   ah (gb.call (sv.2.2.2.1,(((List.length x1):Nat):Int))) λx2=>
   k (gq.out (cY .i64 (nth ti sv.2.1 (Int.toNat of)) (bV .i64 x2 (660:Int))))) (
   k (gq.out (nth ti sv.2.1 (Int.toNat of))))) none:=by kernel_rfl
theorem gq.ok:gq.Ok:=by
 rintro⟨ch,s,own,of⟩ ⟨fI,hs,ho,hf⟩
 have fI:mX ch:=fI
 have hs:wB ch s:=hs
 have hf:of=0\/of=1:=hf
 have hl:=hs.len
 have hv:=hs.MU hf
 have Qa:=hv.1
 have TV:=hv.2
 have YU:=vM s.2.2.2.1 (ja s.2.2.1).length
 rw[gq.eq,bF (by omega) (by omega),ae]
 simp only[gq.add,gq.F,j5]
 by_cases h:of=ch.2.2.2.2.1
 ·rw[fA h,ae,bP.run (d:=(ch,s,own)) ⟨fI,ho,by show s.2.2.1.length<=1000;omega⟩]
  simp only[ab,bP.add,bP.F]
  rw[gb.run (d:=(s.2.2.2.1,((ja s.2.2.1).length:Int))) trivial]
  simp only[ab,gb.add,gb.F]
  rw[ff (by omega) (by omega),gQ (by omega) (by omega),if_pos h]
 ·rw[fJ h,ai,if_neg h,nX]
def gq.E:=Entry.dp [some mW,some mu,some ti,some ti] gq.st gq.az gq.add gq.F gq.out
def gq.call:gq.D->Option gq.X:=bX gq.E gq.st
theorem gq.run:b8 gq.call gq.az gq.add gq.F:=dv (du [.d mW,.d mu,.d ti,.d ti] λ_=>by kernel_rfl)
def gq.sg:SG Tryz.prog:=⟨42,aP,gq.E,.fn 0 (by kernel_rfl) gq.ok trivial⟩
end
end Go.Ab
namespace Go.Ab
open Go.Proofs
def MC(a b:my):Int:=NG [w7 a.1.1 b.1.1,Iv (cut a.2.2.1 0 32) (cut b.2.2.1 0 32),w7 a.2.1.1 b.2.1.1,w7 a.2.1.2.1.1 b.2.1.2.1.1,w7 a.2.1.2.1.2.1 b.2.1.2.1.2.1]
abbrev kq.D:=my×my
def kq.st:kq.D->SA:=λ(a,b)=>([.d nS a,.d nS b],[])
abbrev kq.Y:=Int
abbrev kq.X:=Int
def kq.out:kq.X->aX:=λx=>⟨.d ti x,[],[]⟩
def kq.add:kq.D->kq.Y->kq.X:=λ(a,b) y=>y
def kq.az:kq.D->Prop:=λ_=>True
def kq.F:kq.D->kq.Y:=λ(a,b)=>MC a b
def kq.G:fD:=gr (P:=Tryz.prog) [iQ.sg,kg.sg,iK.sg]
def kq.an:fR:= {}
def kq.A:= @dm Tryz.prog kq.G kq.an 0 Tryz.f86 _ kq.st
abbrev kq.Ok:=dn @kq.A kq.az kq.add kq.F kq.out
theorem kq.eq{R:Type}(a:my)(b:my)(k:aX->Option R):kq.A (a,b) k=
 ah (iQ.call (a.1.1,b.1.1)) λx1=>
 ah (kg.call ((cut a.2.2.1 0 32),(cut b.2.2.1 0 32))) λx2=>
 ah (iQ.call (a.2.1.1,b.2.1.1)) λx3=>
 ah (iQ.call (a.2.1.2.1.1,b.2.1.2.1.1)) λx4=>
 ah (iQ.call (a.2.1.2.1.2.1,b.2.1.2.1.2.1)) λx5=>
 ah (iK.call [x1,x2,x3,x4,x5]) λx6=>
 k (kq.out x6):=by kernel_rfl
theorem kq.ok:kq.Ok:=by
 rintro⟨a,b⟩ _
 have ci:∀x y:Int,iQ.call (x,y)=some (w7 x y):=λx y=>iQ.run (d:=(x,y)) trivial
 rw[kq.eq,kg.run (d:=(cut a.2.2.1 0 32,cut b.2.2.1 0 32)) trivial]
 simp only[ci,ab,kg.add,kg.F]
 rw[iK.run (by show 5<=_;decide)]
 rfl
def kq.E:=Entry.dp [some nS,some nS] kq.st kq.az kq.add kq.F kq.out
def kq.call:kq.D->Option kq.X:=bX kq.E kq.st
theorem kq.run:b8 kq.call kq.az kq.add kq.F:=dv (du [.d nS,.d nS] λ_=>by kernel_rfl)
def kq.sg:SG Tryz.prog:=⟨86,aP,kq.E,.fn 0 (by kernel_rfl) kq.ok trivial⟩
abbrev cz.L0.D:=Nat×Int×Int×Int×(List my)
def cz.L0.st:cz.L0.D->AS:=λ(mM,uu,ow,i,sJ)=>⟨([.di (.ew 0) 0 [] 0 0 mM,.d ti uu,.d ti ow,.fn 86 (.nil)]++bG 4 ([.d ti i]++bG 44 [])),[.obj 0 false (.vec 181 nS sJ)],(List.replicate 53 [])⟩
abbrev cz.L0.Y0:=(List my)
abbrev cz.L0.X0:=(List my)
def cz.L0.bY:cz.L0.X0->Exit×AS:=λx=>(.exit 0,⟨(bG 53 []),[.obj 0 false (.vec 181 nS x)],(List.replicate 53 [])⟩)
abbrev cz.L0.X:=cz.L0.X0
abbrev cz.L0.Y:=cz.L0.Y0
def cz.L0.out:cz.L0.X->Out (Exit×AS):=λx=> .ok (cz.L0.bY x)
def cz.L0.add:cz.L0.D->cz.L0.Y->cz.L0.X:=λ(mM,uu,ow,i,sJ) y=>y
abbrev cz.L1.D:=Nat×Int×Int×Int×Int×(List my)
def cz.L1.st:cz.L1.D->AS:=λ(km,Mp,Dw,kQ,j,pB)=>⟨([.di (.ew 0) 0 [] 0 0 km,.d ti Mp,.d ti Dw,.fn 86 (.nil)]++bG 4 ([.d ti kQ,.d ti j]++bG 43 [])),[.obj 0 false (.vec 181 nS pB)],(List.replicate 53 [])⟩
abbrev cz.L1.Y0:=(List my)
abbrev cz.L1.X0:=(Nat×Int×Int×Int)×((List my))
def cz.L1.bY:cz.L1.X0->Exit×AS:=λx=>(.exit 2,⟨([.di (.ew 0) 0 [] 0 0 x.1.1,.d ti x.1.2.1,.d ti x.1.2.2.1,.fn 86 (.nil)]++bG 4 ([.d ti x.1.2.2.2]++bG 44 [])),[.obj 0 false (.vec 181 nS x.2)],(List.replicate 53 [])⟩)
abbrev cz.L1.X:=cz.L1.X0
abbrev cz.L1.Y:=cz.L1.Y0
def cz.L1.out:cz.L1.X->Out (Exit×AS):=λx=> .ok (cz.L1.bY x)
def cz.L1.add:cz.L1.D->cz.L1.Y->cz.L1.X:=λ(km,Mp,Dw,kQ,j,pB) y=>((km,Mp,Dw,kQ),y)
abbrev cz.D:=Nat×Int×Int×(List my)
def cz.st:cz.D->SA:=λ(dataL,a,b,o0)=>([.di (.ew 0) 0 [] 0 0 dataL,.d ti a,.d ti b,.fn 86 (.nil)],[.obj 0 false (.vec 181 nS o0)])
abbrev cz.Y:=(List my)
abbrev cz.X:=(List my)
def cz.out:cz.X->aX:=λx=>⟨.nil,[.obj 0 false (.vec 181 nS x)],[]⟩
def cz.add:cz.D->cz.Y->cz.X:=λ(dataL,a,b,o0) y=>y
def My:Nat->List my->List my
 | 0,l=>l
 |j+1,l=>if MC (nth nS l (j+1)) (nth nS l j) < 0 then My j ((l.set (j+1) (nth nS l j)).set j (nth nS l (j+1))) else l
def GN:Nat->Nat->List my->List my
 | 0,_,l=>l
 |m+1,i,l=>GN m (i+1) (My i l)
def lP(l:List my):List my:=GN (l.length - 1) 1 l
theorem BQ:∀(j:Nat) (l:List my),j < l.length->(My j l).Perm l
 | 0,l,_=>jz _
 |j+1,l,h=>by
  rw[My]
  split
  ·have n1:nth nS l (j+1)=l[j+1]:=dQ (t:=nS) h
   have n2:nth nS l j=l[j]:=dQ (t:=nS) (by omega)
   refine(BQ j _ (by rw[ej,ej];omega)).trans ?_
   rw[n1,n2]
   exact List.set_set_perm h (by omega)
  ·exact jz _
theorem Es:∀(m i:Nat) (l:List my),i+m<=l.length->(GN m i l).Perm l
 | 0,_,_,_=>jz _
 |m+1,i,l,h=>by
  rw[GN]
  have hb:=BQ i l (by omega)
  exact(Es m (i+1) _ (by rw[hb.length_eq];omega)).trans hb
theorem mR(l:List my):(lP l).Perm l:=by
 unfold lP
 by_cases h:l.length=0
 ·have:l=[]:=dd h
  subst this
  exact jz _
 ·exact Es _ _ _ (by omega)
def cz.L1.az:cz.L1.D->Prop:=λ(n,a,b,i,j,l)=>n=l.length/\l.length<=1000/\a=0/\∃k:Nat,k < l.length/\j=k
def cz.L1.F:cz.L1.D->cz.L1.Y:=λ(n,a,b,i,j,l)=>My j.toNat l
def cz.L0.az:cz.L0.D->Prop:=λ(n,a,b,i,l)=>n=l.length/\l.length<=1000/\((a=0/\b=l.length/\∃k:Nat,i=k)\/i>=b)
def cz.L0.F:cz.L0.D->cz.L0.Y:=λ(n,a,b,i,l)=>GN (b - i).toNat i.toNat l
def cz.az:cz.D->Prop:=λ(n,a,b,l)=>n=l.length/\l.length<=1000/\((a=0/\b=l.length)\/(a=b/\0 < a/\a<=1000))
def cz.F:cz.D->cz.Y:=λ(n,a,b,l)=>if a=0 then lP l else l
def cz.G:fD:=gr (P:=Tryz.prog) [kq.sg]
def cz.L0.E:=cU.dp cz.L0.st cz.L0.az cz.L0.add cz.L0.F cz.L0.out
def cz.L0.call:cz.L0.D->Option cz.L0.X:=eI cz.L0.E cz.L0.st
def cz.L1.E:=cU.dp cz.L1.st cz.L1.az cz.L1.add cz.L1.F cz.L1.out
def cz.L1.call:cz.L1.D->Option cz.L1.X:=eI cz.L1.E cz.L1.st
def cz.an:fR:= {loops:=om [(1,{bO:=[0,1,2,3,8]}),(4,{bO:=[0,1,2,3,8,9]})],outs:=oh [(1,{},{}),(4,{bO:=[0,1,2,3,8]},{})],jo:=pb [(1,cz.L0.E),(4,cz.L1.E)]}
def cz.A:= @dm Tryz.prog cz.G cz.an 0 Tryz.f166 _ cz.st
abbrev cz.Ok:=dn @cz.A cz.az cz.add cz.F cz.out
def cz.L0.R:= @dr Tryz.prog cz.G cz.an 0 Tryz.f166 0 _ cz.L0.st
abbrev cz.L0.Ok:=gz Tryz.prog cz.G cz.an 0 Tryz.f166 0 cz.L0.st cz.L0.az cz.L0.add cz.L0.F cz.L0.out
def cz.L1.R:= @dr Tryz.prog cz.G cz.an 0 Tryz.f166 1 _ cz.L1.st
abbrev cz.L1.Ok:=gz Tryz.prog cz.G cz.an 0 Tryz.f166 1 cz.L1.st cz.L1.az cz.L1.add cz.L1.F cz.L1.out
theorem cz.L0.run:b8 cz.L0.call cz.L0.az cz.L0.add cz.L0.F:=gR (gJ [.n,.d ti,.d ti,.d ti,.d (.slice nS)] λ_=>by kernel_rfl)
theorem cz.L0.aI:jl @cz.L0.R cz.L0.st cz.L0.az cz.L0.add cz.L0.F cz.L0.bY cz.L0.Ok:=js
theorem cz.L0.step{R:Type}(mM:Nat)(uu:Int)(ow:Int)(i:Int)(sJ:(List my))(kn:AS->Option R)(kx:Exit->AS->Option R):cz.L0.R (mM,uu,ow,i,sJ) kn kx=
  aJ ((jM i ow)) (
   ah (cz.L1.call (mM,uu,ow,i,i,sJ)) λx1=>
   kn (cz.L0.st (x1.1.1,x1.1.2.1,x1.1.2.2.1,(bV .i64 x1.1.2.2.2 (1:Int)),x1.2))) (
   kx (cz.L0.bY sJ).1 (cz.L0.bY sJ).2):=by kernel_rfl
theorem cz.L1.run:b8 cz.L1.call cz.L1.az cz.L1.add cz.L1.F:=gR (gJ [.n,.d ti,.d ti,.d ti,.d ti,.d (.slice nS)] λ_=>by kernel_rfl)
theorem cz.L1.aI:jl @cz.L1.R cz.L1.st cz.L1.az cz.L1.add cz.L1.F cz.L1.bY cz.L1.Ok:=js
theorem cz.L1.step{R:Type}(km:Nat)(Mp:Int)(Dw:Int)(kQ:Int)(j:Int)(pB:(List my))(kn:AS->Option R)(kx:Exit->AS->Option R):cz.L1.R (km,Mp,Dw,kQ,j,pB) kn kx=
  aJ ((sh j Mp)) (
   aJ (fB j ((km:Nat):Int)) (
   aJ (decide ((0+(Int.toNat j)) < (List.length pB))) (
   aJ (decide ((((0+(Int.toNat j))*40)+0)=(0+((Int.toNat j)*40)))) (
   aJ (fB (cY .i64 j (1:Int)) ((km:Nat):Int)) (
   aJ (decide ((0+(Int.toNat (cY .i64 j (1:Int)))) < (List.length pB))) (
   aJ (decide ((((0+(Int.toNat (cY .i64 j (1:Int))))*40)+0)=(0+((Int.toNat (cY .i64 j (1:Int)))*40)))) (
   ah (kq.call ((nth nS pB (0+(Int.toNat j))),(nth nS pB (0+(Int.toNat (cY .i64 j (1:Int))))))) λx1=>
   aJ ((jM x1 (0:Int))) (
    aJ (fB (cY .i64 j (1:Int)) ((km:Nat):Int)) (
    aJ (decide ((0+(Int.toNat (cY .i64 j (1:Int)))) < (List.length pB))) (
    aJ (decide ((((0+(Int.toNat (cY .i64 j (1:Int))))*40)+0)=(0+((Int.toNat (cY .i64 j (1:Int)))*40)))) (
    aJ (fB j ((km:Nat):Int)) (
    aJ (decide ((0+(Int.toNat j)) < (List.length pB))) (
    aJ (decide ((((0+(Int.toNat j))*40)+0)=(0+((Int.toNat j)*40)))) (
    aJ (fB j ((km:Nat):Int)) (
    aJ (decide ((0+(Int.toNat j)) < (List.length pB))) (
    aJ (decide ((((0+(Int.toNat j))*40)+0)=(0+((Int.toNat j)*40)))) (
    aJ (decide ((0+(Int.toNat j)) < (List.length pB))) (
    aJ (fB (cY .i64 j (1:Int)) ((km:Nat):Int)) (
    aJ (decide ((0+(Int.toNat (cY .i64 j (1:Int)))) < (List.length (List.set pB (0+(Int.toNat j)) (nth nS pB (0+(Int.toNat (cY .i64 j (1:Int))))))))) (
    aJ (decide ((((0+(Int.toNat (cY .i64 j (1:Int))))*40)+0)=(0+((Int.toNat (cY .i64 j (1:Int)))*40)))) (
    aJ (decide ((0+(Int.toNat (cY .i64 j (1:Int)))) < (List.length (List.set pB (0+(Int.toNat j)) (nth nS pB (0+(Int.toNat (cY .i64 j (1:Int))))))))) (
    kn (cz.L1.st (km,Mp,Dw,kQ,(cY .i64 j (1:Int)),(List.set (List.set pB (0+(Int.toNat j)) (nth nS pB (0+(Int.toNat (cY .i64 j (1:Int)))))) (0+(Int.toNat (cY .i64 j (1:Int)))) (nth nS pB (0+(Int.toNat j))))))) none) none) none) none) none) none) none) none) none) none) none) none) none) none) (
    kx (cz.L1.bY ((km,Mp,Dw,kQ),pB)).1 (cz.L1.bY ((km,Mp,Dw,kQ),pB)).2)) none) none) none) none) none) none) (
   kx (cz.L1.bY ((km,Mp,Dw,kQ),pB)).1 (cz.L1.bY ((km,Mp,Dw,kQ),pB)).2):=by kernel_rfl
theorem cz.eq{R:Type}(dataL:Nat)(a:Int)(b:Int)(o0:(List my))(k:aX->Option R):cz.A (dataL,a,b,o0) k=
 ah (cz.L0.call (dataL,a,b,(bV .i64 a (1:Int)),o0)) λx3=>
 k (cz.out x3):=by kernel_rfl
theorem cz.L1.ok:cz.L1.Ok:=by
 refine cz.L1.aI (λ(n,a,b,i,j,l)=>j.toNat) ?_
 rintro⟨n,a,b,i,j,l⟩ ⟨rfl,hl,rfl,k,hk,rfl⟩
 have hk:k < l.length:=hk
 have hl:l.length<=1000:=hl
 cases k with
 |zero=>
  right
  intro R kn kx
  rw[cz.L1.step,dY (by omega),ai]
  rfl
 |succ k=>
  have e:cY .i64 ((k+1:Nat):Int) 1=(k:Int):=by rw[gQ (by omega) (by omega)];omega
  have e1:((l.set (k+1) (nth nS l k)).length)=l.length:=ej
  have c1:kq.call (nth nS l (k+1),nth nS l k)=some (MC (nth nS l (k+1)) (nth nS l k)):=kq.run (d:=(nth nS l (k+1),nth nS l k)) trivial
  have step:∀ {R:Type} (kn:AS->Option R) (kx:Exit->AS->Option R),cz.L1.R (l.length,0,b,i,((k+1:Nat):Int),l) kn kx=aJ (decide (MC (nth nS l (k+1)) (nth nS l k) < 0)) (kn (cz.L1.st (l.length,0,b,i,(k:Int),(l.set (k+1) (nth nS l k)).set k (nth nS l (k+1))))) (kx (cz.L1.bY ((l.length,0,b,i),l)).1 (cz.L1.bY ((l.length,0,b,i),l)).2):=by
   intro R kn kx
   rw[cz.L1.step,e,aa,aa]
   simp only[bl]
   rw[e1,c1,fE (by omega),bF (by omega) (by omega),bF (i:=(k:Int)) (by omega) (by omega),aM hk,aM (show k < l.length by omega),aM (show(k+1)*40+0=(k+1)*40 from rfl),aM (show k*40+0=k*40 from rfl)]
   simp only[ae,ab]
   rfl
  by_cases hc:MC (nth nS l (k+1)) (nth nS l k) < 0
  ·left
   refine⟨(l.length,0,b,i,(k:Int),(l.set (k+1) (nth nS l k)).set k (nth nS l (k+1))),⟨by rw[ej,ej],by show(List.set _ _ _).length<=1000;rw[ej,ej];exact hl,rfl,k,by show k < (List.set _ _ _).length;rw[ej,ej];omega,rfl⟩,by simp only[aa];omega,?_,λkn kx=> ?_⟩
   ·simp only[cz.L1.add,cz.L1.F,aa]
    rw[My,if_pos hc]
   ·rw[step,aM hc,ae]
  ·right
   intro R kn kx
   rw[step,cq hc,ai]
   simp only[cz.L1.add,cz.L1.F,aa]
   rw[My,if_neg hc]
theorem cz.L0.ok:cz.L0.Ok:=by
 refine cz.L0.aI (λ(n,a,b,i,l)=>(b - i).toNat) ?_
 rintro⟨n,a,b,i,l⟩ ⟨rfl,hl,h⟩
 have hl:l.length<=1000:=hl
 by_cases hi:i < b
 ·left
  rcases h with⟨rfl,rfl,k,rfl⟩ | h
  ·have hk:k < l.length:=by omega
   have hp:=BQ k l hk
   have wJ:(My k l).length=l.length:=hp.length_eq
   refine⟨(l.length,0,(l.length:Int),((k+1:Nat):Int),My k l),⟨wJ.symm,by show(My k l).length<=_;rw[wJ];exact hl,.inl ⟨rfl,by show(l.length:Int)=((My k l).length:Int);rw[wJ],k+1,rfl⟩⟩,by show((l.length:Int) - ((k+1:Nat):Int)).toNat < ((l.length:Int) - (k:Int)).toNat;omega,?_,λkn kx=> ?_⟩
   ·simp only[cz.L0.add,cz.L0.F,aa]
    rw[show((l.length:Int) - (k:Int)).toNat=((l.length:Int) - ((k+1:Nat):Int)).toNat+1 by omega,GN]
   ·rw[cz.L0.step,bI hi,ae,cz.L1.run (d:=(l.length,0,(l.length:Int),(k:Int),(k:Int),l)) ⟨rfl,hl,rfl,k,hk,rfl⟩]
    simp only[ab,cz.L1.add,cz.L1.F,aa]
    rw[N.pF (by omega)]
  ·exact absurd hi (by show ¬i < b;omega)
 ·right
  intro R kn kx
  rw[cz.L0.step,bp hi,ai]
  simp only[cz.L0.add,cz.L0.F]
  rw[show(b - i).toNat=0 by omega,GN]
theorem cz.ok:cz.Ok:=by
 rintro⟨n,a,b,l⟩ ⟨rfl,hl,h⟩
 have hl:l.length<=1000:=hl
 rw[cz.eq]
 rcases h with⟨rfl,rfl⟩ | ⟨rfl,h0,h1⟩
 ·rw[show bV .i64 0 1=1 from rfl,cz.L0.run (d:=(l.length,0,(l.length:Int),1,l)) ⟨rfl,hl,.inl ⟨rfl,rfl,1,rfl⟩⟩]
  simp only[ab,cz.L0.add,cz.L0.F,cz.add,cz.F,if_true,lP]
  rw[show((l.length:Int) - 1).toNat=l.length - 1 by omega]
  rfl
 ·have h1:a<=1000:=h1
  have h0:0 < a:=h0
  rw[ff (by omega) (by omega),cz.L0.run (d:=(l.length,a,a,a+1,l)) ⟨rfl,hl,.inr (by show a+1>=a;omega)⟩]
  simp only[ab,cz.L0.add,cz.L0.F,cz.add,cz.F]
  rw[show(a - (a+1)).toNat=0 by omega,GN,if_neg (by omega)]
def cz.E:=Entry.dp [none,some ti,some ti,none] cz.st cz.az cz.add cz.F cz.out
def cz.call:cz.D->Option cz.X:=bX cz.E cz.st
theorem cz.run:b8 cz.call cz.az cz.add cz.F:=dv (du [.n,.d ti,.d ti,.d (.slice nS)] λ_=>by kernel_rfl)
def cz.sg:SG Tryz.prog:=⟨166,aP,cz.E,.fn 2 (by kernel_rfl) cz.ok (And.intro (.dp cz.L0.ok (by kernel_rfl)) (And.intro (.dp cz.L1.ok (by kernel_rfl)) trivial))⟩
abbrev bf.L0.D:=Nat×Int×Int×Int×Int×(List my)
def bf.L0.st:bf.L0.D->AS:=λ(mM,vn,blockSize,a,b,sJ)=>⟨([.di (.ew 0) 0 [] 0 0 mM,.d ti vn,.fn 86 (.nil),.undef,.undef,.undef,.d ti blockSize,.d ti a,.d ti b]++bG 54 []),[.obj 0 false (.vec 181 nS sJ)],(List.replicate 63 [])⟩
abbrev bf.L0.Y0:=Int×(List my)
abbrev bf.L0.X0:=(Nat×Int×Int)×(Int×(List my))
def bf.L0.bY:bf.L0.X0->Exit×AS:=λx=>(.exit 0,⟨([.di (.ew 0) 0 [] 0 0 x.1.1,.d ti x.1.2.1,.fn 86 (.nil),.undef,.undef,.undef,.d ti x.1.2.2,.d ti x.2.1]++bG 55 []),[.obj 0 false (.vec 181 nS x.2.2)],(List.replicate 63 [])⟩)
abbrev bf.L0.X:=bf.L0.X0
abbrev bf.L0.Y:=bf.L0.Y0
def bf.L0.out:bf.L0.X->Out (Exit×AS):=λx=> .ok (bf.L0.bY x)
def bf.L0.add:bf.L0.D->bf.L0.Y->bf.L0.X:=λ(mM,vn,blockSize,a,b,sJ) y=>((mM,vn,blockSize),y)
abbrev bf.L1.D:=Nat×Int×Int×(List my)
def bf.L1.st:bf.L1.D->AS:=λ(km,SM,blockSize_2,pB)=>⟨([.di (.ew 0) 0 [] 0 0 km,.d ti SM,.fn 86 (.nil),.undef,.undef,.undef,.d ti blockSize_2]++bG 56 []),[.obj 0 false (.vec 181 nS pB)],(List.replicate 63 [])⟩
abbrev bf.L1.Y0:=(List my)
abbrev bf.L1.X0:=(List my)
def bf.L1.bY:bf.L1.X0->Exit×AS:=λx=>(.exit 2,⟨(bG 63 []),[.obj 0 false (.vec 181 nS x)],(List.replicate 63 [])⟩)
abbrev bf.L1.X:=bf.L1.X0
abbrev bf.L1.Y:=bf.L1.Y0
def bf.L1.out:bf.L1.X->Out (Exit×AS):=λx=> .ok (bf.L1.bY x)
def bf.L1.add:bf.L1.D->bf.L1.Y->bf.L1.X:=λ(km,SM,blockSize_2,pB) y=>y
abbrev bf.L2.D:=Nat×Int×Int×Int×Int×(List my)
def bf.L2.st:bf.L2.D->AS:=λ(E6,Wc,blockSize_3,uu,ow,RS)=>⟨([.di (.ew 0) 0 [] 0 0 E6,.d ti Wc,.fn 86 (.nil),.undef,.undef,.undef,.d ti blockSize_3,.d ti uu,.d ti ow]++bG 54 []),[.obj 0 false (.vec 181 nS RS)],(List.replicate 63 [])⟩
abbrev bf.L2.Y0:=Unit
abbrev bf.L2.X0:=Nat×Int×Int×Int×(List my)
def bf.L2.bY:bf.L2.X0->Exit×AS:=λx=>(.exit 4,⟨([.di (.ew 0) 0 [] 0 0 x.1,.d ti x.2.1,.fn 86 (.nil),.undef,.undef,.undef,.d ti x.2.2.1,.d ti x.2.2.2.1]++bG 55 []),[.obj 0 false (.vec 181 nS x.2.2.2.2)],(List.replicate 63 [])⟩)
abbrev bf.L2.X:=bf.L2.X0
abbrev bf.L2.Y:=bf.L2.Y0
def bf.L2.out:bf.L2.X->Out (Exit×AS):=λx=> .ok (bf.L2.bY x)
def bf.L2.add:bf.L2.D->bf.L2.Y->bf.L2.X:=λ(E6,Wc,blockSize_3,uu,ow,RS) y=>(E6,Wc,blockSize_3,uu,RS)
abbrev bf.D:=Nat×Int×(List my)
def bf.st:bf.D->SA:=λ(dataL,n,o0)=>([.di (.ew 0) 0 [] 0 0 dataL,.d ti n,.fn 86 (.nil)],[.obj 0 false (.vec 181 nS o0)])
abbrev bf.Y:=(List my)
abbrev bf.X:=(List my)
def bf.out:bf.X->aX:=λx=>⟨.nil,[.obj 0 false (.vec 181 nS x)],[]⟩
def bf.add:bf.D->bf.Y->bf.X:=λ(dataL,n,o0) y=>y
def bf.L0.az:bf.L0.D->Prop:=λ(m,n,z,a,b,l)=>m=l.length/\n=l.length/\z=20/\l.length<=20/\((a=0/\b=20)\/(a=20/\b=40))
def bf.L0.F:bf.L0.D->bf.L0.Y:=λ(m,n,z,a,b,l)=>if a=0/\n=20 then(20,lP l) else(a,l)
def bf.L1.az:bf.L1.D->Prop:=λ(m,n,z,l)=>n<=z
def bf.L1.F:bf.L1.D->bf.L1.Y:=λ(m,n,z,l)=>l
def bf.L2.az:bf.L2.D->Prop:=λ_=>False
def bf.L2.F:bf.L2.D->bf.L2.Y:=λ_=>()
def bf.az:bf.D->Prop:=λ(m,n,l)=>m=l.length/\n=l.length/\l.length<=20
def bf.F:bf.D->bf.Y:=λ(m,n,l)=>lP l
def bf.G:fD:=gr (P:=Tryz.prog) [cz.sg]
def bf.L0.E:=cU.dp bf.L0.st bf.L0.az bf.L0.add bf.L0.F bf.L0.out
def bf.L0.call:bf.L0.D->Option bf.L0.X:=eI bf.L0.E bf.L0.st
def bf.L1.E:=cU.dp bf.L1.st bf.L1.az bf.L1.add bf.L1.F bf.L1.out
def bf.L1.call:bf.L1.D->Option bf.L1.X:=eI bf.L1.E bf.L1.st
def bf.L2.E:=cU.dp bf.L2.st bf.L2.az bf.L2.add bf.L2.F bf.L2.out
def bf.L2.call:bf.L2.D->Option bf.L2.X:=eI bf.L2.E bf.L2.st
def bf.an:fR:= {loops:=om [(2,{bO:=[0,1,2,6,7,8]}),(7,{bO:=[0,1,2,6]}),(9,{bO:=[0,1,2,6,7,8]})],outs:=oh [(2,{bO:=[0,1,2,6,7]},{}),(7,{},{}),(9,{bO:=[0,1,2,6,7]},{})],jo:=pb [(2,bf.L0.E),(7,bf.L1.E),(9,bf.L2.E)]}
def bf.A:= @dm Tryz.prog bf.G bf.an 0 Tryz.f131 _ bf.st
abbrev bf.Ok:=dn @bf.A bf.az bf.add bf.F bf.out
def bf.L0.R:= @dr Tryz.prog bf.G bf.an 0 Tryz.f131 0 _ bf.L0.st
abbrev bf.L0.Ok:=gz Tryz.prog bf.G bf.an 0 Tryz.f131 0 bf.L0.st bf.L0.az bf.L0.add bf.L0.F bf.L0.out
def bf.L1.R:= @dr Tryz.prog bf.G bf.an 0 Tryz.f131 1 _ bf.L1.st
abbrev bf.L1.Ok:=gz Tryz.prog bf.G bf.an 0 Tryz.f131 1 bf.L1.st bf.L1.az bf.L1.add bf.L1.F bf.L1.out
abbrev bf.L2.Ok:=gz Tryz.prog bf.G bf.an 0 Tryz.f131 2 bf.L2.st bf.L2.az bf.L2.add bf.L2.F bf.L2.out
theorem bf.L0.run:b8 bf.L0.call bf.L0.az bf.L0.add bf.L0.F:=gR (gJ [.n,.d ti,.d ti,.d ti,.d ti,.d (.slice nS)] λ_=>by kernel_rfl)
theorem bf.L0.aI:jl @bf.L0.R bf.L0.st bf.L0.az bf.L0.add bf.L0.F bf.L0.bY bf.L0.Ok:=js
theorem bf.L0.step{R:Type}(mM:Nat)(vn:Int)(blockSize:Int)(a:Int)(b:Int)(sJ:(List my))(kn:AS->Option R)(kx:Exit->AS->Option R):bf.L0.R (mM,vn,blockSize,a,b,sJ) kn kx=
  aJ ((F6 b vn)) (
   ah (cz.call (mM,a,b,sJ)) λx1=>
   kn (bf.L0.st (mM,vn,blockSize,b,(bV .i64 b blockSize),x1))) (
   kx (bf.L0.bY ((mM,vn,blockSize),(a,sJ))).1 (bf.L0.bY ((mM,vn,blockSize),(a,sJ))).2):=by kernel_rfl
theorem bf.L1.run:b8 bf.L1.call bf.L1.az bf.L1.add bf.L1.F:=gR (gJ [.n,.d ti,.d ti,.d (.slice nS)] λ_=>by kernel_rfl)
theorem bf.L1.aI:jl @bf.L1.R bf.L1.st bf.L1.az bf.L1.add bf.L1.F bf.L1.bY bf.L1.Ok:=js
theorem bf.L1.step{R:Type}(km:Nat)(SM:Int)(blockSize_2:Int)(pB:(List my))(kn:AS->Option R)(kx:Exit->AS->Option R):bf.L1.R (km,SM,blockSize_2,pB) kn kx=
  aJ ((jM blockSize_2 SM)) (
   ah (bf.L2.call (km,SM,blockSize_2,(0:Int),(gY .i64 (2:Int) blockSize_2),pB)) λx1=>
   aJ ((jM (bV .i64 x1.2.2.2.1 x1.2.2.1) x1.2.1)) (
    none) (
    kn (bf.L1.st (x1.1,x1.2.1,(gY .i64 x1.2.2.1 (2:Int)),x1.2.2.2.2)))) (
   kx (bf.L1.bY pB).1 (bf.L1.bY pB).2):=by kernel_rfl
theorem bf.eq{R:Type}(dataL:Nat)(n:Int)(o0:(List my))(k:aX->Option R):bf.A (dataL,n,o0) k=
 ah (bf.L0.call (dataL,n,(20:Int),(0:Int),(20:Int),o0)) λx2=>
 ah (cz.call (x2.1.1,x2.2.1,x2.1.2.1,x2.2.2)) λx3=>
 ah (bf.L1.call (x2.1.1,x2.1.2.1,x2.1.2.2,x3)) λx5=>
 k (bf.out x5):=by kernel_rfl
theorem bf.L2.ok:bf.L2.Ok:=λd h=>h.elim
theorem bf.L1.ok:bf.L1.Ok:=by
 refine bf.L1.aI (λ_=>0) ?_
 rintro⟨m,n,z,l⟩ h
 have h:n<=z:=h
 right
 intro R kn kx
 rw[bf.L1.step,bp (by omega),ai]
 rfl
theorem bf.L0.ok:bf.L0.Ok:=by
 refine bf.L0.aI (λ(m,n,z,a,b,l)=>(40 - b).toNat) ?_
 rintro⟨m,n,z,a,b,l⟩ ⟨rfl,rfl,rfl,hl,h⟩
 have hl:l.length<=20:=hl
 rcases h with⟨rfl,rfl⟩ | ⟨rfl,rfl⟩
 ·by_cases Ss:l.length=20
  ·left
   have hp:=(mR l).length_eq
   refine⟨((lP l).length,((lP l).length:Int),20,20,40,lP l),⟨rfl,rfl,rfl,by show(lP l).length<=20;omega,.inr ⟨rfl,rfl⟩⟩,by show(40 - (40:Int)).toNat < (40 - (20:Int)).toNat;decide,?_,λkn kx=> ?_⟩
   ·simp only[bf.L0.add,bf.L0.F]
    rw[if_neg (λh=>absurd h.1 (by decide)),if_pos ⟨by trivial,by omega⟩,hp]
   ·rw[bf.L0.step,vT (by omega),ae,cz.run (d:=(l.length,0,20,l)) ⟨rfl,by show l.length<=1000;omega,.inl ⟨rfl,by show(20:Int)=(l.length:Int);omega⟩⟩]
    simp only[ab,cz.add,cz.F,if_true]
    rw[show bV .i64 20 20=40 from rfl,hp]
  ·right
   intro R kn kx
   rw[bf.L0.step,qC (by omega),ai]
   simp only[bf.L0.add,bf.L0.F]
   rw[if_neg (λh=>Ss (by have:=h.2;omega))]
 ·right
  intro R kn kx
  rw[bf.L0.step,qC (by omega),ai]
  simp only[bf.L0.add,bf.L0.F]
  rw[if_neg (λh=>absurd h.1 (by decide))]
theorem bf.ok:bf.Ok:=by
 rintro⟨m,n,l⟩ ⟨rfl,rfl,hl⟩
 have hl:l.length<=20:=hl
 have hp:=(mR l).length_eq
 rw[bf.eq,bf.L0.run (d:=(l.length,(l.length:Int),20,0,20,l)) ⟨rfl,rfl,rfl,hl,.inl ⟨rfl,rfl⟩⟩]
 simp only[ab,bf.L0.add,bf.L0.F,bf.add,bf.F]
 by_cases Ss:l.length=20
 ·rw[if_pos ⟨by trivial,by omega⟩]
  rw[cz.run (d:=(l.length,20,(l.length:Int),lP l)) ⟨by show l.length=(lP l).length;omega,by show(lP l).length<=1000;omega,.inr ⟨by show(20:Int)=(l.length:Int);omega,by decide,by decide⟩⟩]
  simp only[ab,cz.add,cz.F]
  rw[if_neg (by decide),bf.L1.run (d:=(l.length,(l.length:Int),20,lP l)) (by show(l.length:Int)<=20;omega)]
  rfl
 ·rw[if_neg (λh=>Ss (by have:=h.2;omega))]
  rw[cz.run (d:=(l.length,0,(l.length:Int),l)) ⟨rfl,by show l.length<=1000;omega,.inl ⟨rfl,rfl⟩⟩]
  simp only[ab,cz.add,cz.F,if_true]
  rw[bf.L1.run (d:=(l.length,(l.length:Int),20,lP l)) (by show(l.length:Int)<=20;omega)]
  rfl
def bf.E:=Entry.dp [none,some ti,none] bf.st bf.az bf.add bf.F bf.out
def bf.call:bf.D->Option bf.X:=bX bf.E bf.st
theorem bf.run:b8 bf.call bf.az bf.add bf.F:=dv (du [.n,.d ti,.d (.slice nS)] λ_=>by kernel_rfl)
def bf.sg:SG Tryz.prog:=⟨131,aP,bf.E,.fn 3 (by kernel_rfl) bf.ok (And.intro (.dp bf.L0.ok (by kernel_rfl)) (And.intro (.dp bf.L1.ok (by kernel_rfl)) (And.intro (.dp bf.L2.ok (by kernel_rfl)) trivial)))⟩
abbrev jU.D:=Nat×(List my)
def jU.st:jU.D->SA:=λ(xL,o0)=>([.di (.ew 0) 0 [] 0 0 xL,.fn 86 (.nil)],[.obj 0 false (.vec 181 nS o0)])
abbrev jU.Y:=(List my)
abbrev jU.X:=(List my)
def jU.out:jU.X->aX:=λx=>⟨.nil,[.obj 0 false (.vec 181 nS x)],[]⟩
def jU.add:jU.D->jU.Y->jU.X:=λ(xL,o0) y=>y
def jU.az:jU.D->Prop:=λ(m,l)=>m=l.length/\l.length<=20
def jU.F:jU.D->jU.Y:=λ(m,l)=>lP l
def jU.G:fD:=gr (P:=Tryz.prog) [bf.sg]
def jU.an:fR:= {}
def jU.A:= @dm Tryz.prog jU.G jU.an 0 Tryz.f85 _ jU.st
abbrev jU.Ok:=dn @jU.A jU.az jU.add jU.F jU.out
theorem jU.eq{R:Type}(xL:Nat)(o0:(List my))(k:aX->Option R):jU.A (xL,o0) k=
 ah (bf.call (xL,((xL:Nat):Int),o0)) λx1=>
 k (jU.out x1):=by kernel_rfl
theorem jU.ok:jU.Ok:=by
 rintro⟨m,l⟩ ⟨rfl,hl⟩
 rw[jU.eq,bf.run (d:=(l.length,(l.length:Int),l)) ⟨rfl,rfl,hl⟩]
 rfl
def jU.E:=Entry.dp [none,none] jU.st jU.az jU.add jU.F jU.out
def jU.call:jU.D->Option jU.X:=bX jU.E jU.st
theorem jU.run:b8 jU.call jU.az jU.add jU.F:=dv (du [.n,.d (.slice nS)] λ_=>by kernel_rfl)
def jU.sg:SG Tryz.prog:=⟨85,aP,jU.E,.fn 0 (by kernel_rfl) jU.ok trivial⟩
noncomputable section
def OH:jj:=((0:Int),((0:Int),((0:Int),((0:Int),((0:Int),())))))
theorem Nk:∃f:Lk->List Int,∀l,f l=UH l:=⟨_,λ_=>rfl⟩
def Wa:Lk->List Int:=Classical.choose Nk
theorem RK(l:Lk):Wa l=UH l:=Classical.choose_spec Nk l
theorem jv.c{l:Lk}(h:uq l):jv.call l=some (Wa l):=by
 rw[jv.run (d:=l) h,RK]
 simp only[jv.add,jv.F]
def F7(n:Int)(l:Lk)(r:xr):my:=((n,(l,())),(r,(Wa l,())))
abbrev iJ.D:=Int×Lk×xr
def iJ.st:iJ.D->SA:=λ(amount,l,role)=>([.d ti amount,.d qS l,.d FU role,.ptr (.ew 0) 0 [] 0],[.obj 0 false (.eU)])
abbrev iJ.Y:=(List my)
abbrev iJ.X:=(List my)
def iJ.out:iJ.X->aX:=λx=>⟨.nil,[.obj 0 false (.di (.new 0 0) 0 [] 0 0 1)],[.obj 0 false (.vec 181 nS x)]⟩
def iJ.add:iJ.D->iJ.Y->iJ.X:=λ(amount,l,role) y=>y
def iJ.az:iJ.D->Prop:=λ(n,l,r)=>uq l
def iJ.F:iJ.D->iJ.Y:=λ(n,l,r)=> [F7 n l r]
def iJ.G:fD:=gr (P:=Tryz.prog) [jv.sg]
def iJ.an:fR:= {}
def iJ.A:= @dm Tryz.prog iJ.G iJ.an 0 Tryz.f80 _ iJ.st
abbrev iJ.Ok:=dn @iJ.A iJ.az iJ.add iJ.F iJ.out
theorem iJ.eq{R:Type}(amount:Int)(l:Lk)(role:xr)(k:aX->Option R):iJ.A (amount,l,role) k=
 ah (jv.call l) λx1=>
 k (iJ.out [((amount,(l,())),(role,(x1,())))]):=by kernel_rfl
theorem iJ.ok:iJ.Ok:=by
 rintro⟨n,l,r⟩ hl
 rw[iJ.eq,jv.c hl]
 rfl
def iJ.E:=Entry.dp [some ti,some qS,some FU,none] iJ.st iJ.az iJ.add iJ.F iJ.out
def iJ.call:iJ.D->Option iJ.X:=bX iJ.E iJ.st
theorem iJ.run:b8 iJ.call iJ.az iJ.add iJ.F:=dv (du [.d ti,.d qS,.d FU] λ_=>by kernel_rfl)
def iJ.sg:SG Tryz.prog:=⟨80,aP,iJ.E,.fn 0 (by kernel_rfl) iJ.ok trivial⟩
abbrev iC.D:=Int×Lk×xr×Nat×(List my)
def iC.st:iC.D->SA:=λ(amount,l,role,o0L,o1)=>([.d ti amount,.d qS l,.d FU role,.ptr (.ew 0) 0 [] 0],[.obj 0 false (.di (.ew 1) 0 [] 0 0 o0L),.obj 0 false (.vec 181 nS o1)])
abbrev iC.Y:=Nat×(List my)
abbrev iC.X:=Nat×(List my)
def iC.out:iC.X->aX:=λx=>⟨.nil,[.obj 0 false (.di (.ew 1) 1 [] 0 0 x.1),.obj 1 false (.vec 181 nS x.2)],[]⟩
def iC.add:iC.D->iC.Y->iC.X:=λ(amount,l,role,o0L,o1) y=>y
def iC.az:iC.D->Prop:=λ(n,l,r,m,row)=>uq l/\m=row.length/\row.length<=1000
def iC.F:iC.D->iC.Y:=λ(n,l,r,m,row)=>(row.length+1,row++ [F7 n l r])
def iC.G:fD:=gr (P:=Tryz.prog) [jv.sg]
def iC.an:fR:= {}
def iC.A:= @dm Tryz.prog iC.G iC.an 0 Tryz.f80 _ iC.st
abbrev iC.Ok:=dn @iC.A iC.az iC.add iC.F iC.out
theorem iC.eq{R:Type}(amount:Int)(l:Lk)(role:xr)(o0L:Nat)(o1:(List my))(k:aX->Option R):iC.A (amount,l,role,o0L,o1) k=
 ah (jv.call l) λx1=>
 aJ (decide (o0L<=(List.length o1))) (
 aJ (fq (o0L+1) 112) (
 k (iC.out ((o0L+1),((List.take o0L o1)++ [((amount,(l,())),(role,(x1,())))])))) none) none:=by kernel_rfl
theorem iC.ok:iC.Ok:=by
 rintro⟨n,l,r,m,row⟩ ⟨hl,rfl,hr⟩
 have hr:row.length<=1000:=hr
 rw[iC.eq,jv.c hl,ab,aM (aE _),ae,gk (by omega) (by omega),ae,cQ]
 rfl
def iC.E:=Entry.dp [some ti,some qS,some FU,none] iC.st iC.az iC.add iC.F iC.out
def iC.call:iC.D->Option iC.X:=bX iC.E iC.st
theorem iC.run:b8 iC.call iC.az iC.add iC.F:=dv (du [.d ti,.d qS,.d FU,.n,.d (.slice nS)] λ_=>by kernel_rfl)
def iC.sg:SG Tryz.prog:=⟨80,aP,iC.E,.fn 0 (by kernel_rfl) iC.ok trivial⟩
def put.E:Entry:=Entry.alt RU [some ti,some qS,some FU,none] (X:=iJ.X) (Y:=iC.X) iJ.E.run iC.E.run iJ.E.out iC.E.out
def put.sg:SG Tryz.prog:=⟨80,aP,put.E,qq.alt iJ.sg.h iC.sg.h⟩
theorem iJ.at{n:Int}{l:Lk}{r:xr}(hl:uq l):Ik (Y:=iC.X) (iJ.call (n,l,r))=some ([F7 n l r],default):=by rw[iJ.run (d:=(n,l,r)) hl];rfl
theorem iC.at{n:Int}{l:Lk}{r:xr}{m:Nat}{row:List my}(hl:uq l)(hm:m=row.length)(hr:row.length<=1000):ym (X:=iJ.X) (iC.call (n,l,r,m,row))=some (default,row.length+1,row++ [F7 n l r]):=by rw[iC.run (d:=(n,l,r,m,row)) ⟨hl,hm,hr⟩];rfl
theorem zS{l:Lk}(h:∀b∈l.1,Si b)(h2:l.1.length<=100):uq l:=⟨h,by omega⟩
theorem Dy{p a d s:Int}(hp:iy p)(hs:iy s):Si ([p],(a,(d,(s,())))):=⟨λx hx=>by rw[aU.1 hx];exact hp,hs⟩
theorem uZ:iy 0:=⟨by decide,by decide⟩
theorem GZ{a b d:Int}(ha:iy a)(hb:iy b):uq (Az a b d):=zS (λx hx=>by
 rcases cE.1 hx with rfl | hx
 ·exact Dy hb uZ
 ·rw[aU.1 hx];exact Dy ha uZ) (by show 2<=_;decide)
theorem Bp{a:Int}(ha:iy a):uq (sX [a]):=zS (λx hx=>by rw[aU.1 hx];exact Dy ha uZ) (by show 1<=_;decide)
theorem uK{a:Int}(ha:iy a):uq (uv a):=zS (λx hx=>by
 rcases cE.1 hx with rfl | hx
 ·exact Dy ha uZ
 ·rw[aU.1 hx];exact⟨λy hy=>(by cases hy),uZ⟩) (by show 2<=_;decide)
def Ql(rev theirs mine wait:Int)(c:jj):Lk:=([([rev],((0:Int),((0:Int),((0:Int),())))),([theirs],((0:Int),((0:Int),(c.2.2.2.1,())))),([mine],(c.2.2.2.2.1,(wait,((0:Int),()))))],())
def Qm(rev theirs mine wait:Int)(c:jj):Lk:=([([rev],((0:Int),((0:Int),((0:Int),())))),([mine],((0:Int),(wait,(c.2.2.2.1,())))),([theirs],(c.2.2.2.2.1,((0:Int),((0:Int),()))))],())
theorem Qj{rev theirs mine wait:Int}{c:jj}(h1:iy rev)(h2:iy theirs)(h3:iy mine)(h4:iy c.2.2.2.1):uq (Ql rev theirs mine wait c):=zS (λx hx=>by
 rcases cE.1 hx with rfl | hx
 ·exact Dy h1 uZ
 rcases cE.1 hx with rfl | hx
 ·exact Dy h2 h4
 ·rw[aU.1 hx];exact Dy h3 uZ) (by show 3<=_;decide)
theorem Qk{rev theirs mine wait:Int}{c:jj}(h1:iy rev)(h2:iy theirs)(h3:iy mine)(h4:iy c.2.2.2.1):uq (Qm rev theirs mine wait c):=zS (λx hx=>by
 rcases cE.1 hx with rfl | hx
 ·exact Dy h1 uZ
 rcases cE.1 hx with rfl | hx
 ·exact Dy h3 h4
 ·rw[aU.1 hx];exact Dy h2 uZ) (by show 3<=_;decide)
def oz(own rev theirs mine wait:Int)(c:jj):my:=if c.1=own then F7 c.2.2.1 (Ql rev theirs mine wait c) ((5:Int),(c,())) else F7 c.2.2.1 (Qm rev theirs mine wait c) ((6:Int),(c,()))
def nm(ch:iP)(n:Int):Kz:=nth qo ch.2.2.1 n.toNat
def xp(ch:iP)(n:Int):Int:=(nth oI ch.2.2.2.1 n.toNat).2.2.1
def o3(ch:iP)(s:jk)(own per:Int):List my:=
 (if FM (j5 ch s own)=true then [F7 (j5 ch s own) (Az (vY (nm ch own).2.2.1 per) (uU (nm ch (1 - own)).2.2.2.2.1 per) (xp ch (1 - own))) ((1:Int),(OH,()))] else [])++
 ((if FM (j5 ch s (1 - own))=true then [F7 (j5 ch s (1 - own)) (sX [(nm ch (1 - own)).2.1]) ((2:Int),(OH,()))] else [])++
 ([F7 330 (uv (nm ch own).1) ((3:Int),(OH,())),F7 330 (uv (nm ch (1 - own)).1) ((4:Int),(OH,()))]++
 (ja s.2.2.1).map (oz own (uU (nm ch (1 - own)).2.2.2.2.1 per) (vY (nm ch (1 - own)).2.2.2.1 per) (vY (nm ch own).2.2.2.1 per) (xp ch (1 - own)))))
def ofRow(ch:iP)(s:jk)(own:Int)(l:List my):H5:=(([(ch.1,(((0:Int),(([]:List Sg),((0:Int),()))),()))],(l.map (λm=>m.1),(2*s.1+own,()))),(l.map (λm=>m.2.1),()))
def de(ch:iP)(s:jk)(own per:Int):H5:=ofRow ch s own (lP (o3 ch s own per))
def WE:H5:=((([]:List kX),(([]:List kI),((0:Int),()))),(([]:List xr),()))
def nw(ch:iP)(s:jk)(own per:Int):H5×Int:=if(decide (own=0\/own=1) && oM per)=true then(if xX ch s=true then(de ch s own per,0) else(WE,14)) else(WE,1)
abbrev bn.L0.D:=Int×iP×jk×Int×Int×Int×Int×(List jj)×Int×Int×(Int×Unit)×Nat×(List my)
def bn.L0.st:bn.L0.D->AS:=λ(qi,jC,ef,wait,rev,mine,theirs,t139,t140,t141,n8,Hd,Qu)=>⟨([.undef,.undef,.d ti qi,.undef,.gE mW jC,.gE mu ef,.undef,.undef,.ptr (.new 8 0) 0 [] 0,.undef,.undef,.d ti wait,.d tu rev,.d tu mine,.d tu theirs,.ptr (.new 15 0) 0 [] 0,.fn 80 (.cons (.ptr (.new 15 0) 0 [] 0) (.nil))]++bG 122 ([.d (.slice kf) t139,.d ti t140,.d ti t141]++bG 82 [])),[],(dh 8 ([[.obj 0 false (.pr (.pr (.eU) (.pr (.eU) (.d (.pair ti .unit) n8))) (.pr (.eU) (.d .unit ())))]]++dh 6 ([[.obj 0 false (.di (.new 96 0) 0 [] 0 0 Hd)]]++dh 80 ([[.obj 0 false (.vec 181 nS Qu)]]++dh 127 []))))⟩
abbrev bn.L0.Y0:=Nat×(List my)
abbrev bn.L0.X0:=(Int×iP×jk×(Int×Unit))×(Nat×(List my))
def bn.L0.bY:bn.L0.X0->Exit×AS:=λx=>(.exit 1,⟨([.undef,.undef,.d ti x.1.1,.undef,.gE mW x.1.2.1,.gE mu x.1.2.2.1,.undef,.undef,.ptr (.new 8 0) 0 [] 0]++bG 6 ([.ptr (.new 15 0) 0 [] 0]++bG 208 [])),[],(dh 8 ([[.obj 0 false (.pr (.pr (.eU) (.pr (.eU) (.d (.pair ti .unit) x.1.2.2.2))) (.pr (.eU) (.d .unit ())))]]++dh 6 ([[.obj 0 false (.di (.new 96 0) 0 [] 0 0 x.2.1)]]++dh 80 ([[.obj 0 false (.vec 181 nS x.2.2)]]++dh 127 []))))⟩)
abbrev bn.L0.X:=bn.L0.X0
abbrev bn.L0.Y:=bn.L0.Y0
def bn.L0.out:bn.L0.X->Out (Exit×AS):=λx=> .ok (bn.L0.bY x)
def bn.L0.add:bn.L0.D->bn.L0.Y->bn.L0.X:=λ(qi,jC,ef,wait,rev,mine,theirs,t139,t140,t141,n8,Hd,Qu) y=>((qi,jC,ef,n8),y)
abbrev bn.L1.D:=Nat×Int×Int×(Int×Unit)×(List kX)×Nat×(Int×Unit)×Nat×(List my)×(List kI)×(List xr)
def bn.L1.st:bn.L1.D->AS:=λ(EL,t201,t202,Hh,Hg,DN,AK,tI,AM,He,Hf)=>⟨(bG 8 ([.ptr (.new 8 0) 0 [] 0]++bG 15 ([.ptr (.new 24 0) 0 [] 0]++bG 175 ([.di (.new 96 0) 0 [] 0 0 EL,.d ti t201,.d ti t202]++bG 21 [])))),[],(dh 8 ([[.obj 0 false (.pr (.pr (.eU) (.pr (.eU) (.d (.pair ti .unit) Hh))) (.pr (.eU) (.d .unit ())))]]++dh 15 ([[.obj 0 false (.pr (.pr (.d (.slice kW) Hg) (.pr (.di (.new 212 0) 0 [] 0 0 DN) (.d (.pair ti .unit) AK))) (.pr (.di (.new 220 0) 0 [] 0 0 tI) (.d .unit ())))]]++dh 71 ([[.obj 0 false (.vec 181 nS AM)]]++dh 115 ([[.obj 0 false (.vec 100 lH He)]]++dh 7 [[.obj 0 false (.vec 95 FU Hf)],[],[],[]])))))⟩
abbrev bn.L1.Y0:=Nat×Nat×(List kI)×(List xr)
abbrev bn.L1.X0:=((Int×Unit)×(List kX)×(Int×Unit))×(Nat×Nat×(List kI)×(List xr))
def bn.L1.bY:bn.L1.X0->Exit×AS:=λx=>(.exit 3,⟨(bG 8 ([.ptr (.new 8 0) 0 [] 0]++bG 15 ([.ptr (.new 24 0) 0 [] 0]++bG 199 []))),[],(dh 8 ([[.obj 0 false (.pr (.pr (.eU) (.pr (.eU) (.d (.pair ti .unit) x.1.1))) (.pr (.eU) (.d .unit ())))]]++dh 15 ([[.obj 0 false (.pr (.pr (.d (.slice kW) x.1.2.1) (.pr (.di (.new 212 0) 0 [] 0 0 x.2.1) (.d (.pair ti .unit) x.1.2.2))) (.pr (.di (.new 220 0) 0 [] 0 0 x.2.2.1) (.d .unit ())))]]++dh 187 ([[.obj 0 false (.vec 100 lH x.2.2.2.1)]]++dh 7 [[.obj 0 false (.vec 95 FU x.2.2.2.2)],[],[],[]]))))⟩)
abbrev bn.L1.X:=bn.L1.X0
abbrev bn.L1.Y:=bn.L1.Y0
def bn.L1.out:bn.L1.X->Out (Exit×AS):=λx=> .ok (bn.L1.bY x)
def bn.L1.add:bn.L1.D->bn.L1.Y->bn.L1.X:=λ(EL,t201,t202,Hh,Hg,DN,AK,tI,AM,He,Hf) y=>((Hh,Hg,AK),y)
abbrev bn.D:=iP×jk×Int×Int
def bn.st:bn.D->SA:=λ(ch,sv,own,per)=>([.d mW ch,.d mu sv,.d ti own,.d tu per],[])
abbrev bn.Y:=H5×Int
abbrev bn.X:=H5×Int
def bn.out:bn.X->aX:=λx=>⟨.cons (.d Me x.1) (.cons (.d ti x.2) (.nil)),[],[]⟩
def bn.add:bn.D->bn.Y->bn.X:=λ(ch,sv,own,per) y=>y
def bn.L0.az:bn.L0.D->Prop:=λ(own,ch,s,wait,rev,mine,theirs,l,m,i,z,L,row)=>(∀c∈l,iy c.2.2.2.1)/\(iy rev/\iy mine/\iy theirs)/\l.length<=16/\m=l.length/\L=row.length/\∃k:Nat,k<=l.length/\i=k/\row.length<=4+k
def bn.L0.F:bn.L0.D->bn.L0.Y:=λ(own,ch,s,wait,rev,mine,theirs,l,m,i,z,L,row)=>((row++(l.drop i.toNat).map (oz own rev theirs mine wait)).length,row++(l.drop i.toNat).map (oz own rev theirs mine wait))
def bn.L1.az:bn.L1.D->Prop:=λ(L,m,i,z,ins,lo,note,lr,row,outs,roles)=>L=row.length/\m=row.length/\lo=outs.length/\lr=roles.length/\row.length<=1000/\∃k:Nat,k<=row.length/\i=k/\outs.length<=k/\roles.length<=k
def bn.L1.F:bn.L1.D->bn.L1.Y:=λ(L,m,i,z,ins,lo,note,lr,row,outs,roles)=>((outs++(row.drop i.toNat).map (λm=>m.1)).length,(roles++(row.drop i.toNat).map (λm=>m.2.1)).length,outs++(row.drop i.toNat).map (λm=>m.1),roles++(row.drop i.toNat).map (λm=>m.2.1))
def bn.az:bn.D->Prop:=λ(ch,s,own,per)=>mX ch/\ur s/\iy per
def bn.F:bn.D->bn.Y:=λ(ch,s,own,per)=>nw ch s own per
def bn.G:fD:=gr (P:=Tryz.prog) [gF.sg,dy.sg,au.sg,dF.sg,jh.sg,gq.sg,dT.sg,im.sg,put.sg,jG.sg,dG.sg,bP.sg,jU.sg]
def bn.L0.E:=cU.dp bn.L0.st bn.L0.az bn.L0.add bn.L0.F bn.L0.out
def bn.L0.call:bn.L0.D->Option bn.L0.X:=eI bn.L0.E bn.L0.st
def bn.L1.E:=cU.dp bn.L1.st bn.L1.az bn.L1.add bn.L1.F bn.L1.out
def bn.L1.call:bn.L1.D->Option bn.L1.X:=eI bn.L1.E bn.L1.st
def bn.an:fR:= {loops:=om [(20,{bO:=[2,4,5,8,11,12,13,14,15,16,139,140,141],sites:=[8,15,96,117,126],nR:=[⟨15,[.arr],96,0⟩]}),(32,{bO:=[8,24,200,201,202],sites:=[8,24,96,212,220],nR:=[⟨24,[.fst,.snd,.fst],212,60⟩,⟨24,[.snd,.fst],220,81⟩]})],outs:=oh [(20,{bO:=[2,4,5,8,15],sites:=[8,15,96]},{bO:=[8,9]}),(32,{bO:=[8,24],sites:=[8,24,212,220]},{bO:=[8,9]})],jo:=pb [(20,bn.L0.E),(32,bn.L1.E)],res:=[some Me,none]}
def bn.A:= @dm Tryz.prog bn.G bn.an 0 Tryz.f37 _ bn.st
abbrev bn.Ok:=dn @bn.A bn.az bn.add bn.F bn.out
def bn.L0.R:= @dr Tryz.prog bn.G bn.an 0 Tryz.f37 0 _ bn.L0.st
abbrev bn.L0.Ok:=gz Tryz.prog bn.G bn.an 0 Tryz.f37 0 bn.L0.st bn.L0.az bn.L0.add bn.L0.F bn.L0.out
def bn.L1.R:= @dr Tryz.prog bn.G bn.an 0 Tryz.f37 1 _ bn.L1.st
abbrev bn.L1.Ok:=gz Tryz.prog bn.G bn.an 0 Tryz.f37 1 bn.L1.st bn.L1.az bn.L1.add bn.L1.F bn.L1.out
theorem bn.L0.run:b8 bn.L0.call bn.L0.az bn.L0.add bn.L0.F:=gR (gJ [.d ti,.d mW,.d mu,.d ti,.d tu,.d tu,.d tu,.d (.slice kf),.d ti,.d ti,.d (.pair ti .unit),.n,.d (.slice nS)] λ_=>by kernel_rfl)
theorem bn.L0.aI:jl @bn.L0.R bn.L0.st bn.L0.az bn.L0.add bn.L0.F bn.L0.bY bn.L0.Ok:=js
theorem bn.L0.step{R:Type}(qi:Int)(jC:iP)(ef:jk)(wait:Int)(rev:Int)(mine:Int)(theirs:Int)(t139:(List jj))(t140:Int)(t141:Int)(n8:(Int×Unit))(Hd:Nat)(Qu:(List my))(kn:AS->Option R)(kx:Exit->AS->Option R):bn.L0.R (qi,jC,ef,wait,rev,mine,theirs,t139,t140,t141,n8,Hd,Qu) kn kx=
  aJ ((jM t141 t140)) (
   aJ (fB t141 (((List.length t139):Nat):Int)) (
   aJ ((mV (nth kf t139 (Int.toNat t141)).1 qi)) (
    ah (ym (X:=iJ.X) (iC.call ((nth kf t139 (Int.toNat t141)).2.2.1,([([rev],((0:Int),((0:Int),((0:Int),())))),([theirs],((0:Int),((0:Int),((nth kf t139 (Int.toNat t141)).2.2.2.1,())))),([mine],((nth kf t139 (Int.toNat t141)).2.2.2.2.1,(wait,((0:Int),()))))],()),((5:Int),((nth kf t139 (Int.toNat t141)),())),Hd,Qu))) λx1=>
    kn (bn.L0.st (qi,jC,ef,wait,rev,mine,theirs,t139,t140,(bV .i64 t141 (1:Int)),n8,x1.2.1,x1.2.2))) (
    ah (ym (X:=iJ.X) (iC.call ((nth kf t139 (Int.toNat t141)).2.2.1,([([rev],((0:Int),((0:Int),((0:Int),())))),([mine],((0:Int),(wait,((nth kf t139 (Int.toNat t141)).2.2.2.1,())))),([theirs],((nth kf t139 (Int.toNat t141)).2.2.2.2.1,((0:Int),((0:Int),()))))],()),((6:Int),((nth kf t139 (Int.toNat t141)),())),Hd,Qu))) λx2=>
    kn (bn.L0.st (qi,jC,ef,wait,rev,mine,theirs,t139,t140,(bV .i64 t141 (1:Int)),n8,x2.2.1,x2.2.2)))) none) (
   kx (bn.L0.bY ((qi,jC,ef,n8),(Hd,Qu))).1 (bn.L0.bY ((qi,jC,ef,n8),(Hd,Qu))).2):=by kernel_rfl
theorem bn.L1.run:b8 bn.L1.call bn.L1.az bn.L1.add bn.L1.F:=gR (gJ [.n,.d ti,.d ti,.d (.pair ti .unit),.d (.slice kW),.n,.d (.pair ti .unit),.n,.d (.slice nS),.d (.slice lH),.d (.slice FU)] λ_=>by kernel_rfl)
theorem bn.L1.aI:jl @bn.L1.R bn.L1.st bn.L1.az bn.L1.add bn.L1.F bn.L1.bY bn.L1.Ok:=js
theorem bn.L1.step{R:Type}(EL:Nat)(t201:Int)(t202:Int)(Hh:(Int×Unit))(Hg:(List kX))(DN:Nat)(AK:(Int×Unit))(tI:Nat)(AM:(List my))(He:(List kI))(Hf:(List xr))(kn:AS->Option R)(kx:Exit->AS->Option R):bn.L1.R (EL,t201,t202,Hh,Hg,DN,AK,tI,AM,He,Hf) kn kx=
  aJ ((jM t202 t201)) (
   aJ (fB t202 ((EL:Nat):Int)) (
   aJ (decide ((0+(Int.toNat t202)) < (List.length AM))) (
   aJ (decide ((((0+(Int.toNat t202))*40)+0)=(0+((Int.toNat t202)*40)))) (
   aJ (decide (DN<=(List.length He))) (
   aJ (fq (DN+1) 32) (
   aJ (decide (tI<=(List.length Hf))) (
   aJ (fq (tI+1) 48) (
   kn (bn.L1.st (EL,t201,(bV .i64 t202 (1:Int)),Hh,Hg,(DN+1),AK,(tI+1),AM,((List.take DN He)++ [(nth nS AM (0+(Int.toNat t202))).1]),((List.take tI Hf)++ [(nth nS AM (0+(Int.toNat t202))).2.1])))) none) none) none) none) none) none) none) (
   kx (bn.L1.bY ((Hh,Hg,AK),(DN,tI,He,Hf))).1 (bn.L1.bY ((Hh,Hg,AK),(DN,tI,He,Hf))).2):=by kernel_rfl
theorem bn.eq{R:Type}(ch:iP)(sv:jk)(own:Int)(per:Int)(k:aX->Option R):bn.A (ch,sv,own,per) k=
  ah (gF.call own) λx1=>
  aJ ((!x1)) (
   k (bn.out (((([]:List kX),(([]:List kI),((0:Int),()))),(([]:List xr),())),(1:Int)))) (
   ah (dy.call per) λx2=>
   aJ ((!x2)) (
    k (bn.out (((([]:List kX),(([]:List kI),((0:Int),()))),(([]:List xr),())),(1:Int)))) (
    ah (au.call (ch,sv)) λx3=>
    aJ ((!x3)) (
     k (bn.out (((([]:List kX),(([]:List kI),((0:Int),()))),(([]:List xr),())),(14:Int)))) (
     aJ (fB (cY .i64 (1:Int) own) (2:Int)) (
     aJ (fB (cY .i64 (1:Int) own) (2:Int)) (
     ah (dF.call ((nth qo ch.2.2.1 (Int.toNat (cY .i64 (1:Int) own))).2.2.2.2.1,per)) λx4=>
     aJ (fB own (2:Int)) (
     ah (jh.call ((nth qo ch.2.2.1 (Int.toNat own)).2.2.2.1,per)) λx5=>
     aJ (fB (cY .i64 (1:Int) own) (2:Int)) (
     ah (jh.call ((nth qo ch.2.2.1 (Int.toNat (cY .i64 (1:Int) own))).2.2.2.1,per)) λx6=>
     ah (gq.call (ch,sv,own,own)) λx7=>
     aJ (fB own (2:Int)) (
     ah (dT.call ((nth oI ch.2.2.2.1 (Int.toNat own)),x7)) λx8=>
     aJ (x8) (
      aJ (fB own (2:Int)) (
      ah (jh.call ((nth qo ch.2.2.1 (Int.toNat own)).2.2.1,per)) λx9=>
      ah (im.call (x9,x4,(nth oI ch.2.2.2.1 (Int.toNat (cY .i64 (1:Int) own))).2.2.1)) λBi=>
      ah (Ik (Y:=iC.X) (iJ.call (x7,Bi,((1:Int),(((0:Int),((0:Int),((0:Int),((0:Int),((0:Int),()))))),()))))) λBD=>
      ah (gq.call (ch,sv,own,(cY .i64 (1:Int) own))) λDk=>
      aJ (fB own (2:Int)) (
      ah (dT.call ((nth oI ch.2.2.2.1 (Int.toNat own)),Dk)) λPS=>
      aJ (PS) (
       aJ (fB (cY .i64 (1:Int) own) (2:Int)) (
       ah (jG.call (nth qo ch.2.2.1 (Int.toNat (cY .i64 (1:Int) own))).2.1) λUl=>
       ah (ym (X:=iJ.X) (iC.call (Dk,Ul,((2:Int),(((0:Int),((0:Int),((0:Int),((0:Int),((0:Int),()))))),())),1,BD.1))) λQF=>
       aJ (fB own (2:Int)) (
       ah (dG.call (nth qo ch.2.2.1 (Int.toNat own)).1) λKx=>
       ah (ym (X:=iJ.X) (iC.call ((330:Int),Kx,((3:Int),(((0:Int),((0:Int),((0:Int),((0:Int),((0:Int),()))))),())),QF.2.1,QF.2.2))) λXk=>
       aJ (fB (cY .i64 (1:Int) own) (2:Int)) (
       ah (dG.call (nth qo ch.2.2.1 (Int.toNat (cY .i64 (1:Int) own))).1) λYG=>
       ah (ym (X:=iJ.X) (iC.call ((330:Int),YG,((4:Int),(((0:Int),((0:Int),((0:Int),((0:Int),((0:Int),()))))),())),Xk.2.1,Xk.2.2))) λXl=>
       ah (bP.call (ch,sv,own)) λJu=>
       ah (bn.L0.call (own,ch,sv,(nth oI ch.2.2.2.1 (Int.toNat (cY .i64 (1:Int) own))).2.2.1,x4,x5,x6,Ju,(((List.length Ju):Nat):Int),(0:Int),((0:Int),()),Xl.2.1,Xl.2.2)) λD1=>
       ah (jU.call (D1.2.1,D1.2.2)) λWy=>
       ah (bn.L1.call (D1.2.1,((D1.2.1:Nat):Int),(0:Int),D1.1.2.2.2,[(D1.1.2.1.1,(((0:Int),(([]:List Sg),((0:Int),()))),()))],0,((bV .i64 (gY .i64 (2:Int) D1.1.2.2.1.1) D1.1.1),()),0,Wy,([]:List kI),([]:List xr))) λvp=>
       aJ (decide (0=0/\(0+vp.2.1)<=(List.length vp.2.2.2.1))) (
       aJ (decide (0=0/\(0+vp.2.2.1)<=(List.length vp.2.2.2.2))) (
       k (bn.out (((vp.1.2.1,((cut vp.2.2.2.1 0 vp.2.1),vp.1.2.2)),((cut vp.2.2.2.2 0 vp.2.2.1),())),(0:Int)))) none) none) none) none) none) (
       aJ (fB own (2:Int)) (
       ah (dG.call (nth qo ch.2.2.1 (Int.toNat own)).1) λYH=>
       ah (ym (X:=iJ.X) (iC.call ((330:Int),YH,((3:Int),(((0:Int),((0:Int),((0:Int),((0:Int),((0:Int),()))))),())),1,BD.1))) λXm=>
       aJ (fB (cY .i64 (1:Int) own) (2:Int)) (
       ah (dG.call (nth qo ch.2.2.1 (Int.toNat (cY .i64 (1:Int) own))).1) λYI=>
       ah (ym (X:=iJ.X) (iC.call ((330:Int),YI,((4:Int),(((0:Int),((0:Int),((0:Int),((0:Int),((0:Int),()))))),())),Xm.2.1,Xm.2.2))) λF0=>
       ah (bP.call (ch,sv,own)) λXn=>
       ah (bn.L0.call (own,ch,sv,(nth oI ch.2.2.2.1 (Int.toNat (cY .i64 (1:Int) own))).2.2.1,x4,x5,x6,Xn,(((List.length Xn):Nat):Int),(0:Int),((0:Int),()),F0.2.1,F0.2.2)) λQG=>
       ah (jU.call (QG.2.1,QG.2.2)) λYJ=>
       ah (bn.L1.call (QG.2.1,((QG.2.1:Nat):Int),(0:Int),QG.1.2.2.2,[(QG.1.2.1.1,(((0:Int),(([]:List Sg),((0:Int),()))),()))],0,((bV .i64 (gY .i64 (2:Int) QG.1.2.2.1.1) QG.1.1),()),0,YJ,([]:List kI),([]:List xr))) λMf=>
       aJ (decide (0=0/\(0+Mf.2.1)<=(List.length Mf.2.2.2.1))) (
       aJ (decide (0=0/\(0+Mf.2.2.1)<=(List.length Mf.2.2.2.2))) (
       k (bn.out (((Mf.1.2.1,((cut Mf.2.2.2.1 0 Mf.2.1),Mf.1.2.2)),((cut Mf.2.2.2.2 0 Mf.2.2.1),())),(0:Int)))) none) none) none) none)) none) none) (
      ah (gq.call (ch,sv,own,(cY .i64 (1:Int) own))) λUO=>
      aJ (fB own (2:Int)) (
      ah (dT.call ((nth oI ch.2.2.2.1 (Int.toNat own)),UO)) λWz=>
      aJ (Wz) (
       aJ (fB (cY .i64 (1:Int) own) (2:Int)) (
       ah (jG.call (nth qo ch.2.2.1 (Int.toNat (cY .i64 (1:Int) own))).2.1) λYK=>
       ah (Ik (Y:=iC.X) (iJ.call (UO,YK,((2:Int),(((0:Int),((0:Int),((0:Int),((0:Int),((0:Int),()))))),()))))) λYL=>
       aJ (fB own (2:Int)) (
       ah (dG.call (nth qo ch.2.2.1 (Int.toNat own)).1) λYM=>
       ah (ym (X:=iJ.X) (iC.call ((330:Int),YM,((3:Int),(((0:Int),((0:Int),((0:Int),((0:Int),((0:Int),()))))),())),1,YL.1))) λOE=>
       aJ (fB (cY .i64 (1:Int) own) (2:Int)) (
       ah (dG.call (nth qo ch.2.2.1 (Int.toNat (cY .i64 (1:Int) own))).1) λYN=>
       ah (ym (X:=iJ.X) (iC.call ((330:Int),YN,((4:Int),(((0:Int),((0:Int),((0:Int),((0:Int),((0:Int),()))))),())),OE.2.1,OE.2.2))) λXo=>
       ah (bP.call (ch,sv,own)) λXp=>
       ah (bn.L0.call (own,ch,sv,(nth oI ch.2.2.2.1 (Int.toNat (cY .i64 (1:Int) own))).2.2.1,x4,x5,x6,Xp,(((List.length Xp):Nat):Int),(0:Int),((0:Int),()),Xo.2.1,Xo.2.2)) λMg=>
       ah (jU.call (Mg.2.1,Mg.2.2)) λIg=>
       ah (bn.L1.call (Mg.2.1,((Mg.2.1:Nat):Int),(0:Int),Mg.1.2.2.2,[(Mg.1.2.1.1,(((0:Int),(([]:List Sg),((0:Int),()))),()))],0,((bV .i64 (gY .i64 (2:Int) Mg.1.2.2.1.1) Mg.1.1),()),0,Ig,([]:List kI),([]:List xr))) λOF=>
       aJ (decide (0=0/\(0+OF.2.1)<=(List.length OF.2.2.2.1))) (
       aJ (decide (0=0/\(0+OF.2.2.1)<=(List.length OF.2.2.2.2))) (
       k (bn.out (((OF.1.2.1,((cut OF.2.2.2.1 0 OF.2.1),OF.1.2.2)),((cut OF.2.2.2.2 0 OF.2.2.1),())),(0:Int)))) none) none) none) none) none) (
       aJ (fB own (2:Int)) (
       ah (dG.call (nth qo ch.2.2.1 (Int.toNat own)).1) λYO=>
       ah (Ik (Y:=iC.X) (iJ.call ((330:Int),YO,((3:Int),(((0:Int),((0:Int),((0:Int),((0:Int),((0:Int),()))))),()))))) λWC=>
       aJ (fB (cY .i64 (1:Int) own) (2:Int)) (
       ah (dG.call (nth qo ch.2.2.1 (Int.toNat (cY .i64 (1:Int) own))).1) λWD=>
       ah (ym (X:=iJ.X) (iC.call ((330:Int),WD,((4:Int),(((0:Int),((0:Int),((0:Int),((0:Int),((0:Int),()))))),())),1,WC.1))) λXq=>
       ah (bP.call (ch,sv,own)) λXr=>
       ah (bn.L0.call (own,ch,sv,(nth oI ch.2.2.2.1 (Int.toNat (cY .i64 (1:Int) own))).2.2.1,x4,x5,x6,Xr,(((List.length Xr):Nat):Int),(0:Int),((0:Int),()),Xq.2.1,Xq.2.2)) λQH=>
       ah (jU.call (QH.2.1,QH.2.2)) λYP=>
       ah (bn.L1.call (QH.2.1,((QH.2.1:Nat):Int),(0:Int),QH.1.2.2.2,[(QH.1.2.1.1,(((0:Int),(([]:List Sg),((0:Int),()))),()))],0,((bV .i64 (gY .i64 (2:Int) QH.1.2.2.1.1) QH.1.1),()),0,YP,([]:List kI),([]:List xr))) λOG=>
       aJ (decide (0=0/\(0+OG.2.1)<=(List.length OG.2.2.2.1))) (
       aJ (decide (0=0/\(0+OG.2.2.1)<=(List.length OG.2.2.2.2))) (
       k (bn.out (((OG.1.2.1,((cut OG.2.2.2.1 0 OG.2.1),OG.1.2.2)),((cut OG.2.2.2.2 0 OG.2.2.1),())),(0:Int)))) none) none) none) none)) none)) none) none) none) none) none))):=by kernel_rfl
theorem bn.L0.ok:bn.L0.Ok:=by
 refine bn.L0.aI (λ(own,ch,s,wait,rev,mine,theirs,l,m,i,z,L,row)=>l.length - i.toNat) ?_
 rintro⟨own,ch,s,wait,rev,mine,theirs,l,m,i,z,L,row⟩ ⟨hc,⟨h1,h2,h3⟩,hl,rfl,rfl,k,hk,rfl,hr⟩
 have hk:k<=l.length:=hk
 have hl:l.length<=16:=hl
 have hr:row.length<=4+k:=hr
 have h1:iy rev:=h1
 have h2:iy mine:=h2
 have h3:iy theirs:=h3
 by_cases h:k < l.length
 ·left
  have n1:nth kf l k=l[k]:=dQ (t:=kf) h
  have hp:iy l[k].2.2.2.1:=hc _ (List.getElem_mem h)
  have hd:(l.drop k).map (oz own rev theirs mine wait)=oz own rev theirs mine wait l[k]::(l.drop (k+1)).map (oz own rev theirs mine wait):=by rw[av h,cO]
  have e1:∀x:my,(row++ [x]).length=row.length+1:=λx=>by rw[aj];rfl
  refine⟨(own,ch,s,wait,rev,mine,theirs,l,(l.length:Int),((k+1:Nat):Int),z,row.length+1,row++ [oz own rev theirs mine wait l[k]]),⟨hc,⟨h1,h2,h3⟩,hl,rfl,(e1 _).symm,k+1,by omega,rfl,by show(row++ [_]).length<=_;rw[e1];omega⟩,by simp only[aa];omega,?_,λkn kx=> ?_⟩
  ·simp only[bn.L0.add,bn.L0.F,aa,hd,bR,fp]
  ·rw[bn.L0.step,bI (by omega),bF (by omega) (by omega),aa,n1,N.pF (by omega)]
   simp only[ae]
   unfold oz
   by_cases ho:l[k].1=own
   ·rw[fA ho,ae,if_pos ho]
    refine(congrArg (λz=>ah z _) (iC.at (Qj h1 h3 h2 hp) rfl (by omega))).trans ?_
    rfl
   ·rw[fJ ho,ai,if_neg ho]
    refine(congrArg (λz=>ah z _) (iC.at (Qk h1 h3 h2 hp) rfl (by omega))).trans ?_
    rfl
 ·right
  obtain rfl:k=l.length:=by omega
  intro R kn kx
  rw[bn.L0.step,bp (by omega),ai]
  simp only[bn.L0.add,bn.L0.F,aa,bB,jH,dg]
theorem bn.L1.ok:bn.L1.Ok:=by
 refine bn.L1.aI (λ(L,m,i,z,ins,lo,note,lr,row,outs,roles)=>row.length - i.toNat) ?_
 rintro⟨L,m,i,z,ins,lo,note,lr,row,outs,roles⟩ ⟨rfl,rfl,rfl,rfl,hl,k,hk,rfl,ho,hr⟩
 have hk:k<=row.length:=hk
 have hl:row.length<=1000:=hl
 have ho:outs.length<=k:=ho
 have hr:roles.length<=k:=hr
 by_cases h:k < row.length
 ·left
  have n1:nth nS row k=row[k]:=dQ (t:=nS) h
  have hd:row.drop k=row[k]::row.drop (k+1):=av h
  have e1:(outs++ [row[k].1]).length=outs.length+1:=by rw[aj];rfl
  have e2:(roles++ [row[k].2.1]).length=roles.length+1:=by rw[aj];rfl
  refine⟨(row.length,(row.length:Int),((k+1:Nat):Int),z,ins,outs.length+1,note,roles.length+1,row,outs++ [row[k].1],roles++ [row[k].2.1]),⟨rfl,rfl,e1.symm,e2.symm,hl,k+1,by omega,rfl,by show(outs++ [_]).length<=_;rw[e1];omega,by show(roles++ [_]).length<=_;rw[e2];omega⟩,by simp only[aa];omega,?_,λkn kx=> ?_⟩
  ·simp only[bn.L1.add,bn.L1.F,aa,hd,cO,bR,fp]
  ·rw[bn.L1.step,bI (by omega),bF (by omega) (by omega),aa]
   simp only[bl]
   rw[n1,N.pF (by omega),aM h,aM (show k*40+0=k*40 from rfl),aM (aE _),aM (aE _),gk (by omega) (by omega),gk (by omega) (by omega),cQ,cQ]
   simp only[ae]
 ·right
  obtain rfl:k=row.length:=by omega
  intro R kn kx
  rw[bn.L1.step,bp (by omega),ai]
  simp only[bn.L1.add,bn.L1.F,aa,bB,jH,dg]
theorem bn.tail{ch:iP}{s:jk}{own wait rev mine theirs:Int}(fI:mX ch)(hu:ur s)(hs:wB ch s)(ho:own=0\/own=1)(h1:iy rev)(h2:iy mine)(h3:iy theirs){RL:Nat}{R:List my}(hL:RL=R.length)(hR:R.length<=4):
   (ah (bP.call (ch,s,own)) λJu=>
    ah (bn.L0.call (own,ch,s,wait,rev,mine,theirs,Ju,(((List.length Ju):Nat):Int),(0:Int),((0:Int),()),RL,R)) λD1=>
    ah (jU.call (D1.2.1,D1.2.2)) λWy=>
    ah (bn.L1.call (D1.2.1,((D1.2.1:Nat):Int),(0:Int),D1.1.2.2.2,[(D1.1.2.1.1,(((0:Int),(([]:List Sg),((0:Int),()))),()))],0,((bV .i64 (gY .i64 (2:Int) D1.1.2.2.1.1) D1.1.1),()),0,Wy,([]:List kI),([]:List xr))) λvp=>
    aJ (decide (0=0/\(0+vp.2.1)<=(List.length vp.2.2.2.1))) (
    aJ (decide (0=0/\(0+vp.2.2.1)<=(List.length vp.2.2.2.2))) (
    some (bn.out (((vp.1.2.1,((cut vp.2.2.2.1 0 vp.2.1),vp.1.2.2)),((cut vp.2.2.2.2 0 vp.2.2.1),())),(0:Int)))) none) none)=some (bn.out (ofRow ch s own (lP (R++(ja s.2.2.1).map (oz own rev theirs mine wait))),0)):=by
  subst hL
  have hl:=hs.len
  have JU:(ja s.2.2.1).length<=16:=pV (nj _ _) hl
  have Rw:=hs.no
  rw[bP.run (d:=(ch,s,own)) ⟨fI,ho,by show s.2.2.1.length<=1000;omega⟩]
  simp only[ab,bP.add,bP.F]
  rw[bn.L0.run (d:=(own,ch,s,wait,rev,mine,theirs,ja s.2.2.1,((ja s.2.2.1).length:Int),0,(0,()),R.length,R)) ⟨λc hc=>hu.1 c ((jI.1 hc).1),⟨h1,h2,h3⟩,JU,rfl,rfl,0,bm _,rfl,by omega⟩]
  simp only[ab,bn.L0.add,bn.L0.F,bH,aW]
  have hq:(R++(ja s.2.2.1).map (oz own rev theirs mine wait)).length<=20:=by rw[aj,cM];omega
  generalize R++(ja s.2.2.1).map (oz own rev theirs mine wait)=Q at hq
  rw[jU.run (d:=(Q.length,Q)) ⟨rfl,hq⟩]
  simp only[ab,jU.add,jU.F]
  have hp:=(mR Q).length_eq
  rw[na (by omega) (by omega),ff (by omega) (by omega)]
  rw[bn.L1.run (d:=(Q.length,(Q.length:Int),0,(0,()),[(ch.1,(((0:Int),(([]:List Sg),((0:Int),()))),()))],0,(2*s.1+own,()),0,lP Q,[],[])) ⟨hp.symm,by show(Q.length:Int)=((lP Q).length:Int);rw[hp],rfl,rfl,by show(lP Q).length<=1000;omega,0,bm _,rfl,aE _,aE _⟩]
  simp only[ab,bn.L1.add,bn.L1.F,bH,aW,bt,bl]
  rw[aM ⟨trivial,aE _⟩,ae,aM ⟨trivial,aE _⟩,ae,jf rfl,jf rfl]
  rfl
theorem mX.ba{ch:iP}(h:mX ch){n:Int}(hn:n=0\/n=1):QJ (nm ch n):=by
 obtain⟨a,b0,b1,o,rfl,_,_,h1,h2,_⟩:=h
 rcases hn with rfl | rfl
 ·exact h1
 ·exact h2
theorem rM(l:List Int):iy (uY l):=(Ko l).u
theorem bn.ok:bn.Ok:=by
 rintro⟨ch,s,own,per⟩ ⟨fI,hu,hp⟩
 have fI:mX ch:=fI
 have hu:ur s:=hu
 have hp:iy per:=hp
 rw[bn.eq,gF.run (d:=own) trivial]
 simp only[ab,gF.add,gF.F,bn.add,bn.F,nw, -eq_self]
 by_cases ho:own=0\/own=1
 rotate_left
 ·rw[cq ho];rfl
 rw[aM ho,bZ,ai,dy.run (d:=per) hp]
 simp only[ab,dy.add,dy.F, -eq_self]
 cases hq:oM per
 ·rfl
 rw[bZ,ai,au.run (d:=(ch,s)) ⟨fI,hu⟩]
 simp only[ab,au.add,au.F,l7,if_true, -eq_self]
 cases kA:xX ch s
 ·rfl
 have hs:=ru.1 kA
 have hp':1 - own=0\/1 - own=1:=by omega
 have b0:=fI.ba ho
 have b1:=fI.ba hp'
 have i1:fB own 2=true:=bF (by omega) (by omega)
 have i2:fB (1 - own) 2=true:=bF (by omega) (by omega)
 have eB:∀n:Int,nth qo ch.2.2.1 n.toNat=nm ch n:=λ_=>rfl
 have eW:∀n:Int,(nth oI ch.2.2.2.1 n.toNat).2.2.1=xp ch n:=λ_=>rfl
 have c1:dF.call ((nm ch (1 - own)).2.2.2.2.1,per)=some (uU (nm ch (1 - own)).2.2.2.2.1 per):=dF.c b1.2.2.2.2.1 hp
 have c2:jh.call ((nm ch own).2.2.2.1,per)=some (vY (nm ch own).2.2.2.1 per):=jh.c b0.2.2.2.1.1 per
 have c3:jh.call ((nm ch (1 - own)).2.2.2.1,per)=some (vY (nm ch (1 - own)).2.2.2.1 per):=jh.c b1.2.2.2.1.1 per
 have c4:jh.call ((nm ch own).2.2.1,per)=some (vY (nm ch own).2.2.1 per):=jh.c b0.2.2.1.1 per
 have c5:gq.call (ch,s,own,own)=some (j5 ch s own):=gq.run (d:=(ch,s,own,own)) ⟨fI,hs,ho,ho⟩
 have c6:gq.call (ch,s,own,1 - own)=some (j5 ch s (1 - own)):=gq.run (d:=(ch,s,own,1 - own)) ⟨fI,hs,ho,hp'⟩
 have c7:∀a b c:Int,im.call (a,b,c)=some (Az a b c):=λa b c=>im.run (d:=(a,b,c)) trivial
 have c8:∀a:Int,jG.call a=some (sX [a]):=λa=>jG.run (d:=a) trivial
 have c9:∀a:Int,dG.call a=some (uv a):=λa=>dG.run (d:=a) trivial
 have u1:iy (uU (nm ch (1 - own)).2.2.2.2.1 per):=rM _
 have u2:iy (vY (nm ch own).2.2.2.1 per):=rM _
 have u3:iy (vY (nm ch (1 - own)).2.2.2.1 per):=rM _
 have k1:uq (Az (vY (nm ch own).2.2.1 per) (uU (nm ch (1 - own)).2.2.2.2.1 per) (xp ch (1 - own))):=GZ (rM _) u1
 have k2:uq (sX [(nm ch (1 - own)).2.1]):=Bp b1.2.1.1
 have k3:uq (uv (nm ch own).1):=uK b0.1.1
 have k4:uq (uv (nm ch (1 - own)).1):=uK b1.1.1
 have H9:=λn=>fI.shown ho n
 rw[Jm (by omega)]
 simp only[eB,eW,i1,i2,ae,bZ,ai,c1,c2,c3,c4,c5,c6,c7,c8,c9,H9,ab, -eq_self]
 unfold de o3
 cases hA:FM (j5 ch s own) <;> cases hB:FM (j5 ch s (1 - own))
 ·simp only[ae,ai,if_true,cD,if_false,bt, -eq_self]
  refine(congrArg (λz=>ah z _) (iJ.at k3)).trans ?_
  simp only[ab, -eq_self]
  refine(congrArg (λz=>ah z _) (iC.at k4 ?_ ?_)).trans ?_
  ·rfl
  ·exact dE rfl
  simp only[ab, -eq_self]
  exact bn.tail fI hu hs ho u1 u2 u3 rfl (dE rfl)
 ·simp only[ae,ai,if_true,cD,if_false,bt, -eq_self]
  refine(congrArg (λz=>ah z _) (iJ.at k2)).trans ?_
  simp only[ab, -eq_self]
  refine(congrArg (λz=>ah z _) (iC.at k3 ?_ ?_)).trans ?_
  ·rfl
  ·exact dE rfl
  simp only[ab, -eq_self]
  refine(congrArg (λz=>ah z _) (iC.at k4 ?_ ?_)).trans ?_
  ·rfl
  ·exact dE rfl
  simp only[ab, -eq_self]
  exact bn.tail fI hu hs ho u1 u2 u3 rfl (dE rfl)
 ·simp only[ae,ai,if_true,cD,if_false,bt, -eq_self]
  refine(congrArg (λz=>ah z _) (iJ.at k1)).trans ?_
  simp only[ab, -eq_self]
  refine(congrArg (λz=>ah z _) (iC.at k3 ?_ ?_)).trans ?_
  ·rfl
  ·exact dE rfl
  simp only[ab, -eq_self]
  refine(congrArg (λz=>ah z _) (iC.at k4 ?_ ?_)).trans ?_
  ·rfl
  ·exact dE rfl
  simp only[ab, -eq_self]
  exact bn.tail fI hu hs ho u1 u2 u3 rfl (dE rfl)
 ·simp only[ae,ai,if_true, -eq_self]
  refine(congrArg (λz=>ah z _) (iJ.at k1)).trans ?_
  simp only[ab, -eq_self]
  refine(congrArg (λz=>ah z _) (iC.at k2 ?_ ?_)).trans ?_
  ·rfl
  ·exact dE rfl
  simp only[ab, -eq_self]
  refine(congrArg (λz=>ah z _) (iC.at k3 ?_ ?_)).trans ?_
  ·rfl
  ·exact dE rfl
  simp only[ab, -eq_self]
  refine(congrArg (λz=>ah z _) (iC.at k4 ?_ ?_)).trans ?_
  ·rfl
  ·exact dE rfl
  simp only[ab, -eq_self]
  exact bn.tail fI hu hs ho u1 u2 u3 rfl (dE rfl)
def bn.E:=Entry.dp [some mW,some mu,some ti,some tu] bn.st bn.az bn.add bn.F bn.out
def bn.call:bn.D->Option bn.X:=bX bn.E bn.st
theorem bn.run:b8 bn.call bn.az bn.add bn.F:=dv (du [.d mW,.d mu,.d ti,.d tu] λ_=>by kernel_rfl)
def bn.sg:SG Tryz.prog:=⟨37,aP,bn.E,.fn 2 (by kernel_rfl) bn.ok (And.intro (.dp bn.L0.ok (by kernel_rfl)) (And.intro (.dp bn.L1.ok (by kernel_rfl)) trivial))⟩
end
end Go.Ab
namespace Go.Ab
open Go.Proofs
noncomputable section
def vl(rev pay:Int)(o:iF)(x:kI)(r:xr):List o6:=if r.1=3\/r.1=4 then [] else [(o,(x.1,((if r.1=2 then pay else rev),())))]
def A2(rev pay:Int):List iF->List kI->List xr->List o6
 |o::os,x::xs,r::rs=>vl rev pay o x r++A2 rev pay os xs rs
 |_,_,_=> []
def wS(c:H5)(rev pay:Int):List o6:=A2 rev pay (gV c.1) c.1.2.1 c.2.1
def A5:List o6->Int
 |[]=>0
 |x::l=>x.2.1+A5 l
def jP(l:List o6)(bQ:Int):Int:= -bQ*(18+18*l.length)+A5 l
structure Xu(x:o6):Prop where
 id:Sm x.1.1
 EY:0<=x.2.1/\x.2.1<=1125899906842624
 key:iy x.2.2.1
def BG(l:List o6):Prop:=l.length<=64/\∀x∈l,Xu x
theorem Kr(rev pay:Int):∀(a:List iF) (b:List kI) (c:List xr),(A2 rev pay a b c).length<=a.length
 |[],_,_=>aE _
 |_::_,[],_=>bm _
 |_::_,_::_,[]=>bm _
 |o::a,x::b,r::c=>by
  have:=Kr rev pay a b c
  rw[A2,aj,aO]
  have h1:(vl rev pay o x r).length<=1:=by unfold vl;split <;> simp
  omega
theorem BC(rev pay:Int):∀(a:List iF) (b:List kI) (c:List xr) (y:o6),y∈A2 rev pay a b c->∃o∈a,∃x∈b,∃r∈c,¬(r.1=3\/r.1=4)/\y=(o,(x.1,((if r.1=2 then pay else rev),())))
 |[],_,_,_,h=>by simp[A2]at h
 |_::_,[],_,_,h=>by simp[A2]at h
 |_::_,_::_,[],_,h=>by simp[A2]at h
 |o::a,x::b,r::c,y,h=>by
  rw[A2,cf]at h
  rcases h with h | h
  ·unfold vl at h
   split at h
   ·cases h
   ·next hr=>
    rw[aU]at h
    exact⟨o,bh,x,bh,r,bh,hr,h⟩
  ·obtain⟨o',h1,x',h2,r',h3,h4⟩:=BC rev pay a b c y h
   exact⟨o',bj _ h1,x',bj _ h2,r',bj _ h3,h4⟩
abbrev er.D:=Int
def er.st:er.D->SA:=λmany=>([.d ti many],[])
abbrev er.Y:=Int
abbrev er.X:=Int
def er.out:er.X->aX:=λx=>⟨.d ti x,[],[]⟩
def er.add:er.D->er.Y->er.X:=λmany y=>y
def er.az:er.D->Prop:=λn=>0<=n/\n<=1000
def er.F:er.D->er.Y:=λn=>18+18*n
def er.G:fD:=gr (P:=Tryz.prog) []
def er.an:fR:= {}
def er.A:= @dm Tryz.prog er.G er.an 0 Tryz.f90 _ er.st
abbrev er.Ok:=dn @er.A er.az er.add er.F er.out
theorem er.eq{R:Type}(many:Int)(k:aX->Option R):er.A many k=
 k (er.out (bV .i64 (bV .i64 (10:Int) (gY .i64 (18:Int) many)) (8:Int))):=by kernel_rfl
theorem er.ok:er.Ok:=by
 rintro(n:Int) ⟨h0,h1⟩
 have h0:(0:Int)<=n:=h0
 have h1:n<=(1000:Int):=h1
 have e1:gY .i64 18 n=18*n:=na (by omega) (by omega)
 have e2:bV .i64 10 (18*n)=10+18*n:=ff (by omega) (by omega)
 have e3:bV .i64 (10+18*n) 8=18+18*n:=by rw[ff (by omega) (by omega)];omega
 rw[er.eq,e1,e2,e3]
 rfl
def er.E:=Entry.dp [some ti] er.st er.az er.add er.F er.out
def er.call:er.D->Option er.X:=bX er.E er.st
theorem er.run:b8 er.call er.az er.add er.F:=dv (du [.d ti] λ_=>by kernel_rfl)
def er.sg:SG Tryz.prog:=⟨90,aP,er.E,.fn 0 (by kernel_rfl) er.ok trivial⟩
abbrev iT.L0.D:=Int×Int×H5×Nat×(List iF)×Int×Int×(List o6)
def iT.L0.st:iT.L0.D->AS:=λ(vg,vf,vH,outL,t13,t14,t15,Ie)=>⟨([.undef,.d tu vg,.d tu vf,.gE Me vH,.undef,.undef,.undef,.di (.new 46 0) 0 [] 0 0 outL]++bG 5 ([.d (.slice ir) t13,.d ti t14,.d ti t15]++bG 33 [])),[],(dh 46 [[.obj 0 false (.vec 171 xd Ie)],[],[]])⟩
abbrev iT.L0.Y0:=Nat×(List o6)
abbrev iT.L0.X0:=Nat×(List o6)
def iT.L0.bY:iT.L0.X0->Exit×AS:=λx=>(.exit 0,⟨(bG 7 ([.di (.new 46 0) 0 [] 0 0 x.1]++bG 41 [])),[],(dh 46 [[.obj 0 false (.vec 171 xd x.2)],[],[]])⟩)
abbrev iT.L0.X:=iT.L0.X0
abbrev iT.L0.Y:=iT.L0.Y0
def iT.L0.out:iT.L0.X->Out (Exit×AS):=λx=> .ok (iT.L0.bY x)
def iT.L0.add:iT.L0.D->iT.L0.Y->iT.L0.X:=λ(vg,vf,vH,outL,t13,t14,t15,Ie) y=>y
abbrev iT.D:=H5×Int×Int
def iT.st:iT.D->SA:=λ(c,rev,pay)=>([.d Me c,.d tu rev,.d tu pay],[])
abbrev iT.Y:=(List o6)
abbrev iT.X:=(List o6)
def iT.out:iT.X->aX:=λx=>⟨.d (.slice xd) x,[],[]⟩
def iT.add:iT.D->iT.Y->iT.X:=λ(c,rev,pay) y=>y
def iT.L0.az:iT.L0.D->Prop:=λ(rev,pay,c,L,os,m,i,row)=>os.length<=c.1.2.1.length/\c.1.2.1.length=c.2.1.length/\os.length<=1000/\m=os.length/\L=row.length/\∃k:Nat,k<=os.length/\i=k/\row.length<=k
def iT.L0.F:iT.L0.D->iT.L0.Y:=λ(rev,pay,c,L,os,m,i,row)=>((row++A2 rev pay (os.drop i.toNat) (c.1.2.1.drop i.toNat) (c.2.1.drop i.toNat)).length,row++A2 rev pay (os.drop i.toNat) (c.1.2.1.drop i.toNat) (c.2.1.drop i.toNat))
def iT.az:iT.D->Prop:=λ(c,_,_)=>u9 c.1/\c.1.2.1.length=c.2.1.length/\c.1.2.1.length<=1000
def iT.F:iT.D->iT.Y:=λ(c,rev,pay)=>wS c rev pay
def iT.G:fD:=gr (P:=Tryz.prog) [cJ.sg]
def iT.L0.E:=cU.dp iT.L0.st iT.L0.az iT.L0.add iT.L0.F iT.L0.out
def iT.L0.call:iT.L0.D->Option iT.L0.X:=eI iT.L0.E iT.L0.st
def iT.an:fR:= {loops:=om [(3,{bO:=[1,2,3,7,13,14,15],sites:=[46],nR:=[⟨7,[],46,113⟩]})],outs:=oh [(3,{bO:=[7],sites:=[46]},{bO:=[6]})],jo:=pb [(3,iT.L0.E)],res:=[some (.slice xd)]}
def iT.A:= @dm Tryz.prog iT.G iT.an 0 Tryz.f39 _ iT.st
abbrev iT.Ok:=dn @iT.A iT.az iT.add iT.F iT.out
def iT.L0.R:= @dr Tryz.prog iT.G iT.an 0 Tryz.f39 0 _ iT.L0.st
abbrev iT.L0.Ok:=gz Tryz.prog iT.G iT.an 0 Tryz.f39 0 iT.L0.st iT.L0.az iT.L0.add iT.L0.F iT.L0.out
theorem iT.L0.run:b8 iT.L0.call iT.L0.az iT.L0.add iT.L0.F:=gR (gJ [.d tu,.d tu,.d Me,.n,.d (.slice ir),.d ti,.d ti,.d (.slice xd)] λ_=>by kernel_rfl)
theorem iT.L0.aI:jl @iT.L0.R iT.L0.st iT.L0.az iT.L0.add iT.L0.F iT.L0.bY iT.L0.Ok:=js
theorem iT.L0.step{R:Type}(vg:Int)(vf:Int)(vH:H5)(outL:Nat)(t13:(List iF))(t14:Int)(t15:Int)(Ie:(List o6))(kn:AS->Option R)(kx:Exit->AS->Option R):iT.L0.R (vg,vf,vH,outL,t13,t14,t15,Ie) kn kx=
  aJ ((jM t15 t14)) (
   aJ (fB t15 (((List.length t13):Nat):Int)) (
   aJ (fB t15 (((List.length vH.1.2.1):Nat):Int)) (
   aJ (fB t15 (((List.length vH.2.1):Nat):Int)) (
   aJ ((mV (nth FU vH.2.1 (Int.toNat t15)).1 (3:Int))) (
    aJ ((mV (nth FU vH.2.1 (Int.toNat t15)).1 (3:Int))) (
     kn (iT.L0.st (vg,vf,vH,outL,t13,t14,(bV .i64 t15 (1:Int)),Ie))) (
     aJ ((mV (nth FU vH.2.1 (Int.toNat t15)).1 (2:Int))) (
      aJ (decide (outL<=(List.length Ie))) (
      aJ (fq (outL+1) 56) (
      kn (iT.L0.st (vg,vf,vH,(outL+1),t13,t14,(bV .i64 t15 (1:Int)),((List.take outL Ie)++ [((nth ir t13 (Int.toNat t15)),((nth lH vH.1.2.1 (Int.toNat t15)).1,(vf,())))])))) none) none) (
      aJ (decide (outL<=(List.length Ie))) (
      aJ (fq (outL+1) 56) (
      kn (iT.L0.st (vg,vf,vH,(outL+1),t13,t14,(bV .i64 t15 (1:Int)),((List.take outL Ie)++ [((nth ir t13 (Int.toNat t15)),((nth lH vH.1.2.1 (Int.toNat t15)).1,(vg,())))])))) none) none))) (
    aJ ((mV (nth FU vH.2.1 (Int.toNat t15)).1 (4:Int))) (
     kn (iT.L0.st (vg,vf,vH,outL,t13,t14,(bV .i64 t15 (1:Int)),Ie))) (
     aJ ((mV (nth FU vH.2.1 (Int.toNat t15)).1 (2:Int))) (
      aJ (decide (outL<=(List.length Ie))) (
      aJ (fq (outL+1) 56) (
      kn (iT.L0.st (vg,vf,vH,(outL+1),t13,t14,(bV .i64 t15 (1:Int)),((List.take outL Ie)++ [((nth ir t13 (Int.toNat t15)),((nth lH vH.1.2.1 (Int.toNat t15)).1,(vf,())))])))) none) none) (
      aJ (decide (outL<=(List.length Ie))) (
      aJ (fq (outL+1) 56) (
      kn (iT.L0.st (vg,vf,vH,(outL+1),t13,t14,(bV .i64 t15 (1:Int)),((List.take outL Ie)++ [((nth ir t13 (Int.toNat t15)),((nth lH vH.1.2.1 (Int.toNat t15)).1,(vg,())))])))) none) none)))) none) none) none) (
   kx (iT.L0.bY (outL,Ie)).1 (iT.L0.bY (outL,Ie)).2):=by kernel_rfl
theorem iT.eq{R:Type}(c:H5)(rev:Int)(pay:Int)(k:aX->Option R):iT.A (c,rev,pay) k=
 ah (cJ.call c.1) λx1=>
 ah (iT.L0.call (rev,pay,c,0,x1,(((List.length x1):Nat):Int),(0:Int),([]:List o6))) λx2=>
 aJ (decide (0=0/\(0+x2.1)<=(List.length x2.2))) (
 k (iT.out (cut x2.2 0 x2.1))) none:=by kernel_rfl
theorem iT.L0.ok:iT.L0.Ok:=by
 refine iT.L0.aI (λ(rev,pay,c,L,os,m,i,row)=>os.length - i.toNat) ?_
 rintro⟨rev,pay,c,L,os,m,i,row⟩ ⟨ho,hr,hl,rfl,rfl,k,hk,rfl,mZ⟩
 have hk:k<=os.length:=hk
 have ho:os.length<=c.1.2.1.length:=ho
 have hr:c.1.2.1.length=c.2.1.length:=hr
 have hl:os.length<=1000:=hl
 have mZ:row.length<=k:=mZ
 by_cases h:k < os.length
 ·left
  have n1:nth ir os k=os[k]:=dQ (t:=ir) h
  have n2:nth lH c.1.2.1 k=c.1.2.1[k]:=dQ (t:=lH) (by omega)
  have n3:nth FU c.2.1 k=c.2.1[k]:=dQ (t:=FU) (by omega)
  have hd:A2 rev pay (os.drop k) (c.1.2.1.drop k) (c.2.1.drop k)=vl rev pay os[k] c.1.2.1[k] c.2.1[k]++A2 rev pay (os.drop (k+1)) (c.1.2.1.drop (k+1)) (c.2.1.drop (k+1)):=by
   rw[av h,av (show k < c.1.2.1.length by omega),av (show k < c.2.1.length by omega),A2]
  have e1:∀x:o6,(row++ [x]).length=row.length+1:=λx=>by rw[aj];rfl
  have key:∀(t:List o6),t.length<=1->(row++t).length<=k+1:=λt ht=>by rw[aj];omega
  refine⟨(rev,pay,c,(row++vl rev pay os[k] c.1.2.1[k] c.2.1[k]).length,os,(os.length:Int),((k+1:Nat):Int),row++vl rev pay os[k] c.1.2.1[k] c.2.1[k]),⟨ho,hr,hl,rfl,rfl,k+1,by omega,rfl,key _ (by unfold vl;split <;> simp)⟩,by simp only[aa];omega,?_,λkn kx=> ?_⟩
  ·simp only[iT.L0.add,iT.L0.F,aa,hd,bR]
  ·rw[iT.L0.step,bI (by omega),bF (by omega) (by omega),bF (by omega) (by omega),bF (by omega) (by omega),aa,n1,n2,n3,N.pF (by omega),aM (aE _),gk (by omega) (by omega),cQ]
   simp only[ae]
   unfold vl
   by_cases h3:c.2.1[k].1=3
   ·rw[fA h3,if_pos (.inl h3),dg];rfl
   ·rw[fJ h3,ai]
    by_cases h4:c.2.1[k].1=4
    ·rw[fA h4,if_pos (.inr h4),dg];rfl
    ·rw[fJ h4,ai,if_neg (by rintro(x | x);exact h3 x;exact h4 x),e1]
     by_cases h2:c.2.1[k].1=2
     ·rw[fA h2,if_pos h2];rfl
     ·rw[fJ h2,if_neg h2];rfl
 ·right
  obtain rfl:k=os.length:=by omega
  intro R kn kx
  rw[iT.L0.step,bp (by omega),ai]
  simp only[iT.L0.add,iT.L0.F,aa,bB,A2,dg]
theorem G5(t:je):(gV t).length<=t.2.1.length:=by
 unfold gV pJ
 split
 ·rw[cM,List.length_range'];exact aE _
 ·exact bm _
theorem iT.ok:iT.Ok:=by
 rintro⟨c,rev,pay⟩ ⟨hv,hr,hl⟩
 have hl:c.1.2.1.length<=1000:=hl
 have hm:=G5 c.1
 have e:cJ.call c.1=some (gV c.1):=cJ.run (d:=c.1) hv
 rw[iT.eq,e,ab]
 have ea:∀d y,iT.add d y=y:=λ_ _=>rfl
 have eF:iT.F (c,rev,pay)=wS c rev pay:=rfl
 rw[ea,eF]
 unfold wS
 generalize gV c.1=os at hm
 rw[iT.L0.run (d:=(rev,pay,c,0,os,(os.length:Int),0,[])) ⟨hm,hr,by show os.length<=1000;omega,rfl,rfl,0,bm _,rfl,aE _⟩]
 simp only[ab,iT.L0.add,iT.L0.F,bH,aW,bt,bl]
 rw[aM ⟨trivial,aE _⟩,ae,jf rfl]
def iT.E:=Entry.dp [some Me,some tu,some tu] iT.st iT.az iT.add iT.F iT.out
def iT.call:iT.D->Option iT.X:=bX iT.E iT.st
theorem iT.run:b8 iT.call iT.az iT.add iT.F:=dv (du [.d Me,.d tu,.d tu] λ_=>by kernel_rfl)
def iT.sg:SG Tryz.prog:=⟨39,aP,iT.E,.fn 1 (by kernel_rfl) iT.ok (And.intro (.dp iT.L0.ok (by kernel_rfl)) trivial)⟩
abbrev cS.L0.D:=Int×(List o6)×Int×Int
def cS.L0.st:cS.L0.D->AS:=λ(n,t14,t15,t16)=>⟨(bG 5 ([.d ti n]++bG 8 ([.d (.slice xd) t14,.d ti t15,.d ti t16]++bG 9 []))),[],(List.replicate 26 [])⟩
abbrev cS.L0.Y0:=Int
abbrev cS.L0.X0:=Int
def cS.L0.bY:cS.L0.X0->Exit×AS:=λx=>(.exit 0,⟨(bG 5 ([.d ti x]++bG 20 [])),[],(List.replicate 26 [])⟩)
abbrev cS.L0.X:=cS.L0.X0
abbrev cS.L0.Y:=cS.L0.Y0
def cS.L0.out:cS.L0.X->Out (Exit×AS):=λx=> .ok (cS.L0.bY x)
def cS.L0.add:cS.L0.D->cS.L0.Y->cS.L0.X:=λ(n,t14,t15,t16) y=>y
abbrev cS.D:=(List o6)×Int
def cS.st:cS.D->SA:=λ(l,bQ)=>([.d (.slice xd) l,.d ti bQ],[])
abbrev cS.Y:=Int
abbrev cS.X:=Int
def cS.out:cS.X->aX:=λx=>⟨.d ti x,[],[]⟩
def cS.add:cS.D->cS.Y->cS.X:=λ(l,bQ) y=>y
def cS.L0.az:cS.L0.D->Prop:=λ(n,l,m,i)=>(∀x∈l,0<=x.2.1/\x.2.1<=1125899906842624)/\l.length<=64/\m=l.length/\∃k:Nat,k<=l.length/\i=k/\ -100000000<=n/\n<=1125899906842624*k
def cS.L0.F:cS.L0.D->cS.L0.Y:=λ(n,l,m,i)=>n+A5 (l.drop i.toNat)
def cS.az:cS.D->Prop:=λ(l,bQ)=>BG l/\0<=bQ/\bQ<=1000
def cS.F:cS.D->cS.Y:=λ(l,bQ)=>jP l bQ
def cS.G:fD:=gr (P:=Tryz.prog) [er.sg]
def cS.L0.E:=cU.dp cS.L0.st cS.L0.az cS.L0.add cS.L0.F cS.L0.out
def cS.L0.call:cS.L0.D->Option cS.L0.X:=eI cS.L0.E cS.L0.st
def cS.an:fR:= {loops:=om [(3,{bO:=[5,14,15,16]})],outs:=oh [(3,{bO:=[5]},{bO:=[4]})],jo:=pb [(3,cS.L0.E)]}
def cS.A:= @dm Tryz.prog cS.G cS.an 0 Tryz.f38 _ cS.st
abbrev cS.Ok:=dn @cS.A cS.az cS.add cS.F cS.out
def cS.L0.R:= @dr Tryz.prog cS.G cS.an 0 Tryz.f38 0 _ cS.L0.st
abbrev cS.L0.Ok:=gz Tryz.prog cS.G cS.an 0 Tryz.f38 0 cS.L0.st cS.L0.az cS.L0.add cS.L0.F cS.L0.out
theorem cS.L0.run:b8 cS.L0.call cS.L0.az cS.L0.add cS.L0.F:=gR (gJ [.d ti,.d (.slice xd),.d ti,.d ti] λ_=>by kernel_rfl)
theorem cS.L0.aI:jl @cS.L0.R cS.L0.st cS.L0.az cS.L0.add cS.L0.F cS.L0.bY cS.L0.Ok:=js
theorem cS.L0.step{R:Type}(n:Int)(t14:(List o6))(t15:Int)(t16:Int)(kn:AS->Option R)(kx:Exit->AS->Option R):cS.L0.R (n,t14,t15,t16) kn kx=
  aJ ((jM t16 t15)) (
   aJ (fB t16 (((List.length t14):Nat):Int)) (
   kn (cS.L0.st ((bV .i64 n (nth xd t14 (Int.toNat t16)).2.1),t14,t15,(bV .i64 t16 (1:Int))))) none) (
   kx (cS.L0.bY n).1 (cS.L0.bY n).2):=by kernel_rfl
theorem cS.eq{R:Type}(l:(List o6))(bQ:Int)(k:aX->Option R):cS.A (l,bQ) k=
 ah (er.call (((List.length l):Nat):Int)) λx1=>
 ah (cS.L0.call ((gY .i64 (RF .i64 bQ) x1),l,(((List.length l):Nat):Int),(0:Int))) λx2=>
 k (cS.out x2):=by kernel_rfl
theorem cS.L0.ok:cS.L0.Ok:=by
 refine cS.L0.aI (λ(n,l,m,i)=>l.length - i.toNat) ?_
 rintro⟨n,l,m,i⟩ ⟨ha,hl,rfl,k,hk,rfl,h0,h1⟩
 have hk:k<=l.length:=hk
 have hl:l.length<=64:=hl
 have h0: -100000000<=n:=h0
 have h1:n<=1125899906842624*k:=h1
 by_cases h:k < l.length
 ·left
  have n1:nth xd l k=l[k]:=dQ (t:=xd) h
  have hx:0<=l[k].2.1/\l[k].2.1<=1125899906842624:=ha _ (List.getElem_mem h)
  refine⟨(n+l[k].2.1,l,(l.length:Int),((k+1:Nat):Int)),⟨ha,hl,rfl,k+1,by omega,rfl,by omega,by omega⟩,by simp only[aa];omega,?_,λkn kx=> ?_⟩
  ·simp only[cS.L0.add,cS.L0.F,aa]
   rw[av h,A5,qL]
  ·rw[cS.L0.step,bI (by omega),bF (by omega) (by omega),aa,n1,N.pF (by omega),ff (by omega) (by omega)]
   simp only[ae]
 ·right
  obtain rfl:k=l.length:=by omega
  intro R kn kx
  rw[cS.L0.step,bp (by omega),ai]
  simp only[cS.L0.add,cS.L0.F,aa,bB,A5,mE]
theorem cS.ok:cS.Ok:=by
 rintro⟨l,bQ⟩ ⟨hg,h0,h1⟩
 have h0:(0:Int)<=bQ:=h0
 have h1:bQ<=(1000:Int):=h1
 have hl:l.length<=64:=hg.1
 have hm:=yJ (r:=bQ) (w:=18+18*(l.length:Int)) (a:=1000) (b:=1170) h0 h1 (by omega) (by omega)
 have e0:RF .i64 bQ= -bQ:=by unfold RF;rw[qW (by omega) (by omega)];omega
 have e1: -bQ*(18+18*(l.length:Int))= -(bQ*(18+18*(l.length:Int))):=Int.neg_mul _ _
 have e4: -100000000<= -bQ*(18+18*(l.length:Int)):=by rw[e1];omega
 have e5: -bQ*(18+18*(l.length:Int))<=1125899906842624*((0:Nat):Int):=by rw[e1];omega
 have e2:gY .i64 (-bQ) (18+18*(l.length:Int))= -bQ*(18+18*(l.length:Int)):=na (by rw[e1];omega) (by rw[e1];omega)
 have e3:er.call ((l.length:Nat):Int)=some (18+18*(l.length:Int)):=er.run (d:=((l.length:Nat):Int)) ⟨by show(0:Int)<=((l.length:Nat):Int);omega,by show((l.length:Nat):Int)<=1000;omega⟩
 rw[cS.eq,e3,ab,e0,e2]
 rw[cS.L0.run (d:=(-bQ*(18+18*(l.length:Int)),l,(l.length:Int),0)) ⟨λx hx=>(hg.2 x hx).EY,hl,rfl,0,bm _,rfl,e4,e5⟩]
 simp only[ab,cS.L0.add,cS.L0.F,bH,aW,cS.add,cS.F,jP]
def cS.E:=Entry.dp [some (.slice xd),some ti] cS.st cS.az cS.add cS.F cS.out
def cS.call:cS.D->Option cS.X:=bX cS.E cS.st
theorem cS.run:b8 cS.call cS.az cS.add cS.F:=dv (du [.d (.slice xd),.d ti] λ_=>by kernel_rfl)
def cS.sg:SG Tryz.prog:=⟨38,aP,cS.E,.fn 1 (by kernel_rfl) cS.ok (And.intro (.dp cS.L0.ok (by kernel_rfl)) trivial)⟩
abbrev kz.D:=Int×Int×je×Int
def kz.st:kz.D->SA:=λ(i,kv,o0,o1)=>([.d ti i,.d tu kv,.ptr (.ew 0) 0 [] 0,.ptr (.ew 1) 0 [] 0],[.obj 0 false (.d lS o0),.obj 0 false (.d ti o1)])
abbrev kz.Y:=Bool×je×Int
abbrev kz.X:=Bool×je×Int
def kz.out:kz.X->aX:=λx=>⟨.d .bool x.1,[.obj 0 false (.d lS x.2.1),.obj 0 false (.d ti x.2.2)],[]⟩
def kz.add:kz.D->kz.Y->kz.X:=λ(i,kv,o0,o1) y=>y
def kz.az:kz.D->Prop:=λ(_,k,t,_)=>u9 t/\iy k
def kz.F:kz.D->kz.Y:=λ(i,k,t,_)=>(mV (pO t i 0 [k] 0).2 0,pO t i 0 [k] 0)
def kz.G:fD:=gr (P:=Tryz.prog) [cT.sg]
def kz.an:fR:= {E7:=[⟨2,[.arr],lS⟩]}
def kz.A:= @dm Tryz.prog kz.G kz.an 0 Tryz.f74 _ kz.st
abbrev kz.Ok:=dn @kz.A kz.az kz.add kz.F kz.out
theorem kz.eq{R:Type}(i:Int)(kv:Int)(o0:je)(o1:Int)(k:aX->Option R):kz.A (i,kv,o0,o1) k=
 ah (cT.call (o0,i,(0:Int),[kv],(0:Int))) λx1=>
 k (kz.out ((mV x1.2 (0:Int)),x1.1,x1.2)):=by kernel_rfl
theorem kz.ok:kz.Ok:=by
 rintro⟨i,k,t,e⟩ ⟨hv,hk⟩
 rw[kz.eq,cT.run (d:=(t,i,0,[k],0)) ⟨hv,λx hx=>by rw[aU]at hx;subst hx;exact hk,dE rfl⟩]
 rfl
def kz.E:=Entry.dp [some ti,some tu,none,none] kz.st kz.az kz.add kz.F kz.out
def kz.call:kz.D->Option kz.X:=bX kz.E kz.st
theorem kz.run:b8 kz.call kz.az kz.add kz.F:=dv (du [.d ti,.d tu,.d lS,.d ti] λ_=>by kernel_rfl)
def kz.sg:SG Tryz.prog:=⟨74,aP,kz.E,.fn 0 (by kernel_rfl) kz.ok trivial⟩
abbrev bq.L0.D:=(List o6)×Lk×Int×(List o6)×Int×Int×(Int×Unit)×Nat×(Int×Unit)×(List kX)
def bq.L0.st:bq.L0.D->AS:=λ(Be,o4,n,t22,t23,t24,n6,DP,n9,Qs)=>⟨([.d (.slice xd) Be,.undef,.undef,.undef,.gE qS o4,.undef,.ptr (.new 6 0) 0 [] 0,.undef,.d ti n,.ptr (.new 9 0) 0 [] 0]++bG 12 ([.d (.slice xd) t22,.d ti t23,.d ti t24]++bG 35 [])),[],(dh 6 ([[.obj 0 false (.pr (.eU) (.pr (.eU) (.d (.pair ti .unit) n6)))],[],[],[.obj 0 false (.pr (.di (.new 34 0) 0 [] 0 0 DP) (.pr (.eU) (.d (.pair ti .unit) n9)))]]++dh 24 ([[.obj 0 false (.vec 93 kW Qs)]]++dh 25 [])))⟩
abbrev bq.L0.Y0:=Nat×(List kX)
abbrev bq.L0.X0:=((List o6)×Lk×Int×(Int×Unit)×(Int×Unit))×(Nat×(List kX))
def bq.L0.bY:bq.L0.X0->Exit×AS:=λx=>(.exit 0,⟨([.d (.slice xd) x.1.1,.undef,.undef,.undef,.gE qS x.1.2.1,.undef,.ptr (.new 6 0) 0 [] 0,.undef,.d ti x.1.2.2.1,.ptr (.new 9 0) 0 [] 0]++bG 50 []),[],(dh 6 ([[.obj 0 false (.pr (.eU) (.pr (.eU) (.d (.pair ti .unit) x.1.2.2.2.1)))],[],[],[.obj 0 false (.pr (.di (.new 34 0) 0 [] 0 0 x.2.1) (.pr (.eU) (.d (.pair ti .unit) x.1.2.2.2.2)))]]++dh 24 ([[.obj 0 false (.vec 93 kW x.2.2)]]++dh 25 [])))⟩)
abbrev bq.L0.X:=bq.L0.X0
abbrev bq.L0.Y:=bq.L0.Y0
def bq.L0.out:bq.L0.X->Out (Exit×AS):=λx=> .ok (bq.L0.bY x)
def bq.L0.add:bq.L0.D->bq.L0.Y->bq.L0.X:=λ(Be,o4,n,t22,t23,t24,n6,DP,n9,Qs) y=>((Be,o4,n,n6,n9),y)
abbrev bq.L1.D:=(List o6)×Int×Int×(Int×Unit)×je×Int
def bq.L1.st:bq.L1.D->AS:=λ(t43,t44,t45,pQ,oW,CE)=>⟨(bG 6 ([.ptr (.new 6 0) 0 [] 0,.undef,.undef,.ptr (.new 9 0) 0 [] 0,.undef,.undef,.ptr (.new 12 0) 0 [] 0,.fn 74 (.cons (.ptr (.new 9 0) 0 [] 0) (.cons (.ptr (.new 12 0) 0 [] 0) (.nil)))]++bG 29 ([.d (.slice xd) t43,.d ti t44,.d ti t45]++bG 14 []))),[],(dh 6 ([[.obj 0 false (.pr (.eU) (.pr (.eU) (.d (.pair ti .unit) pQ)))],[],[],[.obj 0 false (.d lS oW)],[],[],[.obj 0 false (.d ti CE)]]++dh 47 []))⟩
abbrev bq.L1.Y0:=Int×(Int×Unit)
abbrev bq.L1.X0:=Int×(Int×Unit)
def bq.L1.bY:bq.L1.X0->Exit×AS:=λx=>(.ret,⟨(bG 6 ([.ptr (.new 6 0) 0 [] 0,.d ti x.1]++bG 52 [])),[],(dh 6 ([[.obj 0 false (.pr (.eU) (.pr (.eU) (.d (.pair ti .unit) x.2)))]]++dh 53 []))⟩)
abbrev bq.L1.Y1:=je
abbrev bq.L1.X1:=((Int×Unit))×(je)
def bq.L1.ko:bq.L1.X1->Exit×AS:=λx=>(.exit 2,⟨(bG 6 ([.ptr (.new 6 0) 0 [] 0,.undef,.undef,.ptr (.new 9 0) 0 [] 0]++bG 50 [])),[],(dh 6 ([[.obj 0 false (.pr (.eU) (.pr (.eU) (.d (.pair ti .unit) x.1)))],[],[],[.obj 0 false (.d lS x.2)]]++dh 50 []))⟩)
abbrev bq.L1.X:=(bq.L1.X0)⊕(bq.L1.X1)
abbrev bq.L1.Y:=(bq.L1.Y0)⊕(bq.L1.Y1)
def bq.L1.out:bq.L1.X->Out (Exit×AS):=λx=> .br x.isLeft (.get x.getLeft? λa=> .ok (bq.L1.bY a)) (.get x.getRight? λb=> .ok (bq.L1.ko b))
def bq.L1.add:bq.L1.D->bq.L1.Y->bq.L1.X:=λ(t43,t44,t45,pQ,oW,CE) y=>match y with | .inl y=> .inl y | .inr z=> .inr ((pQ,z))
abbrev bq.D:=(List o6)×Lk×Int
def bq.st:bq.D->SA:=λ(l,to,bQ)=>([.d (.slice xd) l,.d qS to,.d ti bQ],[])
abbrev bq.Y:=je×Int
abbrev bq.X:=je×Int
def bq.out:bq.X->aX:=λx=>⟨.cons (.d lS x.1) (.cons (.d ti x.2) (.nil)),[],[]⟩
def bq.add:bq.D->bq.Y->bq.X:=λ(l,to,bQ) y=>y
def Ck(x:o6):kX:=(x.1,(((0:Int),(([]:List Sg),((0:Int),()))),()))
def bq.L0.az:bq.L0.D->Prop:=λ(l,to,n,ps,m,i,z,L,z2,row)=>(ps).length<=1000000/\∃k:Nat,k<=(ps).length/\i=k/\m=(ps).length/\L=(row).length/\(row).length<=1000000+k
def bq.L0.F:bq.L0.D->bq.L0.Y:=λ(l,to,n,ps,m,i,z,L,z2,row)=>(L+(List.drop (Int.toNat i) ps).length,row++(List.drop (Int.toNat i) ps).map Ck)
def QI:je:=(([]:List kX),(([]:List kI),((0:Int),())))
def Dh(l:List o6)(to:Lk)(n:Int):je:=(l.map Ck,([(n,(to,()))],((0:Int),())))
def qk(t:je):Nat->List o6->je⊕Int
 |_,[]=> .inl t
 |i,x::l=>if(pO t i 0 [x.2.2.1] 0).2=0 then qk (pO t i 0 [x.2.2.1] 0).1 (i+1) l else .inr (pO t i 0 [x.2.2.1] 0).2
def mc(l:List o6)(to:Lk)(bQ:Int):je×Int:=
 if jP l bQ < 1 then(QI,8) else match qk (Dh l to (jP l bQ)) 0 l with | .inl t=>(t,0) | .inr e=>(QI,e)
def bq.L1.az:bq.L1.D->Prop:=λ(l,m,i,z,t,e)=>u9 t/\(∀x∈l,iy x.2.2.1)/\l.length<=64/\m=l.length/\∃k:Nat,k<=l.length/\i=k
def bq.L1.F:bq.L1.D->bq.L1.Y:=λ(l,m,i,z,t,e)=>match qk t i.toNat (l.drop i.toNat) with | .inl t=> .inr t | .inr e=> .inl (e,(0,()))
def bq.az:bq.D->Prop:=λ(l,to,bQ)=>BG l/\uq to/\0<=bQ/\bQ<=1000
def bq.F:bq.D->bq.Y:=λ(l,to,bQ)=>mc l to bQ
def bq.G:fD:=gr (P:=Tryz.prog) [cS.sg,kz.sg]
def bq.L0.E:=cU.dp bq.L0.st bq.L0.az bq.L0.add bq.L0.F bq.L0.out
def bq.L0.call:bq.L0.D->Option bq.L0.X:=eI bq.L0.E bq.L0.st
def bq.L1.E:=cU.dp bq.L1.st bq.L1.az bq.L1.add bq.L1.F bq.L1.out
def bq.L1.call:bq.L1.D->Option bq.L1.X:=eI bq.L1.E bq.L1.st
def bq.an:fR:= {loops:=om [(6,{bO:=[0,4,6,8,9,22,23,24],sites:=[6,9,34],nR:=[⟨9,[.fst],34,59⟩]}),(14,{bO:=[6,9,12,13,43,44,45],sites:=[6,9,12],E7:=[⟨9,[.arr],lS⟩]})],outs:=oh [(6,{bO:=[0,4,6,8,9],sites:=[6,9,34]},{bO:=[6,7]}),(14,{bO:=[6,9],sites:=[6,9]},{bO:=[6,7],sites:=[6]})],jo:=pb [(6,bq.L0.E),(14,bq.L1.E)],res:=[some lS,none]}
def bq.A:= @dm Tryz.prog bq.G bq.an 0 Tryz.f32 _ bq.st
abbrev bq.Ok:=dn @bq.A bq.az bq.add bq.F bq.out
def bq.L0.R:= @dr Tryz.prog bq.G bq.an 0 Tryz.f32 0 _ bq.L0.st
abbrev bq.L0.Ok:=gz Tryz.prog bq.G bq.an 0 Tryz.f32 0 bq.L0.st bq.L0.az bq.L0.add bq.L0.F bq.L0.out
def bq.L1.R:= @dr Tryz.prog bq.G bq.an 0 Tryz.f32 1 _ bq.L1.st
abbrev bq.L1.Ok:=gz Tryz.prog bq.G bq.an 0 Tryz.f32 1 bq.L1.st bq.L1.az bq.L1.add bq.L1.F bq.L1.out
theorem bq.L0.run:b8 bq.L0.call bq.L0.az bq.L0.add bq.L0.F:=gR (gJ [.d (.slice xd),.d qS,.d ti,.d (.slice xd),.d ti,.d ti,.d (.pair ti .unit),.n,.d (.pair ti .unit),.d (.slice kW)] λ_=>by kernel_rfl)
theorem bq.L0.aI:jl @bq.L0.R bq.L0.st bq.L0.az bq.L0.add bq.L0.F bq.L0.bY bq.L0.Ok:=js
theorem bq.L0.step{R:Type}(Be:(List o6))(o4:Lk)(n:Int)(t22:(List o6))(t23:Int)(t24:Int)(n6:(Int×Unit))(DP:Nat)(n9:(Int×Unit))(Qs:(List kX))(kn:AS->Option R)(kx:Exit->AS->Option R):bq.L0.R (Be,o4,n,t22,t23,t24,n6,DP,n9,Qs) kn kx=
  aJ ((jM t24 t23)) (
   aJ (fB t24 (((List.length t22):Nat):Int)) (
   aJ (decide (DP<=(List.length Qs))) (
   aJ (fq (DP+1) 80) (
   kn (bq.L0.st (Be,o4,n,t22,t23,(bV .i64 t24 (1:Int)),n6,(DP+1),n9,((List.take DP Qs)++ [((nth xd t22 (Int.toNat t24)).1,(((0:Int),(([]:List Sg),((0:Int),()))),()))])))) none) none) none) (
   kx (bq.L0.bY ((Be,o4,n,n6,n9),(DP,Qs))).1 (bq.L0.bY ((Be,o4,n,n6,n9),(DP,Qs))).2):=by kernel_rfl
theorem bq.L1.run:b8 bq.L1.call bq.L1.az bq.L1.add bq.L1.F:=gR (gJ [.d (.slice xd),.d ti,.d ti,.d (.pair ti .unit),.d lS,.d ti] λ_=>by kernel_rfl)
theorem bq.L1.aI:rV @bq.L1.R bq.L1.st bq.L1.az bq.L1.add bq.L1.F bq.L1.out bq.L1.Ok:=sy
theorem bq.L1.step{R:Type}(t43:(List o6))(t44:Int)(t45:Int)(pQ:(Int×Unit))(oW:je)(CE:Int)(kn:AS->Option R)(kx:Exit->AS->Option R):bq.L1.R (t43,t44,t45,pQ,oW,CE) kn kx=
  aJ ((jM t45 t44)) (
   aJ (fB t45 (((List.length t43):Nat):Int)) (
   ah (kz.call (t45,(nth xd t43 (Int.toNat t45)).2.2.1,oW,CE)) λx1=>
   aJ ((!x1.1)) (
    kx (bq.L1.bY (x1.2.2,((0:Int),()))).1 (bq.L1.bY (x1.2.2,((0:Int),()))).2) (
    kn (bq.L1.st (t43,t44,(bV .i64 t45 (1:Int)),pQ,x1.2.1,x1.2.2)))) none) (
   kx (bq.L1.ko (pQ,oW)).1 (bq.L1.ko (pQ,oW)).2):=by kernel_rfl
theorem bq.eq{R:Type}(l:(List o6))(to:Lk)(bQ:Int)(k:aX->Option R):bq.A (l,to,bQ) k=
  ah (cS.call (l,bQ)) λx1=>
  aJ ((jM x1 (1:Int))) (
   k (bq.out ((([]:List kX),(([]:List kI),((0:Int),()))),(8:Int)))) (
   ah (bq.L0.call (l,to,x1,l,(((List.length l):Nat):Int),(0:Int),((0:Int),()),0,((0:Int),()),([]:List kX))) λx2=>
   aJ (decide (0=0/\(0+x2.2.1)<=(List.length x2.2.2))) (
   ah (bq.L1.call (x2.1.1,(((List.length x2.1.1):Nat):Int),(0:Int),x2.1.2.2.2.1,((cut x2.2.2 0 x2.2.1),([(x2.1.2.2.1,(x2.1.2.1,()))],x2.1.2.2.2.2)),(0:Int))) λx4=>
   aJ (x4.isLeft) (
    ah (x4.getLeft?) λa5=>
    k (bq.out ((([]:List kX),(([]:List kI),a5.2)),a5.1))) (
    ah (x4.getRight?) λb6=>
    k (bq.out (b6.2,(0:Int))))) none):=by kernel_rfl
theorem bq.L0.ok:bq.L0.Ok:=by
 refine bq.L0.aI (λ(l,to,n,ps,m,i,z,L,z2,row)=>(ps).length - Int.toNat i) ?_
 rintro⟨l,to,n,ps,m,i,z,L,z2,row⟩ ⟨hlen,k,hk,rfl,rfl,rfl,mZ⟩
 have hlen:(ps).length<=1000000:=hlen
 have hk:k<=(ps).length:=hk
 have mZ:(row).length<=1000000+k:=mZ
 by_cases h:k < (ps).length
 ·left
  have n1:nth xd ps k=ps[k]:=dQ (t:=xd) h
  have hd:List.drop k ps=ps[k]::List.drop (k+1) ps:=av h
  refine⟨(l,to,n,ps,((ps).length:Int),((k+1:Nat):Int),z,(row).length+1,z2,row++ [Ck ps[k]]),⟨hlen,k+1,by omega,rfl,rfl,by rw[aj];rfl,by rw[aj];show(row).length+1<=_;omega⟩,by simp only[aa];omega,?_,λkn kx=> ?_⟩
  ·simp only[bq.L0.add,bq.L0.F,aa,hd,cO,aO,bR,fp]
   rw[show ∀a c:Nat,a+1+c=a+(c+1) from λa c=>by omega]
  ·rw[bq.L0.step,bI (by omega),bF (show(0:Int)<=(k:Int) by omega) (by omega),aa,n1]
   simp only[ae]
   rw[aM (aE _),gk (by omega) (by omega),N.pF (by omega),cQ]
   rfl
 ·right
  obtain rfl:k=(ps).length:=by omega
  intro R kn kx
  rw[bq.L0.step,bp (by omega),ai]
  simp only[bq.L0.add,bq.L0.F,aa,bB,jH,dg,bM,dR]
theorem Km{t:je}{i br sc:Int}{ks:List Int}(hv:u9 t)(hs:iy sc)(h:(pO t i br ks sc).2=0):u9 (pO t i br ks sc).1/\sO t i br ks=true:=by
 rw[y9]at h ⊢
 by_cases e:sO t i br ks=true
 ·rw[if_pos e]
  exact⟨(C2 hv e hs).2.1,e⟩
 ·rw[if_neg e]at h
  exact absurd h (by decide)
theorem bq.L1.ok:bq.L1.Ok:=by
 refine bq.L1.aI (λ(l,m,i,z,t,e)=>l.length - i.toNat) ?_
 rintro⟨l,m,i,z,t,e⟩ ⟨hv,hu,hl,rfl,k,hk,rfl⟩
 have hk:k<=l.length:=hk
 have hl:l.length<=64:=hl
 by_cases h:k < l.length
 ·have n1:nth xd l k=l[k]:=dQ (t:=xd) h
  have hx:iy l[k].2.2.1:=hu _ (List.getElem_mem h)
  have hd:qk t k (l.drop k)=if(pO t k 0 [l[k].2.2.1] 0).2=0 then qk (pO t k 0 [l[k].2.2.1] 0).1 (k+1) (l.drop (k+1)) else .inr (pO t k 0 [l[k].2.2.1] 0).2:=by rw[av h,qk]
  have c1:kz.call ((k:Int),l[k].2.2.1,t,e)=some (mV (pO t k 0 [l[k].2.2.1] 0).2 0,pO t k 0 [l[k].2.2.1] 0):=kz.run (d:=((k:Int),l[k].2.2.1,t,e)) ⟨hv,hx⟩
  have Ch:(pO t k 0 [l[k].2.2.1] 0).2=0->u9 (pO t k 0 [l[k].2.2.1] 0).1:=λhz=>(Km hv uZ hz).1
  generalize pO t k 0 [l[k].2.2.1] 0=r at hd c1 Ch
  have step:∀ {R:Type} (kn:AS->Option R) (kx:Exit->AS->Option R),bq.L1.R (l,(l.length:Int),(k:Int),z,t,e) kn kx=aJ (!mV r.2 0) (kx (bq.L1.bY (r.2,((0:Int),()))).1 (bq.L1.bY (r.2,((0:Int),()))).2) (kn (bq.L1.st (l,(l.length:Int),((k+1:Nat):Int),z,r.1,r.2))):=by
   intro R kn kx
   rw[bq.L1.step,bI (by omega),ae,bF (by omega) (by omega),ae,aa,n1,c1,ab,N.pF (by omega)]
  by_cases hz:r.2=0
  ·left
   refine⟨(l,(l.length:Int),((k+1:Nat):Int),z,r.1,r.2),⟨Ch hz,hu,hl,rfl,k+1,by omega,rfl⟩,by simp only[aa];omega,?_,λkn kx=> ?_⟩
   ·simp only[bq.L1.add,bq.L1.F,aa,hd,if_pos hz]
   ·rw[step,fA hz,bZ,ai]
  ·right
   refine⟨bq.L1.bY (r.2,((0:Int),())),?_,λkn kx=> ?_⟩
   ·simp only[bq.L1.add,bq.L1.F,aa,hd,if_neg hz]
    rfl
   ·rw[step,fJ hz,gm,ae]
 ·right
  obtain rfl:k=l.length:=by omega
  refine⟨bq.L1.ko (z,t),?_,λkn kx=> ?_⟩
  ·simp only[bq.L1.add,bq.L1.F,aa,bB,qk]
   rfl
  ·rw[bq.L1.step,bp (by omega),ai]
theorem Jq{l:List o6}{to:Lk}{n:Int}(hg:BG l)(sY:uq to):u9 (Dh l to n):=by
 refine⟨⟨λo ho=> ?_,by show(l.map Ck).length<=_;rw[cM];have:=hg.1;omega,by show 1<=_;decide⟩,λx hx=> ?_,by show(0:Int)<=_;decide⟩
 ·have ho:o∈ [(n,(to,()))]:=ho
  rw[aU]at ho
  subst ho
  exact sY
 ·obtain⟨y,hy,rfl⟩:=eD.1 (show x∈l.map Ck from hx)
  exact⟨(hg.2 y hy).id,⟨λs hs=>(by cases hs),uZ⟩,bm _⟩
theorem bq.ok:bq.Ok:=by
 rintro⟨l,to,bQ⟩ ⟨hg,sY,h0,h1⟩
 have hl:l.length<=64:=hg.1
 have e0:cS.call (l,bQ)=some (jP l bQ):=cS.run (d:=(l,bQ)) ⟨hg,h0,h1⟩
 have hv:=Jq (n:=jP l bQ) hg sY
 have ea:∀d y,bq.add d y=y:=λ_ _=>rfl
 have eF:bq.F (l,to,bQ)=mc l to bQ:=rfl
 rw[bq.eq,e0,ab,ea,eF]
 unfold mc
 generalize jP l bQ=n at hv
 by_cases hn:n < 1
 ·rw[bI hn,ae,if_pos hn]
  rfl
 rw[bp hn,ai,if_neg hn,bq.L0.run (d:=(l,to,n,l,(l.length:Int),0,(0,()),0,(0,()),[])) ⟨by show l.length<=1000000;omega,0,bm _,rfl,rfl,rfl,bm _⟩]
 simp only[ab,bq.L0.add,bq.L0.F,bH,aW,bt,bl]
 rw[aM ⟨trivial,by rw[cM];exact aE _⟩,ae,jf (cM ..)]
 have e1:=bq.L1.run (d:=(l,(l.length:Int),0,(0,()),Dh l to n,0)) ⟨hv,λx hx=>(hg.2 x hx).key,hl,rfl,0,bm _,rfl⟩
 unfold Dh at e1 ⊢
 rw[e1]
 simp only[ab,bq.L1.add,bq.L1.F,bH,aW]
 generalize qk _ 0 l=r
 cases r with
 |inl t=>rfl
 |inr e=>rfl
def bq.E:=Entry.dp [some (.slice xd),some qS,some ti] bq.st bq.az bq.add bq.F bq.out
def bq.call:bq.D->Option bq.X:=bX bq.E bq.st
theorem bq.run:b8 bq.call bq.az bq.add bq.F:=dv (du [.d (.slice xd),.d qS,.d ti] λ_=>by kernel_rfl)
def bq.sg:SG Tryz.prog:=⟨32,aP,bq.E,.fn 2 (by kernel_rfl) bq.ok (And.intro (.dp bq.L0.ok (by kernel_rfl)) (And.intro (.dp bq.L1.ok (by kernel_rfl)) trivial))⟩
end
end Go.Ab
namespace Go.Ab
open Go.Proofs
noncomputable section
theorem CO:∀(s:Int) (l:List kI),qh s l=true->∀o∈l,0<=o.1/\o.1<=1125899906842624
 |_,[],_,o,h=>by cases h
 |s,x::l,h,o,ho=>by
  rw[qh,ak,ak]at h
  rcases cE.1 ho with rfl | ho
  ·have:=h.1.1
   unfold tS tx at this
   simp only[ak,decide_eq_true_eq]at this
   exact this.2.1
  ·exact CO _ l h.2 o ho
theorem EO{t:je}(h:j9 t=true):t.2.1.length<=64/\∀o∈t.2.1,0<=o.1/\o.1<=1125899906842624:=by
 unfold j9 yc at h
 simp only[ak,decide_eq_true_eq]at h
 exact⟨h.1.2.2.1,CO _ _ h.2.2⟩
theorem wP{id:List Int}{k n:Nat}{o:iF}(h:o∈pJ id k n):o.1=id:=by
 unfold pJ at h
 obtain⟨i,_,rfl⟩:=eD.1 h
 rfl
theorem Hr{c:H5}{rev pay:Int}(h1:iy rev)(h2:iy pay):BG (wS c rev pay):=by
 unfold wS
 by_cases kA:j9 c.1=true
 ·obtain⟨hl,ha⟩:=EO kA
  refine⟨pV (Kr ..) (pV (G5 _) hl),λy hy=> ?_⟩
  obtain⟨o,ho,x,hx,r,hr,_,rfl⟩:=BC _ _ _ _ _ _ hy
  refine⟨?_,ha x hx,?_⟩
  ·unfold gV at ho
   rw[if_pos kA]at ho
   show Sm o.1
   rw[wP ho]
   exact Dg
  ·show iy (if r.1=2 then pay else rev)
   split
   ·exact h2
   ·exact h1
 ·have e:gV c.1=[]:=by unfold gV;rw[if_neg kA]
  rw[e]
  exact⟨bm _,λy hy=>by simp[A2]at hy⟩
theorem wW{l:List my}{x:my}:x∈lP l↔x∈l:=(mR l).mem_iff
theorem PI{ch:iP}{s:jk}{own per:Int}(fI:mX ch)(hu:ur s)(ho:own=0\/own=1)(hp:iy per):∀m∈o3 ch s own per,uq m.1.2.1:=by
 have hp':1 - own=0\/1 - own=1:=by omega
 have b0:=fI.ba ho
 have b1:=fI.ba hp'
 intro m hm
 unfold o3 at hm
 simp only[cf]at hm
 rcases hm with hm | hm | hm | hm
 ·split at hm
  ·rw[aU]at hm;subst hm
   exact GZ (rM _) (rM _)
  ·cases hm
 ·split at hm
  ·rw[aU]at hm;subst hm
   exact Bp b1.2.1.1
  ·cases hm
 ·rcases cE.1 hm with rfl | hm
  ·exact uK b0.1.1
  ·rw[aU]at hm;subst hm
   exact uK b1.1.1
 ·obtain⟨c,hc,rfl⟩:=eD.1 hm
  have hq:=hu.1 c (jI.1 hc).1
  unfold oz
  split
  ·exact Qj (rM _) (rM _) (rM _) hq
  ·exact Qk (rM _) (rM _) (rM _) hq
theorem HC{ch:iP}{s:jk}{own per:Int}(hl:s.2.2.1.length<=16):(o3 ch s own per).length<=20:=by
 unfold o3
 have h3:(ja s.2.2.1).length<=16:=pV (nj _ _) hl
 simp only[aj,cM]
 have h1:(if FM (j5 ch s own)=true then [F7 (j5 ch s own) (Az (vY (nm ch own).2.2.1 per) (uU (nm ch (1 - own)).2.2.2.2.1 per) (xp ch (1 - own))) ((1:Int),(OH,()))] else []).length<=1:=by split <;> simp
 have h2:(if FM (j5 ch s (1 - own))=true then [F7 (j5 ch s (1 - own)) (sX [(nm ch (1 - own)).2.1]) ((2:Int),(OH,()))] else []).length<=1:=by split <;> simp
 simp only[aO,bM]
 omega
theorem mX.OZ{ch:iP}(h:mX ch):ch.1=(List.replicate 32 0,(0,())):=by
 obtain⟨a,b0,b1,o,rfl,_⟩:=h
 rfl
theorem YB:Sm (List.replicate 32 0):=⟨eo,λx hx=>by rw[(ph.1 hx).2];exact⟨by decide,by decide⟩⟩
theorem sq{ch:iP}{s:jk}{own per:Int}(fI:mX ch)(hu:ur s)(hs:wB ch s)(ho:own=0\/own=1)(hp:iy per):u9 (de ch s own per).1/\(de ch s own per).1.2.1.length=(de ch s own per).2.1.length/\(de ch s own per).1.2.1.length<=20:=by
 have hl:=HC (ch:=ch) (own:=own) (per:=per) hs.len
 have hk:=PI fI hu ho hp
 have Rw:=hs.no
 have hle:=(mR (o3 ch s own per)).length_eq
 unfold de ofRow
 refine⟨⟨⟨λo hm=> ?_,by show 1<=_;decide,by show(List.map _ _).length<=_;rw[cM];omega⟩,λx hx=> ?_,by show 2*s.1+own<=_;omega⟩,by show(List.map _ _).length=(List.map _ _).length;rw[cM,cM],by show(List.map _ _).length<=_;rw[cM];omega⟩
 ·obtain⟨m,hm',rfl⟩:=eD.1 hm
  exact hk m (wW.1 hm')
 ·have hx:x∈ [(ch.1,(((0:Int),(([]:List Sg),((0:Int),()))),()))]:=hx
  rw[aU]at hx
  subst hx
  refine⟨?_,⟨λs hs=>(by cases hs),uZ⟩,bm _⟩
  show Sm ch.1.1
  rw[fI.OZ]
  exact YB
theorem G6{ch:iP}{s:jk}{own per:Int}(h:(nw ch s own per).2=0):(own=0\/own=1)/\oM per=true/\wB ch s/\nw ch s own per=(de ch s own per,0):=by
 unfold nw at h ⊢
 split at h
 ·next e=>
  rw[ak,decide_eq_true_eq]at e
  split at h
  ·next e2=>exact⟨e.1,e.2,ru.1 e2,by rw[if_pos (by rw[ak,decide_eq_true_eq];exact e),if_pos e2]⟩
  ·exact absurd h (by decide)
 ·exact absurd h (by decide)
theorem bn.c{ch:iP}{s:jk}{own per:Int}(fI:mX ch)(hu:ur s)(hp:iy per):bn.call (ch,s,own,per)=some (nw ch s own per):=by
 have ea:∀d y,bn.add d y=y:=λ_ _=>rfl
 have eF:bn.F (ch,s,own,per)=nw ch s own per:=rfl
 rw[bn.run (d:=(ch,s,own,per)) ⟨fI,hu,hp⟩,ea,eF]
theorem iT.c{c:H5}{rev pay:Int}(h:u9 c.1)(h2:c.1.2.1.length=c.2.1.length)(h3:c.1.2.1.length<=1000):iT.call (c,rev,pay)=some (wS c rev pay):=by
 have ea:∀d y,iT.add d y=y:=λ_ _=>rfl
 have eF:iT.F (c,rev,pay)=wS c rev pay:=rfl
 rw[iT.run (d:=(c,rev,pay)) ⟨h,h2,h3⟩,ea,eF]
theorem cS.c{l:List o6}{bQ:Int}(h:BG l)(h0:0<=bQ/\bQ<=1000):cS.call (l,bQ)=some (jP l bQ):=cS.run (d:=(l,bQ)) ⟨h,h0.1,h0.2⟩
theorem bq.c{l:List o6}{to:Lk}{bQ:Int}(h:BG l)(ht:uq to)(h0:0<=bQ/\bQ<=1000):bq.call (l,to,bQ)=some (mc l to bQ):=by
 have ea:∀d y,bq.add d y=y:=λ_ _=>rfl
 have eF:bq.F (l,to,bQ)=mc l to bQ:=rfl
 rw[bq.run (d:=(l,to,bQ)) ⟨h,ht,h0.1,h0.2⟩,ea,eF]
def CB(ch:iP)(kit:pE)(me:Int)(to:Lk)(bQ:Int):Bool:=qv me 0 1 && (qv bQ 0 1000 && (lj to && Ty.beq qo (uw kit) (nm ch me)))
def kV(ch:iP)(kit:pE)(me:Int)(ew:jk)(secret:List Int)(to:Lk)(bQ:Int):List o6×Int:=
 if CB ch kit me to bQ=true then
  (if(nw ch ew (1 - me) (l5 secret)).2=0 then(wS (nw ch ew (1 - me) (l5 secret)).1 (sm kit.2.2.2.2.1 secret) kit.2.1,0) else([],(nw ch ew (1 - me) (l5 secret)).2))
 else([],1)
theorem NU(b:Int)(s:List Int):iy (sm b s):=(yl _ _).u
theorem GC{ch:iP}{kit:pE}{me:Int}{ew:jk}{secret:List Int}{to:Lk}{bQ:Int}(hk:EU kit):BG (kV ch kit me ew secret to bQ).1:=by
 unfold kV
 split
 ·split
  ·exact Hr (NU _ _) hk.2.1
  ·exact⟨bm _,λy hy=>(by cases hy)⟩
 ·exact⟨bm _,λy hy=>(by cases hy)⟩
theorem B3{ch:iP}{kit:pE}{me:Int}{ew:jk}{secret:List Int}{to:Lk}{bQ:Int}(h:(kV ch kit me ew secret to bQ).2=0):CB ch kit me to bQ=true/\(nw ch ew (1 - me) (l5 secret)).2=0/\(kV ch kit me ew secret to bQ).1=wS (nw ch ew (1 - me) (l5 secret)).1 (sm kit.2.2.2.2.1 secret) kit.2.1:=by
 unfold kV at h ⊢
 split at h
 ·next e=>
  split at h
  ·next e2=>exact⟨e,e2,by rw[if_pos e,if_pos e2]⟩
  ·next e2=>exact absurd h e2
 ·exact absurd h (by decide)
abbrev eb.D:=iP×pE×Int×jk×Bs×Lk×Int
def eb.st:eb.D->SA:=λ(ch,kit,me,ew,secret,to,bQ)=>([.d mW ch,.d rU kit,.d ti me,.d mu ew,.d tH secret,.d qS to,.d ti bQ],[])
abbrev eb.Y:=(List o6)×Int
abbrev eb.X:=(List o6)×Int
def eb.out:eb.X->aX:=λx=>⟨.cons (.d (.slice xd) x.1) (.cons (.d ti x.2) (.nil)),[],[]⟩
def eb.add:eb.D->eb.Y->eb.X:=λ(ch,kit,me,ew,secret,to,bQ) y=>y
def eb.az:eb.D->Prop:=λ(ch,kit,me,ew,secret,to,bQ)=>mX ch/\EU kit/\ur ew/\Sm secret/\uq to
def eb.F:eb.D->eb.Y:=λ(ch,kit,me,ew,secret,to,bQ)=>kV ch kit me ew secret to bQ
def eb.G:fD:=gr (P:=Tryz.prog) [bk.sg,eu.sg,eT.sg,bn.sg,dJ.sg,iT.sg]
def eb.an:fR:= {res:=[some (.slice xd),none]}
def eb.A:= @dm Tryz.prog eb.G eb.an 0 Tryz.f31 _ eb.st
abbrev eb.Ok:=dn @eb.A eb.az eb.add eb.F eb.out
theorem eb.eq{R:Type}(ch:iP)(kit:pE)(me:Int)(ew:jk)(secret:Bs)(to:Lk)(bQ:Int)(k:aX->Option R):eb.A (ch,kit,me,ew,secret,to,bQ) k=
  aJ ((jM me (0:Int))) (
   k (eb.out (([]:List o6),(1:Int)))) (
   aJ ((sh me (1:Int))) (
    k (eb.out (([]:List o6),(1:Int)))) (
    aJ ((jM bQ (0:Int))) (
     k (eb.out (([]:List o6),(1:Int)))) (
     aJ ((sh bQ (1000:Int))) (
      k (eb.out (([]:List o6),(1:Int)))) (
      ah (bk.call to) λx1=>
      aJ ((!x1)) (
       k (eb.out (([]:List o6),(1:Int)))) (
       ah (eu.call kit) λx2=>
       aJ (fB me (2:Int)) (
       aJ ((!(Ty.beq qo x2 (nth qo ch.2.2.1 (Int.toNat me))))) (
        k (eb.out (([]:List o6),(1:Int)))) (
        ah (eT.call secret) λx3=>
        ah (bn.call (ch,ew,(cY .i64 (1:Int) me),x3)) λx4=>
        aJ ((tc x4.2 (0:Int))) (
         k (eb.out (([]:List o6),x4.2))) (
         ah (dJ.call (kit.2.2.2.2.1,secret)) λx5=>
         ah (iT.call (x4.1,x5,kit.2.1)) λx6=>
         k (eb.out (x6,(0:Int)))))) none))))):=by kernel_rfl
theorem eb.ok:eb.Ok:=by
 rintro⟨ch,kit,me,ew,secret,to,bQ⟩ ⟨fI,hk,hu,hs,ht⟩
 have fI:mX ch:=fI
 have hk:EU kit:=hk
 have hu:ur ew:=hu
 have hs:Sm secret:=hs
 have ht:uq to:=ht
 have ea:∀d y,eb.add d y=y:=λ_ _=>rfl
 have eF:eb.F (ch,kit,me,ew,secret,to,bQ)=kV ch kit me ew secret to bQ:=rfl
 rw[eb.eq,ea,eF]
 unfold kV CB
 by_cases h1:me < 0
 ·rw[bI h1,ae,o9 (by omega)];rfl
 by_cases h2:me > 1
 ·rw[bp h1,ai,fE h2,ae,o9 (by omega)];rfl
 have XX:me=0\/me=1:=by omega
 rw[bp h1,ai,dY h2,ai,kr (by omega) (by omega),cr]
 by_cases h3:bQ < 0
 ·rw[bI h3,ae,o9 (by omega)];rfl
 by_cases h4:bQ > 1000
 ·rw[bp h3,ai,fE h4,ae,o9 (by omega)];rfl
 rw[bp h3,ai,dY h4,ai,kr (by omega) (by omega),cr]
 have c1:bk.call to=some (lj to):=bk.run (d:=to) ⟨ht.1,ht.2⟩
 have c2:eu.call kit=some (uw kit):=eu.run (d:=kit) hk
 rw[c1,ab]
 cases h5:lj to
 ·rfl
 rw[bZ,ai,cr,c2,ab,bF (by omega) (by omega),ae]
 rw[show nth qo ch.2.2.1 (Int.toNat me)=nm ch me from rfl]
 cases h6:Ty.beq qo (uw kit) (nm ch me)
 ·rfl
 rw[bZ,ai,if_pos rfl,eT.c hs,ab,Jm (by omega)]
 have hp:iy (l5 secret):=uz _
 have c3:=bn.c (own:=1 - me) fI hu hp
 have L7:=G6 (ch:=ch) (s:=ew) (own:=1 - me) (per:=l5 secret)
 generalize l5 secret=per at c3 L7 hp
 rw[c3,ab]
 by_cases h7:(nw ch ew (1 - me) per).2=0
 ·obtain⟨q1,q2,q3,q4⟩:=L7 h7
  have hv:=sq fI hu q3 q1 hp
  rw[q4]
  rw[gZ rfl,ai,dJ.c hk.2.2.2.2 hs,ab,iT.c hv.1 hv.2.1 (by have:=hv.2.2;omega),ab,if_pos rfl]
 ·rw[jE h7,ae,if_neg h7]
def eb.E:=Entry.dp [some mW,some rU,some ti,some mu,some tH,some qS,some ti] eb.st eb.az eb.add eb.F eb.out
def eb.call:eb.D->Option eb.X:=bX eb.E eb.st
theorem eb.run:b8 eb.call eb.az eb.add eb.F:=dv (du [.d mW,.d rU,.d ti,.d mu,.d tB,.d qS,.d ti] λ_=>by kernel_rfl)
def eb.sg:SG Tryz.prog:=⟨31,aP,eb.E,.fn 0 (by kernel_rfl) eb.ok trivial⟩
theorem eb.c{ch:iP}{kit:pE}{me:Int}{ew:jk}{secret:List Int}{to:Lk}{bQ:Int}(fI:mX ch)(hk:EU kit)(hu:ur ew)(hs:Sm secret)(ht:uq to):eb.call (ch,kit,me,ew,secret,to,bQ)=some (kV ch kit me ew secret to bQ):=by
 have ea:∀d y,eb.add d y=y:=λ_ _=>rfl
 have eF:eb.F (ch,kit,me,ew,secret,to,bQ)=kV ch kit me ew secret to bQ:=rfl
 rw[eb.run (d:=(ch,kit,me,ew,secret,to,bQ)) ⟨fI,hk,hu,hs,ht⟩,ea,eF]
def vd(ch:iP)(kit:pE)(me:Int)(ew:jk)(secret:List Int)(to:Lk)(bQ:Int):je×Int:=
 if(kV ch kit me ew secret to bQ).2=0 then mc (kV ch kit me ew secret to bQ).1 to bQ else(QI,(kV ch kit me ew secret to bQ).2)
def sB(to:Lk)(bQ:Int):List o6->List je
 |[]=> []
 |x::l=>(if(mc [x] to bQ).2=0 then [(mc [x] to bQ).1] else [])++sB to bQ l
def Eh(ch:iP)(kit:pE)(me:Int)(ew:jk)(secret:List Int)(to:Lk)(bQ:Int):List je×Int:=
 if(kV ch kit me ew secret to bQ).2=0 then(sB to bQ (kV ch kit me ew secret to bQ).1,0) else([],(kV ch kit me ew secret to bQ).2)
def yx(ch:iP)(me:Int)(ew:jk)(bQ:Int):Int:=
 if(qv me 0 1 && qv bQ 0 1000)=true then(if(nw ch ew (1 - me) 4).2=0 then imax 0 (jP (wS (nw ch ew (1 - me) 4).1 0 0) bQ) else 0) else 0
theorem Ev{ch:iP}{kit:pE}{me:Int}{to:Lk}{bQ:Int}(h:CB ch kit me to bQ=true):(0<=me/\me<=1)/\(0<=bQ/\bQ<=1000)/\lj to=true/\Ty.beq qo (uw kit) (nm ch me)=true:=by
 unfold CB at h
 simp only[ak,si]at h
 exact h
abbrev fk.D:=iP×pE×Int×jk×Bs×Lk×Int
def fk.st:fk.D->SA:=λ(ch,kit,me,ew,secret,to,bQ)=>([.d mW ch,.d rU kit,.d ti me,.d mu ew,.d tH secret,.d qS to,.d ti bQ],[])
abbrev fk.Y:=je×Int
abbrev fk.X:=je×Int
def fk.out:fk.X->aX:=λx=>⟨.cons (.d lS x.1) (.cons (.d ti x.2) (.nil)),[],[]⟩
def fk.add:fk.D->fk.Y->fk.X:=λ(ch,kit,me,ew,secret,to,bQ) y=>y
def fk.az:fk.D->Prop:=λ(ch,kit,me,ew,secret,to,bQ)=>mX ch/\EU kit/\ur ew/\Sm secret/\uq to
def fk.F:fk.D->fk.Y:=λ(ch,kit,me,ew,secret,to,bQ)=>vd ch kit me ew secret to bQ
def fk.G:fD:=gr (P:=Tryz.prog) [eb.sg,bq.sg]
def fk.an:fR:= {res:=[some lS,none]}
def fk.A:= @dm Tryz.prog fk.G fk.an 0 Tryz.f9 _ fk.st
abbrev fk.Ok:=dn @fk.A fk.az fk.add fk.F fk.out
theorem fk.eq{R:Type}(ch:iP)(kit:pE)(me:Int)(ew:jk)(secret:Bs)(to:Lk)(bQ:Int)(k:aX->Option R):fk.A (ch,kit,me,ew,secret,to,bQ) k=
  ah (eb.call (ch,kit,me,ew,secret,to,bQ)) λx1=>
  aJ ((tc x1.2 (0:Int))) (
   k (fk.out ((([]:List kX),(([]:List kI),((0:Int),()))),x1.2))) (
   ah (bq.call (x1.1,to,bQ)) λx2=>
   k (fk.out (x2.1,x2.2))):=by kernel_rfl
theorem fk.ok:fk.Ok:=by
 rintro⟨ch,kit,me,ew,secret,to,bQ⟩ ⟨fI,hk,hu,hs,ht⟩
 have hk:EU kit:=hk
 have ht:uq to:=ht
 have ea:∀d y,fk.add d y=y:=λ_ _=>rfl
 have eF:fk.F (ch,kit,me,ew,secret,to,bQ)=vd ch kit me ew secret to bQ:=rfl
 rw[fk.eq,ea,eF,eb.c fI hk hu hs ht,ab]
 unfold vd
 have hg:=GC (ch:=ch) (me:=me) (ew:=ew) (secret:=secret) (to:=to) (bQ:=bQ) hk
 have hm:=B3 (ch:=ch) (kit:=kit) (me:=me) (ew:=ew) (secret:=secret) (to:=to) (bQ:=bQ)
 generalize kV ch kit me ew secret to bQ=r at hg hm
 by_cases h:r.2=0
 ·rw[gZ h,ai,if_pos h,bq.c hg ht (Ev (hm h).1).2.1,ab]
 ·rw[jE h,ae,if_neg h]
  rfl
def fk.E:=Entry.dp [some mW,some rU,some ti,some mu,some tH,some qS,some ti] fk.st fk.az fk.add fk.F fk.out
def fk.call:fk.D->Option fk.X:=bX fk.E fk.st
theorem fk.run:b8 fk.call fk.az fk.add fk.F:=dv (du [.d mW,.d rU,.d ti,.d mu,.d tB,.d qS,.d ti] λ_=>by kernel_rfl)
def fk.sg:SG Tryz.prog:=⟨9,aP,fk.E,.fn 0 (by kernel_rfl) fk.ok trivial⟩
abbrev cK.L0.D:=Int×Lk×(List o6)×Nat×Int×Int×(List je)
def cK.L0.st:cK.L0.D->AS:=λ(xS,o4,l,outL,t37,t38,Px)=>⟨(bG 6 ([.d ti xS]++bG 5 ([.gE qS o4,.undef,.undef,.undef,.d (.slice xd) l,.undef,.di (.new 57 0) 0 [] 0 0 outL]++bG 18 ([.d ti t37,.d ti t38]++bG 21 [])))),[],(dh 57 [[.obj 0 false (.vec 62 lS Px)],[],[]])⟩
abbrev cK.L0.Y0:=Nat×(List je)
abbrev cK.L0.X0:=Nat×(List je)
def cK.L0.bY:cK.L0.X0->Exit×AS:=λx=>(.exit 0,⟨(bG 18 ([.di (.new 57 0) 0 [] 0 0 x.1]++bG 41 [])),[],(dh 57 [[.obj 0 false (.vec 62 lS x.2)],[],[]])⟩)
abbrev cK.L0.X:=cK.L0.X0
abbrev cK.L0.Y:=cK.L0.Y0
def cK.L0.out:cK.L0.X->Out (Exit×AS):=λx=> .ok (cK.L0.bY x)
def cK.L0.add:cK.L0.D->cK.L0.Y->cK.L0.X:=λ(xS,o4,l,outL,t37,t38,Px) y=>y
abbrev cK.D:=iP×pE×Int×jk×Bs×Lk×Int
def cK.st:cK.D->SA:=λ(ch,kit,me,ew,secret,to,bQ)=>([.d mW ch,.d rU kit,.d ti me,.d mu ew,.d tH secret,.d qS to,.d ti bQ],[])
abbrev cK.Y:=(List je)×Int
abbrev cK.X:=(List je)×Int
def cK.out:cK.X->aX:=λx=>⟨.cons (.d (.slice lS) x.1) (.cons (.d ti x.2) (.nil)),[],[]⟩
def cK.add:cK.D->cK.Y->cK.X:=λ(ch,kit,me,ew,secret,to,bQ) y=>y
def cK.az:cK.D->Prop:=λ(ch,kit,me,ew,secret,to,bQ)=>mX ch/\EU kit/\ur ew/\Sm secret/\uq to
def cK.F:cK.D->cK.Y:=λ(ch,kit,me,ew,secret,to,bQ)=>Eh ch kit me ew secret to bQ
def cK.L0.az:cK.L0.D->Prop:=λ(bQ,to,l,L,m,i,row)=>BG l/\uq to/\(0<=bQ/\bQ<=1000)/\m=l.length/\L=row.length/\∃k:Nat,k<=l.length/\i=k/\row.length<=k
def cK.L0.F:cK.L0.D->cK.L0.Y:=λ(bQ,to,l,L,m,i,row)=>((row++sB to bQ (l.drop i.toNat)).length,row++sB to bQ (l.drop i.toNat))
def cK.G:fD:=gr (P:=Tryz.prog) [eb.sg,bq.sg]
def cK.L0.E:=cU.dp cK.L0.st cK.L0.az cK.L0.add cK.L0.F cK.L0.out
def cK.L0.call:cK.L0.D->Option cK.L0.X:=eI cK.L0.E cK.L0.st
def cK.an:fR:= {loops:=om [(6,{bO:=[6,12,16,18,37,38],sites:=[57],nR:=[⟨18,[],57,66⟩]})],outs:=oh [(6,{bO:=[18],sites:=[57]},{bO:=[14,15]})],jo:=pb [(6,cK.L0.E)],res:=[some (.slice lS),none]}
def cK.A:= @dm Tryz.prog cK.G cK.an 0 Tryz.f10 _ cK.st
abbrev cK.Ok:=dn @cK.A cK.az cK.add cK.F cK.out
def cK.L0.R:= @dr Tryz.prog cK.G cK.an 0 Tryz.f10 0 _ cK.L0.st
abbrev cK.L0.Ok:=gz Tryz.prog cK.G cK.an 0 Tryz.f10 0 cK.L0.st cK.L0.az cK.L0.add cK.L0.F cK.L0.out
theorem cK.L0.run:b8 cK.L0.call cK.L0.az cK.L0.add cK.L0.F:=gR (gJ [.d ti,.d qS,.d (.slice xd),.n,.d ti,.d ti,.d (.slice lS)] λ_=>by kernel_rfl)
theorem cK.L0.aI:jl @cK.L0.R cK.L0.st cK.L0.az cK.L0.add cK.L0.F cK.L0.bY cK.L0.Ok:=js
theorem cK.L0.step{R:Type}(xS:Int)(o4:Lk)(l:(List o6))(outL:Nat)(t37:Int)(t38:Int)(Px:(List je))(kn:AS->Option R)(kx:Exit->AS->Option R):cK.L0.R (xS,o4,l,outL,t37,t38,Px) kn kx=
  aJ ((jM t38 t37)) (
   aJ (inc (bV .i64 t38 (1:Int)) (((List.length l):Nat):Int)) (
   aJ (inc t38 (((Int.toNat (bV .i64 t38 (1:Int))):Nat):Int)) (
   ah (bq.call ((cut l (Int.toNat t38) ((Int.toNat (bV .i64 t38 (1:Int))) - (Int.toNat t38))),o4,xS)) λx1=>
   aJ ((mV x1.2 (0:Int))) (
    aJ (decide (outL<=(List.length Px))) (
    aJ (fq (outL+1) 56) (
    kn (cK.L0.st (xS,o4,l,(outL+1),t37,(bV .i64 t38 (1:Int)),((List.take outL Px)++ [x1.1])))) none) none) (
    kn (cK.L0.st (xS,o4,l,outL,t37,(bV .i64 t38 (1:Int)),Px)))) none) none) (
   kx (cK.L0.bY (outL,Px)).1 (cK.L0.bY (outL,Px)).2):=by kernel_rfl
theorem cK.eq{R:Type}(ch:iP)(kit:pE)(me:Int)(ew:jk)(secret:Bs)(to:Lk)(bQ:Int)(k:aX->Option R):cK.A (ch,kit,me,ew,secret,to,bQ) k=
  ah (eb.call (ch,kit,me,ew,secret,to,bQ)) λx1=>
  aJ ((tc x1.2 (0:Int))) (
   k (cK.out (([]:List je),x1.2))) (
   ah (cK.L0.call (bQ,to,x1.1,0,(((List.length x1.1):Nat):Int),(0:Int),([]:List je))) λx4=>
   aJ (decide (0=0/\(0+x4.1)<=(List.length x4.2))) (
   k (cK.out ((cut x4.2 0 x4.1),(0:Int)))) none):=by kernel_rfl
theorem OT{α:Type}{l:List α}{k:Nat}(h:k < l.length):cut l k (k+1 - k)=[l[k]]:=by
 rw[mi]
 unfold cut
 rw[av h]
 rfl
theorem cK.L0.ok:cK.L0.Ok:=by
 refine cK.L0.aI (λ(bQ,to,l,L,m,i,row)=>l.length - i.toNat) ?_
 rintro⟨bQ,to,l,L,m,i,row⟩ ⟨hg,ht,hr,rfl,rfl,k,hk,rfl,mZ⟩
 have hk:k<=l.length:=hk
 have hl:l.length<=64:=hg.1
 have mZ:row.length<=k:=mZ
 by_cases h:k < l.length
 ·left
  have hd:sB to bQ (l.drop k)=(if(mc [l[k]] to bQ).2=0 then [(mc [l[k]] to bQ).1] else [])++sB to bQ (l.drop (k+1)):=by rw[av h,sB]
  have g1:BG [l[k]]:=⟨by show 1<=64;decide,λx hx=>by rw[aU]at hx;subst hx;exact hg.2 _ (List.getElem_mem h)⟩
  have c1:=bq.c (to:=to) (bQ:=bQ) g1 ht hr
  have e1:∀x:je,(row++ [x]).length=row.length+1:=λx=>by rw[aj];rfl
  have ec:=OT h
  generalize mc [l[k]] to bQ=r at hd c1
  by_cases hz:r.2=0
  ·refine⟨(bQ,to,l,row.length+1,(l.length:Int),((k+1:Nat):Int),row++ [r.1]),⟨hg,ht,hr,rfl,(e1 _).symm,k+1,by omega,rfl,by show(row++ [r.1]).length<=_;rw[e1];omega⟩,by simp only[aa];omega,?_,λkn kx=> ?_⟩
   ·rw[if_pos hz]at hd
    simp only[cK.L0.add,cK.L0.F,aa,hd,bR]
   ·rw[cK.L0.step,bI (by omega),N.pF (by omega),aa,aa,ec,c1,pZ (by omega) (by omega),pZ (by omega) (by omega),ab,fA hz,aM (aE _),gk (by omega) (by omega),cQ]
    rfl
  ·refine⟨(bQ,to,l,row.length,(l.length:Int),((k+1:Nat):Int),row),⟨hg,ht,hr,rfl,rfl,k+1,by omega,rfl,by show row.length<=_;omega⟩,by simp only[aa];omega,?_,λkn kx=> ?_⟩
   ·rw[if_neg hz,bt]at hd
    simp only[cK.L0.add,cK.L0.F,aa,hd]
   ·rw[cK.L0.step,bI (by omega),N.pF (by omega),aa,aa,ec,c1,pZ (by omega) (by omega),pZ (by omega) (by omega),ab,fJ hz]
    rfl
 ·right
  obtain rfl:k=l.length:=by omega
  intro R kn kx
  rw[cK.L0.step,bp (by omega),ai]
  simp only[cK.L0.add,cK.L0.F,aa,bB,sB,dg]
theorem cK.ok:cK.Ok:=by
 rintro⟨ch,kit,me,ew,secret,to,bQ⟩ ⟨fI,hk,hu,hs,ht⟩
 have hk:EU kit:=hk
 have ht:uq to:=ht
 have ea:∀d y,cK.add d y=y:=λ_ _=>rfl
 have eF:cK.F (ch,kit,me,ew,secret,to,bQ)=Eh ch kit me ew secret to bQ:=rfl
 rw[cK.eq,ea,eF,eb.c fI hk hu hs ht,ab]
 unfold Eh
 have hg:=GC (ch:=ch) (me:=me) (ew:=ew) (secret:=secret) (to:=to) (bQ:=bQ) hk
 have hm:=B3 (ch:=ch) (kit:=kit) (me:=me) (ew:=ew) (secret:=secret) (to:=to) (bQ:=bQ)
 generalize kV ch kit me ew secret to bQ=r at hg hm
 by_cases h:r.2=0
 ·rw[gZ h,ai,if_pos h,cK.L0.run (d:=(bQ,to,r.1,0,(r.1.length:Int),0,[])) ⟨hg,ht,(Ev (hm h).1).2.1,rfl,rfl,0,bm _,rfl,aE _⟩]
  simp only[ab,cK.L0.add,cK.L0.F,bH,aW,bt,bl]
  rw[aM ⟨trivial,aE _⟩,ae,jf rfl]
 ·rw[jE h,ae,if_neg h]
def cK.E:=Entry.dp [some mW,some rU,some ti,some mu,some tH,some qS,some ti] cK.st cK.az cK.add cK.F cK.out
def cK.call:cK.D->Option cK.X:=bX cK.E cK.st
theorem cK.run:b8 cK.call cK.az cK.add cK.F:=dv (du [.d mW,.d rU,.d ti,.d mu,.d tB,.d qS,.d ti] λ_=>by kernel_rfl)
def cK.sg:SG Tryz.prog:=⟨10,aP,cK.E,.fn 1 (by kernel_rfl) cK.ok (And.intro (.dp cK.L0.ok (by kernel_rfl)) trivial)⟩
abbrev fF.D:=iP×Int×jk×Int
def fF.st:fF.D->SA:=λ(ch,me,ew,bQ)=>([.d mW ch,.d ti me,.d mu ew,.d ti bQ],[])
abbrev fF.Y:=Int
abbrev fF.X:=Int
def fF.out:fF.X->aX:=λx=>⟨.d ti x,[],[]⟩
def fF.add:fF.D->fF.Y->fF.X:=λ(ch,me,ew,bQ) y=>y
def fF.az:fF.D->Prop:=λ(ch,me,ew,bQ)=>mX ch/\ur ew
def fF.F:fF.D->fF.Y:=λ(ch,me,ew,bQ)=>yx ch me ew bQ
def fF.G:fD:=gr (P:=Tryz.prog) [bn.sg,iT.sg,cS.sg]
def fF.an:fR:= {}
def fF.A:= @dm Tryz.prog fF.G fF.an 0 Tryz.f12 _ fF.st
abbrev fF.Ok:=dn @fF.A fF.az fF.add fF.F fF.out
theorem fF.eq{R:Type}(ch:iP)(me:Int)(ew:jk)(bQ:Int)(k:aX->Option R):fF.A (ch,me,ew,bQ) k=
  aJ ((jM me (0:Int))) (
   k (fF.out (0:Int))) (
   aJ ((sh me (1:Int))) (
    k (fF.out (0:Int))) (
    aJ ((jM bQ (0:Int))) (
     k (fF.out (0:Int))) (
     aJ ((sh bQ (1000:Int))) (
      k (fF.out (0:Int))) (
      ah (bn.call (ch,ew,(cY .i64 (1:Int) me),(4:Int))) λx1=>
      aJ ((tc x1.2 (0:Int))) (
       k (fF.out (0:Int))) (
       ah (iT.call (x1.1,(0:Int),(0:Int))) λx2=>
       ah (cS.call (x2,bQ)) λx3=>
       k (fF.out (imax (0:Int) x3))))))):=by kernel_rfl
theorem fF.ok:fF.Ok:=by
 rintro⟨ch,me,ew,bQ⟩ ⟨fI,hu⟩
 have fI:mX ch:=fI
 have hu:ur ew:=hu
 have ea:∀d y,fF.add d y=y:=λ_ _=>rfl
 have eF:fF.F (ch,me,ew,bQ)=yx ch me ew bQ:=rfl
 rw[fF.eq,ea,eF]
 unfold yx
 by_cases h1:me < 0
 ·rw[bI h1,ae,o9 (by omega)];rfl
 by_cases h2:me > 1
 ·rw[bp h1,ai,fE h2,ae,o9 (by omega)];rfl
 have XX:me=0\/me=1:=by omega
 rw[bp h1,ai,dY h2,ai,kr (by omega) (by omega),cr]
 by_cases h3:bQ < 0
 ·rw[bI h3,ae,o9 (by omega)];rfl
 by_cases h4:bQ > 1000
 ·rw[bp h3,ai,fE h4,ae,o9 (by omega)];rfl
 have hp:iy 4:=⟨by decide,by decide⟩
 rw[bp h3,ai,dY h4,ai,kr (by omega) (by omega),if_pos rfl,Jm (by omega),bn.c (own:=1 - me) fI hu hp,ab]
 have L7:=G6 (ch:=ch) (s:=ew) (own:=1 - me) (per:=4)
 by_cases h7:(nw ch ew (1 - me) 4).2=0
 ·obtain⟨q1,q2,q3,q4⟩:=L7 h7
  have hv:=sq fI hu q3 q1 hp
  have hg:=Hr (c:=de ch ew (1 - me) 4) uZ uZ
  rw[q4,gZ rfl,ai,iT.c hv.1 hv.2.1 (by have:=hv.2.2;omega),ab,cS.c hg ⟨by omega,by omega⟩,ab,if_pos rfl]
 ·rw[jE h7,ae,if_neg h7]
def fF.E:=Entry.dp [some mW,some ti,some mu,some ti] fF.st fF.az fF.add fF.F fF.out
def fF.call:fF.D->Option fF.X:=bX fF.E fF.st
theorem fF.run:b8 fF.call fF.az fF.add fF.F:=dv (du [.d mW,.d ti,.d mu,.d ti] λ_=>by kernel_rfl)
def fF.sg:SG Tryz.prog:=⟨12,aP,fF.E,.fn 0 (by kernel_rfl) fF.ok trivial⟩
theorem fk.c{ch:iP}{kit:pE}{me:Int}{ew:jk}{secret:List Int}{to:Lk}{bQ:Int}(fI:mX ch)(hk:EU kit)(hu:ur ew)(hs:Sm secret)(ht:uq to):fk.call (ch,kit,me,ew,secret,to,bQ)=some (vd ch kit me ew secret to bQ):=by
 have ea:∀d y,fk.add d y=y:=λ_ _=>rfl
 have eF:fk.F (ch,kit,me,ew,secret,to,bQ)=vd ch kit me ew secret to bQ:=rfl
 rw[fk.run (d:=(ch,kit,me,ew,secret,to,bQ)) ⟨fI,hk,hu,hs,ht⟩,ea,eF]
theorem cK.c{ch:iP}{kit:pE}{me:Int}{ew:jk}{secret:List Int}{to:Lk}{bQ:Int}(fI:mX ch)(hk:EU kit)(hu:ur ew)(hs:Sm secret)(ht:uq to):cK.call (ch,kit,me,ew,secret,to,bQ)=some (Eh ch kit me ew secret to bQ):=by
 have ea:∀d y,cK.add d y=y:=λ_ _=>rfl
 have eF:cK.F (ch,kit,me,ew,secret,to,bQ)=Eh ch kit me ew secret to bQ:=rfl
 rw[cK.run (d:=(ch,kit,me,ew,secret,to,bQ)) ⟨fI,hk,hu,hs,ht⟩,ea,eF]
theorem fF.c{ch:iP}{me:Int}{ew:jk}{bQ:Int}(fI:mX ch)(hu:ur ew):fF.call (ch,me,ew,bQ)=some (yx ch me ew bQ):=by
 have ea:∀d y,fF.add d y=y:=λ_ _=>rfl
 have eF:fF.F (ch,me,ew,bQ)=yx ch me ew bQ:=rfl
 rw[fF.run (d:=(ch,me,ew,bQ)) ⟨fI,hu⟩,ea,eF]
end
end Go.Ab
namespace Go.Ab
open Go.Proofs
noncomputable section
theorem Hy(m:Int)(q:Nat)(a b:Int)(h1:a^q%m=1%m)(h2:b^q%m=1%m):(a*b%m)^q%m=1%m:=by
 rw[wg,Int.mul_pow,iR,h1,h2,<-iR,Int.one_mul]
theorem Pr{a b:Int}(ha:oM a=true)(hb:oM b=true):oM (mz a b)=true:=by
 refine M9 (qd a b) ?_
 have h1:=(zM ha).1
 have h2:=(zM hb).1
 rw[AR _ _ (by decide)]at h1 h2 ⊢
 exact Hy 4611686018427377339 _ a b h1 h2
theorem GR:∀(l:List Int) (o:Int),oM o=true->oM (l.foldl (λo p=>mz o (tk p)) o)=true
 |[],_,h=>h
 |p::l,o,h=>GR l _ (Pr h (Na p))
theorem td(l:List Int):oM (uY l)=true:=GR l 1 wM
theorem tV{p a d s:Int}(hp:oM p=true)(ha:0<=a/\a<=1048576)(hd:0<=d/\d<=1048576)(hs:s=0\/oM s=true):rG ([p],(a,(d,(s,()))))=true:=by
 unfold rG zG
 simp only[kJ,oa,hp,ln,ak,decide_eq_true_eq,kb]
 exact⟨dE rfl,trivial,ha,hd,hs⟩
theorem Ml.p{p:Int}(h:Ml p):oM p=true:=by
 have:=h.2
 unfold DT at this
 exact(nE.1 this).1
theorem mX.wait{ch:iP}(h:mX ch){n:Int}(hn:n=0\/n=1):0<=xp ch n/\xp ch n<=1048576:=by
 obtain⟨d,hd,h2⟩:=h.t hn
 unfold xp
 rw[hd,Wv]
 omega
theorem Cv{a b:ov}(ha:rG a=true)(hb:rG b=true):lj ([a,b],())=true:=by
 unfold lj
 simp only[kJ,oa,ha,hb,l7,cr]
 rfl
theorem GY{a b c:ov}(ha:rG a=true)(hb:rG b=true)(hc:rG c=true):lj ([a,b,c],())=true:=by
 unfold lj
 simp only[kJ,oa,ha,hb,hc,l7,cr]
 rfl
theorem Cu{a:ov}(ha:rG a=true):lj ([a],())=true:=by
 unfold lj
 simp only[kJ,oa,ha,l7,cr]
 rfl
theorem D2:(0:Int)<=0/\(0:Int)<=1048576:=by decide
theorem Kg{ch:iP}{s:jk}{own per:Int}(fI:mX ch)(hs:wB ch s)(ho:own=0\/own=1):∀m∈o3 ch s own per,lj m.1.2.1=true:=by
 have hp':1 - own=0\/1 - own=1:=by omega
 have b0:=fI.ba ho
 have b1:=fI.ba hp'
 have w:=fI.wait hp'
 intro m hm
 unfold o3 at hm
 simp only[cf]at hm
 rcases hm with hm | hm | hm | hm
 ·split at hm
  ·rw[aU]at hm;subst hm
   exact Cv (tV (td _) D2 D2 (.inl rfl)) (tV (td _) D2 w (.inl rfl))
  ·cases hm
 ·split at hm
  ·rw[aU]at hm;subst hm
   exact Cu (tV b1.2.1.p D2 D2 (.inl rfl))
  ·cases hm
 ·have Re:rG ([],((0:Int),((16:Int),((0:Int),()))))=true:=by decide
  rcases cE.1 hm with rfl | hm
  ·exact Cv (tV b0.1.p D2 D2 (.inl rfl)) Re
  ·rw[aU]at hm;subst hm
   exact Cv (tV b1.1.p D2 D2 (.inl rfl)) Re
 ·obtain⟨c,hc,rfl⟩:=eD.1 hm
  have g:=tW _ _ hs.pP c (jI.1 hc).1
  have Pj:oM c.2.2.2.1=true:=by
   have:=g.pt
   unfold DT at this
   exact(nE.1 this).1
  have he:=g.exp
  unfold oz
  split
  ·exact GY (tV (td _) D2 D2 (.inl rfl)) (tV (td _) D2 D2 (.inr Pj)) (tV (td _) ⟨by omega,he.2⟩ w (.inl rfl))
  ·exact GY (tV (td _) D2 D2 (.inl rfl)) (tV (td _) D2 w (.inr Pj)) (tV (td _) ⟨by omega,he.2⟩ D2 (.inl rfl))
def qw:List my->Int
 |[]=>0
 |m::l=>m.1.1+qw l
theorem lq:∀(a b:List my),qw (a++b)=qw a+qw b
 |[],b=>by simp[qw]
 |m::a,b=>by rw[kC,qw,qw,lq a b];omega
theorem zm{a b:List my}(h:a.Perm b):qw a=qw b:=by
 induction h with
 |nil=>rfl
 |cons x _ ih=>rw[qw,qw,ih]
 |swap x y l=>simp only[qw];omega
 |trans _ _ h1 h2=>rw[h1,h2]
def nN(m:my):Bool:= !decide (m.2.1.1=3\/m.2.1.1=4)
def KT(l:List my):Nat:=(l.filter nN).length
def KD(l:List my):Int:=qw (l.filter nN)
theorem KU{a b:List my}(h:a.Perm b):KT a=KT b:=(h.filter nN).length_eq
theorem KE{a b:List my}(h:a.Perm b):KD a=KD b:=zm (h.filter nN)
theorem HT(rev pay:Int):∀(l:List my) (os:List iF),os.length=l.length->(A2 rev pay os (l.map λm=>m.1) (l.map λm=>m.2.1)).length=KT l/\A5 (A2 rev pay os (l.map λm=>m.1) (l.map λm=>m.2.1))=KD l
 |[],[],_=>⟨rfl,rfl⟩
 |[],_::_,h=>by cases h
 |_::_,[],h=>by cases h
 |m::l,o::os,h=>by
  have ih:=HT rev pay l os (by simpa using h)
  simp only[cO,A2]
  unfold KT KD vl at*
  rw[iw]
  by_cases hg:m.2.1.1=3\/m.2.1.1=4
  ·have:nN m=false:=by unfold nN;rw[aM hg];rfl
   rw[if_pos hg,this,if_neg (by simp),bt]
   exact ih
  ·have:nN m=true:=by unfold nN;rw[cq hg];rfl
   rw[if_neg hg,this,if_pos rfl,fp,aO,aO,A5,qw,ih.1,ih.2]
   exact⟨rfl,rfl⟩
theorem qx(own rev theirs mine wait:Int):∀l:List jj,qw (l.map (oz own rev theirs mine wait))=jL l/\(l.map (oz own rev theirs mine wait)).filter nN=l.map (oz own rev theirs mine wait)
 |[]=>⟨rfl,rfl⟩
 |c::l=>by
  have ih:=qx own rev theirs mine wait l
  have h1:(oz own rev theirs mine wait c).1.1=c.2.2.1/\nN (oz own rev theirs mine wait c)=true:=by
   unfold oz
   split
   ·exact⟨rfl,rfl⟩
   ·exact⟨rfl,rfl⟩
  rw[cO,qw,jL,ih.1,h1.1,iw,h1.2,if_pos rfl,ih.2]
  exact⟨rfl,rfl⟩
def R2(n:Int):Int:=if FM n=true then n else 0
def Ug(n:Int):Nat:=if FM n=true then 1 else 0
theorem NZ(ch:iP)(s:jk)(own per:Int):KT (o3 ch s own per)=Ug (j5 ch s own)+(Ug (j5 ch s (1 - own))+(ja s.2.2.1).length):=by
 unfold KT o3 Ug
 rw[kD,kD,kD,aj,aj,aj,(qx ..).2,cM]
 have e3:∀a b:my,a.2.1.1=3->b.2.1.1=4->([a,b].filter nN).length=0:=λa b h1 h2=>by
  rw[iw,iw]
  have q1:nN a=false:=by unfold nN;rw[aM (.inl h1)];rfl
  have q2:nN b=false:=by unfold nN;rw[aM (.inr h2)];rfl
  rw[q1,q2]
  rfl
 rw[e3 _ _ rfl rfl,bl]
 cases FM (j5 ch s own) <;> cases FM (j5 ch s (1 - own)) <;> rfl
theorem NY(ch:iP)(s:jk)(own per:Int):KD (o3 ch s own per)=R2 (j5 ch s own)+(R2 (j5 ch s (1 - own))+jL (ja s.2.2.1)):=by
 unfold KD o3 R2
 rw[kD,kD,kD,lq,lq,lq,(qx ..).2,(qx ..).1]
 have e3:∀a b:my,a.2.1.1=3->b.2.1.1=4->qw ([a,b].filter nN)=0:=λa b h1 h2=>by
  rw[iw,iw]
  have q1:nN a=false:=by unfold nN;rw[aM (.inl h1)];rfl
  have q2:nN b=false:=by unfold nN;rw[aM (.inr h2)];rfl
  rw[q1,q2]
  rfl
 rw[e3 _ _ rfl rfl,pT]
 have e1:∀m:my,nN m=true->qw ([m].filter nN)=m.1.1:=λm h=>by
  rw[iw,h,if_pos rfl]
  show m.1.1+0=_
  omega
 have e0:qw (([]:List my).filter nN)=0:=rfl
 congr 1
 ·split
  ·exact e1 _ rfl
  ·exact e0
 ·congr 1
  split
  ·exact e1 _ rfl
  ·exact e0
theorem MN{r:Int}{m n:Int}(h0:0<=m)(h1:m<=n)(h2:n<=16):Bm r m<=Bm r n:=by
 unfold Bm
 split
 ·next h=>
  have e:Oo m<=Oo n:=by unfold Oo;rw[if_pos ⟨h0,by omega⟩,if_pos ⟨by omega,h2⟩];omega
  exact Int.mul_le_mul_of_nonneg_left e h.1
 ·exact lp _
theorem ui{ch:iP}{s:jk}(hs:wB ch s){n:Int}(hn:n=0\/n=1):0<=j5 ch s n:=by
 have h0:=(hs.MU hn).1
 have hl:=hs.len
 have h3:(ja s.2.2.1).length<=s.2.2.1.length:=nj _ _
 have hm:=MN (r:=s.2.2.2.1) (m:=((ja s.2.2.1).length:Int)) (n:=(s.2.2.1.length:Int)) (by omega) (by omega) (by omega)
 have hc:=hs.cost
 unfold j5
 split
 ·next e=>
  rw[<-e]at hc
  omega
 ·omega
theorem Aa{ch:iP}(fI:mX ch)(s:jk){own:Int}(ho:own=0\/own=1): @Eq Int (j5 ch s own+j5 ch s (1 - own)) (nth ti s.2.1 0+nth ti s.2.1 1 - (Bm s.2.2.2.1 (ja s.2.2.1).length+660)):=by
 have eZ:=fI.op
 unfold j5
 rcases ho with rfl | rfl <;> rcases eZ with e | e <;> rw[e] <;> simp <;> omega
theorem uX:∀(l:List jj),(∀c∈l,F9 c)->0<=jL (ja l)/\jL (ja l)<=jL l
 |[],_=>⟨lp _,lp _⟩
 |c::l,h=>by
  have ih:=uX l λx hx=>h x (bj _ hx)
  have hc:=h c bh
  unfold F9 at hc
  rw[AX]
  split
  ·simp only[jL];omega
  ·simp only[jL];omega
theorem NX{ch:iP}{s:jk}{own per:Int}(fI:mX ch)(hs:wB ch s)(ho:own=0\/own=1):(∀m∈o3 ch s own per,0<=m.1.1)/\qw (o3 ch s own per)<=1125899906842624:=by
 have hp':1 - own=0\/1 - own=1:=by omega
 have r0:=ui hs ho
 have r1:=ui hs hp'
 have rs:=Aa fI s ho
 have ht:=hs.Uj
 have ha:=fI.EY
 have H9:=uX _ hs.a
 have hf:=vM s.2.2.2.1 (ja s.2.2.1).length
 refine⟨λm hm=> ?_,?_⟩
 ·unfold o3 at hm
  simp only[cf]at hm
  rcases hm with hm | hm | hm | hm
  ·split at hm
   ·rw[aU]at hm;subst hm;exact r0
   ·cases hm
  ·split at hm
   ·rw[aU]at hm;subst hm;exact r1
   ·cases hm
  ·rcases cE.1 hm with rfl | hm
   ·show(0:Int)<=330;decide
   ·rw[aU]at hm;subst hm;show(0:Int)<=330;decide
  ·obtain⟨c,hc,rfl⟩:=eD.1 hm
   have:=(hs.a c (jI.1 hc).1).1
   unfold oz
   split
   ·exact this
   ·exact this
 ·unfold o3
  rw[lq,lq,lq,(qx ..).1]
  have e0:∀(b:Bool) (n:Int) (l:Lk) (r:xr),0<=n->qw (if b=true then [F7 n l r] else [])<=n:=λb n l r hn=>by
   cases b
   ·exact hn
   ·show n+0<=n;omega
  have q0:=e0 (FM (j5 ch s own)) (j5 ch s own) (Az (vY (nm ch own).2.2.1 per) (uU (nm ch (1 - own)).2.2.2.2.1 per) (xp ch (1 - own))) ((1:Int),(OH,())) r0
  have q1:=e0 (FM (j5 ch s (1 - own))) (j5 ch s (1 - own)) (sX [(nm ch (1 - own)).2.1]) ((2:Int),(OH,())) r1
  have q2:∀(a b:Lk) (x y:xr),qw [F7 330 a x,F7 330 b y]=660:=λ_ _ _ _=>rfl
  rw[q2]
  omega
def FR:List kI->Int
 |[]=>0
 |o::l=>o.1+FR l
theorem zZ:∀(l:List kI) (s:Int),0<=s->(∀o∈l,0<=o.1/\lj o.2.1=true)->s+FR l<=1125899906842624->qh s l=true
 |[],_,_,_,_=>rfl
 |o::l,s,h0,h,hs=>by
  have ho:=h o bh
  have SC:∀(l:List kI),(∀o∈l,0<=o.1/\lj o.2.1=true)->0<=FR l:=by
   intro l
   induction l with
   |nil=>intro _;exact lp _
   |cons x l ih=>
    intro h
    have h1:=(h x bh).1
    have h2:=ih λy hy=>h y (bj _ hy)
    simp only[FR]
    omega
  have hl:=SC l λy hy=>h y (bj _ hy)
  simp only[FR]at hs
  rw[qh,ho.2,zZ l (s+o.1) (by omega) (λy hy=>h y (bj _ hy)) (by omega)]
  unfold tS tx
  rw[aM ⟨h0,by omega⟩,aM ⟨ho.1,by omega⟩,aM (by omega)]
  rfl
theorem C8:∀l:List my,FR (l.map λm=>m.1)=qw l
 |[]=>rfl
 |m::l=>by rw[cO,FR,qw,C8 l]
theorem tX{ch:iP}{s:jk}{own per:Int}(fI:mX ch)(hs:wB ch s)(ho:own=0\/own=1):j9 (de ch s own per).1=true:=by
 have hl:=HC (ch:=ch) (own:=own) (per:=per) hs.len
 have hk:=Kg (per:=per) fI hs ho
 have hr:=NX (per:=per) fI hs ho
 have hp:=mR (o3 ch s own per)
 have hle:=hp.length_eq
 have Rw:=hs.no
 unfold de ofRow
 unfold j9 yc
 have e1:tE [] [((ch.1,(((0:Int),(([]:List Sg),((0:Int),()))),())):kX)]=true:=by
  rw[tE,tE,fI.OZ]
  rfl
 rw[e1,zZ _ 0 (lp _) (λo P5=> ?_) ?_,aM ⟨by show 1<=1;decide,by show 1<=64;decide,by show(List.map _ _).length<=64;rw[cM];omega,by show 0<=2*s.1+own;omega⟩]
 ·rfl
 rotate_left
 ·obtain⟨m,hm,rfl⟩:=eD.1 P5
  have hm:=wW.1 hm
  exact⟨hr.1 m hm,hk m hm⟩
 ·rw[C8,zm hp]
  omega
theorem wT{ch:iP}{s:jk}{own per rev pay:Int}(fI:mX ch)(hs:wB ch s)(ho:own=0\/own=1):(wS (de ch s own per) rev pay).length=Ug (j5 ch s own)+(Ug (j5 ch s (1 - own))+(ja s.2.2.1).length)/\
  A5 (wS (de ch s own per) rev pay)=R2 (j5 ch s own)+(R2 (j5 ch s (1 - own))+jL (ja s.2.2.1)):=by
 have kA:=tX (per:=per) fI hs ho
 have hm:(gV (de ch s own per).1).length=(lP (o3 ch s own per)).length:=by
  unfold gV pJ
  rw[if_pos kA,cM,List.length_range']
  show(List.map _ _).length=_
  rw[cM]
 have e:=HT rev pay (lP (o3 ch s own per)) _ hm
 rw[KU (mR _),KE (mR _),NZ,NY]at e
 exact e
end
end Go.Ab
namespace Go.Ab
open Go.Proofs
noncomputable section
theorem Jy{a b:jj}:zj a b=true↔(a.1 < b.1\/a.1=b.1/\a.2.1 < b.2.1):=by
 unfold zj;rw[decide_eq_true_eq]
theorem D4{a b c:jj}(h1:zj a b=true)(h2:zj b c=true):zj a c=true:=by
 rw[Jy]at*;omega
def Um(a b:jj):Prop:=zj a b=true
theorem Ec:∀(l:List jj) (p:jj),tw (some p) l=true↔(∀x∈l,PT x)/\(p::l).Pairwise Um
 |[],p=>⟨λ_=>⟨λx hx=>(by cases hx),List.pairwise_singleton _ _⟩,λ_=>rfl⟩
 |c::l,p=>by
  rw[tw,ak,ak,Ec l c,rZ]
  constructor
  ·rintro⟨h1,h2,h3,h4⟩
   refine⟨λx hx=> ?_,iX.2 ⟨λx hx=> ?_,h4⟩⟩
   ·rcases cE.1 hx with rfl | hx
    ·exact h1
    ·exact h3 x hx
   ·rcases cE.1 hx with rfl | hx
    ·exact h2
    ·exact D4 h2 ((iX.1 h4).1 x hx)
  ·rintro⟨h1,h2⟩
   have h3:=iX.1 h2
   exact⟨h1 c bh,h3.1 c bh,λx hx=>h1 x (bj _ hx),h3.2⟩
theorem Eb(l:List jj):tw none l=true↔(∀x∈l,PT x)/\l.Pairwise Um:=by
 cases l with
 |nil=>exact⟨λ_=>⟨λx hx=>(by cases hx),List.Pairwise.nil⟩,λ_=>rfl⟩
 |cons c l=>
  rw[tw,ak,Ec l c,rZ]
  constructor
  ·rintro⟨h1,h2,h3⟩
   refine⟨λx hx=> ?_,h3⟩
   rcases cE.1 hx with rfl | hx
   ·exact h1
   ·exact h2 x hx
  ·rintro⟨h1,h2⟩
   exact⟨h1 c bh,λx hx=>h1 x (bj _ hx),h2⟩
theorem zK:∀(c:jj) (l:List jj),(xH c l).Perm (c::l)
 |c,[]=>jz _
 |c,x::l=>by
  rw[wK]
  split
  ·exact jz _
  ·exact((zK c l).cons x).trans (List.Perm.swap c x l)
theorem JZ:∀(c:jj) (l:List jj),l.Pairwise Um->l.any (J2 c.1 c.2.1)=false->(xH c l).Pairwise Um
 |c,[],_,_=>List.pairwise_singleton _ _
 |c,x::l,h,hn=>by
  rw[nc,Bool.or_eq_false_iff]at hn
  have h':=iX.1 h
  rw[wK]
  split
  ·next hc=>
   refine iX.2 ⟨λy hy=> ?_,h⟩
   rcases cE.1 hy with rfl | hy
   ·exact hc
   ·exact D4 hc (h'.1 y hy)
  ·next hc=>
   have hx:zj x c=true:=by
    have h1:=hn.1
    unfold J2 mV at h1
    rw[Jy]at*
    by_cases e1:x.1=c.1
    ·have e2:¬x.2.1=c.2.1:=λe=>by
      rw[e1,e]at h1
      simp at h1
     omega
    ·omega
   refine iX.2 ⟨λy hy=> ?_,JZ c l h'.2 hn.2⟩
   rcases(yB c l y).1 hy with rfl | hy
   ·exact hx
   ·exact h'.1 y hy
theorem D5{a b:List jj}(h:a.Perm b):jL a=jL b:=by
 induction h with
 |nil=>rfl
 |cons x _ ih=>rw[jL,jL,ih]
 |swap x y l=>simp only[jL];omega
 |trans _ _ h1 h2=>rw[h1,h2]
theorem J8(n:Int)(c:jj)(l:List jj):jL (lZ n (xH c l))=(if c.1=1 - n then c.2.2.1 else 0)+jL (lZ n l):=by
 have hp:(lZ n (xH c l)).Perm (lZ n (c::l)):=(zK c l).filter _
 rw[D5 hp,zY]
 by_cases h:c.1=1 - n
 ·rw[fA h,if_pos rfl,if_pos h,jL]
 ·rw[fJ h,if_neg (by simp),if_neg h];omega
theorem rD(s:jk)(c:jj):(lJ s c).2.2.1=xH c s.2.2.1:=rfl
theorem ye{s:jk}{c:jj}(h2:s.2.1.length=2)(hc:c.1=0\/c.1=1){n:Int}(hn:n=0\/n=1): @Eq Int (nth ti (lJ s c).2.1 n.toNat) (nth ti s.2.1 n.toNat - (if c.1=n then c.2.2.1 else 0)):=by
 show nth ti (List.set _ _ _) _=_
 rw[Hm h2 _ _ _ hc hn]
 split
 ·next e=>rw[e]
 ·show _=(nth ti s.2.1 n.toNat:Int) - 0
  exact(nX _).symm
theorem KC{ch:iP}{s:jk}{c:jj}(fI:mX ch)(hu:ur s)(h:(A4 ch s c).2=0):wB ch (A4 ch s c).1:=by
 obtain⟨e,hs,g,hn,Re,Er,hh,Tm⟩:=Jx h
 rw[e]
 have gs:=N6 g.side
 have ga:=g.EY
 have hlen:=hs.len
 have w0:=ye (s:=s) (c:=c) hu.2.2 gs (n:=0) (.inl rfl)
 have w1:=ye (s:=s) (c:=c) hu.2.2 gs (n:=1) (.inr rfl)
 have wc:=ye (s:=s) (c:=c) hu.2.2 gs gs
 rw[if_pos rfl]at wc
 have ck:=(Eb _).1 hs.pP
 have a0:=hs.h0.1
 have a0':=hs.h0.2
 have a1:=hs.h1.1
 have a1':=hs.h1.2
 have hh': @LE.le Int _ 0 (nth ti (lJ s c).2.1 c.1.toNat):=hh
 have o0:=J8 0 c s.2.2.1
 have o1:=J8 1 c s.2.2.1
 have q0:=hs.o0
 have q1:=hs.o1
 have ht:=hs.Uj
 have e0:(Int.toNat 0)=0:=rfl
 have e1:(Int.toNat 1)=1:=rfl
 rw[e0]at w0
 rw[e1]at w1
 refine⟨hs.no,?_,?_,hs.bQ,?_,?_,?_,?_,?_,?_⟩
 ·unfold Bd
  rcases gs with gc | gc <;> rw[gc]at w0 hh' wc Er
  ·rw[if_pos rfl]at w0
   rw[e0]at hh'
   exact⟨hh',by rw[w0];omega⟩
  ·rw[if_neg (by decide),nX]at w0
   exact⟨by rw[w0];exact a0,by rw[w0];exact a0'⟩
 ·unfold Bd
  rcases gs with gc | gc <;> rw[gc]at w1 hh' wc Er
  ·rw[if_neg (by decide),nX]at w1
   exact⟨by rw[w1];exact a1,by rw[w1];exact a1'⟩
  ·rw[if_pos rfl]at w1
   rw[e1]at hh'
   exact⟨hh',by rw[w1];omega⟩
 ·rw[rD,Cn];omega
 ·rw[rD,Eb]
  refine⟨λx hx=> ?_,JZ c _ ck.2 hn⟩
  rcases(yB c _ x).1 hx with rfl | hx
  ·exact g
  ·exact ck.1 x hx
 ·rw[rD,o0]
  rcases gs with gc | gc <;> rw[gc]at Er ⊢
  ·rw[if_neg (by decide)];omega
  ·rw[if_pos (by decide)]
   rw[show(1:Int) - 1=0 from rfl]at Er
   omega
 ·rw[rD,o1]
  rcases gs with gc | gc <;> rw[gc]at Er ⊢
  ·rw[if_pos (by decide)]
   rw[show(1:Int) - 0=1 from rfl]at Er
   omega
  ·rw[if_neg (by decide)];omega
 ·rw[rD,D5 (zK c _),jL,w0,w1]
  rcases gs with gc | gc <;> rw[gc]
  ·rw[if_pos rfl,if_neg (by decide)];omega
  ·rw[if_neg (by decide),if_pos rfl];omega
 ·exact Tm
theorem Cz{ch:iP}(fI:mX ch):∀(l:List KA) (s:jk) (i:Nat),ur s->wB ch s->wB ch (tg ch s i l)
 |[],_,_,_,h=>h
 |o::l,s,i,hu,h=>by
  rw[tg]
  split
  ·refine Cz fI l _ _ (Jk hu) ?_
   unfold C7
   split
   ·next e=>exact KC fI hu e
   ·exact h
  ·exact h
theorem LH{p:yf}(hp:LY p):wB (so p) (LG p):=by
 have ha:=hp.EY
 have hr:=hp.bQ
 have hn:=hp.no
 have ho:p.2.2.2.2.1%2=0\/p.2.2.2.2.1%2=1:=by omega
 unfold LG
 split
 ·next e=>exact ru.1 e
 ·have hf:Bm (p.2.2.2.1%8) 0<=476:=by
   unfold Bm
   rw[if_pos ⟨by omega,by omega⟩]
   show p.2.2.2.1%8*68<=476
   omega
  have YT:=vM (p.2.2.2.1%8) 0
  have key:∀(x y:Int),0<=x->0<=y->x+y=20000+p.2.1->(@GE.ge Int _ (nth ti [x,y] (p.2.2.2.2.1%2).toNat) (Bm (p.2.2.2.1%8) 0+660))->wB (so p) (Jd p [x,y]):=λx y hx hy JV hc=>
   ⟨⟨by show 0<=p.2.2.2.2.2.2.1;omega,by show p.2.2.2.2.2.2.1<=_;omega⟩,⟨hx,by show x<=_;omega⟩,⟨hy,by show y<=_;omega⟩,⟨by show 0<=p.2.2.2.1%8;omega,by show p.2.2.2.1%8<=_;omega⟩,bm _,rfl,by show(0:Int)<=_;decide,by show(0:Int)<=_;decide,by show x+y+0=20000+p.2.1;omega,hc⟩
  rcases ho with e | e
  ·have:((vc p).set (p.2.2.2.2.1%2).toNat (20000+p.2.1)).set (1 - p.2.2.2.2.1%2).toNat 0=[20000+p.2.1,0]:=by
    rw[e];rfl
   rw[this]
   refine key _ _ (by omega) (by omega) (by omega) ?_
   rw[e]
   show 20000+p.2.1>=_
   omega
  ·have:((vc p).set (p.2.2.2.2.1%2).toNat (20000+p.2.1)).set (1 - p.2.2.2.2.1%2).toNat 0=[0,20000+p.2.1]:=by
    rw[e];rfl
   rw[this]
   refine key _ _ (by omega) (by omega) (by omega) ?_
   rw[e]
   show 20000+p.2.1>=_
   omega
theorem Ai{p:yf}(hp:LY p):wB (so p) (HO p):=Cz (Gs hp) _ _ _ (Ki p) (LH hp)
end
end Go.Ab
namespace Go.Ab
open Go.Proofs
noncomputable section
theorem JE(a b:iF):Ty.beq ir a b=true↔a=b:=⟨beq_eq ir a b rfl,λh=>by rw[h];exact beq_refl ir b rfl⟩
theorem CD{x y:iF}{v:Bool}(h:¬y=x):∀l:List (iF×Bool),fv ir y (lv ir x v l)=fv ir y l
 |[]=>by rw[Ey,jm,if_neg (λe=>h ((JE _ _).1 e)),uc]
 |p::l=>by
  rw[uQ]
  split
  ·next e=>
   have e:=(JE _ _).1 e
   rw[jm,jm,if_neg (λe=>h ((JE _ _).1 e)),if_neg (λe2=>h (((JE _ _).1 e2).trans e.symm))]
  ·rw[jm,jm,CD h l]
theorem J1:∀(l:List kX) (m:List (iF×Bool)),(∀x∈l,zI x=true/\fv ir x.1 m=none)->(l.map λx=>x.1).Nodup->tE m l=true
 |[],_,_,_=>rfl
 |x::l,m,h,hn=>by
  rw[cO,fV]at hn
  have hx:=h x bh
  have e:xi m x=false:=by unfold xi;rw[hx.2];rfl
  rw[tE,e,hx.1,J1 l _ (λy hy=>⟨(h y (bj _ hy)).1,?_⟩) hn.2]
  ·rfl
  ·rw[CD (λe=>hn.1 (by rw[<-e];exact List.mem_map_of_mem hy))]
   exact(h y (bj _ hy)).2
theorem Ks(rev pay:Int):∀(a:List iF) (b:List kI) (c:List xr),((A2 rev pay a b c).map λx=>x.1).Sublist a
 |[],_,_=>List.Sublist.refl _
 |_::_,[],_=>List.nil_sublist _
 |_::_,_::_,[]=>List.nil_sublist _
 |o::a,x::b,r::c=>by
  have ih:=Ks rev pay a b c
  rw[A2,o7]
  unfold vl
  split
  ·exact ih.cons o
  ·exact ih.cons_cons o
theorem G4(id:List Int):∀(n k:Nat),(pJ id k n).Nodup:=by
 intro n k
 unfold pJ
 refine List.Pairwise.map _ (λa b h e=>h ?_) List.nodup_range'
 have:=congrArg (λo:iF=>o.2.1) e
 exact Int.ofNat.inj this
theorem Pt{id:List Int}{k n:Nat}{o:iF}(h:o∈pJ id k n):0<=o.2.1/\o.2.1 < k+n:=by
 unfold pJ at h
 obtain⟨i,hi,rfl⟩:=eD.1 h
 have:=List.mem_range'.1 hi
 obtain⟨j,hj,rfl⟩:=this
 show(0:Int)<=((k+1*j:Nat):Int)/\((k+1*j:Nat):Int) < k+n
 omega
theorem I2(c:H5)(rev pay:Int):((wS c rev pay).map λx=>x.1).Nodup/\∀x∈wS c rev pay,0<=x.1.2.1/\x.1.2.1 < 64:=by
 unfold wS
 have hs:=Ks rev pay (gV c.1) c.1.2.1 c.2.1
 have hm:(gV c.1).Nodup/\∀o∈gV c.1,0<=o.2.1/\o.2.1 < 64:=by
  unfold gV
  split
  ·next kA=>
   refine⟨G4 _ _ _,λo ho=> ?_⟩
   have:=Pt ho
   have:=(EO kA).1
   omega
  ·exact⟨lF,λo ho=>(by cases ho)⟩
 exact⟨hm.1.sublist hs,λx hx=>hm.2 _ (hs.subset (List.mem_map_of_mem hx))⟩
theorem PO{l:List o6}{to:Lk}{n:Int}(h1:1<=l.length/\l.length<=64)(hn:(l.map λx=>x.1).Nodup)(hi:∀x∈l,0<=x.1.2.1/\x.1.2.1 < 64)(sY:lj to=true)(h0:0<=n/\n<=1125899906842624):j9 (Dh l to n)=true:=by
 unfold j9 yc
 have e1:tE [] (Dh l to n).1=true:=by
  show tE [] (l.map Ck)=true
  refine J1 _ _ (λx hx=> ?_) (by rw[List.map_map];exact hn)
  obtain⟨y,hy,rfl⟩:=eD.1 hx
  have:=hi y hy
  refine⟨?_,rfl⟩
  unfold zI
  show(decide (0<=y.1.2.1/\y.1.2.1 < 64) && _)=true
  rw[aM this]
  rfl
 have e2:qh 0 (Dh l to n).2.1=true:=zZ _ 0 (lp _) (λo ho=>by
  have ho:o∈ [(n,(to,()))]:=ho
  rw[aU]at ho
  subst ho
  exact⟨h0.1,sY⟩) (by show 0+(n+0)<=_;omega)
 rw[e1,e2,aM ⟨by show 1<=(l.map Ck).length;rw[cM];exact h1.1,by show(l.map Ck).length<=64;rw[cM];exact h1.2,by show 1<=64;decide,by show(0:Int)<=0;decide⟩]
 rfl
def SN(x:kX):Int:=10+8*x.2.1.2.1.length+(if x.2.1.2.2.1=0 then 0 else 4)
theorem LI{t:je}{i:Nat}{k:Int}(kA:j9 t=true)(hi:i < t.1.length)(hk:0 < k/\k < 2305843009213688669):sO t i 0 [k]=true:=by
 unfold sO
 rw[kA,aM ⟨by omega,by omega,by decide,by decide,dE rfl⟩]
 simp only[nc,List.any_nil,xu]
 rw[cq (by omega)]
 rfl
theorem HI:∀(l:List o6) (t:je) (i:Nat),j9 t=true->u9 t->i+l.length=t.1.length->(∀x∈l,0 < x.2.2.1/\x.2.2.1 < 2305843009213688669)->(∀(j:Nat) (h:j < t.1.length),j < i->SN t.1[j]=18)->
  ∃t',qk t i l= .inl t'/\j9 t'=true/\u9 t'/\t'.2=t.2/\t'.1.length=t.1.length/\oJ t'=oJ t/\gS t'=gS t/\∀x∈t'.1,SN x=18
 |[],t,i,kA,hv,hl,_,hw=>⟨t,rfl,kA,hv,rfl,rfl,rfl,rfl,λx hx=>by
   obtain⟨j,hj,rfl⟩:=List.getElem_of_mem hx
   exact hw j hj (by simp at hl;omega)⟩
 |x::l,t,i,kA,hv,hl,hk,hw=>by
  have hi:i < t.1.length:=by rw[aO]at hl;omega
  have hs:=LI kA hi (hk x bh)
  have ha:=C2 (sc:=0) hv hs uZ
  rw[aa]at ha
  have e:pO t i 0 [x.2.2.1] 0=(uW t i (wm t 0 [x.2.2.1] 0),0):=by
   rw[y9,if_pos hs,aa]
  obtain⟨t',h1,h2,h3,h4,h5,h6,h7,h8⟩:=HI l (uW t i (wm t 0 [x.2.2.1] 0)) (i+1) ha.1 ha.2.1 (by rw[C0];rw[aO]at hl;omega) (λy hy=>hk y (bj _ hy)) (λj hj YW=>by
   have hj':j < t.1.length:=by rw[C0]at hj;exact hj
   have XO:j < (t.1.set i ((nth kW t.1 i).1,(wm t 0 [x.2.2.1] 0,()))).length:=hj
   show SN ((t.1.set i ((nth kW t.1 i).1,(wm t 0 [x.2.2.1] 0,())))[j]'XO)=18
   rw[List.getElem_set]
   split
   ·rfl
   ·exact hw j hj' (by omega))
  refine⟨t',?_,h2,h3,h4,h5.trans (C0 ..),h6.trans ha.2.2.1,h7.trans ha.2.2.2.1,h8⟩
  rw[qk,e,if_pos rfl]
  exact h1
theorem Oq{t:je}(h:j9 t=true)(hw:∀x∈t.1,SN x=18):rO t=10+8*t.2.1.length+18*t.1.length:=by
 unfold rO
 rw[if_pos h]
 have:∀(l:List kX) (n:Int),(∀x∈l,SN x=18)->l.foldl wA n=n+18*l.length:=by
  intro l
  induction l with
  |nil=>intro n _;simp
  |cons x l ih=>
   intro n h
   have hx:=h x bh
   unfold SN at hx
   rw[iv,ih _ λy hy=>h y (bj _ hy),aO]
   unfold wA
   omega
 exact this _ _ hw
theorem Dc{l:List o6}{to:Lk}{bQ:Int}(hg:BG l)(ht:uq to)(sY:lj to=true)(h1:1<=l.length)(hn:(l.map λx=>x.1).Nodup)(hi:∀x∈l,0<=x.1.2.1/\x.1.2.1 < 64)(hk:∀x∈l,0 < x.2.2.1/\x.2.2.1 < 2305843009213688669)
  (h0:1<=jP l bQ) (hm:jP l bQ<=1125899906842624):∃t,mc l to bQ=(t,0)/\j9 t=true/\u9 t/\t.2=([(jP l bQ,(to,()))],((0:Int),()))/\t.1.length=l.length/\rO t=18+18*l.length/\gS t=l.map λx=>x.1:=by
 have kA:=PO (n:=jP l bQ) ⟨h1,hg.1⟩ hn hi sY ⟨by omega,hm⟩
 have hv:=Jq (n:=jP l bQ) hg ht
 obtain⟨t,e1,e2,e3,e4,e5,_,e7,e8⟩:=HI l _ 0 kA hv (by show 0+l.length=(l.map Ck).length;rw[cM,bl]) hk (λj _ h=>absurd h (Nat.not_lt_zero _))
 have el:t.1.length=l.length:=e5.trans (cM ..)
 refine⟨t,?_,e2,e3,e4,el,?_,?_⟩
 ·unfold mc
  rw[if_neg (by omega),e1]
 ·have:=Oq e2 e8
  rw[this,el,e4]
  show 10+8*((1:Nat):Int)+_=_
  omega
 ·rw[e7]
  unfold gS
  rw[if_pos kA]
  show(l.map Ck).map _=_
  rw[List.map_map]
  rfl
theorem l8(l:List o6)(bQ:Int):jP l bQ=A5 l - bQ*(18+18*l.length):=by
 unfold jP
 rw[Int.neg_mul]
 omega
end
end Go.Ab
namespace Go.Ab
open Go.Proofs
noncomputable section
theorem aN.c{p:yf}(h:LY p):aN.call p=some (so p,tf p,HO p):=by
 have ea:∀d y,aN.add d y=y:=λ_ _=>rfl
 have eF:aN.F p=(so p,tf p,HO p):=rfl
 rw[aN.run (d:=p) h,ea,eF]
def R1:List Int:=[(1:Int),(0:Int),(0:Int),(0:Int),(0:Int),(0:Int),(0:Int),(0:Int),(0:Int),(0:Int),(0:Int),(0:Int),(0:Int),(0:Int),(0:Int),(0:Int),(0:Int),(0:Int),(0:Int),(0:Int),(0:Int),(0:Int),(0:Int),(0:Int),(0:Int),(0:Int),(0:Int),(0:Int),(0:Int),(0:Int),(0:Int),(0:Int)]
def QE:List Int:=[(2:Int),(0:Int),(0:Int),(0:Int),(0:Int),(0:Int),(0:Int),(0:Int),(0:Int),(0:Int),(0:Int),(0:Int),(0:Int),(0:Int),(0:Int),(0:Int),(0:Int),(0:Int),(0:Int),(0:Int),(0:Int),(0:Int),(0:Int),(0:Int),(0:Int),(0:Int),(0:Int),(0:Int),(0:Int),(0:Int),(0:Int),(0:Int)]
def AV:List Int:=[(9:Int),(0:Int),(0:Int),(0:Int),(0:Int),(0:Int),(0:Int),(0:Int),(0:Int),(0:Int),(0:Int),(0:Int),(0:Int),(0:Int),(0:Int),(0:Int),(0:Int),(0:Int),(0:Int),(0:Int),(0:Int),(0:Int),(0:Int),(0:Int),(0:Int),(0:Int),(0:Int),(0:Int),(0:Int),(0:Int),(0:Int),(0:Int)]
def UK:KA:=((0:Int),((999:Int),((49:Int),((6:Int),()))))
def NH:yf:=([R1,QE],((0:Int),((20000:Int),((0:Int),((0:Int),([UK],((3:Int),((List.replicate 32 (0:Int)),()))))))))
theorem xU:Sm AV:=⟨rfl,λx hx=>by
 have hx:x∈(9:Int)::List.replicate 31 0:=hx
 rcases cE.1 hx with rfl | hx
 ·exact⟨by decide,by decide⟩
 ·rw[(ph.1 hx).2];exact⟨by decide,by decide⟩⟩
theorem NI:LY NH:=⟨rfl,rfl,rfl,by decide,by decide,by decide,by decide,λo ho=>by
 have ho:o∈ [UK]:=ho
 rw[aU]at ho
 subst ho
 exact⟨by decide,by decide,by decide,by decide,by decide⟩,by decide,by decide⟩
def DH:pE:=oD R1
def zO:pE:=oD QE
def kK:iP:=so NH
theorem RJ:tf NH=[DH,zO]:=rfl
theorem qA:mX kK:=Gs NI
theorem Yo:kT (oY R1 1)=2072101336324354433:=by rw[uh];decide+kernel
theorem Yp:kT (oY QE 1)=1305380350991396904:=by rw[uh];decide+kernel
theorem Yq:kT (oY R1 5)=1029399409459846816:=by rw[uh];decide+kernel
theorem Yr:kT (oY QE 5)=2186824319021734715:=by rw[uh];decide+kernel
theorem Xd:kT AV=112257076531728385:=by decide+kernel
theorem Ym:fy 1029399409459846816=4015897993537805363:=by decide+kernel
theorem Yn:fy 2186824319021734715=2261880268583237820:=by decide+kernel
theorem Xc:fy 112257076531728385=575350622446351864:=by decide+kernel
theorem V8:fy 2072101336324354433=832337771889980084:=by decide+kernel
theorem V9:fy 1305380350991396904=97770669543817673:=by decide+kernel
theorem Ys:tC ud 4015897993537805363 575350622446351864=1791329418814422355:=by rw[wG];decide+kernel
theorem Yt:tC ud 575350622446351864 4015897993537805363=292043013001268827:=by rw[wG];decide+kernel
theorem Yu:tC ud 2261880268583237820 575350622446351864=1740878991488293903:=by rw[wG];decide+kernel
theorem Yv:tC ud 575350622446351864 2261880268583237820=409497070282374302:=by rw[wG];decide+kernel
theorem RZ:0 < sm DH.2.2.2.2.1 AV:=by
 show 0 < sm (kT (oY R1 5)) AV
 unfold sm l5
 rw[Yq,Xd,Ym,Xc,Ys,Yt]
 decide+kernel
theorem NT:0 < sm zO.2.2.2.2.1 AV:=by
 show 0 < sm (kT (oY QE 5)) AV
 unfold sm l5
 rw[Yr,Xd,Yn,Xc,Yu,Yv]
 decide+kernel
theorem Oj:Ty.beq qo (uw DH) (nm kK 1)=false:=by
 cases e:Ty.beq qo (uw DH) (nm kK 1)
 ·rfl
 ·have h:=beq_eq qo _ _ rfl e
  have h1:fy (kT (oY R1 1))=fy (kT (oY QE 1)):=congrArg (λb:Kz=>b.1) h
  rw[Yo,Yp,V8,V9]at h1
  exact absurd h1 (by decide)
def Sq:jj:=((0:Int),((1:Int),((1000:Int),(fy 7,((50:Int),())))))
def vj:jk:=((3:Int),([(19000:Int),0],([Sq],((0:Int),()))))
theorem Yx:Ml (fy 7):=Gl (by decide) (by decide)
theorem SW:PT Sq:=⟨Yx.2,by decide,by decide,by decide,by decide⟩
theorem T7:I3 0 UK=Sq:=rfl
theorem Sb:HO NH=vj:=by
 have e0:xX kK (Jd NH [20000,0])=true:=by rfl
 have e1:LG NH=Jd NH [20000,0]:=by
  unfold LG
  exact if_pos e0
 have e2:(xX kK (Jd NH [20000,0]) && F3 Sq)=true:=by rw[e0,rZ.2 SW];rfl
 have e3:A4 kK (Jd NH [20000,0]) Sq=(vj,0):=by
  unfold A4
  rw[if_pos e2]
  rfl
 unfold HO
 rw[e1]
 show tg kK (Jd NH [20000,0]) 0 [UK]=vj
 rw[tg,if_pos (by decide),tg]
 unfold C7
 rw[T7,e3]
 rfl
theorem y4:ur vj:=by rw[<-Sb];exact Oa _
theorem QD:wB kK vj:=by
 have:=Ai NI
 rw[Sb]at this
 exact this
theorem BA:j5 kK vj 0=18340:=rfl
theorem BB:j5 kK vj 1=0:=rfl
theorem Kl:ja vj.2.2.1=[Sq]:=rfl
def sQ:Lk:=sX [(nm kK 1).2.1]
theorem wx:uq sQ:=Bp (qA.ba (.inr rfl)).2.1.1
theorem FV:lj sQ=true:=Cu (tV (qA.ba (.inr rfl)).2.1.p D2 D2 (.inl rfl))
theorem Nq{own per:Int}(ho:own=0\/own=1)(hp:oM per=true):nw kK vj own per=(de kK vj own per,0):=by
 unfold nw
 rw[aM ho,hp,if_pos (show(true && true)=true from rfl),if_pos (ru.2 QD)]
theorem PC{own per rev pay:Int}(ho:own=0\/own=1):(wS (de kK vj own per) rev pay).length=2/\A5 (wS (de kK vj own per) rev pay)=19340:=by
 have h:=wT (own:=own) (per:=per) (rev:=rev) (pay:=pay) qA QD ho
 rw[Kl]at h
 rcases ho with rfl | rfl
 ·rw[BA,show(1:Int) - 0=1 from rfl,BB]at h
  exact h
 ·rw[BB,show(1:Int) - 1=0 from rfl,BA]at h
  exact h
theorem SR{own per:Int}(ho:own=0\/own=1):∀m∈o3 kK vj own per,m.1.1=18340\/m.1.1=330\/m.1.1=1000:=by
 intro m hm
 unfold o3 at hm
 simp only[cf]at hm
 rcases hm with hm | hm | hm | hm
 ·split at hm
  ·next h=>
   rw[aU]at hm;subst hm
   rcases ho with rfl | rfl
   ·left;exact BA
   ·rw[BB]at h;exact absurd h (by decide)
  ·cases hm
 ·split at hm
  ·next h=>
   rw[aU]at hm;subst hm
   rcases ho with rfl | rfl
   ·rw[show(1:Int) - 0=1 from rfl,BB]at h;exact absurd h (by decide)
   ·left;exact BA
  ·cases hm
 ·rcases cE.1 hm with rfl | hm
  ·right;left;rfl
  ·rw[aU]at hm;subst hm;right;left;rfl
 ·rw[Kl]at hm
  obtain⟨c,hc,rfl⟩:=eD.1 hm
  rw[aU]at hc;subst hc
  right;right
  unfold oz
  split <;> rfl
theorem Nz{own per rev pay:Int}(ho:own=0\/own=1):∀x∈wS (de kK vj own per) rev pay,x.2.1=18340\/x.2.1=330\/x.2.1=1000:=by
 intro y hy
 obtain⟨o,_,x,hx,r,_,_,rfl⟩:=BC _ _ _ _ _ _ hy
 obtain⟨m,hm,rfl⟩:=eD.1 (show x∈(lP (o3 kK vj own per)).map (λm=>m.1) from hx)
 exact SR ho m (wW.1 hm)
theorem Hp{own per rev pay:Int}(hr:0 < rev/\rev < 2305843009213688669)(hp:0 < pay/\pay < 2305843009213688669):∀x∈wS (de kK vj own per) rev pay,0 < x.2.2.1/\x.2.2.1 < 2305843009213688669:=by
 intro y hy
 obtain⟨o,_,x,hx,r,_,_,rfl⟩:=BC _ _ _ _ _ _ hy
 show 0 < (if r.1=2 then pay else rev)/\(if r.1=2 then pay else rev) < _
 split
 ·exact hp
 ·exact hr
theorem Od{own per rev pay bQ:Int}(ho:own=0\/own=1)(hr:0 < rev/\rev < 2305843009213688669)(hp:0 < pay/\pay < 2305843009213688669)(h2:bQ=2):∃t,mc (wS (de kK vj own per) rev pay) sQ bQ=(t,0)/\j9 t=true/\u9 t/\t.2=([(19232,(sQ,()))],((0:Int),()))/\t.1.length=2/\rO t=54:=by
 subst h2
 have h:=PC (own:=own) (per:=per) (rev:=rev) (pay:=pay) ho
 have hg:=Hr (c:=de kK vj own per) (rev:=rev) (pay:=pay) ⟨by omega,by omega⟩ ⟨by omega,by omega⟩
 have hn:=I2 (de kK vj own per) rev pay
 have hk:=Hp (own:=own) (per:=per) hr hp
 generalize wS (de kK vj own per) rev pay=l at h hg hn hk
 have hl:jP l 2=19232:=by rw[l8,h.1,h.2];decide
 obtain⟨t,q1,q2,q3,q4,q5,q6,_⟩:=Dc (bQ:=2) hg wx FV (by omega) hn.1 hn.2 hk (by rw[hl];decide) (by rw[hl];decide)
 rw[hl]at q4
 exact⟨t,q1,q2,q3,q4,by omega,by rw[q6,h.1];decide⟩
theorem QW{own per rev pay:Int}(ho:own=0\/own=1)(hr:0 < rev/\rev < 2305843009213688669)(hp:0 < pay/\pay < 2305843009213688669):∃t:je,sB sQ 30 (wS (de kK vj own per) rev pay)=[t]/\t.2=([(17260,(sQ,()))],((0:Int),())):=by
 have h:=PC (own:=own) (per:=per) (rev:=rev) (pay:=pay) ho
 have hg:=Hr (c:=de kK vj own per) (rev:=rev) (pay:=pay) ⟨by omega,by omega⟩ ⟨by omega,by omega⟩
 have hn:=I2 (de kK vj own per) rev pay
 have hk:=Hp (own:=own) (per:=per) hr hp
 have ha:=Nz (per:=per) (rev:=rev) (pay:=pay) ho
 generalize wS (de kK vj own per) rev pay=l at h hg hn hk ha
 match l,h with
 |[x,y],h=>
  have bg:x.2.1+(y.2.1+0)=19340:=h.2
  have ax:=ha x bh
  have ay:=ha y (bj _ bh)
  have no:∀z:o6,z.2.1=1000->mc [z] sQ 30=(QI,8):=λz hz=>by
   have:jP [z] 30= -80:=by rw[l8];show z.2.1+0 - 30*(18+18*1)= -80;omega
   unfold mc
   rw[this]
   rfl
  have yes:∀z:o6,z∈ [x,y]->z.2.1=18340->∃t,mc [z] sQ 30=(t,0)/\t.2=([(17260,(sQ,()))],((0:Int),())):=λz hm hz=>by
   have e:jP [z] 30=17260:=by rw[l8];show z.2.1+0 - 30*(18+18*1)=17260;omega
   have hs:∀w∈ [z],w∈ [x,y]:=λw hw=>by rw[aU]at hw;rw[hw];exact hm
   obtain⟨t,q1,q2,q3,q4,q5,q6,_⟩:=Dc (l:=[z]) (bQ:=30) ⟨by show 1<=64;decide,λw hw=>hg.2 w (hs w hw)⟩ wx FV (aE _) (List.pairwise_singleton _ _) (λw hw=>hn.2 w (hs w hw)) (λw hw=>hk w (hs w hw)) (by rw[e];decide) (by rw[e];decide)
   rw[e]at q4
   exact⟨t,q1,q4⟩
  have JV:(x.2.1=18340/\y.2.1=1000)\/(x.2.1=1000/\y.2.1=18340):=by omega
  rcases JV with⟨h1,h2⟩ | ⟨h1,h2⟩
  ·obtain⟨t,q1,q2⟩:=yes x bh h1
   refine⟨t,?_,q2⟩
   rw[sB,sB,sB,q1,no y h2]
   rfl
  ·obtain⟨t,q1,q2⟩:=yes y (bj _ bh) h2
   refine⟨t,?_,q2⟩
   rw[sB,sB,sB,q1,no x h1]
   rfl
theorem Ua:oM (l5 AV)=true:=vU _
theorem Qp{kit:pE}{me bQ:Int}(hm:me=0\/me=1)(hk:Ty.beq qo (uw kit) (nm kK me)=true)(hr:0<=bQ/\bQ<=1000):CB kK kit me sQ bQ=true:=by
 unfold CB
 rw[kr (by omega) (by omega),kr hr.1 hr.2,FV,hk]
 rfl
theorem JL{kit:pE}{me bQ:Int}(hm:me=0\/me=1)(hk:Ty.beq qo (uw kit) (nm kK me)=true)(hr:0<=bQ/\bQ<=1000):kV kK kit me vj AV sQ bQ=(wS (de kK vj (1 - me) (l5 AV)) (sm kit.2.2.2.2.1 AV) kit.2.1,0):=by
 unfold kV
 rw[if_pos (Qp hm hk hr),Nq (by omega) Ua]
 rfl
theorem IS{kit:pE}{me bQ:Int}(hm:me=0\/me=1)(hk:Ty.beq qo (uw kit) (nm kK me)=true)(hr:0<=bQ/\bQ<=1000):vd kK kit me vj AV sQ bQ=mc (wS (de kK vj (1 - me) (l5 AV)) (sm kit.2.2.2.2.1 AV) kit.2.1) sQ bQ:=by
 unfold vd
 rw[JL hm hk hr]
 rfl
theorem IU(s:List Int):(0 < (oD s).2.1/\(oD s).2.1 < 2305843009213688669):=lX _
theorem NW(b:Int)(s:List Int):sm b s < 2305843009213688669:=(yl _ _).2
theorem Ms(b:Kz):Ty.beq qo b b=true:=beq_refl qo b rfl
theorem MR{bQ:Int}(hr:0<=bQ/\bQ<=1000):yx kK 1 vj bQ=imax 0 (19340 - bQ*54):=by
 unfold yx
 have h:=PC (own:=1 - 1) (per:=4) (rev:=0) (pay:=0) (.inl rfl)
 rw[kr (by decide) (by decide),kr hr.1 hr.2,if_pos (show(true && true)=true from rfl),Nq (own:=1 - 1) (.inl rfl) Fu,if_pos rfl,l8,h.1,h.2]
 rfl
abbrev dq.D:=Unit
def dq.st:dq.D->SA:=λ_=>([],[])
abbrev dq.Y:=Bool
abbrev dq.X:=Bool
def dq.out:dq.X->aX:=λx=>⟨.d .bool x,[],[]⟩
def dq.add:dq.D->dq.Y->dq.X:=λ_ y=>y
def dq.az:dq.D->Prop:=λ_=>True
def dq.F:dq.D->dq.Y:=λ_=>true
def dq.G:fD:=gr (P:=Tryz.prog) [aN.sg,jG.sg,fk.sg,cK.sg,bu.sg,fF.sg]
def dq.an:fR:= {}
def dq.A:= @dm Tryz.prog dq.G dq.an 0 Tryz.f7 _ dq.st
abbrev dq.Ok:=dn @dq.A dq.az dq.add dq.F dq.out
theorem dq.eq{R:Type}(k:aX->Option R):dq.A () k=
  ah (aN.call ([[(1:Int),(0:Int),(0:Int),(0:Int),(0:Int),(0:Int),(0:Int),(0:Int),(0:Int),(0:Int),(0:Int),(0:Int),(0:Int),(0:Int),(0:Int),(0:Int),(0:Int),(0:Int),(0:Int),(0:Int),(0:Int),(0:Int),(0:Int),(0:Int),(0:Int),(0:Int),(0:Int),(0:Int),(0:Int),(0:Int),(0:Int),(0:Int)],[(2:Int),(0:Int),(0:Int),(0:Int),(0:Int),(0:Int),(0:Int),(0:Int),(0:Int),(0:Int),(0:Int),(0:Int),(0:Int),(0:Int),(0:Int),(0:Int),(0:Int),(0:Int),(0:Int),(0:Int),(0:Int),(0:Int),(0:Int),(0:Int),(0:Int),(0:Int),(0:Int),(0:Int),(0:Int),(0:Int),(0:Int),(0:Int)]],((0:Int),((20000:Int),((0:Int),((0:Int),([((0:Int),((999:Int),((49:Int),((6:Int),()))))],((3:Int),((List.replicate 32 (0:Int)),()))))))))) λx1=>
  aJ (decide (1 < (List.length x1.1.2.2.1))) (
  ah (jG.call (nth qo x1.1.2.2.1 1).2.1) λx2=>
  aJ (decide (1 < (List.length x1.2.1))) (
  ah (fk.call (x1.1,(nth rU x1.2.1 1),(1:Int),x1.2.2,[(9:Int),(0:Int),(0:Int),(0:Int),(0:Int),(0:Int),(0:Int),(0:Int),(0:Int),(0:Int),(0:Int),(0:Int),(0:Int),(0:Int),(0:Int),(0:Int),(0:Int),(0:Int),(0:Int),(0:Int),(0:Int),(0:Int),(0:Int),(0:Int),(0:Int),(0:Int),(0:Int),(0:Int),(0:Int),(0:Int),(0:Int),(0:Int)],x2,(2:Int))) λx3=>
  aJ (decide (1 < (List.length x1.2.1))) (
  ah (cK.call (x1.1,(nth rU x1.2.1 1),(1:Int),x1.2.2,[(9:Int),(0:Int),(0:Int),(0:Int),(0:Int),(0:Int),(0:Int),(0:Int),(0:Int),(0:Int),(0:Int),(0:Int),(0:Int),(0:Int),(0:Int),(0:Int),(0:Int),(0:Int),(0:Int),(0:Int),(0:Int),(0:Int),(0:Int),(0:Int),(0:Int),(0:Int),(0:Int),(0:Int),(0:Int),(0:Int),(0:Int),(0:Int)],x2,(30:Int))) λx4=>
  aJ (decide (0 < (List.length x1.2.1))) (
  ah (fk.call (x1.1,(nth rU x1.2.1 0),(1:Int),x1.2.2,[(9:Int),(0:Int),(0:Int),(0:Int),(0:Int),(0:Int),(0:Int),(0:Int),(0:Int),(0:Int),(0:Int),(0:Int),(0:Int),(0:Int),(0:Int),(0:Int),(0:Int),(0:Int),(0:Int),(0:Int),(0:Int),(0:Int),(0:Int),(0:Int),(0:Int),(0:Int),(0:Int),(0:Int),(0:Int),(0:Int),(0:Int),(0:Int)],x2,(2:Int))) λx5=>
  aJ (decide (1 < (List.length x1.2.1))) (
  ah (fk.call (x1.1,(nth rU x1.2.1 1),(1:Int),((0:Int),((List.replicate 2 (0:Int)),(([]:List jj),((0:Int),())))),[(9:Int),(0:Int),(0:Int),(0:Int),(0:Int),(0:Int),(0:Int),(0:Int),(0:Int),(0:Int),(0:Int),(0:Int),(0:Int),(0:Int),(0:Int),(0:Int),(0:Int),(0:Int),(0:Int),(0:Int),(0:Int),(0:Int),(0:Int),(0:Int),(0:Int),(0:Int),(0:Int),(0:Int),(0:Int),(0:Int),(0:Int),(0:Int)],x2,(2:Int))) λx6=>
  aJ (decide (1 < (List.length x1.2.1))) (
  ah (fk.call (x1.1,(nth rU x1.2.1 1),(1:Int),x1.2.2,[(9:Int),(0:Int),(0:Int),(0:Int),(0:Int),(0:Int),(0:Int),(0:Int),(0:Int),(0:Int),(0:Int),(0:Int),(0:Int),(0:Int),(0:Int),(0:Int),(0:Int),(0:Int),(0:Int),(0:Int),(0:Int),(0:Int),(0:Int),(0:Int),(0:Int),(0:Int),(0:Int),(0:Int),(0:Int),(0:Int),(0:Int),(0:Int)],x2,(1000:Int))) λx7=>
  aJ (decide (1 < (List.length x1.2.1))) (
  ah (fk.call (x1.1,(nth rU x1.2.1 1),(1:Int),x1.2.2,[(9:Int),(0:Int),(0:Int),(0:Int),(0:Int),(0:Int),(0:Int),(0:Int),(0:Int),(0:Int),(0:Int),(0:Int),(0:Int),(0:Int),(0:Int),(0:Int),(0:Int),(0:Int),(0:Int),(0:Int),(0:Int),(0:Int),(0:Int),(0:Int),(0:Int),(0:Int),(0:Int),(0:Int),(0:Int),(0:Int),(0:Int),(0:Int)],(([]:List ov),()),(2:Int))) λx8=>
  aJ (decide (0 < (List.length x1.2.1))) (
  ah (fk.call (x1.1,(nth rU x1.2.1 0),(0:Int),x1.2.2,[(9:Int),(0:Int),(0:Int),(0:Int),(0:Int),(0:Int),(0:Int),(0:Int),(0:Int),(0:Int),(0:Int),(0:Int),(0:Int),(0:Int),(0:Int),(0:Int),(0:Int),(0:Int),(0:Int),(0:Int),(0:Int),(0:Int),(0:Int),(0:Int),(0:Int),(0:Int),(0:Int),(0:Int),(0:Int),(0:Int),(0:Int),(0:Int)],x2,(2:Int))) λx9=>
  aJ ((tc (((List.length x3.1.1):Nat):Int) (2:Int))) (
   k (dq.out false)) (
   aJ ((tc (((List.length x3.1.2.1):Nat):Int) (1:Int))) (
    k (dq.out false)) (
    aJ ((tc (((List.length x4.1):Nat):Int) (1:Int))) (
     k (dq.out false)) (
     aJ ((tc (((List.length x9.1.1):Nat):Int) (2:Int))) (
      k (dq.out false)) (
      aJ ((mV x3.2 (0:Int))) (
       aJ ((mV x4.2 (0:Int))) (
        aJ ((mV x5.2 (1:Int))) (
         aJ ((mV x6.2 (14:Int))) (
          aJ ((mV x7.2 (8:Int))) (
           aJ ((mV x8.2 (1:Int))) (
            aJ ((mV x9.2 (0:Int))) (
             aJ (fB (0:Int) (((List.length x3.1.2.1):Nat):Int)) (
             aJ ((mV (nth lH x3.1.2.1 0).1 (19232:Int))) (
              ah (bu.call x3.1) λBi=>
              aJ ((mV Bi (54:Int))) (
               aJ (fB (0:Int) (((List.length x4.1):Nat):Int)) (
               aJ ((mV (((List.length (nth lS x4.1 0).2.1):Nat):Int) (1:Int))) (
                aJ (fB (0:Int) (((List.length x4.1):Nat):Int)) (
                aJ (fB (0:Int) (((List.length (nth lS x4.1 0).2.1):Nat):Int)) (
                aJ ((mV (nth lH (nth lS x4.1 0).2.1 0).1 (17260:Int))) (
                 ah (fF.call (x1.1,(1:Int),x1.2.2,(2:Int))) λBD=>
                 aJ ((mV BD (19232:Int))) (
                  ah (fF.call (x1.1,(1:Int),x1.2.2,(1000:Int))) λDk=>
                  aJ ((mV Dk (0:Int))) (
                   ah (fF.call (x1.1,(2:Int),x1.2.2,(2:Int))) λPS=>
                   k (dq.out (mV PS (0:Int)))) (
                   k (dq.out false))) (
                  k (dq.out false))) (
                 k (dq.out false))) none) none) (
                k (dq.out false))) none) (
               k (dq.out false))) (
              k (dq.out false))) none) (
             k (dq.out false))) (
            k (dq.out false))) (
           k (dq.out false))) (
          k (dq.out false))) (
         k (dq.out false))) (
        k (dq.out false))) (
       k (dq.out false))))))) none) none) none) none) none) none) none) none:=by kernel_rfl
theorem dq.ok:dq.Ok:=by
 rintro⟨⟩ _
 have c1:=aN.c NI
 rw[RJ,Sb]at c1
 have c2:jG.call (nth qo kK.2.2.1 1).2.1=some sQ:=jG.run (d:=(nth qo kK.2.2.1 1).2.1) trivial
 have ku:EU zO:=vW _
 have ka:EU DH:=vW _
 have hb:Ty.beq qo (uw zO) (nm kK 1)=true:=Ms _
 have ha:Ty.beq qo (uw DH) (nm kK 0)=true:=Ms _
 obtain⟨t1,a1,a2,a3,a4,a5,a6⟩:=Od (own:=1 - 1) (per:=l5 AV) (.inl rfl) ⟨NT,NW _ _⟩ (IU QE) rfl
 obtain⟨t2,b1,b2⟩:=QW (own:=1 - 1) (per:=l5 AV) (.inl rfl) ⟨NT,NW _ _⟩ (IU QE)
 obtain⟨t3,d1,d2,d3,d4,d5,d6⟩:=Od (own:=1 - 0) (per:=l5 AV) (.inr rfl) ⟨RZ,NW _ _⟩ (IU R1) rfl
 have c3:fk.call (kK,zO,1,vj,AV,sQ,2)=some (t1,0):=by
  rw[fk.c qA ku y4 xU wx,IS (.inr rfl) hb (by decide)]
  exact congrArg some a1
 have c4:cK.call (kK,zO,1,vj,AV,sQ,30)=some ([t2],0):=by
  rw[cK.c qA ku y4 xU wx]
  unfold Eh
  rw[JL (.inr rfl) hb (by decide)]
  exact congrArg (λz=>some (z,(0:Int))) b1
 have c5:fk.call (kK,DH,1,vj,AV,sQ,2)=some (QI,1):=by
  rw[fk.c qA ka y4 xU wx]
  unfold vd kV CB
  rw[Oj,lC,lC,lC]
  rfl
 have zu:ur Ov:=⟨λc hc=>(by cases hc),bm _,rfl⟩
 have c6:fk.call (kK,zO,1,Ov,AV,sQ,2)=some (QI,14):=by
  have e:nw kK Ov (1 - 1) (l5 AV)=(WE,14):=by
   unfold nw
   rw[aM (.inl rfl),Ua,if_pos (show(true && true)=true from rfl),if_neg (by rw[show xX kK Ov=false from rfl];decide)]
  rw[fk.c qA ku zu xU wx]
  unfold vd kV
  rw[if_pos (Qp (.inr rfl) hb (by decide)),e]
  rfl
 have c7:fk.call (kK,zO,1,vj,AV,sQ,1000)=some (QI,8):=by
  rw[fk.c qA ku y4 xU wx,IS (.inr rfl) hb (by decide)]
  have h:=PC (own:=1 - 1) (per:=l5 AV) (rev:=sm zO.2.2.2.2.1 AV) (pay:=zO.2.1) (.inl rfl)
  unfold mc
  rw[l8,h.1,h.2]
  rfl
 have c8:fk.call (kK,zO,1,vj,AV,(([]:List ov),()),2)=some (QI,1):=by
  rw[fk.c qA ku y4 xU ⟨λb hb=>(by cases hb),bm _⟩]
  unfold vd kV CB
  rw[show lj (([]:List ov),())=false from rfl,fN,lC,lC]
  rfl
 have c9:fk.call (kK,DH,0,vj,AV,sQ,2)=some (t3,0):=by
  rw[fk.c qA ka y4 xU wx,IS (.inl rfl) ha (by decide)]
  exact congrArg some d1
 have c10:bu.call t1=some 54:=by
  rw[bu.run (d:=t1) a3]
  exact congrArg some a6
 have c11:fF.call (kK,1,vj,2)=some 19232:=by
  rw[fF.c qA y4,MR (by decide)]
  rfl
 have c12:fF.call (kK,1,vj,1000)=some 0:=by
  rw[fF.c qA y4,MR (by decide)]
  rfl
 have c13:fF.call (kK,2,vj,2)=some 0:=by
  rw[fF.c qA y4]
  rfl
 rw[show so NH=kK from rfl]at c1
 have l1:t1.2.1=[(19232,(sQ,()))]:=congrArg (λz:List kI×(Int×Unit)=>z.1) a4
 have l2:t2.2.1=[(17260,(sQ,()))]:=congrArg (λz:List kI×(Int×Unit)=>z.1) b2
 rw[dq.eq]
 refine(congrArg (λz=>ah z _) c1).trans ?_
 rw[ab,aM (show 1 < kK.2.2.1.length from Nat.lt_succ_self 1),ae]
 refine(congrArg (λz=>ah z _) c2).trans ?_
 rw[ab,aM (show 1 < ([DH,zO]:List pE).length from Nat.lt_succ_self 1),ae]
 refine(congrArg (λz=>ah z _) c3).trans ?_
 rw[ab,ae]
 refine(congrArg (λz=>ah z _) c4).trans ?_
 rw[ab,aM (show 0 < ([DH,zO]:List pE).length from mj 1),ae]
 refine(congrArg (λz=>ah z _) c5).trans ?_
 rw[ab,ae]
 refine(congrArg (λz=>ah z _) c6).trans ?_
 rw[ab,ae]
 refine(congrArg (λz=>ah z _) c7).trans ?_
 rw[ab,ae]
 refine(congrArg (λz=>ah z _) c8).trans ?_
 rw[ab,ae]
 refine(congrArg (λz=>ah z _) c9).trans ?_
 rw[ab]
 have n1:(nth lS [t2] 0).2.1=[(17260,(sQ,()))]:=l2
 simp only[a5,d5,l1,n1,aO,bM]
 rw[c10,c11,c12,c13]
 rfl
def dq.E:=Entry.dp [] dq.st dq.az dq.add dq.F dq.out
def dq.call:dq.D->Option dq.X:=bX dq.E dq.st
theorem dq.run:b8 dq.call dq.az dq.add dq.F:=dv (du [] λ_=>by kernel_rfl)
def dq.sg:SG Tryz.prog:=⟨7,aP,dq.E,.fn 0 (by kernel_rfl) dq.ok trivial⟩
end
end Go.Ab
namespace Go.Ab
open Go.Proofs
def Xt(o:iF):Prop:=o.1.length=32/\∀x∈o.1,0<=x/\x < 256
theorem v7{β:Type}{kt:Ty}(hc:kt.comp=true){x:kt.den}{v:β}:∀ {l:List (kt.den×β)},x ∉ l.map (·.1)->lv kt x v l=l++ [(x,v)]
 |[],_=>rfl
 |p::l,h=>by
  rw[uQ]
  have h1:¬kt.beq x p.1=true:=λe=>h (by rw[beq_eq kt _ _ hc e];simp)
  rw[if_neg h1,v7 hc λe=>h (by simp[e])]
  rfl
theorem l6:ir.comp=true:=rfl
def vm(l:List (iF×nA)):Int:=(l.map λp=>p.2.1.1).sum
theorem qy(p:iF×nA)(l:List (iF×nA)):vm (p::l)=p.2.1.1+vm l:=by simp[vm]
theorem Gf(l l':List (iF×nA)):vm (l++l')=vm l+vm l':=by simp[vm]
theorem KF{l l':List (iF×nA)}(h:l.Perm l'):vm l=vm l':=by
 induction h with
 |nil=>rfl
 |cons x _ ih=>rw[qy,qy,ih]
 |swap x y l=>rw[qy,qy,qy,qy];omega
 |trans _ _ h1 h2=>rw[h1,h2]
abbrev eJ.L0.D:=kI×Nat×Nat×Int×Int×Int×(List ov)
def eJ.L0.st:eJ.L0.D->AS:=λ(Qx,lL,LO,t11,t12,n2,n9)=>⟨([.undef,.gE lH Qx,.ptr (.new 2 0) 0 [] 0,.di (.new 9 0) 0 [] 0 0 lL]++bG 6 ([.di (.new 9 0) 0 [] 0 0 LO,.d ti t11,.d ti t12]++bG 17 [])),[],([[],[],[.obj 0 false (.pr (.d ti n2) (.pr (.pr (.eU) (.d .unit ())) (.d .unit ())))]]++dh 6 ([[.obj 0 false (.vec 58 mC n9)]]++dh 20 []))⟩
abbrev eJ.L0.Y0:=(List ov)×(List ov)
abbrev eJ.L0.X0:=(kI×Int)×((List ov)×(List ov))
def eJ.L0.bY:eJ.L0.X0->Exit×AS:=λx=>(.exit 0,⟨([.undef,.gE lH x.1.1,.ptr (.new 2 0) 0 [] 0,.d (.slice mC) x.2.1]++bG 26 []),[],([[],[],[.obj 0 false (.pr (.d ti x.1.2) (.pr (.pr (.eU) (.d .unit ())) (.d .unit ())))]]++dh 6 ([[.obj 0 true (.vec 58 mC x.2.2)]]++dh 20 []))⟩)
abbrev eJ.L0.X:=eJ.L0.X0
abbrev eJ.L0.Y:=eJ.L0.Y0
def eJ.L0.out:eJ.L0.X->Out (Exit×AS):=λx=> .ok (eJ.L0.bY x)
def eJ.L0.add:eJ.L0.D->eJ.L0.Y->eJ.L0.X:=λ(Qx,lL,LO,t11,t12,n2,n9) y=>((Qx,n2),y)
abbrev eJ.D:=kI
def eJ.st:eJ.D->SA:=λo=>([.d lH o],[])
abbrev eJ.Y:=kI
abbrev eJ.X:=kI
def eJ.out:eJ.X->aX:=λx=>⟨.d lH x,[],[]⟩
def eJ.add:eJ.D->eJ.Y->eJ.X:=λo y=>y
def UR(l:Lk):Prop:=l.1.length<=1000/\∀b∈l.1,b.1.length<=1000000
def eJ.L0.az:eJ.L0.D->Prop:=λ(_,n,m,t,i,_,l)=>(l.length<=1000/\∀b∈l,b.1.length<=1000000)/\∃k:Nat,k<=l.length/\i=k/\n=l.length/\m=l.length/\t=l.length
def eJ.L0.F:eJ.L0.D->eJ.L0.Y:=λ(_,_,_,_,_,_,l)=>(l,l)
def eJ.az:eJ.D->Prop:=λo=>UR o.2.1
def eJ.F:eJ.D->eJ.Y:=λo=>o
def eJ.G:fD:=gr (P:=Tryz.prog) [iZ.sg,dV.sg]
def eJ.L0.E:=cU.dp eJ.L0.st eJ.L0.az eJ.L0.add eJ.L0.F eJ.L0.out
def eJ.L0.call:eJ.L0.D->Option eJ.L0.X:=eI eJ.L0.E eJ.L0.st
def eJ.an:fR:= {loops:=om [(3,{bO:=[1,2,3,10,11,12],sites:=[2,9]})],outs:=oh [(3,{bO:=[1,2,3],sites:=[2,9],data:=[(3,(.slice mC))]},{bO:=[2]})],jo:=pb [(3,eJ.L0.E)],res:=[some lH]}
def eJ.A:= @dm Tryz.prog eJ.G eJ.an 0 Tryz.f56 _ eJ.st
abbrev eJ.Ok:=dn @eJ.A eJ.az eJ.add eJ.F eJ.out
def eJ.L0.R:= @dr Tryz.prog eJ.G eJ.an 0 Tryz.f56 0 _ eJ.L0.st
abbrev eJ.L0.Ok:=gz Tryz.prog eJ.G eJ.an 0 Tryz.f56 0 eJ.L0.st eJ.L0.az eJ.L0.add eJ.L0.F eJ.L0.out
theorem eJ.L0.run:b8 eJ.L0.call eJ.L0.az eJ.L0.add eJ.L0.F:=gR (gJ [.d lH,.n,.n,.d ti,.d ti,.d ti,.d (.slice mC)] λ_=>by kernel_rfl)
theorem eJ.L0.aI:jl @eJ.L0.R eJ.L0.st eJ.L0.az eJ.L0.add eJ.L0.F eJ.L0.bY eJ.L0.Ok:=js
theorem eJ.L0.step{R:Type}(Qx:kI)(lL:Nat)(LO:Nat)(t11:Int)(t12:Int)(n2:Int)(n9:(List ov))(kn:AS->Option R)(kx:Exit->AS->Option R):eJ.L0.R (Qx,lL,LO,t11,t12,n2,n9) kn kx=
  aJ ((jM t12 t11)) (
   aJ (fB t12 ((LO:Nat):Int)) (
   aJ (decide ((0+(Int.toNat t12)) < (List.length n9))) (
   aJ (decide ((((0+(Int.toNat t12))*4)+0)=(0+((Int.toNat t12)*4)))) (
   ah (dV.call (nth mC n9 (0+(Int.toNat t12))).1) λx1=>
   aJ (fB t12 ((lL:Nat):Int)) (
   aJ (decide ((0+(Int.toNat t12)) < (List.length n9))) (
   aJ (decide ((((0+(Int.toNat t12))*4)+0)=((0+((Int.toNat t12)*4))+0))) (
   aJ (decide ((0+(Int.toNat t12)) < (List.length n9))) (
   kn (eJ.L0.st (Qx,lL,LO,t11,(bV .i64 t12 (1:Int)),n2,(List.set n9 (0+(Int.toNat t12)) (x1,(nth mC n9 (0+(Int.toNat t12))).2))))) none) none) none) none) none) none) none) (
   aJ (decide (0=0/\(0+lL)<=(List.length n9))) (
   kx (eJ.L0.bY ((Qx,n2),((cut n9 0 lL),n9))).1 (eJ.L0.bY ((Qx,n2),((cut n9 0 lL),n9))).2) none):=by kernel_rfl
theorem eJ.eq{R:Type}(o:kI)(k:aX->Option R):eJ.A o k=
 ah (iZ.call o.2.1.1) λx1=>
 ah (eJ.L0.call (o,x1.1,x1.1,((x1.1:Nat):Int),(0:Int),(0:Int),x1.2)) λx3=>
 k (eJ.out (x3.1.1.1,((x3.2.1,()),()))):=by kernel_rfl
theorem eJ.L0.ok:eJ.L0.Ok:=by
 refine eJ.L0.aI (λ(_,_,_,_,i,_,l)=>l.length - i.toNat) ?_
 rintro⟨o,n,m,t,i,u,l⟩ ⟨⟨hlen,hx⟩,k,hk,rfl,rfl,rfl,rfl⟩
 have hlen:l.length<=1000:=hlen
 have hk:k<=l.length:=hk
 by_cases h:k < l.length
 ·left
  have n1:nth mC l k=l[k]:=dQ (t:=mC) h
  have hs:l.set k l[k]=l:=gu h
  have e:=hx _ (List.getElem_mem h)
  refine⟨(o,l.length,l.length,(l.length:Int),((k+1:Nat):Int),u,l),⟨⟨hlen,hx⟩,k+1,by omega,rfl,rfl,rfl,rfl⟩,by simp only[aa];omega,rfl,λkn kx=> ?_⟩
  rw[eJ.L0.step,bI (by omega),bF (by omega) (by omega)]
  simp only[aa,bl,dR,ae,aM h,decide_true,n1]
  rw[dV.run (d:=l[k].1) e]
  simp only[ab,dV.add,dV.F]
  rw[N.pF (by omega)]
  exact congrArg (λz=>kn (eJ.L0.st (_,_,_,_,_,_,z))) hs
 ·right
  obtain rfl:k=l.length:=by omega
  intro R kn kx
  rw[eJ.L0.step,bp (by omega),ai,aM (by omega),ae,jf rfl]
  rfl
theorem eJ.ok:eJ.Ok:=by
 rintro⟨a,⟨l,u⟩,v⟩ ⟨h1,h2⟩
 have h1:l.length<=1000:=h1
 rw[eJ.eq,iZ.run (d:=l) (by show l.length<=_;omega)]
 simp only[ab,iZ.add,iZ.F]
 rw[eJ.L0.run (d:=((a,(l,u),v),l.length,l.length,(l.length:Int),0,0,l)) ⟨⟨h1,h2⟩,0,bm _,rfl,rfl,rfl,rfl⟩]
 rfl
def eJ.E:=Entry.dp [some lH] eJ.st eJ.az eJ.add eJ.F eJ.out
def eJ.call:eJ.D->Option eJ.X:=bX eJ.E eJ.st
theorem eJ.run:b8 eJ.call eJ.az eJ.add eJ.F:=dv (du [.d lH] λ_=>by kernel_rfl)
def eJ.sg:SG Tryz.prog:=⟨56,aP,eJ.E,.fn 1 (by kernel_rfl) eJ.ok (And.intro (.dp eJ.L0.ok (by kernel_rfl)) trivial)⟩
abbrev cn.L0.D:=Int×(List kI)×Int×Int×(List (iF×nA))
def cn.L0.st:cn.L0.D->AS:=λ(sum,t13,t14,t15,Bu)=>⟨([.undef,.undef,.undef,.ptr (.new 12 0) 0 [] 0,.d ti sum]++bG 8 ([.d (.slice lH) t13,.d ti t14,.d ti t15]++bG 35 [])),[],(dh 10 ([[.obj 0 false (.mp ir yj Bu)],[],[.obj 0 false (.pr (.lb (.new 10 0) 0) (.pr (.eU) (.d .unit ())))]]++dh 38 []))⟩
abbrev cn.L0.Y0:=Unit
abbrev cn.L0.X0:=Unit
def cn.L0.bY:cn.L0.X0->Exit×AS:=λx=>(.ret,⟨([.undef,.undef,.oX]++bG 48 []),[],(List.replicate 51 [])⟩)
abbrev cn.L0.Y1:=(List (iF×nA))
abbrev cn.L0.X1:=(List (iF×nA))
def cn.L0.ko:cn.L0.X1->Exit×AS:=λx=>(.exit 0,⟨([.undef,.undef,.undef,.ptr (.new 12 0) 0 [] 0]++bG 47 []),[],(dh 10 ([[.obj 0 false (.mp ir yj x)],[],[.obj 0 false (.pr (.lb (.new 10 0) 0) (.pr (.eU) (.d .unit ())))]]++dh 38 []))⟩)
abbrev cn.L0.X:=(cn.L0.X0)⊕(cn.L0.X1)
abbrev cn.L0.Y:=(cn.L0.Y0)⊕(cn.L0.Y1)
def cn.L0.out:cn.L0.X->Out (Exit×AS):=λx=> .br x.isLeft (.get x.getLeft? λa=> .ok (cn.L0.bY a)) (.get x.getRight? λb=> .ok (cn.L0.ko b))
def cn.L0.add:cn.L0.D->cn.L0.Y->cn.L0.X:=λ(sum,t13,t14,t15,Bu) y=>match y with | .inl y=> .inl y | .inr z=> .inr (z)
abbrev cn.D:=(List kI)
def cn.st:cn.D->SA:=λouts=>([.d (.slice lH) outs],[])
abbrev cn.Y:=(Unit)⊕((List (iF×nA))×(List nY))
abbrev cn.X:=(Unit)⊕((List (iF×nA))×(List nY))
def cn.out:cn.X->aX:=λx=>match x with | .inl x=>⟨.oX,[],[]⟩ | .inr x=>⟨.ptr (.new 0 0) 0 [] 0,[],[.obj 0 false (.pr (.lb (.new 0 1) 0) (.pr (.di (.new 0 2) 0 [] 0 0 0) (.d .unit ()))),.obj 0 false (.mp ir yj x.1),.obj 0 false (.vec 149 rB x.2)]⟩
def cn.add:cn.D->cn.Y->cn.X:=λouts y=>match y with | .inl y=> .inl y | .inr y=> .inr y
def JI(k:Nat)(o:kI):iF×nA:=((List.replicate 32 (0:Int),((k:Int),())),(o,((0:Int),())))
def xP(sum:Int)(o:kI):Bool:=lj o.2.1 && decide (0<=o.1/\o.1<=1125899906842624 - sum)
def FC(sum:Int)(k:Nat):List kI->Option (List (iF×nA))
 |[]=>some []
 |o::l=>match xP sum o with | true=>(FC (sum+o.1) (k+1) l).map (JI k o:: ·) | false=>none
def PA(outs:List kI):Option (List (iF×nA)):=if outs.length<=256 then FC 0 0 outs else none
def SQ(o:kI):Prop:=LX o.2.1/\o.2.1.1.length<=9223372036854775807/\o.1<=9223372036854775807
def cn.L0.az:cn.L0.D->Prop:=λ(sum,outs,n,i,a)=>(∀o∈outs,SQ o)/\outs.length<=256/\0<=sum/\sum<=1125899906842624/\∃k:Nat,k<=outs.length/\i=k/\n=outs.length/\∀p∈a,p.1.2.1 < (k:Int)
def cn.L0.F:cn.L0.D->cn.L0.Y:=λ(sum,outs,_,i,a)=>match FC sum i.toNat (outs.drop i.toNat) with | none=> .inl () | some r=> .inr (a++r)
def cn.az:cn.D->Prop:=λouts=>∀o∈outs,SQ o
def cn.F:cn.D->cn.Y:=λouts=>match PA outs with | none=> .inl () | some r=> .inr (r,[])
def cn.G:fD:=gr (P:=Tryz.prog) [bk.sg,eJ.sg]
def cn.L0.E:=cU.dp cn.L0.st cn.L0.az cn.L0.add cn.L0.F cn.L0.out
def cn.L0.call:cn.L0.D->Option cn.L0.X:=eI cn.L0.E cn.L0.st
def cn.an:fR:= {cZ:=[12],loops:=om [(5,{bO:=[3,4,13,14,15],sites:=[10,12]})],outs:=oh [(5,{bO:=[3],sites:=[10,12]},{bO:=[2]})],jo:=pb [(5,cn.L0.E)],nR:=[⟨2,[.snd,.fst],0,141⟩]}
def cn.A:= @dm Tryz.prog cn.G cn.an 0 Tryz.f46 _ cn.st
abbrev cn.Ok:=dn @cn.A cn.az cn.add cn.F cn.out
def cn.L0.R:= @dr Tryz.prog cn.G cn.an 0 Tryz.f46 0 _ cn.L0.st
abbrev cn.L0.Ok:=gz Tryz.prog cn.G cn.an 0 Tryz.f46 0 cn.L0.st cn.L0.az cn.L0.add cn.L0.F cn.L0.out
theorem cn.L0.run:b8 cn.L0.call cn.L0.az cn.L0.add cn.L0.F:=gR (gJ [.d ti,.d (.slice lH),.d ti,.d ti,.d (.slice (.pair ir yj))] λ_=>by kernel_rfl)
theorem cn.L0.aI:rV @cn.L0.R cn.L0.st cn.L0.az cn.L0.add cn.L0.F cn.L0.out cn.L0.Ok:=sy
theorem cn.L0.step{R:Type}(sum:Int)(t13:(List kI))(t14:Int)(t15:Int)(Bu:(List (iF×nA)))(kn:AS->Option R)(kx:Exit->AS->Option R):cn.L0.R (sum,t13,t14,t15,Bu) kn kx=
  aJ ((jM t15 t14)) (
   aJ (fB t15 (((List.length t13):Nat):Int)) (
   ah (bk.call (nth lH t13 (Int.toNat t15)).2.1) λx1=>
   aJ ((!x1)) (
    kx (cn.L0.bY ()).1 (cn.L0.bY ()).2) (
    aJ ((jM (nth lH t13 (Int.toNat t15)).1 (0:Int))) (
     kx (cn.L0.bY ()).1 (cn.L0.bY ()).2) (
     aJ ((sh (nth lH t13 (Int.toNat t15)).1 (cY .i64 (1125899906842624:Int) sum))) (
      kx (cn.L0.bY ()).1 (cn.L0.bY ()).2) (
      ah (eJ.call (nth lH t13 (Int.toNat t15))) λx2=>
      kn (cn.L0.st ((bV .i64 sum (nth lH t13 (Int.toNat t15)).1),t13,t14,(bV .i64 t15 (1:Int)),(lv ir ((List.replicate 32 (0:Int)),(t15,())) (x2,((0:Int),())) Bu))))))) none) (
   kx (cn.L0.ko Bu).1 (cn.L0.ko Bu).2):=by kernel_rfl
theorem cn.eq{R:Type}(outs:(List kI))(k:aX->Option R):cn.A outs k=
  aJ ((sh (((List.length outs):Nat):Int) (256:Int))) (
   k (cn.out (.inl ()))) (
   ah (cn.L0.call ((0:Int),outs,(((List.length outs):Nat):Int),(0:Int),([]:List (iF×nA)))) λx3=>
   aJ (x3.isLeft) (
    ah (x3.getLeft?) λa4=>
    k (cn.out (.inl ()))) (
    ah (x3.getRight?) λb5=>
    k (cn.out (.inr (b5,([]:List nY)))))):=by kernel_rfl
theorem cn.L0.ok:cn.L0.Ok:=by
 refine cn.L0.aI (λ(_,outs,_,i,_)=>outs.length - i.toNat) ?_
 rintro⟨sum,outs,n,i,a⟩ ⟨hg,hl,h0,h1,k,hk,rfl,rfl,hf⟩
 have h0:0<=sum:=h0
 have h1:sum<=1125899906842624:=h1
 have hl:outs.length<=256:=hl
 have hk:k<=outs.length:=hk
 by_cases h:k < outs.length
 ·obtain⟨g1,g2,g3⟩:=hg _ (List.getElem_mem h)
  have n1:nth lH outs k=outs[k]:=dQ (t:=lH) h
  have hd:outs.drop k=outs[k]::outs.drop (k+1):=av h
  have hs:∀ {R:Type} (kn:AS->Option R) (kx:Exit->AS->Option R),cn.L0.R (sum,outs,(outs.length:Int),(k:Int),a) kn kx=
    aJ (!(lj outs[k].2.1)) (kx (cn.L0.bY ()).1 (cn.L0.bY ()).2) (aJ (jM outs[k].1 0) (kx (cn.L0.bY ()).1 (cn.L0.bY ()).2) (aJ (sh outs[k].1 (1125899906842624 - sum)) (kx (cn.L0.bY ()).1 (cn.L0.bY ()).2)
     (ah (eJ.call outs[k]) λx2=>kn (cn.L0.st ((bV .i64 sum outs[k].1),outs,(outs.length:Int),(bV .i64 (k:Int) (1:Int)),(lv ir ((List.replicate 32 (0:Int)),((k:Int),())) (x2,((0:Int),())) a)))))):=λkn kx=>by
   rw[cn.L0.step,bI (by omega),ae,bF (by omega) (by omega),ae,aa,n1,bk.run (d:=outs[k].2.1) ⟨g1,g2⟩,gQ (by omega) (by omega)]
   rfl
  by_cases kA:xP sum outs[k]=true
  ·left
   have hok':=kA
   unfold xP at hok'
   simp only[ak,decide_eq_true_eq]at hok'
   obtain⟨k1,k2,k3⟩:=hok'
   have L4:=zR k1
   refine⟨(sum+outs[k].1,outs,(outs.length:Int),((k+1:Nat):Int),a++ [JI k outs[k]]),⟨hg,hl,by show 0<=sum+outs[k].1;omega,by show sum+outs[k].1<=_;omega,k+1,by omega,rfl,rfl,λp hp=> ?_⟩,by simp only[aa];omega,?_,λkn kx=> ?_⟩
   ·rcases cf.1 hp with hp | hp
    ·have:=hf p hp;omega
    ·rw[aU.1 hp];show(k:Int) < _;omega
   ·simp only[cn.L0.add,cn.L0.F,aa,hd,FC,kA]
    cases FC (sum+outs[k].1) (k+1) (outs.drop (k+1)) with
    |none=>rfl
    |some r=>simp only[jc,bR,fp]
   ·rw[hs,k1,bZ,ai,bp (by omega),ai,dY (by omega),ai,eJ.run (d:=outs[k]) ⟨by omega,λb hb=>by have:=L4.2 b hb;omega⟩]
    simp only[ab,eJ.add,eJ.F]
    rw[ff (by omega) (by omega),N.pF (by omega),v7 l6]
    ·rfl
    ·intro hm
     obtain⟨p,hp,he⟩:=eD.1 hm
     have:=hf p hp
     have he:p.1=_:=he
     rw[he]at this
     have this:(k:Int) < k:=this
     omega
  ·right
   have Ph:xP sum outs[k]=false:=by simpa using kA
   refine⟨cn.L0.bY (),?_,λkn kx=> ?_⟩
   rotate_left
   ·rw[hs]
    unfold xP at Ph
    cases k1:lj outs[k].2.1 with
    |false=>rw[gm,ae]
    |true=>
     rw[k1]at Ph
     simp only[cr,decide_eq_false_iff_not]at Ph
     rw[bZ,ai]
     by_cases k2:outs[k].1 < 0
     ·rw[bI k2,ae]
     ·rw[bp k2,ai,fE (by omega),ae]
   ·simp only[cn.L0.add,cn.L0.F,aa,hd,FC,Ph]
    rfl
 ·right
  obtain rfl:k=outs.length:=by omega
  refine⟨cn.L0.ko a,?_,λkn kx=> ?_⟩
  rotate_left
  ·rw[cn.L0.step,bp (by omega),ai]
  ·simp only[cn.L0.add,cn.L0.F,aa,bB,FC,dg]
   rfl
theorem cn.ok:cn.Ok:=by
 intro outs hg
 rw[cn.eq]
 simp only[cn.add,cn.F,PA]
 by_cases h:outs.length<=256
 ·rw[dY (by omega),ai,cn.L0.run (d:=(0,outs,(outs.length:Int),0,[])) ⟨hg,h,by decide,by decide,0,bm _,rfl,rfl,λp hp=>by cases hp⟩,if_pos h]
  simp only[ab,cn.L0.add,cn.L0.F,bH,aW]
  cases FC 0 0 outs with
  |none=>rfl
  |some r=>rfl
 ·rw[fE (by omega),ae,if_neg h]
def cn.E:=Entry.Pu [some (.slice lH)] cn.st cn.az cn.add cn.F cn.out
def cn.call:cn.D->Option cn.X:=bX cn.E cn.st
theorem cn.run:b8 cn.call cn.az cn.add cn.F:=QC (du [.d (.slice lH)] λ_=>by kernel_rfl)
def cn.sg:SG Tryz.prog:=⟨46,aP,cn.E,.Xj (.fn 1 (by kernel_rfl) cn.ok (And.intro (.dp cn.L0.ok (by kernel_rfl)) trivial))⟩
def Uo(c:nA):Prop:=lj c.1.2.1=true/\LX c.1.2.1/\0<=c.1.1/\c.1.1<=1125899906842624/\0<=c.2.1/\c.2.1<=1048576
def Mh(a:List (iF×nA)):Prop:=(a.map (·.1)).Nodup/\∀p∈a,Xt p.1/\Uo p.2
theorem Mh.get{a:List (iF×nA)}(h:Mh a){o:iF}{c:nA}(hg:fv ir o a=some c):Uo c:=(h.2 _ ((mq l6 h.1).1 hg)).2
def Ow:nA:=((0,(([],()),())),(0,()))
theorem Uo.own{c:nA}(h:Uo c):UR c.1.2.1:=by
 have:=zR h.1
 exact⟨by omega,λb hb=>by have:=this.2 b hb;omega⟩
abbrev aK.L0.D:=Int×je×Int×(List kX)×Int×Int×Nat×(List (iF×nA))×(List nY)×Bs
def aK.L0.st:aK.L0.D->AS:=λ(kZ,wu,mU,t35,t36,t37,o0L,oq,s5,n8)=>⟨([.ptr (.ew 0) 0 [] 0,.undef,.d ti kZ,.undef,.gE lS wu,.undef,.undef,.undef,.ptr (.new 8 0) 0 [] 0,.d ti mU]++bG 25 ([.d (.slice kW) t35,.d ti t36,.d ti t37]++bG 69 [])),[.obj 0 false (.pr (.lb (.ew 1) 0) (.pr (.di (.ew 2) 0 [] 0 0 o0L) (.d .unit ()))),.obj 0 false (.mp ir yj oq),.obj 0 false (.vec 149 rB s5)],(dh 8 ([[.obj 0 false (.d tH n8)]]++dh 98 []))⟩
abbrev aK.L0.Y0:=Int
abbrev aK.L0.X0:=(Nat×(List (iF×nA))×(List nY))×(Int)
def aK.L0.bY:aK.L0.X0->Exit×AS:=λx=>(.ret,⟨(bG 6 ([.d ti (0:Int),.d ti x.2]++bG 99 [])),[.obj 0 false (.pr (.lb (.ew 1) 0) (.pr (.di (.ew 2) 0 [] 0 0 x.1.1) (.d .unit ()))),.obj 0 false (.mp ir yj x.1.2.1),.obj 0 false (.vec 149 rB x.1.2.2)],(List.replicate 107 [])⟩)
abbrev aK.L0.Y1:=Int
abbrev aK.L0.X1:=(je×Nat×(List (iF×nA))×(List nY))×(Int)
def aK.L0.ko:aK.L0.X1->Exit×AS:=λx=>(.exit 0,⟨([.ptr (.ew 0) 0 [] 0,.undef,.undef,.undef,.gE lS x.1.1]++bG 4 ([.d ti x.2]++bG 97 [])),[.obj 0 false (.pr (.lb (.ew 1) 0) (.pr (.di (.ew 2) 0 [] 0 0 x.1.2.1) (.d .unit ()))),.obj 0 false (.mp ir yj x.1.2.2.1),.obj 0 false (.vec 149 rB x.1.2.2.2)],(List.replicate 107 [])⟩)
abbrev aK.L0.X:=(aK.L0.X0)⊕(aK.L0.X1)
abbrev aK.L0.Y:=(aK.L0.Y0)⊕(aK.L0.Y1)
def aK.L0.out:aK.L0.X->Out (Exit×AS):=λx=> .br x.isLeft (.get x.getLeft? λa=> .ok (aK.L0.bY a)) (.get x.getRight? λb=> .ok (aK.L0.ko b))
def aK.L0.add:aK.L0.D->aK.L0.Y->aK.L0.X:=λ(kZ,wu,mU,t35,t36,t37,o0L,oq,s5,n8) y=>match y with | .inl y=> .inl ((o0L,oq,s5),y) | .inr z=> .inr (((wu,o0L,oq,s5),z))
abbrev aK.L1.D:=je×Int×(List iF)×Int×Int×Nat×(List (iF×nA))×(List nY)
def aK.L1.st:aK.L1.D->AS:=λ(Bh,As,t75,t76,t77,pL,uf,ug)=>⟨([.ptr (.ew 0) 0 [] 0,.undef,.undef,.undef,.gE lS Bh]++bG 4 ([.d ti As]++bG 65 ([.d (.slice ir) t75,.d ti t76,.d ti t77]++bG 29 []))),[.obj 0 false (.pr (.lb (.ew 1) 0) (.pr (.di (.ew 2) 0 [] 0 0 pL) (.d .unit ()))),.obj 0 false (.mp ir yj uf),.obj 0 false (.vec 149 rB ug)],(List.replicate 107 [])⟩
abbrev aK.L1.Y0:=Unit
abbrev aK.L1.X0:=Nat×(List (iF×nA))×(List nY)
def aK.L1.bY:aK.L1.X0->Exit×AS:=λx=>(.ret,⟨(bG 6 ([.d ti (0:Int),.d ti (4:Int)]++bG 99 [])),[.obj 0 false (.pr (.lb (.ew 1) 0) (.pr (.di (.ew 2) 0 [] 0 0 x.1) (.d .unit ()))),.obj 0 false (.mp ir yj x.2.1),.obj 0 false (.vec 149 rB x.2.2)],(List.replicate 107 [])⟩)
abbrev aK.L1.Y1:=Unit
abbrev aK.L1.X1:=je×Int×Nat×(List (iF×nA))×(List nY)
def aK.L1.ko:aK.L1.X1->Exit×AS:=λx=>(.exit 2,⟨(bG 4 ([.gE lS x.1]++bG 4 ([.d ti x.2.1]++bG 97 []))),[.obj 0 false (.pr (.lb (.ew 1) 0) (.pr (.di (.ew 2) 0 [] 0 0 x.2.2.1) (.d .unit ()))),.obj 0 false (.mp ir yj x.2.2.2.1),.obj 0 false (.vec 149 rB x.2.2.2.2)],(List.replicate 107 [])⟩)
abbrev aK.L1.X:=(aK.L1.X0)⊕(aK.L1.X1)
abbrev aK.L1.Y:=(aK.L1.Y0)⊕(aK.L1.Y1)
def aK.L1.out:aK.L1.X->Out (Exit×AS):=λx=> .br x.isLeft (.get x.getLeft? λa=> .ok (aK.L1.bY a)) (.get x.getRight? λb=> .ok (aK.L1.ko b))
def aK.L1.add:aK.L1.D->aK.L1.Y->aK.L1.X:=λ(Bh,As,t75,t76,t77,pL,uf,ug) y=>match y with | .inl y=> .inl (pL,uf,ug) | .inr z=> .inr ((Bh,As,pL,uf,ug))
abbrev aK.L2.D:=Int×(List kI)×Int×Int×Nat×(List (iF×nA))×(List nY)
def aK.L2.st:aK.L2.D->AS:=λ(B0,t93,t94,t95,AO,Hn,Ho)=>⟨(bG 9 ([.d ti B0]++bG 83 ([.d (.slice lH) t93,.d ti t94,.d ti t95]++bG 11 []))),[.obj 0 false (.pr (.lb (.ew 1) 0) (.pr (.di (.ew 2) 0 [] 0 0 AO) (.d .unit ()))),.obj 0 false (.mp ir yj Hn),.obj 0 false (.vec 149 rB Ho)],(List.replicate 107 [])⟩
abbrev aK.L2.Y0:=Int
abbrev aK.L2.X0:=(Nat×(List (iF×nA))×(List nY))×(Int)
def aK.L2.bY:aK.L2.X0->Exit×AS:=λx=>(.exit 4,⟨(bG 9 ([.d ti x.2]++bG 97 [])),[.obj 0 false (.pr (.lb (.ew 1) 0) (.pr (.di (.ew 2) 0 [] 0 0 x.1.1) (.d .unit ()))),.obj 0 false (.mp ir yj x.1.2.1),.obj 0 false (.vec 149 rB x.1.2.2)],(List.replicate 107 [])⟩)
abbrev aK.L2.X:=aK.L2.X0
abbrev aK.L2.Y:=aK.L2.Y0
def aK.L2.out:aK.L2.X->Out (Exit×AS):=λx=> .ok (aK.L2.bY x)
def aK.L2.add:aK.L2.D->aK.L2.Y->aK.L2.X:=λ(B0,t93,t94,t95,AO,Hn,Ho) y=>((AO,Hn,Ho),y)
abbrev aK.D:=je×Int×Nat×(List (iF×nA))×(List nY)
def aK.st:aK.D->SA:=λ(t,height,o0baL,o1,o2)=>([.ptr (.ew 0) 0 [] 0,.d lS t,.d ti height],[.obj 0 false (.pr (.lb (.ew 1) 0) (.pr (.di (.ew 2) 0 [] 0 0 o0baL) (.d .unit ()))),.obj 0 false (.mp ir yj o1),.obj 0 false (.vec 149 rB o2)])
abbrev aK.Y:=Int×Int×Nat×(List (iF×nA))×(List nY)
abbrev aK.X:=Int×Int×Nat×(List (iF×nA))×(List nY)
def aK.out:aK.X->aX:=λx=>⟨.cons (.d ti x.1) (.cons (.d ti x.2.1) (.nil)),[.obj 0 false (.pr (.lb (.ew 1) 0) (.pr (.di (.ew 2) 0 [] 0 0 x.2.2.1) (.d .unit ()))),.obj 0 false (.mp ir yj x.2.2.2.1),.obj 0 false (.vec 149 rB x.2.2.2.2)],[]⟩
def aK.add:aK.D->aK.Y->aK.X:=λ(t,height,o0baL,o1,o2) y=>y
def rJ(h:Int)(id:List Int)(a:List (iF×nA)):List kX->Int->Int⊕Int
 |[],mU=> .inr mU
 |x::l,mU=>match fv ir x.1 a with
  |none=> .inl 5
  |some c=>if tl c.1.2.1 x.2.1 id h (h - c.2.1)≠0 then .inl (tl c.1.2.1 x.2.1 id h (h - c.2.1)) else rJ h id a l (mU+c.1.1)
def pa(a:List (iF×nA))(o:iF):Bool:=(fv ir o a).isSome
def l9(l:List kI):Int:=(l.map (·.1)).sum
def nI(t:je)(h:Int)(a:List (iF×nA)):Int×Int:=
 if j9 t=true/\1<=h/\h<=1048576 then
  match rJ h (oJ t) a t.1 0 with
  | .inl e=>(0,e)
  | .inr mU=>if(gV t).any (pa a)=true then(0,4) else if mU - l9 t.2.1 < 0 then(0,8) else(mU - l9 t.2.1,0)
 else(0,1)
def aK.L0.az:aK.L0.D->Prop:=λ(h,_,mU,l,n,i,_,a,_,id)=>(0<=h/\h<=1048576)/\Sm id/\l.length<=64/\(∀x∈l,WG x)/\Mh a/\∃k:Nat,k<=l.length/\i=k/\n=l.length/\0<=mU/\mU<=(k:Int)*1125899906842624
def aK.L0.F:aK.L0.D->aK.L0.Y:=λ(h,_,mU,l,_,i,_,a,_,id)=>rJ h id a (l.drop i.toNat) mU
def aK.L1.az:aK.L1.D->Prop:=λ(_,_,l,n,i,_,_,_)=>l.length<=1000/\∃k:Nat,k<=l.length/\i=k/\n=l.length
def aK.L1.F:aK.L1.D->aK.L1.Y:=λ(_,_,l,_,i,_,a,_)=>if(l.drop i.toNat).any (pa a)=true then .inl () else .inr ()
def aK.L2.az:aK.L2.D->Prop:=λ(mU,l,n,i,_,_,_)=>l.length<=64/\(∀o∈l,0<=o.1/\o.1<=1125899906842624)/\∃k:Nat,k<=l.length/\i=k/\n=l.length/\ -((k:Int)*1125899906842624)<=mU/\mU<=1000000000000000000
def aK.L2.F:aK.L2.D->aK.L2.Y:=λ(mU,l,_,i,_,_,_)=>mU - l9 (l.drop i.toNat)
def aK.az:aK.D->Prop:=λ(t,_,_,a,_)=>u9 t/\Mh a
def aK.F:aK.D->aK.Y:=λ(t,h,n,a,s)=>((nI t h a).1,(nI t h a).2,n,a,s)
def aK.G:fD:=gr (P:=Tryz.prog) [aC.sg,tid.sg,cl.sg,cJ.sg]
def aK.L0.E:=cU.dp aK.L0.st aK.L0.az aK.L0.add aK.L0.F aK.L0.out
def aK.L0.call:aK.L0.D->Option aK.L0.X:=eI aK.L0.E aK.L0.st
def aK.L1.E:=cU.dp aK.L1.st aK.L1.az aK.L1.add aK.L1.F aK.L1.out
def aK.L1.call:aK.L1.D->Option aK.L1.X:=eI aK.L1.E aK.L1.st
def aK.L2.E:=cU.dp aK.L2.st aK.L2.az aK.L2.add aK.L2.F aK.L2.out
def aK.L2.call:aK.L2.D->Option aK.L2.X:=eI aK.L2.E aK.L2.st
def aK.an:fR:= {loops:=om [(5,{bO:=[0,2,4,8,9,35,36,37],sites:=[8]}),(16,{bO:=[0,4,9,75,76,77]}),(23,{bO:=[9,93,94,95]})],outs:=oh [(5,{bO:=[0,4,9]},{bO:=[6,7]}),(16,{bO:=[4,9]},{bO:=[6,7]}),(23,{bO:=[9]},{bO:=[6,7]})],jo:=pb [(5,aK.L0.E),(16,aK.L1.E),(23,aK.L2.E)]}
def aK.A:= @dm Tryz.prog aK.G aK.an 0 Tryz.f21 _ aK.st
abbrev aK.Ok:=dn @aK.A aK.az aK.add aK.F aK.out
def aK.L0.R:= @dr Tryz.prog aK.G aK.an 0 Tryz.f21 0 _ aK.L0.st
abbrev aK.L0.Ok:=gz Tryz.prog aK.G aK.an 0 Tryz.f21 0 aK.L0.st aK.L0.az aK.L0.add aK.L0.F aK.L0.out
def aK.L1.R:= @dr Tryz.prog aK.G aK.an 0 Tryz.f21 1 _ aK.L1.st
abbrev aK.L1.Ok:=gz Tryz.prog aK.G aK.an 0 Tryz.f21 1 aK.L1.st aK.L1.az aK.L1.add aK.L1.F aK.L1.out
def aK.L2.R:= @dr Tryz.prog aK.G aK.an 0 Tryz.f21 2 _ aK.L2.st
abbrev aK.L2.Ok:=gz Tryz.prog aK.G aK.an 0 Tryz.f21 2 aK.L2.st aK.L2.az aK.L2.add aK.L2.F aK.L2.out
theorem aK.L0.run:b8 aK.L0.call aK.L0.az aK.L0.add aK.L0.F:=gR (gJ [.d ti,.d lS,.d ti,.d (.slice kW),.d ti,.d ti,.n,.d (.slice (.pair ir yj)),.d (.slice rB),.d tB] λ_=>by kernel_rfl)
theorem aK.L0.aI:rV @aK.L0.R aK.L0.st aK.L0.az aK.L0.add aK.L0.F aK.L0.out aK.L0.Ok:=sy
theorem aK.L0.step{R:Type}(kZ:Int)(wu:je)(mU:Int)(t35:(List kX))(t36:Int)(t37:Int)(o0L:Nat)(oq:(List (iF×nA)))(s5:(List nY))(n8:Bs)(kn:AS->Option R)(kx:Exit->AS->Option R):aK.L0.R (kZ,wu,mU,t35,t36,t37,o0L,oq,s5,n8) kn kx=
  aJ ((jM t37 t36)) (
   aJ (fB t37 (((List.length t35):Nat):Int)) (
   aJ ((!(fv ir (nth kW t35 (Int.toNat t37)).1 oq).isSome)) (
    kx (aK.L0.bY ((o0L,oq,s5),(5:Int))).1 (aK.L0.bY ((o0L,oq,s5),(5:Int))).2) (
    ah (cl.call (((fv ir (nth kW t35 (Int.toNat t37)).1 oq).getD (((0:Int),((([]:List ov),()),())),((0:Int),()))).1.2.1,(nth kW t35 (Int.toNat t37)).2.1,n8,kZ,(cY .i64 kZ ((fv ir (nth kW t35 (Int.toNat t37)).1 oq).getD (((0:Int),((([]:List ov),()),())),((0:Int),()))).2.1))) λx1=>
    aJ ((tc x1 (0:Int))) (
     kx (aK.L0.bY ((o0L,oq,s5),x1)).1 (aK.L0.bY ((o0L,oq,s5),x1)).2) (
     kn (aK.L0.st (kZ,wu,(bV .i64 mU ((fv ir (nth kW t35 (Int.toNat t37)).1 oq).getD (((0:Int),((([]:List ov),()),())),((0:Int),()))).1.1),t35,t36,(bV .i64 t37 (1:Int)),o0L,oq,s5,n8))))) none) (
   kx (aK.L0.ko ((wu,o0L,oq,s5),mU)).1 (aK.L0.ko ((wu,o0L,oq,s5),mU)).2):=by kernel_rfl
theorem aK.L1.run:b8 aK.L1.call aK.L1.az aK.L1.add aK.L1.F:=gR (gJ [.d lS,.d ti,.d (.slice ir),.d ti,.d ti,.n,.d (.slice (.pair ir yj)),.d (.slice rB)] λ_=>by kernel_rfl)
theorem aK.L1.aI:rV @aK.L1.R aK.L1.st aK.L1.az aK.L1.add aK.L1.F aK.L1.out aK.L1.Ok:=sy
theorem aK.L1.step{R:Type}(Bh:je)(As:Int)(t75:(List iF))(t76:Int)(t77:Int)(pL:Nat)(uf:(List (iF×nA)))(ug:(List nY))(kn:AS->Option R)(kx:Exit->AS->Option R):aK.L1.R (Bh,As,t75,t76,t77,pL,uf,ug) kn kx=
  aJ ((jM t77 t76)) (
   aJ (fB t77 (((List.length t75):Nat):Int)) (
   aJ ((fv ir (nth ir t75 (Int.toNat t77)) uf).isSome) (
    kx (aK.L1.bY (pL,uf,ug)).1 (aK.L1.bY (pL,uf,ug)).2) (
    kn (aK.L1.st (Bh,As,t75,t76,(bV .i64 t77 (1:Int)),pL,uf,ug)))) none) (
   kx (aK.L1.ko (Bh,As,pL,uf,ug)).1 (aK.L1.ko (Bh,As,pL,uf,ug)).2):=by kernel_rfl
theorem aK.L2.run:b8 aK.L2.call aK.L2.az aK.L2.add aK.L2.F:=gR (gJ [.d ti,.d (.slice lH),.d ti,.d ti,.n,.d (.slice (.pair ir yj)),.d (.slice rB)] λ_=>by kernel_rfl)
theorem aK.L2.aI:jl @aK.L2.R aK.L2.st aK.L2.az aK.L2.add aK.L2.F aK.L2.bY aK.L2.Ok:=js
theorem aK.L2.step{R:Type}(B0:Int)(t93:(List kI))(t94:Int)(t95:Int)(AO:Nat)(Hn:(List (iF×nA)))(Ho:(List nY))(kn:AS->Option R)(kx:Exit->AS->Option R):aK.L2.R (B0,t93,t94,t95,AO,Hn,Ho) kn kx=
  aJ ((jM t95 t94)) (
   aJ (fB t95 (((List.length t93):Nat):Int)) (
   kn (aK.L2.st ((cY .i64 B0 (nth lH t93 (Int.toNat t95)).1),t93,t94,(bV .i64 t95 (1:Int)),AO,Hn,Ho))) none) (
   kx (aK.L2.bY ((AO,Hn,Ho),B0)).1 (aK.L2.bY ((AO,Hn,Ho),B0)).2):=by kernel_rfl
theorem aK.eq{R:Type}(t:je)(height:Int)(o0baL:Nat)(o1:(List (iF×nA)))(o2:(List nY))(k:aX->Option R):aK.A (t,height,o0baL,o1,o2) k=
  ah (aC.call t) λx1=>
  aJ ((!x1)) (
   k (aK.out ((0:Int),(1:Int),o0baL,o1,o2))) (
   aJ ((jM height (1:Int))) (
    k (aK.out ((0:Int),(1:Int),o0baL,o1,o2))) (
    aJ ((sh height (1048576:Int))) (
     k (aK.out ((0:Int),(1:Int),o0baL,o1,o2))) (
     ah (tid.call t) λx2=>
     ah (aK.L0.call (height,t,(0:Int),t.1,(((List.length t.1):Nat):Int),(0:Int),o0baL,o1,o2,x2)) λx4=>
     aJ (x4.isLeft) (
      ah (x4.getLeft?) λa5=>
      k (aK.out ((0:Int),a5.2,a5.1.1,a5.1.2.1,a5.1.2.2))) (
      ah (x4.getRight?) λb6=>
      ah (cJ.call b6.1.1) λx7=>
      ah (aK.L1.call (b6.1.1,b6.2,x7,(((List.length x7):Nat):Int),(0:Int),b6.1.2.1,b6.1.2.2.1,b6.1.2.2.2)) λx8=>
      aJ (x8.isLeft) (
       ah (x8.getLeft?) λa9=>
       k (aK.out ((0:Int),(4:Int),a9.1,a9.2.1,a9.2.2))) (
       ah (x8.getRight?) λb10=>
       ah (aK.L2.call (b10.2.1,b10.1.2.1,(((List.length b10.1.2.1):Nat):Int),(0:Int),b10.2.2.1,b10.2.2.2.1,b10.2.2.2.2)) λBD=>
       aJ ((jM BD.2 (0:Int))) (
        k (aK.out ((0:Int),(8:Int),BD.1.1,BD.1.2.1,BD.1.2.2))) (
        k (aK.out (BD.2,(0:Int),BD.1.1,BD.1.2.1,BD.1.2.2)))))))):=by kernel_rfl
theorem aK.L0.ok:aK.L0.Ok:=by
 refine aK.L0.aI (λ(_,_,_,l,_,i,_,_,_,_)=>l.length - i.toNat) ?_
 rintro⟨h,t,mU,l,n,i,o,a,s,id⟩ ⟨⟨Vg,Vh⟩,eY,hl,hu,ha,k,hk,rfl,rfl,Tt,Tu⟩
 have Vg:0<=h:=Vg
 have Vh:h<=1048576:=Vh
 have hl:l.length<=64:=hl
 have Tt:0<=mU:=Tt
 have Tu:mU<=(k:Int)*1125899906842624:=Tu
 have hk:k<=l.length:=hk
 by_cases mw:k < l.length
 ·have hx:=hu _ (List.getElem_mem mw)
  have n1:nth kW l k=l[k]:=dQ (t:=kW) mw
  have hd:l.drop k=l[k]::l.drop (k+1):=av mw
  cases hg:fv ir l[k].1 a with
  |none=>
   right
   refine⟨aK.L0.bY ((o,a,s),5),?_,λkn kx=> ?_⟩
   rotate_left
   ·rw[aK.L0.step,bI (by omega),ae,bF (by omega) (by omega),ae,aa,n1,hg]
    simp only[Option.isSome_none,gm,ae]
   ·simp only[aK.L0.add,aK.L0.F,aa,hd,rJ,hg]
    rfl
  |some c=>
   have hc:=ha.get hg
   obtain⟨c1,c2,c3,c4,c5,c6⟩:=hc
   have vo:∀ {R:Type} (kn:AS->Option R) (kx:Exit->AS->Option R),aK.L0.R (h,t,mU,l,(l.length:Int),(k:Int),o,a,s,id) kn kx=
     aJ (tc (tl c.1.2.1 l[k].2.1 id h (h - c.2.1)) 0) (kx (aK.L0.bY ((o,a,s),tl c.1.2.1 l[k].2.1 id h (h - c.2.1))).1 (aK.L0.bY ((o,a,s),tl c.1.2.1 l[k].2.1 id h (h - c.2.1))).2)
      (kn (aK.L0.st (h,t,mU+c.1.1,l,(l.length:Int),((k+1:Nat):Int),o,a,s,id))):=λkn kx=>by
    rw[aK.L0.step,bI (by omega),ae,bF (by omega) (by omega),ae,aa,n1,hg]
    simp only[Option.isSome_some,bZ,ai,gj]
    rw[gQ (by omega) (by omega),cl.run (d:=(c.1.2.1,l[k].2.1,id,h,h - c.2.1)) ⟨c2,by have:=zR c1;omega,hx.2.1,eY⟩]
    simp only[ab,cl.add,cl.F]
    rw[ff (by omega) (by omega),N.pF (by omega)]
   by_cases he:tl c.1.2.1 l[k].2.1 id h (h - c.2.1)=0
   ·left
    refine⟨(h,t,mU+c.1.1,l,(l.length:Int),((k+1:Nat):Int),o,a,s,id),⟨⟨Vg,Vh⟩,eY,hl,hu,ha,k+1,by omega,rfl,rfl,by show 0<=mU+c.1.1;omega,by show mU+c.1.1<=_;omega⟩,by simp only[aa];omega,?_,λkn kx=> ?_⟩
    ·simp only[aK.L0.add,aK.L0.F,aa,hd,rJ,hg,he,ne_eq,not_true_eq_false,if_false]
    ·rw[vo,gZ he,ai]
   ·right
    refine⟨aK.L0.bY ((o,a,s),tl c.1.2.1 l[k].2.1 id h (h - c.2.1)),?_,λkn kx=> ?_⟩
    rotate_left
    ·rw[vo,jE he,ae]
    ·simp only[aK.L0.add,aK.L0.F,aa,hd,rJ,hg]
     rw[if_pos he]
     rfl
 ·right
  obtain rfl:k=l.length:=by omega
  refine⟨aK.L0.ko ((t,o,a,s),mU),?_,λkn kx=> ?_⟩
  rotate_left
  ·rw[aK.L0.step,bp (by omega),ai]
  ·simp only[aK.L0.add,aK.L0.F,aa,bB,rJ]
   rfl
theorem aK.L1.ok:aK.L1.Ok:=by
 refine aK.L1.aI (λ(_,_,l,_,i,_,_,_)=>l.length - i.toNat) ?_
 rintro⟨t,mU,l,n,i,o,a,s⟩ ⟨hl,k,hk,rfl,rfl⟩
 have hl:l.length<=1000:=hl
 have hk:k<=l.length:=hk
 by_cases mw:k < l.length
 ·have n1:nth ir l k=l[k]:=dQ (t:=ir) mw
  have hd:l.drop k=l[k]::l.drop (k+1):=av mw
  cases hg:(fv ir l[k] a).isSome with
  |true=>
   right
   refine⟨aK.L1.bY (o,a,s),?_,λkn kx=> ?_⟩
   rotate_left
   ·rw[aK.L1.step,bI (by omega),ae,bF (by omega) (by omega),ae,aa,n1,hg,ae]
   ·simp only[aK.L1.add,aK.L1.F,aa,hd,nc,pa,hg,Bool.true_or,if_true]
    rfl
  |false=>
   left
   refine⟨(t,mU,l,(l.length:Int),((k+1:Nat):Int),o,a,s),⟨hl,k+1,by omega,rfl,rfl⟩,by simp only[aa];omega,?_,λkn kx=> ?_⟩
   ·simp only[aK.L1.add,aK.L1.F,aa,hd,nc,pa,hg,Bool.false_or]
   ·rw[aK.L1.step,bI (by omega),ae,bF (by omega) (by omega),ae,aa,n1,hg,ai,N.pF (by omega)]
 ·right
  obtain rfl:k=l.length:=by omega
  refine⟨aK.L1.ko (t,mU,o,a,s),?_,λkn kx=> ?_⟩
  rotate_left
  ·rw[aK.L1.step,bp (by omega),ai]
  ·simp only[aK.L1.add,aK.L1.F,aa,bB,List.any_nil,cD,if_false]
   rfl
theorem aK.L2.ok:aK.L2.Ok:=by
 refine aK.L2.aI (λ(_,l,_,i,_,_,_)=>l.length - i.toNat) ?_
 rintro⟨mU,l,n,i,o,a,s⟩ ⟨hl,ho,k,hk,rfl,rfl,Tt,Tu⟩
 have hl:l.length<=64:=hl
 have hk:k<=l.length:=hk
 have Tt: -((k:Int)*1125899906842624)<=mU:=Tt
 have Tu:mU<=1000000000000000000:=Tu
 by_cases mw:k < l.length
 ·left
  have n1:nth lH l k=l[k]:=dQ (t:=lH) mw
  have hd:l.drop k=l[k]::l.drop (k+1):=av mw
  have hx:=ho _ (List.getElem_mem mw)
  refine⟨(mU - l[k].1,l,(l.length:Int),((k+1:Nat):Int),o,a,s),⟨hl,ho,k+1,by omega,rfl,rfl,by show _<=mU - l[k].1;omega,by show mU - l[k].1<=_;omega⟩,by simp only[aa];omega,?_,λkn kx=> ?_⟩
  ·simp only[aK.L2.add,aK.L2.F,aa,hd,l9,cO,List.sum_cons]
   rw[Int.sub_sub]
  ·rw[aK.L2.step,bI (by omega),ae,bF (by omega) (by omega),ae,aa,n1,gQ (by omega) (by omega),N.pF (by omega)]
 ·right
  obtain rfl:k=l.length:=by omega
  intro R kn kx
  rw[aK.L2.step,bp (by omega),ai]
  simp only[aK.L2.add,aK.L2.F,aa,bB,l9,jH,List.sum_nil,nX]
theorem sr{t:je}(h:j9 t=true):(gV t).length=t.2.1.length:=by
 unfold gV
 rw[if_pos h]
 simp[pJ]
theorem Co{h:Int}{id:List Int}{a:List (iF×nA)}(ha:Mh a):∀(l:List kX) (mU f:Int),rJ h id a l mU= .inr f->mU<=f/\f<=mU+(l.length:Int)*1125899906842624
 |[],mU,f,e=>by simp only[rJ,Sum.inr.injEq]at e;subst e;simp
 |x::l,mU,f,e=>by
  simp only[rJ]at e
  cases hg:fv ir x.1 a with
  |none=>rw[hg]at e;cases e
  |some c=>
   rw[hg]at e
   simp only at e
   split at e
   ·cases e
   ·have hc:=ha.get hg
    have:=Co ha l _ _ e
    obtain⟨_,_,c3,c4,_⟩:=hc
    rw[aO]
    omega
theorem aK.ok:aK.Ok:=by
 rintro⟨t,h,n,a,s⟩ ⟨hv,ha⟩
 have hv:u9 t:=hv
 have ha:Mh a:=ha
 rw[aK.eq,aC.run (d:=t) hv.1]
 simp only[ab,aC.add,aC.F,aK.add,aK.F,nI]
 by_cases kA:j9 t=true
 ·rw[kA,bZ,ai]
  obtain⟨⟨_,a2,a3,_⟩,b1,b2⟩:=pD kA
  by_cases h1:1<=h
  ·rw[bp (by omega),ai]
   by_cases h2:h<=1048576
   ·rw[dY (by omega),ai,if_pos ⟨rfl,h1,h2⟩,tid.run (d:=t) hv]
    simp only[ab,tid.add,tid.F]
    rw[aK.L0.run (d:=(h,t,0,t.1,(t.1.length:Int),0,n,a,s,oJ t)) ⟨⟨by show 0<=h;omega,h2⟩,Dg,a2,hv.2.1,ha,0,bm _,rfl,rfl,by decide,by decide⟩]
    simp only[ab,aK.L0.add,aK.L0.F,bH,aW]
    cases hi:rJ h (oJ t) a t.1 0 with
    |inl e=>
     simp only[nH,ae,mm,ab]
    |inr mU=>
     have hb:=Co ha _ _ _ hi
     simp only[jB,ai,iD,ab]
     rw[cJ.run (d:=t) hv]
     simp only[ab,cJ.add,cJ.F]
     rw[aK.L1.run (d:=(t,mU,gV t,((gV t).length:Int),0,n,a,s)) ⟨by rw[sr kA];omega,0,bm _,rfl,rfl⟩]
     simp only[ab,aK.L1.add,aK.L1.F,bH,aW]
     by_cases hm:(gV t).any (pa a)=true
     ·rw[if_pos hm]
      simp only[nH,ae,mm,ab,if_true,hm]
     ·rw[if_neg hm]
      simp only[jB,ai,iD,ab]
      rw[aK.L2.run (d:=(mU,t.2.1,(t.2.1.length:Int),0,n,a,s)) ⟨a3,λo ho=>(pC _ _ b2 o ho).1,0,bm _,rfl,rfl,by show -((0:Int)*_)<=mU;omega,by show mU<=_;omega⟩]
      simp only[ab,aK.L2.add,aK.L2.F,bH,aW]
      rw[if_neg hm]
      by_cases hf:mU - l9 t.2.1 < 0
      ·rw[bI hf,ae,if_pos hf]
      ·rw[bp hf,ai,if_neg hf]
   ·rw[fE (by omega),ae,if_neg (λe=>h2 e.2.2)]
  ·rw[bI (by omega),ae,if_neg (λe=>h1 e.2.1)]
 ·have hok':j9 t=false:=by simpa using kA
  rw[hok',gm,ae,if_neg (λe=>by cases e.1)]
def aK.E:=Entry.dp [none,some lS,some ti] aK.st aK.az aK.add aK.F aK.out
def aK.call:aK.D->Option aK.X:=bX aK.E aK.st
theorem aK.run:b8 aK.call aK.az aK.add aK.F:=dv (du [.d lS,.d ti,.n,.d (.slice (.pair ir yj)),.d (.slice rB)] λ_=>by kernel_rfl)
def aK.sg:SG Tryz.prog:=⟨21,aP,aK.E,.fn 3 (by kernel_rfl) aK.ok (And.intro (.dp aK.L0.ok (by kernel_rfl)) (And.intro (.dp aK.L1.ok (by kernel_rfl)) (And.intro (.dp aK.L2.ok (by kernel_rfl)) trivial)))⟩
def A7(l:List iF)(a:List (iF×nA)):List (iF×nA):=l.foldl (λm o=>mo ir o m) a
def iJ(l:List Mi)(a:List (iF×nA)):List (iF×nA):=l.foldl (λm e=>lv ir e.1 e.2.1 m) a
abbrev bE.L0.D:=Int×je×(List iF)×Int×Int×Nat×(List (iF×nA))×(List nY)×Nat×((List iF)×Unit)×(List Mi)
def bE.L0.st:bE.L0.D->AS:=λ(kZ,wu,t28,t29,t30,o0L,oq,s5,DP,n9,Qt)=>⟨([.ptr (.ew 0) 0 [] 0,.undef,.d ti kZ,.undef,.gE lS wu]++bG 4 ([.ptr (.new 9 0) 0 [] 0]++bG 18 ([.d (.slice ir) t28,.d ti t29,.d ti t30]++bG 54 []))),[.obj 0 false (.pr (.lb (.ew 1) 0) (.pr (.di (.ew 2) 0 [] 0 0 o0L) (.d .unit ()))),.obj 0 false (.mp ir yj oq),.obj 0 false (.vec 149 rB s5)],(dh 9 ([[.obj 0 false (.pr (.di (.new 45 0) 0 [] 0 0 DP) (.d (.pair (.slice ir) .unit) n9))]]++dh 35 ([[.obj 0 false (.vec 151 Sd Qt)]]++dh 39 [])))⟩
abbrev bE.L0.Y0:=(List (iF×nA))×Nat×(List Mi)
abbrev bE.L0.X0:=(Int×je×Nat×(List nY)×((List iF)×Unit))×((List (iF×nA))×Nat×(List Mi))
def bE.L0.bY:bE.L0.X0->Exit×AS:=λx=>(.exit 0,⟨([.ptr (.ew 0) 0 [] 0,.undef,.d ti x.1.1,.undef,.gE lS x.1.2.1]++bG 4 ([.ptr (.new 9 0) 0 [] 0]++bG 75 [])),[.obj 0 false (.pr (.lb (.ew 1) 0) (.pr (.di (.ew 2) 0 [] 0 0 x.1.2.2.1) (.d .unit ()))),.obj 0 false (.mp ir yj x.2.1),.obj 0 false (.vec 149 rB x.1.2.2.2.1)],(dh 9 ([[.obj 0 false (.pr (.di (.new 45 0) 0 [] 0 0 x.2.2.1) (.d (.pair (.slice ir) .unit) x.1.2.2.2.2))]]++dh 35 ([[.obj 0 false (.vec 151 Sd x.2.2.2)]]++dh 39 [])))⟩)
abbrev bE.L0.X:=bE.L0.X0
abbrev bE.L0.Y:=bE.L0.Y0
def bE.L0.out:bE.L0.X->Out (Exit×AS):=λx=> .ok (bE.L0.bY x)
def bE.L0.add:bE.L0.D->bE.L0.Y->bE.L0.X:=λ(kZ,wu,t28,t29,t30,o0L,oq,s5,DP,n9,Qt) y=>((kZ,wu,o0L,s5,n9),y)
abbrev bE.L1.D:=Int×je×(List iF)×Int×Int×Nat×(List (iF×nA))×(List nY)×Nat×((List iF)×Unit)×(List Mi)
def bE.L1.st:bE.L1.D->AS:=λ(tZ,Bh,t54,t55,t56,pL,uf,ug,AN,oW,AL)=>⟨([.ptr (.ew 0) 0 [] 0,.undef,.d ti tZ,.undef,.gE lS Bh]++bG 4 ([.ptr (.new 9 0) 0 [] 0]++bG 44 ([.d (.slice ir) t54,.d ti t55,.d ti t56]++bG 28 []))),[.obj 0 false (.pr (.lb (.ew 1) 0) (.pr (.di (.ew 2) 0 [] 0 0 pL) (.d .unit ()))),.obj 0 false (.mp ir yj uf),.obj 0 false (.vec 149 rB ug)],(dh 9 ([[.obj 0 false (.pr (.di (.new 45 0) 0 [] 0 0 AN) (.d (.pair (.slice ir) .unit) oW))]]++dh 35 ([[.obj 0 false (.vec 151 Sd AL)]]++dh 39 [])))⟩
abbrev bE.L1.Y0:=(List (iF×nA))
abbrev bE.L1.X0:=(Nat×(List nY)×Nat×((List iF)×Unit)×(List Mi))×((List (iF×nA)))
def bE.L1.bY:bE.L1.X0->Exit×AS:=λx=>(.exit 2,⟨([.ptr (.ew 0) 0 [] 0]++bG 8 ([.ptr (.new 9 0) 0 [] 0]++bG 75 [])),[.obj 0 false (.pr (.lb (.ew 1) 0) (.pr (.di (.ew 2) 0 [] 0 0 x.1.1) (.d .unit ()))),.obj 0 false (.mp ir yj x.2),.obj 0 false (.vec 149 rB x.1.2.1)],(dh 9 ([[.obj 0 false (.pr (.di (.new 45 0) 0 [] 0 0 x.1.2.2.1) (.d (.pair (.slice ir) .unit) x.1.2.2.2.1))]]++dh 35 ([[.obj 0 false (.vec 151 Sd x.1.2.2.2.2)]]++dh 39 [])))⟩)
abbrev bE.L1.X:=bE.L1.X0
abbrev bE.L1.Y:=bE.L1.Y0
def bE.L1.out:bE.L1.X->Out (Exit×AS):=λx=> .ok (bE.L1.bY x)
def bE.L1.add:bE.L1.D->bE.L1.Y->bE.L1.X:=λ(tZ,Bh,t54,t55,t56,pL,uf,ug,AN,oW,AL) y=>((pL,ug,AN,oW,AL),y)
abbrev bE.D:=je×Int×Nat×(List (iF×nA))×(List nY)
def bE.st:bE.D->SA:=λ(t,height,o0baL,o1,o2)=>([.ptr (.ew 0) 0 [] 0,.d lS t,.d ti height],[.obj 0 false (.pr (.lb (.ew 1) 0) (.pr (.di (.ew 2) 0 [] 0 0 o0baL) (.d .unit ()))),.obj 0 false (.mp ir yj o1),.obj 0 false (.vec 149 rB o2)])
abbrev bE.Y:=(Int×Nat×(List (iF×nA))×(List nY))⊕(Int×Nat×(List (iF×nA))×(List nY))
abbrev bE.X:=(Int×Nat×(List (iF×nA))×(List nY))⊕(Int×Nat×(List (iF×nA))×(List nY))
def bE.out:bE.X->aX:=λx=>match x with | .inl x=>⟨.d ti x.1,[.obj 0 false (.pr (.lb (.ew 1) 0) (.pr (.di (.ew 2) 0 [] 0 0 x.2.1) (.d .unit ()))),.obj 0 false (.mp ir yj x.2.2.1),.obj 0 false (.vec 149 rB x.2.2.2)],[]⟩ | .inr x=>⟨.d ti x.1,[.obj 0 false (.pr (.lb (.ew 1) 0) (.pr (.di (.ew 2) 1 [] 0 0 x.2.1) (.d .unit ()))),.obj 0 false (.mp ir yj x.2.2.1),.obj 1 false (.vec 149 rB x.2.2.2)],[]⟩
def bE.add:bE.D->bE.Y->bE.X:=λ(t,height,o0baL,o1,o2) y=>match y with | .inl y=> .inl y | .inr y=> .inr y
def Au(a:List (iF×nA)):List iF->List Mi
 |[]=> []
 |o::l=>(o,((fv ir o a).getD Ow,()))::Au (mo ir o a) l
def zl(h:Int):List iF->List kI->List (iF×nA)->List (iF×nA)
 |o::l,x::xs,a=>zl h l xs (lv ir o (x,(h,())) a)
 |_,_,a=>a
def stepOf(t:je)(a:List (iF×nA)):nY:=(Au a (gS t),(gV t,()))
def nk(t:je)(h:Int)(a:List (iF×nA)):List (iF×nA):=zl h (gV t) t.2.1 (A7 (gS t) a)
def bE.L0.az:bE.L0.D->Prop:=λ(_,_,l,n,i,_,_,_,gL,_,g)=>l.length<=1000/\∃k:Nat,k<=l.length/\i=k/\n=l.length/\gL=g.length/\g.length=k
def bE.L0.F:bE.L0.D->bE.L0.Y:=λ(_,_,l,_,i,_,a,_,gL,_,g)=>(A7 (l.drop i.toNat) a,gL+(l.drop i.toNat).length,g++Au a (l.drop i.toNat))
def bE.L1.az:bE.L1.D->Prop:=λ(_,t,l,n,i,_,_,_,_,_,_)=>l.length<=1000/\l.length=t.2.1.length/\(∀o∈t.2.1,UR o.2.1)/\∃k:Nat,k<=l.length/\i=k/\n=l.length
def bE.L1.F:bE.L1.D->bE.L1.Y:=λ(h,t,l,_,i,_,a,_,_,_,_)=>zl h (l.drop i.toNat) (t.2.1.drop i.toNat) a
def bE.az:bE.D->Prop:=λ(t,_,n,a,s)=>u9 t/\Mh a/\n<=s.length/\s.length<=1000000
def bE.F:bE.D->bE.Y:=λ(t,h,n,a,s)=>if(nI t h a).2≠0 then .inl ((nI t h a).2,n,a,s) else .inr (0,n+1,nk t h a,s.take n++ [stepOf t a])
def bE.G:fD:=gr (P:=Tryz.prog) [aK.sg,cJ.sg,bw.sg,eJ.sg]
def bE.L0.E:=cU.dp bE.L0.st bE.L0.az bE.L0.add bE.L0.F bE.L0.out
def bE.L0.call:bE.L0.D->Option bE.L0.X:=eI bE.L0.E bE.L0.st
def bE.L1.E:=cU.dp bE.L1.st bE.L1.az bE.L1.add bE.L1.F bE.L1.out
def bE.L1.call:bE.L1.D->Option bE.L1.X:=eI bE.L1.E bE.L1.st
def bE.an:fR:= {loops:=om [(6,{bO:=[0,2,4,9,28,29,30],sites:=[9,45],nR:=[⟨9,[.fst],45,147⟩]}),(12,{bO:=[0,2,4,9,54,55,56],sites:=[9,45]})],outs:=oh [(6,{bO:=[0,2,4,9],sites:=[9,45]},{bO:=[6]}),(12,{bO:=[0,9],sites:=[9,45]},{bO:=[6]})],jo:=pb [(6,bE.L0.E),(12,bE.L1.E)]}
def bE.A:= @dm Tryz.prog bE.G bE.an 0 Tryz.f22 _ bE.st
abbrev bE.Ok:=dn @bE.A bE.az bE.add bE.F bE.out
def bE.L0.R:= @dr Tryz.prog bE.G bE.an 0 Tryz.f22 0 _ bE.L0.st
abbrev bE.L0.Ok:=gz Tryz.prog bE.G bE.an 0 Tryz.f22 0 bE.L0.st bE.L0.az bE.L0.add bE.L0.F bE.L0.out
def bE.L1.R:= @dr Tryz.prog bE.G bE.an 0 Tryz.f22 1 _ bE.L1.st
abbrev bE.L1.Ok:=gz Tryz.prog bE.G bE.an 0 Tryz.f22 1 bE.L1.st bE.L1.az bE.L1.add bE.L1.F bE.L1.out
theorem bE.L0.run:b8 bE.L0.call bE.L0.az bE.L0.add bE.L0.F:=gR (gJ [.d ti,.d lS,.d (.slice ir),.d ti,.d ti,.n,.d (.slice (.pair ir yj)),.d (.slice rB),.n,.d (.pair (.slice ir) .unit),.d (.slice Sd)] λ_=>by kernel_rfl)
theorem bE.L0.aI:jl @bE.L0.R bE.L0.st bE.L0.az bE.L0.add bE.L0.F bE.L0.bY bE.L0.Ok:=js
theorem bE.L0.step{R:Type}(kZ:Int)(wu:je)(t28:(List iF))(t29:Int)(t30:Int)(o0L:Nat)(oq:(List (iF×nA)))(s5:(List nY))(DP:Nat)(n9:((List iF)×Unit))(Qt:(List Mi))(kn:AS->Option R)(kx:Exit->AS->Option R):bE.L0.R (kZ,wu,t28,t29,t30,o0L,oq,s5,DP,n9,Qt) kn kx=
  aJ ((jM t30 t29)) (
   aJ (fB t30 (((List.length t28):Nat):Int)) (
   aJ (decide (DP<=(List.length Qt))) (
   aJ (fq (DP+1) 80) (
   kn (bE.L0.st (kZ,wu,t28,t29,(bV .i64 t30 (1:Int)),o0L,(mo ir (nth ir t28 (Int.toNat t30)) oq),s5,(DP+1),n9,((List.take DP Qt)++ [((nth ir t28 (Int.toNat t30)),(((fv ir (nth ir t28 (Int.toNat t30)) oq).getD (((0:Int),((([]:List ov),()),())),((0:Int),()))),()))])))) none) none) none) (
   kx (bE.L0.bY ((kZ,wu,o0L,s5,n9),(oq,DP,Qt))).1 (bE.L0.bY ((kZ,wu,o0L,s5,n9),(oq,DP,Qt))).2):=by kernel_rfl
theorem bE.L1.run:b8 bE.L1.call bE.L1.az bE.L1.add bE.L1.F:=gR (gJ [.d ti,.d lS,.d (.slice ir),.d ti,.d ti,.n,.d (.slice (.pair ir yj)),.d (.slice rB),.n,.d (.pair (.slice ir) .unit),.d (.slice Sd)] λ_=>by kernel_rfl)
theorem bE.L1.aI:jl @bE.L1.R bE.L1.st bE.L1.az bE.L1.add bE.L1.F bE.L1.bY bE.L1.Ok:=js
theorem bE.L1.step{R:Type}(tZ:Int)(Bh:je)(t54:(List iF))(t55:Int)(t56:Int)(pL:Nat)(uf:(List (iF×nA)))(ug:(List nY))(AN:Nat)(oW:((List iF)×Unit))(AL:(List Mi))(kn:AS->Option R)(kx:Exit->AS->Option R):bE.L1.R (tZ,Bh,t54,t55,t56,pL,uf,ug,AN,oW,AL) kn kx=
  aJ ((jM t56 t55)) (
   aJ (fB t56 (((List.length t54):Nat):Int)) (
   aJ (fB t56 (((List.length Bh.2.1):Nat):Int)) (
   ah (eJ.call (nth lH Bh.2.1 (Int.toNat t56))) λx1=>
   kn (bE.L1.st (tZ,Bh,t54,t55,(bV .i64 t56 (1:Int)),pL,(lv ir (nth ir t54 (Int.toNat t56)) (x1,(tZ,())) uf),ug,AN,oW,AL))) none) none) (
   kx (bE.L1.bY ((pL,ug,AN,oW,AL),uf)).1 (bE.L1.bY ((pL,ug,AN,oW,AL),uf)).2):=by kernel_rfl
theorem bE.eq{R:Type}(t:je)(height:Int)(o0baL:Nat)(o1:(List (iF×nA)))(o2:(List nY))(k:aX->Option R):bE.A (t,height,o0baL,o1,o2) k=
  ah (aK.call (t,height,o0baL,o1,o2)) λx1=>
  aJ ((tc x1.2.1 (0:Int))) (
   k (bE.out (.inl (x1.2.1,x1.2.2.1,x1.2.2.2.1,x1.2.2.2.2)))) (
   ah (cJ.call t) λx2=>
   ah (bw.call t) λx3=>
   ah (bE.L0.call (height,t,x3,(((List.length x3):Nat):Int),(0:Int),x1.2.2.1,x1.2.2.2.1,x1.2.2.2.2,0,(x2,()),([]:List Mi))) λx4=>
   ah (bE.L1.call (x4.1.1,x4.1.2.1,x4.1.2.2.2.2.1,(((List.length x4.1.2.2.2.2.1):Nat):Int),(0:Int),x4.1.2.2.1,x4.2.1,x4.1.2.2.2.1,x4.2.2.1,x4.1.2.2.2.2,x4.2.2.2)) λx6=>
   aJ (decide (0=0/\(0+x6.1.2.2.1)<=(List.length x6.1.2.2.2.2))) (
   aJ (decide (x6.1.1<=(List.length x6.1.2.1))) (
   aJ (fq (x6.1.1+1) 48) (
   k (bE.out (.inr ((0:Int),(x6.1.1+1),x6.2,((List.take x6.1.1 x6.1.2.1)++ [((cut x6.1.2.2.2.2 0 x6.1.2.2.1),x6.1.2.2.2.1)]))))) none) none) none):=by kernel_rfl
theorem bE.L0.ok:bE.L0.Ok:=by
 refine bE.L0.aI (λ(_,_,l,_,i,_,_,_,_,_,_)=>l.length - i.toNat) ?_
 rintro⟨h,t,l,n,i,o,a,s,gL,u,g⟩ ⟨hl,k,hk,rfl,rfl,rfl,hg⟩
 have hl:l.length<=1000:=hl
 have hk:k<=l.length:=hk
 have hg:g.length=k:=hg
 by_cases mw:k < l.length
 ·left
  have n1:nth ir l k=l[k]:=dQ (t:=ir) mw
  have hd:l.drop k=l[k]::l.drop (k+1):=av mw
  refine⟨(h,t,l,(l.length:Int),((k+1:Nat):Int),o,mo ir l[k] a,s,g.length+1,u,g++ [(l[k],((fv ir l[k] a).getD Ow,()))]),⟨hl,k+1,by omega,rfl,rfl,by simp,by simp[hg]⟩,by simp only[aa];omega,?_,λkn kx=> ?_⟩
  ·simp only[bE.L0.add,bE.L0.F,aa,hd,A7,iv,Au,bR,fp,aO]
   rw[show g.length+1+(l.drop (k+1)).length=g.length+((l.drop (k+1)).length+1) by omega]
  ·rw[bE.L0.step,bI (by omega),ae,bF (by omega) (by omega),ae,aM (aE _),ae,gk (by omega) (by omega),ae,aa,n1,N.pF (by omega),cQ]
   rfl
 ·right
  obtain rfl:k=l.length:=by omega
  intro R kn kx
  rw[bE.L0.step,bp (by omega),ai]
  simp only[bE.L0.add,bE.L0.F,aa,bB,A7,List.foldl_nil,Au,dg,bM,dR]
theorem bE.L1.ok:bE.L1.Ok:=by
 refine bE.L1.aI (λ(_,_,l,_,i,_,_,_,_,_,_)=>l.length - i.toNat) ?_
 rintro⟨h,t,l,n,i,o,a,s,gL,u,g⟩ ⟨hl,he,hb,k,hk,rfl,rfl⟩
 have hl:l.length<=1000:=hl
 have he:l.length=t.2.1.length:=he
 have hk:k<=l.length:=hk
 by_cases mw:k < l.length
 ·left
  have Rt:k < t.2.1.length:=by omega
  have n1:nth ir l k=l[k]:=dQ (t:=ir) mw
  have n2:nth lH t.2.1 k=t.2.1[k]:=dQ (t:=lH) Rt
  have hd:l.drop k=l[k]::l.drop (k+1):=av mw
  have Tn:t.2.1.drop k=t.2.1[k]::t.2.1.drop (k+1):=av Rt
  refine⟨(h,t,l,(l.length:Int),((k+1:Nat):Int),o,lv ir l[k] (t.2.1[k],(h,())) a,s,gL,u,g),⟨hl,he,hb,k+1,by omega,rfl,rfl⟩,by simp only[aa];omega,?_,λkn kx=> ?_⟩
  ·simp only[bE.L1.add,bE.L1.F,aa,hd,Tn,zl]
  ·rw[bE.L1.step,bI (by omega),ae,bF (by omega) (by omega),ae,bF (by omega) (by omega),ae,aa,n1,n2,eJ.run (d:=t.2.1[k]) (hb _ (List.getElem_mem Rt))]
   simp only[ab,eJ.add,eJ.F]
   rw[N.pF (by omega)]
 ·right
  obtain rfl:k=l.length:=by omega
  intro R kn kx
  rw[bE.L1.step,bp (by omega),ai]
  simp only[bE.L1.add,bE.L1.F,aa,bB,zl]
theorem Ea{t:je}{h:Int}{a:List (iF×nA)}(e:(nI t h a).2=0):j9 t=true/\1<=h/\h<=1048576/\∃mU,rJ h (oJ t) a t.1 0= .inr mU/\(gV t).any (pa a)=false/\0<=mU - l9 t.2.1/\nI t h a=(mU - l9 t.2.1,0):=by
 unfold nI at e ⊢
 by_cases h0:j9 t=true/\1<=h/\h<=1048576
 ·rw[if_pos h0]at e
  rw[if_pos h0]
  refine⟨h0.1,h0.2.1,h0.2.2,?_⟩
  cases hi:rJ h (oJ t) a t.1 0 with
  |inl x=>
   exfalso
   rw[hi]at e
   simp only at e
   subst e
   have key:∀(l:List kX) (f:Int),rJ h (oJ t) a l f≠ .inl 0:=by
    intro l
    induction l with
    |nil=>intro f hf;cases hf
    |cons x l ih=>
     intro f hf
     simp only[rJ]at hf
     cases hg:fv ir x.1 a with
     |none=>rw[hg]at hf;simp at hf
     |some c=>
      rw[hg]at hf
      simp only at hf
      split at hf
      ·rename_i lg;exact lg (by injection hf)
      ·exact ih _ hf
   exact key _ _ hi
  |inr mU=>
   rw[hi]at e
   simp only at e ⊢
   by_cases hm:(gV t).any (pa a)=true
   ·rw[if_pos hm]at e;cases e
   ·rw[if_neg hm]at e
    rw[if_neg hm]
    by_cases hf:mU - l9 t.2.1 < 0
    ·rw[if_pos hf]at e;cases e
    ·rw[if_neg hf]
     exact⟨mU,rfl,by simpa using hm,by omega,rfl⟩
 ·rw[if_neg h0]at e;cases e
theorem GO{t:je}(h:j9 t=true):(gS t).length=t.1.length:=by
 unfold gS
 rw[if_pos h,cM]
theorem bE.ok:bE.Ok:=by
 rintro⟨t,h,n,a,s⟩ ⟨hv,ha,hn,hs⟩
 have hv:u9 t:=hv
 have ha:Mh a:=ha
 have hn:n<=s.length:=hn
 have hs:s.length<=1000000:=hs
 rw[bE.eq,aK.run (d:=(t,h,n,a,s)) ⟨hv,ha⟩]
 simp only[ab,aK.add,aK.F,bE.add,bE.F]
 by_cases he:(nI t h a).2=0
 ·rw[gZ he,ai,if_neg (λe=>e he)]
  obtain⟨kA,_,_,_⟩:=Ea he
  obtain⟨⟨_,a2,a3,_⟩,b1,b2⟩:=pD kA
  rw[cJ.run (d:=t) hv]
  simp only[ab,cJ.add,cJ.F]
  rw[bw.run (d:=t) hv.1]
  simp only[ab,bw.add,bw.F]
  rw[bE.L0.run (d:=(h,t,gS t,((gS t).length:Int),0,n,a,s,0,(gV t,()),[])) ⟨by rw[GO kA];omega,0,bm _,rfl,rfl,rfl,rfl⟩]
  simp only[ab,bE.L0.add,bE.L0.F,bH,aW,bt,bl]
  rw[bE.L1.run (d:=(h,t,gV t,((gV t).length:Int),0,n,A7 (gS t) a,s,(gS t).length,(gV t,()),Au a (gS t))) ⟨by rw[sr kA];omega,sr kA,λo ho=>by
   have:=zR (pC _ _ b2 o ho).2
   exact⟨by omega,λb hb=>by have:=this.2 b hb;omega⟩,0,bm _,rfl,rfl⟩]
  simp only[ab,bE.L1.add,bE.L1.F,bH,aW]
  have WR:∀(l:List iF) (a:List (iF×nA)),(Au a l).length=l.length:=by
   intro l
   induction l with
   |nil=>intro a;rfl
   |cons o l ih=>intro a;simp[Au,ih]
  rw[aM (by rw[WR];exact⟨trivial,by omega⟩),ae,aM hn,ae,gk (by omega) (by omega),ae,jf (WR _ _)]
  rfl
 ·rw[jE he,ae,if_pos he]
def bE.E:=Entry.Pu [none,some lS,some ti] bE.st bE.az bE.add bE.F bE.out
def bE.call:bE.D->Option bE.X:=bX bE.E bE.st
theorem bE.run:b8 bE.call bE.az bE.add bE.F:=QC (du [.d lS,.d ti,.n,.d (.slice (.pair ir yj)),.d (.slice rB)] λ_=>by kernel_rfl)
def bE.sg:SG Tryz.prog:=⟨22,aP,bE.E,.Xj (.fn 2 (by kernel_rfl) bE.ok (And.intro (.dp bE.L0.ok (by kernel_rfl)) (And.intro (.dp bE.L1.ok (by kernel_rfl)) trivial)))⟩
section
variable {β:Type} {kt:Ty}
theorem Bn(hc:kt.comp=true)(o o':kt.den)(v:β):∀l:List (kt.den×β),fv kt o (lv kt o' v l)=if kt.beq o o'=true then some v else fv kt o l
 |[]=>by rw[Ey,jm,uc]
 |p::l=>by
  rw[uQ]
  by_cases h:kt.beq o' p.1=true
  ·rw[if_pos h,jm,jm]
   have e:=beq_eq kt _ _ hc h
   by_cases h2:kt.beq o o'=true
   ·rw[if_pos h2,if_pos h2]
   ·rw[if_neg h2,if_neg h2,if_neg (by rw[<-e];exact h2)]
  ·rw[if_neg h,jm,jm,Bn hc o o' v l]
   by_cases h3:kt.beq o p.1=true
   ·rw[if_pos h3,if_pos h3,if_neg]
    intro h4
    apply h
    rw[<-beq_eq kt _ _ hc h4]
    exact h3
   ·rw[if_neg h3,if_neg h3]
theorem JQ(hc:kt.comp=true)(o o':kt.den):∀ {l:List (kt.den×β)},(l.map (·.1)).Nodup->fv kt o (mo kt o' l)=if kt.beq o o'=true then none else fv kt o l
 |[],_=>by rw[Lr,uc];split <;> rfl
 |p::l,hn=>by
  rw[cO,fV]at hn
  rw[xN]
  by_cases h:kt.beq o' p.1=true
  ·rw[if_pos h,jm]
   have e:=beq_eq kt _ _ hc h
   by_cases h2:kt.beq o o'=true
   ·rw[if_pos h2]
    have e2:=beq_eq kt _ _ hc h2
    cases hg:fv kt o l with
    |none=>rfl
    |some v=>exact absurd (eD.2 ⟨_,(mq hc hn.2).1 hg,rfl⟩) (by rw[e2,e];exact hn.1)
   ·rw[if_neg h2,if_neg (by rw[<-e];exact h2)]
  ·rw[if_neg h,jm,jm,JQ hc o o' hn.2]
   by_cases h3:kt.beq o p.1=true
   ·rw[if_pos h3,if_pos h3,if_neg]
    intro h4
    apply h
    rw[<-beq_eq kt _ _ hc h4]
    exact h3
   ·rw[if_neg h3,if_neg h3]
theorem get_none(hc:kt.comp=true){o:kt.den}{l:List (kt.den×β)}(hn:(l.map (·.1)).Nodup):fv kt o l=none↔o ∉ l.map (·.1):=by
 constructor
 ·intro h hm
  obtain⟨p,hp,e⟩:=eD.1 hm
  have e:p.1=o:=e
  have:=(mq hc hn (x:=o) (v:=p.2)).2 (by rw[<-e];exact hp)
  rw[h]at this;cases this
 ·intro h
  cases hg:fv kt o l with
  |none=>rfl
  |some v=>exact absurd (eD.2 ⟨_,(mq hc hn).1 hg,rfl⟩) h
theorem xl{l:List (kt.den×β)}(hn:(l.map (·.1)).Nodup):l.Nodup:=by
 induction l with
 |nil=>exact lF
 |cons p l ih=>
  rw[cO,fV]at hn
  exact fV.2 ⟨λh=>hn.1 (eD.2 ⟨p,h,rfl⟩),ih hn.2⟩
theorem Hw(hc:kt.comp=true){l l':List (kt.den×β)}(hn:(l.map (·.1)).Nodup)(hn':(l'.map (·.1)).Nodup)(h:∀o,fv kt o l=fv kt o l'):l.Perm l':=by
 rw[List.perm_ext_iff_of_nodup (xl hn) (xl hn')]
 rintro⟨o,v⟩
 rw[<-mq hc hn,<-mq hc hn',h]
end
theorem Dx(a b:iF):(Ty.beq ir a b=true)↔a=b:=⟨beq_eq ir a b rfl,λh=>by rw[h];exact beq_refl ir b rfl⟩
abbrev At:=List (iF×nA)
abbrev oU(a:At):List iF:=a.map (·.1)
theorem Rc(o o':iF)(v:nA)(a:At):fv ir o (lv ir o' v a)=if o=o' then some v else fv ir o a:=by
 rw[Bn l6]
 by_cases h:o=o'
 ·rw[if_pos ((Dx _ _).2 h),if_pos h]
 ·rw[if_neg (λe=>h ((Dx _ _).1 e)),if_neg h]
theorem O2(o o':iF){a:At}(hn:(oU a).Nodup):fv ir o (mo ir o' a)=if o=o' then none else fv ir o a:=by
 rw[JQ l6 _ _ hn]
 by_cases h:o=o'
 ·rw[if_pos ((Dx _ _).2 h),if_pos h]
 ·rw[if_neg (λe=>h ((Dx _ _).1 e)),if_neg h]
theorem B9{o:iF}{v:nA}{a:At}(hn:(oU a).Nodup):(oU (lv ir o v a)).Nodup:=AI l6 hn
theorem sE{o:iF}{a:At}(hn:(oU a).Nodup):(oU (mo ir o a)).Nodup:=v5 l6 hn
theorem S9{a a':At}(hn:(oU a).Nodup)(hn':(oU a').Nodup)(h:∀o,fv ir o a=fv ir o a'):a.Perm a':=Hw l6 hn hn' h
theorem Jo{o:iF}{c:nA}{a:At}(hn:(oU a).Nodup)(hg:fv ir o a=some c):a.Perm ((o,c)::mo ir o a):=by
 refine S9 hn ?_ λx=> ?_
 ·show(o::oU (mo ir o a)).Nodup
  refine fV.2 ⟨?_,sE hn⟩
  have:=(get_none l6 (sE (o:=o) hn)).1 (by rw[O2 o o hn,if_pos rfl])
  exact this
 ·rw[jm,O2 x o hn]
  by_cases h:x=o
  ·subst h;rw[if_pos ((Dx _ _).2 rfl),hg]
  ·rw[if_neg (λe=>h ((Dx _ _).1 e)),if_neg h]
theorem zt(o:iF)(l:List iF)(a:At):A7 (o::l) a=A7 l (mo ir o a):=rfl
theorem xz:∀(l:List iF) {a:At},(oU a).Nodup->(oU (A7 l a)).Nodup
 |[],_,h=>h
 |o::l,a,h=>by rw[zt];exact xz l (sE h)
theorem JP(x:iF):∀(l:List iF) {a:At},(oU a).Nodup->fv ir x (A7 l a)=if x∈l then none else fv ir x a
 |[],a,_=>by rw[if_neg (by simp)];rfl
 |o::l,a,h=>by
  rw[zt,JP x l (sE h),O2 x o h]
  by_cases h1:x∈l
  ·rw[if_pos h1,if_pos (bj _ h1)]
  ·rw[if_neg h1]
   by_cases h2:x=o
   ·rw[if_pos h2,if_pos (by rw[h2];exact bh ..)]
   ·rw[if_neg h2,if_neg (by simp[h1,h2])]
theorem wC(h:Int)(o:iF)(l:List iF)(x:kI)(xs:List kI)(a:At):zl h (o::l) (x::xs) a=zl h l xs (lv ir o (x,(h,())) a):=rfl
theorem BI(h:Int):∀(l:List iF) (xs:List kI) {a:At},(oU a).Nodup->(oU (zl h l xs a)).Nodup
 |[],[],_,hn=>hn
 |[],_::_,_,hn=>hn
 |_::_,[],_,hn=>hn
 |o::l,x::xs,a,hn=>by rw[wC];exact BI h l xs (B9 hn)
theorem JO(h:Int)(x:iF):∀(l:List iF) (xs:List kI) (a:At),x ∉ l->fv ir x (zl h l xs a)=fv ir x a
 |[],[],_,_=>rfl
 |[],_::_,_,_=>rfl
 |_::_,[],_,_=>rfl
 |o::l,y::xs,a,hx=>by
  rw[wC,JO h x l xs _ (λe=>hx (bj _ e)),Rc,if_neg (λe=>hx (by rw[e];exact bh ..))]
theorem GG(h:Int):∀(l:List iF) (xs:List kI) (a:At),l.Nodup->∀(k:Nat) (hk:k < l.length) (Ox:k < xs.length),fv ir l[k] (zl h l xs a)=some (xs[k],(h,()))
 |[],_,_,_,k,hk,_=>by simp at hk
 |_::_,[],_,_,k,_,hk=>by simp at hk
 |o::l,y::xs,a,hn,k,hk,Ox=>by
  rw[fV]at hn
  rw[wC]
  cases k with
  |zero=>
   show fv ir o _=some (y,(h,()))
   rw[JO h o l xs _ hn.1,Rc,if_pos rfl]
  |succ k=>
   simp only[List.getElem_cons_succ]
   exact GG h l xs _ hn.2 k (by simpa using hk) (by simpa using Ox)
def qn(a:At)(l:List iF):Int:=(l.map λo=>((fv ir o a).getD Ow).1.1).sum
theorem Gx:∀(l:List iF) {a:At},(oU a).Nodup->l.Nodup->(∀o∈l,(fv ir o a).isSome=true)->vm (A7 l a)=vm a - qn a l/\(A7 l a).length+l.length=a.length
 |[],a,_,_,_=>by simp[A7,qn]
 |o::l,a,hn,hl,ht=>by
  rw[fV]at hl
  obtain⟨c,hc⟩:=dj.1 (ht o (bh ..))
  have hg:∀x∈l,fv ir x (mo ir o a)=fv ir x a:=λx hx=>by
   rw[O2 x o hn,if_neg (λe=>hl.1 (by rw[<-e];exact hx))]
  obtain⟨h1,h2⟩:=Gx l (sE (o:=o) hn) hl.2 λx hx=>by rw[hg x hx];exact ht x (bj _ hx)
  have hp:=Jo hn hc
  have h3:=KF hp
  have h4:=hp.length_eq
  have h5:qn (mo ir o a) l=qn a l:=by
   unfold qn
   congr 1
   exact j6 λx hx=>by rw[hg x hx]
  rw[qy]at h3
  rw[aO]at h4
  rw[zt,h1,h5,aO]
  have h6:qn a (o::l)=c.1.1+qn a l:=by simp[qn,hc]
  rw[h6]
  exact⟨by have h3:vm a=c.1.1+vm (mo ir o a):=h3;omega,by omega⟩
theorem AP(x:kI)(xs:List kI):l9 (x::xs)=x.1+l9 xs:=by simp[l9]
theorem Gc(h:Int):∀(l:List iF) (xs:List kI) {a:At},(oU a).Nodup->l.Nodup->l.length=xs.length->(∀o∈l,fv ir o a=none)->vm (zl h l xs a)=vm a+l9 xs/\(zl h l xs a).length=a.length+l.length
 |[],[],a,_,_,_,_=>by simp[zl,l9]
 |[],_::_,_,_,_,he,_=>by simp at he
 |_::_,[],_,_,_,he,_=>by simp at he
 |o::l,x::xs,a,hn,hl,he,ht=>by
  rw[fV]at hl
  have h0:=(get_none l6 hn).1 (ht o (bh ..))
  have e:lv ir o (x,(h,())) a=a++ [(o,(x,(h,())))]:=v7 l6 h0
  obtain⟨h1,h2⟩:=Gc h l xs (B9 (o:=o) (v:=(x,(h,()))) hn) hl.2 (by simpa using he) λy hy=>by
   rw[Rc,if_neg (λe=>hl.1 (by rw[<-e];exact hy))];exact ht y (bj _ hy)
  rw[wC,h1,h2,e,Gf,AP,aj]
  simp only[vm,cO,jH,List.sum_cons,List.sum_nil,aO,bM]
  omega
theorem Cp:∀(l:List kX) (m:List (iF×Bool)),tE m l=true->(l.map (·.1)).Nodup/\∀x∈l,fv ir x.1 m≠some true
 |[],_,_=>⟨lF,λ_ h=>by cases h⟩
 |x::l,m,h=>by
  rw[tE,ak,ak]at h
  obtain⟨⟨h1,_⟩,h2⟩:=h
  obtain⟨h3,h4⟩:=Cp l _ h2
  have hs:∀y∈l,fv ir y.1 (lv ir x.1 true m)≠some true:=h4
  have lg:∀y∈l,y.1≠x.1:=λy hy e=>hs y hy (by rw[Bn l6,if_pos ((Dx _ _).2 e)])
  refine⟨?_,λy hy=> ?_⟩
  ·rw[cO,fV]
   refine⟨λhm=> ?_,h3⟩
   obtain⟨y,hy,e⟩:=eD.1 hm
   exact lg y hy e
  ·rcases cE.1 hy with rfl | hy
   ·intro e
    unfold xi at h1
    rw[e]at h1
    cases h1
   ·have:=hs y hy
    rw[Bn l6,if_neg (λe=>lg y hy ((Dx _ _).1 e))]at this
    exact this
theorem FP(t:je):(gS t).Nodup:=by
 unfold gS
 split
 ·rename_i h
  exact(Cp _ _ (pD h).2.1).1
 ·exact lF
theorem Cy(t:je):(gV t).Nodup:=by
 unfold gV
 split
 ·unfold pJ
  refine List.Pairwise.map _ (λa b lg e=> ?_) (List.nodup_range' (s:=0) (n:=t.2.1.length) (step:=1))
  have:(a:Int)=b:=congrArg (λo:iF=>o.2.1) e
  exact lg (by omega)
 ·exact lF
theorem xI{h:Int}{id:List Int}{a:At}:∀(l:List kX) (f0 f:Int),rJ h id a l f0= .inr f->(∀o∈l.map (·.1),(fv ir o a).isSome=true)/\f=f0+qn a (l.map (·.1))
 |[],f0,f,e=>by simp only[rJ,Sum.inr.injEq]at e;subst e;simp[qn]
 |x::l,f0,f,e=>by
  simp only[rJ]at e
  cases hg:fv ir x.1 a with
  |none=>rw[hg]at e;cases e
  |some c=>
   rw[hg]at e
   simp only at e
   split at e
   ·cases e
   ·obtain⟨h1,h2⟩:=xI l _ _ e
    refine⟨λo ho=> ?_,?_⟩
    ·rw[cO]at ho
     rcases cE.1 ho with rfl | ho
     ·rw[hg];rfl
     ·exact h1 o ho
    ·rw[h2]
     simp only[qn,cO,List.sum_cons,hg,gj]
     omega
structure tt(t:je)(h:Int)(a:At)(mU:Int):Prop where
 ok:j9 t=true
 h1:1<=h
 h2:h<=1048576
 ins:∃f,rJ h (oJ t) a t.1 0= .inr f/\mU=f - l9 t.2.1
 there:∀o∈gS t,(fv ir o a).isSome=true
 made:∀o∈gV t,fv ir o a=none
 S5:mU=qn a (gS t) - l9 t.2.1
 pos:0<=mU
theorem OQ{t:je}{h:Int}{a:At}(e:(nI t h a).2=0):tt t h a (nI t h a).1:=by
 obtain⟨kA,h1,h2,f,hi,hm,hp,hc⟩:=Ea e
 obtain⟨i1,i2⟩:=xI _ _ _ hi
 have hs:gS t=t.1.map (·.1):=by unfold gS;rw[if_pos kA]
 rw[hc]
 refine⟨kA,h1,h2,⟨f,hi,rfl⟩,by rw[hs];exact i1,λo ho=> ?_,by rw[hs,i2];show 0+_ - _=_;omega,hp⟩
 have:=jr.1 hm o ho
 unfold pa at this
 cases hg:fv ir o a with
 |none=>rfl
 |some c=>rw[hg]at this;simp at this
section
variable {t:je} {h mU:Int} {a:At}
theorem tt.Uh(hc:tt t h a mU)(ha:(oU a).Nodup){o:iF}(ho:o∈gS t):fv ir o (nk t h a)=none:=by
 have hm:o ∉ gV t:=λe=>by
  have:=hc.there o ho
  rw[hc.made o e]at this;cases this
 unfold nk
 rw[JO h o _ _ _ hm,JP o _ ha,if_pos ho]
theorem tt.new(hc:tt t h a mU){k:Nat}(hk:k < (gV t).length)(Ox:k < t.2.1.length):fv ir (gV t)[k] (nk t h a)=some (t.2.1[k],(h,())):=by
 unfold nk
 exact GG h _ _ _ (Cy t) k hk Ox
theorem yo(ha:(oU a).Nodup){o:iF}(h1:o ∉ gS t)(h2:o ∉ gV t):fv ir o (nk t h a)=fv ir o a:=by
 unfold nk
 rw[JO h o _ _ _ h2,JP o _ ha,if_neg h1]
theorem yn(ha:(oU a).Nodup):(oU (nk t h a)).Nodup:=BI h _ _ (xz _ ha)
theorem tt.sum(hc:tt t h a mU)(ha:(oU a).Nodup):vm (nk t h a)=vm a - mU/\(nk t h a).length+t.1.length=a.length+t.2.1.length:=by
 obtain⟨d1,d2⟩:=Gx (gS t) ha (FP t) hc.there
 obtain⟨e1,e2⟩:=Gc h (gV t) t.2.1 (xz (gS t) ha) (Cy t) (sr hc.ok) λo ho=>by
  rw[JP o _ ha];split
  ·rfl
  ·exact hc.made o ho
 have hf:=hc.S5
 have hl:=GO hc.ok
 have hm:=sr hc.ok
 unfold nk
 rw[e1,e2,d1]
 exact⟨by omega,by omega⟩
theorem tt.UZ(hc:tt t h a mU)(ha:Mh a)(hv:u9 t):Mh (nk t h a):=by
 refine⟨yn ha.1,λp hp=> ?_⟩
 have hg:=(mq l6 (yn (t:=t) (h:=h) ha.1) (x:=p.1) (v:=p.2)).2 hp
 by_cases h2:p.1∈gV t
 ·obtain⟨k,hk,e⟩:=List.getElem_of_mem h2
  have Ox:k < t.2.1.length:=by rw[<-sr hc.ok];exact hk
  rw[<-e,hc.new hk Ox]at hg
  have hg:=(cI hg).symm
  have ho:=pC _ _ (pD hc.ok).2.2 _ (List.getElem_mem Ox)
  have hu:=hv.1.1 _ (List.getElem_mem Ox)
  have h1:=hc.h1
  have h3:=hc.h2
  refine⟨?_,?_⟩
  ·rw[<-e]
   have hm:gV t=pJ (oJ t) 0 t.2.1.length:=by unfold gV;rw[if_pos hc.ok]
   simp only[hm,pJ,List.getElem_map]
   have:=(Dg (t:=t))
   exact⟨this.1,λx hx=>this.2 x hx⟩
  ·rw[hg]
   exact⟨ho.2,hu.1,ho.1.1,ho.1.2,by show 0<=h;omega,h3⟩
 ·by_cases h1:p.1∈gS t
  ·rw[hc.Uh ha.1 h1]at hg;cases hg
  ·rw[yo ha.1 h1 h2]at hg
   exact ha.2 p ((mq l6 ha.1).1 hg)
end
end Go.Ab
namespace Go.Ab
open Go.Proofs
noncomputable section
def s8(ch:iP):Lk:=sX [(nm ch 0).1,(nm ch 1).1]
def nM(k0 k1:pE)(c:je):je:=uW c 0 ((0:Int),([jR k0.1 (oJ c),jR k1.1 (oJ c)],((0:Int),())))
abbrev hP.D:=iP
def hP.st:hP.D->SA:=λch=>([.d mW ch],[])
abbrev hP.Y:=Lk
abbrev hP.X:=Lk
def hP.out:hP.X->aX:=λx=>⟨.d qS x,[],[]⟩
def hP.add:hP.D->hP.Y->hP.X:=λch y=>y
def hP.az:hP.D->Prop:=λch=>mX ch
def hP.F:hP.D->hP.Y:=λch=>s8 ch
def hP.G:fD:=gr (P:=Tryz.prog) [il.sg]
def hP.an:fR:= {}
def hP.A:= @dm Tryz.prog hP.G hP.an 0 Tryz.f47 _ hP.st
abbrev hP.Ok:=dn @hP.A hP.az hP.add hP.F hP.out
theorem hP.eq{R:Type}(ch:iP)(k:aX->Option R):hP.A ch k=
 ah (il.call ((nth qo ch.2.2.1 0).1,(nth qo ch.2.2.1 1).1)) λx1=>
 k (hP.out x1):=by kernel_rfl
theorem hP.ok:hP.Ok:=by
 intro ch fI
 have e:il.call ((nth qo ch.2.2.1 0).1,(nth qo ch.2.2.1 1).1)=some (s8 ch):=il.run (d:=((nth qo ch.2.2.1 0).1,(nth qo ch.2.2.1 1).1)) trivial
 rw[hP.eq,e]
 rfl
def hP.E:=Entry.dp [some mW] hP.st hP.az hP.add hP.F hP.out
def hP.call:hP.D->Option hP.X:=bX hP.E hP.st
theorem hP.run:b8 hP.call hP.az hP.add hP.F:=dv (du [.d mW] λ_=>by kernel_rfl)
def hP.sg:SG Tryz.prog:=⟨47,aP,hP.E,.fn 0 (by kernel_rfl) hP.ok trivial⟩
abbrev gA.D:=pE×je
def gA.st:gA.D->SA:=λ(kit,t)=>([.d rU kit,.d lS t],[])
abbrev gA.Y:=Sg
abbrev gA.X:=Sg
def gA.out:gA.X->aX:=λx=>⟨.d Ak x,[],[]⟩
def gA.add:gA.D->gA.Y->gA.X:=λ(kit,t) y=>y
def gA.az:gA.D->Prop:=λ(k,t)=>iy k.1/\u9 t
def gA.F:gA.D->gA.Y:=λ(k,t)=>jR k.1 (oJ t)
def gA.G:fD:=gr (P:=Tryz.prog) [tid.sg,gh.sg]
def gA.an:fR:= {}
def gA.A:= @dm Tryz.prog gA.G gA.an 0 Tryz.f49 _ gA.st
abbrev gA.Ok:=dn @gA.A gA.az gA.add gA.F gA.out
theorem gA.eq{R:Type}(kit:pE)(t:je)(k:aX->Option R):gA.A (kit,t) k=
 ah (tid.call t) λx1=>
 ah (gh.call (kit.1,x1)) λx2=>
 k (gA.out x2):=by kernel_rfl
theorem gA.ok:gA.Ok:=by
 rintro⟨k,t⟩ ⟨hk,hv⟩
 have e:tid.call t=some (oJ t):=tid.run (d:=t) hv
 have hm:Sm (oJ t):=Dg
 have ea:∀d y,gA.add d y=y:=λ_ _=>rfl
 have eF:gA.F (k,t)=jR k.1 (oJ t):=rfl
 rw[gA.eq,e,ab,ea,eF]
 generalize oJ t=m at hm
 rw[gh.run (d:=(k.1,m)) ⟨hk,hm⟩]
 simp only[ab,gh.add,gh.F]
def gA.E:=Entry.dp [some rU,some lS] gA.st gA.az gA.add gA.F gA.out
def gA.call:gA.D->Option gA.X:=bX gA.E gA.st
theorem gA.run:b8 gA.call gA.az gA.add gA.F:=dv (du [.d rU,.d lS] λ_=>by kernel_rfl)
def gA.sg:SG Tryz.prog:=⟨49,aP,gA.E,.fn 0 (by kernel_rfl) gA.ok trivial⟩
abbrev ao.L0.D:=Int×Int×Nat×Nat×(Int×Unit)×(Int×Unit)×(List kX)×(List kI)
def ao.L0.st:ao.L0.D->AS:=λ(t17,t18,DM,q9,n1,n2,n9,CE)=>⟨([.undef,.ptr (.new 1 0) 0 [] 0,.ptr (.new 2 0) 0 [] 0]++bG 14 ([.d ti t17,.d ti t18]++bG 56 [])),[],([[],[.obj 0 false (.pr (.di (.new 9 0) 0 [] 0 0 DM) (.pr (.di (.new 12 0) 0 [] 0 0 q9) (.d (.pair ti .unit) n1)))],[.obj 0 false (.pr (.eU) (.pr (.eU) (.d (.pair ti .unit) n2)))]]++dh 6 ([[.obj 0 false (.vec 93 kW n9)],[],[],[.obj 0 false (.vec 100 lH CE)]]++dh 62 []))⟩
abbrev ao.L0.Y0:=(List kX)
abbrev ao.L0.X0:=(Nat×Nat×(Int×Unit)×(Int×Unit)×(List kI))×((List kX))
def ao.L0.bY:ao.L0.X0->Exit×AS:=λx=>(.exit 0,⟨([.undef,.ptr (.new 1 0) 0 [] 0,.ptr (.new 2 0) 0 [] 0]++bG 72 []),[],([[],[.obj 0 false (.pr (.di (.new 9 0) 0 [] 0 0 x.1.1) (.pr (.di (.new 12 0) 0 [] 0 0 x.1.2.1) (.d (.pair ti .unit) x.1.2.2.1)))],[.obj 0 false (.pr (.eU) (.pr (.eU) (.d (.pair ti .unit) x.1.2.2.2.1)))]]++dh 6 ([[.obj 0 false (.vec 93 kW x.2)],[],[],[.obj 0 false (.vec 100 lH x.1.2.2.2.2)]]++dh 62 []))⟩)
abbrev ao.L0.X:=ao.L0.X0
abbrev ao.L0.Y:=ao.L0.Y0
def ao.L0.out:ao.L0.X->Out (Exit×AS):=λx=> .ok (ao.L0.bY x)
def ao.L0.add:ao.L0.D->ao.L0.Y->ao.L0.X:=λ(t17,t18,DM,q9,n1,n2,n9,CE) y=>((DM,q9,n1,n2,CE),y)
abbrev ao.L1.D:=Int×Int×Nat×Nat×(Int×Unit)×(Int×Unit)×(List kX)×(List kI)
def ao.L1.st:ao.L1.D->AS:=λ(t38,t39,sH,ra,xO,lR,oW,qe)=>⟨([.undef,.ptr (.new 1 0) 0 [] 0,.ptr (.new 2 0) 0 [] 0]++bG 35 ([.d ti t38,.d ti t39]++bG 35 [])),[],([[],[.obj 0 false (.pr (.di (.new 9 0) 0 [] 0 0 sH) (.pr (.di (.new 12 0) 0 [] 0 0 ra) (.d (.pair ti .unit) xO)))],[.obj 0 false (.pr (.eU) (.pr (.eU) (.d (.pair ti .unit) lR)))]]++dh 6 ([[.obj 0 false (.vec 93 kW oW)],[],[],[.obj 0 false (.vec 100 lH qe)]]++dh 62 []))⟩
abbrev ao.L1.Y0:=Nat×Nat×(Int×Unit)×(Int×Unit)×(List kX)×(List kI)
abbrev ao.L1.X0:=Nat×Nat×(Int×Unit)×(Int×Unit)×(List kX)×(List kI)
def ao.L1.bY:ao.L1.X0->Exit×AS:=λx=>(.exit 2,⟨([.undef,.ptr (.new 1 0) 0 [] 0,.ptr (.new 2 0) 0 [] 0]++bG 72 []),[],([[],[.obj 0 false (.pr (.di (.new 9 0) 0 [] 0 0 x.1) (.pr (.di (.new 12 0) 0 [] 0 0 x.2.1) (.d (.pair ti .unit) x.2.2.1)))],[.obj 0 false (.pr (.eU) (.pr (.eU) (.d (.pair ti .unit) x.2.2.2.1)))]]++dh 6 ([[.obj 0 false (.vec 93 kW x.2.2.2.2.1)],[],[],[.obj 0 false (.vec 100 lH x.2.2.2.2.2)]]++dh 62 []))⟩)
abbrev ao.L1.X:=ao.L1.X0
abbrev ao.L1.Y:=ao.L1.Y0
def ao.L1.out:ao.L1.X->Out (Exit×AS):=λx=> .ok (ao.L1.bY x)
def ao.L1.add:ao.L1.D->ao.L1.Y->ao.L1.X:=λ(t38,t39,sH,ra,xO,lR,oW,qe) y=>y
abbrev ao.L2.D:=Int×Nat×Int×Int×Int×Int×Nat×Nat×(Int×Unit)×(Int×Unit)×(List kX)×(List kI)×(List ov)
def ao.L2.st:ao.L2.D->AS:=λ(i,lL,rz,rA,t51,t52,rb,re,v9,rf,wa,qZ,um)=>⟨([.undef,.ptr (.new 1 0) 0 [] 0,.ptr (.new 2 0) 0 [] 0,.undef,.d ti i,.di (.new 49 0) 0 [] 0 0 lL]++bG 32 ([.d ti rz,.d ti rA]++bG 11 ([.d ti t51,.d ti t52]++bG 22 []))),[],([[],[.obj 0 false (.pr (.di (.new 9 0) 0 [] 0 0 rb) (.pr (.di (.new 12 0) 0 [] 0 0 re) (.d (.pair ti .unit) v9)))],[.obj 0 false (.pr (.eU) (.pr (.eU) (.d (.pair ti .unit) rf)))]]++dh 6 ([[.obj 0 false (.vec 93 kW wa)],[],[],[.obj 0 false (.vec 100 lH qZ)]]++dh 36 ([[.obj 0 false (.vec 58 mC um)]]++dh 25 [])))⟩
abbrev ao.L2.Y0:=(List ov)×(List ov)
abbrev ao.L2.X0:=(Int×Int×Int×Nat×Nat×(Int×Unit)×(Int×Unit)×(List kX)×(List kI))×((List ov)×(List ov))
def ao.L2.bY:ao.L2.X0->Exit×AS:=λx=>(.exit 4,⟨([.undef,.ptr (.new 1 0) 0 [] 0,.ptr (.new 2 0) 0 [] 0,.undef,.d ti x.1.1,.d (.slice mC) x.2.1]++bG 32 ([.d ti x.1.2.1,.d ti x.1.2.2.1]++bG 35 [])),[],([[],[.obj 0 false (.pr (.di (.new 9 0) 0 [] 0 0 x.1.2.2.2.1) (.pr (.di (.new 12 0) 0 [] 0 0 x.1.2.2.2.2.1) (.d (.pair ti .unit) x.1.2.2.2.2.2.1)))],[.obj 0 false (.pr (.eU) (.pr (.eU) (.d (.pair ti .unit) x.1.2.2.2.2.2.2.1)))]]++dh 6 ([[.obj 0 false (.vec 93 kW x.1.2.2.2.2.2.2.2.1)],[],[],[.obj 0 false (.vec 100 lH x.1.2.2.2.2.2.2.2.2)]]++dh 36 ([[.obj 0 true (.vec 58 mC x.2.2)]]++dh 25 [])))⟩)
abbrev ao.L2.X:=ao.L2.X0
abbrev ao.L2.Y:=ao.L2.Y0
def ao.L2.out:ao.L2.X->Out (Exit×AS):=λx=> .ok (ao.L2.bY x)
def ao.L2.add:ao.L2.D->ao.L2.Y->ao.L2.X:=λ(i,lL,rz,rA,t51,t52,rb,re,v9,rf,wa,qZ,um) y=>((i,rz,rA,rb,re,v9,rf,wa,qZ),y)
abbrev ao.D:=je
def ao.st:ao.D->SA:=λt=>([.d lS t],[])
abbrev ao.Y:=Nat×((List kI)×(Int×Unit))×(List kX)
abbrev ao.X:=Nat×((List kI)×(Int×Unit))×(List kX)
def ao.out:ao.X->aX:=λx=>⟨.pr (.di (.new 0 0) 0 [] 0 0 x.1) (.d (.pair (.slice lH) (.pair ti .unit)) x.2.1),[],[.obj 0 false (.vec 93 kW x.2.2)]⟩
def ao.add:ao.D->ao.Y->ao.X:=λt y=>y
def ao.L0.az:ao.L0.D->Prop:=λ(m,i,L,L2,u,v,l,os)=>(l.length<=1000/\∀x∈l,x.2.1.2.1.length<=1000000)/\∃k:Nat,k<=l.length/\i=k/\m=l.length/\L=l.length
def ao.L0.F:ao.L0.D->ao.L0.Y:=λ(m,i,L,L2,u,v,l,os)=>l
def ao.L2.az:ao.L2.D->Prop:=λ(kv,L,m1,i1,m,i,L5,L6,u,v,ls,os,bs)=>(bs.length<=1000/\∀x∈bs,x.1.length<=1000000)/\∃k:Nat,k<=bs.length/\i=k/\m=bs.length/\L=bs.length
def ao.L2.F:ao.L2.D->ao.L2.Y:=λ(kv,L,m1,i1,m,i,L5,L6,u,v,ls,os,bs)=>(bs,bs)
def ao.L1.az:ao.L1.D->Prop:=λ(m,i,L3,L,u,v,ls,os)=>(os.length<=1000/\∀x∈os,x.2.1.1.length<=1000/\∀b∈x.2.1.1,b.1.length<=1000000)/\∃k:Nat,k<=os.length/\i=k/\m=os.length/\L=os.length
def ao.L1.F:ao.L1.D->ao.L1.Y:=λ(m,i,L3,L,u,v,ls,os)=>(L3,L,u,v,ls,os)
def ao.az:ao.D->Prop:=λt=>j9 t=true
def ao.F:ao.D->ao.Y:=λt=>(t.1.length,(t.2.1,t.2.2),t.1)
def ao.G:fD:=gr (P:=Tryz.prog) [jt.sg,fX.sg,fY.sg,iZ.sg,dV.sg]
def ao.L0.E:=cU.dp ao.L0.st ao.L0.az ao.L0.add ao.L0.F ao.L0.out
def ao.L0.call:ao.L0.D->Option ao.L0.X:=eI ao.L0.E ao.L0.st
def ao.L1.E:=cU.dp ao.L1.st ao.L1.az ao.L1.add ao.L1.F ao.L1.out
def ao.L1.call:ao.L1.D->Option ao.L1.X:=eI ao.L1.E ao.L1.st
def ao.L2.E:=cU.dp ao.L2.st ao.L2.az ao.L2.add ao.L2.F ao.L2.out
def ao.L2.call:ao.L2.D->Option ao.L2.X:=eI ao.L2.E ao.L2.st
def ao.an:fR:= {cZ:=[1],loops:=om [(3,{bO:=[1,2,17,18],sites:=[1,2,9,12]}),(8,{bO:=[1,2,38,39],sites:=[1,2,9,12]}),(12,{bO:=[1,2,4,5,38,39,51,52],sites:=[1,2,9,12,49]})],outs:=oh [(3,{bO:=[1,2],sites:=[1,2,9,12]},{bO:=[2]}),(8,{bO:=[1,2],sites:=[1,2,9,12]},{bO:=[2]}),(12,{bO:=[1,2,4,5,38,39],sites:=[1,2,9,12,49],data:=[(5,(.slice mC))]},{bO:=[2]})],jo:=pb [(3,ao.L0.E),(8,ao.L1.E),(12,ao.L2.E)],E7:=[⟨2,[.snd,.fst],(.slice lH)⟩]}
def ao.A:= @dm Tryz.prog ao.G ao.an 0 Tryz.f101 _ ao.st
abbrev ao.Ok:=dn @ao.A ao.az ao.add ao.F ao.out
def ao.L0.R:= @dr Tryz.prog ao.G ao.an 0 Tryz.f101 0 _ ao.L0.st
abbrev ao.L0.Ok:=gz Tryz.prog ao.G ao.an 0 Tryz.f101 0 ao.L0.st ao.L0.az ao.L0.add ao.L0.F ao.L0.out
def ao.L1.R:= @dr Tryz.prog ao.G ao.an 0 Tryz.f101 1 _ ao.L1.st
abbrev ao.L1.Ok:=gz Tryz.prog ao.G ao.an 0 Tryz.f101 1 ao.L1.st ao.L1.az ao.L1.add ao.L1.F ao.L1.out
def ao.L2.R:= @dr Tryz.prog ao.G ao.an 0 Tryz.f101 2 _ ao.L2.st
abbrev ao.L2.Ok:=gz Tryz.prog ao.G ao.an 0 Tryz.f101 2 ao.L2.st ao.L2.az ao.L2.add ao.L2.F ao.L2.out
theorem ao.L0.run:b8 ao.L0.call ao.L0.az ao.L0.add ao.L0.F:=gR (gJ [.d ti,.d ti,.n,.n,.d (.pair ti .unit),.d (.pair ti .unit),.d (.slice kW),.d (.slice lH)] λ_=>by kernel_rfl)
theorem ao.L0.aI:jl @ao.L0.R ao.L0.st ao.L0.az ao.L0.add ao.L0.F ao.L0.bY ao.L0.Ok:=js
theorem ao.L0.step{R:Type}(t17:Int)(t18:Int)(DM:Nat)(q9:Nat)(n1:(Int×Unit))(n2:(Int×Unit))(n9:(List kX))(CE:(List kI))(kn:AS->Option R)(kx:Exit->AS->Option R):ao.L0.R (t17,t18,DM,q9,n1,n2,n9,CE) kn kx=
  aJ ((jM t18 t17)) (
   aJ (fB t18 ((DM:Nat):Int)) (
   aJ (decide ((0+(Int.toNat t18)) < (List.length n9))) (
   aJ (decide ((((0+(Int.toNat t18))*36)+34)=(((0+((Int.toNat t18)*36))+33)+1))) (
   ah (fY.call (nth kW n9 (0+(Int.toNat t18))).2.1.2.1) λx1=>
   aJ (fB t18 ((DM:Nat):Int)) (
   aJ (decide ((0+(Int.toNat t18)) < (List.length n9))) (
   aJ (decide ((((0+(Int.toNat t18))*36)+34)=(((0+((Int.toNat t18)*36))+33)+1))) (
   aJ (decide ((0+(Int.toNat t18)) < (List.length n9))) (
   kn (ao.L0.st (t17,(bV .i64 t18 (1:Int)),DM,q9,n1,n2,(List.set n9 (0+(Int.toNat t18)) ((nth kW n9 (0+(Int.toNat t18))).1,(((nth kW n9 (0+(Int.toNat t18))).2.1.1,(x1,(nth kW n9 (0+(Int.toNat t18))).2.1.2.2)),(nth kW n9 (0+(Int.toNat t18))).2.2))),CE))) none) none) none) none) none) none) none) (
   kx (ao.L0.bY ((DM,q9,n1,n2,CE),n9)).1 (ao.L0.bY ((DM,q9,n1,n2,CE),n9)).2):=by kernel_rfl
theorem ao.L1.run:b8 ao.L1.call ao.L1.az ao.L1.add ao.L1.F:=gR (gJ [.d ti,.d ti,.n,.n,.d (.pair ti .unit),.d (.pair ti .unit),.d (.slice kW),.d (.slice lH)] λ_=>by kernel_rfl)
theorem ao.L1.aI:jl @ao.L1.R ao.L1.st ao.L1.az ao.L1.add ao.L1.F ao.L1.bY ao.L1.Ok:=js
theorem ao.L1.step{R:Type}(t38:Int)(t39:Int)(sH:Nat)(ra:Nat)(xO:(Int×Unit))(lR:(Int×Unit))(oW:(List kX))(qe:(List kI))(kn:AS->Option R)(kx:Exit->AS->Option R):ao.L1.R (t38,t39,sH,ra,xO,lR,oW,qe) kn kx=
  aJ ((jM t39 t38)) (
   aJ (fB t39 ((ra:Nat):Int)) (
   aJ (decide ((0+(Int.toNat t39)) < (List.length qe))) (
   aJ (decide ((((0+(Int.toNat t39))*2)+1)=(((0+((Int.toNat t39)*2))+1)+0))) (
   ah (iZ.call (nth lH qe (0+(Int.toNat t39))).2.1.1) λx1=>
   ah (ao.L2.call (t39,x1.1,t38,t39,((x1.1:Nat):Int),(0:Int),sH,ra,xO,lR,oW,qe,x1.2)) λx2=>
   aJ (fB x2.1.1 ((x2.1.2.2.2.2.1:Nat):Int)) (
   aJ (decide ((0+(Int.toNat x2.1.1)) < (List.length x2.1.2.2.2.2.2.2.2.2))) (
   aJ (decide ((((0+(Int.toNat x2.1.1))*2)+1)=(((0+((Int.toNat x2.1.1)*2))+1)+0))) (
   aJ (decide ((0+(Int.toNat x2.1.1)) < (List.length x2.1.2.2.2.2.2.2.2.2))) (
   kn (ao.L1.st (x2.1.2.1,(bV .i64 x2.1.2.2.1 (1:Int)),x2.1.2.2.2.1,x2.1.2.2.2.2.1,x2.1.2.2.2.2.2.1,x2.1.2.2.2.2.2.2.1,x2.1.2.2.2.2.2.2.2.1,(List.set x2.1.2.2.2.2.2.2.2.2 (0+(Int.toNat x2.1.1)) ((nth lH x2.1.2.2.2.2.2.2.2.2 (0+(Int.toNat x2.1.1))).1,((x2.2.1,(nth lH x2.1.2.2.2.2.2.2.2.2 (0+(Int.toNat x2.1.1))).2.1.2),(nth lH x2.1.2.2.2.2.2.2.2.2 (0+(Int.toNat x2.1.1))).2.2)))))) none) none) none) none) none) none) none) (
   kx (ao.L1.bY (sH,ra,xO,lR,oW,qe)).1 (ao.L1.bY (sH,ra,xO,lR,oW,qe)).2):=by kernel_rfl
theorem ao.L2.run:b8 ao.L2.call ao.L2.az ao.L2.add ao.L2.F:=gR (gJ [.d ti,.n,.d ti,.d ti,.d ti,.d ti,.n,.n,.d (.pair ti .unit),.d (.pair ti .unit),.d (.slice kW),.d (.slice lH),.d (.slice mC)] λ_=>by kernel_rfl)
theorem ao.L2.aI:jl @ao.L2.R ao.L2.st ao.L2.az ao.L2.add ao.L2.F ao.L2.bY ao.L2.Ok:=js
theorem ao.L2.step{R:Type}(i:Int)(lL:Nat)(rz:Int)(rA:Int)(t51:Int)(t52:Int)(rb:Nat)(re:Nat)(v9:(Int×Unit))(rf:(Int×Unit))(wa:(List kX))(qZ:(List kI))(um:(List ov))(kn:AS->Option R)(kx:Exit->AS->Option R):ao.L2.R (i,lL,rz,rA,t51,t52,rb,re,v9,rf,wa,qZ,um) kn kx=
  aJ ((jM t52 t51)) (
   aJ (fB t52 ((lL:Nat):Int)) (
   aJ (decide ((0+(Int.toNat t52)) < (List.length um))) (
   aJ (decide ((((0+(Int.toNat t52))*4)+0)=((0+((Int.toNat t52)*4))+0))) (
   ah (dV.call (nth mC um (0+(Int.toNat t52))).1) λx1=>
   aJ (fB t52 ((lL:Nat):Int)) (
   aJ (decide ((0+(Int.toNat t52)) < (List.length um))) (
   aJ (decide ((((0+(Int.toNat t52))*4)+0)=((0+((Int.toNat t52)*4))+0))) (
   aJ (decide ((0+(Int.toNat t52)) < (List.length um))) (
   kn (ao.L2.st (i,lL,rz,rA,t51,(bV .i64 t52 (1:Int)),rb,re,v9,rf,wa,qZ,(List.set um (0+(Int.toNat t52)) (x1,(nth mC um (0+(Int.toNat t52))).2))))) none) none) none) none) none) none) none) (
   aJ (decide (0=0/\(0+lL)<=(List.length um))) (
   kx (ao.L2.bY ((i,rz,rA,rb,re,v9,rf,wa,qZ),((cut um 0 lL),um))).1 (ao.L2.bY ((i,rz,rA,rb,re,v9,rf,wa,qZ),((cut um 0 lL),um))).2) none):=by kernel_rfl
theorem ao.eq{R:Type}(t:je)(k:aX->Option R):ao.A t k=
 ah (jt.call t.1) λx1=>
 ah (fX.call t.2.1) λx2=>
 ah (ao.L0.call (((x1.1:Nat):Int),(0:Int),x1.1,x2.1,t.2.2,((0:Int),()),x1.2,x2.2)) λx4=>
 ah (ao.L1.call (((x4.1.2.1:Nat):Int),(0:Int),x4.1.1,x4.1.2.1,x4.1.2.2.1,x4.1.2.2.2.1,x4.2,x4.1.2.2.2.2)) λx8=>
 aJ (decide (0=0/\(0+x8.2.1)<=(List.length x8.2.2.2.2.2))) (
 k (ao.out (x8.1,((cut x8.2.2.2.2.2 0 x8.2.1),x8.2.2.1),x8.2.2.2.2.1))) none:=by kernel_rfl
theorem ao.L0.ok:ao.L0.Ok:=by
 refine ao.L0.aI (λ(m,i,L,L2,u,v,l,os)=>l.length - Int.toNat i) ?_
 rintro⟨m,i,L,L2,u,v,l,os⟩ ⟨⟨hlen,hx⟩,k,hk,rfl,rfl,rfl⟩
 have hlen:l.length<=1000:=hlen
 have hk:k<=l.length:=hk
 by_cases h:k < l.length
 ·left
  have n1:nth kW l k=l[k]:=dQ (t:=kW) h
  have hs:l.set k l[k]=l:=gu h
  have e:=hx _ (List.getElem_mem h)
  refine⟨((l.length:Int),((k+1:Nat):Int),l.length,L2,u,v,l,os),⟨⟨hlen,hx⟩,k+1,by omega,rfl,rfl,rfl⟩,by simp only[aa];omega,rfl,λkn kx=> ?_⟩
  rw[ao.L0.step,bI (by omega),bF (by omega) (by omega)]
  simp only[aa,bl,dR,gX,Nat.reduceAdd,ae,aM h,decide_true,n1]
  rw[fY.run (d:=l[k].2.1.2.1) e]
  simp only[ab,fY.add,fY.F]
  rw[N.pF (by omega)]
  exact congrArg (λz=>kn (ao.L0.st (_,_,_,_,_,_,z,_))) hs
 ·right
  obtain rfl:k=l.length:=by omega
  intro R kn kx
  rw[ao.L0.step,bp (by omega),ai]
  rfl
theorem ao.L2.ok:ao.L2.Ok:=by
 refine ao.L2.aI (λ(kv,L,m1,i1,m,i,L5,L6,u,v,ls,os,bs)=>bs.length - Int.toNat i) ?_
 rintro⟨kv,L,m1,i1,m,i,L5,L6,u,v,ls,os,bs⟩ ⟨⟨hlen,hx⟩,k,hk,rfl,rfl,rfl⟩
 have hlen:bs.length<=1000:=hlen
 have hk:k<=bs.length:=hk
 by_cases h:k < bs.length
 ·left
  have n1:nth mC bs k=bs[k]:=dQ (t:=mC) h
  have hs:bs.set k bs[k]=bs:=gu h
  have e:=hx _ (List.getElem_mem h)
  refine⟨(kv,bs.length,m1,i1,(bs.length:Int),((k+1:Nat):Int),L5,L6,u,v,ls,os,bs),⟨⟨hlen,hx⟩,k+1,by omega,rfl,rfl,rfl⟩,by simp only[aa];omega,rfl,λkn kx=> ?_⟩
  rw[ao.L2.step,bI (by omega),bF (by omega) (by omega)]
  simp only[aa,bl,dR,gX,Nat.reduceAdd,ae,aM h,decide_true,n1]
  rw[dV.run (d:=bs[k].1) e]
  simp only[ab,dV.add,dV.F]
  rw[N.pF (by omega)]
  exact congrArg (λz=>kn (ao.L2.st (_,_,_,_,_,_,_,_,_,_,_,_,z))) hs
 ·right
  obtain rfl:k=bs.length:=by omega
  intro R kn kx
  rw[ao.L2.step,bp (by omega),ai]
  simp only[bl,aE,and_self,decide_true,ae,jf]
  rfl
theorem ao.L1.ok:ao.L1.Ok:=by
 refine ao.L1.aI (λ(m,i,L3,L,u,v,ls,os)=>os.length - Int.toNat i) ?_
 rintro⟨m,i,L3,L,u,v,ls,os⟩ ⟨⟨hlen,hx⟩,k,hk,rfl,rfl,rfl⟩
 have hlen:os.length<=1000:=hlen
 have hk:k<=os.length:=hk
 by_cases h:k < os.length
 ·left
  have n1:nth lH os k=os[k]:=dQ (t:=lH) h
  have hs:os.set k os[k]=os:=gu h
  have e:=hx _ (List.getElem_mem h)
  refine⟨((os.length:Int),((k+1:Nat):Int),L3,os.length,u,v,ls,os),⟨⟨hlen,hx⟩,k+1,by omega,rfl,rfl,rfl⟩,by simp only[aa];omega,rfl,λkn kx=> ?_⟩
  rw[ao.L1.step,bI (by omega),bF (by omega) (by omega)]
  simp only[aa,bl,dR,gX,Nat.reduceAdd,ae,aM h,decide_true,n1]
  rw[iZ.run (d:=os[k].2.1.1) (by show os[k].2.1.1.length<=_;have:=e.1;omega)]
  simp only[ab,iZ.add,iZ.F]
  rw[ao.L2.run (d:=((k:Int),os[k].2.1.1.length,(os.length:Int),(k:Int),(os[k].2.1.1.length:Int),0,L3,os.length,u,v,ls,os,os[k].2.1.1)) ⟨e,0,bm _,rfl,rfl,rfl⟩]
  simp only[ab,ao.L2.add,ao.L2.F,aa,n1,ae,aM h,bF (show(0:Int)<=(k:Int) by omega) (show(k:Int) < (os.length:Int) by omega)]
  rw[N.pF (by omega)]
  exact congrArg (λz=>kn (ao.L1.st (_,_,_,_,_,_,_,z))) hs
 ·right
  obtain rfl:k=os.length:=by omega
  intro R kn kx
  rw[ao.L1.step,bp (by omega),ai]
  rfl
theorem ao.ok:ao.Ok:=by
 rintro⟨is,os,nt,u⟩ kA
 obtain⟨⟨_,a2,a3,_⟩,b1,b2⟩:=pD kA
 have a2:is.length<=64:=a2
 have a3:os.length<=64:=a3
 rw[ao.eq,jt.run (d:=is) (by show is.length<=_;omega),fX.run (d:=os) (by show os.length<=_;omega)]
 simp only[ab,jt.add,jt.F,fX.add,fX.F]
 rw[ao.L0.run (d:=(is.length,0,is.length,os.length,(nt,u),(0,()),is,os)) ⟨⟨by show is.length<=_;omega,λx hx=>by have:=(Fp (ub _ _ b1 x hx)).2.2.2.2;omega⟩,0,bm _,rfl,rfl,rfl⟩]
 simp only[ab,ao.L0.add,ao.L0.F]
 rw[ao.L1.run (d:=(os.length,0,is.length,os.length,(nt,u),(0,()),is,os)) ⟨⟨by show os.length<=_;omega,λx hx=>by
  have:=zR (pC _ _ b2 x hx).2
  exact⟨by omega,λb hb=>by have:=this.2 b hb;omega⟩⟩,0,bm _,rfl,rfl,rfl⟩]
 simp only[ab,ao.L1.add,ao.L1.F,bl,aE,and_self,decide_true,ae,jf]
 rfl
def ao.E:=Entry.dp [some lS] ao.st ao.az ao.add ao.F ao.out
def ao.call:ao.D->Option ao.X:=bX ao.E ao.st
theorem ao.run:b8 ao.call ao.az ao.add ao.F:=dv (du [.d lS] λ_=>by kernel_rfl)
def ao.sg:SG Tryz.prog:=⟨101,aP,ao.E,.fn 3 (by kernel_rfl) ao.ok (And.intro (.dp ao.L0.ok (by kernel_rfl)) (And.intro (.dp ao.L1.ok (by kernel_rfl)) (And.intro (.dp ao.L2.ok (by kernel_rfl)) trivial)))⟩
abbrev hM.D:=je×Sg×Sg
def hM.st:hM.D->SA:=λ(t,a,b)=>([.d lS t,.d Ak a,.d Ak b],[])
abbrev hM.Y:=je
abbrev hM.X:=je
def hM.out:hM.X->aX:=λx=>⟨.d lS x,[],[]⟩
def hM.add:hM.D->hM.Y->hM.X:=λ(t,a,b) y=>y
def hM.az:hM.D->Prop:=λ(t,_,_)=>j9 t=true
def hM.F:hM.D->hM.Y:=λ(t,a,b)=>uW t 0 ((0:Int),([a,b],((0:Int),())))
def hM.G:fD:=gr (P:=Tryz.prog) [ao.sg]
def hM.an:fR:= {cZ:=[3],res:=[some lS]}
def hM.A:= @dm Tryz.prog hM.G hM.an 0 Tryz.f48 _ hM.st
abbrev hM.Ok:=dn @hM.A hM.az hM.add hM.F hM.out
theorem hM.eq{R:Type}(t:je)(a:Sg)(b:Sg)(k:aX->Option R):hM.A (t,a,b) k=
  ah (ao.call t) λx1=>
  aJ ((sh ((x1.1:Nat):Int) (0:Int))) (
   aJ (fB (0:Int) ((x1.1:Nat):Int)) (
   aJ (decide (0 < (List.length x1.2.2))) (
   aJ (decide (0 < (List.length x1.2.2))) (
   aJ (decide (0=0/\(0+x1.1)<=(List.length (List.set x1.2.2 0 ((nth kW x1.2.2 0).1,(((0:Int),([a,b],((0:Int),()))),(nth kW x1.2.2 0).2.2)))))) (
   k (hM.out ((cut (List.set x1.2.2 0 ((nth kW x1.2.2 0).1,(((0:Int),([a,b],((0:Int),()))),(nth kW x1.2.2 0).2.2))) 0 x1.1),x1.2.1))) none) none) none) none) (
   aJ (decide (0=0/\(0+x1.1)<=(List.length x1.2.2))) (
   k (hM.out ((cut x1.2.2 0 x1.1),x1.2.1))) none):=by kernel_rfl
theorem hM.ok:hM.Ok:=by
 rintro⟨t,a,b⟩ kA
 have kA:j9 t=true:=kA
 have hl:=(pD kA).1.1
 rw[hM.eq,ao.run (d:=t) kA]
 simp only[ab,ao.add,ao.F]
 rw[fE (by omega),ae,bF (by omega) (by omega),ae,aM (show 0 < t.1.length by omega),ae,ae,aM ⟨trivial,by rw[ej];omega⟩,ae,jf (by rw[ej])]
 rfl
def hM.E:=Entry.dp [some lS,some Ak,some Ak] hM.st hM.az hM.add hM.F hM.out
def hM.call:hM.D->Option hM.X:=bX hM.E hM.st
theorem hM.run:b8 hM.call hM.az hM.add hM.F:=dv (du [.d lS,.d Ak,.d Ak] λ_=>by kernel_rfl)
def hM.sg:SG Tryz.prog:=⟨48,aP,hM.E,.fn 0 (by kernel_rfl) hM.ok trivial⟩
abbrev aA.L0.D:=(List Bs)×Int
def aA.L0.st:aA.L0.D->AS:=λ(Be,i)=>⟨([.d (.slice tH) Be,.undef,.undef,.d ti i]++bG 27 []),[],(List.replicate 31 [])⟩
abbrev aA.L0.Y0:=Unit
abbrev aA.L0.X0:=Unit
def aA.L0.bY:aA.L0.X0->Exit×AS:=λx=>(.ret,⟨([.undef,.undef,.d .bool false]++bG 28 []),[],(List.replicate 31 [])⟩)
abbrev aA.L0.Y1:=Unit
abbrev aA.L0.X1:=Unit
def aA.L0.ko:aA.L0.X1->Exit×AS:=λx=>(.exit 0,⟨(bG 31 []),[],(List.replicate 31 [])⟩)
abbrev aA.L0.X:=(aA.L0.X0)⊕(aA.L0.X1)
abbrev aA.L0.Y:=(aA.L0.Y0)⊕(aA.L0.Y1)
def aA.L0.out:aA.L0.X->Out (Exit×AS):=λx=> .br x.isLeft (.get x.getLeft? λa=> .ok (aA.L0.bY a)) (.get x.getRight? λb=> .ok (aA.L0.ko b))
def aA.L0.add:aA.L0.D->aA.L0.Y->aA.L0.X:=λ(Be,i) y=>match y with | .inl y=> .inl y | .inr z=> .inr (z)
abbrev aA.L1.D:=(List Bs)×Int×Int
def aA.L1.st:aA.L1.D->AS:=λ(Mc,kQ,kv)=>⟨([.d (.slice tH) Mc,.undef,.undef,.d ti kQ,.d ti kv]++bG 26 []),[],(List.replicate 31 [])⟩
abbrev aA.L1.Y0:=Unit
abbrev aA.L1.X0:=Unit
def aA.L1.bY:aA.L1.X0->Exit×AS:=λx=>(.ret,⟨([.undef,.undef,.d .bool false]++bG 28 []),[],(List.replicate 31 [])⟩)
abbrev aA.L1.Y1:=Unit
abbrev aA.L1.X1:=(List Bs)×Int
def aA.L1.ko:aA.L1.X1->Exit×AS:=λx=>(.exit 2,⟨([.d (.slice tH) x.1,.undef,.undef,.d ti x.2]++bG 27 []),[],(List.replicate 31 [])⟩)
abbrev aA.L1.X:=(aA.L1.X0)⊕(aA.L1.X1)
abbrev aA.L1.Y:=(aA.L1.Y0)⊕(aA.L1.Y1)
def aA.L1.out:aA.L1.X->Out (Exit×AS):=λx=> .br x.isLeft (.get x.getLeft? λa=> .ok (aA.L1.bY a)) (.get x.getRight? λb=> .ok (aA.L1.ko b))
def aA.L1.add:aA.L1.D->aA.L1.Y->aA.L1.X:=λ(Mc,kQ,kv) y=>match y with | .inl y=> .inl y | .inr z=> .inr ((Mc,kQ))
abbrev aA.D:=(List Bs)
def aA.st:aA.D->SA:=λl=>([.d (.slice tH) l],[])
abbrev aA.Y:=Bool
abbrev aA.X:=Bool
def aA.out:aA.X->aX:=λx=>⟨.d .bool x,[],[]⟩
def aA.add:aA.D->aA.Y->aA.X:=λl y=>y
def H4:List Int:=List.replicate 32 0
def OW(x:List Int):List Int->Bool:=λy=>Ty.beq tH y x
def uR(l:List (List Int))(i:Nat):Bool:= !((l.take i).any (OW (nth tH l i))) && !(Ty.beq tH (nth tH l i) H4)
def tJ(l:List (List Int)):Nat->Nat->Bool
 | 0,_=>true
 |n+1,i=>uR l i && tJ l n (i+1)
def BK(l:List (List Int)):Bool:=tJ l l.length 0
def aA.L1.az:aA.L1.D->Prop:=λ(l,i,k)=>l.length<=1000/\∃n m:Nat,n < l.length/\i=n/\m<=n/\k=m
def aA.L1.F:aA.L1.D->aA.L1.Y:=λ(l,i,k)=>if((l.take i.toNat).drop k.toNat).any (OW (nth tH l i.toNat))=true then .inl () else .inr ()
def aA.L0.az:aA.L0.D->Prop:=λ(l,i)=>l.length<=1000/\∃k:Nat,k<=l.length/\i=k
def aA.L0.F:aA.L0.D->aA.L0.Y:=λ(l,i)=>if tJ l (l.length - i.toNat) i.toNat=true then .inr () else .inl ()
def aA.az:aA.D->Prop:=λl=>l.length<=1000
def aA.F:aA.D->aA.Y:=λl=>BK l
def aA.G:fD:=gr (P:=Tryz.prog) []
def aA.L0.E:=cU.dp aA.L0.st aA.L0.az aA.L0.add aA.L0.F aA.L0.out
def aA.L0.call:aA.L0.D->Option aA.L0.X:=eI aA.L0.E aA.L0.st
def aA.L1.E:=cU.dp aA.L1.st aA.L1.az aA.L1.add aA.L1.F aA.L1.out
def aA.L1.call:aA.L1.D->Option aA.L1.X:=eI aA.L1.E aA.L1.st
def aA.an:fR:= {loops:=om [(2,{bO:=[0,3]}),(5,{bO:=[0,3,4]})],outs:=oh [(2,{},{bO:=[2]}),(5,{bO:=[0,3]},{bO:=[2]})],jo:=pb [(2,aA.L0.E),(5,aA.L1.E)]}
def aA.A:= @dm Tryz.prog aA.G aA.an 0 Tryz.f20 _ aA.st
abbrev aA.Ok:=dn @aA.A aA.az aA.add aA.F aA.out
def aA.L0.R:= @dr Tryz.prog aA.G aA.an 0 Tryz.f20 0 _ aA.L0.st
abbrev aA.L0.Ok:=gz Tryz.prog aA.G aA.an 0 Tryz.f20 0 aA.L0.st aA.L0.az aA.L0.add aA.L0.F aA.L0.out
def aA.L1.R:= @dr Tryz.prog aA.G aA.an 0 Tryz.f20 1 _ aA.L1.st
abbrev aA.L1.Ok:=gz Tryz.prog aA.G aA.an 0 Tryz.f20 1 aA.L1.st aA.L1.az aA.L1.add aA.L1.F aA.L1.out
theorem aA.L0.run:b8 aA.L0.call aA.L0.az aA.L0.add aA.L0.F:=gR (gJ [.d (.slice tH),.d ti] λ_=>by kernel_rfl)
theorem aA.L0.aI:rV @aA.L0.R aA.L0.st aA.L0.az aA.L0.add aA.L0.F aA.L0.out aA.L0.Ok:=sy
theorem aA.L0.step{R:Type}(Be:(List Bs))(i:Int)(kn:AS->Option R)(kx:Exit->AS->Option R):aA.L0.R (Be,i) kn kx=
  aJ ((jM i (((List.length Be):Nat):Int))) (
   ah (aA.L1.call (Be,i,(0:Int))) λx1=>
   aJ (x1.isLeft) (
    ah (x1.getLeft?) λa2=>
    kx (aA.L0.bY ()).1 (aA.L0.bY ()).2) (
    ah (x1.getRight?) λb3=>
    aJ (fB b3.2 (((List.length b3.1):Nat):Int)) (
    aJ ((Ty.beq tH (nth tH b3.1 (Int.toNat b3.2)) (List.replicate 32 (0:Int)))) (
     kx (aA.L0.bY ()).1 (aA.L0.bY ()).2) (
     kn (aA.L0.st (b3.1,(bV .i64 b3.2 (1:Int)))))) none)) (
   kx (aA.L0.ko ()).1 (aA.L0.ko ()).2):=by kernel_rfl
theorem aA.L1.run:b8 aA.L1.call aA.L1.az aA.L1.add aA.L1.F:=gR (gJ [.d (.slice tH),.d ti,.d ti] λ_=>by kernel_rfl)
theorem aA.L1.aI:rV @aA.L1.R aA.L1.st aA.L1.az aA.L1.add aA.L1.F aA.L1.out aA.L1.Ok:=sy
theorem aA.L1.step{R:Type}(Mc:(List Bs))(kQ:Int)(kv:Int)(kn:AS->Option R)(kx:Exit->AS->Option R):aA.L1.R (Mc,kQ,kv) kn kx=
  aJ ((jM kv kQ)) (
   aJ (fB kv (((List.length Mc):Nat):Int)) (
   aJ (fB kQ (((List.length Mc):Nat):Int)) (
   aJ ((Ty.beq tH (nth tH Mc (Int.toNat kv)) (nth tH Mc (Int.toNat kQ)))) (
    kx (aA.L1.bY ()).1 (aA.L1.bY ()).2) (
    kn (aA.L1.st (Mc,kQ,(bV .i64 kv (1:Int)))))) none) none) (
   kx (aA.L1.ko (Mc,kQ)).1 (aA.L1.ko (Mc,kQ)).2):=by kernel_rfl
theorem aA.eq{R:Type}(l:(List Bs))(k:aX->Option R):aA.A l k=
  ah (aA.L0.call (l,(0:Int))) λx4=>
  aJ (x4.isLeft) (
   ah (x4.getLeft?) λa5=>
   k (aA.out false)) (
   ah (x4.getRight?) λb6=>
   k (aA.out true)):=by kernel_rfl
theorem aA.L1.ok:aA.L1.Ok:=by
 refine aA.L1.aI (λ(l,i,k)=>(i - k).toNat) ?_
 rintro⟨l,i,k⟩ ⟨hl,n,m,hn,rfl,hm,rfl⟩
 have hl:l.length<=1000:=hl
 have hn:n < l.length:=hn
 by_cases h:m < n
 ·have hd:((l.take n).drop m).any (OW (nth tH l n))=(OW (nth tH l n) (nth tH l m) || ((l.take n).drop (m+1)).any (OW (nth tH l n))):=by
   have XV:m < (l.take n).length:=by rw[fS];omega
   rw[av XV,nc,List.getElem_take,dQ (t:=tH) (by omega:m < l.length)]
  have step:∀ {R:Type} (kn:AS->Option R) (kx:Exit->AS->Option R),aA.L1.R (l,(n:Int),(m:Int)) kn kx=aJ (OW (nth tH l n) (nth tH l m)) (kx (aA.L1.bY ()).1 (aA.L1.bY ()).2) (kn (aA.L1.st (l,(n:Int),((m+1:Nat):Int)))):=by
   intro R kn kx
   rw[aA.L1.step,bI (by omega),ae,bF (by omega) (by omega),ae,bF (by omega) (by omega),ae,aa,aa,N.pF (by omega)]
   rfl
  cases he:OW (nth tH l n) (nth tH l m)
  ·left
   refine⟨(l,(n:Int),((m+1:Nat):Int)),⟨hl,n,m+1,hn,rfl,by omega,rfl⟩,by show((n:Int) - ((m+1:Nat):Int)).toNat < ((n:Int) - (m:Int)).toNat;omega,?_,λkn kx=> ?_⟩
   ·simp only[aA.L1.add,aA.L1.F,aa,hd,he,Bool.false_or]
   ·rw[step,he,ai]
  ·right
   refine⟨aA.L1.bY (),?_,λkn kx=> ?_⟩
   ·simp only[aA.L1.add,aA.L1.F,aa,hd,he,Bool.true_or,if_true]
    rfl
   ·rw[step,he,ae]
 ·right
  obtain rfl:m=n:=by omega
  refine⟨aA.L1.ko (l,(m:Int)),?_,λkn kx=> ?_⟩
  ·have hd:((l.take m).drop m)=[]:=gK (by rw[fS];omega)
   simp only[aA.L1.add,aA.L1.F,aa,hd,List.any_nil,cD,if_false]
   rfl
  ·rw[aA.L1.step,bp (by omega),ai]
theorem aA.L0.ok:aA.L0.Ok:=by
 refine aA.L0.aI (λ(l,i)=>l.length - i.toNat) ?_
 rintro⟨l,i⟩ ⟨hl,k,hk,rfl⟩
 have hl:l.length<=1000:=hl
 have hk:k<=l.length:=hk
 by_cases h:k < l.length
 ·have hd:tJ l (l.length - k) k=(uR l k && tJ l (l.length - (k+1)) (k+1)):=by
   rw[show l.length - k=(l.length - (k+1))+1 by omega,tJ]
  have step:∀ {R:Type} (kn:AS->Option R) (kx:Exit->AS->Option R),aA.L0.R (l,(k:Int)) kn kx=aJ (uR l k) (kn (aA.L0.st (l,((k+1:Nat):Int)))) (kx (aA.L0.bY ()).1 (aA.L0.bY ()).2):=by
   intro R kn kx
   rw[aA.L0.step,bI (by omega),ae,aA.L1.run (d:=(l,(k:Int),0)) ⟨hl,k,0,h,rfl,bm _,rfl⟩]
   simp only[ab,aA.L1.add,aA.L1.F,aa,bH,aW]
   unfold uR
   cases(l.take k).any (OW (nth tH l k))
   ·simp only[cD,if_false,jB,ai,iD,ab,gm,cr,aa]
    rw[bF (by omega) (by omega),ae,N.pF (by omega)]
    show aJ (Ty.beq tH (nth tH l k) H4) _ _=_
    cases Ty.beq tH (nth tH l k) H4 <;> rfl
   ·simp only[if_true,nH,ae,mm,ab,bZ,fN,ai]
  cases he:uR l k
  ·right
   refine⟨aA.L0.bY (),?_,λkn kx=> ?_⟩
   ·simp only[aA.L0.add,aA.L0.F,aa,hd,he,fN,cD,if_false]
    rfl
   ·rw[step,he,ai]
  ·left
   refine⟨(l,((k+1:Nat):Int)),⟨hl,k+1,by omega,rfl⟩,by simp only[aa];omega,?_,λkn kx=> ?_⟩
   ·simp only[aA.L0.add,aA.L0.F,aa,hd,he,cr]
   ·rw[step,he,ae]
 ·right
  obtain rfl:k=l.length:=by omega
  refine⟨aA.L0.ko (),?_,λkn kx=> ?_⟩
  ·simp only[aA.L0.add,aA.L0.F,aa,Nat.sub_self,tJ,if_true]
   rfl
  ·rw[aA.L0.step,bp (by omega),ai]
theorem aA.ok:aA.Ok:=by
 intro l hl
 rw[aA.eq,aA.L0.run (d:=(l,0)) ⟨hl,0,bm _,rfl⟩]
 simp only[ab,aA.L0.add,aA.L0.F,bH,Nat.sub_zero,aA.add,aA.F,BK]
 by_cases h:tJ l l.length 0=true
 ·rw[if_pos h,h];rfl
 ·rw[if_neg h,Bool.eq_false_iff.2 h];rfl
def aA.E:=Entry.dp [some (.slice tH)] aA.st aA.az aA.add aA.F aA.out
def aA.call:aA.D->Option aA.X:=bX aA.E aA.st
theorem aA.run:b8 aA.call aA.az aA.add aA.F:=dv (du [.d (.slice tH)] λ_=>by kernel_rfl)
def aA.sg:SG Tryz.prog:=⟨20,aP,aA.E,.fn 2 (by kernel_rfl) aA.ok (And.intro (.dp aA.L0.ok (by kernel_rfl)) (And.intro (.dp aA.L1.ok (by kernel_rfl)) trivial))⟩
theorem OX(x y:List Int):OW x y=true↔y=x:=⟨beq_eq tH y x rfl,λh=>by rw[h];exact beq_refl tH x rfl⟩
theorem EA:∀(l:List (List Int)) (n i:Nat),tJ l n i=true->∀j,i<=j->j < i+n->uR l j=true
 |_,0,i,_,j,h1,h2=>by omega
 |l,n+1,i,h,j,h1,h2=>by
  rw[tJ,ak]at h
  by_cases e:j=i
  ·rw[e];exact h.1
  ·exact EA l n (i+1) h.2 j (by omega) (by omega)
theorem KH{l:List (List Int)}(h:BK l=true):(∀x∈l,x≠H4)/\l.Pairwise (λx y=>x≠y):=by
 have hk:∀(k:Nat) (hk:k < l.length),uR l k=true:=λk hk=>EA l l.length 0 h k (bm _) (by omega)
 refine⟨λx hx=> ?_,?_⟩
 ·obtain⟨k,Pa,rfl⟩:=List.getElem_of_mem hx
  have:=hk k Pa
  unfold uR at this
  rw[ak,dQ (t:=tH) Pa]at this
  intro e
  rw[e]at this
  have h2:=this.2
  rw[show Ty.beq tH H4 H4=true from beq_refl tH _ rfl]at h2
  cases h2
 ·rw[List.pairwise_iff_getElem]
  intro i j hi hj Vk e
  have:=hk j hj
  unfold uR at this
  rw[ak,dQ (t:=tH) hj]at this
  have h1:=this.1
  rw[dI,jr]at h1
  refine h1 l[i] ?_ ((OX _ _).2 e)
  exact List.mem_take_iff_getElem.2 ⟨i,by omega,rfl⟩
def pX(ch:iP):At:=[JI 0 (ch.2.1,(s8 ch,()))]
def Ot(ch:iP)(t:je):Bool×(Nat×(At×List nY)):=if(nI t 1 (pX ch)).2=0 then(true,(1,(nk t 1 (pX ch),[stepOf t (pX ch)]))) else(false,(0,(pX ch,[])))
theorem Fh{ch:iP}(fI:mX ch):lj (s8 ch)=true:=by
 unfold s8
 rw[Nl _ (dE rfl)]
 simp only[kJ,oa,(fI.ba (.inl rfl)).1.p,(fI.ba (.inr rfl)).1.p,l7]
theorem MP{ch:iP}(fI:mX ch):LX (s8 ch):=λb hb=>by
 rw[aU.1 (show b∈ [([(nm ch 0).1,(nm ch 1).1],(0,0,0,()))] from hb)]
 refine⟨λx hx=> ?_,uZ⟩
 rcases cE.1 hx with rfl | hx
 ·exact(fI.ba (.inl rfl)).1.1
 ·rw[aU.1 hx];exact(fI.ba (.inr rfl)).1.1
theorem E4{ch:iP}(fI:mX ch):Mh (pX ch):=by
 have ha:=fI.EY
 refine⟨fV.2 ⟨λh=>(by cases h),lF⟩,λp hp=> ?_⟩
 rw[aU.1 (show p∈ [JI 0 (ch.2.1,(s8 ch,()))] from hp)]
 exact⟨⟨eo,λx hx=>by rw[(ph.1 hx).2];exact⟨by decide,by decide⟩⟩,Fh fI,MP fI,by show 0<=ch.2.1;omega,by show ch.2.1<=_;omega,lp 0,by show(0:Int)<=_;decide⟩
theorem cn.c{ch:iP}(fI:mX ch):cn.call [(ch.2.1,(s8 ch,()))]=some (.inr (pX ch,[])):=by
 have ha:=fI.EY
 have e:PA [(ch.2.1,(s8 ch,()))]=some (pX ch):=by
  unfold PA
  rw[if_pos (dE rfl)]
  have e0:xP 0 (ch.2.1,(s8 ch,()))=true:=by
   unfold xP
   rw[Fh fI,aM ⟨by show 0<=ch.2.1;omega,by show ch.2.1<=1125899906842624 - 0;omega⟩]
   rfl
  rw[FC,e0]
  rfl
 rw[cn.run (d:=[(ch.2.1,(s8 ch,()))]) (λo ho=>by
  rw[aU.1 ho]
  exact⟨MP fI,by show 1<=_;decide,by show ch.2.1<=_;omega⟩)]
 simp only[cn.add,cn.F,e]
theorem Sh(a b:Sg):uk ((0:Int),([a,b],((0:Int),())))=true:=rfl
theorem yw{k0 k1:pE}{c:je}(kA:j9 c=true)(hv:u9 c):j9 (nM k0 k1 c)=true/\u9 (nM k0 k1 c)/\oJ (nM k0 k1 c)=oJ c/\gV (nM k0 k1 c)=gV c:=by
 have hl:=(pD kA).1.1
 have h0:0 < c.1.length:=by omega
 unfold nM
 generalize hm:oJ c=m
 have hs:∀k,Sn (jR k m):=λk=>HG k m
 have ha:=hs k0.1
 have hb:=hs k1.1
 clear hs
 generalize jR k0.1 m=a at*
 generalize jR k1.1 m=b at*
 refine⟨y8 h0 kA (Sh _ _),N5 h0 hv ⟨λs hx=> ?_,uZ⟩ (by show 2<=_;decide),?_,?_⟩
 ·rcases cE.1 (show s∈ [a,b] from hx) with rfl | hx
  ·exact ha
  ·rw[aU.1 hx];exact hb
 ·rw[(FL h0 kA (Sh _ _)).1,hm]
 ·exact(FL h0 kA (Sh _ _)).2.2
abbrev dU.D:=yf×Int
def dU.st:dU.D->SA:=λ(p,me)=>([.d Kp p,.d ti me],[])
abbrev dU.Y:=H5×Bool×Nat×(List (iF×nA))×(List nY)
abbrev dU.X:=H5×Bool×Nat×(List (iF×nA))×(List nY)
def dU.out:dU.X->aX:=λx=>⟨.cons (.ptr (.new 0 0) 0 [] 0) (.cons (.d Me x.1) (.cons (.d .bool x.2.1) (.nil))),[],[.obj 0 false (.pr (.lb (.new 0 1) 0) (.pr (.di (.new 0 2) 0 [] 0 0 x.2.2.1) (.d .unit ()))),.obj 0 false (.mp ir yj x.2.2.2.1),.obj 0 false (.vec 149 rB x.2.2.2.2)]⟩
def dU.add:dU.D->dU.Y->dU.X:=λ(p,me) y=>y
def dU.az:dU.D->Prop:=λ(p,me)=>LY p/\Sm p.2.2.2.2.2.2.2.1/\(me=0\/me=1)
def dU.F:dU.D->dU.Y:=λ(p,me)=>(de (so p) (HO p) (1 - me) (l5 p.2.2.2.2.2.2.2.1),Ot (so p) (nM (oD (nth tH p.1 0)) (oD (nth tH p.1 1)) (de (so p) (HO p) (1 - me) (l5 p.2.2.2.2.2.2.2.1)).1))
def dU.G:fD:=gr (P:=Tryz.prog) [aN.sg,eT.sg,bn.sg,hP.sg,cn.sg,gA.sg,hM.sg,bE.sg]
def dU.an:fR:= {nR:=[⟨4,[.snd,.fst],38,0⟩],res:=[none,some Me,none]}
def dU.A:= @dm Tryz.prog dU.G dU.an 0 Tryz.f18 _ dU.st
abbrev dU.Ok:=dn @dU.A dU.az dU.add dU.F dU.out
theorem dU.eq{R:Type}(p:yf)(me:Int)(k:aX->Option R):dU.A (p,me) k=
  ah (aN.call p) λx1=>
  ah (eT.call p.2.2.2.2.2.2.2.1) λx2=>
  ah (bn.call (x1.1,x1.2.2,(cY .i64 (1:Int) me),x2)) λx3=>
  ah (hP.call x1.1) λx4=>
  ah (cn.call [(x1.1.2.1,(x4,()))]) λx5=>
  aJ (x5.isLeft) (
   ah (x5.getLeft?) λY8=>
   aJ ((tc x3.2 (0:Int))) (
    k ⟨.cons (.oX) (.cons (.d Me x3.1) (.cons (.d .bool false) (.nil))),[],[]⟩) (
    k ⟨.cons (.oX) (.cons (.d Me x3.1) (.cons (.d .bool false) (.nil))),[],[]⟩)) (
   ah (x5.getRight?) λXs=>
   aJ ((tc x3.2 (0:Int))) (
    k ⟨.cons (.oX) (.cons (.d Me x3.1) (.cons (.d .bool false) (.nil))),[],[]⟩) (
    aJ (decide (0 < (List.length x1.2.1))) (
    ah (gA.call ((nth rU x1.2.1 0),x3.1.1)) λx6=>
    aJ (decide (1 < (List.length x1.2.1))) (
    ah (gA.call ((nth rU x1.2.1 1),x3.1.1)) λx7=>
    ah (hM.call (x3.1.1,x6,x7)) λx8=>
    ah (bE.call (x8,(1:Int),0,Xs.1,Xs.2)) λx9=>
    aJ (x9.isLeft) (
     ah (x9.getLeft?) λUP=>
     k (dU.out (x3.1,(mV UP.1 (0:Int)),UP.2.1,UP.2.2.1,UP.2.2.2))) (
     ah (x9.getRight?) λUQ=>
     k (dU.out (x3.1,(mV UQ.1 (0:Int)),UQ.2.1,UQ.2.2.1,UQ.2.2.2)))) none) none)):=by kernel_rfl
theorem Nr{ch:iP}{s:jk}{own:Int}{per:List Int}(hs:wB ch s)(ho:own=0\/own=1):nw ch s own (l5 per)=(de ch s own (l5 per),0):=by
 have hp:oM (l5 per)=true:=vU _
 unfold nw
 rw[aM ho,hp,if_pos (show(true && true)=true from rfl),if_pos (ru.2 hs)]
theorem dU.ok:dU.Ok:=by
 rintro⟨p,me⟩ ⟨hp,Ba,hm⟩
 have hp:LY p:=hp
 have Ba:Sm p.2.2.2.2.2.2.2.1:=Ba
 have hm:me=0\/me=1:=hm
 have fI:=Gs hp
 have hu:=Oa p
 have hs:=Ai hp
 have SE:iy (l5 p.2.2.2.2.2.2.2.1):=uz _
 have L7:=Nr (per:=p.2.2.2.2.2.2.2.1) hs (own:=1 - me) (by omega)
 have kA:=tX (per:=l5 p.2.2.2.2.2.2.2.1) fI hs (own:=1 - me) (by omega)
 have hv:=(sq (per:=l5 p.2.2.2.2.2.2.2.1) fI hu hs (own:=1 - me) (by omega) SE).1
 have Ye:=vW (nth tH p.1 0)
 have VW:=vW (nth tH p.1 1)
 have TF:tf p=[oD (nth tH p.1 0),oD (nth tH p.1 1)]:=rfl
 have c1:=bn.c (own:=1 - me) fI hu SE
 rw[L7]at c1
 have ea:∀d y,dU.add d y=y:=λ_ _=>rfl
 have eF:dU.F (p,me)=(de (so p) (HO p) (1 - me) (l5 p.2.2.2.2.2.2.2.1),Ot (so p) (nM (oD (nth tH p.1 0)) (oD (nth tH p.1 1)) (de (so p) (HO p) (1 - me) (l5 p.2.2.2.2.2.2.2.1)).1)):=rfl
 rw[dU.eq,ea,eF,aN.c hp,ab,eT.c Ba,ab,Jm (by omega),TF]
 generalize oD (nth tH p.1 0)=k0 at*
 generalize oD (nth tH p.1 1)=k1 at*
 generalize so p=ch at*
 generalize HO p=s at*
 generalize l5 p.2.2.2.2.2.2.2.1=per at*
 rw[c1,ab,hP.run (d:=ch) fI]
 generalize de ch s (1 - me) per=c at*
 simp only[ab,hP.add,hP.F]
 rw[cn.c fI,ab]
 simp only[jB,ai,iD,ab]
 rw[gZ rfl,ai,aM (show 0 < ([k0,k1]:List pE).length from mj 1),ae,aM (show 1 < ([k0,k1]:List pE).length from Nat.lt_succ_self 1)]
 rw[show nth rU [k0,k1] 0=k0 from rfl,show nth rU [k0,k1] 1=k1 from rfl]
 have g0:gA.call (k0,c.1)=some (jR k0.1 (oJ c.1)):=gA.run (d:=(k0,c.1)) ⟨Ye.1,hv⟩
 have g1:gA.call (k1,c.1)=some (jR k1.1 (oJ c.1)):=gA.run (d:=(k1,c.1)) ⟨VW.1,hv⟩
 have g2:hM.call (c.1,jR k0.1 (oJ c.1),jR k1.1 (oJ c.1))=some (nM k0 k1 c.1):=hM.run (d:=(c.1,jR k0.1 (oJ c.1),jR k1.1 (oJ c.1))) kA
 rw[g0,ab,ae,g1,ab,g2,ab]
 have hf:=yw (k0:=k0) (k1:=k1) kA hv
 generalize nM k0 k1 c.1=t at hf
 rw[bE.run (d:=(t,1,0,pX ch,[])) ⟨hf.2.1,E4 fI,bm _,bm _⟩]
 simp only[ab,bE.add,bE.F]
 unfold Ot
 by_cases h:(nI t 1 (pX ch)).2=0
 ·rw[if_neg (λe=>e h),if_pos h]
  simp only[jB,ai,iD,ab]
  rfl
 ·rw[if_pos h,if_neg h]
  simp only[nH,ae,mm,ab]
  rw[fJ h]
def dU.E:=Entry.dp [some Kp,some ti] dU.st dU.az dU.add dU.F dU.out
def dU.call:dU.D->Option dU.X:=bX dU.E dU.st
theorem dU.run:b8 dU.call dU.az dU.add dU.F:=dv (du [.d Kp,.d ti] λ_=>by kernel_rfl)
def dU.sg:SG Tryz.prog:=⟨18,aP,dU.E,.fn 0 (by kernel_rfl) dU.ok trivial⟩
end
end Go.Ab
namespace Go.Ab
open Go.Proofs
noncomputable section
theorem Ns(n:Nat):mz 1 (gP n)=gP n:=by
 have h:=xF 0 n
 rw[Fi,bl]at h
 exact h
theorem Sc(a b:Nat):uY [gP a,gP b]=gP (a+b):=by
 show mz (mz 1 (tk (gP a))) (tk (gP b))=_
 rw[ze (xE a),ze (xE b),Ns,xF]
theorem Ra{x y:Int}(hx:0<=x)(hy:0<=y):gP (BJ x y).toNat=gP (x.toNat+y.toNat):=by
 rw[<-zB (x.toNat+y.toNat)]
 congr 1
 unfold BJ Ly
 omega
theorem JN{x y:Int}(hx:0<=x)(hy:0<=y):gP (yK x y).toNat=gP (x.toNat*y.toNat):=by
 rw[<-zB (x.toNat*y.toNat)]
 congr 1
 unfold yK Ly
 rw[<-iR]
 obtain⟨a,rfl⟩:=kS hx
 obtain⟨b,rfl⟩:=kS hy
 rw[<-o5,aa,aa]
 generalize a*b=n
 omega
theorem NV{b:Int}{s:List Int}(hb:0<=b):fy (sm b s)=uU (fy b) (l5 s):=by
 have hq:=(lX s).1
 unfold sm uU
 have hu:0<=tC ud (fy b) (l5 s):=(BZ _ _ _).1
 have hv:0<=tC ud (l5 s) (fy b):=(BZ _ _ _).1
 generalize tC ud (fy b) (l5 s)=u at*
 generalize tC ud (l5 s) (fy b)=v at*
 unfold l5
 generalize kT s=q at*
 rw[s6 _ (yl _ _).1,Ra (yL _ _).1 (yL _ _).1,<-xF,JN hb hu,JN (by omega) hv,xF,s6 b hb,s6 q (by omega),B6 _ _ hu,B6 _ _ hv,Sc]
def Ka(k:Int)(l:Lk):Prop:=lj l=true/\∃r,l.1=([fy k],((0:Int),((0:Int),((0:Int),()))))::r
def PU(a:At)(x:o6):Prop:=∃c,fv ir x.1 a=some c/\c.1.1=x.2.1/\c.2.1=1/\Ka x.2.2.1 c.1.2.1
def Uf(m:List Int)(x:o6):kX:=(x.1,(((0:Int),([jR x.2.2.1 m],((0:Int),()))),()))
theorem PD{k:Int}{l:Lk}(hl:Ka k l)(hk:0 < k/\k < 2305843009213688669)(m:List Int){h a:Int}(h0:0<=h)(h1:0<=a):tl l ((0:Int),([jR k m],((0:Int),()))) m h a=0:=by
 obtain⟨kA,r,e⟩:=hl
 have h0':0 < l.1.length:=by rw[e];exact mj _
 have hb:l.1[0]=([k].map fy,((0:Int),((0:Int),((0:Int),())))):=by simp only[e];rfl
 have s:=yO [k] (T8 hk) 0 0 0 0 m h a (.inl rfl)
 rw[if_neg (by omega)]at s
 exact(J9 kA h0' hb [jR k m] 0 m h a).trans s
theorem J0{h:Int}{id:List Int}{a:At}:∀(l:List kX) (f0:Int),(∀x∈l,∃c,fv ir x.1 a=some c/\tl c.1.2.1 x.2.1 id h (h - c.2.1)=0)->∃f,rJ h id a l f0= .inr f
 |[],f0,_=>⟨f0,rfl⟩
 |x::l,f0,hx=>by
  obtain⟨c,h1,h2⟩:=hx x bh
  obtain⟨f,hf⟩:=J0 l (f0+c.1.1) λy hy=>hx y (bj _ hy)
  refine⟨f,?_⟩
  rw[rJ,h1]
  simp only[h2,ne_eq,not_true_eq_false,if_false]
  exact hf
theorem EK{a:At}:∀l:List o6,(∀x∈l,∃c,fv ir x.1 a=some c/\c.1.1=x.2.1)->qn a (l.map λx=>x.1)=A5 l
 |[],_=>rfl
 |x::l,hx=>by
  obtain⟨c,h1,h2⟩:=hx x bh
  have ih:=EK l λy hy=>hx y (bj _ hy)
  unfold qn at ih ⊢
  rw[cO,cO,List.sum_cons,ih,h1,A5]
  show c.1.1+_=_
  rw[h2]
theorem Kj{A r:List kX}{y:kX}:nth kW (A++y::r) A.length=y/\∀z,(A++y::r).set A.length z=A++z::r:=by
 constructor
 ·rw[dQ (t:=kW) (by rw[aj,aO];omega)]
  simp
 ·intro z
  simp
theorem EI(m:List Int):∀(l:List o6) (t t':je) (i:Nat) (A:List kX),qk t i l= .inl t'->u9 t->oJ t=m->t.1=A++l.map Ck->A.length=i->t'.1=A++l.map (Uf m)/\oJ t'=m/\∀x∈l,x.2.2.1 < 2305843009213688669/\x.2.2.1≠0
 |[],t,t',i,A,h,_,hm,ht,_=>by
  rw[qk]at h
  injection h with h
  subst h
  exact⟨ht,hm,λx hx=>by cases hx⟩
 |x::l,t,t',i,A,h,hv,hm,ht,hi=>by
  rw[qk]at h
  split at h
  ·next e=>
   have hs:=Km hv uZ e
   have ha:=C2 (sc:=0) hv hs.2 uZ
   have e1:pO t i 0 [x.2.2.1] 0=(uW t i (wm t 0 [x.2.2.1] 0),0):=by rw[y9,if_pos hs.2,aa]
   rw[aa]at ha
   rw[e1]at h
   have hk:=(C1 hs.2).2.2 x.2.2.1 (aU.2 rfl)
   obtain⟨q1,q2,q3⟩:=EI m l (uW t i (wm t 0 [x.2.2.1] 0)) t' (i+1) (A++ [Uf m x]) h ha.2.1 (ha.2.2.1.trans hm) (by
    show t.1.set i ((nth kW t.1 i).1,(wm t 0 [x.2.2.1] 0,()))=_
    unfold wm
    rw[hm,ht,<-hi,cO,Kj.1,Kj.2,bR]
    rfl) (by rw[aj,hi];rfl)
   refine⟨?_,q2,λy hy=> ?_⟩
   ·rw[q1,bR];rfl
   ·rcases cE.1 hy with rfl | hy
    ·exact hk
    ·exact q3 y hy
  ·cases h
theorem xV:∀(l:List o6) (t:je) (i:Nat) (e:Int),qk t i l= .inr e->e=1
 |[],t,i,e,h=>by rw[qk]at h;cases h
 |x::l,t,i,e,h=>by
  rw[qk]at h
  split at h
  ·exact xV l _ _ e h
  ·next hn=>
   injection h with h
   rw[<-h]
   rw[y9]at hn ⊢
   split
   ·next e2=>rw[if_pos e2]at hn;exact absurd rfl hn
   ·rfl
theorem LP{l:List o6}{to:Lk}{bQ:Int}(h:(mc l to bQ).2≠0):((mc l to bQ).2=8/\jP l bQ < 1)\/(mc l to bQ).2=1:=by
 unfold mc at h ⊢
 split
 ·next e=>left;exact⟨rfl,e⟩
 ·next e=>
  rw[if_neg e]at h
  right
  cases hs:qk (Dh l to (jP l bQ)) 0 l with
  |inl t=>rw[hs]at h;exact absurd rfl h
  |inr x=>exact xV _ _ _ _ hs
theorem Jn{l:List o6}{to:Lk}{bQ h:Int}{t:je}{a:At}(hg:BG l)(ht:uq to)(sY:lj to=true)(hn:(l.map λx=>x.1).Nodup)(hi:∀x∈l,0<=x.1.2.1/\x.1.2.1 < 64)(hr:0<=bQ)(hm:jP l bQ<=1125899906842624)(e:mc l to bQ=(t,0)):
  1<=jP l bQ/\j9 t=true/\u9 t/\t.2=([(jP l bQ,(to,()))],((0:Int),()))/\(t.1.length=l.length/\rO t=18+18*(l.length:Int)/\gS t=l.map λx=>x.1)/\
  ((1<=h/\h<=1048576)->(∀x∈l,PU a x)->(∀o:iF,o.1=oJ t->fv ir o a=none)->nI t h a=(bQ*rO t,0)):=by
 have Vs:1<=jP l bQ:=by
  unfold mc at e
  split at e
  ·injection e with _ e;cases e
  ·omega
 have lg:1<=l.length:=by
  cases l with
  |nil=>
   have:jP [] bQ=0 - bQ*(18+18*0):=l8 [] bQ
   omega
  |cons x l=>exact Nat.succ_le_succ (bm _)
 have JU:qk (Dh l to (jP l bQ)) 0 l= .inl t:=by
  unfold mc at e
  rw[if_neg (by omega)]at e
  cases hs:qk (Dh l to (jP l bQ)) 0 l with
  |inl t2=>rw[hs]at e;injection e with e _;rw[e]
  |inr x=>
   rw[hs]at e
   injection e with _ e
   have:=xV _ _ _ _ hs
   omega
 obtain⟨s1,s2,s3⟩:=EI (oJ (Dh l to (jP l bQ))) l _ t 0 [] JU (Jq hg ht) rfl rfl rfl
 have hk:∀x∈l,0 < x.2.2.1/\x.2.2.1 < 2305843009213688669:=λx hx=>by
  have h1:=(hg.2 x hx).key.1
  have h2:=s3 x hx
  omega
 obtain⟨t2,e2,w1,w2,w3,w4,w5,w6⟩:=Dc hg ht sY lg hn hi hk Vs hm
 have et:t2=t:=by rw[e2]at e;injection e
 subst et
 refine⟨Vs,w1,w2,w3,⟨w4,w5,w6⟩,λhh ha Rw=> ?_⟩
 rw[<-s2]at s1
 rw[bt]at s1
 have Rq:∃f,rJ h (oJ t2) a t2.1 0= .inr f:=J0 t2.1 0 λx hx=>by
  rw[s1]at hx
  obtain⟨y,hy,rfl⟩:=eD.1 hx
  obtain⟨c,c1,c2,c3,c4⟩:=ha y hy
  exact⟨c,c1,PD c4 (hk y hy) _ (by omega) (by omega)⟩
 obtain⟨f,hf⟩:=Rq
 have O8:=(xI _ _ _ hf).2
 have Vw:t2.1.map (·.1)=l.map λx=>x.1:=by rw[s1,List.map_map];rfl
 rw[Vw,EK l (λx hx=>by obtain⟨c,c1,c2,_⟩:=ha x hx;exact⟨c,c1,c2⟩)]at O8
 have Vy:(gV t2).any (pa a)=false:=by
  rw[jr]
  intro o ho
  have:o.1=oJ t2:=by
   unfold gV at ho
   rw[if_pos w1]at ho
   exact wP ho
  unfold pa
  rw[Rw o this]
  decide
 have IK:l9 t2.2.1=jP l bQ:=by
  rw[w3]
  show jP l bQ+0=_
  omega
 have Y2:=l8 l bQ
 have Vb:f - l9 t2.2.1=bQ*rO t2:=by rw[IK,w5];omega
 have SC:0<=bQ*rO t2:=pS hr (by omega)
 unfold nI
 rw[if_pos ⟨w1,hh.1,hh.2⟩,hf]
 simp only[]
 rw[Vy,if_neg (by decide),Vb,if_neg (by omega)]
theorem Kq(rev pay:Int):∀(l:List my) (os:List iF) (y:o6),y∈A2 rev pay os (l.map λm=>m.1) (l.map λm=>m.2.1)->∃(k:Nat) (h:k < os.length) (h2:k < l.length),y=(os[k],(l[k].1.1,((if l[k].2.1.1=2 then pay else rev),())))/\¬(l[k].2.1.1=3\/l[k].2.1.1=4)
 |[],[],y,h=>by simp[A2]at h
 |[],_::_,y,h=>by simp[A2]at h
 |_::_,[],y,h=>by simp[A2]at h
 |m::l,o::os,y,h=>by
  rw[cO,cO,A2,cf]at h
  rcases h with h | h
  ·unfold vl at h
   split at h
   ·cases h
   ·next hr=>
    rw[aU]at h
    exact⟨0,mj _,mj _,h,hr⟩
  ·obtain⟨k,h1,h2,h3,h4⟩:=Kq rev pay l os y h
   exact⟨k+1,Nat.succ_lt_succ h1,Nat.succ_lt_succ h2,h3,h4⟩
theorem N1{ch:iP}{s:jk}{own per:Int}{m:my}(hm:m∈o3 ch s own per)(hr:¬(m.2.1.1=3\/m.2.1.1=4)):∃r,m.1.2.1.1=([if m.2.1.1=2 then(nm ch (1 - own)).2.1 else uU (nm ch (1 - own)).2.2.2.2.1 per],((0:Int),((0:Int),((0:Int),()))))::r:=by
 unfold o3 at hm
 simp only[cf]at hm
 generalize uU (nm ch (1 - own)).2.2.2.2.1 per=rv at*
 rcases hm with hm | hm | hm | hm
 ·split at hm
  ·rw[aU]at hm;subst hm
   exact⟨_,rfl⟩
  ·cases hm
 ·split at hm
  ·rw[aU]at hm;subst hm
   exact⟨_,rfl⟩
  ·cases hm
 ·rcases cE.1 hm with rfl | hm
  ·exact absurd (.inl rfl) hr
  ·rw[aU]at hm;subst hm
   exact absurd (.inr rfl) hr
 ·obtain⟨c,hc,rfl⟩:=eD.1 hm
  unfold oz
  split
  ·exact⟨_,rfl⟩
  ·exact⟨_,rfl⟩
theorem NB{ch:iP}{s:jk}{me per rev pay mU:Int}{t:je}{a:At}(fI:mX ch)(hs:wB ch s)(hm:me=0\/me=1)(hp:fy pay=(nm ch me).2.1)(hr:fy rev=uU (nm ch me).2.2.2.2.1 per)(h:tt t 1 a mU)
  (e1:gV t=gV (de ch s (1 - me) per).1) (e2:t.2.1=(de ch s (1 - me) per).1.2.1):∀x∈wS (de ch s (1 - me) per) rev pay,PU (nk t 1 a) x:=by
 intro x hx
 have ho:1 - me=0\/1 - me=1:=by omega
 have Ta:1 - (1 - me)=me:=by omega
 obtain⟨k,h1,h2,rfl,h4⟩:=Kq rev pay (lP (o3 ch s (1 - me) per)) (gV (de ch s (1 - me) per).1) x hx
 have vR:=wW.1 (List.getElem_mem h2)
 have L4:=Kg fI hs ho _ vR
 obtain⟨r,hb⟩:=N1 vR h4
 rw[Ta,<-hp,<-hr]at hb
 have uJ:=h.new (k:=k) (by rw[e1];exact h1) (by rw[e2];show k < (List.map _ _).length;rw[cM];exact h2)
 have e3:(de ch s (1 - me) per).1.2.1=(lP (o3 ch s (1 - me) per)).map λm=>m.1:=rfl
 rw[e3]at e2
 simp only[e1,e2,List.getElem_map]at uJ
 refine⟨_,uJ,rfl,rfl,L4,r,?_⟩
 show(lP (o3 ch s (1 - me) per))[k].1.2.1.1=_
 rw[hb]
 show _=([fy (if(lP (o3 ch s (1 - me) per))[k].2.1.1=2 then pay else rev)],_)::r
 split <;> rfl
theorem AQ:∀l:List kI,l9 l=FR l
 |[]=>rfl
 |o::l=>by rw[AP,FR,AQ l]
theorem N0{ch:iP}{s:jk}{own per:Int}(fI:mX ch)(hs:wB ch s)(ho:own=0\/own=1):qw (o3 ch s own per)<=ch.2.1:=by
 have hp':1 - own=0\/1 - own=1:=by omega
 have r0:=ui hs ho
 have r1:=ui hs hp'
 have rs:=Aa fI s ho
 have ht:=hs.Uj
 have H9:=uX _ hs.a
 have hf:=vM s.2.2.2.1 (ja s.2.2.1).length
 unfold o3
 rw[lq,lq,lq,(qx ..).1]
 have e0:∀(b:Bool) (n:Int) (l:Lk) (r:xr),0<=n->qw (if b=true then [F7 n l r] else [])<=n:=λb n l r hn=>by
  cases b
  ·exact hn
  ·show n+0<=n;omega
 have q0:=e0 (FM (j5 ch s own)) (j5 ch s own) (Az (vY (nm ch own).2.2.1 per) (uU (nm ch (1 - own)).2.2.2.2.1 per) (xp ch (1 - own))) ((1:Int),(OH,())) r0
 have q1:=e0 (FM (j5 ch s (1 - own))) (j5 ch s (1 - own)) (sX [(nm ch (1 - own)).2.1]) ((2:Int),(OH,())) r1
 have q2:∀(a b:Lk) (x y:xr),qw [F7 330 a x,F7 330 b y]=660:=λ_ _ _ _=>rfl
 rw[q2]
 omega
theorem zs(ch:iP)(o:iF):fv ir o (pX ch)=if o=(List.replicate 32 0,((0:Int),())) then some ((ch.2.1,(s8 ch,())),((0:Int),())) else none:=by
 show fv ir o [((List.replicate 32 (0:Int),(((0:Nat):Int),())),((ch.2.1,(s8 ch,())),((0:Int),())))]=_
 rw[jm,uc]
 by_cases h:o=(List.replicate 32 0,((0:Int),()))
 ·rw[if_pos h];exact if_pos ((Dx _ _).2 h)
 ·rw[if_neg h];exact if_neg (λe=>h ((Dx _ _).1 e))
theorem Kk(ch:iP)(s:jk)(own per:Int)(w:Du):uW (de ch s own per).1 0 w=([(ch.1,(w,()))],(de ch s own per).1.2):=rfl
theorem H0{ch:iP}{s:jk}{own per:Int}{k0 k1:pE}(fI:mX ch)(hu:ur s)(hs:wB ch s)(ho:own=0\/own=1)(Ba:iy per)(p0:0 < k0.1/\k0.1 < 2305843009213688669)(p1:0 < k1.1/\k1.1 < 2305843009213688669)(b0:(nm ch 0).1=fy k0.1)(b1:(nm ch 1).1=fy k1.1)
  (hz:oJ (de ch s own per).1≠H4):(nI (nM k0 k1 (de ch s own per).1) 1 (pX ch)).2=0:=by
 have kA:=tX (per:=per) fI hs ho
 have hv:=(sq fI hu hs ho Ba).1
 obtain⟨f1,f2,f3,f4⟩:=yw (k0:=k0) (k1:=k1) kA hv
 have Ux:=Fh fI
 have bg:l9 (de ch s own per).1.2.1<=ch.2.1:=by
  show l9 ((lP (o3 ch s own per)).map λm=>m.1)<=_
  rw[AQ,C8,zm (mR _)]
  exact N0 fI hs ho
 have Vd:=fI.OZ
 unfold nI
 rw[if_pos ⟨f1,by decide,by decide⟩]
 have Vy:(gV (nM k0 k1 (de ch s own per).1)).any (pa (pX ch))=false:=by
  rw[f4,jr]
  intro o hm
  have e:o.1=oJ (de ch s own per).1:=by
   unfold gV at hm
   rw[if_pos kA]at hm
   exact wP hm
  unfold pa
  rw[zs,if_neg (λe2=>hz (by rw[<-e,e2];rfl))]
  decide
 have Rq:rJ 1 (oJ (nM k0 k1 (de ch s own per).1)) (pX ch) (nM k0 k1 (de ch s own per).1).1 0= .inr (0+ch.2.1):=by
  rw[f3]
  unfold nM
  rw[Kk]
  generalize oJ (de ch s own per).1=m
  have s2:=yO [k0.1,k1.1] (T9 p0 p1) 0 0 0 0 m 1 1 (.inl rfl)
  rw[if_neg (by decide)]at s2
  have UD:tl (s8 ch) ((0:Int),([jR k0.1 m,jR k1.1 m],((0:Int),()))) m 1 1=0:=by
   refine(J9 (i:=0) (b:=([k0.1,k1.1].map fy,((0:Int),((0:Int),((0:Int),()))))) Ux (mj 0) ?_ [jR k0.1 m,jR k1.1 m] 0 m 1 1).trans s2
   show([(nm ch 0).1,(nm ch 1).1],_)=_
   rw[b0,b1]
   rfl
  rw[rJ,zs,Vd,if_pos rfl]
  simp only[]
  rw[show(1:Int) - 0=1 from rfl,UD,if_neg (λe=>e rfl),rJ]
 rw[Rq]
 simp only[]
 rw[Vy,if_neg (by decide)]
 have e2:(nM k0 k1 (de ch s own per).1).2.1=(de ch s own per).1.2.1:=rfl
 rw[e2,if_neg (by omega)]
theorem HZ{ch:iP}{s:jk}{own per:Int}{k0 k1:pE}(fI:mX ch)(hu:ur s)(hs:wB ch s)(ho:own=0\/own=1)(Ba:iy per)(m:List Int)(h1:m≠oJ (de ch s own per).1)(h2:m≠H4){o:iF}(e:o.1=m)
     :fv ir o (nk (nM k0 k1 (de ch s own per).1) 1 (pX ch))=none:=by
  have kA:=tX (per:=per) fI hs ho
  have hv:=(sq fI hu hs ho Ba).1
  obtain⟨f1,f2,f3,f4⟩:=yw (k0:=k0) (k1:=k1) kA hv
  have Rw:¬o=(List.replicate 32 0,((0:Int),())):=λe2=>h2 (by rw[<-e,e2];rfl)
  rw[yo (E4 fI).1 ?_ ?_,zs,if_neg Rw]
  · intro hm
    unfold gS at hm
    rw[if_pos f1]at hm
    unfold nM at hm
    rw[Kk]at hm
    have hm:o∈ [ch.1]:=hm
    rw[aU,fI.OZ]at hm
    exact Rw hm
  · rw[f4]
    intro hm
    unfold gV at hm
    rw[if_pos kA]at hm
    exact h1 (by rw[<-e];exact wP hm)
end
end Go.Ab
end
