/-
  Made short by a program of mine (wip/tools/mini.py).
-/
import Derived.Test.YtcdokckdlaegdaaGreatS20x5
set_option linter.unusedVariables false
set_option linter.unusedSimpArgs false
set_option maxRecDepth 100000
set_option synthInstance.maxSize 5000
noncomputable section
namespace Go.Ab
open Go.Proofs
noncomputable section
def PM:ByteArray:=⟨#[109,105,120]⟩
def uv:ByteArray:=⟨#[114,101,118,111,107,101]⟩
theorem J5:∃f:ByteArray->Int->Int->Int,∀n a b,f n a b=kS (Di n [mu a,mu b]):=⟨_,λ_ _ _=>rfl⟩
def tK:ByteArray->Int->Int->Int:=Classical.choose J5
theorem wO(n:ByteArray)(a b:Int):tK n a b=kS (Di n [mu a,mu b]):=Classical.choose_spec J5 n a b
def l7(s:List Int):Int:=fw (kS s)
def wb(b p:Int):Int:=vg [b,fw (tK PM p b)]
def vc(b p:Int):Int:=vg [oO b (tK uv b p),oO p (tK uv p b)]
def sx(b:Int)(s:List Int):Int:=BP (yM b (tK uv (fw b) (l7 s))) (yM (kS s) (tK uv (l7 s) (fw b)))
theorem B6(n:ByteArray)(a b:Int):iw (tK n a b):=by rw[wO];exact vZ _
abbrev fB.D:=Int
def fB.st:fB.D->SA:=λp=>([.d tu p],[])
abbrev fB.Y:=Bs
abbrev fB.X:=Bs
def fB.out:fB.X->aZ:=λx=>⟨.d tB x,[],[]⟩
def fB.add:fB.D->fB.Y->fB.X:=λp y=>y
def fB.aw:fB.D->Prop:=λ_=>True
def fB.F:fB.D->fB.Y:=λn=>mu n
def fB.G:fD:=gz (P:=Tryz.prog) []
def fB.an:fT:= {loops:=oF [(3,{bS:=[0,3,5],sites:=[3]})],outs:=oE [(3,{bS:=[3],sites:=[3]},{bS:=[2],sites:=[3]})],res:=[some tB]}
def fB.A:= @dq Tryz.prog fB.G fB.an 12 Tryz.f162 _ fB.st
abbrev fB.Ok:=dr @fB.A fB.aw fB.add fB.F fB.out
theorem fB.eq{R:Type}(p:Int)(k:aZ->Option R):fB.A p k=
 k (fB.out [(eH .u8 (cZ .u64 p (56:Int))),(eH .u8 (cZ .u64 p (48:Int))),(eH .u8 (cZ .u64 p (40:Int))),(eH .u8 (cZ .u64 p (32:Int))),(eH .u8 (cZ .u64 p (24:Int))),(eH .u8 (cZ .u64 p (16:Int))),(eH .u8 (cZ .u64 p (8:Int))),(eH .u8 (cZ .u64 p (0:Int)))]):=by kernel_rfl
theorem fB.ok:fB.Ok:=by
 intro n _
 rw[fB.eq,BT]
 rfl
def fB.E:=Entry.dp [some tu] fB.st fB.aw fB.add fB.F fB.out
def fB.call:fB.D->Option fB.X:=cj fB.E fB.st
theorem fB.run:cl fB.call fB.aw fB.add fB.F:=dw (du [.d tu] λ_=>by kernel_rfl)
def fB.sg:SG Tryz.prog:=⟨162,aP,fB.E,.fn 1 (by kernel_rfl) fB.ok (And.intro (.none (by kernel_rfl)) trivial)⟩
abbrev bo.L0.D:=ByteArray×Nat×Bs×Int×Int×(List Bs)
def bo.L0.st:bo.L0.D->AS:=λ(wm,partsL,t8,t9,t10,oH)=>⟨([.d .str wm]++bG 4 ([.dh (.new 18 0) 0 [] 0 0 partsL,.undef,.undef,.d tU t8,.d ti t9,.d ti t10]++bG 13 [])),[],(db 18 ([[.obj 0 false (.vec 135 tB oH)]]++db 5 []))⟩
abbrev bo.L0.Y0:=Nat×(List Bs)
abbrev bo.L0.X0:=(ByteArray)×(Nat×(List Bs))
def bo.L0.bV:bo.L0.X0->Exit×AS:=λx=>(.exit 0,⟨([.d .str x.1]++bG 4 ([.dh (.new 18 0) 0 [] 0 0 x.2.1]++bG 18 [])),[],(db 18 ([[.obj 0 false (.vec 135 tB x.2.2)]]++db 5 []))⟩)
abbrev bo.L0.X:=bo.L0.X0
abbrev bo.L0.Y:=bo.L0.Y0
def bo.L0.out:bo.L0.X->Out (Exit×AS):=λx=> .ok (bo.L0.bV x)
def bo.L0.add:bo.L0.D->bo.L0.Y->bo.L0.X:=λ(wm,partsL,t8,t9,t10,oH) y=>(wm,y)
abbrev bo.D:=ByteArray×Bs
def bo.st:bo.D->SA:=λ(name,points)=>([.d .str name,.d tU points],[])
abbrev bo.Y:=Int
abbrev bo.X:=Int
def bo.out:bo.X->aZ:=λx=>⟨.d tu x,[],[]⟩
def bo.add:bo.D->bo.Y->bo.X:=λ(name,points) y=>y
def bo.L0.aw:bo.L0.D->Prop:=λ(name,L,ps,m,i,row)=>(ps).length<=1000000/\∃k:Nat,k<=(ps).length/\i=k/\m=(ps).length/\L=(row).length/\(row).length<=1000000+k
def bo.L0.F:bo.L0.D->bo.L0.Y:=λ(name,L,ps,m,i,row)=>(L+(List.drop (Int.toNat i) ps).length,row++(List.drop (Int.toNat i) ps).map mu)
def bo.aw:bo.D->Prop:=λ(name,ps)=>name.size<=100/\ps.length=2
def bo.F:bo.D->bo.Y:=λ(name,ps)=>tK name (nth tu ps 0) (nth tu ps 1)
def bo.G:fD:=gz (P:=Tryz.prog) [fB.sg,dH.sg,cE.sg]
def bo.L0.E:=cV.dp bo.L0.st bo.L0.aw bo.L0.add bo.L0.F bo.L0.out
def bo.L0.call:bo.L0.D->Option bo.L0.X:=eI bo.L0.E bo.L0.st
def bo.an:fT:= {loops:=oF [(3,{bS:=[0,5,8,9,10],sites:=[18],nB:=[⟨5,[],18,199⟩]})],outs:=oE [(3,{bS:=[0,5],sites:=[18]},{bS:=[4]})],jw:=pL [(3,bo.L0.E)]}
def bo.A:= @dq Tryz.prog bo.G bo.an 0 Tryz.f124 _ bo.st
abbrev bo.Ok:=dr @bo.A bo.aw bo.add bo.F bo.out
def bo.L0.R:= @dn Tryz.prog bo.G bo.an 0 Tryz.f124 0 _ bo.L0.st
abbrev bo.L0.Ok:=gw Tryz.prog bo.G bo.an 0 Tryz.f124 0 bo.L0.st bo.L0.aw bo.L0.add bo.L0.F bo.L0.out
theorem bo.L0.run:cl bo.L0.call bo.L0.aw bo.L0.add bo.L0.F:=gT (gS [.d .str,.n,.d tU,.d ti,.d ti,.d (.slice tB)] λ_=>by kernel_rfl)
theorem bo.L0.aI:jk @bo.L0.R bo.L0.st bo.L0.aw bo.L0.add bo.L0.F bo.L0.bV bo.L0.Ok:=jm
theorem bo.L0.step{R:Type}(wm:ByteArray)(partsL:Nat)(t8:Bs)(t9:Int)(t10:Int)(oH:(List Bs))(kn:AS->Option R)(kx:Exit->AS->Option R):bo.L0.R (wm,partsL,t8,t9,t10,oH) kn kx=
  aJ ((jK t10 t9)) (
   aJ (fp t10 (((List.length t8):Nat):Int)) (
   aj (fB.call (nth tu t8 (Int.toNat t10))) λx1=>
   aJ (decide (partsL<=(List.length oH))) (
   aJ (fk (partsL+1) 24) (
   kn (bo.L0.st (wm,(partsL+1),t8,t9,(bO .i64 t10 (1:Int)),((List.take partsL oH)++ [x1])))) none) none) none) (
   kx (bo.L0.bV (wm,(partsL,oH))).1 (bo.L0.bV (wm,(partsL,oH))).2):=by kernel_rfl
theorem bo.eq{R:Type}(name:ByteArray)(points:Bs)(k:aZ->Option R):bo.A (name,points) k=
 aj (bo.L0.call (name,0,points,(((List.length points):Nat):Int),(0:Int),([]:List Bs))) λx3=>
 aJ (decide (0=0/\(0+x3.2.1)<=(List.length x3.2.2))) (
 aj (dH.call (x3.1,(cut x3.2.2 0 x3.2.1))) λx4=>
 aj (cE.call x4) λx5=>
 k (bo.out x5)) none:=by kernel_rfl
theorem bo.L0.ok:bo.L0.Ok:=by
 refine bo.L0.aI (λ(name,L,ps,m,i,row)=>(ps).length - Int.toNat i) ?_
 rintro⟨name,L,ps,m,i,row⟩ ⟨hlen,k,hk,rfl,rfl,rfl,my⟩
 have hlen:(ps).length<=1000000:=hlen
 have hk:k<=(ps).length:=hk
 have my:(row).length<=1000000+k:=my
 by_cases h:k < (ps).length
 ·left
  have n1:nth tu ps k=ps[k]:=dP (t:=tu) h
  have hd:List.drop k ps=ps[k]::List.drop (k+1) ps:=aA h
  refine⟨(name,(row).length+1,ps,((ps).length:Int),((k+1:Nat):Int),row++ [mu ps[k]]),⟨hlen,k+1,by omega,rfl,rfl,by rw[ae];rfl,by rw[ae];show(row).length+1<=_;omega⟩,by simp only[aa];omega,?_,λkn kx=> ?_⟩
  ·simp only[bo.L0.add,bo.L0.F,aa,hd,cG,aN,bR,eS]
   rw[show ∀a c:Nat,a+1+c=a+(c+1) from λa c=>by omega]
  ·rw[bo.L0.step,bI (by omega),bF (show(0:Int)<=(k:Int) by omega) (by omega),aa,n1]
   simp only[ah]
   rw[fB.run (d:=ps[k]) trivial]
   simp only[ab,fB.add,fB.F]
   rw[aO (aC _),fV (by omega) (by omega),N.pJ (by omega),cz]
   rfl
 ·right
  obtain rfl:k=(ps).length:=by omega
  intro R kn kx
  rw[bo.L0.step,bp (by omega),ai]
  simp only[bo.L0.add,bo.L0.F,aa,bH,jg,dg,bJ,dE]
theorem bo.ok:bo.Ok:=by
 rintro⟨name,ps⟩ ⟨hn,h2⟩
 have h2:ps.length=2:=h2
 match ps,h2 with
 |[a,b],_=>
  rw[bo.eq,bo.L0.run (d:=(name,0,[a,b],(([a,b].length:Nat):Int),0,[])) ⟨by show 2<=_;decide,0,bm _,rfl,rfl,rfl,bm _⟩]
  simp only[ab,bo.L0.add,bo.L0.F,bK,aW,bu,bl,cG,jg,aN,bJ]
  rw[aO ⟨trivial,by decide⟩,ah,show cut [mu a,mu b] 0 (1+1)=[mu a,mu b] from iV (l:=[mu a,mu b]) (n:=1+1) rfl,dH.run (d:=(name,[mu a,mu b])) (Dj hn (by rw[dO];omega) (by rw[dO];omega))]
  simp only[ab,dH.add,dH.F]
  rw[cE.run (d:=tag (cr name) [mu a,mu b]) (Df _ _)]
  simp only[ab,cE.add,cE.F,bo.add,bo.F,wO,Di]
  rfl
def bo.E:=Entry.dp [some .str,some tU] bo.st bo.aw bo.add bo.F bo.out
def bo.call:bo.D->Option bo.X:=cj bo.E bo.st
theorem bo.run:cl bo.call bo.aw bo.add bo.F:=dw (du [.d .str,.d tU] λ_=>by kernel_rfl)
def bo.sg:SG Tryz.prog:=⟨124,aP,bo.E,.fn 1 (by kernel_rfl) bo.ok (And.intro (.dp bo.L0.ok (by kernel_rfl)) trivial)⟩
theorem bo.c{n:ByteArray}(h:n.size<=100)(a b:Int):bo.call (n,[a,b])=some (tK n a b):=bo.run (d:=(n,[a,b])) ⟨h,rfl⟩
theorem dX.c{k:Int}(h:iw k):dX.call k=some (fw k):=dX.run (d:=k) h
theorem jv.c{a b:Int}(h:iw a)(h2:iw b):jv.call (a,b)=some (vg [a,b]):=jv.run (d:=(a,b)) ⟨h,h2⟩
theorem eL.c{a b:Int}(h:iw a)(h2:iw b):eL.call (a,b)=some (oO a b):=eL.run (d:=(a,b)) ⟨h,h2⟩
theorem jC.c{a b:Int}(h:iw a)(h2:iw b):jC.call (a,b)=some (yM a b):=jC.run (d:=(a,b)) ⟨h,h2⟩
theorem jR.c{a b:Int}(h:iw a)(h2:iw b):jR.call (a,b)=some (BP a b):=jR.run (d:=(a,b)) ⟨h,h2⟩
theorem cE.c{s:List Int}(h:Sm s):cE.call s=some (kS s):=cE.run (d:=s) h
theorem R4(a b:Int):bo.call ((⟨#[109,105,120]⟩:ByteArray),[a,b])=some (tK PM a b):=bo.c (n:=PM) (by decide) a b
theorem FM(a b:Int):bo.call ((⟨#[114,101,118,111,107,101]⟩:ByteArray),[a,b])=some (tK uv a b):=bo.c (n:=uv) (by decide) a b
theorem H0(a b:Int):iw (oO a b):=(EO _ _).u
abbrev eu.D:=pI
def eu.st:eu.D->SA:=λkv=>([.d rZ kv],[])
abbrev eu.Y:=KU
abbrev eu.X:=KU
def eu.out:eu.X->aZ:=λx=>⟨.d qt x,[],[]⟩
def eu.add:eu.D->eu.Y->eu.X:=λkv y=>y
def eu.aw:eu.D->Prop:=λk=>Fa k
def eu.F:eu.D->eu.Y:=λk=>uJ k
def eu.G:fD:=gz (P:=Tryz.prog) [dX.sg]
def eu.an:fT:= {}
def eu.A:= @dq Tryz.prog eu.G eu.an 0 Tryz.f13 _ eu.st
abbrev eu.Ok:=dr @eu.A eu.aw eu.add eu.F eu.out
theorem eu.eq{R:Type}(kv:pI)(k:aZ->Option R):eu.A kv k=
 aj (dX.call kv.1) λx1=>
 aj (dX.call kv.2.1) λx2=>
 aj (dX.call kv.2.2.1) λx3=>
 aj (dX.call kv.2.2.2.1) λx4=>
 aj (dX.call kv.2.2.2.2.1) λx5=>
 k (eu.out (x1,(x2,(x3,(x4,(x5,())))))):=by kernel_rfl
theorem eu.ok:eu.Ok:=by
 rintro k ⟨h1,h2,h3,h4,h5⟩
 rw[eu.eq,dX.c h1,ab,dX.c h2,ab,dX.c h3,ab,dX.c h4,ab,dX.c h5,ab]
 rfl
def eu.E:=Entry.dp [some rZ] eu.st eu.aw eu.add eu.F eu.out
def eu.call:eu.D->Option eu.X:=cj eu.E eu.st
theorem eu.run:cl eu.call eu.aw eu.add eu.F:=dw (du [.d rZ] λ_=>by kernel_rfl)
def eu.sg:SG Tryz.prog:=⟨13,aP,eu.E,.fn 0 (by kernel_rfl) eu.ok trivial⟩
abbrev eU.D:=Bs
def eU.st:eU.D->SA:=λsecret=>([.d tH secret],[])
abbrev eU.Y:=Int
abbrev eU.X:=Int
def eU.out:eU.X->aZ:=λx=>⟨.d tu x,[],[]⟩
def eU.add:eU.D->eU.Y->eU.X:=λsecret y=>y
def eU.aw:eU.D->Prop:=λs=>Sm s
def eU.F:eU.D->eU.Y:=λs=>l7 s
def eU.G:fD:=gz (P:=Tryz.prog) [cE.sg,dX.sg]
def eU.an:fT:= {}
def eU.A:= @dq Tryz.prog eU.G eU.an 0 Tryz.f45 _ eU.st
abbrev eU.Ok:=dr @eU.A eU.aw eU.add eU.F eU.out
theorem eU.eq{R:Type}(secret:Bs)(k:aZ->Option R):eU.A secret k=
 aj (cE.call secret) λx1=>
 aj (dX.call x1) λx2=>
 k (eU.out x2):=by kernel_rfl
theorem eU.ok:eU.Ok:=by
 intro s hs
 rw[eU.eq,cE.c hs,ab,dX.c (vZ s),ab]
 rfl
def eU.E:=Entry.dp [some tH] eU.st eU.aw eU.add eU.F eU.out
def eU.call:eU.D->Option eU.X:=cj eU.E eU.st
theorem eU.run:cl eU.call eU.aw eU.add eU.F:=dw (du [.d tB] λ_=>by kernel_rfl)
def eU.sg:SG Tryz.prog:=⟨45,aP,eU.E,.fn 0 (by kernel_rfl) eU.ok trivial⟩
theorem eU.c{s:List Int}(h:Sm s):eU.call s=some (l7 s):=eU.run (d:=s) h
abbrev jh.D:=Int×Int
def jh.st:jh.D->SA:=λ(base,per)=>([.d tu base,.d tu per],[])
abbrev jh.Y:=Int
abbrev jh.X:=Int
def jh.out:jh.X->aZ:=λx=>⟨.d tu x,[],[]⟩
def jh.add:jh.D->jh.Y->jh.X:=λ(base,per) y=>y
def jh.aw:jh.D->Prop:=λ(b,_)=>iw b
def jh.F:jh.D->jh.Y:=λ(b,p)=>wb b p
def jh.G:fD:=gz (P:=Tryz.prog) [bo.sg,dX.sg,jv.sg]
def jh.an:fT:= {}
def jh.A:= @dq Tryz.prog jh.G jh.an 0 Tryz.f79 _ jh.st
abbrev jh.Ok:=dr @jh.A jh.aw jh.add jh.F jh.out
theorem jh.eq{R:Type}(base:Int)(per:Int)(k:aZ->Option R):jh.A (base,per) k=
 aj (bo.call ((⟨#[109,105,120]⟩:ByteArray),[per,base])) λx1=>
 aj (dX.call x1) λx2=>
 aj (jv.call (base,x2)) λx3=>
 k (jh.out x3):=by kernel_rfl
theorem jh.ok:jh.Ok:=by
 rintro⟨b,p⟩ hb
 rw[jh.eq,R4,ab,dX.c (B6 PM p b),ab,jv.c hb (uK _),ab]
 have ea:∀d y,jh.add d y=y:=λ_ _=>rfl
 have eF:jh.F (b,p)=wb b p:=rfl
 rw[ea,eF]
 unfold wb
 rfl
def jh.E:=Entry.dp [some tu,some tu] jh.st jh.aw jh.add jh.F jh.out
def jh.call:jh.D->Option jh.X:=cj jh.E jh.st
theorem jh.run:cl jh.call jh.aw jh.add jh.F:=dw (du [.d tu,.d tu] λ_=>by kernel_rfl)
def jh.sg:SG Tryz.prog:=⟨79,aP,jh.E,.fn 0 (by kernel_rfl) jh.ok trivial⟩
abbrev dF.D:=Int×Int
def dF.st:dF.D->SA:=λ(base,per)=>([.d tu base,.d tu per],[])
abbrev dF.Y:=Int
abbrev dF.X:=Int
def dF.out:dF.X->aZ:=λx=>⟨.d tu x,[],[]⟩
def dF.add:dF.D->dF.Y->dF.X:=λ(base,per) y=>y
def dF.aw:dF.D->Prop:=λ(b,p)=>iw b/\iw p
def dF.F:dF.D->dF.Y:=λ(b,p)=>vc b p
def dF.G:fD:=gz (P:=Tryz.prog) [bo.sg,eL.sg,jv.sg]
def dF.an:fT:= {}
def dF.A:= @dq Tryz.prog dF.G dF.an 0 Tryz.f78 _ dF.st
abbrev dF.Ok:=dr @dF.A dF.aw dF.add dF.F dF.out
theorem dF.eq{R:Type}(base:Int)(per:Int)(k:aZ->Option R):dF.A (base,per) k=
 aj (bo.call ((⟨#[114,101,118,111,107,101]⟩:ByteArray),[base,per])) λx1=>
 aj (eL.call (base,x1)) λx2=>
 aj (bo.call ((⟨#[114,101,118,111,107,101]⟩:ByteArray),[per,base])) λx3=>
 aj (eL.call (per,x3)) λx4=>
 aj (jv.call (x2,x4)) λx5=>
 k (dF.out x5):=by kernel_rfl
theorem dF.ok:dF.Ok:=by
 rintro⟨b,p⟩ ⟨hb,hp⟩
 have hb:iw b:=hb
 have hp:iw p:=hp
 have e1:=FM b p
 have e2:=FM p b
 have u1:=B6 uv b p
 have u2:=B6 uv p b
 have ea:∀d y,dF.add d y=y:=λ_ _=>rfl
 have eF:dF.F (b,p)=vc b p:=rfl
 rw[ea,eF]
 unfold vc
 generalize tK uv b p=x at e1 u1
 generalize tK uv p b=y at e2 u2
 have q1:=eL.c hb u1
 have q2:=eL.c hp u2
 have q3:=jv.c (H0 b x) (H0 p y)
 generalize oO b x=v at q1 q3
 generalize oO p y=w at q2 q3
 generalize vg [v,w]=z at q3
 rw[dF.eq,e1,ab,q1,ab,e2,ab,q2,ab,q3,ab]
def dF.E:=Entry.dp [some tu,some tu] dF.st dF.aw dF.add dF.F dF.out
def dF.call:dF.D->Option dF.X:=cj dF.E dF.st
theorem dF.run:cl dF.call dF.aw dF.add dF.F:=dw (du [.d tu,.d tu] λ_=>by kernel_rfl)
def dF.sg:SG Tryz.prog:=⟨78,aP,dF.E,.fn 0 (by kernel_rfl) dF.ok trivial⟩
abbrev dJ.D:=Int×Bs
def dJ.st:dJ.D->SA:=λ(base,secret)=>([.d tu base,.d tH secret],[])
abbrev dJ.Y:=Int
abbrev dJ.X:=Int
def dJ.out:dJ.X->aZ:=λx=>⟨.d tu x,[],[]⟩
def dJ.add:dJ.D->dJ.Y->dJ.X:=λ(base,secret) y=>y
def dJ.aw:dJ.D->Prop:=λ(b,s)=>iw b/\Sm s
def dJ.F:dJ.D->dJ.Y:=λ(b,s)=>sx b s
def dJ.G:fD:=gz (P:=Tryz.prog) [dX.sg,eU.sg,bo.sg,jC.sg,cE.sg,jR.sg]
def dJ.an:fT:= {}
def dJ.A:= @dq Tryz.prog dJ.G dJ.an 0 Tryz.f73 _ dJ.st
abbrev dJ.Ok:=dr @dJ.A dJ.aw dJ.add dJ.F dJ.out
theorem dJ.eq{R:Type}(base:Int)(secret:Bs)(k:aZ->Option R):dJ.A (base,secret) k=
 aj (dX.call base) λx1=>
 aj (eU.call secret) λx2=>
 aj (bo.call ((⟨#[114,101,118,111,107,101]⟩:ByteArray),[x1,x2])) λx3=>
 aj (jC.call (base,x3)) λx4=>
 aj (cE.call secret) λx5=>
 aj (bo.call ((⟨#[114,101,118,111,107,101]⟩:ByteArray),[x2,x1])) λx6=>
 aj (jC.call (x5,x6)) λx7=>
 aj (jR.call (x4,x7)) λx8=>
 k (dJ.out x8):=by kernel_rfl
theorem dJ.ok:dJ.Ok:=by
 rintro⟨b,s⟩ ⟨hb,hs⟩
 rw[dJ.eq,dX.c hb,ab,eU.c hs,ab,FM,ab,jC.c hb (B6 uv _ _),ab,cE.c hs,ab,FM,ab,jC.c (vZ s) (B6 uv _ _),ab,jR.c (yN _ _).u (yN _ _).u,ab]
 have ea:∀d y,dJ.add d y=y:=λ_ _=>rfl
 have eF:dJ.F (b,s)=sx b s:=rfl
 rw[ea,eF]
 unfold sx
 rfl
def dJ.E:=Entry.dp [some tu,some tH] dJ.st dJ.aw dJ.add dJ.F dJ.out
def dJ.call:dJ.D->Option dJ.X:=cj dJ.E dJ.st
theorem dJ.run:cl dJ.call dJ.aw dJ.add dJ.F:=dw (du [.d tu,.d tB] λ_=>by kernel_rfl)
def dJ.sg:SG Tryz.prog:=⟨73,aP,dJ.E,.fn 0 (by kernel_rfl) dJ.ok trivial⟩
theorem jh.c{b:Int}(h:iw b)(p:Int):jh.call (b,p)=some (wb b p):=by
 have ea:∀d y,jh.add d y=y:=λ_ _=>rfl
 have eF:jh.F (b,p)=wb b p:=rfl
 rw[jh.run (d:=(b,p)) h,ea,eF]
theorem dF.c{b p:Int}(h:iw b)(h2:iw p):dF.call (b,p)=some (vc b p):=by
 have ea:∀d y,dF.add d y=y:=λ_ _=>rfl
 have eF:dF.F (b,p)=vc b p:=rfl
 rw[dF.run (d:=(b,p)) ⟨h,h2⟩,ea,eF]
theorem dJ.c{b:Int}{s:List Int}(h:iw b)(h2:Sm s):dJ.call (b,s)=some (sx b s):=by
 have ea:∀d y,dJ.add d y=y:=λ_ _=>rfl
 have eF:dJ.F (b,s)=sx b s:=rfl
 rw[dJ.run (d:=(b,s)) ⟨h,h2⟩,ea,eF]
abbrev gF.D:=Int
def gF.st:gF.D->SA:=λn=>([.d ti n],[])
abbrev gF.Y:=Bool
abbrev gF.X:=Bool
def gF.out:gF.X->aZ:=λx=>⟨.d .bool x,[],[]⟩
def gF.add:gF.D->gF.Y->gF.X:=λn y=>y
def gF.aw:gF.D->Prop:=λ_=>True
def gF.F:gF.D->gF.Y:=λn=>decide (n=0\/n=1)
def gF.G:fD:=gz (P:=Tryz.prog) []
def gF.an:fT:= {}
def gF.A:= @dq Tryz.prog gF.G gF.an 0 Tryz.f40 _ gF.st
abbrev gF.Ok:=dr @gF.A gF.aw gF.add gF.F gF.out
theorem gF.eq{R:Type}(n:Int)(k:aZ->Option R):gF.A n k=
  aJ ((nX n (0:Int))) (
   k (gF.out true)) (
   k (gF.out (nX n (1:Int)))):=by kernel_rfl
theorem gF.ok:gF.Ok:=by
 intro(n:Int) _
 rw[gF.eq]
 simp only[gF.add,gF.F]
 by_cases h:n=0
 ·rw[iE h,ah,aO (.inl h)]
 ·rw[fJ h,ai]
  by_cases h2:n=1
  ·rw[iE h2,aO (.inr h2)]
  ·rw[fJ h2,cR (by rintro(x | x);exact h x;exact h2 x)]
def gF.E:=Entry.dp [some ti] gF.st gF.aw gF.add gF.F gF.out
def gF.call:gF.D->Option gF.X:=cj gF.E gF.st
theorem gF.run:cl gF.call gF.aw gF.add gF.F:=dw (du [.d ti] λ_=>by kernel_rfl)
def gF.sg:SG Tryz.prog:=⟨40,aP,gF.E,.fn 0 (by kernel_rfl) gF.ok trivial⟩
abbrev bT.L0.D:=Int×iN×Nat×(List jj)×Int×Int×(List jj)
def bT.L0.st:bT.L0.D->AS:=λ(qn,jB,outL,t11,t12,t13,PK)=>⟨([.undef,.undef,.d ti qn,.gE nb jB,.undef,.undef,.undef,.dh (.new 27 0) 0 [] 0 0 outL,.undef,.undef,.undef,.d (.slice ke) t11,.d ti t12,.d ti t13]++bG 16 []),[],(db 27 [[.obj 0 false (.vec 75 ke PK)],[],[]])⟩
abbrev bT.L0.Y0:=Nat×(List jj)
abbrev bT.L0.X0:=Nat×(List jj)
def bT.L0.bV:bT.L0.X0->Exit×AS:=λx=>(.exit 0,⟨(bG 7 ([.dh (.new 27 0) 0 [] 0 0 x.1]++bG 22 [])),[],(db 27 [[.obj 0 false (.vec 75 ke x.2)],[],[]])⟩)
abbrev bT.L0.X:=bT.L0.X0
abbrev bT.L0.Y:=bT.L0.Y0
def bT.L0.out:bT.L0.X->Out (Exit×AS):=λx=> .ok (bT.L0.bV x)
def bT.L0.add:bT.L0.D->bT.L0.Y->bT.L0.X:=λ(qn,jB,outL,t11,t12,t13,PK) y=>y
abbrev bT.D:=iN×jl×Int
def bT.st:bT.D->SA:=λ(ch,sv,own)=>([.d nb ch,.d mC sv,.d ti own],[])
abbrev bT.Y:=(List jj)
abbrev bT.X:=(List jj)
def bT.out:bT.X->aZ:=λx=>⟨.d (.slice ke) x,[],[]⟩
def bT.add:bT.D->bT.Y->bT.X:=λ(ch,sv,own) y=>y
def D7(n:Int):Bool:=qz n 100
def jb(l:List jj):List jj:=l.filter λc=>D7 c.2.2.1
theorem A5(c:jj)(l:List jj):jb (c::l)=if D7 c.2.2.1=true then c::jb l else jb l:=by
 unfold jb
 rw[ix]
def bT.L0.aw:bT.L0.D->Prop:=λ(own,ch,L,l,m,i,row)=>ns ch/\(own=0\/own=1)/\l.length<=1000/\m=l.length/\L=row.length/\∃k:Nat,k<=l.length/\i=k/\row.length<=k
def bT.L0.F:bT.L0.D->bT.L0.Y:=λ(own,ch,L,l,m,i,row)=>((row++jb (l.drop i.toNat)).length,row++jb (l.drop i.toNat))
def bT.aw:bT.D->Prop:=λ(ch,s,own)=>ns ch/\(own=0\/own=1)/\s.2.2.1.length<=1000
def bT.F:bT.D->bT.Y:=λ(_,s,_)=>jb s.2.2.1
def bT.G:fD:=gz (P:=Tryz.prog) [dR.sg]
def bT.L0.E:=cV.dp bT.L0.st bT.L0.aw bT.L0.add bT.L0.F bT.L0.out
def bT.L0.call:bT.L0.D->Option bT.L0.X:=eI bT.L0.E bT.L0.st
def bT.an:fT:= {loops:=oF [(3,{bS:=[2,3,7,11,12,13],sites:=[27],nB:=[⟨7,[],27,51⟩]})],outs:=oE [(3,{bS:=[7],sites:=[27]},{bS:=[6]})],jw:=pL [(3,bT.L0.E)],res:=[some (.slice ke)]}
def bT.A:= @dq Tryz.prog bT.G bT.an 0 Tryz.f84 _ bT.st
abbrev bT.Ok:=dr @bT.A bT.aw bT.add bT.F bT.out
def bT.L0.R:= @dn Tryz.prog bT.G bT.an 0 Tryz.f84 0 _ bT.L0.st
abbrev bT.L0.Ok:=gw Tryz.prog bT.G bT.an 0 Tryz.f84 0 bT.L0.st bT.L0.aw bT.L0.add bT.L0.F bT.L0.out
theorem bT.L0.run:cl bT.L0.call bT.L0.aw bT.L0.add bT.L0.F:=gT (gS [.d ti,.d nb,.n,.d (.slice ke),.d ti,.d ti,.d (.slice ke)] λ_=>by kernel_rfl)
theorem bT.L0.aI:jk @bT.L0.R bT.L0.st bT.L0.aw bT.L0.add bT.L0.F bT.L0.bV bT.L0.Ok:=jm
theorem bT.L0.step{R:Type}(qn:Int)(jB:iN)(outL:Nat)(t11:(List jj))(t12:Int)(t13:Int)(PK:(List jj))(kn:AS->Option R)(kx:Exit->AS->Option R):bT.L0.R (qn,jB,outL,t11,t12,t13,PK) kn kx=
  aJ ((jK t13 t12)) (
   aJ (fp t13 (((List.length t11):Nat):Int)) (
   aJ (fp qn (2:Int)) (
   aj (dR.call ((nth oP jB.2.2.2.1 (Int.toNat qn)),(nth ke t11 (Int.toNat t13)).2.2.1)) λx1=>
   aJ (x1) (
    aJ (decide (outL<=(List.length PK))) (
    aJ (fk (outL+1) 40) (
    kn (bT.L0.st (qn,jB,(outL+1),t11,t12,(bO .i64 t13 (1:Int)),((List.take outL PK)++ [(nth ke t11 (Int.toNat t13))])))) none) none) (
    kn (bT.L0.st (qn,jB,outL,t11,t12,(bO .i64 t13 (1:Int)),PK)))) none) none) (
   kx (bT.L0.bV (outL,PK)).1 (bT.L0.bV (outL,PK)).2):=by kernel_rfl
theorem bT.eq{R:Type}(ch:iN)(sv:jl)(own:Int)(k:aZ->Option R):bT.A (ch,sv,own) k=
 aj (bT.L0.call (own,ch,0,sv.2.2.1,(((List.length sv.2.2.1):Nat):Int),(0:Int),([]:List jj))) λx3=>
 aJ (decide (0=0/\(0+x3.1)<=(List.length x3.2))) (
 k (bT.out (cut x3.2 0 x3.1))) none:=by kernel_rfl
theorem ns.shown{ch:iN}(h:ns ch){own:Int}(ho:own=0\/own=1)(n:Int):dR.call (nth oP ch.2.2.2.1 own.toNat,n)=some (D7 n):=by
 obtain⟨d,hd,_⟩:=h.t ho
 rw[hd,dR.run (d:=(te d,n)) trivial]
 rfl
theorem bT.L0.ok:bT.L0.Ok:=by
 refine bT.L0.aI (λ(_,_,_,l,_,i,_)=>l.length - i.toNat) ?_
 rintro⟨own,ch,L,l,m,i,row⟩ ⟨fI,ho,hl,rfl,rfl,k,hk,rfl,hr⟩
 have hk:k<=l.length:=hk
 have hl:l.length<=1000:=hl
 have hr:row.length<=k:=hr
 have ho:own=0\/own=1:=ho
 have fI:ns ch:=fI
 by_cases h:k < l.length
 ·left
  have n1:nth ke l k=l[k]:=dP (t:=ke) h
  have hd:jb (l.drop k)=if D7 l[k].2.2.1=true then l[k]::jb (l.drop (k+1)) else jb (l.drop (k+1)):=by rw[aA h,A5]
  have e1:(row++ [l[k]]).length=row.length+1:=by rw[ae];rfl
  cases hs:D7 l[k].2.2.1
  ·refine⟨(own,ch,row.length,l,(l.length:Int),((k+1:Nat):Int),row),⟨fI,ho,hl,rfl,rfl,k+1,by omega,rfl,by show row.length<=_;omega⟩,by simp only[aa];omega,?_,λkn kx=> ?_⟩
   ·rw[hs,if_neg (by simp)]at hd
    simp only[bT.L0.add,bT.L0.F,aa,hd]
   ·rw[bT.L0.step,bI (by omega),bF (by omega) (by omega),bF (by omega) (by omega),aa,n1,fI.shown ho,hs,N.pJ (by omega)]
    rfl
  ·refine⟨(own,ch,row.length+1,l,(l.length:Int),((k+1:Nat):Int),row++ [l[k]]),⟨fI,ho,hl,rfl,e1.symm,k+1,by omega,rfl,by show(row++ [l[k]]).length<=_;omega⟩,by simp only[aa];omega,?_,λkn kx=> ?_⟩
   ·rw[hs,if_pos rfl]at hd
    simp only[bT.L0.add,bT.L0.F,aa,hd,bR,eS]
   ·rw[bT.L0.step,bI (by omega),bF (by omega) (by omega),bF (by omega) (by omega),aa,n1,fI.shown ho,hs,N.pJ (by omega),aO (aC _),fV (by omega) (by omega),cz]
    rfl
 ·right
  obtain rfl:k=l.length:=by omega
  intro R kn kx
  rw[bT.L0.step,bp (by omega),ai]
  simp only[bT.L0.add,bT.L0.F,aa,bH,jb,List.filter_nil,dg]
theorem bT.ok:bT.Ok:=by
 rintro⟨ch,s,own⟩ ⟨fI,ho,hl⟩
 rw[bT.eq,bT.L0.run (d:=(own,ch,0,s.2.2.1,(s.2.2.1.length:Int),0,[])) ⟨fI,ho,hl,rfl,rfl,0,bm _,rfl,bm _⟩]
 simp only[ab,bT.L0.add,bT.L0.F,bK,aW,bu,bT.add,bT.F]
 rw[aO ⟨trivial,by omega⟩,ah,iV (by omega)]
def bT.E:=Entry.dp [some nb,some mC,some ti] bT.st bT.aw bT.add bT.F bT.out
def bT.call:bT.D->Option bT.X:=cj bT.E bT.st
theorem bT.run:cl bT.call bT.aw bT.add bT.F:=dw (du [.d nb,.d mC,.d ti] λ_=>by kernel_rfl)
def bT.sg:SG Tryz.prog:=⟨84,aP,bT.E,.fn 1 (by kernel_rfl) bT.ok (And.intro (.dp bT.L0.ok (by kernel_rfl)) trivial)⟩
def jF(ch:iN)(s:jl)(f:Int):Int:=nth ti s.2.1 f.toNat - (if f=ch.2.2.2.2.1 then Bt s.2.2.2.1 (jb s.2.2.1).length+660 else 0)
abbrev gl.D:=iN×jl×Int×Int
def gl.st:gl.D->SA:=λ(ch,sv,own,of)=>([.d nb ch,.d mC sv,.d ti own,.d ti of],[])
abbrev gl.Y:=Int
abbrev gl.X:=Int
def gl.out:gl.X->aZ:=λx=>⟨.d ti x,[],[]⟩
def gl.add:gl.D->gl.Y->gl.X:=λ(ch,sv,own,of) y=>y
def gl.aw:gl.D->Prop:=λ(ch,s,own,of)=>ns ch/\xi ch s/\(own=0\/own=1)/\(of=0\/of=1)
def gl.F:gl.D->gl.Y:=λ(ch,s,_,of)=>jF ch s of
def gl.G:fD:=gz (P:=Tryz.prog) [bT.sg,fZ.sg]
def gl.an:fT:= {}
def gl.A:= @dq Tryz.prog gl.G gl.an 0 Tryz.f42 _ gl.st
abbrev gl.Ok:=dr @gl.A gl.aw gl.add gl.F gl.out
theorem gl.eq{R:Type}(ch:iN)(sv:jl)(own:Int)(of:Int)(k:aZ->Option R):gl.A (ch,sv,own,of) k=
  aJ (fp of (2:Int)) (
  aJ ((nX of ch.2.2.2.2.1)) (
   aj (bT.call (ch,sv,own)) λx1=>
   aj (fZ.call (sv.2.2.2.1,(((List.length x1):Nat):Int))) λx2=>
   k (gl.out (cY .i64 (nth ti sv.2.1 (Int.toNat of)) (bO .i64 x2 (660:Int))))) (
   k (gl.out (nth ti sv.2.1 (Int.toNat of))))) none:=by kernel_rfl
theorem gl.ok:gl.Ok:=by
 rintro⟨ch,s,own,of⟩ ⟨fI,hs,ho,hf⟩
 have fI:ns ch:=fI
 have hs:xi ch s:=hs
 have hf:of=0\/of=1:=hf
 have hl:=hs.len
 have hv:=hs.Nb hf
 have Qq:=hv.1
 have Uj:=hv.2
 have Zp:=xH s.2.2.2.1 (jb s.2.2.1).length
 rw[gl.eq,bF (by omega) (by omega),ah]
 simp only[gl.add,gl.F,jF]
 by_cases h:of=ch.2.2.2.2.1
 ·rw[iE h,ah,bT.run (d:=(ch,s,own)) ⟨fI,ho,by show s.2.2.1.length<=1000;omega⟩]
  simp only[ab,bT.add,bT.F]
  rw[fZ.run (d:=(s.2.2.2.1,((jb s.2.2.1).length:Int))) trivial]
  simp only[ab,fZ.add,fZ.F]
  rw[ff (by omega) (by omega),gm (by omega) (by omega),if_pos h]
 ·rw[fJ h,ai,if_neg h,oc]
def gl.E:=Entry.dp [some nb,some mC,some ti,some ti] gl.st gl.aw gl.add gl.F gl.out
def gl.call:gl.D->Option gl.X:=cj gl.E gl.st
theorem gl.run:cl gl.call gl.aw gl.add gl.F:=dw (du [.d nb,.d mC,.d ti,.d ti] λ_=>by kernel_rfl)
def gl.sg:SG Tryz.prog:=⟨42,aP,gl.E,.fn 0 (by kernel_rfl) gl.ok trivial⟩
end
end Go.Ab
namespace Go.Ab
open Go.Proofs
def MR(a b:mF):Int:=NV [xc a.1.1 b.1.1,IM (cut a.2.2.1 0 32) (cut b.2.2.1 0 32),xc a.2.1.1 b.2.1.1,xc a.2.1.2.1.1 b.2.1.2.1.1,xc a.2.1.2.1.2.1 b.2.1.2.1.2.1]
abbrev ko.D:=mF×mF
def ko.st:ko.D->SA:=λ(a,b)=>([.d nU a,.d nU b],[])
abbrev ko.Y:=Int
abbrev ko.X:=Int
def ko.out:ko.X->aZ:=λx=>⟨.d ti x,[],[]⟩
def ko.add:ko.D->ko.Y->ko.X:=λ(a,b) y=>y
def ko.aw:ko.D->Prop:=λ_=>True
def ko.F:ko.D->ko.Y:=λ(a,b)=>MR a b
def ko.G:fD:=gz (P:=Tryz.prog) [iP.sg,kf.sg,iJ.sg]
def ko.an:fT:= {}
def ko.A:= @dq Tryz.prog ko.G ko.an 0 Tryz.f86 _ ko.st
abbrev ko.Ok:=dr @ko.A ko.aw ko.add ko.F ko.out
theorem ko.eq{R:Type}(a:mF)(b:mF)(k:aZ->Option R):ko.A (a,b) k=
 aj (iP.call (a.1.1,b.1.1)) λx1=>
 aj (kf.call ((cut a.2.2.1 0 32),(cut b.2.2.1 0 32))) λx2=>
 aj (iP.call (a.2.1.1,b.2.1.1)) λx3=>
 aj (iP.call (a.2.1.2.1.1,b.2.1.2.1.1)) λx4=>
 aj (iP.call (a.2.1.2.1.2.1,b.2.1.2.1.2.1)) λx5=>
 aj (iJ.call [x1,x2,x3,x4,x5]) λx6=>
 k (ko.out x6):=by kernel_rfl
theorem ko.ok:ko.Ok:=by
 rintro⟨a,b⟩ _
 have ci:∀x y:Int,iP.call (x,y)=some (xc x y):=λx y=>iP.run (d:=(x,y)) trivial
 rw[ko.eq,kf.run (d:=(cut a.2.2.1 0 32,cut b.2.2.1 0 32)) trivial]
 simp only[ci,ab,kf.add,kf.F]
 rw[iJ.run (by show 5<=_;decide)]
 rfl
def ko.E:=Entry.dp [some nU,some nU] ko.st ko.aw ko.add ko.F ko.out
def ko.call:ko.D->Option ko.X:=cj ko.E ko.st
theorem ko.run:cl ko.call ko.aw ko.add ko.F:=dw (du [.d nU,.d nU] λ_=>by kernel_rfl)
def ko.sg:SG Tryz.prog:=⟨86,aP,ko.E,.fn 0 (by kernel_rfl) ko.ok trivial⟩
abbrev cD.L0.D:=Nat×Int×Int×Int×(List mF)
def cD.L0.st:cD.L0.D->AS:=λ(mV,uH,oB,i,sM)=>⟨([.dh (.ew 0) 0 [] 0 0 mV,.d ti uH,.d ti oB,.fn 86 (.nil)]++bG 4 ([.d ti i]++bG 44 [])),[.obj 0 false (.vec 181 nU sM)],(List.replicate 53 [])⟩
abbrev cD.L0.Y0:=(List mF)
abbrev cD.L0.X0:=(List mF)
def cD.L0.bV:cD.L0.X0->Exit×AS:=λx=>(.exit 0,⟨(bG 53 []),[.obj 0 false (.vec 181 nU x)],(List.replicate 53 [])⟩)
abbrev cD.L0.X:=cD.L0.X0
abbrev cD.L0.Y:=cD.L0.Y0
def cD.L0.out:cD.L0.X->Out (Exit×AS):=λx=> .ok (cD.L0.bV x)
def cD.L0.add:cD.L0.D->cD.L0.Y->cD.L0.X:=λ(mV,uH,oB,i,sM) y=>y
abbrev cD.L1.D:=Nat×Int×Int×Int×Int×(List mF)
def cD.L1.st:cD.L1.D->AS:=λ(km,ME,DE,jf,j,pE)=>⟨([.dh (.ew 0) 0 [] 0 0 km,.d ti ME,.d ti DE,.fn 86 (.nil)]++bG 4 ([.d ti jf,.d ti j]++bG 43 [])),[.obj 0 false (.vec 181 nU pE)],(List.replicate 53 [])⟩
abbrev cD.L1.Y0:=(List mF)
abbrev cD.L1.X0:=(Nat×Int×Int×Int)×((List mF))
def cD.L1.bV:cD.L1.X0->Exit×AS:=λx=>(.exit 2,⟨([.dh (.ew 0) 0 [] 0 0 x.1.1,.d ti x.1.2.1,.d ti x.1.2.2.1,.fn 86 (.nil)]++bG 4 ([.d ti x.1.2.2.2]++bG 44 [])),[.obj 0 false (.vec 181 nU x.2)],(List.replicate 53 [])⟩)
abbrev cD.L1.X:=cD.L1.X0
abbrev cD.L1.Y:=cD.L1.Y0
def cD.L1.out:cD.L1.X->Out (Exit×AS):=λx=> .ok (cD.L1.bV x)
def cD.L1.add:cD.L1.D->cD.L1.Y->cD.L1.X:=λ(km,ME,DE,jf,j,pE) y=>((km,ME,DE,jf),y)
abbrev cD.D:=Nat×Int×Int×(List mF)
def cD.st:cD.D->SA:=λ(dataL,a,b,o0)=>([.dh (.ew 0) 0 [] 0 0 dataL,.d ti a,.d ti b,.fn 86 (.nil)],[.obj 0 false (.vec 181 nU o0)])
abbrev cD.Y:=(List mF)
abbrev cD.X:=(List mF)
def cD.out:cD.X->aZ:=λx=>⟨.nil,[.obj 0 false (.vec 181 nU x)],[]⟩
def cD.add:cD.D->cD.Y->cD.X:=λ(dataL,a,b,o0) y=>y
def MN:Nat->List mF->List mF
 | 0,l=>l
 |j+1,l=>if MR (nth nU l (j+1)) (nth nU l j) < 0 then MN j ((l.set (j+1) (nth nU l j)).set j (nth nU l (j+1))) else l
def G6:Nat->Nat->List mF->List mF
 | 0,_,l=>l
 |m+1,i,l=>G6 m (i+1) (MN i l)
def lf(l:List mF):List mF:=G6 (l.length - 1) 1 l
theorem BW:∀(j:Nat) (l:List mF),j < l.length->(MN j l).Perm l
 | 0,l,_=>jz _
 |j+1,l,h=>by
  rw[MN]
  split
  ·have n1:nth nU l (j+1)=l[j+1]:=dP (t:=nU) h
   have n2:nth nU l j=l[j]:=dP (t:=nU) (by omega)
   refine(BW j _ (by rw[ej,ej];omega)).trans ?_
   rw[n1,n2]
   exact List.set_set_perm h (by omega)
  ·exact jz _
theorem EE:∀(m i:Nat) (l:List mF),i+m<=l.length->(G6 m i l).Perm l
 | 0,_,_,_=>jz _
 |m+1,i,l,h=>by
  rw[G6]
  have hb:=BW i l (by omega)
  exact(EE m (i+1) _ (by rw[hb.length_eq];omega)).trans hb
theorem mf(l:List mF):(lf l).Perm l:=by
 unfold lf
 by_cases h:l.length=0
 ·have:l=[]:=df h
  subst this
  exact jz _
 ·exact EE _ _ _ (by omega)
def cD.L1.aw:cD.L1.D->Prop:=λ(n,a,b,i,j,l)=>n=l.length/\l.length<=1000/\a=0/\∃k:Nat,k < l.length/\j=k
def cD.L1.F:cD.L1.D->cD.L1.Y:=λ(n,a,b,i,j,l)=>MN j.toNat l
def cD.L0.aw:cD.L0.D->Prop:=λ(n,a,b,i,l)=>n=l.length/\l.length<=1000/\((a=0/\b=l.length/\∃k:Nat,i=k)\/i>=b)
def cD.L0.F:cD.L0.D->cD.L0.Y:=λ(n,a,b,i,l)=>G6 (b - i).toNat i.toNat l
def cD.aw:cD.D->Prop:=λ(n,a,b,l)=>n=l.length/\l.length<=1000/\((a=0/\b=l.length)\/(a=b/\0 < a/\a<=1000))
def cD.F:cD.D->cD.Y:=λ(n,a,b,l)=>if a=0 then lf l else l
def cD.G:fD:=gz (P:=Tryz.prog) [ko.sg]
def cD.L0.E:=cV.dp cD.L0.st cD.L0.aw cD.L0.add cD.L0.F cD.L0.out
def cD.L0.call:cD.L0.D->Option cD.L0.X:=eI cD.L0.E cD.L0.st
def cD.L1.E:=cV.dp cD.L1.st cD.L1.aw cD.L1.add cD.L1.F cD.L1.out
def cD.L1.call:cD.L1.D->Option cD.L1.X:=eI cD.L1.E cD.L1.st
def cD.an:fT:= {loops:=oF [(1,{bS:=[0,1,2,3,8]}),(4,{bS:=[0,1,2,3,8,9]})],outs:=oE [(1,{},{}),(4,{bS:=[0,1,2,3,8]},{})],jw:=pL [(1,cD.L0.E),(4,cD.L1.E)]}
def cD.A:= @dq Tryz.prog cD.G cD.an 0 Tryz.f166 _ cD.st
abbrev cD.Ok:=dr @cD.A cD.aw cD.add cD.F cD.out
def cD.L0.R:= @dn Tryz.prog cD.G cD.an 0 Tryz.f166 0 _ cD.L0.st
abbrev cD.L0.Ok:=gw Tryz.prog cD.G cD.an 0 Tryz.f166 0 cD.L0.st cD.L0.aw cD.L0.add cD.L0.F cD.L0.out
def cD.L1.R:= @dn Tryz.prog cD.G cD.an 0 Tryz.f166 1 _ cD.L1.st
abbrev cD.L1.Ok:=gw Tryz.prog cD.G cD.an 0 Tryz.f166 1 cD.L1.st cD.L1.aw cD.L1.add cD.L1.F cD.L1.out
theorem cD.L0.run:cl cD.L0.call cD.L0.aw cD.L0.add cD.L0.F:=gT (gS [.n,.d ti,.d ti,.d ti,.d (.slice nU)] λ_=>by kernel_rfl)
theorem cD.L0.aI:jk @cD.L0.R cD.L0.st cD.L0.aw cD.L0.add cD.L0.F cD.L0.bV cD.L0.Ok:=jm
theorem cD.L0.step{R:Type}(mV:Nat)(uH:Int)(oB:Int)(i:Int)(sM:(List mF))(kn:AS->Option R)(kx:Exit->AS->Option R):cD.L0.R (mV,uH,oB,i,sM) kn kx=
  aJ ((jK i oB)) (
   aj (cD.L1.call (mV,uH,oB,i,i,sM)) λx1=>
   kn (cD.L0.st (x1.1.1,x1.1.2.1,x1.1.2.2.1,(bO .i64 x1.1.2.2.2 (1:Int)),x1.2))) (
   kx (cD.L0.bV sM).1 (cD.L0.bV sM).2):=by kernel_rfl
theorem cD.L1.run:cl cD.L1.call cD.L1.aw cD.L1.add cD.L1.F:=gT (gS [.n,.d ti,.d ti,.d ti,.d ti,.d (.slice nU)] λ_=>by kernel_rfl)
theorem cD.L1.aI:jk @cD.L1.R cD.L1.st cD.L1.aw cD.L1.add cD.L1.F cD.L1.bV cD.L1.Ok:=jm
theorem cD.L1.step{R:Type}(km:Nat)(ME:Int)(DE:Int)(jf:Int)(j:Int)(pE:(List mF))(kn:AS->Option R)(kx:Exit->AS->Option R):cD.L1.R (km,ME,DE,jf,j,pE) kn kx=
  aJ ((so j ME)) (
   aJ (fp j ((km:Nat):Int)) (
   aJ (decide ((0+(Int.toNat j)) < (List.length pE))) (
   aJ (decide ((((0+(Int.toNat j))*40)+0)=(0+((Int.toNat j)*40)))) (
   aJ (fp (cY .i64 j (1:Int)) ((km:Nat):Int)) (
   aJ (decide ((0+(Int.toNat (cY .i64 j (1:Int)))) < (List.length pE))) (
   aJ (decide ((((0+(Int.toNat (cY .i64 j (1:Int))))*40)+0)=(0+((Int.toNat (cY .i64 j (1:Int)))*40)))) (
   aj (ko.call ((nth nU pE (0+(Int.toNat j))),(nth nU pE (0+(Int.toNat (cY .i64 j (1:Int))))))) λx1=>
   aJ ((jK x1 (0:Int))) (
    aJ (fp (cY .i64 j (1:Int)) ((km:Nat):Int)) (
    aJ (decide ((0+(Int.toNat (cY .i64 j (1:Int)))) < (List.length pE))) (
    aJ (decide ((((0+(Int.toNat (cY .i64 j (1:Int))))*40)+0)=(0+((Int.toNat (cY .i64 j (1:Int)))*40)))) (
    aJ (fp j ((km:Nat):Int)) (
    aJ (decide ((0+(Int.toNat j)) < (List.length pE))) (
    aJ (decide ((((0+(Int.toNat j))*40)+0)=(0+((Int.toNat j)*40)))) (
    aJ (fp j ((km:Nat):Int)) (
    aJ (decide ((0+(Int.toNat j)) < (List.length pE))) (
    aJ (decide ((((0+(Int.toNat j))*40)+0)=(0+((Int.toNat j)*40)))) (
    aJ (decide ((0+(Int.toNat j)) < (List.length pE))) (
    aJ (fp (cY .i64 j (1:Int)) ((km:Nat):Int)) (
    aJ (decide ((0+(Int.toNat (cY .i64 j (1:Int)))) < (List.length (List.set pE (0+(Int.toNat j)) (nth nU pE (0+(Int.toNat (cY .i64 j (1:Int))))))))) (
    aJ (decide ((((0+(Int.toNat (cY .i64 j (1:Int))))*40)+0)=(0+((Int.toNat (cY .i64 j (1:Int)))*40)))) (
    aJ (decide ((0+(Int.toNat (cY .i64 j (1:Int)))) < (List.length (List.set pE (0+(Int.toNat j)) (nth nU pE (0+(Int.toNat (cY .i64 j (1:Int))))))))) (
    kn (cD.L1.st (km,ME,DE,jf,(cY .i64 j (1:Int)),(List.set (List.set pE (0+(Int.toNat j)) (nth nU pE (0+(Int.toNat (cY .i64 j (1:Int)))))) (0+(Int.toNat (cY .i64 j (1:Int)))) (nth nU pE (0+(Int.toNat j))))))) none) none) none) none) none) none) none) none) none) none) none) none) none) none) (
    kx (cD.L1.bV ((km,ME,DE,jf),pE)).1 (cD.L1.bV ((km,ME,DE,jf),pE)).2)) none) none) none) none) none) none) (
   kx (cD.L1.bV ((km,ME,DE,jf),pE)).1 (cD.L1.bV ((km,ME,DE,jf),pE)).2):=by kernel_rfl
theorem cD.eq{R:Type}(dataL:Nat)(a:Int)(b:Int)(o0:(List mF))(k:aZ->Option R):cD.A (dataL,a,b,o0) k=
 aj (cD.L0.call (dataL,a,b,(bO .i64 a (1:Int)),o0)) λx3=>
 k (cD.out x3):=by kernel_rfl
theorem cD.L1.ok:cD.L1.Ok:=by
 refine cD.L1.aI (λ(n,a,b,i,j,l)=>j.toNat) ?_
 rintro⟨n,a,b,i,j,l⟩ ⟨rfl,hl,rfl,k,hk,rfl⟩
 have hk:k < l.length:=hk
 have hl:l.length<=1000:=hl
 cases k with
 |zero=>
  right
  intro R kn kx
  rw[cD.L1.step,dW (by omega),ai]
  rfl
 |succ k=>
  have e:cY .i64 ((k+1:Nat):Int) 1=(k:Int):=by rw[gm (by omega) (by omega)];omega
  have e1:((l.set (k+1) (nth nU l k)).length)=l.length:=ej
  have c1:ko.call (nth nU l (k+1),nth nU l k)=some (MR (nth nU l (k+1)) (nth nU l k)):=ko.run (d:=(nth nU l (k+1),nth nU l k)) trivial
  have step:∀ {R:Type} (kn:AS->Option R) (kx:Exit->AS->Option R),cD.L1.R (l.length,0,b,i,((k+1:Nat):Int),l) kn kx=aJ (decide (MR (nth nU l (k+1)) (nth nU l k) < 0)) (kn (cD.L1.st (l.length,0,b,i,(k:Int),(l.set (k+1) (nth nU l k)).set k (nth nU l (k+1))))) (kx (cD.L1.bV ((l.length,0,b,i),l)).1 (cD.L1.bV ((l.length,0,b,i),l)).2):=by
   intro R kn kx
   rw[cD.L1.step,e,aa,aa]
   simp only[bl]
   rw[e1,c1,fA (by omega),bF (by omega) (by omega),bF (i:=(k:Int)) (by omega) (by omega),aO hk,aO (show k < l.length by omega),aO (show(k+1)*40+0=(k+1)*40 from rfl),aO (show k*40+0=k*40 from rfl)]
   simp only[ah,ab]
   rfl
  by_cases hc:MR (nth nU l (k+1)) (nth nU l k) < 0
  ·left
   refine⟨(l.length,0,b,i,(k:Int),(l.set (k+1) (nth nU l k)).set k (nth nU l (k+1))),⟨by rw[ej,ej],by show(List.set _ _ _).length<=1000;rw[ej,ej];exact hl,rfl,k,by show k < (List.set _ _ _).length;rw[ej,ej];omega,rfl⟩,by simp only[aa];omega,?_,λkn kx=> ?_⟩
   ·simp only[cD.L1.add,cD.L1.F,aa]
    rw[MN,if_pos hc]
   ·rw[step,aO hc,ah]
  ·right
   intro R kn kx
   rw[step,cR hc,ai]
   simp only[cD.L1.add,cD.L1.F,aa]
   rw[MN,if_neg hc]
theorem cD.L0.ok:cD.L0.Ok:=by
 refine cD.L0.aI (λ(n,a,b,i,l)=>(b - i).toNat) ?_
 rintro⟨n,a,b,i,l⟩ ⟨rfl,hl,h⟩
 have hl:l.length<=1000:=hl
 by_cases hi:i < b
 ·left
  rcases h with⟨rfl,rfl,k,rfl⟩ | h
  ·have hk:k < l.length:=by omega
   have hp:=BW k l hk
   have wR:(MN k l).length=l.length:=hp.length_eq
   refine⟨(l.length,0,(l.length:Int),((k+1:Nat):Int),MN k l),⟨wR.symm,by show(MN k l).length<=_;rw[wR];exact hl,.inl ⟨rfl,by show(l.length:Int)=((MN k l).length:Int);rw[wR],k+1,rfl⟩⟩,by show((l.length:Int) - ((k+1:Nat):Int)).toNat < ((l.length:Int) - (k:Int)).toNat;omega,?_,λkn kx=> ?_⟩
   ·simp only[cD.L0.add,cD.L0.F,aa]
    rw[show((l.length:Int) - (k:Int)).toNat=((l.length:Int) - ((k+1:Nat):Int)).toNat+1 by omega,G6]
   ·rw[cD.L0.step,bI hi,ah,cD.L1.run (d:=(l.length,0,(l.length:Int),(k:Int),(k:Int),l)) ⟨rfl,hl,rfl,k,hk,rfl⟩]
    simp only[ab,cD.L1.add,cD.L1.F,aa]
    rw[N.pJ (by omega)]
  ·exact absurd hi (by show ¬i < b;omega)
 ·right
  intro R kn kx
  rw[cD.L0.step,bp hi,ai]
  simp only[cD.L0.add,cD.L0.F]
  rw[show(b - i).toNat=0 by omega,G6]
theorem cD.ok:cD.Ok:=by
 rintro⟨n,a,b,l⟩ ⟨rfl,hl,h⟩
 have hl:l.length<=1000:=hl
 rw[cD.eq]
 rcases h with⟨rfl,rfl⟩ | ⟨rfl,h0,h1⟩
 ·rw[show bO .i64 0 1=1 from rfl,cD.L0.run (d:=(l.length,0,(l.length:Int),1,l)) ⟨rfl,hl,.inl ⟨rfl,rfl,1,rfl⟩⟩]
  simp only[ab,cD.L0.add,cD.L0.F,cD.add,cD.F,if_true,lf]
  rw[show((l.length:Int) - 1).toNat=l.length - 1 by omega]
  rfl
 ·have h1:a<=1000:=h1
  have h0:0 < a:=h0
  rw[ff (by omega) (by omega),cD.L0.run (d:=(l.length,a,a,a+1,l)) ⟨rfl,hl,.inr (by show a+1>=a;omega)⟩]
  simp only[ab,cD.L0.add,cD.L0.F,cD.add,cD.F]
  rw[show(a - (a+1)).toNat=0 by omega,G6,if_neg (by omega)]
def cD.E:=Entry.dp [none,some ti,some ti,none] cD.st cD.aw cD.add cD.F cD.out
def cD.call:cD.D->Option cD.X:=cj cD.E cD.st
theorem cD.run:cl cD.call cD.aw cD.add cD.F:=dw (du [.n,.d ti,.d ti,.d (.slice nU)] λ_=>by kernel_rfl)
def cD.sg:SG Tryz.prog:=⟨166,aP,cD.E,.fn 2 (by kernel_rfl) cD.ok (And.intro (.dp cD.L0.ok (by kernel_rfl)) (And.intro (.dp cD.L1.ok (by kernel_rfl)) trivial))⟩
abbrev bf.L0.D:=Nat×Int×Int×Int×Int×(List mF)
def bf.L0.st:bf.L0.D->AS:=λ(mV,sz,blockSize,a,b,sM)=>⟨([.dh (.ew 0) 0 [] 0 0 mV,.d ti sz,.fn 86 (.nil),.undef,.undef,.undef,.d ti blockSize,.d ti a,.d ti b]++bG 54 []),[.obj 0 false (.vec 181 nU sM)],(List.replicate 63 [])⟩
abbrev bf.L0.Y0:=Int×(List mF)
abbrev bf.L0.X0:=(Nat×Int×Int)×(Int×(List mF))
def bf.L0.bV:bf.L0.X0->Exit×AS:=λx=>(.exit 0,⟨([.dh (.ew 0) 0 [] 0 0 x.1.1,.d ti x.1.2.1,.fn 86 (.nil),.undef,.undef,.undef,.d ti x.1.2.2,.d ti x.2.1]++bG 55 []),[.obj 0 false (.vec 181 nU x.2.2)],(List.replicate 63 [])⟩)
abbrev bf.L0.X:=bf.L0.X0
abbrev bf.L0.Y:=bf.L0.Y0
def bf.L0.out:bf.L0.X->Out (Exit×AS):=λx=> .ok (bf.L0.bV x)
def bf.L0.add:bf.L0.D->bf.L0.Y->bf.L0.X:=λ(mV,sz,blockSize,a,b,sM) y=>((mV,sz,blockSize),y)
abbrev bf.L1.D:=Nat×Int×Int×(List mF)
def bf.L1.st:bf.L1.D->AS:=λ(km,S9,blockSize_2,pE)=>⟨([.dh (.ew 0) 0 [] 0 0 km,.d ti S9,.fn 86 (.nil),.undef,.undef,.undef,.d ti blockSize_2]++bG 56 []),[.obj 0 false (.vec 181 nU pE)],(List.replicate 63 [])⟩
abbrev bf.L1.Y0:=(List mF)
abbrev bf.L1.X0:=(List mF)
def bf.L1.bV:bf.L1.X0->Exit×AS:=λx=>(.exit 2,⟨(bG 63 []),[.obj 0 false (.vec 181 nU x)],(List.replicate 63 [])⟩)
abbrev bf.L1.X:=bf.L1.X0
abbrev bf.L1.Y:=bf.L1.Y0
def bf.L1.out:bf.L1.X->Out (Exit×AS):=λx=> .ok (bf.L1.bV x)
def bf.L1.add:bf.L1.D->bf.L1.Y->bf.L1.X:=λ(km,S9,blockSize_2,pE) y=>y
abbrev bf.L2.D:=Nat×Int×Int×Int×Int×(List mF)
def bf.L2.st:bf.L2.D->AS:=λ(Fm,Wx,blockSize_3,uH,oB,Se)=>⟨([.dh (.ew 0) 0 [] 0 0 Fm,.d ti Wx,.fn 86 (.nil),.undef,.undef,.undef,.d ti blockSize_3,.d ti uH,.d ti oB]++bG 54 []),[.obj 0 false (.vec 181 nU Se)],(List.replicate 63 [])⟩
abbrev bf.L2.Y0:=Unit
abbrev bf.L2.X0:=Nat×Int×Int×Int×(List mF)
def bf.L2.bV:bf.L2.X0->Exit×AS:=λx=>(.exit 4,⟨([.dh (.ew 0) 0 [] 0 0 x.1,.d ti x.2.1,.fn 86 (.nil),.undef,.undef,.undef,.d ti x.2.2.1,.d ti x.2.2.2.1]++bG 55 []),[.obj 0 false (.vec 181 nU x.2.2.2.2)],(List.replicate 63 [])⟩)
abbrev bf.L2.X:=bf.L2.X0
abbrev bf.L2.Y:=bf.L2.Y0
def bf.L2.out:bf.L2.X->Out (Exit×AS):=λx=> .ok (bf.L2.bV x)
def bf.L2.add:bf.L2.D->bf.L2.Y->bf.L2.X:=λ(Fm,Wx,blockSize_3,uH,oB,Se) y=>(Fm,Wx,blockSize_3,uH,Se)
abbrev bf.D:=Nat×Int×(List mF)
def bf.st:bf.D->SA:=λ(dataL,n,o0)=>([.dh (.ew 0) 0 [] 0 0 dataL,.d ti n,.fn 86 (.nil)],[.obj 0 false (.vec 181 nU o0)])
abbrev bf.Y:=(List mF)
abbrev bf.X:=(List mF)
def bf.out:bf.X->aZ:=λx=>⟨.nil,[.obj 0 false (.vec 181 nU x)],[]⟩
def bf.add:bf.D->bf.Y->bf.X:=λ(dataL,n,o0) y=>y
def bf.L0.aw:bf.L0.D->Prop:=λ(m,n,z,a,b,l)=>m=l.length/\n=l.length/\z=20/\l.length<=20/\((a=0/\b=20)\/(a=20/\b=40))
def bf.L0.F:bf.L0.D->bf.L0.Y:=λ(m,n,z,a,b,l)=>if a=0/\n=20 then(20,lf l) else(a,l)
def bf.L1.aw:bf.L1.D->Prop:=λ(m,n,z,l)=>n<=z
def bf.L1.F:bf.L1.D->bf.L1.Y:=λ(m,n,z,l)=>l
def bf.L2.aw:bf.L2.D->Prop:=λ_=>False
def bf.L2.F:bf.L2.D->bf.L2.Y:=λ_=>()
def bf.aw:bf.D->Prop:=λ(m,n,l)=>m=l.length/\n=l.length/\l.length<=20
def bf.F:bf.D->bf.Y:=λ(m,n,l)=>lf l
def bf.G:fD:=gz (P:=Tryz.prog) [cD.sg]
def bf.L0.E:=cV.dp bf.L0.st bf.L0.aw bf.L0.add bf.L0.F bf.L0.out
def bf.L0.call:bf.L0.D->Option bf.L0.X:=eI bf.L0.E bf.L0.st
def bf.L1.E:=cV.dp bf.L1.st bf.L1.aw bf.L1.add bf.L1.F bf.L1.out
def bf.L1.call:bf.L1.D->Option bf.L1.X:=eI bf.L1.E bf.L1.st
def bf.L2.E:=cV.dp bf.L2.st bf.L2.aw bf.L2.add bf.L2.F bf.L2.out
def bf.L2.call:bf.L2.D->Option bf.L2.X:=eI bf.L2.E bf.L2.st
def bf.an:fT:= {loops:=oF [(2,{bS:=[0,1,2,6,7,8]}),(7,{bS:=[0,1,2,6]}),(9,{bS:=[0,1,2,6,7,8]})],outs:=oE [(2,{bS:=[0,1,2,6,7]},{}),(7,{},{}),(9,{bS:=[0,1,2,6,7]},{})],jw:=pL [(2,bf.L0.E),(7,bf.L1.E),(9,bf.L2.E)]}
def bf.A:= @dq Tryz.prog bf.G bf.an 0 Tryz.f131 _ bf.st
abbrev bf.Ok:=dr @bf.A bf.aw bf.add bf.F bf.out
def bf.L0.R:= @dn Tryz.prog bf.G bf.an 0 Tryz.f131 0 _ bf.L0.st
abbrev bf.L0.Ok:=gw Tryz.prog bf.G bf.an 0 Tryz.f131 0 bf.L0.st bf.L0.aw bf.L0.add bf.L0.F bf.L0.out
def bf.L1.R:= @dn Tryz.prog bf.G bf.an 0 Tryz.f131 1 _ bf.L1.st
abbrev bf.L1.Ok:=gw Tryz.prog bf.G bf.an 0 Tryz.f131 1 bf.L1.st bf.L1.aw bf.L1.add bf.L1.F bf.L1.out
abbrev bf.L2.Ok:=gw Tryz.prog bf.G bf.an 0 Tryz.f131 2 bf.L2.st bf.L2.aw bf.L2.add bf.L2.F bf.L2.out
theorem bf.L0.run:cl bf.L0.call bf.L0.aw bf.L0.add bf.L0.F:=gT (gS [.n,.d ti,.d ti,.d ti,.d ti,.d (.slice nU)] λ_=>by kernel_rfl)
theorem bf.L0.aI:jk @bf.L0.R bf.L0.st bf.L0.aw bf.L0.add bf.L0.F bf.L0.bV bf.L0.Ok:=jm
theorem bf.L0.step{R:Type}(mV:Nat)(sz:Int)(blockSize:Int)(a:Int)(b:Int)(sM:(List mF))(kn:AS->Option R)(kx:Exit->AS->Option R):bf.L0.R (mV,sz,blockSize,a,b,sM) kn kx=
  aJ ((FH b sz)) (
   aj (cD.call (mV,a,b,sM)) λx1=>
   kn (bf.L0.st (mV,sz,blockSize,b,(bO .i64 b blockSize),x1))) (
   kx (bf.L0.bV ((mV,sz,blockSize),(a,sM))).1 (bf.L0.bV ((mV,sz,blockSize),(a,sM))).2):=by kernel_rfl
theorem bf.L1.run:cl bf.L1.call bf.L1.aw bf.L1.add bf.L1.F:=gT (gS [.n,.d ti,.d ti,.d (.slice nU)] λ_=>by kernel_rfl)
theorem bf.L1.aI:jk @bf.L1.R bf.L1.st bf.L1.aw bf.L1.add bf.L1.F bf.L1.bV bf.L1.Ok:=jm
theorem bf.L1.step{R:Type}(km:Nat)(S9:Int)(blockSize_2:Int)(pE:(List mF))(kn:AS->Option R)(kx:Exit->AS->Option R):bf.L1.R (km,S9,blockSize_2,pE) kn kx=
  aJ ((jK blockSize_2 S9)) (
   aj (bf.L2.call (km,S9,blockSize_2,(0:Int),(gJ .i64 (2:Int) blockSize_2),pE)) λx1=>
   aJ ((jK (bO .i64 x1.2.2.2.1 x1.2.2.1) x1.2.1)) (
    none) (
    kn (bf.L1.st (x1.1,x1.2.1,(gJ .i64 x1.2.2.1 (2:Int)),x1.2.2.2.2)))) (
   kx (bf.L1.bV pE).1 (bf.L1.bV pE).2):=by kernel_rfl
theorem bf.eq{R:Type}(dataL:Nat)(n:Int)(o0:(List mF))(k:aZ->Option R):bf.A (dataL,n,o0) k=
 aj (bf.L0.call (dataL,n,(20:Int),(0:Int),(20:Int),o0)) λx2=>
 aj (cD.call (x2.1.1,x2.2.1,x2.1.2.1,x2.2.2)) λx3=>
 aj (bf.L1.call (x2.1.1,x2.1.2.1,x2.1.2.2,x3)) λx5=>
 k (bf.out x5):=by kernel_rfl
theorem bf.L2.ok:bf.L2.Ok:=λd h=>h.elim
theorem bf.L1.ok:bf.L1.Ok:=by
 refine bf.L1.aI (λ_=>0) ?_
 rintro⟨m,n,z,l⟩ h
 have h:n<=z:=h
 right
 intro R kn kx
 rw[bf.L1.step,bp (by omega),ai]
 rfl
theorem bf.L0.ok:bf.L0.Ok:=by
 refine bf.L0.aI (λ(m,n,z,a,b,l)=>(40 - b).toNat) ?_
 rintro⟨m,n,z,a,b,l⟩ ⟨rfl,rfl,rfl,hl,h⟩
 have hl:l.length<=20:=hl
 rcases h with⟨rfl,rfl⟩ | ⟨rfl,rfl⟩
 ·by_cases SQ:l.length=20
  ·left
   have hp:=(mf l).length_eq
   refine⟨((lf l).length,((lf l).length:Int),20,20,40,lf l),⟨rfl,rfl,rfl,by show(lf l).length<=20;omega,.inr ⟨rfl,rfl⟩⟩,by show(40 - (40:Int)).toNat < (40 - (20:Int)).toNat;decide,?_,λkn kx=> ?_⟩
   ·simp only[bf.L0.add,bf.L0.F]
    rw[if_neg (λh=>absurd h.1 (by decide)),if_pos ⟨by trivial,by omega⟩,hp]
   ·rw[bf.L0.step,uo (by omega),ah,cD.run (d:=(l.length,0,20,l)) ⟨rfl,by show l.length<=1000;omega,.inl ⟨rfl,by show(20:Int)=(l.length:Int);omega⟩⟩]
    simp only[ab,cD.add,cD.F,if_true]
    rw[show bO .i64 20 20=40 from rfl,hp]
  ·right
   intro R kn kx
   rw[bf.L0.step,qJ (by omega),ai]
   simp only[bf.L0.add,bf.L0.F]
   rw[if_neg (λh=>SQ (by have:=h.2;omega))]
 ·right
  intro R kn kx
  rw[bf.L0.step,qJ (by omega),ai]
  simp only[bf.L0.add,bf.L0.F]
  rw[if_neg (λh=>absurd h.1 (by decide))]
theorem bf.ok:bf.Ok:=by
 rintro⟨m,n,l⟩ ⟨rfl,rfl,hl⟩
 have hl:l.length<=20:=hl
 have hp:=(mf l).length_eq
 rw[bf.eq,bf.L0.run (d:=(l.length,(l.length:Int),20,0,20,l)) ⟨rfl,rfl,rfl,hl,.inl ⟨rfl,rfl⟩⟩]
 simp only[ab,bf.L0.add,bf.L0.F,bf.add,bf.F]
 by_cases SQ:l.length=20
 ·rw[if_pos ⟨by trivial,by omega⟩]
  rw[cD.run (d:=(l.length,20,(l.length:Int),lf l)) ⟨by show l.length=(lf l).length;omega,by show(lf l).length<=1000;omega,.inr ⟨by show(20:Int)=(l.length:Int);omega,by decide,by decide⟩⟩]
  simp only[ab,cD.add,cD.F]
  rw[if_neg (by decide),bf.L1.run (d:=(l.length,(l.length:Int),20,lf l)) (by show(l.length:Int)<=20;omega)]
  rfl
 ·rw[if_neg (λh=>SQ (by have:=h.2;omega))]
  rw[cD.run (d:=(l.length,0,(l.length:Int),l)) ⟨rfl,by show l.length<=1000;omega,.inl ⟨rfl,rfl⟩⟩]
  simp only[ab,cD.add,cD.F,if_true]
  rw[bf.L1.run (d:=(l.length,(l.length:Int),20,lf l)) (by show(l.length:Int)<=20;omega)]
  rfl
def bf.E:=Entry.dp [none,some ti,none] bf.st bf.aw bf.add bf.F bf.out
def bf.call:bf.D->Option bf.X:=cj bf.E bf.st
theorem bf.run:cl bf.call bf.aw bf.add bf.F:=dw (du [.n,.d ti,.d (.slice nU)] λ_=>by kernel_rfl)
def bf.sg:SG Tryz.prog:=⟨131,aP,bf.E,.fn 3 (by kernel_rfl) bf.ok (And.intro (.dp bf.L0.ok (by kernel_rfl)) (And.intro (.dp bf.L1.ok (by kernel_rfl)) (And.intro (.dp bf.L2.ok (by kernel_rfl)) trivial)))⟩
abbrev jT.D:=Nat×(List mF)
def jT.st:jT.D->SA:=λ(xL,o0)=>([.dh (.ew 0) 0 [] 0 0 xL,.fn 86 (.nil)],[.obj 0 false (.vec 181 nU o0)])
abbrev jT.Y:=(List mF)
abbrev jT.X:=(List mF)
def jT.out:jT.X->aZ:=λx=>⟨.nil,[.obj 0 false (.vec 181 nU x)],[]⟩
def jT.add:jT.D->jT.Y->jT.X:=λ(xL,o0) y=>y
def jT.aw:jT.D->Prop:=λ(m,l)=>m=l.length/\l.length<=20
def jT.F:jT.D->jT.Y:=λ(m,l)=>lf l
def jT.G:fD:=gz (P:=Tryz.prog) [bf.sg]
def jT.an:fT:= {}
def jT.A:= @dq Tryz.prog jT.G jT.an 0 Tryz.f85 _ jT.st
abbrev jT.Ok:=dr @jT.A jT.aw jT.add jT.F jT.out
theorem jT.eq{R:Type}(xL:Nat)(o0:(List mF))(k:aZ->Option R):jT.A (xL,o0) k=
 aj (bf.call (xL,((xL:Nat):Int),o0)) λx1=>
 k (jT.out x1):=by kernel_rfl
theorem jT.ok:jT.Ok:=by
 rintro⟨m,l⟩ ⟨rfl,hl⟩
 rw[jT.eq,bf.run (d:=(l.length,(l.length:Int),l)) ⟨rfl,rfl,hl⟩]
 rfl
def jT.E:=Entry.dp [none,none] jT.st jT.aw jT.add jT.F jT.out
def jT.call:jT.D->Option jT.X:=cj jT.E jT.st
theorem jT.run:cl jT.call jT.aw jT.add jT.F:=dw (du [.n,.d (.slice nU)] λ_=>by kernel_rfl)
def jT.sg:SG Tryz.prog:=⟨85,aP,jT.E,.fn 0 (by kernel_rfl) jT.ok trivial⟩
noncomputable section
def OV:jj:=((0:Int),((0:Int),((0:Int),((0:Int),((0:Int),())))))
theorem Nz:∃f:Lk->List Int,∀l,f l=U8 l:=⟨_,λ_=>rfl⟩
def Wv:Lk->List Int:=Classical.choose Nz
theorem R7(l:Lk):Wv l=U8 l:=Classical.choose_spec Nz l
theorem ju.c{l:Lk}(h:ua l):ju.call l=some (Wv l):=by
 rw[ju.run (d:=l) h,R7]
 simp only[ju.add,ju.F]
def Gp(n:Int)(l:Lk)(r:xx):mF:=((n,(l,())),(r,(Wv l,())))
abbrev iI.D:=Int×Lk×xx
def iI.st:iI.D->SA:=λ(amount,l,role)=>([.d ti amount,.d s7 l,.d zp role,.ptr (.ew 0) 0 [] 0],[.obj 0 false (.eV)])
abbrev iI.Y:=(List mF)
abbrev iI.X:=(List mF)
def iI.out:iI.X->aZ:=λx=>⟨.nil,[.obj 0 false (.dh (.new 0 0) 0 [] 0 0 1)],[.obj 0 false (.vec 181 nU x)]⟩
def iI.add:iI.D->iI.Y->iI.X:=λ(amount,l,role) y=>y
def iI.aw:iI.D->Prop:=λ(n,l,r)=>ua l
def iI.F:iI.D->iI.Y:=λ(n,l,r)=> [Gp n l r]
def iI.G:fD:=gz (P:=Tryz.prog) [ju.sg]
def iI.an:fT:= {}
def iI.A:= @dq Tryz.prog iI.G iI.an 0 Tryz.f80 _ iI.st
abbrev iI.Ok:=dr @iI.A iI.aw iI.add iI.F iI.out
theorem iI.eq{R:Type}(amount:Int)(l:Lk)(role:xx)(k:aZ->Option R):iI.A (amount,l,role) k=
 aj (ju.call l) λx1=>
 k (iI.out [((amount,(l,())),(role,(x1,())))]):=by kernel_rfl
theorem iI.ok:iI.Ok:=by
 rintro⟨n,l,r⟩ hl
 rw[iI.eq,ju.c hl]
 rfl
def iI.E:=Entry.dp [some ti,some s7,some zp,none] iI.st iI.aw iI.add iI.F iI.out
def iI.call:iI.D->Option iI.X:=cj iI.E iI.st
theorem iI.run:cl iI.call iI.aw iI.add iI.F:=dw (du [.d ti,.d s7,.d zp] λ_=>by kernel_rfl)
def iI.sg:SG Tryz.prog:=⟨80,aP,iI.E,.fn 0 (by kernel_rfl) iI.ok trivial⟩
abbrev iC.D:=Int×Lk×xx×Nat×(List mF)
def iC.st:iC.D->SA:=λ(amount,l,role,o0L,o1)=>([.d ti amount,.d s7 l,.d zp role,.ptr (.ew 0) 0 [] 0],[.obj 0 false (.dh (.ew 1) 0 [] 0 0 o0L),.obj 0 false (.vec 181 nU o1)])
abbrev iC.Y:=Nat×(List mF)
abbrev iC.X:=Nat×(List mF)
def iC.out:iC.X->aZ:=λx=>⟨.nil,[.obj 0 false (.dh (.ew 1) 1 [] 0 0 x.1),.obj 1 false (.vec 181 nU x.2)],[]⟩
def iC.add:iC.D->iC.Y->iC.X:=λ(amount,l,role,o0L,o1) y=>y
def iC.aw:iC.D->Prop:=λ(n,l,r,m,row)=>ua l/\m=row.length/\row.length<=1000
def iC.F:iC.D->iC.Y:=λ(n,l,r,m,row)=>(row.length+1,row++ [Gp n l r])
def iC.G:fD:=gz (P:=Tryz.prog) [ju.sg]
def iC.an:fT:= {}
def iC.A:= @dq Tryz.prog iC.G iC.an 0 Tryz.f80 _ iC.st
abbrev iC.Ok:=dr @iC.A iC.aw iC.add iC.F iC.out
theorem iC.eq{R:Type}(amount:Int)(l:Lk)(role:xx)(o0L:Nat)(o1:(List mF))(k:aZ->Option R):iC.A (amount,l,role,o0L,o1) k=
 aj (ju.call l) λx1=>
 aJ (decide (o0L<=(List.length o1))) (
 aJ (fk (o0L+1) 112) (
 k (iC.out ((o0L+1),((List.take o0L o1)++ [((amount,(l,())),(role,(x1,())))])))) none) none:=by kernel_rfl
theorem iC.ok:iC.Ok:=by
 rintro⟨n,l,r,m,row⟩ ⟨hl,rfl,hr⟩
 have hr:row.length<=1000:=hr
 rw[iC.eq,ju.c hl,ab,aO (aC _),ah,fV (by omega) (by omega),ah,cz]
 rfl
def iC.E:=Entry.dp [some ti,some s7,some zp,none] iC.st iC.aw iC.add iC.F iC.out
def iC.call:iC.D->Option iC.X:=cj iC.E iC.st
theorem iC.run:cl iC.call iC.aw iC.add iC.F:=dw (du [.d ti,.d s7,.d zp,.n,.d (.slice nU)] λ_=>by kernel_rfl)
def iC.sg:SG Tryz.prog:=⟨80,aP,iC.E,.fn 0 (by kernel_rfl) iC.ok trivial⟩
def put.E:Entry:=Entry.alt Sh [some ti,some s7,some zp,none] (X:=iI.X) (Y:=iC.X) iI.E.run iC.E.run iI.E.out iC.E.out
def put.sg:SG Tryz.prog:=⟨80,aP,put.E,qv.alt iI.sg.h iC.sg.h⟩
theorem iI.at{n:Int}{l:Lk}{r:xx}(hl:ua l):IC (Y:=iC.X) (iI.call (n,l,r))=some ([Gp n l r],default):=by rw[iI.run (d:=(n,l,r)) hl];rfl
theorem iC.at{n:Int}{l:Lk}{r:xx}{m:Nat}{row:List mF}(hl:ua l)(hm:m=row.length)(hr:row.length<=1000):yq (X:=iI.X) (iC.call (n,l,r,m,row))=some (default,row.length+1,row++ [Gp n l r]):=by rw[iC.run (d:=(n,l,r,m,row)) ⟨hl,hm,hr⟩];rfl
theorem zY{l:Lk}(h:∀b∈l.1,SH b)(h2:l.1.length<=100):ua l:=⟨h,by omega⟩
theorem DG{p a d s:Int}(hp:iw p)(hs:iw s):SH ([p],(a,(d,(s,())))):=⟨λx hx=>by rw[aR.1 hx];exact hp,hs⟩
theorem vh:iw 0:=⟨by decide,by decide⟩
theorem Hh{a b d:Int}(ha:iw a)(hb:iw b):ua (AH a b d):=zY (λx hx=>by
 rcases cH.1 hx with rfl | hx
 ·exact DG hb vh
 ·rw[aR.1 hx];exact DG ha vh) (by show 2<=_;decide)
theorem Bx{a:Int}(ha:iw a):ua (vD [a]):=zY (λx hx=>by rw[aR.1 hx];exact DG ha vh) (by show 1<=_;decide)
theorem uW{a:Int}(ha:iw a):ua (uI a):=zY (λx hx=>by
 rcases cH.1 hx with rfl | hx
 ·exact DG ha vh
 ·rw[aR.1 hx];exact⟨λy hy=>(by cases hy),vh⟩) (by show 2<=_;decide)
def QA(rev theirs mine wait:Int)(c:jj):Lk:=([([rev],((0:Int),((0:Int),((0:Int),())))),([theirs],((0:Int),((0:Int),(c.2.2.2.1,())))),([mine],(c.2.2.2.2.1,(wait,((0:Int),()))))],())
def QB(rev theirs mine wait:Int)(c:jj):Lk:=([([rev],((0:Int),((0:Int),((0:Int),())))),([mine],((0:Int),(wait,(c.2.2.2.1,())))),([theirs],(c.2.2.2.2.1,((0:Int),((0:Int),()))))],())
theorem Qy{rev theirs mine wait:Int}{c:jj}(h1:iw rev)(h2:iw theirs)(h3:iw mine)(h4:iw c.2.2.2.1):ua (QA rev theirs mine wait c):=zY (λx hx=>by
 rcases cH.1 hx with rfl | hx
 ·exact DG h1 vh
 rcases cH.1 hx with rfl | hx
 ·exact DG h2 h4
 ·rw[aR.1 hx];exact DG h3 vh) (by show 3<=_;decide)
theorem Qz{rev theirs mine wait:Int}{c:jj}(h1:iw rev)(h2:iw theirs)(h3:iw mine)(h4:iw c.2.2.2.1):ua (QB rev theirs mine wait c):=zY (λx hx=>by
 rcases cH.1 hx with rfl | hx
 ·exact DG h1 vh
 rcases cH.1 hx with rfl | hx
 ·exact DG h3 h4
 ·rw[aR.1 hx];exact DG h2 vh) (by show 3<=_;decide)
def oC(own rev theirs mine wait:Int)(c:jj):mF:=if c.1=own then Gp c.2.2.1 (QA rev theirs mine wait c) ((5:Int),(c,())) else Gp c.2.2.1 (QB rev theirs mine wait c) ((6:Int),(c,()))
def nW(ch:iN)(n:Int):KU:=nth qt ch.2.2.1 n.toNat
def xv(ch:iN)(n:Int):Int:=(nth oP ch.2.2.2.1 n.toNat).2.2.1
def ng(ch:iN)(s:jl)(own per:Int):List mF:=
 (if D7 (jF ch s own)=true then [Gp (jF ch s own) (AH (wb (nW ch own).2.2.1 per) (vc (nW ch (1 - own)).2.2.2.2.1 per) (xv ch (1 - own))) ((1:Int),(OV,()))] else [])++
 ((if D7 (jF ch s (1 - own))=true then [Gp (jF ch s (1 - own)) (vD [(nW ch (1 - own)).2.1]) ((2:Int),(OV,()))] else [])++
 ([Gp 330 (uI (nW ch own).1) ((3:Int),(OV,())),Gp 330 (uI (nW ch (1 - own)).1) ((4:Int),(OV,()))]++
 (jb s.2.2.1).map (oC own (vc (nW ch (1 - own)).2.2.2.2.1 per) (wb (nW ch (1 - own)).2.2.2.1 per) (wb (nW ch own).2.2.2.1 per) (xv ch (1 - own)))))
def ofRow(ch:iN)(s:jl)(own:Int)(l:List mF):Ax:=(([(ch.1,(((0:Int),(([]:List Sg),((0:Int),()))),()))],(l.map (λm=>m.1),(2*s.1+own,()))),(l.map (λm=>m.2.1),()))
def bZ(ch:iN)(s:jl)(own per:Int):Ax:=ofRow ch s own (lf (ng ch s own per))
def WY:Ax:=((([]:List kX),(([]:List kF),((0:Int),()))),(([]:List xx),()))
def oG(ch:iN)(s:jl)(own per:Int):Ax×Int:=if(decide (own=0\/own=1) && oS per)=true then(if ye ch s=true then(bZ ch s own per,0) else(WY,14)) else(WY,1)
abbrev bn.L0.D:=Int×iN×jl×Int×Int×Int×Int×(List jj)×Int×Int×(Int×Unit)×Nat×(List mF)
def bn.L0.st:bn.L0.D->AS:=λ(qn,jB,ee,wait,rev,mine,theirs,t139,t140,t141,n8,Hv,QL)=>⟨([.undef,.undef,.d ti qn,.undef,.gE nb jB,.gE mC ee,.undef,.undef,.ptr (.new 8 0) 0 [] 0,.undef,.undef,.d ti wait,.d tu rev,.d tu mine,.d tu theirs,.ptr (.new 15 0) 0 [] 0,.fn 80 (.cons (.ptr (.new 15 0) 0 [] 0) (.nil))]++bG 122 ([.d (.slice ke) t139,.d ti t140,.d ti t141]++bG 82 [])),[],(db 8 ([[.obj 0 false (.pr (.pr (.eV) (.pr (.eV) (.d (.pair ti .unit) n8))) (.pr (.eV) (.d .unit ())))]]++db 6 ([[.obj 0 false (.dh (.new 96 0) 0 [] 0 0 Hv)]]++db 80 ([[.obj 0 false (.vec 181 nU QL)]]++db 127 []))))⟩
abbrev bn.L0.Y0:=Nat×(List mF)
abbrev bn.L0.X0:=(Int×iN×jl×(Int×Unit))×(Nat×(List mF))
def bn.L0.bV:bn.L0.X0->Exit×AS:=λx=>(.exit 1,⟨([.undef,.undef,.d ti x.1.1,.undef,.gE nb x.1.2.1,.gE mC x.1.2.2.1,.undef,.undef,.ptr (.new 8 0) 0 [] 0]++bG 6 ([.ptr (.new 15 0) 0 [] 0]++bG 208 [])),[],(db 8 ([[.obj 0 false (.pr (.pr (.eV) (.pr (.eV) (.d (.pair ti .unit) x.1.2.2.2))) (.pr (.eV) (.d .unit ())))]]++db 6 ([[.obj 0 false (.dh (.new 96 0) 0 [] 0 0 x.2.1)]]++db 80 ([[.obj 0 false (.vec 181 nU x.2.2)]]++db 127 []))))⟩)
abbrev bn.L0.X:=bn.L0.X0
abbrev bn.L0.Y:=bn.L0.Y0
def bn.L0.out:bn.L0.X->Out (Exit×AS):=λx=> .ok (bn.L0.bV x)
def bn.L0.add:bn.L0.D->bn.L0.Y->bn.L0.X:=λ(qn,jB,ee,wait,rev,mine,theirs,t139,t140,t141,n8,Hv,QL) y=>((qn,jB,ee,n8),y)
abbrev bn.L1.D:=Nat×Int×Int×(Int×Unit)×(List kX)×Nat×(Int×Unit)×Nat×(List mF)×(List kF)×(List xx)
def bn.L1.st:bn.L1.D->AS:=λ(E0,t201,t202,HD,Hz,DX,AR,tR,AV,Hx,Hy)=>⟨(bG 8 ([.ptr (.new 8 0) 0 [] 0]++bG 15 ([.ptr (.new 24 0) 0 [] 0]++bG 175 ([.dh (.new 96 0) 0 [] 0 0 E0,.d ti t201,.d ti t202]++bG 21 [])))),[],(db 8 ([[.obj 0 false (.pr (.pr (.eV) (.pr (.eV) (.d (.pair ti .unit) HD))) (.pr (.eV) (.d .unit ())))]]++db 15 ([[.obj 0 false (.pr (.pr (.d (.slice kj) Hz) (.pr (.dh (.new 212 0) 0 [] 0 0 DX) (.d (.pair ti .unit) AR))) (.pr (.dh (.new 220 0) 0 [] 0 0 tR) (.d .unit ())))]]++db 71 ([[.obj 0 false (.vec 181 nU AV)]]++db 115 ([[.obj 0 false (.vec 100 lg Hx)]]++db 7 [[.obj 0 false (.vec 95 zp Hy)],[],[],[]])))))⟩
abbrev bn.L1.Y0:=Nat×Nat×(List kF)×(List xx)
abbrev bn.L1.X0:=((Int×Unit)×(List kX)×(Int×Unit))×(Nat×Nat×(List kF)×(List xx))
def bn.L1.bV:bn.L1.X0->Exit×AS:=λx=>(.exit 3,⟨(bG 8 ([.ptr (.new 8 0) 0 [] 0]++bG 15 ([.ptr (.new 24 0) 0 [] 0]++bG 199 []))),[],(db 8 ([[.obj 0 false (.pr (.pr (.eV) (.pr (.eV) (.d (.pair ti .unit) x.1.1))) (.pr (.eV) (.d .unit ())))]]++db 15 ([[.obj 0 false (.pr (.pr (.d (.slice kj) x.1.2.1) (.pr (.dh (.new 212 0) 0 [] 0 0 x.2.1) (.d (.pair ti .unit) x.1.2.2))) (.pr (.dh (.new 220 0) 0 [] 0 0 x.2.2.1) (.d .unit ())))]]++db 187 ([[.obj 0 false (.vec 100 lg x.2.2.2.1)]]++db 7 [[.obj 0 false (.vec 95 zp x.2.2.2.2)],[],[],[]]))))⟩)
abbrev bn.L1.X:=bn.L1.X0
abbrev bn.L1.Y:=bn.L1.Y0
def bn.L1.out:bn.L1.X->Out (Exit×AS):=λx=> .ok (bn.L1.bV x)
def bn.L1.add:bn.L1.D->bn.L1.Y->bn.L1.X:=λ(E0,t201,t202,HD,Hz,DX,AR,tR,AV,Hx,Hy) y=>((HD,Hz,AR),y)
abbrev bn.D:=iN×jl×Int×Int
def bn.st:bn.D->SA:=λ(ch,sv,own,per)=>([.d nb ch,.d mC sv,.d ti own,.d tu per],[])
abbrev bn.Y:=Ax×Int
abbrev bn.X:=Ax×Int
def bn.out:bn.X->aZ:=λx=>⟨.cons (.d Gr x.1) (.cons (.d ti x.2) (.nil)),[],[]⟩
def bn.add:bn.D->bn.Y->bn.X:=λ(ch,sv,own,per) y=>y
def bn.L0.aw:bn.L0.D->Prop:=λ(own,ch,s,wait,rev,mine,theirs,l,m,i,z,L,row)=>(∀c∈l,iw c.2.2.2.1)/\(iw rev/\iw mine/\iw theirs)/\l.length<=16/\m=l.length/\L=row.length/\∃k:Nat,k<=l.length/\i=k/\row.length<=4+k
def bn.L0.F:bn.L0.D->bn.L0.Y:=λ(own,ch,s,wait,rev,mine,theirs,l,m,i,z,L,row)=>((row++(l.drop i.toNat).map (oC own rev theirs mine wait)).length,row++(l.drop i.toNat).map (oC own rev theirs mine wait))
def bn.L1.aw:bn.L1.D->Prop:=λ(L,m,i,z,ins,lo,note,lr,row,outs,roles)=>L=row.length/\m=row.length/\lo=outs.length/\lr=roles.length/\row.length<=1000/\∃k:Nat,k<=row.length/\i=k/\outs.length<=k/\roles.length<=k
def bn.L1.F:bn.L1.D->bn.L1.Y:=λ(L,m,i,z,ins,lo,note,lr,row,outs,roles)=>((outs++(row.drop i.toNat).map (λm=>m.1)).length,(roles++(row.drop i.toNat).map (λm=>m.2.1)).length,outs++(row.drop i.toNat).map (λm=>m.1),roles++(row.drop i.toNat).map (λm=>m.2.1))
def bn.aw:bn.D->Prop:=λ(ch,s,own,per)=>ns ch/\uE s/\iw per
def bn.F:bn.D->bn.Y:=λ(ch,s,own,per)=>oG ch s own per
def bn.G:fD:=gz (P:=Tryz.prog) [gF.sg,dy.sg,au.sg,dF.sg,jh.sg,gl.sg,dR.sg,il.sg,put.sg,jE.sg,dG.sg,bT.sg,jT.sg]
def bn.L0.E:=cV.dp bn.L0.st bn.L0.aw bn.L0.add bn.L0.F bn.L0.out
def bn.L0.call:bn.L0.D->Option bn.L0.X:=eI bn.L0.E bn.L0.st
def bn.L1.E:=cV.dp bn.L1.st bn.L1.aw bn.L1.add bn.L1.F bn.L1.out
def bn.L1.call:bn.L1.D->Option bn.L1.X:=eI bn.L1.E bn.L1.st
def bn.an:fT:= {loops:=oF [(20,{bS:=[2,4,5,8,11,12,13,14,15,16,139,140,141],sites:=[8,15,96,117,126],nB:=[⟨15,[.arr],96,0⟩]}),(32,{bS:=[8,24,200,201,202],sites:=[8,24,96,212,220],nB:=[⟨24,[.fst,.snd,.fst],212,60⟩,⟨24,[.snd,.fst],220,81⟩]})],outs:=oE [(20,{bS:=[2,4,5,8,15],sites:=[8,15,96]},{bS:=[8,9]}),(32,{bS:=[8,24],sites:=[8,24,212,220]},{bS:=[8,9]})],jw:=pL [(20,bn.L0.E),(32,bn.L1.E)],res:=[some Gr,none]}
def bn.A:= @dq Tryz.prog bn.G bn.an 0 Tryz.f37 _ bn.st
abbrev bn.Ok:=dr @bn.A bn.aw bn.add bn.F bn.out
def bn.L0.R:= @dn Tryz.prog bn.G bn.an 0 Tryz.f37 0 _ bn.L0.st
abbrev bn.L0.Ok:=gw Tryz.prog bn.G bn.an 0 Tryz.f37 0 bn.L0.st bn.L0.aw bn.L0.add bn.L0.F bn.L0.out
def bn.L1.R:= @dn Tryz.prog bn.G bn.an 0 Tryz.f37 1 _ bn.L1.st
abbrev bn.L1.Ok:=gw Tryz.prog bn.G bn.an 0 Tryz.f37 1 bn.L1.st bn.L1.aw bn.L1.add bn.L1.F bn.L1.out
theorem bn.L0.run:cl bn.L0.call bn.L0.aw bn.L0.add bn.L0.F:=gT (gS [.d ti,.d nb,.d mC,.d ti,.d tu,.d tu,.d tu,.d (.slice ke),.d ti,.d ti,.d (.pair ti .unit),.n,.d (.slice nU)] λ_=>by kernel_rfl)
theorem bn.L0.aI:jk @bn.L0.R bn.L0.st bn.L0.aw bn.L0.add bn.L0.F bn.L0.bV bn.L0.Ok:=jm
theorem bn.L0.step{R:Type}(qn:Int)(jB:iN)(ee:jl)(wait:Int)(rev:Int)(mine:Int)(theirs:Int)(t139:(List jj))(t140:Int)(t141:Int)(n8:(Int×Unit))(Hv:Nat)(QL:(List mF))(kn:AS->Option R)(kx:Exit->AS->Option R):bn.L0.R (qn,jB,ee,wait,rev,mine,theirs,t139,t140,t141,n8,Hv,QL) kn kx=
  aJ ((jK t141 t140)) (
   aJ (fp t141 (((List.length t139):Nat):Int)) (
   aJ ((nX (nth ke t139 (Int.toNat t141)).1 qn)) (
    aj (yq (X:=iI.X) (iC.call ((nth ke t139 (Int.toNat t141)).2.2.1,([([rev],((0:Int),((0:Int),((0:Int),())))),([theirs],((0:Int),((0:Int),((nth ke t139 (Int.toNat t141)).2.2.2.1,())))),([mine],((nth ke t139 (Int.toNat t141)).2.2.2.2.1,(wait,((0:Int),()))))],()),((5:Int),((nth ke t139 (Int.toNat t141)),())),Hv,QL))) λx1=>
    kn (bn.L0.st (qn,jB,ee,wait,rev,mine,theirs,t139,t140,(bO .i64 t141 (1:Int)),n8,x1.2.1,x1.2.2))) (
    aj (yq (X:=iI.X) (iC.call ((nth ke t139 (Int.toNat t141)).2.2.1,([([rev],((0:Int),((0:Int),((0:Int),())))),([mine],((0:Int),(wait,((nth ke t139 (Int.toNat t141)).2.2.2.1,())))),([theirs],((nth ke t139 (Int.toNat t141)).2.2.2.2.1,((0:Int),((0:Int),()))))],()),((6:Int),((nth ke t139 (Int.toNat t141)),())),Hv,QL))) λx2=>
    kn (bn.L0.st (qn,jB,ee,wait,rev,mine,theirs,t139,t140,(bO .i64 t141 (1:Int)),n8,x2.2.1,x2.2.2)))) none) (
   kx (bn.L0.bV ((qn,jB,ee,n8),(Hv,QL))).1 (bn.L0.bV ((qn,jB,ee,n8),(Hv,QL))).2):=by kernel_rfl
theorem bn.L1.run:cl bn.L1.call bn.L1.aw bn.L1.add bn.L1.F:=gT (gS [.n,.d ti,.d ti,.d (.pair ti .unit),.d (.slice kj),.n,.d (.pair ti .unit),.n,.d (.slice nU),.d (.slice lg),.d (.slice zp)] λ_=>by kernel_rfl)
theorem bn.L1.aI:jk @bn.L1.R bn.L1.st bn.L1.aw bn.L1.add bn.L1.F bn.L1.bV bn.L1.Ok:=jm
theorem bn.L1.step{R:Type}(E0:Nat)(t201:Int)(t202:Int)(HD:(Int×Unit))(Hz:(List kX))(DX:Nat)(AR:(Int×Unit))(tR:Nat)(AV:(List mF))(Hx:(List kF))(Hy:(List xx))(kn:AS->Option R)(kx:Exit->AS->Option R):bn.L1.R (E0,t201,t202,HD,Hz,DX,AR,tR,AV,Hx,Hy) kn kx=
  aJ ((jK t202 t201)) (
   aJ (fp t202 ((E0:Nat):Int)) (
   aJ (decide ((0+(Int.toNat t202)) < (List.length AV))) (
   aJ (decide ((((0+(Int.toNat t202))*40)+0)=(0+((Int.toNat t202)*40)))) (
   aJ (decide (DX<=(List.length Hx))) (
   aJ (fk (DX+1) 32) (
   aJ (decide (tR<=(List.length Hy))) (
   aJ (fk (tR+1) 48) (
   kn (bn.L1.st (E0,t201,(bO .i64 t202 (1:Int)),HD,Hz,(DX+1),AR,(tR+1),AV,((List.take DX Hx)++ [(nth nU AV (0+(Int.toNat t202))).1]),((List.take tR Hy)++ [(nth nU AV (0+(Int.toNat t202))).2.1])))) none) none) none) none) none) none) none) (
   kx (bn.L1.bV ((HD,Hz,AR),(DX,tR,Hx,Hy))).1 (bn.L1.bV ((HD,Hz,AR),(DX,tR,Hx,Hy))).2):=by kernel_rfl
theorem bn.eq{R:Type}(ch:iN)(sv:jl)(own:Int)(per:Int)(k:aZ->Option R):bn.A (ch,sv,own,per) k=
  aj (gF.call own) λx1=>
  aJ ((!x1)) (
   k (bn.out (((([]:List kX),(([]:List kF),((0:Int),()))),(([]:List xx),())),(1:Int)))) (
   aj (dy.call per) λx2=>
   aJ ((!x2)) (
    k (bn.out (((([]:List kX),(([]:List kF),((0:Int),()))),(([]:List xx),())),(1:Int)))) (
    aj (au.call (ch,sv)) λx3=>
    aJ ((!x3)) (
     k (bn.out (((([]:List kX),(([]:List kF),((0:Int),()))),(([]:List xx),())),(14:Int)))) (
     aJ (fp (cY .i64 (1:Int) own) (2:Int)) (
     aJ (fp (cY .i64 (1:Int) own) (2:Int)) (
     aj (dF.call ((nth qt ch.2.2.1 (Int.toNat (cY .i64 (1:Int) own))).2.2.2.2.1,per)) λx4=>
     aJ (fp own (2:Int)) (
     aj (jh.call ((nth qt ch.2.2.1 (Int.toNat own)).2.2.2.1,per)) λx5=>
     aJ (fp (cY .i64 (1:Int) own) (2:Int)) (
     aj (jh.call ((nth qt ch.2.2.1 (Int.toNat (cY .i64 (1:Int) own))).2.2.2.1,per)) λx6=>
     aj (gl.call (ch,sv,own,own)) λx7=>
     aJ (fp own (2:Int)) (
     aj (dR.call ((nth oP ch.2.2.2.1 (Int.toNat own)),x7)) λx8=>
     aJ (x8) (
      aJ (fp own (2:Int)) (
      aj (jh.call ((nth qt ch.2.2.1 (Int.toNat own)).2.2.1,per)) λx9=>
      aj (il.call (x9,x4,(nth oP ch.2.2.2.1 (Int.toNat (cY .i64 (1:Int) own))).2.2.1)) λzm=>
      aj (IC (Y:=iC.X) (iI.call (x7,zm,((1:Int),(((0:Int),((0:Int),((0:Int),((0:Int),((0:Int),()))))),()))))) λBL=>
      aj (gl.call (ch,sv,own,(cY .i64 (1:Int) own))) λEc=>
      aJ (fp own (2:Int)) (
      aj (dR.call ((nth oP ch.2.2.2.1 (Int.toNat own)),Ec)) λP9=>
      aJ (P9) (
       aJ (fp (cY .i64 (1:Int) own) (2:Int)) (
       aj (jE.call (nth qt ch.2.2.1 (Int.toNat (cY .i64 (1:Int) own))).2.1) λUH=>
       aj (yq (X:=iI.X) (iC.call (Ec,UH,((2:Int),(((0:Int),((0:Int),((0:Int),((0:Int),((0:Int),()))))),())),1,BL.1))) λQY=>
       aJ (fp own (2:Int)) (
       aj (dG.call (nth qt ch.2.2.1 (Int.toNat own)).1) λJM=>
       aj (yq (X:=iI.X) (iC.call ((330:Int),JM,((3:Int),(((0:Int),((0:Int),((0:Int),((0:Int),((0:Int),()))))),())),QY.2.1,QY.2.2))) λXG=>
       aJ (fp (cY .i64 (1:Int) own) (2:Int)) (
       aj (dG.call (nth qt ch.2.2.1 (Int.toNat (cY .i64 (1:Int) own))).1) λY8=>
       aj (yq (X:=iI.X) (iC.call ((330:Int),Y8,((4:Int),(((0:Int),((0:Int),((0:Int),((0:Int),((0:Int),()))))),())),XG.2.1,XG.2.2))) λXH=>
       aj (bT.call (ch,sv,own)) λQZ=>
       aj (bn.L0.call (own,ch,sv,(nth oP ch.2.2.2.1 (Int.toNat (cY .i64 (1:Int) own))).2.2.1,x4,x5,x6,QZ,(((List.length QZ):Nat):Int),(0:Int),((0:Int),()),XH.2.1,XH.2.2)) λE8=>
       aj (jT.call (E8.2.1,E8.2.2)) λWV=>
       aj (bn.L1.call (E8.2.1,((E8.2.1:Nat):Int),(0:Int),E8.1.2.2.2,[(E8.1.2.1.1,(((0:Int),(([]:List Sg),((0:Int),()))),()))],0,((bO .i64 (gJ .i64 (2:Int) E8.1.2.2.1.1) E8.1.1),()),0,WV,([]:List kF),([]:List xx))) λvG=>
       aJ (decide (0=0/\(0+vG.2.1)<=(List.length vG.2.2.2.1))) (
       aJ (decide (0=0/\(0+vG.2.2.1)<=(List.length vG.2.2.2.2))) (
       k (bn.out (((vG.1.2.1,((cut vG.2.2.2.1 0 vG.2.1),vG.1.2.2)),((cut vG.2.2.2.2 0 vG.2.2.1),())),(0:Int)))) none) none) none) none) none) (
       aJ (fp own (2:Int)) (
       aj (dG.call (nth qt ch.2.2.1 (Int.toNat own)).1) λY9=>
       aj (yq (X:=iI.X) (iC.call ((330:Int),Y9,((3:Int),(((0:Int),((0:Int),((0:Int),((0:Int),((0:Int),()))))),())),1,BL.1))) λXI=>
       aJ (fp (cY .i64 (1:Int) own) (2:Int)) (
       aj (dG.call (nth qt ch.2.2.1 (Int.toNat (cY .i64 (1:Int) own))).1) λZa=>
       aj (yq (X:=iI.X) (iC.call ((330:Int),Za,((4:Int),(((0:Int),((0:Int),((0:Int),((0:Int),((0:Int),()))))),())),XI.2.1,XI.2.2))) λGh=>
       aj (bT.call (ch,sv,own)) λXJ=>
       aj (bn.L0.call (own,ch,sv,(nth oP ch.2.2.2.1 (Int.toNat (cY .i64 (1:Int) own))).2.2.1,x4,x5,x6,XJ,(((List.length XJ):Nat):Int),(0:Int),((0:Int),()),Gh.2.1,Gh.2.2)) λQ0=>
       aj (jT.call (Q0.2.1,Q0.2.2)) λZb=>
       aj (bn.L1.call (Q0.2.1,((Q0.2.1:Nat):Int),(0:Int),Q0.1.2.2.2,[(Q0.1.2.1.1,(((0:Int),(([]:List Sg),((0:Int),()))),()))],0,((bO .i64 (gJ .i64 (2:Int) Q0.1.2.2.1.1) Q0.1.1),()),0,Zb,([]:List kF),([]:List xx))) λAu=>
       aJ (decide (0=0/\(0+Au.2.1)<=(List.length Au.2.2.2.1))) (
       aJ (decide (0=0/\(0+Au.2.2.1)<=(List.length Au.2.2.2.2))) (
       k (bn.out (((Au.1.2.1,((cut Au.2.2.2.1 0 Au.2.1),Au.1.2.2)),((cut Au.2.2.2.2 0 Au.2.2.1),())),(0:Int)))) none) none) none) none)) none) none) (
      aj (gl.call (ch,sv,own,(cY .i64 (1:Int) own))) λXK=>
      aJ (fp own (2:Int)) (
      aj (dR.call ((nth oP ch.2.2.2.1 (Int.toNat own)),XK)) λZc=>
      aJ (Zc) (
       aJ (fp (cY .i64 (1:Int) own) (2:Int)) (
       aj (jE.call (nth qt ch.2.2.1 (Int.toNat (cY .i64 (1:Int) own))).2.1) λZd=>
       aj (IC (Y:=iC.X) (iI.call (XK,Zd,((2:Int),(((0:Int),((0:Int),((0:Int),((0:Int),((0:Int),()))))),()))))) λWW=>
       aJ (fp own (2:Int)) (
       aj (dG.call (nth qt ch.2.2.1 (Int.toNat own)).1) λZe=>
       aj (yq (X:=iI.X) (iC.call ((330:Int),Ze,((3:Int),(((0:Int),((0:Int),((0:Int),((0:Int),((0:Int),()))))),())),1,WW.1))) λXL=>
       aJ (fp (cY .i64 (1:Int) own) (2:Int)) (
       aj (dG.call (nth qt ch.2.2.1 (Int.toNat (cY .i64 (1:Int) own))).1) λZf=>
       aj (yq (X:=iI.X) (iC.call ((330:Int),Zf,((4:Int),(((0:Int),((0:Int),((0:Int),((0:Int),((0:Int),()))))),())),XL.2.1,XL.2.2))) λXM=>
       aj (bT.call (ch,sv,own)) λXN=>
       aj (bn.L0.call (own,ch,sv,(nth oP ch.2.2.2.1 (Int.toNat (cY .i64 (1:Int) own))).2.2.1,x4,x5,x6,XN,(((List.length XN):Nat):Int),(0:Int),((0:Int),()),XM.2.1,XM.2.2)) λQ1=>
       aj (jT.call (Q1.2.1,Q1.2.2)) λZg=>
       aj (bn.L1.call (Q1.2.1,((Q1.2.1:Nat):Int),(0:Int),Q1.1.2.2.2,[(Q1.1.2.1.1,(((0:Int),(([]:List Sg),((0:Int),()))),()))],0,((bO .i64 (gJ .i64 (2:Int) Q1.1.2.2.1.1) Q1.1.1),()),0,Zg,([]:List kF),([]:List xx))) λOT=>
       aJ (decide (0=0/\(0+OT.2.1)<=(List.length OT.2.2.2.1))) (
       aJ (decide (0=0/\(0+OT.2.2.1)<=(List.length OT.2.2.2.2))) (
       k (bn.out (((OT.1.2.1,((cut OT.2.2.2.1 0 OT.2.1),OT.1.2.2)),((cut OT.2.2.2.2 0 OT.2.2.1),())),(0:Int)))) none) none) none) none) none) (
       aJ (fp own (2:Int)) (
       aj (dG.call (nth qt ch.2.2.1 (Int.toNat own)).1) λZh=>
       aj (IC (Y:=iC.X) (iI.call ((330:Int),Zh,((3:Int),(((0:Int),((0:Int),((0:Int),((0:Int),((0:Int),()))))),()))))) λZi=>
       aJ (fp (cY .i64 (1:Int) own) (2:Int)) (
       aj (dG.call (nth qt ch.2.2.1 (Int.toNat (cY .i64 (1:Int) own))).1) λZj=>
       aj (yq (X:=iI.X) (iC.call ((330:Int),Zj,((4:Int),(((0:Int),((0:Int),((0:Int),((0:Int),((0:Int),()))))),())),1,Zi.1))) λXO=>
       aj (bT.call (ch,sv,own)) λXP=>
       aj (bn.L0.call (own,ch,sv,(nth oP ch.2.2.2.1 (Int.toNat (cY .i64 (1:Int) own))).2.2.1,x4,x5,x6,XP,(((List.length XP):Nat):Int),(0:Int),((0:Int),()),XO.2.1,XO.2.2)) λQ2=>
       aj (jT.call (Q2.2.1,Q2.2.2)) λZk=>
       aj (bn.L1.call (Q2.2.1,((Q2.2.1:Nat):Int),(0:Int),Q2.1.2.2.2,[(Q2.1.2.1.1,(((0:Int),(([]:List Sg),((0:Int),()))),()))],0,((bO .i64 (gJ .i64 (2:Int) Q2.1.2.2.1.1) Q2.1.1),()),0,Zk,([]:List kF),([]:List xx))) λOU=>
       aJ (decide (0=0/\(0+OU.2.1)<=(List.length OU.2.2.2.1))) (
       aJ (decide (0=0/\(0+OU.2.2.1)<=(List.length OU.2.2.2.2))) (
       k (bn.out (((OU.1.2.1,((cut OU.2.2.2.1 0 OU.2.1),OU.1.2.2)),((cut OU.2.2.2.2 0 OU.2.2.1),())),(0:Int)))) none) none) none) none)) none)) none) none) none) none) none))):=by kernel_rfl
theorem bn.L0.ok:bn.L0.Ok:=by
 refine bn.L0.aI (λ(own,ch,s,wait,rev,mine,theirs,l,m,i,z,L,row)=>l.length - i.toNat) ?_
 rintro⟨own,ch,s,wait,rev,mine,theirs,l,m,i,z,L,row⟩ ⟨hc,⟨h1,h2,h3⟩,hl,rfl,rfl,k,hk,rfl,hr⟩
 have hk:k<=l.length:=hk
 have hl:l.length<=16:=hl
 have hr:row.length<=4+k:=hr
 have h1:iw rev:=h1
 have h2:iw mine:=h2
 have h3:iw theirs:=h3
 by_cases h:k < l.length
 ·left
  have n1:nth ke l k=l[k]:=dP (t:=ke) h
  have hp:iw l[k].2.2.2.1:=hc _ (List.getElem_mem h)
  have hd:(l.drop k).map (oC own rev theirs mine wait)=oC own rev theirs mine wait l[k]::(l.drop (k+1)).map (oC own rev theirs mine wait):=by rw[aA h,cG]
  have e1:∀x:mF,(row++ [x]).length=row.length+1:=λx=>by rw[ae];rfl
  refine⟨(own,ch,s,wait,rev,mine,theirs,l,(l.length:Int),((k+1:Nat):Int),z,row.length+1,row++ [oC own rev theirs mine wait l[k]]),⟨hc,⟨h1,h2,h3⟩,hl,rfl,(e1 _).symm,k+1,by omega,rfl,by show(row++ [_]).length<=_;rw[e1];omega⟩,by simp only[aa];omega,?_,λkn kx=> ?_⟩
  ·simp only[bn.L0.add,bn.L0.F,aa,hd,bR,eS]
  ·rw[bn.L0.step,bI (by omega),bF (by omega) (by omega),aa,n1,N.pJ (by omega)]
   simp only[ah]
   unfold oC
   by_cases ho:l[k].1=own
   ·rw[iE ho,ah,if_pos ho]
    refine(congrArg (λz=>aj z _) (iC.at (Qy h1 h3 h2 hp) rfl (by omega))).trans ?_
    rfl
   ·rw[fJ ho,ai,if_neg ho]
    refine(congrArg (λz=>aj z _) (iC.at (Qz h1 h3 h2 hp) rfl (by omega))).trans ?_
    rfl
 ·right
  obtain rfl:k=l.length:=by omega
  intro R kn kx
  rw[bn.L0.step,bp (by omega),ai]
  simp only[bn.L0.add,bn.L0.F,aa,bH,jg,dg]
theorem bn.L1.ok:bn.L1.Ok:=by
 refine bn.L1.aI (λ(L,m,i,z,ins,lo,note,lr,row,outs,roles)=>row.length - i.toNat) ?_
 rintro⟨L,m,i,z,ins,lo,note,lr,row,outs,roles⟩ ⟨rfl,rfl,rfl,rfl,hl,k,hk,rfl,ho,hr⟩
 have hk:k<=row.length:=hk
 have hl:row.length<=1000:=hl
 have ho:outs.length<=k:=ho
 have hr:roles.length<=k:=hr
 by_cases h:k < row.length
 ·left
  have n1:nth nU row k=row[k]:=dP (t:=nU) h
  have hd:row.drop k=row[k]::row.drop (k+1):=aA h
  have e1:(outs++ [row[k].1]).length=outs.length+1:=by rw[ae];rfl
  have e2:(roles++ [row[k].2.1]).length=roles.length+1:=by rw[ae];rfl
  refine⟨(row.length,(row.length:Int),((k+1:Nat):Int),z,ins,outs.length+1,note,roles.length+1,row,outs++ [row[k].1],roles++ [row[k].2.1]),⟨rfl,rfl,e1.symm,e2.symm,hl,k+1,by omega,rfl,by show(outs++ [_]).length<=_;rw[e1];omega,by show(roles++ [_]).length<=_;rw[e2];omega⟩,by simp only[aa];omega,?_,λkn kx=> ?_⟩
  ·simp only[bn.L1.add,bn.L1.F,aa,hd,cG,bR,eS]
  ·rw[bn.L1.step,bI (by omega),bF (by omega) (by omega),aa]
   simp only[bl]
   rw[n1,N.pJ (by omega),aO h,aO (show k*40+0=k*40 from rfl),aO (aC _),aO (aC _),fV (by omega) (by omega),fV (by omega) (by omega),cz,cz]
   simp only[ah]
 ·right
  obtain rfl:k=row.length:=by omega
  intro R kn kx
  rw[bn.L1.step,bp (by omega),ai]
  simp only[bn.L1.add,bn.L1.F,aa,bH,jg,dg]
theorem bn.tail{ch:iN}{s:jl}{own wait rev mine theirs:Int}(fI:ns ch)(hu:uE s)(hs:xi ch s)(ho:own=0\/own=1)(h1:iw rev)(h2:iw mine)(h3:iw theirs){RL:Nat}{R:List mF}(hL:RL=R.length)(hR:R.length<=4):
   (aj (bT.call (ch,s,own)) λQZ=>
    aj (bn.L0.call (own,ch,s,wait,rev,mine,theirs,QZ,(((List.length QZ):Nat):Int),(0:Int),((0:Int),()),RL,R)) λE8=>
    aj (jT.call (E8.2.1,E8.2.2)) λWV=>
    aj (bn.L1.call (E8.2.1,((E8.2.1:Nat):Int),(0:Int),E8.1.2.2.2,[(E8.1.2.1.1,(((0:Int),(([]:List Sg),((0:Int),()))),()))],0,((bO .i64 (gJ .i64 (2:Int) E8.1.2.2.1.1) E8.1.1),()),0,WV,([]:List kF),([]:List xx))) λvG=>
    aJ (decide (0=0/\(0+vG.2.1)<=(List.length vG.2.2.2.1))) (
    aJ (decide (0=0/\(0+vG.2.2.1)<=(List.length vG.2.2.2.2))) (
    some (bn.out (((vG.1.2.1,((cut vG.2.2.2.1 0 vG.2.1),vG.1.2.2)),((cut vG.2.2.2.2 0 vG.2.2.1),())),(0:Int)))) none) none)=some (bn.out (ofRow ch s own (lf (R++(jb s.2.2.1).map (oC own rev theirs mine wait))),0)):=by
  subst hL
  have hl:=hs.len
  have Kf:(jb s.2.2.1).length<=16:=oo (nu _ _) hl
  have RT:=hs.no
  rw[bT.run (d:=(ch,s,own)) ⟨fI,ho,by show s.2.2.1.length<=1000;omega⟩]
  simp only[ab,bT.add,bT.F]
  rw[bn.L0.run (d:=(own,ch,s,wait,rev,mine,theirs,jb s.2.2.1,((jb s.2.2.1).length:Int),0,(0,()),R.length,R)) ⟨λc hc=>hu.1 c ((jG.1 hc).1),⟨h1,h2,h3⟩,Kf,rfl,rfl,0,bm _,rfl,by omega⟩]
  simp only[ab,bn.L0.add,bn.L0.F,bK,aW]
  have hq:(R++(jb s.2.2.1).map (oC own rev theirs mine wait)).length<=20:=by rw[ae,b8];omega
  generalize R++(jb s.2.2.1).map (oC own rev theirs mine wait)=Q at hq
  rw[jT.run (d:=(Q.length,Q)) ⟨rfl,hq⟩]
  simp only[ab,jT.add,jT.F]
  have hp:=(mf Q).length_eq
  rw[nf (by omega) (by omega),ff (by omega) (by omega)]
  rw[bn.L1.run (d:=(Q.length,(Q.length:Int),0,(0,()),[(ch.1,(((0:Int),(([]:List Sg),((0:Int),()))),()))],0,(2*s.1+own,()),0,lf Q,[],[])) ⟨hp.symm,by show(Q.length:Int)=((lf Q).length:Int);rw[hp],rfl,rfl,by show(lf Q).length<=1000;omega,0,bm _,rfl,aC _,aC _⟩]
  simp only[ab,bn.L1.add,bn.L1.F,bK,aW,bu,bl]
  rw[aO ⟨trivial,aC _⟩,ah,aO ⟨trivial,aC _⟩,ah,iV rfl,iV rfl]
  rfl
theorem ns.ba{ch:iN}(h:ns ch){n:Int}(hn:n=0\/n=1):Q4 (nW ch n):=by
 obtain⟨a,b0,b1,o,rfl,_,_,h1,h2,_⟩:=h
 rcases hn with rfl | rfl
 ·exact h1
 ·exact h2
theorem rR(l:List Int):iw (vg l):=(KK l).u
theorem bn.ok:bn.Ok:=by
 rintro⟨ch,s,own,per⟩ ⟨fI,hu,hp⟩
 have fI:ns ch:=fI
 have hu:uE s:=hu
 have hp:iw per:=hp
 rw[bn.eq,gF.run (d:=own) trivial]
 simp only[ab,gF.add,gF.F,bn.add,bn.F,oG, -eq_self]
 by_cases ho:own=0\/own=1
 rotate_left
 ·rw[cR ho];rfl
 rw[aO ho,bY,ai,dy.run (d:=per) hp]
 simp only[ab,dy.add,dy.F, -eq_self]
 cases hq:oS per
 ·rfl
 rw[bY,ai,au.run (d:=(ch,s)) ⟨fI,hu⟩]
 simp only[ab,au.add,au.F,l9,if_true, -eq_self]
 cases jV:ye ch s
 ·rfl
 have hs:=sT.1 jV
 have hp':1 - own=0\/1 - own=1:=by omega
 have b0:=fI.ba ho
 have b1:=fI.ba hp'
 have i1:fp own 2=true:=bF (by omega) (by omega)
 have i2:fp (1 - own) 2=true:=bF (by omega) (by omega)
 have eB:∀n:Int,nth qt ch.2.2.1 n.toNat=nW ch n:=λ_=>rfl
 have eW:∀n:Int,(nth oP ch.2.2.2.1 n.toNat).2.2.1=xv ch n:=λ_=>rfl
 have c1:dF.call ((nW ch (1 - own)).2.2.2.2.1,per)=some (vc (nW ch (1 - own)).2.2.2.2.1 per):=dF.c b1.2.2.2.2.1 hp
 have c2:jh.call ((nW ch own).2.2.2.1,per)=some (wb (nW ch own).2.2.2.1 per):=jh.c b0.2.2.2.1.1 per
 have c3:jh.call ((nW ch (1 - own)).2.2.2.1,per)=some (wb (nW ch (1 - own)).2.2.2.1 per):=jh.c b1.2.2.2.1.1 per
 have c4:jh.call ((nW ch own).2.2.1,per)=some (wb (nW ch own).2.2.1 per):=jh.c b0.2.2.1.1 per
 have c5:gl.call (ch,s,own,own)=some (jF ch s own):=gl.run (d:=(ch,s,own,own)) ⟨fI,hs,ho,ho⟩
 have c6:gl.call (ch,s,own,1 - own)=some (jF ch s (1 - own)):=gl.run (d:=(ch,s,own,1 - own)) ⟨fI,hs,ho,hp'⟩
 have c7:∀a b c:Int,il.call (a,b,c)=some (AH a b c):=λa b c=>il.run (d:=(a,b,c)) trivial
 have c8:∀a:Int,jE.call a=some (vD [a]):=λa=>jE.run (d:=a) trivial
 have c9:∀a:Int,dG.call a=some (uI a):=λa=>dG.run (d:=a) trivial
 have u1:iw (vc (nW ch (1 - own)).2.2.2.2.1 per):=rR _
 have u2:iw (wb (nW ch own).2.2.2.1 per):=rR _
 have u3:iw (wb (nW ch (1 - own)).2.2.2.1 per):=rR _
 have k1:ua (AH (wb (nW ch own).2.2.1 per) (vc (nW ch (1 - own)).2.2.2.2.1 per) (xv ch (1 - own))):=Hh (rR _) u1
 have k2:ua (vD [(nW ch (1 - own)).2.1]):=Bx b1.2.1.1
 have k3:ua (uI (nW ch own).1):=uW b0.1.1
 have k4:ua (uI (nW ch (1 - own)).1):=uW b1.1.1
 have I4:=λn=>fI.shown ho n
 rw[JD (by omega)]
 simp only[eB,eW,i1,i2,ah,bY,ai,c1,c2,c3,c4,c5,c6,c7,c8,c9,I4,ab, -eq_self]
 unfold bZ ng
 cases hA:D7 (jF ch s own) <;> cases hB:D7 (jF ch s (1 - own))
 ·simp only[ah,ai,if_true,cF,if_false,bu, -eq_self]
  refine(congrArg (λz=>aj z _) (iI.at k3)).trans ?_
  simp only[ab, -eq_self]
  refine(congrArg (λz=>aj z _) (iC.at k4 ?_ ?_)).trans ?_
  ·rfl
  ·exact dD rfl
  simp only[ab, -eq_self]
  exact bn.tail fI hu hs ho u1 u2 u3 rfl (dD rfl)
 ·simp only[ah,ai,if_true,cF,if_false,bu, -eq_self]
  refine(congrArg (λz=>aj z _) (iI.at k2)).trans ?_
  simp only[ab, -eq_self]
  refine(congrArg (λz=>aj z _) (iC.at k3 ?_ ?_)).trans ?_
  ·rfl
  ·exact dD rfl
  simp only[ab, -eq_self]
  refine(congrArg (λz=>aj z _) (iC.at k4 ?_ ?_)).trans ?_
  ·rfl
  ·exact dD rfl
  simp only[ab, -eq_self]
  exact bn.tail fI hu hs ho u1 u2 u3 rfl (dD rfl)
 ·simp only[ah,ai,if_true,cF,if_false,bu, -eq_self]
  refine(congrArg (λz=>aj z _) (iI.at k1)).trans ?_
  simp only[ab, -eq_self]
  refine(congrArg (λz=>aj z _) (iC.at k3 ?_ ?_)).trans ?_
  ·rfl
  ·exact dD rfl
  simp only[ab, -eq_self]
  refine(congrArg (λz=>aj z _) (iC.at k4 ?_ ?_)).trans ?_
  ·rfl
  ·exact dD rfl
  simp only[ab, -eq_self]
  exact bn.tail fI hu hs ho u1 u2 u3 rfl (dD rfl)
 ·simp only[ah,ai,if_true, -eq_self]
  refine(congrArg (λz=>aj z _) (iI.at k1)).trans ?_
  simp only[ab, -eq_self]
  refine(congrArg (λz=>aj z _) (iC.at k2 ?_ ?_)).trans ?_
  ·rfl
  ·exact dD rfl
  simp only[ab, -eq_self]
  refine(congrArg (λz=>aj z _) (iC.at k3 ?_ ?_)).trans ?_
  ·rfl
  ·exact dD rfl
  simp only[ab, -eq_self]
  refine(congrArg (λz=>aj z _) (iC.at k4 ?_ ?_)).trans ?_
  ·rfl
  ·exact dD rfl
  simp only[ab, -eq_self]
  exact bn.tail fI hu hs ho u1 u2 u3 rfl (dD rfl)
def bn.E:=Entry.dp [some nb,some mC,some ti,some tu] bn.st bn.aw bn.add bn.F bn.out
def bn.call:bn.D->Option bn.X:=cj bn.E bn.st
theorem bn.run:cl bn.call bn.aw bn.add bn.F:=dw (du [.d nb,.d mC,.d ti,.d tu] λ_=>by kernel_rfl)
def bn.sg:SG Tryz.prog:=⟨37,aP,bn.E,.fn 2 (by kernel_rfl) bn.ok (And.intro (.dp bn.L0.ok (by kernel_rfl)) (And.intro (.dp bn.L1.ok (by kernel_rfl)) trivial))⟩
end
end Go.Ab
namespace Go.Ab
open Go.Proofs
noncomputable section
def vC(rev pay:Int)(o:ir)(x:kF)(r:xx):List mI:=if r.1=3\/r.1=4 then [] else [(o,(x.1,((if r.1=2 then pay else rev),())))]
def Ba(rev pay:Int):List ir->List kF->List xx->List mI
 |o::os,x::xs,r::rs=>vC rev pay o x r++Ba rev pay os xs rs
 |_,_,_=> []
def tr(c:Ax)(rev pay:Int):List mI:=Ba rev pay (gq c.1) c.1.2.1 c.2.1
def Be:List mI->Int
 |[]=>0
 |x::l=>x.2.1+Be l
def lP(l:List mI)(bP:Int):Int:= -bP*(18+18*l.length)+Be l
structure XS(x:mI):Prop where
 id:Sm x.1.1
 DD:0<=x.2.1/\x.2.1<=1125899906842624
 key:iw x.2.2.1
def zr(l:List mI):Prop:=l.length<=64/\∀x∈l,XS x
theorem KM(rev pay:Int):∀(a:List ir) (b:List kF) (c:List xx),(Ba rev pay a b c).length<=a.length
 |[],_,_=>aC _
 |_::_,[],_=>bm _
 |_::_,_::_,[]=>bm _
 |o::a,x::b,r::c=>by
  have:=KM rev pay a b c
  rw[Ba,ae,aN]
  have h1:(vC rev pay o x r).length<=1:=by unfold vC;split <;> simp
  omega
theorem BK(rev pay:Int):∀(a:List ir) (b:List kF) (c:List xx) (y:mI),y∈Ba rev pay a b c->∃o∈a,∃x∈b,∃r∈c,¬(r.1=3\/r.1=4)/\y=(o,(x.1,((if r.1=2 then pay else rev),())))
 |[],_,_,_,h=>by simp[Ba]at h
 |_::_,[],_,_,h=>by simp[Ba]at h
 |_::_,_::_,[],_,h=>by simp[Ba]at h
 |o::a,x::b,r::c,y,h=>by
  rw[Ba,cf]at h
  rcases h with h | h
  ·unfold vC at h
   split at h
   ·cases h
   ·next hr=>
    rw[aR]at h
    exact⟨o,bq,x,bq,r,bq,hr,h⟩
  ·obtain⟨o',h1,x',h2,r',h3,h4⟩:=BK rev pay a b c y h
   exact⟨o',bj _ h1,x',bj _ h2,r',bj _ h3,h4⟩
abbrev er.D:=Int
def er.st:er.D->SA:=λmany=>([.d ti many],[])
abbrev er.Y:=Int
abbrev er.X:=Int
def er.out:er.X->aZ:=λx=>⟨.d ti x,[],[]⟩
def er.add:er.D->er.Y->er.X:=λmany y=>y
def er.aw:er.D->Prop:=λn=>0<=n/\n<=1000
def er.F:er.D->er.Y:=λn=>18+18*n
def er.G:fD:=gz (P:=Tryz.prog) []
def er.an:fT:= {}
def er.A:= @dq Tryz.prog er.G er.an 0 Tryz.f90 _ er.st
abbrev er.Ok:=dr @er.A er.aw er.add er.F er.out
theorem er.eq{R:Type}(many:Int)(k:aZ->Option R):er.A many k=
 k (er.out (bO .i64 (bO .i64 (10:Int) (gJ .i64 (18:Int) many)) (8:Int))):=by kernel_rfl
theorem er.ok:er.Ok:=by
 rintro(n:Int) ⟨h0,h1⟩
 have h0:(0:Int)<=n:=h0
 have h1:n<=(1000:Int):=h1
 have e1:gJ .i64 18 n=18*n:=nf (by omega) (by omega)
 have e2:bO .i64 10 (18*n)=10+18*n:=ff (by omega) (by omega)
 have e3:bO .i64 (10+18*n) 8=18+18*n:=by rw[ff (by omega) (by omega)];omega
 rw[er.eq,e1,e2,e3]
 rfl
def er.E:=Entry.dp [some ti] er.st er.aw er.add er.F er.out
def er.call:er.D->Option er.X:=cj er.E er.st
theorem er.run:cl er.call er.aw er.add er.F:=dw (du [.d ti] λ_=>by kernel_rfl)
def er.sg:SG Tryz.prog:=⟨90,aP,er.E,.fn 0 (by kernel_rfl) er.ok trivial⟩
abbrev iS.L0.D:=Int×Int×Ax×Nat×(List ir)×Int×Int×(List mI)
def iS.L0.st:iS.L0.D->AS:=λ(vu,vp,vS,outL,t13,t14,t15,Iy)=>⟨([.undef,.d tu vu,.d tu vp,.gE Gr vS,.undef,.undef,.undef,.dh (.new 46 0) 0 [] 0 0 outL]++bG 5 ([.d (.slice gV) t13,.d ti t14,.d ti t15]++bG 33 [])),[],(db 46 [[.obj 0 false (.vec 171 xg Iy)],[],[]])⟩
abbrev iS.L0.Y0:=Nat×(List mI)
abbrev iS.L0.X0:=Nat×(List mI)
def iS.L0.bV:iS.L0.X0->Exit×AS:=λx=>(.exit 0,⟨(bG 7 ([.dh (.new 46 0) 0 [] 0 0 x.1]++bG 41 [])),[],(db 46 [[.obj 0 false (.vec 171 xg x.2)],[],[]])⟩)
abbrev iS.L0.X:=iS.L0.X0
abbrev iS.L0.Y:=iS.L0.Y0
def iS.L0.out:iS.L0.X->Out (Exit×AS):=λx=> .ok (iS.L0.bV x)
def iS.L0.add:iS.L0.D->iS.L0.Y->iS.L0.X:=λ(vu,vp,vS,outL,t13,t14,t15,Iy) y=>y
abbrev iS.D:=Ax×Int×Int
def iS.st:iS.D->SA:=λ(c,rev,pay)=>([.d Gr c,.d tu rev,.d tu pay],[])
abbrev iS.Y:=(List mI)
abbrev iS.X:=(List mI)
def iS.out:iS.X->aZ:=λx=>⟨.d (.slice xg) x,[],[]⟩
def iS.add:iS.D->iS.Y->iS.X:=λ(c,rev,pay) y=>y
def iS.L0.aw:iS.L0.D->Prop:=λ(rev,pay,c,L,os,m,i,row)=>os.length<=c.1.2.1.length/\c.1.2.1.length=c.2.1.length/\os.length<=1000/\m=os.length/\L=row.length/\∃k:Nat,k<=os.length/\i=k/\row.length<=k
def iS.L0.F:iS.L0.D->iS.L0.Y:=λ(rev,pay,c,L,os,m,i,row)=>((row++Ba rev pay (os.drop i.toNat) (c.1.2.1.drop i.toNat) (c.2.1.drop i.toNat)).length,row++Ba rev pay (os.drop i.toNat) (c.1.2.1.drop i.toNat) (c.2.1.drop i.toNat))
def iS.aw:iS.D->Prop:=λ(c,_,_)=>tZ c.1/\c.1.2.1.length=c.2.1.length/\c.1.2.1.length<=1000
def iS.F:iS.D->iS.Y:=λ(c,rev,pay)=>tr c rev pay
def iS.G:fD:=gz (P:=Tryz.prog) [cP.sg]
def iS.L0.E:=cV.dp iS.L0.st iS.L0.aw iS.L0.add iS.L0.F iS.L0.out
def iS.L0.call:iS.L0.D->Option iS.L0.X:=eI iS.L0.E iS.L0.st
def iS.an:fT:= {loops:=oF [(3,{bS:=[1,2,3,7,13,14,15],sites:=[46],nB:=[⟨7,[],46,113⟩]})],outs:=oE [(3,{bS:=[7],sites:=[46]},{bS:=[6]})],jw:=pL [(3,iS.L0.E)],res:=[some (.slice xg)]}
def iS.A:= @dq Tryz.prog iS.G iS.an 0 Tryz.f39 _ iS.st
abbrev iS.Ok:=dr @iS.A iS.aw iS.add iS.F iS.out
def iS.L0.R:= @dn Tryz.prog iS.G iS.an 0 Tryz.f39 0 _ iS.L0.st
abbrev iS.L0.Ok:=gw Tryz.prog iS.G iS.an 0 Tryz.f39 0 iS.L0.st iS.L0.aw iS.L0.add iS.L0.F iS.L0.out
theorem iS.L0.run:cl iS.L0.call iS.L0.aw iS.L0.add iS.L0.F:=gT (gS [.d tu,.d tu,.d Gr,.n,.d (.slice gV),.d ti,.d ti,.d (.slice xg)] λ_=>by kernel_rfl)
theorem iS.L0.aI:jk @iS.L0.R iS.L0.st iS.L0.aw iS.L0.add iS.L0.F iS.L0.bV iS.L0.Ok:=jm
theorem iS.L0.step{R:Type}(vu:Int)(vp:Int)(vS:Ax)(outL:Nat)(t13:(List ir))(t14:Int)(t15:Int)(Iy:(List mI))(kn:AS->Option R)(kx:Exit->AS->Option R):iS.L0.R (vu,vp,vS,outL,t13,t14,t15,Iy) kn kx=
  aJ ((jK t15 t14)) (
   aJ (fp t15 (((List.length t13):Nat):Int)) (
   aJ (fp t15 (((List.length vS.1.2.1):Nat):Int)) (
   aJ (fp t15 (((List.length vS.2.1):Nat):Int)) (
   aJ ((nX (nth zp vS.2.1 (Int.toNat t15)).1 (3:Int))) (
    aJ ((nX (nth zp vS.2.1 (Int.toNat t15)).1 (3:Int))) (
     kn (iS.L0.st (vu,vp,vS,outL,t13,t14,(bO .i64 t15 (1:Int)),Iy))) (
     aJ ((nX (nth zp vS.2.1 (Int.toNat t15)).1 (2:Int))) (
      aJ (decide (outL<=(List.length Iy))) (
      aJ (fk (outL+1) 56) (
      kn (iS.L0.st (vu,vp,vS,(outL+1),t13,t14,(bO .i64 t15 (1:Int)),((List.take outL Iy)++ [((nth gV t13 (Int.toNat t15)),((nth lg vS.1.2.1 (Int.toNat t15)).1,(vp,())))])))) none) none) (
      aJ (decide (outL<=(List.length Iy))) (
      aJ (fk (outL+1) 56) (
      kn (iS.L0.st (vu,vp,vS,(outL+1),t13,t14,(bO .i64 t15 (1:Int)),((List.take outL Iy)++ [((nth gV t13 (Int.toNat t15)),((nth lg vS.1.2.1 (Int.toNat t15)).1,(vu,())))])))) none) none))) (
    aJ ((nX (nth zp vS.2.1 (Int.toNat t15)).1 (4:Int))) (
     kn (iS.L0.st (vu,vp,vS,outL,t13,t14,(bO .i64 t15 (1:Int)),Iy))) (
     aJ ((nX (nth zp vS.2.1 (Int.toNat t15)).1 (2:Int))) (
      aJ (decide (outL<=(List.length Iy))) (
      aJ (fk (outL+1) 56) (
      kn (iS.L0.st (vu,vp,vS,(outL+1),t13,t14,(bO .i64 t15 (1:Int)),((List.take outL Iy)++ [((nth gV t13 (Int.toNat t15)),((nth lg vS.1.2.1 (Int.toNat t15)).1,(vp,())))])))) none) none) (
      aJ (decide (outL<=(List.length Iy))) (
      aJ (fk (outL+1) 56) (
      kn (iS.L0.st (vu,vp,vS,(outL+1),t13,t14,(bO .i64 t15 (1:Int)),((List.take outL Iy)++ [((nth gV t13 (Int.toNat t15)),((nth lg vS.1.2.1 (Int.toNat t15)).1,(vu,())))])))) none) none)))) none) none) none) (
   kx (iS.L0.bV (outL,Iy)).1 (iS.L0.bV (outL,Iy)).2):=by kernel_rfl
theorem iS.eq{R:Type}(c:Ax)(rev:Int)(pay:Int)(k:aZ->Option R):iS.A (c,rev,pay) k=
 aj (cP.call c.1) λx1=>
 aj (iS.L0.call (rev,pay,c,0,x1,(((List.length x1):Nat):Int),(0:Int),([]:List mI))) λx2=>
 aJ (decide (0=0/\(0+x2.1)<=(List.length x2.2))) (
 k (iS.out (cut x2.2 0 x2.1))) none:=by kernel_rfl
theorem iS.L0.ok:iS.L0.Ok:=by
 refine iS.L0.aI (λ(rev,pay,c,L,os,m,i,row)=>os.length - i.toNat) ?_
 rintro⟨rev,pay,c,L,os,m,i,row⟩ ⟨ho,hr,hl,rfl,rfl,k,hk,rfl,my⟩
 have hk:k<=os.length:=hk
 have ho:os.length<=c.1.2.1.length:=ho
 have hr:c.1.2.1.length=c.2.1.length:=hr
 have hl:os.length<=1000:=hl
 have my:row.length<=k:=my
 by_cases h:k < os.length
 ·left
  have n1:nth gV os k=os[k]:=dP (t:=gV) h
  have n2:nth lg c.1.2.1 k=c.1.2.1[k]:=dP (t:=lg) (by omega)
  have n3:nth zp c.2.1 k=c.2.1[k]:=dP (t:=zp) (by omega)
  have hd:Ba rev pay (os.drop k) (c.1.2.1.drop k) (c.2.1.drop k)=vC rev pay os[k] c.1.2.1[k] c.2.1[k]++Ba rev pay (os.drop (k+1)) (c.1.2.1.drop (k+1)) (c.2.1.drop (k+1)):=by
   rw[aA h,aA (show k < c.1.2.1.length by omega),aA (show k < c.2.1.length by omega),Ba]
  have e1:∀x:mI,(row++ [x]).length=row.length+1:=λx=>by rw[ae];rfl
  have key:∀(t:List mI),t.length<=1->(row++t).length<=k+1:=λt ht=>by rw[ae];omega
  refine⟨(rev,pay,c,(row++vC rev pay os[k] c.1.2.1[k] c.2.1[k]).length,os,(os.length:Int),((k+1:Nat):Int),row++vC rev pay os[k] c.1.2.1[k] c.2.1[k]),⟨ho,hr,hl,rfl,rfl,k+1,by omega,rfl,key _ (by unfold vC;split <;> simp)⟩,by simp only[aa];omega,?_,λkn kx=> ?_⟩
  ·simp only[iS.L0.add,iS.L0.F,aa,hd,bR]
  ·rw[iS.L0.step,bI (by omega),bF (by omega) (by omega),bF (by omega) (by omega),bF (by omega) (by omega),aa,n1,n2,n3,N.pJ (by omega),aO (aC _),fV (by omega) (by omega),cz]
   simp only[ah]
   unfold vC
   by_cases h3:c.2.1[k].1=3
   ·rw[iE h3,if_pos (.inl h3),dg];rfl
   ·rw[fJ h3,ai]
    by_cases h4:c.2.1[k].1=4
    ·rw[iE h4,if_pos (.inr h4),dg];rfl
    ·rw[fJ h4,ai,if_neg (by rintro(x | x);exact h3 x;exact h4 x),e1]
     by_cases h2:c.2.1[k].1=2
     ·rw[iE h2,if_pos h2];rfl
     ·rw[fJ h2,if_neg h2];rfl
 ·right
  obtain rfl:k=os.length:=by omega
  intro R kn kx
  rw[iS.L0.step,bp (by omega),ai]
  simp only[iS.L0.add,iS.L0.F,aa,bH,Ba,dg]
theorem Hn(t:iM):(gq t).length<=t.2.1.length:=by
 unfold gq nE
 split
 ·rw[b8,List.length_range'];exact aC _
 ·exact bm _
theorem iS.ok:iS.Ok:=by
 rintro⟨c,rev,pay⟩ ⟨hv,hr,hl⟩
 have hl:c.1.2.1.length<=1000:=hl
 have hm:=Hn c.1
 have e:cP.call c.1=some (gq c.1):=cP.run (d:=c.1) hv
 rw[iS.eq,e,ab]
 have ea:∀d y,iS.add d y=y:=λ_ _=>rfl
 have eF:iS.F (c,rev,pay)=tr c rev pay:=rfl
 rw[ea,eF]
 unfold tr
 generalize gq c.1=os at hm
 rw[iS.L0.run (d:=(rev,pay,c,0,os,(os.length:Int),0,[])) ⟨hm,hr,by show os.length<=1000;omega,rfl,rfl,0,bm _,rfl,aC _⟩]
 simp only[ab,iS.L0.add,iS.L0.F,bK,aW,bu,bl]
 rw[aO ⟨trivial,aC _⟩,ah,iV rfl]
def iS.E:=Entry.dp [some Gr,some tu,some tu] iS.st iS.aw iS.add iS.F iS.out
def iS.call:iS.D->Option iS.X:=cj iS.E iS.st
theorem iS.run:cl iS.call iS.aw iS.add iS.F:=dw (du [.d Gr,.d tu,.d tu] λ_=>by kernel_rfl)
def iS.sg:SG Tryz.prog:=⟨39,aP,iS.E,.fn 1 (by kernel_rfl) iS.ok (And.intro (.dp iS.L0.ok (by kernel_rfl)) trivial)⟩
abbrev cT.L0.D:=Int×(List mI)×Int×Int
def cT.L0.st:cT.L0.D->AS:=λ(n,t14,t15,t16)=>⟨(bG 5 ([.d ti n]++bG 8 ([.d (.slice xg) t14,.d ti t15,.d ti t16]++bG 9 []))),[],(List.replicate 26 [])⟩
abbrev cT.L0.Y0:=Int
abbrev cT.L0.X0:=Int
def cT.L0.bV:cT.L0.X0->Exit×AS:=λx=>(.exit 0,⟨(bG 5 ([.d ti x]++bG 20 [])),[],(List.replicate 26 [])⟩)
abbrev cT.L0.X:=cT.L0.X0
abbrev cT.L0.Y:=cT.L0.Y0
def cT.L0.out:cT.L0.X->Out (Exit×AS):=λx=> .ok (cT.L0.bV x)
def cT.L0.add:cT.L0.D->cT.L0.Y->cT.L0.X:=λ(n,t14,t15,t16) y=>y
abbrev cT.D:=(List mI)×Int
def cT.st:cT.D->SA:=λ(l,bP)=>([.d (.slice xg) l,.d ti bP],[])
abbrev cT.Y:=Int
abbrev cT.X:=Int
def cT.out:cT.X->aZ:=λx=>⟨.d ti x,[],[]⟩
def cT.add:cT.D->cT.Y->cT.X:=λ(l,bP) y=>y
def cT.L0.aw:cT.L0.D->Prop:=λ(n,l,m,i)=>(∀x∈l,0<=x.2.1/\x.2.1<=1125899906842624)/\l.length<=64/\m=l.length/\∃k:Nat,k<=l.length/\i=k/\ -100000000<=n/\n<=1125899906842624*k
def cT.L0.F:cT.L0.D->cT.L0.Y:=λ(n,l,m,i)=>n+Be (l.drop i.toNat)
def cT.aw:cT.D->Prop:=λ(l,bP)=>zr l/\0<=bP/\bP<=1000
def cT.F:cT.D->cT.Y:=λ(l,bP)=>lP l bP
def cT.G:fD:=gz (P:=Tryz.prog) [er.sg]
def cT.L0.E:=cV.dp cT.L0.st cT.L0.aw cT.L0.add cT.L0.F cT.L0.out
def cT.L0.call:cT.L0.D->Option cT.L0.X:=eI cT.L0.E cT.L0.st
def cT.an:fT:= {loops:=oF [(3,{bS:=[5,14,15,16]})],outs:=oE [(3,{bS:=[5]},{bS:=[4]})],jw:=pL [(3,cT.L0.E)]}
def cT.A:= @dq Tryz.prog cT.G cT.an 0 Tryz.f38 _ cT.st
abbrev cT.Ok:=dr @cT.A cT.aw cT.add cT.F cT.out
def cT.L0.R:= @dn Tryz.prog cT.G cT.an 0 Tryz.f38 0 _ cT.L0.st
abbrev cT.L0.Ok:=gw Tryz.prog cT.G cT.an 0 Tryz.f38 0 cT.L0.st cT.L0.aw cT.L0.add cT.L0.F cT.L0.out
theorem cT.L0.run:cl cT.L0.call cT.L0.aw cT.L0.add cT.L0.F:=gT (gS [.d ti,.d (.slice xg),.d ti,.d ti] λ_=>by kernel_rfl)
theorem cT.L0.aI:jk @cT.L0.R cT.L0.st cT.L0.aw cT.L0.add cT.L0.F cT.L0.bV cT.L0.Ok:=jm
theorem cT.L0.step{R:Type}(n:Int)(t14:(List mI))(t15:Int)(t16:Int)(kn:AS->Option R)(kx:Exit->AS->Option R):cT.L0.R (n,t14,t15,t16) kn kx=
  aJ ((jK t16 t15)) (
   aJ (fp t16 (((List.length t14):Nat):Int)) (
   kn (cT.L0.st ((bO .i64 n (nth xg t14 (Int.toNat t16)).2.1),t14,t15,(bO .i64 t16 (1:Int))))) none) (
   kx (cT.L0.bV n).1 (cT.L0.bV n).2):=by kernel_rfl
theorem cT.eq{R:Type}(l:(List mI))(bP:Int)(k:aZ->Option R):cT.A (l,bP) k=
 aj (er.call (((List.length l):Nat):Int)) λx1=>
 aj (cT.L0.call ((gJ .i64 (R2 .i64 bP) x1),l,(((List.length l):Nat):Int),(0:Int))) λx2=>
 k (cT.out x2):=by kernel_rfl
theorem cT.L0.ok:cT.L0.Ok:=by
 refine cT.L0.aI (λ(n,l,m,i)=>l.length - i.toNat) ?_
 rintro⟨n,l,m,i⟩ ⟨ha,hl,rfl,k,hk,rfl,h0,h1⟩
 have hk:k<=l.length:=hk
 have hl:l.length<=64:=hl
 have h0: -100000000<=n:=h0
 have h1:n<=1125899906842624*k:=h1
 by_cases h:k < l.length
 ·left
  have n1:nth xg l k=l[k]:=dP (t:=xg) h
  have hx:0<=l[k].2.1/\l[k].2.1<=1125899906842624:=ha _ (List.getElem_mem h)
  refine⟨(n+l[k].2.1,l,(l.length:Int),((k+1:Nat):Int)),⟨ha,hl,rfl,k+1,by omega,rfl,by omega,by omega⟩,by simp only[aa];omega,?_,λkn kx=> ?_⟩
  ·simp only[cT.L0.add,cT.L0.F,aa]
   rw[aA h,Be,qS]
  ·rw[cT.L0.step,bI (by omega),bF (by omega) (by omega),aa,n1,N.pJ (by omega),ff (by omega) (by omega)]
   simp only[ah]
 ·right
  obtain rfl:k=l.length:=by omega
  intro R kn kx
  rw[cT.L0.step,bp (by omega),ai]
  simp only[cT.L0.add,cT.L0.F,aa,bH,Be,lU]
theorem cT.ok:cT.Ok:=by
 rintro⟨l,bP⟩ ⟨hg,h0,h1⟩
 have h0:(0:Int)<=bP:=h0
 have h1:bP<=(1000:Int):=h1
 have hl:l.length<=64:=hg.1
 have hm:=BB (r:=bP) (w:=18+18*(l.length:Int)) (a:=1000) (b:=1170) h0 h1 (by omega) (by omega)
 have e0:R2 .i64 bP= -bP:=by unfold R2;rw[rb (by omega) (by omega)];omega
 have e1: -bP*(18+18*(l.length:Int))= -(bP*(18+18*(l.length:Int))):=Int.neg_mul _ _
 have e4: -100000000<= -bP*(18+18*(l.length:Int)):=by rw[e1];omega
 have e5: -bP*(18+18*(l.length:Int))<=1125899906842624*((0:Nat):Int):=by rw[e1];omega
 have e2:gJ .i64 (-bP) (18+18*(l.length:Int))= -bP*(18+18*(l.length:Int)):=nf (by rw[e1];omega) (by rw[e1];omega)
 have e3:er.call ((l.length:Nat):Int)=some (18+18*(l.length:Int)):=er.run (d:=((l.length:Nat):Int)) ⟨by show(0:Int)<=((l.length:Nat):Int);omega,by show((l.length:Nat):Int)<=1000;omega⟩
 rw[cT.eq,e3,ab,e0,e2]
 rw[cT.L0.run (d:=(-bP*(18+18*(l.length:Int)),l,(l.length:Int),0)) ⟨λx hx=>(hg.2 x hx).DD,hl,rfl,0,bm _,rfl,e4,e5⟩]
 simp only[ab,cT.L0.add,cT.L0.F,bK,aW,cT.add,cT.F,lP]
def cT.E:=Entry.dp [some (.slice xg),some ti] cT.st cT.aw cT.add cT.F cT.out
def cT.call:cT.D->Option cT.X:=cj cT.E cT.st
theorem cT.run:cl cT.call cT.aw cT.add cT.F:=dw (du [.d (.slice xg),.d ti] λ_=>by kernel_rfl)
def cT.sg:SG Tryz.prog:=⟨38,aP,cT.E,.fn 1 (by kernel_rfl) cT.ok (And.intro (.dp cT.L0.ok (by kernel_rfl)) trivial)⟩
abbrev kr.D:=Int×Int×iM×Int
def kr.st:kr.D->SA:=λ(i,kv,o0,o1)=>([.d ti i,.d tu kv,.ptr (.ew 0) 0 [] 0,.ptr (.ew 1) 0 [] 0],[.obj 0 false (.d jP o0),.obj 0 false (.d ti o1)])
abbrev kr.Y:=Bool×iM×Int
abbrev kr.X:=Bool×iM×Int
def kr.out:kr.X->aZ:=λx=>⟨.d .bool x.1,[.obj 0 false (.d jP x.2.1),.obj 0 false (.d ti x.2.2)],[]⟩
def kr.add:kr.D->kr.Y->kr.X:=λ(i,kv,o0,o1) y=>y
def kr.aw:kr.D->Prop:=λ(_,k,t,_)=>tZ t/\iw k
def kr.F:kr.D->kr.Y:=λ(i,k,t,_)=>(nX (pS t i 0 [k] 0).2 0,pS t i 0 [k] 0)
def kr.G:fD:=gz (P:=Tryz.prog) [cU.sg]
def kr.an:fT:= {Fo:=[⟨2,[.arr],jP⟩]}
def kr.A:= @dq Tryz.prog kr.G kr.an 0 Tryz.f74 _ kr.st
abbrev kr.Ok:=dr @kr.A kr.aw kr.add kr.F kr.out
theorem kr.eq{R:Type}(i:Int)(kv:Int)(o0:iM)(o1:Int)(k:aZ->Option R):kr.A (i,kv,o0,o1) k=
 aj (cU.call (o0,i,(0:Int),[kv],(0:Int))) λx1=>
 k (kr.out ((nX x1.2 (0:Int)),x1.1,x1.2)):=by kernel_rfl
theorem kr.ok:kr.Ok:=by
 rintro⟨i,k,t,e⟩ ⟨hv,hk⟩
 rw[kr.eq,cU.run (d:=(t,i,0,[k],0)) ⟨hv,λx hx=>by rw[aR]at hx;subst hx;exact hk,dD rfl⟩]
 rfl
def kr.E:=Entry.dp [some ti,some tu,none,none] kr.st kr.aw kr.add kr.F kr.out
def kr.call:kr.D->Option kr.X:=cj kr.E kr.st
theorem kr.run:cl kr.call kr.aw kr.add kr.F:=dw (du [.d ti,.d tu,.d jP,.d ti] λ_=>by kernel_rfl)
def kr.sg:SG Tryz.prog:=⟨74,aP,kr.E,.fn 0 (by kernel_rfl) kr.ok trivial⟩
abbrev bt.L0.D:=(List mI)×Lk×Int×(List mI)×Int×Int×(Int×Unit)×Nat×(Int×Unit)×(List kX)
def bt.L0.st:bt.L0.D->AS:=λ(lR,o9,n,t22,t23,t24,n6,DZ,n9,QH)=>⟨([.d (.slice xg) lR,.undef,.undef,.undef,.gE s7 o9,.undef,.ptr (.new 6 0) 0 [] 0,.undef,.d ti n,.ptr (.new 9 0) 0 [] 0]++bG 12 ([.d (.slice xg) t22,.d ti t23,.d ti t24]++bG 35 [])),[],(db 6 ([[.obj 0 false (.pr (.eV) (.pr (.eV) (.d (.pair ti .unit) n6)))],[],[],[.obj 0 false (.pr (.dh (.new 34 0) 0 [] 0 0 DZ) (.pr (.eV) (.d (.pair ti .unit) n9)))]]++db 24 ([[.obj 0 false (.vec 93 kj QH)]]++db 25 [])))⟩
abbrev bt.L0.Y0:=Nat×(List kX)
abbrev bt.L0.X0:=((List mI)×Lk×Int×(Int×Unit)×(Int×Unit))×(Nat×(List kX))
def bt.L0.bV:bt.L0.X0->Exit×AS:=λx=>(.exit 0,⟨([.d (.slice xg) x.1.1,.undef,.undef,.undef,.gE s7 x.1.2.1,.undef,.ptr (.new 6 0) 0 [] 0,.undef,.d ti x.1.2.2.1,.ptr (.new 9 0) 0 [] 0]++bG 50 []),[],(db 6 ([[.obj 0 false (.pr (.eV) (.pr (.eV) (.d (.pair ti .unit) x.1.2.2.2.1)))],[],[],[.obj 0 false (.pr (.dh (.new 34 0) 0 [] 0 0 x.2.1) (.pr (.eV) (.d (.pair ti .unit) x.1.2.2.2.2)))]]++db 24 ([[.obj 0 false (.vec 93 kj x.2.2)]]++db 25 [])))⟩)
abbrev bt.L0.X:=bt.L0.X0
abbrev bt.L0.Y:=bt.L0.Y0
def bt.L0.out:bt.L0.X->Out (Exit×AS):=λx=> .ok (bt.L0.bV x)
def bt.L0.add:bt.L0.D->bt.L0.Y->bt.L0.X:=λ(lR,o9,n,t22,t23,t24,n6,DZ,n9,QH) y=>((lR,o9,n,n6,n9),y)
abbrev bt.L1.D:=(List mI)×Int×Int×(Int×Unit)×iM×Int
def bt.L1.st:bt.L1.D->AS:=λ(t43,t44,t45,pU,o5,CK)=>⟨(bG 6 ([.ptr (.new 6 0) 0 [] 0,.undef,.undef,.ptr (.new 9 0) 0 [] 0,.undef,.undef,.ptr (.new 12 0) 0 [] 0,.fn 74 (.cons (.ptr (.new 9 0) 0 [] 0) (.cons (.ptr (.new 12 0) 0 [] 0) (.nil)))]++bG 29 ([.d (.slice xg) t43,.d ti t44,.d ti t45]++bG 14 []))),[],(db 6 ([[.obj 0 false (.pr (.eV) (.pr (.eV) (.d (.pair ti .unit) pU)))],[],[],[.obj 0 false (.d jP o5)],[],[],[.obj 0 false (.d ti CK)]]++db 47 []))⟩
abbrev bt.L1.Y0:=Int×(Int×Unit)
abbrev bt.L1.X0:=Int×(Int×Unit)
def bt.L1.bV:bt.L1.X0->Exit×AS:=λx=>(.ret,⟨(bG 6 ([.ptr (.new 6 0) 0 [] 0,.d ti x.1]++bG 52 [])),[],(db 6 ([[.obj 0 false (.pr (.eV) (.pr (.eV) (.d (.pair ti .unit) x.2)))]]++db 53 []))⟩)
abbrev bt.L1.Y1:=iM
abbrev bt.L1.X1:=((Int×Unit))×(iM)
def bt.L1.kI:bt.L1.X1->Exit×AS:=λx=>(.exit 2,⟨(bG 6 ([.ptr (.new 6 0) 0 [] 0,.undef,.undef,.ptr (.new 9 0) 0 [] 0]++bG 50 [])),[],(db 6 ([[.obj 0 false (.pr (.eV) (.pr (.eV) (.d (.pair ti .unit) x.1)))],[],[],[.obj 0 false (.d jP x.2)]]++db 50 []))⟩)
abbrev bt.L1.X:=(bt.L1.X0)⊕(bt.L1.X1)
abbrev bt.L1.Y:=(bt.L1.Y0)⊕(bt.L1.Y1)
def bt.L1.out:bt.L1.X->Out (Exit×AS):=λx=> .br x.isLeft (.get x.getLeft? λa=> .ok (bt.L1.bV a)) (.get x.getRight? λb=> .ok (bt.L1.kI b))
def bt.L1.add:bt.L1.D->bt.L1.Y->bt.L1.X:=λ(t43,t44,t45,pU,o5,CK) y=>match y with | .inl y=> .inl y | .inr z=> .inr ((pU,z))
abbrev bt.D:=(List mI)×Lk×Int
def bt.st:bt.D->SA:=λ(l,to,bP)=>([.d (.slice xg) l,.d s7 to,.d ti bP],[])
abbrev bt.Y:=iM×Int
abbrev bt.X:=iM×Int
def bt.out:bt.X->aZ:=λx=>⟨.cons (.d jP x.1) (.cons (.d ti x.2) (.nil)),[],[]⟩
def bt.add:bt.D->bt.Y->bt.X:=λ(l,to,bP) y=>y
def Cq(x:mI):kX:=(x.1,(((0:Int),(([]:List Sg),((0:Int),()))),()))
def bt.L0.aw:bt.L0.D->Prop:=λ(l,to,n,ps,m,i,z,L,z2,row)=>(ps).length<=1000000/\∃k:Nat,k<=(ps).length/\i=k/\m=(ps).length/\L=(row).length/\(row).length<=1000000+k
def bt.L0.F:bt.L0.D->bt.L0.Y:=λ(l,to,n,ps,m,i,z,L,z2,row)=>(L+(List.drop (Int.toNat i) ps).length,row++(List.drop (Int.toNat i) ps).map Cq)
def Q3:iM:=(([]:List kX),(([]:List kF),((0:Int),())))
def D8(l:List mI)(to:Lk)(n:Int):iM:=(l.map Cq,([(n,(to,()))],((0:Int),())))
def qB(t:iM):Nat->List mI->iM⊕Int
 |_,[]=> .inl t
 |i,x::l=>if(pS t i 0 [x.2.2.1] 0).2=0 then qB (pS t i 0 [x.2.2.1] 0).1 (i+1) l else .inr (pS t i 0 [x.2.2.1] 0).2
def ni(l:List mI)(to:Lk)(bP:Int):iM×Int:=
 if lP l bP < 1 then(Q3,8) else match qB (D8 l to (lP l bP)) 0 l with | .inl t=>(t,0) | .inr e=>(Q3,e)
def bt.L1.aw:bt.L1.D->Prop:=λ(l,m,i,z,t,e)=>tZ t/\(∀x∈l,iw x.2.2.1)/\l.length<=64/\m=l.length/\∃k:Nat,k<=l.length/\i=k
def bt.L1.F:bt.L1.D->bt.L1.Y:=λ(l,m,i,z,t,e)=>match qB t i.toNat (l.drop i.toNat) with | .inl t=> .inr t | .inr e=> .inl (e,(0,()))
def bt.aw:bt.D->Prop:=λ(l,to,bP)=>zr l/\ua to/\0<=bP/\bP<=1000
def bt.F:bt.D->bt.Y:=λ(l,to,bP)=>ni l to bP
def bt.G:fD:=gz (P:=Tryz.prog) [cT.sg,kr.sg]
def bt.L0.E:=cV.dp bt.L0.st bt.L0.aw bt.L0.add bt.L0.F bt.L0.out
def bt.L0.call:bt.L0.D->Option bt.L0.X:=eI bt.L0.E bt.L0.st
def bt.L1.E:=cV.dp bt.L1.st bt.L1.aw bt.L1.add bt.L1.F bt.L1.out
def bt.L1.call:bt.L1.D->Option bt.L1.X:=eI bt.L1.E bt.L1.st
def bt.an:fT:= {loops:=oF [(6,{bS:=[0,4,6,8,9,22,23,24],sites:=[6,9,34],nB:=[⟨9,[.fst],34,59⟩]}),(14,{bS:=[6,9,12,13,43,44,45],sites:=[6,9,12],Fo:=[⟨9,[.arr],jP⟩]})],outs:=oE [(6,{bS:=[0,4,6,8,9],sites:=[6,9,34]},{bS:=[6,7]}),(14,{bS:=[6,9],sites:=[6,9]},{bS:=[6,7],sites:=[6]})],jw:=pL [(6,bt.L0.E),(14,bt.L1.E)],res:=[some jP,none]}
def bt.A:= @dq Tryz.prog bt.G bt.an 0 Tryz.f32 _ bt.st
abbrev bt.Ok:=dr @bt.A bt.aw bt.add bt.F bt.out
def bt.L0.R:= @dn Tryz.prog bt.G bt.an 0 Tryz.f32 0 _ bt.L0.st
abbrev bt.L0.Ok:=gw Tryz.prog bt.G bt.an 0 Tryz.f32 0 bt.L0.st bt.L0.aw bt.L0.add bt.L0.F bt.L0.out
def bt.L1.R:= @dn Tryz.prog bt.G bt.an 0 Tryz.f32 1 _ bt.L1.st
abbrev bt.L1.Ok:=gw Tryz.prog bt.G bt.an 0 Tryz.f32 1 bt.L1.st bt.L1.aw bt.L1.add bt.L1.F bt.L1.out
theorem bt.L0.run:cl bt.L0.call bt.L0.aw bt.L0.add bt.L0.F:=gT (gS [.d (.slice xg),.d s7,.d ti,.d (.slice xg),.d ti,.d ti,.d (.pair ti .unit),.n,.d (.pair ti .unit),.d (.slice kj)] λ_=>by kernel_rfl)
theorem bt.L0.aI:jk @bt.L0.R bt.L0.st bt.L0.aw bt.L0.add bt.L0.F bt.L0.bV bt.L0.Ok:=jm
theorem bt.L0.step{R:Type}(lR:(List mI))(o9:Lk)(n:Int)(t22:(List mI))(t23:Int)(t24:Int)(n6:(Int×Unit))(DZ:Nat)(n9:(Int×Unit))(QH:(List kX))(kn:AS->Option R)(kx:Exit->AS->Option R):bt.L0.R (lR,o9,n,t22,t23,t24,n6,DZ,n9,QH) kn kx=
  aJ ((jK t24 t23)) (
   aJ (fp t24 (((List.length t22):Nat):Int)) (
   aJ (decide (DZ<=(List.length QH))) (
   aJ (fk (DZ+1) 80) (
   kn (bt.L0.st (lR,o9,n,t22,t23,(bO .i64 t24 (1:Int)),n6,(DZ+1),n9,((List.take DZ QH)++ [((nth xg t22 (Int.toNat t24)).1,(((0:Int),(([]:List Sg),((0:Int),()))),()))])))) none) none) none) (
   kx (bt.L0.bV ((lR,o9,n,n6,n9),(DZ,QH))).1 (bt.L0.bV ((lR,o9,n,n6,n9),(DZ,QH))).2):=by kernel_rfl
theorem bt.L1.run:cl bt.L1.call bt.L1.aw bt.L1.add bt.L1.F:=gT (gS [.d (.slice xg),.d ti,.d ti,.d (.pair ti .unit),.d jP,.d ti] λ_=>by kernel_rfl)
theorem bt.L1.aI:sB @bt.L1.R bt.L1.st bt.L1.aw bt.L1.add bt.L1.F bt.L1.out bt.L1.Ok:=s8
theorem bt.L1.step{R:Type}(t43:(List mI))(t44:Int)(t45:Int)(pU:(Int×Unit))(o5:iM)(CK:Int)(kn:AS->Option R)(kx:Exit->AS->Option R):bt.L1.R (t43,t44,t45,pU,o5,CK) kn kx=
  aJ ((jK t45 t44)) (
   aJ (fp t45 (((List.length t43):Nat):Int)) (
   aj (kr.call (t45,(nth xg t43 (Int.toNat t45)).2.2.1,o5,CK)) λx1=>
   aJ ((!x1.1)) (
    kx (bt.L1.bV (x1.2.2,((0:Int),()))).1 (bt.L1.bV (x1.2.2,((0:Int),()))).2) (
    kn (bt.L1.st (t43,t44,(bO .i64 t45 (1:Int)),pU,x1.2.1,x1.2.2)))) none) (
   kx (bt.L1.kI (pU,o5)).1 (bt.L1.kI (pU,o5)).2):=by kernel_rfl
theorem bt.eq{R:Type}(l:(List mI))(to:Lk)(bP:Int)(k:aZ->Option R):bt.A (l,to,bP) k=
  aj (cT.call (l,bP)) λx1=>
  aJ ((jK x1 (1:Int))) (
   k (bt.out ((([]:List kX),(([]:List kF),((0:Int),()))),(8:Int)))) (
   aj (bt.L0.call (l,to,x1,l,(((List.length l):Nat):Int),(0:Int),((0:Int),()),0,((0:Int),()),([]:List kX))) λx2=>
   aJ (decide (0=0/\(0+x2.2.1)<=(List.length x2.2.2))) (
   aj (bt.L1.call (x2.1.1,(((List.length x2.1.1):Nat):Int),(0:Int),x2.1.2.2.2.1,((cut x2.2.2 0 x2.2.1),([(x2.1.2.2.1,(x2.1.2.1,()))],x2.1.2.2.2.2)),(0:Int))) λx4=>
   aJ (x4.isLeft) (
    aj (x4.getLeft?) λa5=>
    k (bt.out ((([]:List kX),(([]:List kF),a5.2)),a5.1))) (
    aj (x4.getRight?) λb6=>
    k (bt.out (b6.2,(0:Int))))) none):=by kernel_rfl
theorem bt.L0.ok:bt.L0.Ok:=by
 refine bt.L0.aI (λ(l,to,n,ps,m,i,z,L,z2,row)=>(ps).length - Int.toNat i) ?_
 rintro⟨l,to,n,ps,m,i,z,L,z2,row⟩ ⟨hlen,k,hk,rfl,rfl,rfl,my⟩
 have hlen:(ps).length<=1000000:=hlen
 have hk:k<=(ps).length:=hk
 have my:(row).length<=1000000+k:=my
 by_cases h:k < (ps).length
 ·left
  have n1:nth xg ps k=ps[k]:=dP (t:=xg) h
  have hd:List.drop k ps=ps[k]::List.drop (k+1) ps:=aA h
  refine⟨(l,to,n,ps,((ps).length:Int),((k+1:Nat):Int),z,(row).length+1,z2,row++ [Cq ps[k]]),⟨hlen,k+1,by omega,rfl,rfl,by rw[ae];rfl,by rw[ae];show(row).length+1<=_;omega⟩,by simp only[aa];omega,?_,λkn kx=> ?_⟩
  ·simp only[bt.L0.add,bt.L0.F,aa,hd,cG,aN,bR,eS]
   rw[show ∀a c:Nat,a+1+c=a+(c+1) from λa c=>by omega]
  ·rw[bt.L0.step,bI (by omega),bF (show(0:Int)<=(k:Int) by omega) (by omega),aa,n1]
   simp only[ah]
   rw[aO (aC _),fV (by omega) (by omega),N.pJ (by omega),cz]
   rfl
 ·right
  obtain rfl:k=(ps).length:=by omega
  intro R kn kx
  rw[bt.L0.step,bp (by omega),ai]
  simp only[bt.L0.add,bt.L0.F,aa,bH,jg,dg,bJ,dE]
theorem KI{t:iM}{i br sc:Int}{ks:List Int}(hv:tZ t)(hs:iw sc)(h:(pS t i br ks sc).2=0):tZ (pS t i br ks sc).1/\sR t i br ks=true:=by
 rw[zd]at h ⊢
 by_cases e:sR t i br ks=true
 ·rw[if_pos e]
  exact⟨(Db hv e hs).2.1,e⟩
 ·rw[if_neg e]at h
  exact absurd h (by decide)
theorem bt.L1.ok:bt.L1.Ok:=by
 refine bt.L1.aI (λ(l,m,i,z,t,e)=>l.length - i.toNat) ?_
 rintro⟨l,m,i,z,t,e⟩ ⟨hv,hu,hl,rfl,k,hk,rfl⟩
 have hk:k<=l.length:=hk
 have hl:l.length<=64:=hl
 by_cases h:k < l.length
 ·have n1:nth xg l k=l[k]:=dP (t:=xg) h
  have hx:iw l[k].2.2.1:=hu _ (List.getElem_mem h)
  have hd:qB t k (l.drop k)=if(pS t k 0 [l[k].2.2.1] 0).2=0 then qB (pS t k 0 [l[k].2.2.1] 0).1 (k+1) (l.drop (k+1)) else .inr (pS t k 0 [l[k].2.2.1] 0).2:=by rw[aA h,qB]
  have c1:kr.call ((k:Int),l[k].2.2.1,t,e)=some (nX (pS t k 0 [l[k].2.2.1] 0).2 0,pS t k 0 [l[k].2.2.1] 0):=kr.run (d:=((k:Int),l[k].2.2.1,t,e)) ⟨hv,hx⟩
  have Cn:(pS t k 0 [l[k].2.2.1] 0).2=0->tZ (pS t k 0 [l[k].2.2.1] 0).1:=λhz=>(KI hv vh hz).1
  generalize pS t k 0 [l[k].2.2.1] 0=r at hd c1 Cn
  have step:∀ {R:Type} (kn:AS->Option R) (kx:Exit->AS->Option R),bt.L1.R (l,(l.length:Int),(k:Int),z,t,e) kn kx=aJ (!nX r.2 0) (kx (bt.L1.bV (r.2,((0:Int),()))).1 (bt.L1.bV (r.2,((0:Int),()))).2) (kn (bt.L1.st (l,(l.length:Int),((k+1:Nat):Int),z,r.1,r.2))):=by
   intro R kn kx
   rw[bt.L1.step,bI (by omega),ah,bF (by omega) (by omega),ah,aa,n1,c1,ab,N.pJ (by omega)]
  by_cases hz:r.2=0
  ·left
   refine⟨(l,(l.length:Int),((k+1:Nat):Int),z,r.1,r.2),⟨Cn hz,hu,hl,rfl,k+1,by omega,rfl⟩,by simp only[aa];omega,?_,λkn kx=> ?_⟩
   ·simp only[bt.L1.add,bt.L1.F,aa,hd,if_pos hz]
   ·rw[step,iE hz,bY,ai]
  ·right
   refine⟨bt.L1.bV (r.2,((0:Int),())),?_,λkn kx=> ?_⟩
   ·simp only[bt.L1.add,bt.L1.F,aa,hd,if_neg hz]
    rfl
   ·rw[step,fJ hz,gk,ah]
 ·right
  obtain rfl:k=l.length:=by omega
  refine⟨bt.L1.kI (z,t),?_,λkn kx=> ?_⟩
  ·simp only[bt.L1.add,bt.L1.F,aa,bH,qB]
   rfl
  ·rw[bt.L1.step,bp (by omega),ai]
theorem JH{l:List mI}{to:Lk}{n:Int}(hg:zr l)(rV:ua to):tZ (D8 l to n):=by
 refine⟨⟨λo ho=> ?_,by show(l.map Cq).length<=_;rw[b8];have:=hg.1;omega,by show 1<=_;decide⟩,λx hx=> ?_,by show(0:Int)<=_;decide⟩
 ·have ho:o∈ [(n,(to,()))]:=ho
  rw[aR]at ho
  subst ho
  exact rV
 ·obtain⟨y,hy,rfl⟩:=eb.1 (show x∈l.map Cq from hx)
  exact⟨(hg.2 y hy).id,⟨λs hs=>(by cases hs),vh⟩,bm _⟩
theorem bt.ok:bt.Ok:=by
 rintro⟨l,to,bP⟩ ⟨hg,rV,h0,h1⟩
 have hl:l.length<=64:=hg.1
 have e0:cT.call (l,bP)=some (lP l bP):=cT.run (d:=(l,bP)) ⟨hg,h0,h1⟩
 have hv:=JH (n:=lP l bP) hg rV
 have ea:∀d y,bt.add d y=y:=λ_ _=>rfl
 have eF:bt.F (l,to,bP)=ni l to bP:=rfl
 rw[bt.eq,e0,ab,ea,eF]
 unfold ni
 generalize lP l bP=n at hv
 by_cases hn:n < 1
 ·rw[bI hn,ah,if_pos hn]
  rfl
 rw[bp hn,ai,if_neg hn,bt.L0.run (d:=(l,to,n,l,(l.length:Int),0,(0,()),0,(0,()),[])) ⟨by show l.length<=1000000;omega,0,bm _,rfl,rfl,rfl,bm _⟩]
 simp only[ab,bt.L0.add,bt.L0.F,bK,aW,bu,bl]
 rw[aO ⟨trivial,by rw[b8];exact aC _⟩,ah,iV (b8 ..)]
 have e1:=bt.L1.run (d:=(l,(l.length:Int),0,(0,()),D8 l to n,0)) ⟨hv,λx hx=>(hg.2 x hx).key,hl,rfl,0,bm _,rfl⟩
 unfold D8 at e1 ⊢
 rw[e1]
 simp only[ab,bt.L1.add,bt.L1.F,bK,aW]
 generalize qB _ 0 l=r
 cases r with
 |inl t=>rfl
 |inr e=>rfl
def bt.E:=Entry.dp [some (.slice xg),some s7,some ti] bt.st bt.aw bt.add bt.F bt.out
def bt.call:bt.D->Option bt.X:=cj bt.E bt.st
theorem bt.run:cl bt.call bt.aw bt.add bt.F:=dw (du [.d (.slice xg),.d s7,.d ti] λ_=>by kernel_rfl)
def bt.sg:SG Tryz.prog:=⟨32,aP,bt.E,.fn 2 (by kernel_rfl) bt.ok (And.intro (.dp bt.L0.ok (by kernel_rfl)) (And.intro (.dp bt.L1.ok (by kernel_rfl)) trivial))⟩
end
end Go.Ab
namespace Go.Ab
open Go.Proofs
noncomputable section
theorem CW:∀(s:Int) (l:List kF),qm s l=true->∀o∈l,0<=o.1/\o.1<=1125899906842624
 |_,[],_,o,h=>by cases h
 |s,x::l,h,o,ho=>by
  rw[qm,ak,ak]at h
  rcases cH.1 ho with rfl | ho
  ·have:=h.1.1
   unfold ud tG at this
   simp only[ak,decide_eq_true_eq]at this
   exact this.2.1
  ·exact CW _ l h.2 o ho
theorem E3{t:iM}(h:jQ t=true):t.2.1.length<=64/\∀o∈t.2.1,0<=o.1/\o.1<=1125899906842624:=by
 unfold jQ yh at h
 simp only[ak,decide_eq_true_eq]at h
 exact⟨h.1.2.2.1,CW _ _ h.2.2⟩
theorem ur{id:List Int}{k n:Nat}{o:ir}(h:o∈nE id k n):o.1=id:=by
 unfold nE at h
 obtain⟨i,_,rfl⟩:=eb.1 h
 rfl
theorem HN{c:Ax}{rev pay:Int}(h1:iw rev)(h2:iw pay):zr (tr c rev pay):=by
 unfold tr
 by_cases jV:jQ c.1=true
 ·obtain⟨hl,ha⟩:=E3 jV
  refine⟨oo (KM ..) (oo (Hn _) hl),λy hy=> ?_⟩
  obtain⟨o,ho,x,hx,r,hr,_,rfl⟩:=BK _ _ _ _ _ _ hy
  refine⟨?_,ha x hx,?_⟩
  ·unfold gq at ho
   rw[if_pos jV]at ho
   show Sm o.1
   rw[ur ho]
   exact Dq
  ·show iw (if r.1=2 then pay else rev)
   split
   ·exact h2
   ·exact h1
 ·have e:gq c.1=[]:=by unfold gq;rw[if_neg jV]
  rw[e]
  exact⟨bm _,λy hy=>by simp[Ba]at hy⟩
theorem w7{l:List mF}{x:mF}:x∈lf l↔x∈l:=(mf l).mem_iff
theorem PX{ch:iN}{s:jl}{own per:Int}(fI:ns ch)(hu:uE s)(ho:own=0\/own=1)(hp:iw per):∀m∈ng ch s own per,ua m.1.2.1:=by
 have hp':1 - own=0\/1 - own=1:=by omega
 have b0:=fI.ba ho
 have b1:=fI.ba hp'
 intro m hm
 unfold ng at hm
 simp only[cf]at hm
 rcases hm with hm | hm | hm | hm
 ·split at hm
  ·rw[aR]at hm;subst hm
   exact Hh (rR _) (rR _)
  ·cases hm
 ·split at hm
  ·rw[aR]at hm;subst hm
   exact Bx b1.2.1.1
  ·cases hm
 ·rcases cH.1 hm with rfl | hm
  ·exact uW b0.1.1
  ·rw[aR]at hm;subst hm
   exact uW b1.1.1
 ·obtain⟨c,hc,rfl⟩:=eb.1 hm
  have hq:=hu.1 c (jG.1 hc).1
  unfold oC
  split
  ·exact Qy (rR _) (rR _) (rR _) hq
  ·exact Qz (rR _) (rR _) (rR _) hq
theorem HY{ch:iN}{s:jl}{own per:Int}(hl:s.2.2.1.length<=16):(ng ch s own per).length<=20:=by
 unfold ng
 have h3:(jb s.2.2.1).length<=16:=oo (nu _ _) hl
 simp only[ae,b8]
 have h1:(if D7 (jF ch s own)=true then [Gp (jF ch s own) (AH (wb (nW ch own).2.2.1 per) (vc (nW ch (1 - own)).2.2.2.2.1 per) (xv ch (1 - own))) ((1:Int),(OV,()))] else []).length<=1:=by split <;> simp
 have h2:(if D7 (jF ch s (1 - own))=true then [Gp (jF ch s (1 - own)) (vD [(nW ch (1 - own)).2.1]) ((2:Int),(OV,()))] else []).length<=1:=by split <;> simp
 simp only[aN,bJ]
 omega
theorem ns.Pc{ch:iN}(h:ns ch):ch.1=(List.replicate 32 0,(0,())):=by
 obtain⟨a,b0,b1,o,rfl,_⟩:=h
 rfl
theorem Y3:Sm (List.replicate 32 0):=⟨eo,λx hx=>by rw[(pk.1 hx).2];exact⟨by decide,by decide⟩⟩
theorem qH{ch:iN}{s:jl}{own per:Int}(fI:ns ch)(hu:uE s)(hs:xi ch s)(ho:own=0\/own=1)(hp:iw per):tZ (bZ ch s own per).1/\(bZ ch s own per).1.2.1.length=(bZ ch s own per).2.1.length/\(bZ ch s own per).1.2.1.length<=20:=by
 have hl:=HY (ch:=ch) (own:=own) (per:=per) hs.len
 have hk:=PX fI hu ho hp
 have RT:=hs.no
 have hle:=(mf (ng ch s own per)).length_eq
 unfold bZ ofRow
 refine⟨⟨⟨λo hm=> ?_,by show 1<=_;decide,by show(List.map _ _).length<=_;rw[b8];omega⟩,λx hx=> ?_,by show 2*s.1+own<=_;omega⟩,by show(List.map _ _).length=(List.map _ _).length;rw[b8,b8],by show(List.map _ _).length<=_;rw[b8];omega⟩
 ·obtain⟨m,hm',rfl⟩:=eb.1 hm
  exact hk m (w7.1 hm')
 ·have hx:x∈ [(ch.1,(((0:Int),(([]:List Sg),((0:Int),()))),()))]:=hx
  rw[aR]at hx
  subst hx
  refine⟨?_,⟨λs hs=>(by cases hs),vh⟩,bm _⟩
  show Sm ch.1.1
  rw[fI.Pc]
  exact Y3
theorem Ho{ch:iN}{s:jl}{own per:Int}(h:(oG ch s own per).2=0):(own=0\/own=1)/\oS per=true/\xi ch s/\oG ch s own per=(bZ ch s own per,0):=by
 unfold oG at h ⊢
 split at h
 ·next e=>
  rw[ak,decide_eq_true_eq]at e
  split at h
  ·next e2=>exact⟨e.1,e.2,sT.1 e2,by rw[if_pos (by rw[ak,decide_eq_true_eq];exact e),if_pos e2]⟩
  ·exact absurd h (by decide)
 ·exact absurd h (by decide)
theorem bn.c{ch:iN}{s:jl}{own per:Int}(fI:ns ch)(hu:uE s)(hp:iw per):bn.call (ch,s,own,per)=some (oG ch s own per):=by
 have ea:∀d y,bn.add d y=y:=λ_ _=>rfl
 have eF:bn.F (ch,s,own,per)=oG ch s own per:=rfl
 rw[bn.run (d:=(ch,s,own,per)) ⟨fI,hu,hp⟩,ea,eF]
theorem iS.c{c:Ax}{rev pay:Int}(h:tZ c.1)(h2:c.1.2.1.length=c.2.1.length)(h3:c.1.2.1.length<=1000):iS.call (c,rev,pay)=some (tr c rev pay):=by
 have ea:∀d y,iS.add d y=y:=λ_ _=>rfl
 have eF:iS.F (c,rev,pay)=tr c rev pay:=rfl
 rw[iS.run (d:=(c,rev,pay)) ⟨h,h2,h3⟩,ea,eF]
theorem cT.c{l:List mI}{bP:Int}(h:zr l)(h0:0<=bP/\bP<=1000):cT.call (l,bP)=some (lP l bP):=cT.run (d:=(l,bP)) ⟨h,h0.1,h0.2⟩
theorem bt.c{l:List mI}{to:Lk}{bP:Int}(h:zr l)(ht:ua to)(h0:0<=bP/\bP<=1000):bt.call (l,to,bP)=some (ni l to bP):=by
 have ea:∀d y,bt.add d y=y:=λ_ _=>rfl
 have eF:bt.F (l,to,bP)=ni l to bP:=rfl
 rw[bt.run (d:=(l,to,bP)) ⟨h,ht,h0.1,h0.2⟩,ea,eF]
def CH(ch:iN)(kit:pI)(me:Int)(to:Lk)(bP:Int):Bool:=qA me 0 1 && (qA bP 0 1000 && (kW to && Ty.beq qt (uJ kit) (nW ch me)))
def kV(ch:iN)(kit:pI)(me:Int)(ew:jl)(secret:List Int)(to:Lk)(bP:Int):List mI×Int:=
 if CH ch kit me to bP=true then
  (if(oG ch ew (1 - me) (l7 secret)).2=0 then(tr (oG ch ew (1 - me) (l7 secret)).1 (sx kit.2.2.2.2.1 secret) kit.2.1,0) else([],(oG ch ew (1 - me) (l7 secret)).2))
 else([],1)
theorem N9(b:Int)(s:List Int):iw (sx b s):=(yp _ _).u
theorem GW{ch:iN}{kit:pI}{me:Int}{ew:jl}{secret:List Int}{to:Lk}{bP:Int}(hk:Fa kit):zr (kV ch kit me ew secret to bP).1:=by
 unfold kV
 split
 ·split
  ·exact HN (N9 _ _) hk.2.1
  ·exact⟨bm _,λy hy=>(by cases hy)⟩
 ·exact⟨bm _,λy hy=>(by cases hy)⟩
theorem Ca{ch:iN}{kit:pI}{me:Int}{ew:jl}{secret:List Int}{to:Lk}{bP:Int}(h:(kV ch kit me ew secret to bP).2=0):CH ch kit me to bP=true/\(oG ch ew (1 - me) (l7 secret)).2=0/\(kV ch kit me ew secret to bP).1=tr (oG ch ew (1 - me) (l7 secret)).1 (sx kit.2.2.2.2.1 secret) kit.2.1:=by
 unfold kV at h ⊢
 split at h
 ·next e=>
  split at h
  ·next e2=>exact⟨e,e2,by rw[if_pos e,if_pos e2]⟩
  ·next e2=>exact absurd h e2
 ·exact absurd h (by decide)
abbrev dY.D:=iN×pI×Int×jl×Bs×Lk×Int
def dY.st:dY.D->SA:=λ(ch,kit,me,ew,secret,to,bP)=>([.d nb ch,.d rZ kit,.d ti me,.d mC ew,.d tH secret,.d s7 to,.d ti bP],[])
abbrev dY.Y:=(List mI)×Int
abbrev dY.X:=(List mI)×Int
def dY.out:dY.X->aZ:=λx=>⟨.cons (.d (.slice xg) x.1) (.cons (.d ti x.2) (.nil)),[],[]⟩
def dY.add:dY.D->dY.Y->dY.X:=λ(ch,kit,me,ew,secret,to,bP) y=>y
def dY.aw:dY.D->Prop:=λ(ch,kit,me,ew,secret,to,bP)=>ns ch/\Fa kit/\uE ew/\Sm secret/\ua to
def dY.F:dY.D->dY.Y:=λ(ch,kit,me,ew,secret,to,bP)=>kV ch kit me ew secret to bP
def dY.G:fD:=gz (P:=Tryz.prog) [bk.sg,eu.sg,eU.sg,bn.sg,dJ.sg,iS.sg]
def dY.an:fT:= {res:=[some (.slice xg),none]}
def dY.A:= @dq Tryz.prog dY.G dY.an 0 Tryz.f31 _ dY.st
abbrev dY.Ok:=dr @dY.A dY.aw dY.add dY.F dY.out
theorem dY.eq{R:Type}(ch:iN)(kit:pI)(me:Int)(ew:jl)(secret:Bs)(to:Lk)(bP:Int)(k:aZ->Option R):dY.A (ch,kit,me,ew,secret,to,bP) k=
  aJ ((jK me (0:Int))) (
   k (dY.out (([]:List mI),(1:Int)))) (
   aJ ((so me (1:Int))) (
    k (dY.out (([]:List mI),(1:Int)))) (
    aJ ((jK bP (0:Int))) (
     k (dY.out (([]:List mI),(1:Int)))) (
     aJ ((so bP (1000:Int))) (
      k (dY.out (([]:List mI),(1:Int)))) (
      aj (bk.call to) λx1=>
      aJ ((!x1)) (
       k (dY.out (([]:List mI),(1:Int)))) (
       aj (eu.call kit) λx2=>
       aJ (fp me (2:Int)) (
       aJ ((!(Ty.beq qt x2 (nth qt ch.2.2.1 (Int.toNat me))))) (
        k (dY.out (([]:List mI),(1:Int)))) (
        aj (eU.call secret) λx3=>
        aj (bn.call (ch,ew,(cY .i64 (1:Int) me),x3)) λx4=>
        aJ ((rN x4.2 (0:Int))) (
         k (dY.out (([]:List mI),x4.2))) (
         aj (dJ.call (kit.2.2.2.2.1,secret)) λx5=>
         aj (iS.call (x4.1,x5,kit.2.1)) λx6=>
         k (dY.out (x6,(0:Int)))))) none))))):=by kernel_rfl
theorem dY.ok:dY.Ok:=by
 rintro⟨ch,kit,me,ew,secret,to,bP⟩ ⟨fI,hk,hu,hs,ht⟩
 have fI:ns ch:=fI
 have hk:Fa kit:=hk
 have hu:uE ew:=hu
 have hs:Sm secret:=hs
 have ht:ua to:=ht
 have ea:∀d y,dY.add d y=y:=λ_ _=>rfl
 have eF:dY.F (ch,kit,me,ew,secret,to,bP)=kV ch kit me ew secret to bP:=rfl
 rw[dY.eq,ea,eF]
 unfold kV CH
 by_cases h1:me < 0
 ·rw[bI h1,ah,pc (by omega)];rfl
 by_cases h2:me > 1
 ·rw[bp h1,ai,fA h2,ah,pc (by omega)];rfl
 have Yo:me=0\/me=1:=by omega
 rw[bp h1,ai,dW h2,ai,la (by omega) (by omega),cv]
 by_cases h3:bP < 0
 ·rw[bI h3,ah,pc (by omega)];rfl
 by_cases h4:bP > 1000
 ·rw[bp h3,ai,fA h4,ah,pc (by omega)];rfl
 rw[bp h3,ai,dW h4,ai,la (by omega) (by omega),cv]
 have c1:bk.call to=some (kW to):=bk.run (d:=to) ⟨ht.1,ht.2⟩
 have c2:eu.call kit=some (uJ kit):=eu.run (d:=kit) hk
 rw[c1,ab]
 cases h5:kW to
 ·rfl
 rw[bY,ai,cv,c2,ab,bF (by omega) (by omega),ah]
 rw[show nth qt ch.2.2.1 (Int.toNat me)=nW ch me from rfl]
 cases h6:Ty.beq qt (uJ kit) (nW ch me)
 ·rfl
 rw[bY,ai,if_pos rfl,eU.c hs,ab,JD (by omega)]
 have hp:iw (l7 secret):=uK _
 have c3:=bn.c (own:=1 - me) fI hu hp
 have ON:=Ho (ch:=ch) (s:=ew) (own:=1 - me) (per:=l7 secret)
 generalize l7 secret=per at c3 ON hp
 rw[c3,ab]
 by_cases h7:(oG ch ew (1 - me) per).2=0
 ·obtain⟨q1,q2,q3,q4⟩:=ON h7
  have hv:=qH fI hu q3 q1 hp
  rw[q4]
  rw[gK rfl,ai,dJ.c hk.2.2.2.2 hs,ab,iS.c hv.1 hv.2.1 (by have:=hv.2.2;omega),ab,if_pos rfl]
 ·rw[kN h7,ah,if_neg h7]
def dY.E:=Entry.dp [some nb,some rZ,some ti,some mC,some tH,some s7,some ti] dY.st dY.aw dY.add dY.F dY.out
def dY.call:dY.D->Option dY.X:=cj dY.E dY.st
theorem dY.run:cl dY.call dY.aw dY.add dY.F:=dw (du [.d nb,.d rZ,.d ti,.d mC,.d tB,.d s7,.d ti] λ_=>by kernel_rfl)
def dY.sg:SG Tryz.prog:=⟨31,aP,dY.E,.fn 0 (by kernel_rfl) dY.ok trivial⟩
theorem dY.c{ch:iN}{kit:pI}{me:Int}{ew:jl}{secret:List Int}{to:Lk}{bP:Int}(fI:ns ch)(hk:Fa kit)(hu:uE ew)(hs:Sm secret)(ht:ua to):dY.call (ch,kit,me,ew,secret,to,bP)=some (kV ch kit me ew secret to bP):=by
 have ea:∀d y,dY.add d y=y:=λ_ _=>rfl
 have eF:dY.F (ch,kit,me,ew,secret,to,bP)=kV ch kit me ew secret to bP:=rfl
 rw[dY.run (d:=(ch,kit,me,ew,secret,to,bP)) ⟨fI,hk,hu,hs,ht⟩,ea,eF]
def xp(ch:iN)(kit:pI)(me:Int)(ew:jl)(secret:List Int)(to:Lk)(bP:Int):iM×Int:=
 if(kV ch kit me ew secret to bP).2=0 then ni (kV ch kit me ew secret to bP).1 to bP else(Q3,(kV ch kit me ew secret to bP).2)
def oD(to:Lk)(bP:Int):List mI->List iM
 |[]=> []
 |x::l=>(if(ni [x] to bP).2=0 then [(ni [x] to bP).1] else [])++oD to bP l
def AA(ch:iN)(kit:pI)(me:Int)(ew:jl)(secret:List Int)(to:Lk)(bP:Int):List iM×Int:=
 if(kV ch kit me ew secret to bP).2=0 then(oD to bP (kV ch kit me ew secret to bP).1,0) else([],(kV ch kit me ew secret to bP).2)
def Ce(ch:iN)(me:Int)(ew:jl)(bP:Int):Int:=
 if(qA me 0 1 && qA bP 0 1000)=true then(if(oG ch ew (1 - me) 4).2=0 then imax 0 (lP (tr (oG ch ew (1 - me) 4).1 0 0) bP) else 0) else 0
theorem EH{ch:iN}{kit:pI}{me:Int}{to:Lk}{bP:Int}(h:CH ch kit me to bP=true):(0<=me/\me<=1)/\(0<=bP/\bP<=1000)/\kW to=true/\Ty.beq qt (uJ kit) (nW ch me)=true:=by
 unfold CH at h
 simp only[ak,sq]at h
 exact h
abbrev fx.D:=iN×pI×Int×jl×Bs×Lk×Int
def fx.st:fx.D->SA:=λ(ch,kit,me,ew,secret,to,bP)=>([.d nb ch,.d rZ kit,.d ti me,.d mC ew,.d tH secret,.d s7 to,.d ti bP],[])
abbrev fx.Y:=iM×Int
abbrev fx.X:=iM×Int
def fx.out:fx.X->aZ:=λx=>⟨.cons (.d jP x.1) (.cons (.d ti x.2) (.nil)),[],[]⟩
def fx.add:fx.D->fx.Y->fx.X:=λ(ch,kit,me,ew,secret,to,bP) y=>y
def fx.aw:fx.D->Prop:=λ(ch,kit,me,ew,secret,to,bP)=>ns ch/\Fa kit/\uE ew/\Sm secret/\ua to
def fx.F:fx.D->fx.Y:=λ(ch,kit,me,ew,secret,to,bP)=>xp ch kit me ew secret to bP
def fx.G:fD:=gz (P:=Tryz.prog) [dY.sg,bt.sg]
def fx.an:fT:= {res:=[some jP,none]}
def fx.A:= @dq Tryz.prog fx.G fx.an 0 Tryz.f9 _ fx.st
abbrev fx.Ok:=dr @fx.A fx.aw fx.add fx.F fx.out
theorem fx.eq{R:Type}(ch:iN)(kit:pI)(me:Int)(ew:jl)(secret:Bs)(to:Lk)(bP:Int)(k:aZ->Option R):fx.A (ch,kit,me,ew,secret,to,bP) k=
  aj (dY.call (ch,kit,me,ew,secret,to,bP)) λx1=>
  aJ ((rN x1.2 (0:Int))) (
   k (fx.out ((([]:List kX),(([]:List kF),((0:Int),()))),x1.2))) (
   aj (bt.call (x1.1,to,bP)) λx2=>
   k (fx.out (x2.1,x2.2))):=by kernel_rfl
theorem fx.ok:fx.Ok:=by
 rintro⟨ch,kit,me,ew,secret,to,bP⟩ ⟨fI,hk,hu,hs,ht⟩
 have hk:Fa kit:=hk
 have ht:ua to:=ht
 have ea:∀d y,fx.add d y=y:=λ_ _=>rfl
 have eF:fx.F (ch,kit,me,ew,secret,to,bP)=xp ch kit me ew secret to bP:=rfl
 rw[fx.eq,ea,eF,dY.c fI hk hu hs ht,ab]
 unfold xp
 have hg:=GW (ch:=ch) (me:=me) (ew:=ew) (secret:=secret) (to:=to) (bP:=bP) hk
 have hm:=Ca (ch:=ch) (kit:=kit) (me:=me) (ew:=ew) (secret:=secret) (to:=to) (bP:=bP)
 generalize kV ch kit me ew secret to bP=r at hg hm
 by_cases h:r.2=0
 ·rw[gK h,ai,if_pos h,bt.c hg ht (EH (hm h).1).2.1,ab]
 ·rw[kN h,ah,if_neg h]
  rfl
def fx.E:=Entry.dp [some nb,some rZ,some ti,some mC,some tH,some s7,some ti] fx.st fx.aw fx.add fx.F fx.out
def fx.call:fx.D->Option fx.X:=cj fx.E fx.st
theorem fx.run:cl fx.call fx.aw fx.add fx.F:=dw (du [.d nb,.d rZ,.d ti,.d mC,.d tB,.d s7,.d ti] λ_=>by kernel_rfl)
def fx.sg:SG Tryz.prog:=⟨9,aP,fx.E,.fn 0 (by kernel_rfl) fx.ok trivial⟩
abbrev cO.L0.D:=Int×Lk×(List mI)×Nat×Int×Int×(List iM)
def cO.L0.st:cO.L0.D->AS:=λ(xY,o9,l,outL,t37,t38,PL)=>⟨(bG 6 ([.d ti xY]++bG 5 ([.gE s7 o9,.undef,.undef,.undef,.d (.slice xg) l,.undef,.dh (.new 57 0) 0 [] 0 0 outL]++bG 18 ([.d ti t37,.d ti t38]++bG 21 [])))),[],(db 57 [[.obj 0 false (.vec 62 jP PL)],[],[]])⟩
abbrev cO.L0.Y0:=Nat×(List iM)
abbrev cO.L0.X0:=Nat×(List iM)
def cO.L0.bV:cO.L0.X0->Exit×AS:=λx=>(.exit 0,⟨(bG 18 ([.dh (.new 57 0) 0 [] 0 0 x.1]++bG 41 [])),[],(db 57 [[.obj 0 false (.vec 62 jP x.2)],[],[]])⟩)
abbrev cO.L0.X:=cO.L0.X0
abbrev cO.L0.Y:=cO.L0.Y0
def cO.L0.out:cO.L0.X->Out (Exit×AS):=λx=> .ok (cO.L0.bV x)
def cO.L0.add:cO.L0.D->cO.L0.Y->cO.L0.X:=λ(xY,o9,l,outL,t37,t38,PL) y=>y
abbrev cO.D:=iN×pI×Int×jl×Bs×Lk×Int
def cO.st:cO.D->SA:=λ(ch,kit,me,ew,secret,to,bP)=>([.d nb ch,.d rZ kit,.d ti me,.d mC ew,.d tH secret,.d s7 to,.d ti bP],[])
abbrev cO.Y:=(List iM)×Int
abbrev cO.X:=(List iM)×Int
def cO.out:cO.X->aZ:=λx=>⟨.cons (.d (.slice jP) x.1) (.cons (.d ti x.2) (.nil)),[],[]⟩
def cO.add:cO.D->cO.Y->cO.X:=λ(ch,kit,me,ew,secret,to,bP) y=>y
def cO.aw:cO.D->Prop:=λ(ch,kit,me,ew,secret,to,bP)=>ns ch/\Fa kit/\uE ew/\Sm secret/\ua to
def cO.F:cO.D->cO.Y:=λ(ch,kit,me,ew,secret,to,bP)=>AA ch kit me ew secret to bP
def cO.L0.aw:cO.L0.D->Prop:=λ(bP,to,l,L,m,i,row)=>zr l/\ua to/\(0<=bP/\bP<=1000)/\m=l.length/\L=row.length/\∃k:Nat,k<=l.length/\i=k/\row.length<=k
def cO.L0.F:cO.L0.D->cO.L0.Y:=λ(bP,to,l,L,m,i,row)=>((row++oD to bP (l.drop i.toNat)).length,row++oD to bP (l.drop i.toNat))
def cO.G:fD:=gz (P:=Tryz.prog) [dY.sg,bt.sg]
def cO.L0.E:=cV.dp cO.L0.st cO.L0.aw cO.L0.add cO.L0.F cO.L0.out
def cO.L0.call:cO.L0.D->Option cO.L0.X:=eI cO.L0.E cO.L0.st
def cO.an:fT:= {loops:=oF [(6,{bS:=[6,12,16,18,37,38],sites:=[57],nB:=[⟨18,[],57,66⟩]})],outs:=oE [(6,{bS:=[18],sites:=[57]},{bS:=[14,15]})],jw:=pL [(6,cO.L0.E)],res:=[some (.slice jP),none]}
def cO.A:= @dq Tryz.prog cO.G cO.an 0 Tryz.f10 _ cO.st
abbrev cO.Ok:=dr @cO.A cO.aw cO.add cO.F cO.out
def cO.L0.R:= @dn Tryz.prog cO.G cO.an 0 Tryz.f10 0 _ cO.L0.st
abbrev cO.L0.Ok:=gw Tryz.prog cO.G cO.an 0 Tryz.f10 0 cO.L0.st cO.L0.aw cO.L0.add cO.L0.F cO.L0.out
theorem cO.L0.run:cl cO.L0.call cO.L0.aw cO.L0.add cO.L0.F:=gT (gS [.d ti,.d s7,.d (.slice xg),.n,.d ti,.d ti,.d (.slice jP)] λ_=>by kernel_rfl)
theorem cO.L0.aI:jk @cO.L0.R cO.L0.st cO.L0.aw cO.L0.add cO.L0.F cO.L0.bV cO.L0.Ok:=jm
theorem cO.L0.step{R:Type}(xY:Int)(o9:Lk)(l:(List mI))(outL:Nat)(t37:Int)(t38:Int)(PL:(List iM))(kn:AS->Option R)(kx:Exit->AS->Option R):cO.L0.R (xY,o9,l,outL,t37,t38,PL) kn kx=
  aJ ((jK t38 t37)) (
   aJ (inc (bO .i64 t38 (1:Int)) (((List.length l):Nat):Int)) (
   aJ (inc t38 (((Int.toNat (bO .i64 t38 (1:Int))):Nat):Int)) (
   aj (bt.call ((cut l (Int.toNat t38) ((Int.toNat (bO .i64 t38 (1:Int))) - (Int.toNat t38))),o9,xY)) λx1=>
   aJ ((nX x1.2 (0:Int))) (
    aJ (decide (outL<=(List.length PL))) (
    aJ (fk (outL+1) 56) (
    kn (cO.L0.st (xY,o9,l,(outL+1),t37,(bO .i64 t38 (1:Int)),((List.take outL PL)++ [x1.1])))) none) none) (
    kn (cO.L0.st (xY,o9,l,outL,t37,(bO .i64 t38 (1:Int)),PL)))) none) none) (
   kx (cO.L0.bV (outL,PL)).1 (cO.L0.bV (outL,PL)).2):=by kernel_rfl
theorem cO.eq{R:Type}(ch:iN)(kit:pI)(me:Int)(ew:jl)(secret:Bs)(to:Lk)(bP:Int)(k:aZ->Option R):cO.A (ch,kit,me,ew,secret,to,bP) k=
  aj (dY.call (ch,kit,me,ew,secret,to,bP)) λx1=>
  aJ ((rN x1.2 (0:Int))) (
   k (cO.out (([]:List iM),x1.2))) (
   aj (cO.L0.call (bP,to,x1.1,0,(((List.length x1.1):Nat):Int),(0:Int),([]:List iM))) λx4=>
   aJ (decide (0=0/\(0+x4.1)<=(List.length x4.2))) (
   k (cO.out ((cut x4.2 0 x4.1),(0:Int)))) none):=by kernel_rfl
theorem O6{α:Type}{l:List α}{k:Nat}(h:k < l.length):cut l k (k+1 - k)=[l[k]]:=by
 rw[mn]
 unfold cut
 rw[aA h]
 rfl
theorem cO.L0.ok:cO.L0.Ok:=by
 refine cO.L0.aI (λ(bP,to,l,L,m,i,row)=>l.length - i.toNat) ?_
 rintro⟨bP,to,l,L,m,i,row⟩ ⟨hg,ht,hr,rfl,rfl,k,hk,rfl,my⟩
 have hk:k<=l.length:=hk
 have hl:l.length<=64:=hg.1
 have my:row.length<=k:=my
 by_cases h:k < l.length
 ·left
  have hd:oD to bP (l.drop k)=(if(ni [l[k]] to bP).2=0 then [(ni [l[k]] to bP).1] else [])++oD to bP (l.drop (k+1)):=by rw[aA h,oD]
  have g1:zr [l[k]]:=⟨by show 1<=64;decide,λx hx=>by rw[aR]at hx;subst hx;exact hg.2 _ (List.getElem_mem h)⟩
  have c1:=bt.c (to:=to) (bP:=bP) g1 ht hr
  have e1:∀x:iM,(row++ [x]).length=row.length+1:=λx=>by rw[ae];rfl
  have ec:=O6 h
  generalize ni [l[k]] to bP=r at hd c1
  by_cases hz:r.2=0
  ·refine⟨(bP,to,l,row.length+1,(l.length:Int),((k+1:Nat):Int),row++ [r.1]),⟨hg,ht,hr,rfl,(e1 _).symm,k+1,by omega,rfl,by show(row++ [r.1]).length<=_;rw[e1];omega⟩,by simp only[aa];omega,?_,λkn kx=> ?_⟩
   ·rw[if_pos hz]at hd
    simp only[cO.L0.add,cO.L0.F,aa,hd,bR]
   ·rw[cO.L0.step,bI (by omega),N.pJ (by omega),aa,aa,ec,c1,qc (by omega) (by omega),qc (by omega) (by omega),ab,iE hz,aO (aC _),fV (by omega) (by omega),cz]
    rfl
  ·refine⟨(bP,to,l,row.length,(l.length:Int),((k+1:Nat):Int),row),⟨hg,ht,hr,rfl,rfl,k+1,by omega,rfl,by show row.length<=_;omega⟩,by simp only[aa];omega,?_,λkn kx=> ?_⟩
   ·rw[if_neg hz,bu]at hd
    simp only[cO.L0.add,cO.L0.F,aa,hd]
   ·rw[cO.L0.step,bI (by omega),N.pJ (by omega),aa,aa,ec,c1,qc (by omega) (by omega),qc (by omega) (by omega),ab,fJ hz]
    rfl
 ·right
  obtain rfl:k=l.length:=by omega
  intro R kn kx
  rw[cO.L0.step,bp (by omega),ai]
  simp only[cO.L0.add,cO.L0.F,aa,bH,oD,dg]
theorem cO.ok:cO.Ok:=by
 rintro⟨ch,kit,me,ew,secret,to,bP⟩ ⟨fI,hk,hu,hs,ht⟩
 have hk:Fa kit:=hk
 have ht:ua to:=ht
 have ea:∀d y,cO.add d y=y:=λ_ _=>rfl
 have eF:cO.F (ch,kit,me,ew,secret,to,bP)=AA ch kit me ew secret to bP:=rfl
 rw[cO.eq,ea,eF,dY.c fI hk hu hs ht,ab]
 unfold AA
 have hg:=GW (ch:=ch) (me:=me) (ew:=ew) (secret:=secret) (to:=to) (bP:=bP) hk
 have hm:=Ca (ch:=ch) (kit:=kit) (me:=me) (ew:=ew) (secret:=secret) (to:=to) (bP:=bP)
 generalize kV ch kit me ew secret to bP=r at hg hm
 by_cases h:r.2=0
 ·rw[gK h,ai,if_pos h,cO.L0.run (d:=(bP,to,r.1,0,(r.1.length:Int),0,[])) ⟨hg,ht,(EH (hm h).1).2.1,rfl,rfl,0,bm _,rfl,aC _⟩]
  simp only[ab,cO.L0.add,cO.L0.F,bK,aW,bu,bl]
  rw[aO ⟨trivial,aC _⟩,ah,iV rfl]
 ·rw[kN h,ah,if_neg h]
def cO.E:=Entry.dp [some nb,some rZ,some ti,some mC,some tH,some s7,some ti] cO.st cO.aw cO.add cO.F cO.out
def cO.call:cO.D->Option cO.X:=cj cO.E cO.st
theorem cO.run:cl cO.call cO.aw cO.add cO.F:=dw (du [.d nb,.d rZ,.d ti,.d mC,.d tB,.d s7,.d ti] λ_=>by kernel_rfl)
def cO.sg:SG Tryz.prog:=⟨10,aP,cO.E,.fn 1 (by kernel_rfl) cO.ok (And.intro (.dp cO.L0.ok (by kernel_rfl)) trivial)⟩
abbrev fG.D:=iN×Int×jl×Int
def fG.st:fG.D->SA:=λ(ch,me,ew,bP)=>([.d nb ch,.d ti me,.d mC ew,.d ti bP],[])
abbrev fG.Y:=Int
abbrev fG.X:=Int
def fG.out:fG.X->aZ:=λx=>⟨.d ti x,[],[]⟩
def fG.add:fG.D->fG.Y->fG.X:=λ(ch,me,ew,bP) y=>y
def fG.aw:fG.D->Prop:=λ(ch,me,ew,bP)=>ns ch/\uE ew
def fG.F:fG.D->fG.Y:=λ(ch,me,ew,bP)=>Ce ch me ew bP
def fG.G:fD:=gz (P:=Tryz.prog) [bn.sg,iS.sg,cT.sg]
def fG.an:fT:= {}
def fG.A:= @dq Tryz.prog fG.G fG.an 0 Tryz.f12 _ fG.st
abbrev fG.Ok:=dr @fG.A fG.aw fG.add fG.F fG.out
theorem fG.eq{R:Type}(ch:iN)(me:Int)(ew:jl)(bP:Int)(k:aZ->Option R):fG.A (ch,me,ew,bP) k=
  aJ ((jK me (0:Int))) (
   k (fG.out (0:Int))) (
   aJ ((so me (1:Int))) (
    k (fG.out (0:Int))) (
    aJ ((jK bP (0:Int))) (
     k (fG.out (0:Int))) (
     aJ ((so bP (1000:Int))) (
      k (fG.out (0:Int))) (
      aj (bn.call (ch,ew,(cY .i64 (1:Int) me),(4:Int))) λx1=>
      aJ ((rN x1.2 (0:Int))) (
       k (fG.out (0:Int))) (
       aj (iS.call (x1.1,(0:Int),(0:Int))) λx2=>
       aj (cT.call (x2,bP)) λx3=>
       k (fG.out (imax (0:Int) x3))))))):=by kernel_rfl
theorem fG.ok:fG.Ok:=by
 rintro⟨ch,me,ew,bP⟩ ⟨fI,hu⟩
 have fI:ns ch:=fI
 have hu:uE ew:=hu
 have ea:∀d y,fG.add d y=y:=λ_ _=>rfl
 have eF:fG.F (ch,me,ew,bP)=Ce ch me ew bP:=rfl
 rw[fG.eq,ea,eF]
 unfold Ce
 by_cases h1:me < 0
 ·rw[bI h1,ah,pc (by omega)];rfl
 by_cases h2:me > 1
 ·rw[bp h1,ai,fA h2,ah,pc (by omega)];rfl
 have Yo:me=0\/me=1:=by omega
 rw[bp h1,ai,dW h2,ai,la (by omega) (by omega),cv]
 by_cases h3:bP < 0
 ·rw[bI h3,ah,pc (by omega)];rfl
 by_cases h4:bP > 1000
 ·rw[bp h3,ai,fA h4,ah,pc (by omega)];rfl
 have hp:iw 4:=⟨by decide,by decide⟩
 rw[bp h3,ai,dW h4,ai,la (by omega) (by omega),if_pos rfl,JD (by omega),bn.c (own:=1 - me) fI hu hp,ab]
 have ON:=Ho (ch:=ch) (s:=ew) (own:=1 - me) (per:=4)
 by_cases h7:(oG ch ew (1 - me) 4).2=0
 ·obtain⟨q1,q2,q3,q4⟩:=ON h7
  have hv:=qH fI hu q3 q1 hp
  have hg:=HN (c:=bZ ch ew (1 - me) 4) vh vh
  rw[q4,gK rfl,ai,iS.c hv.1 hv.2.1 (by have:=hv.2.2;omega),ab,cT.c hg ⟨by omega,by omega⟩,ab,if_pos rfl]
 ·rw[kN h7,ah,if_neg h7]
def fG.E:=Entry.dp [some nb,some ti,some mC,some ti] fG.st fG.aw fG.add fG.F fG.out
def fG.call:fG.D->Option fG.X:=cj fG.E fG.st
theorem fG.run:cl fG.call fG.aw fG.add fG.F:=dw (du [.d nb,.d ti,.d mC,.d ti] λ_=>by kernel_rfl)
def fG.sg:SG Tryz.prog:=⟨12,aP,fG.E,.fn 0 (by kernel_rfl) fG.ok trivial⟩
theorem fx.c{ch:iN}{kit:pI}{me:Int}{ew:jl}{secret:List Int}{to:Lk}{bP:Int}(fI:ns ch)(hk:Fa kit)(hu:uE ew)(hs:Sm secret)(ht:ua to):fx.call (ch,kit,me,ew,secret,to,bP)=some (xp ch kit me ew secret to bP):=by
 have ea:∀d y,fx.add d y=y:=λ_ _=>rfl
 have eF:fx.F (ch,kit,me,ew,secret,to,bP)=xp ch kit me ew secret to bP:=rfl
 rw[fx.run (d:=(ch,kit,me,ew,secret,to,bP)) ⟨fI,hk,hu,hs,ht⟩,ea,eF]
theorem cO.c{ch:iN}{kit:pI}{me:Int}{ew:jl}{secret:List Int}{to:Lk}{bP:Int}(fI:ns ch)(hk:Fa kit)(hu:uE ew)(hs:Sm secret)(ht:ua to):cO.call (ch,kit,me,ew,secret,to,bP)=some (AA ch kit me ew secret to bP):=by
 have ea:∀d y,cO.add d y=y:=λ_ _=>rfl
 have eF:cO.F (ch,kit,me,ew,secret,to,bP)=AA ch kit me ew secret to bP:=rfl
 rw[cO.run (d:=(ch,kit,me,ew,secret,to,bP)) ⟨fI,hk,hu,hs,ht⟩,ea,eF]
theorem fG.c{ch:iN}{me:Int}{ew:jl}{bP:Int}(fI:ns ch)(hu:uE ew):fG.call (ch,me,ew,bP)=some (Ce ch me ew bP):=by
 have ea:∀d y,fG.add d y=y:=λ_ _=>rfl
 have eF:fG.F (ch,me,ew,bP)=Ce ch me ew bP:=rfl
 rw[fG.run (d:=(ch,me,ew,bP)) ⟨fI,hu⟩,ea,eF]
end
end Go.Ab
namespace Go.Ab
open Go.Proofs
noncomputable section
theorem HU(m:Int)(q:Nat)(a b:Int)(h1:a^q%m=1%m)(h2:b^q%m=1%m):(a*b%m)^q%m=1%m:=by
 rw[wq,Int.mul_pow,iQ,h1,h2,<-iQ,Int.one_mul]
theorem PF{a b:Int}(ha:oS a=true)(hb:oS b=true):oS (mG a b)=true:=by
 refine Nq (qh a b) ?_
 have h1:=(zS ha).1
 have h2:=(zS hb).1
 rw[A0 _ _ (by decide)]at h1 h2 ⊢
 exact HU 4611686018427377339 _ a b h1 h2
theorem Ha:∀(l:List Int) (o:Int),oS o=true->oS (l.foldl (λo p=>mG o (tk p)) o)=true
 |[],_,h=>h
 |p::l,o,h=>Ha l _ (PF h (Nr p))
theorem tl(l:List Int):oS (vg l)=true:=Ha l 1 wT
theorem uf{p a d s:Int}(hp:oS p=true)(ha:0<=a/\a<=1048576)(hd:0<=d/\d<=1048576)(hs:s=0\/oS s=true):rK ([p],(a,(d,(s,()))))=true:=by
 unfold rK zN
 simp only[kG,oe,hp,lk,ak,decide_eq_true_eq,j9]
 exact⟨dD rfl,trivial,ha,hd,hs⟩
theorem MA.p{p:Int}(h:MA p):oS p=true:=by
 have:=h.2
 unfold D3 at this
 exact(nI.1 this).1
theorem ns.wait{ch:iN}(h:ns ch){n:Int}(hn:n=0\/n=1):0<=xv ch n/\xv ch n<=1048576:=by
 obtain⟨d,hd,h2⟩:=h.t hn
 unfold xv
 rw[hd,WS]
 omega
theorem CB{a b:qy}(ha:rK a=true)(hb:rK b=true):kW ([a,b],())=true:=by
 unfold kW
 simp only[kG,oe,ha,hb,l9,cv]
 rfl
theorem Hg{a b c:qy}(ha:rK a=true)(hb:rK b=true)(hc:rK c=true):kW ([a,b,c],())=true:=by
 unfold kW
 simp only[kG,oe,ha,hb,hc,l9,cv]
 rfl
theorem CA{a:qy}(ha:rK a=true):kW ([a],())=true:=by
 unfold kW
 simp only[kG,oe,ha,l9,cv]
 rfl
theorem Ed:(0:Int)<=0/\(0:Int)<=1048576:=by decide
theorem KC{ch:iN}{s:jl}{own per:Int}(fI:ns ch)(hs:xi ch s)(ho:own=0\/own=1):∀m∈ng ch s own per,kW m.1.2.1=true:=by
 have hp':1 - own=0\/1 - own=1:=by omega
 have b0:=fI.ba ho
 have b1:=fI.ba hp'
 have w:=fI.wait hp'
 intro m hm
 unfold ng at hm
 simp only[cf]at hm
 rcases hm with hm | hm | hm | hm
 ·split at hm
  ·rw[aR]at hm;subst hm
   exact CB (uf (tl _) Ed Ed (.inl rfl)) (uf (tl _) Ed w (.inl rfl))
  ·cases hm
 ·split at hm
  ·rw[aR]at hm;subst hm
   exact CA (uf b1.2.1.p Ed Ed (.inl rfl))
  ·cases hm
 ·have Ry:rK ([],((0:Int),((16:Int),((0:Int),()))))=true:=by decide
  rcases cH.1 hm with rfl | hm
  ·exact CB (uf b0.1.p Ed Ed (.inl rfl)) Ry
  ·rw[aR]at hm;subst hm
   exact CB (uf b1.1.p Ed Ed (.inl rfl)) Ry
 ·obtain⟨c,hc,rfl⟩:=eb.1 hm
  have g:=ug _ _ hs.pq c (jG.1 hc).1
  have Px:oS c.2.2.2.1=true:=by
   have:=g.pt
   unfold D3 at this
   exact(nI.1 this).1
  have he:=g.exp
  unfold oC
  split
  ·exact Hg (uf (tl _) Ed Ed (.inl rfl)) (uf (tl _) Ed Ed (.inr Px)) (uf (tl _) ⟨by omega,he.2⟩ w (.inl rfl))
  ·exact Hg (uf (tl _) Ed Ed (.inl rfl)) (uf (tl _) Ed w (.inr Px)) (uf (tl _) ⟨by omega,he.2⟩ Ed (.inl rfl))
def qC:List mF->Int
 |[]=>0
 |m::l=>m.1.1+qC l
theorem lp:∀(a b:List mF),qC (a++b)=qC a+qC b
 |[],b=>by simp[qC]
 |m::a,b=>by rw[kz,qC,qC,lp a b];omega
theorem zt{a b:List mF}(h:a.Perm b):qC a=qC b:=by
 induction h with
 |nil=>rfl
 |cons x _ ih=>rw[qC,qC,ih]
 |swap x y l=>simp only[qC];omega
 |trans _ _ h1 h2=>rw[h1,h2]
def nQ(m:mF):Bool:= !decide (m.2.1.1=3\/m.2.1.1=4)
def Lg(l:List mF):Nat:=(l.filter nQ).length
def KY(l:List mF):Int:=qC (l.filter nQ)
theorem Lh{a b:List mF}(h:a.Perm b):Lg a=Lg b:=(h.filter nQ).length_eq
theorem KZ{a b:List mF}(h:a.Perm b):KY a=KY b:=zt (h.filter nQ)
theorem Ii(rev pay:Int):∀(l:List mF) (os:List ir),os.length=l.length->(Ba rev pay os (l.map λm=>m.1) (l.map λm=>m.2.1)).length=Lg l/\Be (Ba rev pay os (l.map λm=>m.1) (l.map λm=>m.2.1))=KY l
 |[],[],_=>⟨rfl,rfl⟩
 |[],_::_,h=>by cases h
 |_::_,[],h=>by cases h
 |m::l,o::os,h=>by
  have ih:=Ii rev pay l os (by simpa using h)
  simp only[cG,Ba]
  unfold Lg KY vC at*
  rw[ix]
  by_cases hg:m.2.1.1=3\/m.2.1.1=4
  ·have:nQ m=false:=by unfold nQ;rw[aO hg];rfl
   rw[if_pos hg,this,if_neg (by simp),bu]
   exact ih
  ·have:nQ m=true:=by unfold nQ;rw[cR hg];rfl
   rw[if_neg hg,this,if_pos rfl,eS,aN,aN,Be,qC,ih.1,ih.2]
   exact⟨rfl,rfl⟩
theorem qD(own rev theirs mine wait:Int):∀l:List jj,qC (l.map (oC own rev theirs mine wait))=jJ l/\(l.map (oC own rev theirs mine wait)).filter nQ=l.map (oC own rev theirs mine wait)
 |[]=>⟨rfl,rfl⟩
 |c::l=>by
  have ih:=qD own rev theirs mine wait l
  have h1:(oC own rev theirs mine wait c).1.1=c.2.2.1/\nQ (oC own rev theirs mine wait c)=true:=by
   unfold oC
   split
   ·exact⟨rfl,rfl⟩
   ·exact⟨rfl,rfl⟩
  rw[cG,qC,jJ,ih.1,h1.1,ix,h1.2,if_pos rfl,ih.2]
  exact⟨rfl,rfl⟩
def UE(n:Int):Int:=if D7 n=true then n else 0
def QW(n:Int):Nat:=if D7 n=true then 1 else 0
theorem Oe(ch:iN)(s:jl)(own per:Int):Lg (ng ch s own per)=QW (jF ch s own)+(QW (jF ch s (1 - own))+(jb s.2.2.1).length):=by
 unfold Lg ng QW
 rw[kA,kA,kA,ae,ae,ae,(qD ..).2,b8]
 have e3:∀a b:mF,a.2.1.1=3->b.2.1.1=4->([a,b].filter nQ).length=0:=λa b h1 h2=>by
  rw[ix,ix]
  have q1:nQ a=false:=by unfold nQ;rw[aO (.inl h1)];rfl
  have q2:nQ b=false:=by unfold nQ;rw[aO (.inr h2)];rfl
  rw[q1,q2]
  rfl
 rw[e3 _ _ rfl rfl,bl]
 cases D7 (jF ch s own) <;> cases D7 (jF ch s (1 - own)) <;> rfl
theorem Od(ch:iN)(s:jl)(own per:Int):KY (ng ch s own per)=UE (jF ch s own)+(UE (jF ch s (1 - own))+jJ (jb s.2.2.1)):=by
 unfold KY ng UE
 rw[kA,kA,kA,lp,lp,lp,(qD ..).2,(qD ..).1]
 have e3:∀a b:mF,a.2.1.1=3->b.2.1.1=4->qC ([a,b].filter nQ)=0:=λa b h1 h2=>by
  rw[ix,ix]
  have q1:nQ a=false:=by unfold nQ;rw[aO (.inl h1)];rfl
  have q2:nQ b=false:=by unfold nQ;rw[aO (.inr h2)];rfl
  rw[q1,q2]
  rfl
 rw[e3 _ _ rfl rfl,pX]
 have e1:∀m:mF,nQ m=true->qC ([m].filter nQ)=m.1.1:=λm h=>by
  rw[ix,h,if_pos rfl]
  show m.1.1+0=_
  omega
 have e0:qC (([]:List mF).filter nQ)=0:=rfl
 congr 1
 ·split
  ·exact e1 _ rfl
  ·exact e0
 ·congr 1
  split
  ·exact e1 _ rfl
  ·exact e0
theorem M4{r:Int}{m n:Int}(h0:0<=m)(h1:m<=n)(h2:n<=16):Bt r m<=Bt r n:=by
 unfold Bt
 split
 ·next h=>
  have e:OG m<=OG n:=by unfold OG;rw[if_pos ⟨h0,by omega⟩,if_pos ⟨by omega,h2⟩];omega
  exact Int.mul_le_mul_of_nonneg_left e h.1
 ·exact ln _
theorem y2{ch:iN}{s:jl}(hs:xi ch s){n:Int}(hn:n=0\/n=1):0<=jF ch s n:=by
 have h0:=(hs.Nb hn).1
 have hl:=hs.len
 have h3:(jb s.2.2.1).length<=s.2.2.1.length:=nu _ _
 have hm:=M4 (r:=s.2.2.2.1) (m:=((jb s.2.2.1).length:Int)) (n:=(s.2.2.1.length:Int)) (by omega) (by omega) (by omega)
 have hc:=hs.cost
 unfold jF
 split
 ·next e=>
  rw[<-e]at hc
  omega
 ·omega
theorem ES{ch:iN}(fI:ns ch)(s:jl){own:Int}(ho:own=0\/own=1): @Eq Int (jF ch s own+jF ch s (1 - own)) (nth ti s.2.1 0+nth ti s.2.1 1 - (Bt s.2.2.2.1 (jb s.2.2.1).length+660)):=by
 have fa:=fI.op
 unfold jF
 rcases ho with rfl | rfl <;> rcases fa with e | e <;> rw[e] <;> simp <;> omega
theorem yc:∀(l:List jj),(∀c∈l,Gs c)->0<=jJ (jb l)/\jJ (jb l)<=jJ l
 |[],_=>⟨ln _,ln _⟩
 |c::l,h=>by
  have ih:=yc l λx hx=>h x (bj _ hx)
  have hc:=h c bq
  unfold Gs at hc
  rw[A5]
  split
  ·simp only[jJ];omega
  ·simp only[jJ];omega
theorem Oc{ch:iN}{s:jl}{own per:Int}(fI:ns ch)(hs:xi ch s)(ho:own=0\/own=1):(∀m∈ng ch s own per,0<=m.1.1)/\qC (ng ch s own per)<=1125899906842624:=by
 have hp':1 - own=0\/1 - own=1:=by omega
 have r0:=y2 hs ho
 have r1:=y2 hs hp'
 have rs:=ES fI s ho
 have ht:=hs.Ve
 have ha:=fI.DD
 have I4:=yc _ hs.a
 have hf:=xH s.2.2.2.1 (jb s.2.2.1).length
 refine⟨λm hm=> ?_,?_⟩
 ·unfold ng at hm
  simp only[cf]at hm
  rcases hm with hm | hm | hm | hm
  ·split at hm
   ·rw[aR]at hm;subst hm;exact r0
   ·cases hm
  ·split at hm
   ·rw[aR]at hm;subst hm;exact r1
   ·cases hm
  ·rcases cH.1 hm with rfl | hm
   ·show(0:Int)<=330;decide
   ·rw[aR]at hm;subst hm;show(0:Int)<=330;decide
  ·obtain⟨c,hc,rfl⟩:=eb.1 hm
   have:=(hs.a c (jG.1 hc).1).1
   unfold oC
   split
   ·exact this
   ·exact this
 ·unfold ng
  rw[lp,lp,lp,(qD ..).1]
  have e0:∀(b:Bool) (n:Int) (l:Lk) (r:xx),0<=n->qC (if b=true then [Gp n l r] else [])<=n:=λb n l r hn=>by
   cases b
   ·exact hn
   ·show n+0<=n;omega
  have q0:=e0 (D7 (jF ch s own)) (jF ch s own) (AH (wb (nW ch own).2.2.1 per) (vc (nW ch (1 - own)).2.2.2.2.1 per) (xv ch (1 - own))) ((1:Int),(OV,())) r0
  have q1:=e0 (D7 (jF ch s (1 - own))) (jF ch s (1 - own)) (vD [(nW ch (1 - own)).2.1]) ((2:Int),(OV,())) r1
  have q2:∀(a b:Lk) (x y:xx),qC [Gp 330 a x,Gp 330 b y]=660:=λ_ _ _ _=>rfl
  rw[q2]
  omega
def F9:List kF->Int
 |[]=>0
 |o::l=>o.1+F9 l
theorem Ae:∀(l:List kF) (s:Int),0<=s->(∀o∈l,0<=o.1/\kW o.2.1=true)->s+F9 l<=1125899906842624->qm s l=true
 |[],_,_,_,_=>rfl
 |o::l,s,h0,h,hs=>by
  have ho:=h o bq
  have RS:∀(l:List kF),(∀o∈l,0<=o.1/\kW o.2.1=true)->0<=F9 l:=by
   intro l
   induction l with
   |nil=>intro _;exact ln _
   |cons x l ih=>
    intro h
    have h1:=(h x bq).1
    have h2:=ih λy hy=>h y (bj _ hy)
    simp only[F9]
    omega
  have hl:=RS l λy hy=>h y (bj _ hy)
  simp only[F9]at hs
  rw[qm,ho.2,Ae l (s+o.1) (by omega) (λy hy=>h y (bj _ hy)) (by omega)]
  unfold ud tG
  rw[aO ⟨h0,by omega⟩,aO ⟨ho.1,by omega⟩,aO (by omega)]
  rfl
theorem Dh:∀l:List mF,F9 (l.map λm=>m.1)=qC l
 |[]=>rfl
 |m::l=>by rw[cG,F9,qC,Dh l]
theorem uh{ch:iN}{s:jl}{own per:Int}(fI:ns ch)(hs:xi ch s)(ho:own=0\/own=1):jQ (bZ ch s own per).1=true:=by
 have hl:=HY (ch:=ch) (own:=own) (per:=per) hs.len
 have hk:=KC (per:=per) fI hs ho
 have hr:=Oc (per:=per) fI hs ho
 have hp:=mf (ng ch s own per)
 have hle:=hp.length_eq
 have RT:=hs.no
 unfold bZ ofRow
 unfold jQ yh
 have e1:tO [] [((ch.1,(((0:Int),(([]:List Sg),((0:Int),()))),())):kX)]=true:=by
  rw[tO,tO,fI.Pc]
  rfl
 rw[e1,Ae _ 0 (ln _) (λo Qk=> ?_) ?_,aO ⟨by show 1<=1;decide,by show 1<=64;decide,by show(List.map _ _).length<=64;rw[b8];omega,by show 0<=2*s.1+own;omega⟩]
 ·rfl
 rotate_left
 ·obtain⟨m,hm,rfl⟩:=eb.1 Qk
  have hm:=w7.1 hm
  exact⟨hr.1 m hm,hk m hm⟩
 ·rw[Dh,zt hp]
  omega
theorem EM{ch:iN}{s:jl}{own per rev pay:Int}(fI:ns ch)(hs:xi ch s)(ho:own=0\/own=1):(tr (bZ ch s own per) rev pay).length=QW (jF ch s own)+(QW (jF ch s (1 - own))+(jb s.2.2.1).length)/\
  Be (tr (bZ ch s own per) rev pay)=UE (jF ch s own)+(UE (jF ch s (1 - own))+jJ (jb s.2.2.1)):=by
 have jV:=uh (per:=per) fI hs ho
 have hm:(gq (bZ ch s own per).1).length=(lf (ng ch s own per)).length:=by
  unfold gq nE
  rw[if_pos jV,b8,List.length_range']
  show(List.map _ _).length=_
  rw[b8]
 have e:=Ii rev pay (lf (ng ch s own per)) _ hm
 rw[Lh (mf _),KZ (mf _),Oe,Od]at e
 exact e
end
end Go.Ab
namespace Go.Ab
open Go.Proofs
noncomputable section
theorem JS{a b:jj}:zo a b=true↔(a.1 < b.1\/a.1=b.1/\a.2.1 < b.2.1):=by
 unfold zo;rw[decide_eq_true_eq]
theorem Eg{a b c:jj}(h1:zo a b=true)(h2:zo b c=true):zo a c=true:=by
 rw[JS]at*;omega
def UI(a b:jj):Prop:=zo a b=true
theorem Eo:∀(l:List jj) (p:jj),tF (some p) l=true↔(∀x∈l,Qa x)/\(p::l).Pairwise UI
 |[],p=>⟨λ_=>⟨λx hx=>(by cases hx),ml _ _⟩,λ_=>rfl⟩
 |c::l,p=>by
  rw[tF,ak,ak,Eo l c,sj]
  constructor
  ·rintro⟨h1,h2,h3,h4⟩
   refine⟨λx hx=> ?_,iF.2 ⟨λx hx=> ?_,h4⟩⟩
   ·rcases cH.1 hx with rfl | hx
    ·exact h1
    ·exact h3 x hx
   ·rcases cH.1 hx with rfl | hx
    ·exact h2
    ·exact Eg h2 ((iF.1 h4).1 x hx)
  ·rintro⟨h1,h2⟩
   have h3:=iF.1 h2
   exact⟨h1 c bq,h3.1 c bq,λx hx=>h1 x (bj _ hx),h3.2⟩
theorem En(l:List jj):tF none l=true↔(∀x∈l,Qa x)/\l.Pairwise UI:=by
 cases l with
 |nil=>exact⟨λ_=>⟨λx hx=>(by cases hx),List.Pairwise.nil⟩,λ_=>rfl⟩
 |cons c l=>
  rw[tF,ak,Eo l c,sj]
  constructor
  ·rintro⟨h1,h2,h3⟩
   refine⟨λx hx=> ?_,h3⟩
   rcases cH.1 hx with rfl | hx
   ·exact h1
   ·exact h2 x hx
  ·rintro⟨h1,h2⟩
   exact⟨h1 c bq,λx hx=>h1 x (bj _ hx),h2⟩
theorem zQ:∀(c:jj) (l:List jj),(xO c l).Perm (c::l)
 |c,[]=>jz _
 |c,x::l=>by
  rw[wS]
  split
  ·exact jz _
  ·exact((zQ c l).cons x).trans (List.Perm.swap c x l)
theorem Kk:∀(c:jj) (l:List jj),l.Pairwise UI->l.any (Kn c.1 c.2.1)=false->(xO c l).Pairwise UI
 |c,[],_,_=>ml _ _
 |c,x::l,h,hn=>by
  rw[nj,Bool.or_eq_false_iff]at hn
  have h':=iF.1 h
  rw[wS]
  split
  ·next hc=>
   refine iF.2 ⟨λy hy=> ?_,h⟩
   rcases cH.1 hy with rfl | hy
   ·exact hc
   ·exact Eg hc (h'.1 y hy)
  ·next hc=>
   have hx:zo x c=true:=by
    have h1:=hn.1
    unfold Kn nX at h1
    rw[JS]at*
    by_cases e1:x.1=c.1
    ·have e2:¬x.2.1=c.2.1:=λe=>by
      rw[e1,e]at h1
      simp at h1
     omega
    ·omega
   refine iF.2 ⟨λy hy=> ?_,Kk c l h'.2 hn.2⟩
   rcases(yE c l y).1 hy with rfl | hy
   ·exact hx
   ·exact h'.1 y hy
theorem Eh{a b:List jj}(h:a.Perm b):jJ a=jJ b:=by
 induction h with
 |nil=>rfl
 |cons x _ ih=>rw[jJ,jJ,ih]
 |swap x y l=>simp only[jJ];omega
 |trans _ _ h1 h2=>rw[h1,h2]
theorem Ku(n:Int)(c:jj)(l:List jj):jJ (l6 n (xO c l))=(if c.1=1 - n then c.2.2.1 else 0)+jJ (l6 n l):=by
 have hp:(l6 n (xO c l)).Perm (l6 n (c::l)):=(zQ c l).filter _
 rw[Eh hp,Ad]
 by_cases h:c.1=1 - n
 ·rw[iE h,if_pos rfl,if_pos h,jJ]
 ·rw[fJ h,if_neg (by simp),if_neg h];omega
theorem rH(s:jl)(c:jj):(lI s c).2.2.1=xO c s.2.2.1:=rfl
theorem yj{s:jl}{c:jj}(h2:s.2.1.length=2)(hc:c.1=0\/c.1=1){n:Int}(hn:n=0\/n=1): @Eq Int (nth ti (lI s c).2.1 n.toNat) (nth ti s.2.1 n.toNat - (if c.1=n then c.2.2.1 else 0)):=by
 show nth ti (List.set _ _ _) _=_
 rw[HI h2 _ _ _ hc hn]
 split
 ·next e=>rw[e]
 ·show _=(nth ti s.2.1 n.toNat:Int) - 0
  exact(oc _).symm
theorem KX{ch:iN}{s:jl}{c:jj}(fI:ns ch)(hu:uE s)(h:(Bc ch s c).2=0):xi ch (Bc ch s c).1:=by
 obtain⟨e,hs,g,hn,Ry,EC,hh,TL⟩:=JR h
 rw[e]
 have gs:=Om g.side
 have ga:=g.DD
 have hlen:=hs.len
 have w0:=yj (s:=s) (c:=c) hu.2.2 gs (n:=0) (.inl rfl)
 have w1:=yj (s:=s) (c:=c) hu.2.2 gs (n:=1) (.inr rfl)
 have wc:=yj (s:=s) (c:=c) hu.2.2 gs gs
 rw[if_pos rfl]at wc
 have ck:=(En _).1 hs.pq
 have a0:=hs.h0.1
 have a0':=hs.h0.2
 have a1:=hs.h1.1
 have a1':=hs.h1.2
 have hh': @LE.le Int _ 0 (nth ti (lI s c).2.1 c.1.toNat):=hh
 have o0:=Ku 0 c s.2.2.1
 have o1:=Ku 1 c s.2.2.1
 have q0:=hs.o0
 have q1:=hs.o1
 have ht:=hs.Ve
 have e0:(Int.toNat 0)=0:=rfl
 have e1:(Int.toNat 1)=1:=rfl
 rw[e0]at w0
 rw[e1]at w1
 refine⟨hs.no,?_,?_,hs.bP,?_,?_,?_,?_,?_,?_⟩
 ·unfold Bd
  rcases gs with gc | gc <;> rw[gc]at w0 hh' wc EC
  ·rw[if_pos rfl]at w0
   rw[e0]at hh'
   exact⟨hh',by rw[w0];omega⟩
  ·rw[if_neg (by decide),oc]at w0
   exact⟨by rw[w0];exact a0,by rw[w0];exact a0'⟩
 ·unfold Bd
  rcases gs with gc | gc <;> rw[gc]at w1 hh' wc EC
  ·rw[if_neg (by decide),oc]at w1
   exact⟨by rw[w1];exact a1,by rw[w1];exact a1'⟩
  ·rw[if_pos rfl]at w1
   rw[e1]at hh'
   exact⟨hh',by rw[w1];omega⟩
 ·rw[rH,Ct];omega
 ·rw[rH,En]
  refine⟨λx hx=> ?_,Kk c _ ck.2 hn⟩
  rcases(yE c _ x).1 hx with rfl | hx
  ·exact g
  ·exact ck.1 x hx
 ·rw[rH,o0]
  rcases gs with gc | gc <;> rw[gc]at EC ⊢
  ·rw[if_neg (by decide)];omega
  ·rw[if_pos (by decide)]
   rw[show(1:Int) - 1=0 from rfl]at EC
   omega
 ·rw[rH,o1]
  rcases gs with gc | gc <;> rw[gc]at EC ⊢
  ·rw[if_pos (by decide)]
   rw[show(1:Int) - 0=1 from rfl]at EC
   omega
  ·rw[if_neg (by decide)];omega
 ·rw[rH,Eh (zQ c _),jJ,w0,w1]
  rcases gs with gc | gc <;> rw[gc]
  ·rw[if_pos rfl,if_neg (by decide)];omega
  ·rw[if_neg (by decide),if_pos rfl];omega
 ·exact TL
theorem CF{ch:iN}(fI:ns ch):∀(l:List KV) (s:jl) (i:Nat),uE s->xi ch s->xi ch (tn ch s i l)
 |[],_,_,_,h=>h
 |o::l,s,i,hu,h=>by
  rw[tn]
  split
  ·refine CF fI l _ _ (JB hu) ?_
   unfold Dg
   split
   ·next e=>exact KX fI hu e
   ·exact h
  ·exact h
theorem L8{p:yk}(hp:Mn p):xi (tE p) (L7 p):=by
 have ha:=hp.DD
 have hr:=hp.bP
 have hn:=hp.no
 have ho:p.2.2.2.2.1%2=0\/p.2.2.2.2.1%2=1:=by omega
 unfold L7
 split
 ·next e=>exact sT.1 e
 ·have hf:Bt (p.2.2.2.1%8) 0<=476:=by
   unfold Bt
   rw[if_pos ⟨by omega,by omega⟩]
   show p.2.2.2.1%8*68<=476
   omega
  have Zo:=xH (p.2.2.2.1%8) 0
  have key:∀(x y:Int),0<=x->0<=y->x+y=20000+p.2.1->(@GE.ge Int _ (nth ti [x,y] (p.2.2.2.2.1%2).toNat) (Bt (p.2.2.2.1%8) 0+660))->xi (tE p) (Jv p [x,y]):=λx y hx hy Kg hc=>
   ⟨⟨by show 0<=p.2.2.2.2.2.2.1;omega,by show p.2.2.2.2.2.2.1<=_;omega⟩,⟨hx,by show x<=_;omega⟩,⟨hy,by show y<=_;omega⟩,⟨by show 0<=p.2.2.2.1%8;omega,by show p.2.2.2.1%8<=_;omega⟩,bm _,rfl,by show(0:Int)<=_;decide,by show(0:Int)<=_;decide,by show x+y+0=20000+p.2.1;omega,hc⟩
  rcases ho with e | e
  ·have:((vo p).set (p.2.2.2.2.1%2).toNat (20000+p.2.1)).set (1 - p.2.2.2.2.1%2).toNat 0=[20000+p.2.1,0]:=by
    rw[e];rfl
   rw[this]
   refine key _ _ (by omega) (by omega) (by omega) ?_
   rw[e]
   show 20000+p.2.1>=_
   omega
  ·have:((vo p).set (p.2.2.2.2.1%2).toNat (20000+p.2.1)).set (1 - p.2.2.2.2.1%2).toNat 0=[0,20000+p.2.1]:=by
    rw[e];rfl
   rw[this]
   refine key _ _ (by omega) (by omega) (by omega) ?_
   rw[e]
   show 20000+p.2.1>=_
   omega
theorem An{p:yk}(hp:Mn p):xi (tE p) (Ib p):=CF (GL hp) _ _ _ (KE p) (L8 hp)
end
end Go.Ab
namespace Go.Ab
open Go.Proofs
noncomputable section
theorem JY(a b:ir):Ty.beq gV a b=true↔a=b:=⟨beq_eq gV a b rfl,λh=>by rw[h];exact beq_refl gV b rfl⟩
theorem CJ{x y:ir}{v:Bool}(h:¬y=x):∀l:List (ir×Bool),fj gV y (lu gV x v l)=fj gV y l
 |[]=>by rw[EK,jn,if_neg (λe=>h ((JY _ _).1 e)),uu]
 |p::l=>by
  rw[u7]
  split
  ·next e=>
   have e:=(JY _ _).1 e
   rw[jn,jn,if_neg (λe=>h ((JY _ _).1 e)),if_neg (λe2=>h (((JY _ _).1 e2).trans e.symm))]
  ·rw[jn,jn,CJ h l]
theorem Km:∀(l:List kX) (m:List (ir×Bool)),(∀x∈l,zO x=true/\fj gV x.1 m=none)->(l.map λx=>x.1).Nodup->tO m l=true
 |[],_,_,_=>rfl
 |x::l,m,h,hn=>by
  rw[cG,fR]at hn
  have hx:=h x bq
  have e:xm m x=false:=by unfold xm;rw[hx.2];rfl
  rw[tO,e,hx.1,Km l _ (λy hy=>⟨(h y (bj _ hy)).1,?_⟩) hn.2]
  ·rfl
  ·rw[CJ (λe=>hn.1 (by rw[<-e];exact j6 hy))]
   exact(h y (bj _ hy)).2
theorem KN(rev pay:Int):∀(a:List ir) (b:List kF) (c:List xx),((Ba rev pay a b c).map λx=>x.1).Sublist a
 |[],_,_=>List.Sublist.refl _
 |_::_,[],_=>List.nil_sublist _
 |_::_,_::_,[]=>List.nil_sublist _
 |o::a,x::b,r::c=>by
  have ih:=KN rev pay a b c
  rw[Ba,lT]
  unfold vC
  split
  ·exact ih.cons o
  ·exact ih.cons_cons o
theorem Hm(id:List Int):∀(n k:Nat),(nE id k n).Nodup:=by
 intro n k
 unfold nE
 refine List.Pairwise.map _ (λa b h e=>h ?_) List.nodup_range'
 have:=congrArg (λo:ir=>o.2.1) e
 exact Int.ofNat.inj this
theorem PH{id:List Int}{k n:Nat}{o:ir}(h:o∈nE id k n):0<=o.2.1/\o.2.1 < k+n:=by
 unfold nE at h
 obtain⟨i,hi,rfl⟩:=eb.1 h
 have:=List.mem_range'.1 hi
 obtain⟨j,hj,rfl⟩:=this
 show(0:Int)<=((k+1*j:Nat):Int)/\((k+1*j:Nat):Int) < k+n
 omega
theorem FY(c:Ax)(rev pay:Int):((tr c rev pay).map λx=>x.1).Nodup/\∀x∈tr c rev pay,0<=x.1.2.1/\x.1.2.1 < 64:=by
 unfold tr
 have hs:=KN rev pay (gq c.1) c.1.2.1 c.2.1
 have hm:(gq c.1).Nodup/\∀o∈gq c.1,0<=o.2.1/\o.2.1 < 64:=by
  unfold gq
  split
  ·next jV=>
   refine⟨Hm _ _ _,λo ho=> ?_⟩
   have:=PH ho
   have:=(E3 jV).1
   omega
  ·exact⟨lE,λo ho=>(by cases ho)⟩
 exact⟨hm.1.sublist hs,λx hx=>hm.2 _ (hs.subset (j6 hx))⟩
theorem P4{l:List mI}{to:Lk}{n:Int}(h1:1<=l.length/\l.length<=64)(hn:(l.map λx=>x.1).Nodup)(hi:∀x∈l,0<=x.1.2.1/\x.1.2.1 < 64)(rV:kW to=true)(h0:0<=n/\n<=1125899906842624):jQ (D8 l to n)=true:=by
 unfold jQ yh
 have e1:tO [] (D8 l to n).1=true:=by
  show tO [] (l.map Cq)=true
  refine Km _ _ (λx hx=> ?_) (by rw[pZ];exact hn)
  obtain⟨y,hy,rfl⟩:=eb.1 hx
  have:=hi y hy
  refine⟨?_,rfl⟩
  unfold zO
  show(decide (0<=y.1.2.1/\y.1.2.1 < 64) && _)=true
  rw[aO this]
  rfl
 have e2:qm 0 (D8 l to n).2.1=true:=Ae _ 0 (ln _) (λo ho=>by
  have ho:o∈ [(n,(to,()))]:=ho
  rw[aR]at ho
  subst ho
  exact⟨h0.1,rV⟩) (by show 0+(n+0)<=_;omega)
 rw[e1,e2,aO ⟨by show 1<=(l.map Cq).length;rw[b8];exact h1.1,by show(l.map Cq).length<=64;rw[b8];exact h1.2,by show 1<=64;decide,by show(0:Int)<=0;decide⟩]
 rfl
def Ta(x:kX):Int:=10+8*x.2.1.2.1.length+(if x.2.1.2.2.1=0 then 0 else 4)
theorem L9{t:iM}{i:Nat}{k:Int}(jV:jQ t=true)(hi:i < t.1.length)(hk:0 < k/\k < 2305843009213688669):sR t i 0 [k]=true:=by
 unfold sR
 rw[jV,aO ⟨by omega,by omega,by decide,by decide,dD rfl⟩]
 simp only[nj,List.any_nil,xz]
 rw[cR (by omega)]
 rfl
theorem H5:∀(l:List mI) (t:iM) (i:Nat),jQ t=true->tZ t->i+l.length=t.1.length->(∀x∈l,0 < x.2.2.1/\x.2.2.1 < 2305843009213688669)->(∀(j:Nat) (h:j < t.1.length),j < i->Ta t.1[j]=18)->
  ∃t',qB t i l= .inl t'/\jQ t'=true/\tZ t'/\t'.2=t.2/\t'.1.length=t.1.length/\mD t'=mD t/\gb t'=gb t/\∀x∈t'.1,Ta x=18
 |[],t,i,jV,hv,hl,_,hw=>⟨t,rfl,jV,hv,rfl,rfl,rfl,rfl,λx hx=>by
   obtain⟨j,hj,rfl⟩:=List.getElem_of_mem hx
   exact hw j hj (by simp at hl;omega)⟩
 |x::l,t,i,jV,hv,hl,hk,hw=>by
  have hi:i < t.1.length:=by rw[aN]at hl;omega
  have hs:=L9 jV hi (hk x bq)
  have ha:=Db (sc:=0) hv hs vh
  rw[aa]at ha
  have e:pS t i 0 [x.2.2.1] 0=(vf t i (wA t 0 [x.2.2.1] 0),0):=by
   rw[zd,if_pos hs,aa]
  obtain⟨t',h1,h2,h3,h4,h5,h6,h7,h8⟩:=H5 l (vf t i (wA t 0 [x.2.2.1] 0)) (i+1) ha.1 ha.2.1 (by rw[C8];rw[aN]at hl;omega) (λy hy=>hk y (bj _ hy)) (λj hj Zs=>by
   have hj':j < t.1.length:=by rw[C8]at hj;exact hj
   have U0:j < (t.1.set i ((nth kj t.1 i).1,(wA t 0 [x.2.2.1] 0,()))).length:=hj
   show Ta ((t.1.set i ((nth kj t.1 i).1,(wA t 0 [x.2.2.1] 0,())))[j]'U0)=18
   rw[List.getElem_set]
   split
   ·rfl
   ·exact hw j hj' (by omega))
  refine⟨t',?_,h2,h3,h4,h5.trans (C8 ..),h6.trans ha.2.2.1,h7.trans ha.2.2.2.1,h8⟩
  rw[qB,e,if_pos rfl]
  exact h1
theorem OH{t:iM}(h:jQ t=true)(hw:∀x∈t.1,Ta x=18):sY t=10+8*t.2.1.length+18*t.1.length:=by
 unfold sY
 rw[if_pos h]
 have:∀(l:List kX) (n:Int),(∀x∈l,Ta x=18)->l.foldl wI n=n+18*l.length:=by
  intro l
  induction l with
  |nil=>intro n _;simp
  |cons x l ih=>
   intro n h
   have hx:=h x bq
   unfold Ta at hx
   rw[iv,ih _ λy hy=>h y (bj _ hy),aN]
   unfold wI
   omega
 exact this _ _ hw
theorem Dl{l:List mI}{to:Lk}{bP:Int}(hg:zr l)(ht:ua to)(rV:kW to=true)(h1:1<=l.length)(hn:(l.map λx=>x.1).Nodup)(hi:∀x∈l,0<=x.1.2.1/\x.1.2.1 < 64)(hk:∀x∈l,0 < x.2.2.1/\x.2.2.1 < 2305843009213688669)
  (h0:1<=lP l bP) (hm:lP l bP<=1125899906842624):∃t,ni l to bP=(t,0)/\jQ t=true/\tZ t/\t.2=([(lP l bP,(to,()))],((0:Int),()))/\t.1.length=l.length/\sY t=18+18*l.length/\gb t=l.map λx=>x.1:=by
 have jV:=P4 (n:=lP l bP) ⟨h1,hg.1⟩ hn hi rV ⟨by omega,hm⟩
 have hv:=JH (n:=lP l bP) hg ht
 obtain⟨t,e1,e2,e3,e4,e5,_,e7,e8⟩:=H5 l _ 0 jV hv (by show 0+l.length=(l.map Cq).length;rw[b8,bl]) hk (λj _ h=>absurd h (Nat.not_lt_zero _))
 have el:t.1.length=l.length:=e5.trans (b8 ..)
 refine⟨t,?_,e2,e3,e4,el,?_,?_⟩
 ·unfold ni
  rw[if_neg (by omega),e1]
 ·have:=OH e2 e8
  rw[this,el,e4]
  show 10+8*((1:Nat):Int)+_=_
  omega
 ·rw[e7]
  unfold gb
  rw[if_pos jV]
  show(l.map Cq).map _=_
  rw[pZ]
  rfl
theorem nM(l:List mI)(bP:Int):lP l bP=Be l - bP*(18+18*l.length):=by
 unfold lP
 rw[Int.neg_mul]
 omega
end
end Go.Ab
namespace Go.Ab
open Go.Proofs
noncomputable section
theorem aM.c{p:yk}(h:Mn p):aM.call p=some (tE p,tm p,Ib p):=by
 have ea:∀d y,aM.add d y=y:=λ_ _=>rfl
 have eF:aM.F p=(tE p,tm p,Ib p):=rfl
 rw[aM.run (d:=p) h,ea,eF]
def Sp:List Int:=[(1:Int),(0:Int),(0:Int),(0:Int),(0:Int),(0:Int),(0:Int),(0:Int),(0:Int),(0:Int),(0:Int),(0:Int),(0:Int),(0:Int),(0:Int),(0:Int),(0:Int),(0:Int),(0:Int),(0:Int),(0:Int),(0:Int),(0:Int),(0:Int),(0:Int),(0:Int),(0:Int),(0:Int),(0:Int),(0:Int),(0:Int),(0:Int)]
def QV:List Int:=[(2:Int),(0:Int),(0:Int),(0:Int),(0:Int),(0:Int),(0:Int),(0:Int),(0:Int),(0:Int),(0:Int),(0:Int),(0:Int),(0:Int),(0:Int),(0:Int),(0:Int),(0:Int),(0:Int),(0:Int),(0:Int),(0:Int),(0:Int),(0:Int),(0:Int),(0:Int),(0:Int),(0:Int),(0:Int),(0:Int),(0:Int),(0:Int)]
def A3:List Int:=[(9:Int),(0:Int),(0:Int),(0:Int),(0:Int),(0:Int),(0:Int),(0:Int),(0:Int),(0:Int),(0:Int),(0:Int),(0:Int),(0:Int),(0:Int),(0:Int),(0:Int),(0:Int),(0:Int),(0:Int),(0:Int),(0:Int),(0:Int),(0:Int),(0:Int),(0:Int),(0:Int),(0:Int),(0:Int),(0:Int),(0:Int),(0:Int)]
def Vb:KV:=((0:Int),((999:Int),((49:Int),((6:Int),()))))
def NW:yk:=([Sp,QV],((0:Int),((20000:Int),((0:Int),((0:Int),([Vb],((3:Int),((List.replicate 32 (0:Int)),()))))))))
theorem xZ:Sm A3:=⟨rfl,λx hx=>by
 have hx:x∈(9:Int)::List.replicate 31 0:=hx
 rcases cH.1 hx with rfl | hx
 ·exact⟨by decide,by decide⟩
 ·rw[(pk.1 hx).2];exact⟨by decide,by decide⟩⟩
theorem NX:Mn NW:=⟨rfl,rfl,rfl,by decide,by decide,by decide,by decide,λo ho=>by
 have ho:o∈ [Vb]:=ho
 rw[aR]at ho
 subst ho
 exact⟨by decide,by decide,by decide,by decide,by decide⟩,by decide,by decide⟩
def DQ:pI:=oK Sp
def zU:pI:=oK QV
def kH:iN:=tE NW
theorem R6:tm NW=[DQ,zU]:=rfl
theorem qG:ns kH:=GL NX
theorem YP:kS (o7 Sp 1)=2072101336324354433:=by rw[uB];decide+kernel
theorem YQ:kS (o7 QV 1)=1305380350991396904:=by rw[uB];decide+kernel
theorem YR:kS (o7 Sp 5)=1029399409459846816:=by rw[uB];decide+kernel
theorem YS:kS (o7 QV 5)=2186824319021734715:=by rw[uB];decide+kernel
theorem Xz:kS A3=112257076531728385:=by decide+kernel
theorem YN:fw 1029399409459846816=4015897993537805363:=by decide+kernel
theorem YO:fw 2186824319021734715=2261880268583237820:=by decide+kernel
theorem Xy:fw 112257076531728385=575350622446351864:=by decide+kernel
theorem Wt:fw 2072101336324354433=832337771889980084:=by decide+kernel
theorem Wu:fw 1305380350991396904=97770669543817673:=by decide+kernel
theorem YT:tK uv 4015897993537805363 575350622446351864=1791329418814422355:=by rw[wO];decide+kernel
theorem YU:tK uv 575350622446351864 4015897993537805363=292043013001268827:=by rw[wO];decide+kernel
theorem YV:tK uv 2261880268583237820 575350622446351864=1740878991488293903:=by rw[wO];decide+kernel
theorem YW:tK uv 575350622446351864 2261880268583237820=409497070282374302:=by rw[wO];decide+kernel
theorem Sn:0 < sx DQ.2.2.2.2.1 A3:=by
 show 0 < sx (kS (o7 Sp 5)) A3
 unfold sx l7
 rw[YR,Xz,YN,Xy,YT,YU]
 decide+kernel
theorem N8:0 < sx zU.2.2.2.2.1 A3:=by
 show 0 < sx (kS (o7 QV 5)) A3
 unfold sx l7
 rw[YS,Xz,YO,Xy,YV,YW]
 decide+kernel
theorem OC:Ty.beq qt (uJ DQ) (nW kH 1)=false:=by
 cases e:Ty.beq qt (uJ DQ) (nW kH 1)
 ·rfl
 ·have h:=beq_eq qt _ _ rfl e
  have h1:fw (kS (o7 Sp 1))=fw (kS (o7 QV 1)):=congrArg (λb:KU=>b.1) h
  rw[YP,YQ,Wt,Wu]at h1
  exact absurd h1 (by decide)
def SO:jj:=((0:Int),((1:Int),((1000:Int),(fw 7,((50:Int),())))))
def vA:jl:=((3:Int),([(19000:Int),0],([SO],((0:Int),()))))
theorem YX:MA (fw 7):=GF (by decide) (by decide)
theorem Tj:Qa SO:=⟨YX.2,by decide,by decide,by decide,by decide⟩
theorem Uv:Jl 0 Vb=SO:=rfl
theorem Sz:Ib NW=vA:=by
 have e0:ye kH (Jv NW [20000,0])=true:=by rfl
 have e1:L7 NW=Jv NW [20000,0]:=by
  unfold L7
  exact if_pos e0
 have e2:(ye kH (Jv NW [20000,0]) && Gl SO)=true:=by rw[e0,sj.2 Tj];rfl
 have e3:Bc kH (Jv NW [20000,0]) SO=(vA,0):=by
  unfold Bc
  rw[if_pos e2]
  rfl
 unfold Ib
 rw[e1]
 show tn kH (Jv NW [20000,0]) 0 [Vb]=vA
 rw[tn,if_pos (by decide),tn]
 unfold Dg
 rw[Uv,e3]
 rfl
theorem y7:uE vA:=by rw[<-Sz];exact Ot _
theorem QU:xi kH vA:=by
 have:=An NX
 rw[Sz]at this
 exact this
theorem BI:jF kH vA 0=18340:=rfl
theorem BJ:jF kH vA 1=0:=rfl
theorem KH:jb vA.2.2.1=[SO]:=rfl
def sU:Lk:=vD [(nW kH 1).2.1]
theorem wF:ua sU:=Bx (qG.ba (.inr rfl)).2.1.1
theorem Gc:kW sU=true:=CA (uf (qG.ba (.inr rfl)).2.1.p Ed Ed (.inl rfl))
theorem NG{own per:Int}(ho:own=0\/own=1)(hp:oS per=true):oG kH vA own per=(bZ kH vA own per,0):=by
 unfold oG
 rw[aO ho,hp,if_pos (show(true && true)=true from rfl),if_pos (sT.2 QU)]
theorem PR{own per rev pay:Int}(ho:own=0\/own=1):(tr (bZ kH vA own per) rev pay).length=2/\Be (tr (bZ kH vA own per) rev pay)=19340:=by
 have h:=EM (own:=own) (per:=per) (rev:=rev) (pay:=pay) qG QU ho
 rw[KH]at h
 rcases ho with rfl | rfl
 ·rw[BI,show(1:Int) - 0=1 from rfl,BJ]at h
  exact h
 ·rw[BJ,show(1:Int) - 1=0 from rfl,BI]at h
  exact h
theorem Tf{own per:Int}(ho:own=0\/own=1):∀m∈ng kH vA own per,m.1.1=18340\/m.1.1=330\/m.1.1=1000:=by
 intro m hm
 unfold ng at hm
 simp only[cf]at hm
 rcases hm with hm | hm | hm | hm
 ·split at hm
  ·next h=>
   rw[aR]at hm;subst hm
   rcases ho with rfl | rfl
   ·left;exact BI
   ·rw[BJ]at h;exact absurd h (by decide)
  ·cases hm
 ·split at hm
  ·next h=>
   rw[aR]at hm;subst hm
   rcases ho with rfl | rfl
   ·rw[show(1:Int) - 0=1 from rfl,BJ]at h;exact absurd h (by decide)
   ·left;exact BI
  ·cases hm
 ·rcases cH.1 hm with rfl | hm
  ·right;left;rfl
  ·rw[aR]at hm;subst hm;right;left;rfl
 ·rw[KH]at hm
  obtain⟨c,hc,rfl⟩:=eb.1 hm
  rw[aR]at hc;subst hc
  right;right
  unfold oC
  split <;> rfl
theorem NP{own per rev pay:Int}(ho:own=0\/own=1):∀x∈tr (bZ kH vA own per) rev pay,x.2.1=18340\/x.2.1=330\/x.2.1=1000:=by
 intro y hy
 obtain⟨o,_,x,hx,r,_,_,rfl⟩:=BK _ _ _ _ _ _ hy
 obtain⟨m,hm,rfl⟩:=eb.1 (show x∈(lf (ng kH vA own per)).map (λm=>m.1) from hx)
 exact Tf ho m (w7.1 hm)
theorem HL{own per rev pay:Int}(hr:0 < rev/\rev < 2305843009213688669)(hp:0 < pay/\pay < 2305843009213688669):∀x∈tr (bZ kH vA own per) rev pay,0 < x.2.2.1/\x.2.2.1 < 2305843009213688669:=by
 intro y hy
 obtain⟨o,_,x,hx,r,_,_,rfl⟩:=BK _ _ _ _ _ _ hy
 show 0 < (if r.1=2 then pay else rev)/\(if r.1=2 then pay else rev) < _
 split
 ·exact hp
 ·exact hr
theorem Ow{own per rev pay bP:Int}(ho:own=0\/own=1)(hr:0 < rev/\rev < 2305843009213688669)(hp:0 < pay/\pay < 2305843009213688669)(h2:bP=2):∃t,ni (tr (bZ kH vA own per) rev pay) sU bP=(t,0)/\jQ t=true/\tZ t/\t.2=([(19232,(sU,()))],((0:Int),()))/\t.1.length=2/\sY t=54:=by
 subst h2
 have h:=PR (own:=own) (per:=per) (rev:=rev) (pay:=pay) ho
 have hg:=HN (c:=bZ kH vA own per) (rev:=rev) (pay:=pay) ⟨by omega,by omega⟩ ⟨by omega,by omega⟩
 have hn:=FY (bZ kH vA own per) rev pay
 have hk:=HL (own:=own) (per:=per) hr hp
 generalize tr (bZ kH vA own per) rev pay=l at h hg hn hk
 have hl:lP l 2=19232:=by rw[nM,h.1,h.2];decide
 obtain⟨t,q1,q2,q3,q4,q5,q6,_⟩:=Dl (bP:=2) hg wF Gc (by omega) hn.1 hn.2 hk (by rw[hl];decide) (by rw[hl];decide)
 rw[hl]at q4
 exact⟨t,q1,q2,q3,q4,by omega,by rw[q6,h.1];decide⟩
theorem Rg{own per rev pay:Int}(ho:own=0\/own=1)(hr:0 < rev/\rev < 2305843009213688669)(hp:0 < pay/\pay < 2305843009213688669):∃t:iM,oD sU 30 (tr (bZ kH vA own per) rev pay)=[t]/\t.2=([(17260,(sU,()))],((0:Int),())):=by
 have h:=PR (own:=own) (per:=per) (rev:=rev) (pay:=pay) ho
 have hg:=HN (c:=bZ kH vA own per) (rev:=rev) (pay:=pay) ⟨by omega,by omega⟩ ⟨by omega,by omega⟩
 have hn:=FY (bZ kH vA own per) rev pay
 have hk:=HL (own:=own) (per:=per) hr hp
 have ha:=NP (per:=per) (rev:=rev) (pay:=pay) ho
 generalize tr (bZ kH vA own per) rev pay=l at h hg hn hk ha
 match l,h with
 |[x,y],h=>
  have bh:x.2.1+(y.2.1+0)=19340:=h.2
  have ax:=ha x bq
  have ay:=ha y (bj _ bq)
  have no:∀z:mI,z.2.1=1000->ni [z] sU 30=(Q3,8):=λz hz=>by
   have:lP [z] 30= -80:=by rw[nM];show z.2.1+0 - 30*(18+18*1)= -80;omega
   unfold ni
   rw[this]
   rfl
  have yes:∀z:mI,z∈ [x,y]->z.2.1=18340->∃t,ni [z] sU 30=(t,0)/\t.2=([(17260,(sU,()))],((0:Int),())):=λz hm hz=>by
   have e:lP [z] 30=17260:=by rw[nM];show z.2.1+0 - 30*(18+18*1)=17260;omega
   have hs:∀w∈ [z],w∈ [x,y]:=λw hw=>by rw[aR]at hw;rw[hw];exact hm
   obtain⟨t,q1,q2,q3,q4,q5,q6,_⟩:=Dl (l:=[z]) (bP:=30) ⟨by show 1<=64;decide,λw hw=>hg.2 w (hs w hw)⟩ wF Gc (aC _) (ml _ _) (λw hw=>hn.2 w (hs w hw)) (λw hw=>hk w (hs w hw)) (by rw[e];decide) (by rw[e];decide)
   rw[e]at q4
   exact⟨t,q1,q4⟩
  have Kg:(x.2.1=18340/\y.2.1=1000)\/(x.2.1=1000/\y.2.1=18340):=by omega
  rcases Kg with⟨h1,h2⟩ | ⟨h1,h2⟩
  ·obtain⟨t,q1,q2⟩:=yes x bq h1
   refine⟨t,?_,q2⟩
   rw[oD,oD,oD,q1,no y h2]
   rfl
  ·obtain⟨t,q1,q2⟩:=yes y (bj _ bq) h2
   refine⟨t,?_,q2⟩
   rw[oD,oD,oD,q1,no x h1]
   rfl
theorem Uy:oS (l7 A3)=true:=v7 _
theorem QD{kit:pI}{me bP:Int}(hm:me=0\/me=1)(hk:Ty.beq qt (uJ kit) (nW kH me)=true)(hr:0<=bP/\bP<=1000):CH kH kit me sU bP=true:=by
 unfold CH
 rw[la (by omega) (by omega),la hr.1 hr.2,Gc,hk]
 rfl
theorem J6{kit:pI}{me bP:Int}(hm:me=0\/me=1)(hk:Ty.beq qt (uJ kit) (nW kH me)=true)(hr:0<=bP/\bP<=1000):kV kH kit me vA A3 sU bP=(tr (bZ kH vA (1 - me) (l7 A3)) (sx kit.2.2.2.2.1 A3) kit.2.1,0):=by
 unfold kV
 rw[if_pos (QD hm hk hr),NG (by omega) Uy]
 rfl
theorem Ja{kit:pI}{me bP:Int}(hm:me=0\/me=1)(hk:Ty.beq qt (uJ kit) (nW kH me)=true)(hr:0<=bP/\bP<=1000):xp kH kit me vA A3 sU bP=ni (tr (bZ kH vA (1 - me) (l7 A3)) (sx kit.2.2.2.2.1 A3) kit.2.1) sU bP:=by
 unfold xp
 rw[J6 hm hk hr]
 rfl
theorem Jc(s:List Int):(0 < (oK s).2.1/\(oK s).2.1 < 2305843009213688669):=lZ _
theorem Ob(b:Int)(s:List Int):sx b s < 2305843009213688669:=(yp _ _).2
theorem MH(b:KU):Ty.beq qt b b=true:=beq_refl qt b rfl
theorem M8{bP:Int}(hr:0<=bP/\bP<=1000):Ce kH 1 vA bP=imax 0 (19340 - bP*54):=by
 unfold Ce
 have h:=PR (own:=1 - 1) (per:=4) (rev:=0) (pay:=0) (.inl rfl)
 rw[la (by decide) (by decide),la hr.1 hr.2,if_pos (show(true && true)=true from rfl),NG (own:=1 - 1) (.inl rfl) Ko,if_pos rfl,nM,h.1,h.2]
 rfl
abbrev dm.D:=Unit
def dm.st:dm.D->SA:=λ_=>([],[])
abbrev dm.Y:=Bool
abbrev dm.X:=Bool
def dm.out:dm.X->aZ:=λx=>⟨.d .bool x,[],[]⟩
def dm.add:dm.D->dm.Y->dm.X:=λ_ y=>y
def dm.aw:dm.D->Prop:=λ_=>True
def dm.F:dm.D->dm.Y:=λ_=>true
def dm.G:fD:=gz (P:=Tryz.prog) [aM.sg,jE.sg,fx.sg,cO.sg,bz.sg,fG.sg]
def dm.an:fT:= {}
def dm.A:= @dq Tryz.prog dm.G dm.an 0 Tryz.f7 _ dm.st
abbrev dm.Ok:=dr @dm.A dm.aw dm.add dm.F dm.out
theorem dm.eq{R:Type}(k:aZ->Option R):dm.A () k=
  aj (aM.call ([[(1:Int),(0:Int),(0:Int),(0:Int),(0:Int),(0:Int),(0:Int),(0:Int),(0:Int),(0:Int),(0:Int),(0:Int),(0:Int),(0:Int),(0:Int),(0:Int),(0:Int),(0:Int),(0:Int),(0:Int),(0:Int),(0:Int),(0:Int),(0:Int),(0:Int),(0:Int),(0:Int),(0:Int),(0:Int),(0:Int),(0:Int),(0:Int)],[(2:Int),(0:Int),(0:Int),(0:Int),(0:Int),(0:Int),(0:Int),(0:Int),(0:Int),(0:Int),(0:Int),(0:Int),(0:Int),(0:Int),(0:Int),(0:Int),(0:Int),(0:Int),(0:Int),(0:Int),(0:Int),(0:Int),(0:Int),(0:Int),(0:Int),(0:Int),(0:Int),(0:Int),(0:Int),(0:Int),(0:Int),(0:Int)]],((0:Int),((20000:Int),((0:Int),((0:Int),([((0:Int),((999:Int),((49:Int),((6:Int),()))))],((3:Int),((List.replicate 32 (0:Int)),()))))))))) λx1=>
  aJ (decide (1 < (List.length x1.1.2.2.1))) (
  aj (jE.call (nth qt x1.1.2.2.1 1).2.1) λx2=>
  aJ (decide (1 < (List.length x1.2.1))) (
  aj (fx.call (x1.1,(nth rZ x1.2.1 1),(1:Int),x1.2.2,[(9:Int),(0:Int),(0:Int),(0:Int),(0:Int),(0:Int),(0:Int),(0:Int),(0:Int),(0:Int),(0:Int),(0:Int),(0:Int),(0:Int),(0:Int),(0:Int),(0:Int),(0:Int),(0:Int),(0:Int),(0:Int),(0:Int),(0:Int),(0:Int),(0:Int),(0:Int),(0:Int),(0:Int),(0:Int),(0:Int),(0:Int),(0:Int)],x2,(2:Int))) λx3=>
  aJ (decide (1 < (List.length x1.2.1))) (
  aj (cO.call (x1.1,(nth rZ x1.2.1 1),(1:Int),x1.2.2,[(9:Int),(0:Int),(0:Int),(0:Int),(0:Int),(0:Int),(0:Int),(0:Int),(0:Int),(0:Int),(0:Int),(0:Int),(0:Int),(0:Int),(0:Int),(0:Int),(0:Int),(0:Int),(0:Int),(0:Int),(0:Int),(0:Int),(0:Int),(0:Int),(0:Int),(0:Int),(0:Int),(0:Int),(0:Int),(0:Int),(0:Int),(0:Int)],x2,(30:Int))) λx4=>
  aJ (decide (0 < (List.length x1.2.1))) (
  aj (fx.call (x1.1,(nth rZ x1.2.1 0),(1:Int),x1.2.2,[(9:Int),(0:Int),(0:Int),(0:Int),(0:Int),(0:Int),(0:Int),(0:Int),(0:Int),(0:Int),(0:Int),(0:Int),(0:Int),(0:Int),(0:Int),(0:Int),(0:Int),(0:Int),(0:Int),(0:Int),(0:Int),(0:Int),(0:Int),(0:Int),(0:Int),(0:Int),(0:Int),(0:Int),(0:Int),(0:Int),(0:Int),(0:Int)],x2,(2:Int))) λx5=>
  aJ (decide (1 < (List.length x1.2.1))) (
  aj (fx.call (x1.1,(nth rZ x1.2.1 1),(1:Int),((0:Int),((List.replicate 2 (0:Int)),(([]:List jj),((0:Int),())))),[(9:Int),(0:Int),(0:Int),(0:Int),(0:Int),(0:Int),(0:Int),(0:Int),(0:Int),(0:Int),(0:Int),(0:Int),(0:Int),(0:Int),(0:Int),(0:Int),(0:Int),(0:Int),(0:Int),(0:Int),(0:Int),(0:Int),(0:Int),(0:Int),(0:Int),(0:Int),(0:Int),(0:Int),(0:Int),(0:Int),(0:Int),(0:Int)],x2,(2:Int))) λx6=>
  aJ (decide (1 < (List.length x1.2.1))) (
  aj (fx.call (x1.1,(nth rZ x1.2.1 1),(1:Int),x1.2.2,[(9:Int),(0:Int),(0:Int),(0:Int),(0:Int),(0:Int),(0:Int),(0:Int),(0:Int),(0:Int),(0:Int),(0:Int),(0:Int),(0:Int),(0:Int),(0:Int),(0:Int),(0:Int),(0:Int),(0:Int),(0:Int),(0:Int),(0:Int),(0:Int),(0:Int),(0:Int),(0:Int),(0:Int),(0:Int),(0:Int),(0:Int),(0:Int)],x2,(1000:Int))) λx7=>
  aJ (decide (1 < (List.length x1.2.1))) (
  aj (fx.call (x1.1,(nth rZ x1.2.1 1),(1:Int),x1.2.2,[(9:Int),(0:Int),(0:Int),(0:Int),(0:Int),(0:Int),(0:Int),(0:Int),(0:Int),(0:Int),(0:Int),(0:Int),(0:Int),(0:Int),(0:Int),(0:Int),(0:Int),(0:Int),(0:Int),(0:Int),(0:Int),(0:Int),(0:Int),(0:Int),(0:Int),(0:Int),(0:Int),(0:Int),(0:Int),(0:Int),(0:Int),(0:Int)],(([]:List qy),()),(2:Int))) λx8=>
  aJ (decide (0 < (List.length x1.2.1))) (
  aj (fx.call (x1.1,(nth rZ x1.2.1 0),(0:Int),x1.2.2,[(9:Int),(0:Int),(0:Int),(0:Int),(0:Int),(0:Int),(0:Int),(0:Int),(0:Int),(0:Int),(0:Int),(0:Int),(0:Int),(0:Int),(0:Int),(0:Int),(0:Int),(0:Int),(0:Int),(0:Int),(0:Int),(0:Int),(0:Int),(0:Int),(0:Int),(0:Int),(0:Int),(0:Int),(0:Int),(0:Int),(0:Int),(0:Int)],x2,(2:Int))) λx9=>
  aJ ((rN (((List.length x3.1.1):Nat):Int) (2:Int))) (
   k (dm.out false)) (
   aJ ((rN (((List.length x3.1.2.1):Nat):Int) (1:Int))) (
    k (dm.out false)) (
    aJ ((rN (((List.length x4.1):Nat):Int) (1:Int))) (
     k (dm.out false)) (
     aJ ((rN (((List.length x9.1.1):Nat):Int) (2:Int))) (
      k (dm.out false)) (
      aJ ((nX x3.2 (0:Int))) (
       aJ ((nX x4.2 (0:Int))) (
        aJ ((nX x5.2 (1:Int))) (
         aJ ((nX x6.2 (14:Int))) (
          aJ ((nX x7.2 (8:Int))) (
           aJ ((nX x8.2 (1:Int))) (
            aJ ((nX x9.2 (0:Int))) (
             aJ (fp (0:Int) (((List.length x3.1.2.1):Nat):Int)) (
             aJ ((nX (nth lg x3.1.2.1 0).1 (19232:Int))) (
              aj (bz.call x3.1) λzm=>
              aJ ((nX zm (54:Int))) (
               aJ (fp (0:Int) (((List.length x4.1):Nat):Int)) (
               aJ ((nX (((List.length (nth jP x4.1 0).2.1):Nat):Int) (1:Int))) (
                aJ (fp (0:Int) (((List.length x4.1):Nat):Int)) (
                aJ (fp (0:Int) (((List.length (nth jP x4.1 0).2.1):Nat):Int)) (
                aJ ((nX (nth lg (nth jP x4.1 0).2.1 0).1 (17260:Int))) (
                 aj (fG.call (x1.1,(1:Int),x1.2.2,(2:Int))) λBL=>
                 aJ ((nX BL (19232:Int))) (
                  aj (fG.call (x1.1,(1:Int),x1.2.2,(1000:Int))) λEc=>
                  aJ ((nX Ec (0:Int))) (
                   aj (fG.call (x1.1,(2:Int),x1.2.2,(2:Int))) λP9=>
                   k (dm.out (nX P9 (0:Int)))) (
                   k (dm.out false))) (
                  k (dm.out false))) (
                 k (dm.out false))) none) none) (
                k (dm.out false))) none) (
               k (dm.out false))) (
              k (dm.out false))) none) (
             k (dm.out false))) (
            k (dm.out false))) (
           k (dm.out false))) (
          k (dm.out false))) (
         k (dm.out false))) (
        k (dm.out false))) (
       k (dm.out false))))))) none) none) none) none) none) none) none) none:=by kernel_rfl
theorem dm.ok:dm.Ok:=by
 rintro⟨⟩ _
 have c1:=aM.c NX
 rw[R6,Sz]at c1
 have c2:jE.call (nth qt kH.2.2.1 1).2.1=some sU:=jE.run (d:=(nth qt kH.2.2.1 1).2.1) trivial
 have ku:Fa zU:=v9 _
 have ka:Fa DQ:=v9 _
 have hb:Ty.beq qt (uJ zU) (nW kH 1)=true:=MH _
 have ha:Ty.beq qt (uJ DQ) (nW kH 0)=true:=MH _
 obtain⟨t1,a1,a2,a3,a4,a5,a6⟩:=Ow (own:=1 - 1) (per:=l7 A3) (.inl rfl) ⟨N8,Ob _ _⟩ (Jc QV) rfl
 obtain⟨t2,b1,b2⟩:=Rg (own:=1 - 1) (per:=l7 A3) (.inl rfl) ⟨N8,Ob _ _⟩ (Jc QV)
 obtain⟨t3,d1,d2,d3,d4,d5,d6⟩:=Ow (own:=1 - 0) (per:=l7 A3) (.inr rfl) ⟨Sn,Ob _ _⟩ (Jc Sp) rfl
 have c3:fx.call (kH,zU,1,vA,A3,sU,2)=some (t1,0):=by
  rw[fx.c qG ku y7 xZ wF,Ja (.inr rfl) hb (by decide)]
  exact congrArg some a1
 have c4:cO.call (kH,zU,1,vA,A3,sU,30)=some ([t2],0):=by
  rw[cO.c qG ku y7 xZ wF]
  unfold AA
  rw[J6 (.inr rfl) hb (by decide)]
  exact congrArg (λz=>some (z,(0:Int))) b1
 have c5:fx.call (kH,DQ,1,vA,A3,sU,2)=some (Q3,1):=by
  rw[fx.c qG ka y7 xZ wF]
  unfold xp kV CH
  rw[OC,lB,lB,lB]
  rfl
 have zu:uE OJ:=⟨λc hc=>(by cases hc),bm _,rfl⟩
 have c6:fx.call (kH,zU,1,OJ,A3,sU,2)=some (Q3,14):=by
  have e:oG kH OJ (1 - 1) (l7 A3)=(WY,14):=by
   unfold oG
   rw[aO (.inl rfl),Uy,if_pos (show(true && true)=true from rfl),if_neg (by rw[show ye kH OJ=false from rfl];decide)]
  rw[fx.c qG ku zu xZ wF]
  unfold xp kV
  rw[if_pos (QD (.inr rfl) hb (by decide)),e]
  rfl
 have c7:fx.call (kH,zU,1,vA,A3,sU,1000)=some (Q3,8):=by
  rw[fx.c qG ku y7 xZ wF,Ja (.inr rfl) hb (by decide)]
  have h:=PR (own:=1 - 1) (per:=l7 A3) (rev:=sx zU.2.2.2.2.1 A3) (pay:=zU.2.1) (.inl rfl)
  unfold ni
  rw[nM,h.1,h.2]
  rfl
 have c8:fx.call (kH,zU,1,vA,A3,(([]:List qy),()),2)=some (Q3,1):=by
  rw[fx.c qG ku y7 xZ ⟨λb hb=>(by cases hb),bm _⟩]
  unfold xp kV CH
  rw[show kW (([]:List qy),())=false from rfl,fK,lB,lB]
  rfl
 have c9:fx.call (kH,DQ,0,vA,A3,sU,2)=some (t3,0):=by
  rw[fx.c qG ka y7 xZ wF,Ja (.inl rfl) ha (by decide)]
  exact congrArg some d1
 have c10:bz.call t1=some 54:=by
  rw[bz.run (d:=t1) a3]
  exact congrArg some a6
 have c11:fG.call (kH,1,vA,2)=some 19232:=by
  rw[fG.c qG y7,M8 (by decide)]
  rfl
 have c12:fG.call (kH,1,vA,1000)=some 0:=by
  rw[fG.c qG y7,M8 (by decide)]
  rfl
 have c13:fG.call (kH,2,vA,2)=some 0:=by
  rw[fG.c qG y7]
  rfl
 rw[show tE NW=kH from rfl]at c1
 have l1:t1.2.1=[(19232,(sU,()))]:=congrArg (λz:List kF×(Int×Unit)=>z.1) a4
 have l2:t2.2.1=[(17260,(sU,()))]:=congrArg (λz:List kF×(Int×Unit)=>z.1) b2
 rw[dm.eq]
 refine(congrArg (λz=>aj z _) c1).trans ?_
 rw[ab,aO (show 1 < kH.2.2.1.length from Nat.lt_succ_self 1),ah]
 refine(congrArg (λz=>aj z _) c2).trans ?_
 rw[ab,aO (show 1 < ([DQ,zU]:List pI).length from Nat.lt_succ_self 1),ah]
 refine(congrArg (λz=>aj z _) c3).trans ?_
 rw[ab,ah]
 refine(congrArg (λz=>aj z _) c4).trans ?_
 rw[ab,aO (show 0 < ([DQ,zU]:List pI).length from mo 1),ah]
 refine(congrArg (λz=>aj z _) c5).trans ?_
 rw[ab,ah]
 refine(congrArg (λz=>aj z _) c6).trans ?_
 rw[ab,ah]
 refine(congrArg (λz=>aj z _) c7).trans ?_
 rw[ab,ah]
 refine(congrArg (λz=>aj z _) c8).trans ?_
 rw[ab,ah]
 refine(congrArg (λz=>aj z _) c9).trans ?_
 rw[ab]
 have n1:(nth jP [t2] 0).2.1=[(17260,(sU,()))]:=l2
 simp only[a5,d5,l1,n1,aN,bJ]
 rw[c10,c11,c12,c13]
 rfl
def dm.E:=Entry.dp [] dm.st dm.aw dm.add dm.F dm.out
def dm.call:dm.D->Option dm.X:=cj dm.E dm.st
theorem dm.run:cl dm.call dm.aw dm.add dm.F:=dw (du [] λ_=>by kernel_rfl)
def dm.sg:SG Tryz.prog:=⟨7,aP,dm.E,.fn 0 (by kernel_rfl) dm.ok trivial⟩
end
end Go.Ab
namespace Go.Ab
open Go.Proofs
def XR(o:ir):Prop:=o.1.length=32/\∀x∈o.1,0<=x/\x < 256
theorem wh{β:Type}{kt:Ty}(hc:kt.comp=true){x:kt.den}{v:β}:∀ {l:List (kt.den×β)},x ∉ l.map (·.1)->lu kt x v l=l++ [(x,v)]
 |[],_=>rfl
 |p::l,h=>by
  rw[u7]
  have h1:¬kt.beq x p.1=true:=λe=>h (by rw[beq_eq kt _ _ hc e];simp)
  rw[if_neg h1,wh hc λe=>h (by simp[e])]
  rfl
theorem l8:gV.comp=true:=rfl
def vE(l:List (ir×na)):Int:=(l.map λp=>p.2.1.1).sum
theorem qE(p:ir×na)(l:List (ir×na)):vE (p::l)=p.2.1.1+vE l:=by simp[vE]
theorem Gy(l l':List (ir×na)):vE (l++l')=vE l+vE l':=by simp[vE]
theorem K1{l l':List (ir×na)}(h:l.Perm l'):vE l=vE l':=by
 induction h with
 |nil=>rfl
 |cons x _ ih=>rw[qE,qE,ih]
 |swap x y l=>rw[qE,qE,qE,qE];omega
 |trans _ _ h1 h2=>rw[h1,h2]
abbrev eJ.L0.D:=kF×Nat×Nat×Int×Int×Int×(List qy)
def eJ.L0.st:eJ.L0.D->AS:=λ(QO,lL,Mf,t11,t12,n2,n9)=>⟨([.undef,.gE lg QO,.ptr (.new 2 0) 0 [] 0,.dh (.new 9 0) 0 [] 0 0 lL]++bG 6 ([.dh (.new 9 0) 0 [] 0 0 Mf,.d ti t11,.d ti t12]++bG 17 [])),[],([[],[],[.obj 0 false (.pr (.d ti n2) (.pr (.pr (.eV) (.d .unit ())) (.d .unit ())))]]++db 6 ([[.obj 0 false (.vec 58 pT n9)]]++db 20 []))⟩
abbrev eJ.L0.Y0:=(List qy)×(List qy)
abbrev eJ.L0.X0:=(kF×Int)×((List qy)×(List qy))
def eJ.L0.bV:eJ.L0.X0->Exit×AS:=λx=>(.exit 0,⟨([.undef,.gE lg x.1.1,.ptr (.new 2 0) 0 [] 0,.d (.slice pT) x.2.1]++bG 26 []),[],([[],[],[.obj 0 false (.pr (.d ti x.1.2) (.pr (.pr (.eV) (.d .unit ())) (.d .unit ())))]]++db 6 ([[.obj 0 true (.vec 58 pT x.2.2)]]++db 20 []))⟩)
abbrev eJ.L0.X:=eJ.L0.X0
abbrev eJ.L0.Y:=eJ.L0.Y0
def eJ.L0.out:eJ.L0.X->Out (Exit×AS):=λx=> .ok (eJ.L0.bV x)
def eJ.L0.add:eJ.L0.D->eJ.L0.Y->eJ.L0.X:=λ(QO,lL,Mf,t11,t12,n2,n9) y=>((QO,n2),y)
abbrev eJ.D:=kF
def eJ.st:eJ.D->SA:=λo=>([.d lg o],[])
abbrev eJ.Y:=kF
abbrev eJ.X:=kF
def eJ.out:eJ.X->aZ:=λx=>⟨.d lg x,[],[]⟩
def eJ.add:eJ.D->eJ.Y->eJ.X:=λo y=>y
def Vi(l:Lk):Prop:=l.1.length<=1000/\∀b∈l.1,b.1.length<=1000000
def eJ.L0.aw:eJ.L0.D->Prop:=λ(_,n,m,t,i,_,l)=>(l.length<=1000/\∀b∈l,b.1.length<=1000000)/\∃k:Nat,k<=l.length/\i=k/\n=l.length/\m=l.length/\t=l.length
def eJ.L0.F:eJ.L0.D->eJ.L0.Y:=λ(_,_,_,_,_,_,l)=>(l,l)
def eJ.aw:eJ.D->Prop:=λo=>Vi o.2.1
def eJ.F:eJ.D->eJ.Y:=λo=>o
def eJ.G:fD:=gz (P:=Tryz.prog) [ja.sg,dT.sg]
def eJ.L0.E:=cV.dp eJ.L0.st eJ.L0.aw eJ.L0.add eJ.L0.F eJ.L0.out
def eJ.L0.call:eJ.L0.D->Option eJ.L0.X:=eI eJ.L0.E eJ.L0.st
def eJ.an:fT:= {loops:=oF [(3,{bS:=[1,2,3,10,11,12],sites:=[2,9]})],outs:=oE [(3,{bS:=[1,2,3],sites:=[2,9],data:=[(3,(.slice pT))]},{bS:=[2]})],jw:=pL [(3,eJ.L0.E)],res:=[some lg]}
def eJ.A:= @dq Tryz.prog eJ.G eJ.an 0 Tryz.f56 _ eJ.st
abbrev eJ.Ok:=dr @eJ.A eJ.aw eJ.add eJ.F eJ.out
def eJ.L0.R:= @dn Tryz.prog eJ.G eJ.an 0 Tryz.f56 0 _ eJ.L0.st
abbrev eJ.L0.Ok:=gw Tryz.prog eJ.G eJ.an 0 Tryz.f56 0 eJ.L0.st eJ.L0.aw eJ.L0.add eJ.L0.F eJ.L0.out
theorem eJ.L0.run:cl eJ.L0.call eJ.L0.aw eJ.L0.add eJ.L0.F:=gT (gS [.d lg,.n,.n,.d ti,.d ti,.d ti,.d (.slice pT)] λ_=>by kernel_rfl)
theorem eJ.L0.aI:jk @eJ.L0.R eJ.L0.st eJ.L0.aw eJ.L0.add eJ.L0.F eJ.L0.bV eJ.L0.Ok:=jm
theorem eJ.L0.step{R:Type}(QO:kF)(lL:Nat)(Mf:Nat)(t11:Int)(t12:Int)(n2:Int)(n9:(List qy))(kn:AS->Option R)(kx:Exit->AS->Option R):eJ.L0.R (QO,lL,Mf,t11,t12,n2,n9) kn kx=
  aJ ((jK t12 t11)) (
   aJ (fp t12 ((Mf:Nat):Int)) (
   aJ (decide ((0+(Int.toNat t12)) < (List.length n9))) (
   aJ (decide ((((0+(Int.toNat t12))*4)+0)=(0+((Int.toNat t12)*4)))) (
   aj (dT.call (nth pT n9 (0+(Int.toNat t12))).1) λx1=>
   aJ (fp t12 ((lL:Nat):Int)) (
   aJ (decide ((0+(Int.toNat t12)) < (List.length n9))) (
   aJ (decide ((((0+(Int.toNat t12))*4)+0)=((0+((Int.toNat t12)*4))+0))) (
   aJ (decide ((0+(Int.toNat t12)) < (List.length n9))) (
   kn (eJ.L0.st (QO,lL,Mf,t11,(bO .i64 t12 (1:Int)),n2,(List.set n9 (0+(Int.toNat t12)) (x1,(nth pT n9 (0+(Int.toNat t12))).2))))) none) none) none) none) none) none) none) (
   aJ (decide (0=0/\(0+lL)<=(List.length n9))) (
   kx (eJ.L0.bV ((QO,n2),((cut n9 0 lL),n9))).1 (eJ.L0.bV ((QO,n2),((cut n9 0 lL),n9))).2) none):=by kernel_rfl
theorem eJ.eq{R:Type}(o:kF)(k:aZ->Option R):eJ.A o k=
 aj (ja.call o.2.1.1) λx1=>
 aj (eJ.L0.call (o,x1.1,x1.1,((x1.1:Nat):Int),(0:Int),(0:Int),x1.2)) λx3=>
 k (eJ.out (x3.1.1.1,((x3.2.1,()),()))):=by kernel_rfl
theorem eJ.L0.ok:eJ.L0.Ok:=by
 refine eJ.L0.aI (λ(_,_,_,_,i,_,l)=>l.length - i.toNat) ?_
 rintro⟨o,n,m,t,i,u,l⟩ ⟨⟨hlen,hx⟩,k,hk,rfl,rfl,rfl,rfl⟩
 have hlen:l.length<=1000:=hlen
 have hk:k<=l.length:=hk
 by_cases h:k < l.length
 ·left
  have n1:nth pT l k=l[k]:=dP (t:=pT) h
  have hs:l.set k l[k]=l:=gr h
  have e:=hx _ (List.getElem_mem h)
  refine⟨(o,l.length,l.length,(l.length:Int),((k+1:Nat):Int),u,l),⟨⟨hlen,hx⟩,k+1,by omega,rfl,rfl,rfl,rfl⟩,by simp only[aa];omega,rfl,λkn kx=> ?_⟩
  rw[eJ.L0.step,bI (by omega),bF (by omega) (by omega)]
  simp only[aa,bl,dE,ah,aO h,decide_true,n1]
  rw[dT.run (d:=l[k].1) e]
  simp only[ab,dT.add,dT.F]
  rw[N.pJ (by omega)]
  exact congrArg (λz=>kn (eJ.L0.st (_,_,_,_,_,_,z))) hs
 ·right
  obtain rfl:k=l.length:=by omega
  intro R kn kx
  rw[eJ.L0.step,bp (by omega),ai,aO (by omega),ah,iV rfl]
  rfl
theorem eJ.ok:eJ.Ok:=by
 rintro⟨a,⟨l,u⟩,v⟩ ⟨h1,h2⟩
 have h1:l.length<=1000:=h1
 rw[eJ.eq,ja.run (d:=l) (by show l.length<=_;omega)]
 simp only[ab,ja.add,ja.F]
 rw[eJ.L0.run (d:=((a,(l,u),v),l.length,l.length,(l.length:Int),0,0,l)) ⟨⟨h1,h2⟩,0,bm _,rfl,rfl,rfl,rfl⟩]
 rfl
def eJ.E:=Entry.dp [some lg] eJ.st eJ.aw eJ.add eJ.F eJ.out
def eJ.call:eJ.D->Option eJ.X:=cj eJ.E eJ.st
theorem eJ.run:cl eJ.call eJ.aw eJ.add eJ.F:=dw (du [.d lg] λ_=>by kernel_rfl)
def eJ.sg:SG Tryz.prog:=⟨56,aP,eJ.E,.fn 1 (by kernel_rfl) eJ.ok (And.intro (.dp eJ.L0.ok (by kernel_rfl)) trivial)⟩
abbrev ct.L0.D:=Int×(List kF)×Int×Int×(List (ir×na))
def ct.L0.st:ct.L0.D->AS:=λ(sum,t13,t14,t15,BC)=>⟨([.undef,.undef,.undef,.ptr (.new 12 0) 0 [] 0,.d ti sum]++bG 8 ([.d (.slice lg) t13,.d ti t14,.d ti t15]++bG 35 [])),[],(db 10 ([[.obj 0 false (.mp gV wD BC)],[],[.obj 0 false (.pr (.kO (.new 10 0) 0) (.pr (.eV) (.d .unit ())))]]++db 38 []))⟩
abbrev ct.L0.Y0:=Unit
abbrev ct.L0.X0:=Unit
def ct.L0.bV:ct.L0.X0->Exit×AS:=λx=>(.ret,⟨([.undef,.undef,.o6]++bG 48 []),[],(List.replicate 51 [])⟩)
abbrev ct.L0.Y1:=(List (ir×na))
abbrev ct.L0.X1:=(List (ir×na))
def ct.L0.kI:ct.L0.X1->Exit×AS:=λx=>(.exit 0,⟨([.undef,.undef,.undef,.ptr (.new 12 0) 0 [] 0]++bG 47 []),[],(db 10 ([[.obj 0 false (.mp gV wD x)],[],[.obj 0 false (.pr (.kO (.new 10 0) 0) (.pr (.eV) (.d .unit ())))]]++db 38 []))⟩)
abbrev ct.L0.X:=(ct.L0.X0)⊕(ct.L0.X1)
abbrev ct.L0.Y:=(ct.L0.Y0)⊕(ct.L0.Y1)
def ct.L0.out:ct.L0.X->Out (Exit×AS):=λx=> .br x.isLeft (.get x.getLeft? λa=> .ok (ct.L0.bV a)) (.get x.getRight? λb=> .ok (ct.L0.kI b))
def ct.L0.add:ct.L0.D->ct.L0.Y->ct.L0.X:=λ(sum,t13,t14,t15,BC) y=>match y with | .inl y=> .inl y | .inr z=> .inr (z)
abbrev ct.D:=(List kF)
def ct.st:ct.D->SA:=λouts=>([.d (.slice lg) outs],[])
abbrev ct.Y:=(Unit)⊕((List (ir×na))×(List mN))
abbrev ct.X:=(Unit)⊕((List (ir×na))×(List mN))
def ct.out:ct.X->aZ:=λx=>match x with | .inl x=>⟨.o6,[],[]⟩ | .inr x=>⟨.ptr (.new 0 0) 0 [] 0,[],[.obj 0 false (.pr (.kO (.new 0 1) 0) (.pr (.dh (.new 0 2) 0 [] 0 0 0) (.d .unit ()))),.obj 0 false (.mp gV wD x.1),.obj 0 false (.vec 149 pG x.2)]⟩
def ct.add:ct.D->ct.Y->ct.X:=λouts y=>match y with | .inl y=> .inl y | .inr y=> .inr y
def J2(k:Nat)(o:kF):ir×na:=((List.replicate 32 (0:Int),((k:Int),())),(o,((0:Int),())))
def xV(sum:Int)(o:kF):Bool:=kW o.2.1 && decide (0<=o.1/\o.1<=1125899906842624 - sum)
def FU(sum:Int)(k:Nat):List kF->Option (List (ir×na))
 |[]=>some []
 |o::l=>match xV sum o with | true=>(FU (sum+o.1) (k+1) l).map (J2 k o:: ·) | false=>none
def PO(outs:List kF):Option (List (ir×na)):=if outs.length<=256 then FU 0 0 outs else none
def Td(o:kF):Prop:=Mm o.2.1/\o.2.1.1.length<=9223372036854775807/\o.1<=9223372036854775807
def ct.L0.aw:ct.L0.D->Prop:=λ(sum,outs,n,i,a)=>(∀o∈outs,Td o)/\outs.length<=256/\0<=sum/\sum<=1125899906842624/\∃k:Nat,k<=outs.length/\i=k/\n=outs.length/\∀p∈a,p.1.2.1 < (k:Int)
def ct.L0.F:ct.L0.D->ct.L0.Y:=λ(sum,outs,_,i,a)=>match FU sum i.toNat (outs.drop i.toNat) with | none=> .inl () | some r=> .inr (a++r)
def ct.aw:ct.D->Prop:=λouts=>∀o∈outs,Td o
def ct.F:ct.D->ct.Y:=λouts=>match PO outs with | none=> .inl () | some r=> .inr (r,[])
def ct.G:fD:=gz (P:=Tryz.prog) [bk.sg,eJ.sg]
def ct.L0.E:=cV.dp ct.L0.st ct.L0.aw ct.L0.add ct.L0.F ct.L0.out
def ct.L0.call:ct.L0.D->Option ct.L0.X:=eI ct.L0.E ct.L0.st
def ct.an:fT:= {da:=[12],loops:=oF [(5,{bS:=[3,4,13,14,15],sites:=[10,12]})],outs:=oE [(5,{bS:=[3],sites:=[10,12]},{bS:=[2]})],jw:=pL [(5,ct.L0.E)],nB:=[⟨2,[.snd,.fst],0,141⟩]}
def ct.A:= @dq Tryz.prog ct.G ct.an 0 Tryz.f46 _ ct.st
abbrev ct.Ok:=dr @ct.A ct.aw ct.add ct.F ct.out
def ct.L0.R:= @dn Tryz.prog ct.G ct.an 0 Tryz.f46 0 _ ct.L0.st
abbrev ct.L0.Ok:=gw Tryz.prog ct.G ct.an 0 Tryz.f46 0 ct.L0.st ct.L0.aw ct.L0.add ct.L0.F ct.L0.out
theorem ct.L0.run:cl ct.L0.call ct.L0.aw ct.L0.add ct.L0.F:=gT (gS [.d ti,.d (.slice lg),.d ti,.d ti,.d (.slice (.pair gV wD))] λ_=>by kernel_rfl)
theorem ct.L0.aI:sB @ct.L0.R ct.L0.st ct.L0.aw ct.L0.add ct.L0.F ct.L0.out ct.L0.Ok:=s8
theorem ct.L0.step{R:Type}(sum:Int)(t13:(List kF))(t14:Int)(t15:Int)(BC:(List (ir×na)))(kn:AS->Option R)(kx:Exit->AS->Option R):ct.L0.R (sum,t13,t14,t15,BC) kn kx=
  aJ ((jK t15 t14)) (
   aJ (fp t15 (((List.length t13):Nat):Int)) (
   aj (bk.call (nth lg t13 (Int.toNat t15)).2.1) λx1=>
   aJ ((!x1)) (
    kx (ct.L0.bV ()).1 (ct.L0.bV ()).2) (
    aJ ((jK (nth lg t13 (Int.toNat t15)).1 (0:Int))) (
     kx (ct.L0.bV ()).1 (ct.L0.bV ()).2) (
     aJ ((so (nth lg t13 (Int.toNat t15)).1 (cY .i64 (1125899906842624:Int) sum))) (
      kx (ct.L0.bV ()).1 (ct.L0.bV ()).2) (
      aj (eJ.call (nth lg t13 (Int.toNat t15))) λx2=>
      kn (ct.L0.st ((bO .i64 sum (nth lg t13 (Int.toNat t15)).1),t13,t14,(bO .i64 t15 (1:Int)),(lu gV ((List.replicate 32 (0:Int)),(t15,())) (x2,((0:Int),())) BC))))))) none) (
   kx (ct.L0.kI BC).1 (ct.L0.kI BC).2):=by kernel_rfl
theorem ct.eq{R:Type}(outs:(List kF))(k:aZ->Option R):ct.A outs k=
  aJ ((so (((List.length outs):Nat):Int) (256:Int))) (
   k (ct.out (.inl ()))) (
   aj (ct.L0.call ((0:Int),outs,(((List.length outs):Nat):Int),(0:Int),([]:List (ir×na)))) λx3=>
   aJ (x3.isLeft) (
    aj (x3.getLeft?) λa4=>
    k (ct.out (.inl ()))) (
    aj (x3.getRight?) λb5=>
    k (ct.out (.inr (b5,([]:List mN)))))):=by kernel_rfl
theorem ct.L0.ok:ct.L0.Ok:=by
 refine ct.L0.aI (λ(_,outs,_,i,_)=>outs.length - i.toNat) ?_
 rintro⟨sum,outs,n,i,a⟩ ⟨hg,hl,h0,h1,k,hk,rfl,rfl,hf⟩
 have h0:0<=sum:=h0
 have h1:sum<=1125899906842624:=h1
 have hl:outs.length<=256:=hl
 have hk:k<=outs.length:=hk
 by_cases h:k < outs.length
 ·obtain⟨g1,g2,g3⟩:=hg _ (List.getElem_mem h)
  have n1:nth lg outs k=outs[k]:=dP (t:=lg) h
  have hd:outs.drop k=outs[k]::outs.drop (k+1):=aA h
  have hs:∀ {R:Type} (kn:AS->Option R) (kx:Exit->AS->Option R),ct.L0.R (sum,outs,(outs.length:Int),(k:Int),a) kn kx=
    aJ (!(kW outs[k].2.1)) (kx (ct.L0.bV ()).1 (ct.L0.bV ()).2) (aJ (jK outs[k].1 0) (kx (ct.L0.bV ()).1 (ct.L0.bV ()).2) (aJ (so outs[k].1 (1125899906842624 - sum)) (kx (ct.L0.bV ()).1 (ct.L0.bV ()).2)
     (aj (eJ.call outs[k]) λx2=>kn (ct.L0.st ((bO .i64 sum outs[k].1),outs,(outs.length:Int),(bO .i64 (k:Int) (1:Int)),(lu gV ((List.replicate 32 (0:Int)),((k:Int),())) (x2,((0:Int),())) a)))))):=λkn kx=>by
   rw[ct.L0.step,bI (by omega),ah,bF (by omega) (by omega),ah,aa,n1,bk.run (d:=outs[k].2.1) ⟨g1,g2⟩,gm (by omega) (by omega)]
   rfl
  by_cases jV:xV sum outs[k]=true
  ·left
   have hok':=jV
   unfold xV at hok'
   simp only[ak,decide_eq_true_eq]at hok'
   obtain⟨k1,k2,k3⟩:=hok'
   have Mp:=zX k1
   refine⟨(sum+outs[k].1,outs,(outs.length:Int),((k+1:Nat):Int),a++ [J2 k outs[k]]),⟨hg,hl,by show 0<=sum+outs[k].1;omega,by show sum+outs[k].1<=_;omega,k+1,by omega,rfl,rfl,λp hp=> ?_⟩,by simp only[aa];omega,?_,λkn kx=> ?_⟩
   ·rcases cf.1 hp with hp | hp
    ·have:=hf p hp;omega
    ·rw[aR.1 hp];show(k:Int) < _;omega
   ·simp only[ct.L0.add,ct.L0.F,aa,hd,FU,jV]
    cases FU (sum+outs[k].1) (k+1) (outs.drop (k+1)) with
    |none=>rfl
    |some r=>simp only[jd,bR,eS]
   ·rw[hs,k1,bY,ai,bp (by omega),ai,dW (by omega),ai,eJ.run (d:=outs[k]) ⟨by omega,λb hb=>by have:=Mp.2 b hb;omega⟩]
    simp only[ab,eJ.add,eJ.F]
    rw[ff (by omega) (by omega),N.pJ (by omega),wh l8]
    ·rfl
    ·intro hm
     obtain⟨p,hp,he⟩:=eb.1 hm
     have:=hf p hp
     have he:p.1=_:=he
     rw[he]at this
     have this:(k:Int) < k:=this
     omega
  ·right
   have Pw:xV sum outs[k]=false:=by simpa using jV
   refine⟨ct.L0.bV (),?_,λkn kx=> ?_⟩
   rotate_left
   ·rw[hs]
    unfold xV at Pw
    cases k1:kW outs[k].2.1 with
    |false=>rw[gk,ah]
    |true=>
     rw[k1]at Pw
     simp only[cv,decide_eq_false_iff_not]at Pw
     rw[bY,ai]
     by_cases k2:outs[k].1 < 0
     ·rw[bI k2,ah]
     ·rw[bp k2,ai,fA (by omega),ah]
   ·simp only[ct.L0.add,ct.L0.F,aa,hd,FU,Pw]
    rfl
 ·right
  obtain rfl:k=outs.length:=by omega
  refine⟨ct.L0.kI a,?_,λkn kx=> ?_⟩
  rotate_left
  ·rw[ct.L0.step,bp (by omega),ai]
  ·simp only[ct.L0.add,ct.L0.F,aa,bH,FU,dg]
   rfl
theorem ct.ok:ct.Ok:=by
 intro outs hg
 rw[ct.eq]
 simp only[ct.add,ct.F,PO]
 by_cases h:outs.length<=256
 ·rw[dW (by omega),ai,ct.L0.run (d:=(0,outs,(outs.length:Int),0,[])) ⟨hg,h,by decide,by decide,0,bm _,rfl,rfl,λp hp=>by cases hp⟩,if_pos h]
  simp only[ab,ct.L0.add,ct.L0.F,bK,aW]
  cases FU 0 0 outs with
  |none=>rfl
  |some r=>rfl
 ·rw[fA (by omega),ah,if_neg h]
def ct.E:=Entry.PI [some (.slice lg)] ct.st ct.aw ct.add ct.F ct.out
def ct.call:ct.D->Option ct.X:=cj ct.E ct.st
theorem ct.run:cl ct.call ct.aw ct.add ct.F:=QT (du [.d (.slice lg)] λ_=>by kernel_rfl)
def ct.sg:SG Tryz.prog:=⟨46,aP,ct.E,.XF (.fn 1 (by kernel_rfl) ct.ok (And.intro (.dp ct.L0.ok (by kernel_rfl)) trivial))⟩
def UK(c:na):Prop:=kW c.1.2.1=true/\Mm c.1.2.1/\0<=c.1.1/\c.1.1<=1125899906842624/\0<=c.2.1/\c.2.1<=1048576
def JO(a:List (ir×na)):Prop:=(a.map (·.1)).Nodup/\∀p∈a,XR p.1/\UK p.2
theorem JO.get{a:List (ir×na)}(h:JO a){o:ir}{c:na}(hg:fj gV o a=some c):UK c:=(h.2 _ ((mA l8 h.1).1 hg)).2
def OK:na:=((0,(([],()),())),(0,()))
theorem UK.own{c:na}(h:UK c):Vi c.1.2.1:=by
 have:=zX h.1
 exact⟨by omega,λb hb=>by have:=this.2 b hb;omega⟩
abbrev aK.L0.D:=Int×iM×Int×(List kX)×Int×Int×Nat×(List (ir×na))×(List mN)×Bs
def aK.L0.st:aK.L0.D->AS:=λ(kZ,wE,np,t35,t36,t37,o0L,ow,tc,n8)=>⟨([.ptr (.ew 0) 0 [] 0,.undef,.d ti kZ,.undef,.gE jP wE,.undef,.undef,.undef,.ptr (.new 8 0) 0 [] 0,.d ti np]++bG 25 ([.d (.slice kj) t35,.d ti t36,.d ti t37]++bG 69 [])),[.obj 0 false (.pr (.kO (.ew 1) 0) (.pr (.dh (.ew 2) 0 [] 0 0 o0L) (.d .unit ()))),.obj 0 false (.mp gV wD ow),.obj 0 false (.vec 149 pG tc)],(db 8 ([[.obj 0 false (.d tH n8)]]++db 98 []))⟩
abbrev aK.L0.Y0:=Int
abbrev aK.L0.X0:=(Nat×(List (ir×na))×(List mN))×(Int)
def aK.L0.bV:aK.L0.X0->Exit×AS:=λx=>(.ret,⟨(bG 6 ([.d ti (0:Int),.d ti x.2]++bG 99 [])),[.obj 0 false (.pr (.kO (.ew 1) 0) (.pr (.dh (.ew 2) 0 [] 0 0 x.1.1) (.d .unit ()))),.obj 0 false (.mp gV wD x.1.2.1),.obj 0 false (.vec 149 pG x.1.2.2)],(List.replicate 107 [])⟩)
abbrev aK.L0.Y1:=Int
abbrev aK.L0.X1:=(iM×Nat×(List (ir×na))×(List mN))×(Int)
def aK.L0.kI:aK.L0.X1->Exit×AS:=λx=>(.exit 0,⟨([.ptr (.ew 0) 0 [] 0,.undef,.undef,.undef,.gE jP x.1.1]++bG 4 ([.d ti x.2]++bG 97 [])),[.obj 0 false (.pr (.kO (.ew 1) 0) (.pr (.dh (.ew 2) 0 [] 0 0 x.1.2.1) (.d .unit ()))),.obj 0 false (.mp gV wD x.1.2.2.1),.obj 0 false (.vec 149 pG x.1.2.2.2)],(List.replicate 107 [])⟩)
abbrev aK.L0.X:=(aK.L0.X0)⊕(aK.L0.X1)
abbrev aK.L0.Y:=(aK.L0.Y0)⊕(aK.L0.Y1)
def aK.L0.out:aK.L0.X->Out (Exit×AS):=λx=> .br x.isLeft (.get x.getLeft? λa=> .ok (aK.L0.bV a)) (.get x.getRight? λb=> .ok (aK.L0.kI b))
def aK.L0.add:aK.L0.D->aK.L0.Y->aK.L0.X:=λ(kZ,wE,np,t35,t36,t37,o0L,ow,tc,n8) y=>match y with | .inl y=> .inl ((o0L,ow,tc),y) | .inr z=> .inr (((wE,o0L,ow,tc),z))
abbrev aK.L1.D:=iM×Int×(List ir)×Int×Int×Nat×(List (ir×na))×(List mN)
def aK.L1.st:aK.L1.D->AS:=λ(Bo,AB,t75,t76,t77,pP,uz,uA)=>⟨([.ptr (.ew 0) 0 [] 0,.undef,.undef,.undef,.gE jP Bo]++bG 4 ([.d ti AB]++bG 65 ([.d (.slice gV) t75,.d ti t76,.d ti t77]++bG 29 []))),[.obj 0 false (.pr (.kO (.ew 1) 0) (.pr (.dh (.ew 2) 0 [] 0 0 pP) (.d .unit ()))),.obj 0 false (.mp gV wD uz),.obj 0 false (.vec 149 pG uA)],(List.replicate 107 [])⟩
abbrev aK.L1.Y0:=Unit
abbrev aK.L1.X0:=Nat×(List (ir×na))×(List mN)
def aK.L1.bV:aK.L1.X0->Exit×AS:=λx=>(.ret,⟨(bG 6 ([.d ti (0:Int),.d ti (4:Int)]++bG 99 [])),[.obj 0 false (.pr (.kO (.ew 1) 0) (.pr (.dh (.ew 2) 0 [] 0 0 x.1) (.d .unit ()))),.obj 0 false (.mp gV wD x.2.1),.obj 0 false (.vec 149 pG x.2.2)],(List.replicate 107 [])⟩)
abbrev aK.L1.Y1:=Unit
abbrev aK.L1.X1:=iM×Int×Nat×(List (ir×na))×(List mN)
def aK.L1.kI:aK.L1.X1->Exit×AS:=λx=>(.exit 2,⟨(bG 4 ([.gE jP x.1]++bG 4 ([.d ti x.2.1]++bG 97 []))),[.obj 0 false (.pr (.kO (.ew 1) 0) (.pr (.dh (.ew 2) 0 [] 0 0 x.2.2.1) (.d .unit ()))),.obj 0 false (.mp gV wD x.2.2.2.1),.obj 0 false (.vec 149 pG x.2.2.2.2)],(List.replicate 107 [])⟩)
abbrev aK.L1.X:=(aK.L1.X0)⊕(aK.L1.X1)
abbrev aK.L1.Y:=(aK.L1.Y0)⊕(aK.L1.Y1)
def aK.L1.out:aK.L1.X->Out (Exit×AS):=λx=> .br x.isLeft (.get x.getLeft? λa=> .ok (aK.L1.bV a)) (.get x.getRight? λb=> .ok (aK.L1.kI b))
def aK.L1.add:aK.L1.D->aK.L1.Y->aK.L1.X:=λ(Bo,AB,t75,t76,t77,pP,uz,uA) y=>match y with | .inl y=> .inl (pP,uz,uA) | .inr z=> .inr ((Bo,AB,pP,uz,uA))
abbrev aK.L2.D:=Int×(List kF)×Int×Int×Nat×(List (ir×na))×(List mN)
def aK.L2.st:aK.L2.D->AS:=λ(B7,t93,t94,t95,AX,HJ,HK)=>⟨(bG 9 ([.d ti B7]++bG 83 ([.d (.slice lg) t93,.d ti t94,.d ti t95]++bG 11 []))),[.obj 0 false (.pr (.kO (.ew 1) 0) (.pr (.dh (.ew 2) 0 [] 0 0 AX) (.d .unit ()))),.obj 0 false (.mp gV wD HJ),.obj 0 false (.vec 149 pG HK)],(List.replicate 107 [])⟩
abbrev aK.L2.Y0:=Int
abbrev aK.L2.X0:=(Nat×(List (ir×na))×(List mN))×(Int)
def aK.L2.bV:aK.L2.X0->Exit×AS:=λx=>(.exit 4,⟨(bG 9 ([.d ti x.2]++bG 97 [])),[.obj 0 false (.pr (.kO (.ew 1) 0) (.pr (.dh (.ew 2) 0 [] 0 0 x.1.1) (.d .unit ()))),.obj 0 false (.mp gV wD x.1.2.1),.obj 0 false (.vec 149 pG x.1.2.2)],(List.replicate 107 [])⟩)
abbrev aK.L2.X:=aK.L2.X0
abbrev aK.L2.Y:=aK.L2.Y0
def aK.L2.out:aK.L2.X->Out (Exit×AS):=λx=> .ok (aK.L2.bV x)
def aK.L2.add:aK.L2.D->aK.L2.Y->aK.L2.X:=λ(B7,t93,t94,t95,AX,HJ,HK) y=>((AX,HJ,HK),y)
abbrev aK.D:=iM×Int×Nat×(List (ir×na))×(List mN)
def aK.st:aK.D->SA:=λ(t,height,o0baL,o1,o2)=>([.ptr (.ew 0) 0 [] 0,.d jP t,.d ti height],[.obj 0 false (.pr (.kO (.ew 1) 0) (.pr (.dh (.ew 2) 0 [] 0 0 o0baL) (.d .unit ()))),.obj 0 false (.mp gV wD o1),.obj 0 false (.vec 149 pG o2)])
abbrev aK.Y:=Int×Int×Nat×(List (ir×na))×(List mN)
abbrev aK.X:=Int×Int×Nat×(List (ir×na))×(List mN)
def aK.out:aK.X->aZ:=λx=>⟨.cons (.d ti x.1) (.cons (.d ti x.2.1) (.nil)),[.obj 0 false (.pr (.kO (.ew 1) 0) (.pr (.dh (.ew 2) 0 [] 0 0 x.2.2.1) (.d .unit ()))),.obj 0 false (.mp gV wD x.2.2.2.1),.obj 0 false (.vec 149 pG x.2.2.2.2)],[]⟩
def aK.add:aK.D->aK.Y->aK.X:=λ(t,height,o0baL,o1,o2) y=>y
def rO(h:Int)(id:List Int)(a:List (ir×na)):List kX->Int->Int⊕Int
 |[],np=> .inr np
 |x::l,np=>match fj gV x.1 a with
  |none=> .inl 5
  |some c=>if tt c.1.2.1 x.2.1 id h (h - c.2.1)≠0 then .inl (tt c.1.2.1 x.2.1 id h (h - c.2.1)) else rO h id a l (np+c.1.1)
def pd(a:List (ir×na))(o:ir):Bool:=(fj gV o a).isSome
def mc(l:List kF):Int:=(l.map (·.1)).sum
def mU(t:iM)(h:Int)(a:List (ir×na)):Int×Int:=
 if jQ t=true/\1<=h/\h<=1048576 then
  match rO h (mD t) a t.1 0 with
  | .inl e=>(0,e)
  | .inr np=>if(gq t).any (pd a)=true then(0,4) else if np - mc t.2.1 < 0 then(0,8) else(np - mc t.2.1,0)
 else(0,1)
def aK.L0.aw:aK.L0.D->Prop:=λ(h,_,np,l,n,i,_,a,_,id)=>(0<=h/\h<=1048576)/\Sm id/\l.length<=64/\(∀x∈l,WZ x)/\JO a/\∃k:Nat,k<=l.length/\i=k/\n=l.length/\0<=np/\np<=(k:Int)*1125899906842624
def aK.L0.F:aK.L0.D->aK.L0.Y:=λ(h,_,np,l,_,i,_,a,_,id)=>rO h id a (l.drop i.toNat) np
def aK.L1.aw:aK.L1.D->Prop:=λ(_,_,l,n,i,_,_,_)=>l.length<=1000/\∃k:Nat,k<=l.length/\i=k/\n=l.length
def aK.L1.F:aK.L1.D->aK.L1.Y:=λ(_,_,l,_,i,_,a,_)=>if(l.drop i.toNat).any (pd a)=true then .inl () else .inr ()
def aK.L2.aw:aK.L2.D->Prop:=λ(np,l,n,i,_,_,_)=>l.length<=64/\(∀o∈l,0<=o.1/\o.1<=1125899906842624)/\∃k:Nat,k<=l.length/\i=k/\n=l.length/\ -((k:Int)*1125899906842624)<=np/\np<=1000000000000000000
def aK.L2.F:aK.L2.D->aK.L2.Y:=λ(np,l,_,i,_,_,_)=>np - mc (l.drop i.toNat)
def aK.aw:aK.D->Prop:=λ(t,_,_,a,_)=>tZ t/\JO a
def aK.F:aK.D->aK.Y:=λ(t,h,n,a,s)=>((mU t h a).1,(mU t h a).2,n,a,s)
def aK.G:fD:=gz (P:=Tryz.prog) [aD.sg,tid.sg,cq.sg,cP.sg]
def aK.L0.E:=cV.dp aK.L0.st aK.L0.aw aK.L0.add aK.L0.F aK.L0.out
def aK.L0.call:aK.L0.D->Option aK.L0.X:=eI aK.L0.E aK.L0.st
def aK.L1.E:=cV.dp aK.L1.st aK.L1.aw aK.L1.add aK.L1.F aK.L1.out
def aK.L1.call:aK.L1.D->Option aK.L1.X:=eI aK.L1.E aK.L1.st
def aK.L2.E:=cV.dp aK.L2.st aK.L2.aw aK.L2.add aK.L2.F aK.L2.out
def aK.L2.call:aK.L2.D->Option aK.L2.X:=eI aK.L2.E aK.L2.st
def aK.an:fT:= {loops:=oF [(5,{bS:=[0,2,4,8,9,35,36,37],sites:=[8]}),(16,{bS:=[0,4,9,75,76,77]}),(23,{bS:=[9,93,94,95]})],outs:=oE [(5,{bS:=[0,4,9]},{bS:=[6,7]}),(16,{bS:=[4,9]},{bS:=[6,7]}),(23,{bS:=[9]},{bS:=[6,7]})],jw:=pL [(5,aK.L0.E),(16,aK.L1.E),(23,aK.L2.E)]}
def aK.A:= @dq Tryz.prog aK.G aK.an 0 Tryz.f21 _ aK.st
abbrev aK.Ok:=dr @aK.A aK.aw aK.add aK.F aK.out
def aK.L0.R:= @dn Tryz.prog aK.G aK.an 0 Tryz.f21 0 _ aK.L0.st
abbrev aK.L0.Ok:=gw Tryz.prog aK.G aK.an 0 Tryz.f21 0 aK.L0.st aK.L0.aw aK.L0.add aK.L0.F aK.L0.out
def aK.L1.R:= @dn Tryz.prog aK.G aK.an 0 Tryz.f21 1 _ aK.L1.st
abbrev aK.L1.Ok:=gw Tryz.prog aK.G aK.an 0 Tryz.f21 1 aK.L1.st aK.L1.aw aK.L1.add aK.L1.F aK.L1.out
def aK.L2.R:= @dn Tryz.prog aK.G aK.an 0 Tryz.f21 2 _ aK.L2.st
abbrev aK.L2.Ok:=gw Tryz.prog aK.G aK.an 0 Tryz.f21 2 aK.L2.st aK.L2.aw aK.L2.add aK.L2.F aK.L2.out
theorem aK.L0.run:cl aK.L0.call aK.L0.aw aK.L0.add aK.L0.F:=gT (gS [.d ti,.d jP,.d ti,.d (.slice kj),.d ti,.d ti,.n,.d (.slice (.pair gV wD)),.d (.slice pG),.d tB] λ_=>by kernel_rfl)
theorem aK.L0.aI:sB @aK.L0.R aK.L0.st aK.L0.aw aK.L0.add aK.L0.F aK.L0.out aK.L0.Ok:=s8
theorem aK.L0.step{R:Type}(kZ:Int)(wE:iM)(np:Int)(t35:(List kX))(t36:Int)(t37:Int)(o0L:Nat)(ow:(List (ir×na)))(tc:(List mN))(n8:Bs)(kn:AS->Option R)(kx:Exit->AS->Option R):aK.L0.R (kZ,wE,np,t35,t36,t37,o0L,ow,tc,n8) kn kx=
  aJ ((jK t37 t36)) (
   aJ (fp t37 (((List.length t35):Nat):Int)) (
   aJ ((!(fj gV (nth kj t35 (Int.toNat t37)).1 ow).isSome)) (
    kx (aK.L0.bV ((o0L,ow,tc),(5:Int))).1 (aK.L0.bV ((o0L,ow,tc),(5:Int))).2) (
    aj (cq.call (((fj gV (nth kj t35 (Int.toNat t37)).1 ow).getD (((0:Int),((([]:List qy),()),())),((0:Int),()))).1.2.1,(nth kj t35 (Int.toNat t37)).2.1,n8,kZ,(cY .i64 kZ ((fj gV (nth kj t35 (Int.toNat t37)).1 ow).getD (((0:Int),((([]:List qy),()),())),((0:Int),()))).2.1))) λx1=>
    aJ ((rN x1 (0:Int))) (
     kx (aK.L0.bV ((o0L,ow,tc),x1)).1 (aK.L0.bV ((o0L,ow,tc),x1)).2) (
     kn (aK.L0.st (kZ,wE,(bO .i64 np ((fj gV (nth kj t35 (Int.toNat t37)).1 ow).getD (((0:Int),((([]:List qy),()),())),((0:Int),()))).1.1),t35,t36,(bO .i64 t37 (1:Int)),o0L,ow,tc,n8))))) none) (
   kx (aK.L0.kI ((wE,o0L,ow,tc),np)).1 (aK.L0.kI ((wE,o0L,ow,tc),np)).2):=by kernel_rfl
theorem aK.L1.run:cl aK.L1.call aK.L1.aw aK.L1.add aK.L1.F:=gT (gS [.d jP,.d ti,.d (.slice gV),.d ti,.d ti,.n,.d (.slice (.pair gV wD)),.d (.slice pG)] λ_=>by kernel_rfl)
theorem aK.L1.aI:sB @aK.L1.R aK.L1.st aK.L1.aw aK.L1.add aK.L1.F aK.L1.out aK.L1.Ok:=s8
theorem aK.L1.step{R:Type}(Bo:iM)(AB:Int)(t75:(List ir))(t76:Int)(t77:Int)(pP:Nat)(uz:(List (ir×na)))(uA:(List mN))(kn:AS->Option R)(kx:Exit->AS->Option R):aK.L1.R (Bo,AB,t75,t76,t77,pP,uz,uA) kn kx=
  aJ ((jK t77 t76)) (
   aJ (fp t77 (((List.length t75):Nat):Int)) (
   aJ ((fj gV (nth gV t75 (Int.toNat t77)) uz).isSome) (
    kx (aK.L1.bV (pP,uz,uA)).1 (aK.L1.bV (pP,uz,uA)).2) (
    kn (aK.L1.st (Bo,AB,t75,t76,(bO .i64 t77 (1:Int)),pP,uz,uA)))) none) (
   kx (aK.L1.kI (Bo,AB,pP,uz,uA)).1 (aK.L1.kI (Bo,AB,pP,uz,uA)).2):=by kernel_rfl
theorem aK.L2.run:cl aK.L2.call aK.L2.aw aK.L2.add aK.L2.F:=gT (gS [.d ti,.d (.slice lg),.d ti,.d ti,.n,.d (.slice (.pair gV wD)),.d (.slice pG)] λ_=>by kernel_rfl)
theorem aK.L2.aI:jk @aK.L2.R aK.L2.st aK.L2.aw aK.L2.add aK.L2.F aK.L2.bV aK.L2.Ok:=jm
theorem aK.L2.step{R:Type}(B7:Int)(t93:(List kF))(t94:Int)(t95:Int)(AX:Nat)(HJ:(List (ir×na)))(HK:(List mN))(kn:AS->Option R)(kx:Exit->AS->Option R):aK.L2.R (B7,t93,t94,t95,AX,HJ,HK) kn kx=
  aJ ((jK t95 t94)) (
   aJ (fp t95 (((List.length t93):Nat):Int)) (
   kn (aK.L2.st ((cY .i64 B7 (nth lg t93 (Int.toNat t95)).1),t93,t94,(bO .i64 t95 (1:Int)),AX,HJ,HK))) none) (
   kx (aK.L2.bV ((AX,HJ,HK),B7)).1 (aK.L2.bV ((AX,HJ,HK),B7)).2):=by kernel_rfl
theorem aK.eq{R:Type}(t:iM)(height:Int)(o0baL:Nat)(o1:(List (ir×na)))(o2:(List mN))(k:aZ->Option R):aK.A (t,height,o0baL,o1,o2) k=
  aj (aD.call t) λx1=>
  aJ ((!x1)) (
   k (aK.out ((0:Int),(1:Int),o0baL,o1,o2))) (
   aJ ((jK height (1:Int))) (
    k (aK.out ((0:Int),(1:Int),o0baL,o1,o2))) (
    aJ ((so height (1048576:Int))) (
     k (aK.out ((0:Int),(1:Int),o0baL,o1,o2))) (
     aj (tid.call t) λx2=>
     aj (aK.L0.call (height,t,(0:Int),t.1,(((List.length t.1):Nat):Int),(0:Int),o0baL,o1,o2,x2)) λx4=>
     aJ (x4.isLeft) (
      aj (x4.getLeft?) λa5=>
      k (aK.out ((0:Int),a5.2,a5.1.1,a5.1.2.1,a5.1.2.2))) (
      aj (x4.getRight?) λb6=>
      aj (cP.call b6.1.1) λx7=>
      aj (aK.L1.call (b6.1.1,b6.2,x7,(((List.length x7):Nat):Int),(0:Int),b6.1.2.1,b6.1.2.2.1,b6.1.2.2.2)) λx8=>
      aJ (x8.isLeft) (
       aj (x8.getLeft?) λa9=>
       k (aK.out ((0:Int),(4:Int),a9.1,a9.2.1,a9.2.2))) (
       aj (x8.getRight?) λb10=>
       aj (aK.L2.call (b10.2.1,b10.1.2.1,(((List.length b10.1.2.1):Nat):Int),(0:Int),b10.2.2.1,b10.2.2.2.1,b10.2.2.2.2)) λBL=>
       aJ ((jK BL.2 (0:Int))) (
        k (aK.out ((0:Int),(8:Int),BL.1.1,BL.1.2.1,BL.1.2.2))) (
        k (aK.out (BL.2,(0:Int),BL.1.1,BL.1.2.1,BL.1.2.2)))))))):=by kernel_rfl
theorem aK.L0.ok:aK.L0.Ok:=by
 refine aK.L0.aI (λ(_,_,_,l,_,i,_,_,_,_)=>l.length - i.toNat) ?_
 rintro⟨h,t,np,l,n,i,o,a,s,id⟩ ⟨⟨VF,VG⟩,eZ,hl,hu,ha,k,hk,rfl,rfl,TR,TS⟩
 have VF:0<=h:=VF
 have VG:h<=1048576:=VG
 have hl:l.length<=64:=hl
 have TR:0<=np:=TR
 have TS:np<=(k:Int)*1125899906842624:=TS
 have hk:k<=l.length:=hk
 by_cases mw:k < l.length
 ·have hx:=hu _ (List.getElem_mem mw)
  have n1:nth kj l k=l[k]:=dP (t:=kj) mw
  have hd:l.drop k=l[k]::l.drop (k+1):=aA mw
  cases hg:fj gV l[k].1 a with
  |none=>
   right
   refine⟨aK.L0.bV ((o,a,s),5),?_,λkn kx=> ?_⟩
   rotate_left
   ·rw[aK.L0.step,bI (by omega),ah,bF (by omega) (by omega),ah,aa,n1,hg]
    simp only[Option.isSome_none,gk,ah]
   ·simp only[aK.L0.add,aK.L0.F,aa,hd,rO,hg]
    rfl
  |some c=>
   have hc:=ha.get hg
   obtain⟨c1,c2,c3,c4,c5,c6⟩:=hc
   have vF:∀ {R:Type} (kn:AS->Option R) (kx:Exit->AS->Option R),aK.L0.R (h,t,np,l,(l.length:Int),(k:Int),o,a,s,id) kn kx=
     aJ (rN (tt c.1.2.1 l[k].2.1 id h (h - c.2.1)) 0) (kx (aK.L0.bV ((o,a,s),tt c.1.2.1 l[k].2.1 id h (h - c.2.1))).1 (aK.L0.bV ((o,a,s),tt c.1.2.1 l[k].2.1 id h (h - c.2.1))).2)
      (kn (aK.L0.st (h,t,np+c.1.1,l,(l.length:Int),((k+1:Nat):Int),o,a,s,id))):=λkn kx=>by
    rw[aK.L0.step,bI (by omega),ah,bF (by omega) (by omega),ah,aa,n1,hg]
    simp only[Option.isSome_some,bY,ai,gj]
    rw[gm (by omega) (by omega),cq.run (d:=(c.1.2.1,l[k].2.1,id,h,h - c.2.1)) ⟨c2,by have:=zX c1;omega,hx.2.1,eZ⟩]
    simp only[ab,cq.add,cq.F]
    rw[ff (by omega) (by omega),N.pJ (by omega)]
   by_cases he:tt c.1.2.1 l[k].2.1 id h (h - c.2.1)=0
   ·left
    refine⟨(h,t,np+c.1.1,l,(l.length:Int),((k+1:Nat):Int),o,a,s,id),⟨⟨VF,VG⟩,eZ,hl,hu,ha,k+1,by omega,rfl,rfl,by show 0<=np+c.1.1;omega,by show np+c.1.1<=_;omega⟩,by simp only[aa];omega,?_,λkn kx=> ?_⟩
    ·simp only[aK.L0.add,aK.L0.F,aa,hd,rO,hg,he,ne_eq,not_true_eq_false,if_false]
    ·rw[vF,gK he,ai]
   ·right
    refine⟨aK.L0.bV ((o,a,s),tt c.1.2.1 l[k].2.1 id h (h - c.2.1)),?_,λkn kx=> ?_⟩
    rotate_left
    ·rw[vF,kN he,ah]
    ·simp only[aK.L0.add,aK.L0.F,aa,hd,rO,hg]
     rw[if_pos he]
     rfl
 ·right
  obtain rfl:k=l.length:=by omega
  refine⟨aK.L0.kI ((t,o,a,s),np),?_,λkn kx=> ?_⟩
  rotate_left
  ·rw[aK.L0.step,bp (by omega),ai]
  ·simp only[aK.L0.add,aK.L0.F,aa,bH,rO]
   rfl
theorem aK.L1.ok:aK.L1.Ok:=by
 refine aK.L1.aI (λ(_,_,l,_,i,_,_,_)=>l.length - i.toNat) ?_
 rintro⟨t,np,l,n,i,o,a,s⟩ ⟨hl,k,hk,rfl,rfl⟩
 have hl:l.length<=1000:=hl
 have hk:k<=l.length:=hk
 by_cases mw:k < l.length
 ·have n1:nth gV l k=l[k]:=dP (t:=gV) mw
  have hd:l.drop k=l[k]::l.drop (k+1):=aA mw
  cases hg:(fj gV l[k] a).isSome with
  |true=>
   right
   refine⟨aK.L1.bV (o,a,s),?_,λkn kx=> ?_⟩
   rotate_left
   ·rw[aK.L1.step,bI (by omega),ah,bF (by omega) (by omega),ah,aa,n1,hg,ah]
   ·simp only[aK.L1.add,aK.L1.F,aa,hd,nj,pd,hg,Bool.true_or,if_true]
    rfl
  |false=>
   left
   refine⟨(t,np,l,(l.length:Int),((k+1:Nat):Int),o,a,s),⟨hl,k+1,by omega,rfl,rfl⟩,by simp only[aa];omega,?_,λkn kx=> ?_⟩
   ·simp only[aK.L1.add,aK.L1.F,aa,hd,nj,pd,hg,Bool.false_or]
   ·rw[aK.L1.step,bI (by omega),ah,bF (by omega) (by omega),ah,aa,n1,hg,ai,N.pJ (by omega)]
 ·right
  obtain rfl:k=l.length:=by omega
  refine⟨aK.L1.kI (t,np,o,a,s),?_,λkn kx=> ?_⟩
  rotate_left
  ·rw[aK.L1.step,bp (by omega),ai]
  ·simp only[aK.L1.add,aK.L1.F,aa,bH,List.any_nil,cF,if_false]
   rfl
theorem aK.L2.ok:aK.L2.Ok:=by
 refine aK.L2.aI (λ(_,l,_,i,_,_,_)=>l.length - i.toNat) ?_
 rintro⟨np,l,n,i,o,a,s⟩ ⟨hl,ho,k,hk,rfl,rfl,TR,TS⟩
 have hl:l.length<=64:=hl
 have hk:k<=l.length:=hk
 have TR: -((k:Int)*1125899906842624)<=np:=TR
 have TS:np<=1000000000000000000:=TS
 by_cases mw:k < l.length
 ·left
  have n1:nth lg l k=l[k]:=dP (t:=lg) mw
  have hd:l.drop k=l[k]::l.drop (k+1):=aA mw
  have hx:=ho _ (List.getElem_mem mw)
  refine⟨(np - l[k].1,l,(l.length:Int),((k+1:Nat):Int),o,a,s),⟨hl,ho,k+1,by omega,rfl,rfl,by show _<=np - l[k].1;omega,by show np - l[k].1<=_;omega⟩,by simp only[aa];omega,?_,λkn kx=> ?_⟩
  ·simp only[aK.L2.add,aK.L2.F,aa,hd,mc,cG,List.sum_cons]
   rw[Int.sub_sub]
  ·rw[aK.L2.step,bI (by omega),ah,bF (by omega) (by omega),ah,aa,n1,gm (by omega) (by omega),N.pJ (by omega)]
 ·right
  obtain rfl:k=l.length:=by omega
  intro R kn kx
  rw[aK.L2.step,bp (by omega),ai]
  simp only[aK.L2.add,aK.L2.F,aa,bH,mc,jg,List.sum_nil,oc]
theorem sy{t:iM}(h:jQ t=true):(gq t).length=t.2.1.length:=by
 unfold gq
 rw[if_pos h]
 simp[nE]
theorem Cu{h:Int}{id:List Int}{a:List (ir×na)}(ha:JO a):∀(l:List kX) (np f:Int),rO h id a l np= .inr f->np<=f/\f<=np+(l.length:Int)*1125899906842624
 |[],np,f,e=>by simp only[rO,Sum.inr.injEq]at e;subst e;simp
 |x::l,np,f,e=>by
  simp only[rO]at e
  cases hg:fj gV x.1 a with
  |none=>rw[hg]at e;cases e
  |some c=>
   rw[hg]at e
   simp only at e
   split at e
   ·cases e
   ·have hc:=ha.get hg
    have:=Cu ha l _ _ e
    obtain⟨_,_,c3,c4,_⟩:=hc
    rw[aN]
    omega
theorem aK.ok:aK.Ok:=by
 rintro⟨t,h,n,a,s⟩ ⟨hv,ha⟩
 have hv:tZ t:=hv
 have ha:JO a:=ha
 rw[aK.eq,aD.run (d:=t) hv.1]
 simp only[ab,aD.add,aD.F,aK.add,aK.F,mU]
 by_cases jV:jQ t=true
 ·rw[jV,bY,ai]
  obtain⟨⟨_,a2,a3,_⟩,b1,b2⟩:=pH jV
  by_cases h1:1<=h
  ·rw[bp (by omega),ai]
   by_cases h2:h<=1048576
   ·rw[dW (by omega),ai,if_pos ⟨rfl,h1,h2⟩,tid.run (d:=t) hv]
    simp only[ab,tid.add,tid.F]
    rw[aK.L0.run (d:=(h,t,0,t.1,(t.1.length:Int),0,n,a,s,mD t)) ⟨⟨by show 0<=h;omega,h2⟩,Dq,a2,hv.2.1,ha,0,bm _,rfl,rfl,by decide,by decide⟩]
    simp only[ab,aK.L0.add,aK.L0.F,bK,aW]
    cases hi:rO h (mD t) a t.1 0 with
    |inl e=>
     simp only[nL,ah,mr,ab]
    |inr np=>
     have hb:=Cu ha _ _ _ hi
     simp only[iZ,ai,gO,ab]
     rw[cP.run (d:=t) hv]
     simp only[ab,cP.add,cP.F]
     rw[aK.L1.run (d:=(t,np,gq t,((gq t).length:Int),0,n,a,s)) ⟨by rw[sy jV];omega,0,bm _,rfl,rfl⟩]
     simp only[ab,aK.L1.add,aK.L1.F,bK,aW]
     by_cases hm:(gq t).any (pd a)=true
     ·rw[if_pos hm]
      simp only[nL,ah,mr,ab,if_true,hm]
     ·rw[if_neg hm]
      simp only[iZ,ai,gO,ab]
      rw[aK.L2.run (d:=(np,t.2.1,(t.2.1.length:Int),0,n,a,s)) ⟨a3,λo ho=>(pF _ _ b2 o ho).1,0,bm _,rfl,rfl,by show -((0:Int)*_)<=np;omega,by show np<=_;omega⟩]
      simp only[ab,aK.L2.add,aK.L2.F,bK,aW]
      rw[if_neg hm]
      by_cases hf:np - mc t.2.1 < 0
      ·rw[bI hf,ah,if_pos hf]
      ·rw[bp hf,ai,if_neg hf]
   ·rw[fA (by omega),ah,if_neg (λe=>h2 e.2.2)]
  ·rw[bI (by omega),ah,if_neg (λe=>h1 e.2.1)]
 ·have hok':jQ t=false:=by simpa using jV
  rw[hok',gk,ah,if_neg (λe=>by cases e.1)]
def aK.E:=Entry.dp [none,some jP,some ti] aK.st aK.aw aK.add aK.F aK.out
def aK.call:aK.D->Option aK.X:=cj aK.E aK.st
theorem aK.run:cl aK.call aK.aw aK.add aK.F:=dw (du [.d jP,.d ti,.n,.d (.slice (.pair gV wD)),.d (.slice pG)] λ_=>by kernel_rfl)
def aK.sg:SG Tryz.prog:=⟨21,aP,aK.E,.fn 3 (by kernel_rfl) aK.ok (And.intro (.dp aK.L0.ok (by kernel_rfl)) (And.intro (.dp aK.L1.ok (by kernel_rfl)) (And.intro (.dp aK.L2.ok (by kernel_rfl)) trivial)))⟩
def Bg(l:List ir)(a:List (ir×na)):List (ir×na):=l.foldl (λm o=>mz gV o m) a
def iI(l:List Mx)(a:List (ir×na)):List (ir×na):=l.foldl (λm e=>lu gV e.1 e.2.1 m) a
abbrev bE.L0.D:=Int×iM×(List ir)×Int×Int×Nat×(List (ir×na))×(List mN)×Nat×((List ir)×Unit)×(List Mx)
def bE.L0.st:bE.L0.D->AS:=λ(kZ,wE,t28,t29,t30,o0L,ow,tc,DZ,n9,QI)=>⟨([.ptr (.ew 0) 0 [] 0,.undef,.d ti kZ,.undef,.gE jP wE]++bG 4 ([.ptr (.new 9 0) 0 [] 0]++bG 18 ([.d (.slice gV) t28,.d ti t29,.d ti t30]++bG 54 []))),[.obj 0 false (.pr (.kO (.ew 1) 0) (.pr (.dh (.ew 2) 0 [] 0 0 o0L) (.d .unit ()))),.obj 0 false (.mp gV wD ow),.obj 0 false (.vec 149 pG tc)],(db 9 ([[.obj 0 false (.pr (.dh (.new 45 0) 0 [] 0 0 DZ) (.d (.pair (.slice gV) .unit) n9))]]++db 35 ([[.obj 0 false (.vec 151 SC QI)]]++db 39 [])))⟩
abbrev bE.L0.Y0:=(List (ir×na))×Nat×(List Mx)
abbrev bE.L0.X0:=(Int×iM×Nat×(List mN)×((List ir)×Unit))×((List (ir×na))×Nat×(List Mx))
def bE.L0.bV:bE.L0.X0->Exit×AS:=λx=>(.exit 0,⟨([.ptr (.ew 0) 0 [] 0,.undef,.d ti x.1.1,.undef,.gE jP x.1.2.1]++bG 4 ([.ptr (.new 9 0) 0 [] 0]++bG 75 [])),[.obj 0 false (.pr (.kO (.ew 1) 0) (.pr (.dh (.ew 2) 0 [] 0 0 x.1.2.2.1) (.d .unit ()))),.obj 0 false (.mp gV wD x.2.1),.obj 0 false (.vec 149 pG x.1.2.2.2.1)],(db 9 ([[.obj 0 false (.pr (.dh (.new 45 0) 0 [] 0 0 x.2.2.1) (.d (.pair (.slice gV) .unit) x.1.2.2.2.2))]]++db 35 ([[.obj 0 false (.vec 151 SC x.2.2.2)]]++db 39 [])))⟩)
abbrev bE.L0.X:=bE.L0.X0
abbrev bE.L0.Y:=bE.L0.Y0
def bE.L0.out:bE.L0.X->Out (Exit×AS):=λx=> .ok (bE.L0.bV x)
def bE.L0.add:bE.L0.D->bE.L0.Y->bE.L0.X:=λ(kZ,wE,t28,t29,t30,o0L,ow,tc,DZ,n9,QI) y=>((kZ,wE,o0L,tc,n9),y)
abbrev bE.L1.D:=Int×iM×(List ir)×Int×Int×Nat×(List (ir×na))×(List mN)×Nat×((List ir)×Unit)×(List Mx)
def bE.L1.st:bE.L1.D->AS:=λ(uk,Bo,t54,t55,t56,pP,uz,uA,AW,o5,AT)=>⟨([.ptr (.ew 0) 0 [] 0,.undef,.d ti uk,.undef,.gE jP Bo]++bG 4 ([.ptr (.new 9 0) 0 [] 0]++bG 44 ([.d (.slice gV) t54,.d ti t55,.d ti t56]++bG 28 []))),[.obj 0 false (.pr (.kO (.ew 1) 0) (.pr (.dh (.ew 2) 0 [] 0 0 pP) (.d .unit ()))),.obj 0 false (.mp gV wD uz),.obj 0 false (.vec 149 pG uA)],(db 9 ([[.obj 0 false (.pr (.dh (.new 45 0) 0 [] 0 0 AW) (.d (.pair (.slice gV) .unit) o5))]]++db 35 ([[.obj 0 false (.vec 151 SC AT)]]++db 39 [])))⟩
abbrev bE.L1.Y0:=(List (ir×na))
abbrev bE.L1.X0:=(Nat×(List mN)×Nat×((List ir)×Unit)×(List Mx))×((List (ir×na)))
def bE.L1.bV:bE.L1.X0->Exit×AS:=λx=>(.exit 2,⟨([.ptr (.ew 0) 0 [] 0]++bG 8 ([.ptr (.new 9 0) 0 [] 0]++bG 75 [])),[.obj 0 false (.pr (.kO (.ew 1) 0) (.pr (.dh (.ew 2) 0 [] 0 0 x.1.1) (.d .unit ()))),.obj 0 false (.mp gV wD x.2),.obj 0 false (.vec 149 pG x.1.2.1)],(db 9 ([[.obj 0 false (.pr (.dh (.new 45 0) 0 [] 0 0 x.1.2.2.1) (.d (.pair (.slice gV) .unit) x.1.2.2.2.1))]]++db 35 ([[.obj 0 false (.vec 151 SC x.1.2.2.2.2)]]++db 39 [])))⟩)
abbrev bE.L1.X:=bE.L1.X0
abbrev bE.L1.Y:=bE.L1.Y0
def bE.L1.out:bE.L1.X->Out (Exit×AS):=λx=> .ok (bE.L1.bV x)
def bE.L1.add:bE.L1.D->bE.L1.Y->bE.L1.X:=λ(uk,Bo,t54,t55,t56,pP,uz,uA,AW,o5,AT) y=>((pP,uA,AW,o5,AT),y)
abbrev bE.D:=iM×Int×Nat×(List (ir×na))×(List mN)
def bE.st:bE.D->SA:=λ(t,height,o0baL,o1,o2)=>([.ptr (.ew 0) 0 [] 0,.d jP t,.d ti height],[.obj 0 false (.pr (.kO (.ew 1) 0) (.pr (.dh (.ew 2) 0 [] 0 0 o0baL) (.d .unit ()))),.obj 0 false (.mp gV wD o1),.obj 0 false (.vec 149 pG o2)])
abbrev bE.Y:=(Int×Nat×(List (ir×na))×(List mN))⊕(Int×Nat×(List (ir×na))×(List mN))
abbrev bE.X:=(Int×Nat×(List (ir×na))×(List mN))⊕(Int×Nat×(List (ir×na))×(List mN))
def bE.out:bE.X->aZ:=λx=>match x with | .inl x=>⟨.d ti x.1,[.obj 0 false (.pr (.kO (.ew 1) 0) (.pr (.dh (.ew 2) 0 [] 0 0 x.2.1) (.d .unit ()))),.obj 0 false (.mp gV wD x.2.2.1),.obj 0 false (.vec 149 pG x.2.2.2)],[]⟩ | .inr x=>⟨.d ti x.1,[.obj 0 false (.pr (.kO (.ew 1) 0) (.pr (.dh (.ew 2) 1 [] 0 0 x.2.1) (.d .unit ()))),.obj 0 false (.mp gV wD x.2.2.1),.obj 1 false (.vec 149 pG x.2.2.2)],[]⟩
def bE.add:bE.D->bE.Y->bE.X:=λ(t,height,o0baL,o1,o2) y=>match y with | .inl y=> .inl y | .inr y=> .inr y
def AD(a:List (ir×na)):List ir->List Mx
 |[]=> []
 |o::l=>(o,((fj gV o a).getD OK,()))::AD (mz gV o a) l
def zs(h:Int):List ir->List kF->List (ir×na)->List (ir×na)
 |o::l,x::xs,a=>zs h l xs (lu gV o (x,(h,())) a)
 |_,_,a=>a
def stepOf(t:iM)(a:List (ir×na)):mN:=(AD a (gb t),(gq t,()))
def ma(t:iM)(h:Int)(a:List (ir×na)):List (ir×na):=zs h (gq t) t.2.1 (Bg (gb t) a)
def bE.L0.aw:bE.L0.D->Prop:=λ(_,_,l,n,i,_,_,_,gL,_,g)=>l.length<=1000/\∃k:Nat,k<=l.length/\i=k/\n=l.length/\gL=g.length/\g.length=k
def bE.L0.F:bE.L0.D->bE.L0.Y:=λ(_,_,l,_,i,_,a,_,gL,_,g)=>(Bg (l.drop i.toNat) a,gL+(l.drop i.toNat).length,g++AD a (l.drop i.toNat))
def bE.L1.aw:bE.L1.D->Prop:=λ(_,t,l,n,i,_,_,_,_,_,_)=>l.length<=1000/\l.length=t.2.1.length/\(∀o∈t.2.1,Vi o.2.1)/\∃k:Nat,k<=l.length/\i=k/\n=l.length
def bE.L1.F:bE.L1.D->bE.L1.Y:=λ(h,t,l,_,i,_,a,_,_,_,_)=>zs h (l.drop i.toNat) (t.2.1.drop i.toNat) a
def bE.aw:bE.D->Prop:=λ(t,_,n,a,s)=>tZ t/\JO a/\n<=s.length/\s.length<=1000000
def bE.F:bE.D->bE.Y:=λ(t,h,n,a,s)=>if(mU t h a).2≠0 then .inl ((mU t h a).2,n,a,s) else .inr (0,n+1,ma t h a,s.take n++ [stepOf t a])
def bE.G:fD:=gz (P:=Tryz.prog) [aK.sg,cP.sg,bw.sg,eJ.sg]
def bE.L0.E:=cV.dp bE.L0.st bE.L0.aw bE.L0.add bE.L0.F bE.L0.out
def bE.L0.call:bE.L0.D->Option bE.L0.X:=eI bE.L0.E bE.L0.st
def bE.L1.E:=cV.dp bE.L1.st bE.L1.aw bE.L1.add bE.L1.F bE.L1.out
def bE.L1.call:bE.L1.D->Option bE.L1.X:=eI bE.L1.E bE.L1.st
def bE.an:fT:= {loops:=oF [(6,{bS:=[0,2,4,9,28,29,30],sites:=[9,45],nB:=[⟨9,[.fst],45,147⟩]}),(12,{bS:=[0,2,4,9,54,55,56],sites:=[9,45]})],outs:=oE [(6,{bS:=[0,2,4,9],sites:=[9,45]},{bS:=[6]}),(12,{bS:=[0,9],sites:=[9,45]},{bS:=[6]})],jw:=pL [(6,bE.L0.E),(12,bE.L1.E)]}
def bE.A:= @dq Tryz.prog bE.G bE.an 0 Tryz.f22 _ bE.st
abbrev bE.Ok:=dr @bE.A bE.aw bE.add bE.F bE.out
def bE.L0.R:= @dn Tryz.prog bE.G bE.an 0 Tryz.f22 0 _ bE.L0.st
abbrev bE.L0.Ok:=gw Tryz.prog bE.G bE.an 0 Tryz.f22 0 bE.L0.st bE.L0.aw bE.L0.add bE.L0.F bE.L0.out
def bE.L1.R:= @dn Tryz.prog bE.G bE.an 0 Tryz.f22 1 _ bE.L1.st
abbrev bE.L1.Ok:=gw Tryz.prog bE.G bE.an 0 Tryz.f22 1 bE.L1.st bE.L1.aw bE.L1.add bE.L1.F bE.L1.out
theorem bE.L0.run:cl bE.L0.call bE.L0.aw bE.L0.add bE.L0.F:=gT (gS [.d ti,.d jP,.d (.slice gV),.d ti,.d ti,.n,.d (.slice (.pair gV wD)),.d (.slice pG),.n,.d (.pair (.slice gV) .unit),.d (.slice SC)] λ_=>by kernel_rfl)
theorem bE.L0.aI:jk @bE.L0.R bE.L0.st bE.L0.aw bE.L0.add bE.L0.F bE.L0.bV bE.L0.Ok:=jm
theorem bE.L0.step{R:Type}(kZ:Int)(wE:iM)(t28:(List ir))(t29:Int)(t30:Int)(o0L:Nat)(ow:(List (ir×na)))(tc:(List mN))(DZ:Nat)(n9:((List ir)×Unit))(QI:(List Mx))(kn:AS->Option R)(kx:Exit->AS->Option R):bE.L0.R (kZ,wE,t28,t29,t30,o0L,ow,tc,DZ,n9,QI) kn kx=
  aJ ((jK t30 t29)) (
   aJ (fp t30 (((List.length t28):Nat):Int)) (
   aJ (decide (DZ<=(List.length QI))) (
   aJ (fk (DZ+1) 80) (
   kn (bE.L0.st (kZ,wE,t28,t29,(bO .i64 t30 (1:Int)),o0L,(mz gV (nth gV t28 (Int.toNat t30)) ow),tc,(DZ+1),n9,((List.take DZ QI)++ [((nth gV t28 (Int.toNat t30)),(((fj gV (nth gV t28 (Int.toNat t30)) ow).getD (((0:Int),((([]:List qy),()),())),((0:Int),()))),()))])))) none) none) none) (
   kx (bE.L0.bV ((kZ,wE,o0L,tc,n9),(ow,DZ,QI))).1 (bE.L0.bV ((kZ,wE,o0L,tc,n9),(ow,DZ,QI))).2):=by kernel_rfl
theorem bE.L1.run:cl bE.L1.call bE.L1.aw bE.L1.add bE.L1.F:=gT (gS [.d ti,.d jP,.d (.slice gV),.d ti,.d ti,.n,.d (.slice (.pair gV wD)),.d (.slice pG),.n,.d (.pair (.slice gV) .unit),.d (.slice SC)] λ_=>by kernel_rfl)
theorem bE.L1.aI:jk @bE.L1.R bE.L1.st bE.L1.aw bE.L1.add bE.L1.F bE.L1.bV bE.L1.Ok:=jm
theorem bE.L1.step{R:Type}(uk:Int)(Bo:iM)(t54:(List ir))(t55:Int)(t56:Int)(pP:Nat)(uz:(List (ir×na)))(uA:(List mN))(AW:Nat)(o5:((List ir)×Unit))(AT:(List Mx))(kn:AS->Option R)(kx:Exit->AS->Option R):bE.L1.R (uk,Bo,t54,t55,t56,pP,uz,uA,AW,o5,AT) kn kx=
  aJ ((jK t56 t55)) (
   aJ (fp t56 (((List.length t54):Nat):Int)) (
   aJ (fp t56 (((List.length Bo.2.1):Nat):Int)) (
   aj (eJ.call (nth lg Bo.2.1 (Int.toNat t56))) λx1=>
   kn (bE.L1.st (uk,Bo,t54,t55,(bO .i64 t56 (1:Int)),pP,(lu gV (nth gV t54 (Int.toNat t56)) (x1,(uk,())) uz),uA,AW,o5,AT))) none) none) (
   kx (bE.L1.bV ((pP,uA,AW,o5,AT),uz)).1 (bE.L1.bV ((pP,uA,AW,o5,AT),uz)).2):=by kernel_rfl
theorem bE.eq{R:Type}(t:iM)(height:Int)(o0baL:Nat)(o1:(List (ir×na)))(o2:(List mN))(k:aZ->Option R):bE.A (t,height,o0baL,o1,o2) k=
  aj (aK.call (t,height,o0baL,o1,o2)) λx1=>
  aJ ((rN x1.2.1 (0:Int))) (
   k (bE.out (.inl (x1.2.1,x1.2.2.1,x1.2.2.2.1,x1.2.2.2.2)))) (
   aj (cP.call t) λx2=>
   aj (bw.call t) λx3=>
   aj (bE.L0.call (height,t,x3,(((List.length x3):Nat):Int),(0:Int),x1.2.2.1,x1.2.2.2.1,x1.2.2.2.2,0,(x2,()),([]:List Mx))) λx4=>
   aj (bE.L1.call (x4.1.1,x4.1.2.1,x4.1.2.2.2.2.1,(((List.length x4.1.2.2.2.2.1):Nat):Int),(0:Int),x4.1.2.2.1,x4.2.1,x4.1.2.2.2.1,x4.2.2.1,x4.1.2.2.2.2,x4.2.2.2)) λx6=>
   aJ (decide (0=0/\(0+x6.1.2.2.1)<=(List.length x6.1.2.2.2.2))) (
   aJ (decide (x6.1.1<=(List.length x6.1.2.1))) (
   aJ (fk (x6.1.1+1) 48) (
   k (bE.out (.inr ((0:Int),(x6.1.1+1),x6.2,((List.take x6.1.1 x6.1.2.1)++ [((cut x6.1.2.2.2.2 0 x6.1.2.2.1),x6.1.2.2.2.1)]))))) none) none) none):=by kernel_rfl
theorem bE.L0.ok:bE.L0.Ok:=by
 refine bE.L0.aI (λ(_,_,l,_,i,_,_,_,_,_,_)=>l.length - i.toNat) ?_
 rintro⟨h,t,l,n,i,o,a,s,gL,u,g⟩ ⟨hl,k,hk,rfl,rfl,rfl,hg⟩
 have hl:l.length<=1000:=hl
 have hk:k<=l.length:=hk
 have hg:g.length=k:=hg
 by_cases mw:k < l.length
 ·left
  have n1:nth gV l k=l[k]:=dP (t:=gV) mw
  have hd:l.drop k=l[k]::l.drop (k+1):=aA mw
  refine⟨(h,t,l,(l.length:Int),((k+1:Nat):Int),o,mz gV l[k] a,s,g.length+1,u,g++ [(l[k],((fj gV l[k] a).getD OK,()))]),⟨hl,k+1,by omega,rfl,rfl,by simp,by simp[hg]⟩,by simp only[aa];omega,?_,λkn kx=> ?_⟩
  ·simp only[bE.L0.add,bE.L0.F,aa,hd,Bg,iv,AD,bR,eS,aN]
   rw[show g.length+1+(l.drop (k+1)).length=g.length+((l.drop (k+1)).length+1) by omega]
  ·rw[bE.L0.step,bI (by omega),ah,bF (by omega) (by omega),ah,aO (aC _),ah,fV (by omega) (by omega),ah,aa,n1,N.pJ (by omega),cz]
   rfl
 ·right
  obtain rfl:k=l.length:=by omega
  intro R kn kx
  rw[bE.L0.step,bp (by omega),ai]
  simp only[bE.L0.add,bE.L0.F,aa,bH,Bg,List.foldl_nil,AD,dg,bJ,dE]
theorem bE.L1.ok:bE.L1.Ok:=by
 refine bE.L1.aI (λ(_,_,l,_,i,_,_,_,_,_,_)=>l.length - i.toNat) ?_
 rintro⟨h,t,l,n,i,o,a,s,gL,u,g⟩ ⟨hl,he,hb,k,hk,rfl,rfl⟩
 have hl:l.length<=1000:=hl
 have he:l.length=t.2.1.length:=he
 have hk:k<=l.length:=hk
 by_cases mw:k < l.length
 ·left
  have RQ:k < t.2.1.length:=by omega
  have n1:nth gV l k=l[k]:=dP (t:=gV) mw
  have n2:nth lg t.2.1 k=t.2.1[k]:=dP (t:=lg) RQ
  have hd:l.drop k=l[k]::l.drop (k+1):=aA mw
  have TM:t.2.1.drop k=t.2.1[k]::t.2.1.drop (k+1):=aA RQ
  refine⟨(h,t,l,(l.length:Int),((k+1:Nat):Int),o,lu gV l[k] (t.2.1[k],(h,())) a,s,gL,u,g),⟨hl,he,hb,k+1,by omega,rfl,rfl⟩,by simp only[aa];omega,?_,λkn kx=> ?_⟩
  ·simp only[bE.L1.add,bE.L1.F,aa,hd,TM,zs]
  ·rw[bE.L1.step,bI (by omega),ah,bF (by omega) (by omega),ah,bF (by omega) (by omega),ah,aa,n1,n2,eJ.run (d:=t.2.1[k]) (hb _ (List.getElem_mem RQ))]
   simp only[ab,eJ.add,eJ.F]
   rw[N.pJ (by omega)]
 ·right
  obtain rfl:k=l.length:=by omega
  intro R kn kx
  rw[bE.L1.step,bp (by omega),ai]
  simp only[bE.L1.add,bE.L1.F,aa,bH,zs]
theorem Em{t:iM}{h:Int}{a:List (ir×na)}(e:(mU t h a).2=0):jQ t=true/\1<=h/\h<=1048576/\∃np,rO h (mD t) a t.1 0= .inr np/\(gq t).any (pd a)=false/\0<=np - mc t.2.1/\mU t h a=(np - mc t.2.1,0):=by
 unfold mU at e ⊢
 by_cases h0:jQ t=true/\1<=h/\h<=1048576
 ·rw[if_pos h0]at e
  rw[if_pos h0]
  refine⟨h0.1,h0.2.1,h0.2.2,?_⟩
  cases hi:rO h (mD t) a t.1 0 with
  |inl x=>
   exfalso
   rw[hi]at e
   simp only at e
   subst e
   have key:∀(l:List kX) (f:Int),rO h (mD t) a l f≠ .inl 0:=by
    intro l
    induction l with
    |nil=>intro f hf;cases hf
    |cons x l ih=>
     intro f hf
     simp only[rO]at hf
     cases hg:fj gV x.1 a with
     |none=>rw[hg]at hf;simp at hf
     |some c=>
      rw[hg]at hf
      simp only at hf
      split at hf
      ·rename_i lh;exact lh (by injection hf)
      ·exact ih _ hf
   exact key _ _ hi
  |inr np=>
   rw[hi]at e
   simp only at e ⊢
   by_cases hm:(gq t).any (pd a)=true
   ·rw[if_pos hm]at e;cases e
   ·rw[if_neg hm]at e
    rw[if_neg hm]
    by_cases hf:np - mc t.2.1 < 0
    ·rw[if_pos hf]at e;cases e
    ·rw[if_neg hf]
     exact⟨np,rfl,by simpa using hm,by omega,rfl⟩
 ·rw[if_neg h0]at e;cases e
theorem G7{t:iM}(h:jQ t=true):(gb t).length=t.1.length:=by
 unfold gb
 rw[if_pos h,b8]
theorem bE.ok:bE.Ok:=by
 rintro⟨t,h,n,a,s⟩ ⟨hv,ha,hn,hs⟩
 have hv:tZ t:=hv
 have ha:JO a:=ha
 have hn:n<=s.length:=hn
 have hs:s.length<=1000000:=hs
 rw[bE.eq,aK.run (d:=(t,h,n,a,s)) ⟨hv,ha⟩]
 simp only[ab,aK.add,aK.F,bE.add,bE.F]
 by_cases he:(mU t h a).2=0
 ·rw[gK he,ai,if_neg (λe=>e he)]
  obtain⟨jV,_,_,_⟩:=Em he
  obtain⟨⟨_,a2,a3,_⟩,b1,b2⟩:=pH jV
  rw[cP.run (d:=t) hv]
  simp only[ab,cP.add,cP.F]
  rw[bw.run (d:=t) hv.1]
  simp only[ab,bw.add,bw.F]
  rw[bE.L0.run (d:=(h,t,gb t,((gb t).length:Int),0,n,a,s,0,(gq t,()),[])) ⟨by rw[G7 jV];omega,0,bm _,rfl,rfl,rfl,rfl⟩]
  simp only[ab,bE.L0.add,bE.L0.F,bK,aW,bu,bl]
  rw[bE.L1.run (d:=(h,t,gq t,((gq t).length:Int),0,n,Bg (gb t) a,s,(gb t).length,(gq t,()),AD a (gb t))) ⟨by rw[sy jV];omega,sy jV,λo ho=>by
   have:=zX (pF _ _ b2 o ho).2
   exact⟨by omega,λb hb=>by have:=this.2 b hb;omega⟩,0,bm _,rfl,rfl⟩]
  simp only[ab,bE.L1.add,bE.L1.F,bK,aW]
  have W8:∀(l:List ir) (a:List (ir×na)),(AD a l).length=l.length:=by
   intro l
   induction l with
   |nil=>intro a;rfl
   |cons o l ih=>intro a;simp[AD,ih]
  rw[aO (by rw[W8];exact⟨trivial,by omega⟩),ah,aO hn,ah,fV (by omega) (by omega),ah,iV (W8 _ _)]
  rfl
 ·rw[kN he,ah,if_pos he]
def bE.E:=Entry.PI [none,some jP,some ti] bE.st bE.aw bE.add bE.F bE.out
def bE.call:bE.D->Option bE.X:=cj bE.E bE.st
theorem bE.run:cl bE.call bE.aw bE.add bE.F:=QT (du [.d jP,.d ti,.n,.d (.slice (.pair gV wD)),.d (.slice pG)] λ_=>by kernel_rfl)
def bE.sg:SG Tryz.prog:=⟨22,aP,bE.E,.XF (.fn 2 (by kernel_rfl) bE.ok (And.intro (.dp bE.L0.ok (by kernel_rfl)) (And.intro (.dp bE.L1.ok (by kernel_rfl)) trivial)))⟩
section
variable {β:Type} {kt:Ty}
theorem Bu(hc:kt.comp=true)(o o':kt.den)(v:β):∀l:List (kt.den×β),fj kt o (lu kt o' v l)=if kt.beq o o'=true then some v else fj kt o l
 |[]=>by rw[EK,jn,uu]
 |p::l=>by
  rw[u7]
  by_cases h:kt.beq o' p.1=true
  ·rw[if_pos h,jn,jn]
   have e:=beq_eq kt _ _ hc h
   by_cases h2:kt.beq o o'=true
   ·rw[if_pos h2,if_pos h2]
   ·rw[if_neg h2,if_neg h2,if_neg (by rw[<-e];exact h2)]
  ·rw[if_neg h,jn,jn,Bu hc o o' v l]
   by_cases h3:kt.beq o p.1=true
   ·rw[if_pos h3,if_pos h3,if_neg]
    intro h4
    apply h
    rw[<-beq_eq kt _ _ hc h4]
    exact h3
   ·rw[if_neg h3,if_neg h3]
theorem Kb(hc:kt.comp=true)(o o':kt.den):∀ {l:List (kt.den×β)},(l.map (·.1)).Nodup->fj kt o (mz kt o' l)=if kt.beq o o'=true then none else fj kt o l
 |[],_=>by rw[LM,uu];split <;> rfl
 |p::l,hn=>by
  rw[cG,fR]at hn
  rw[xT]
  by_cases h:kt.beq o' p.1=true
  ·rw[if_pos h,jn]
   have e:=beq_eq kt _ _ hc h
   by_cases h2:kt.beq o o'=true
   ·rw[if_pos h2]
    have e2:=beq_eq kt _ _ hc h2
    cases hg:fj kt o l with
    |none=>rfl
    |some v=>exact absurd (eb.2 ⟨_,(mA hc hn.2).1 hg,rfl⟩) (by rw[e2,e];exact hn.1)
   ·rw[if_neg h2,if_neg (by rw[<-e];exact h2)]
  ·rw[if_neg h,jn,jn,Kb hc o o' hn.2]
   by_cases h3:kt.beq o p.1=true
   ·rw[if_pos h3,if_pos h3,if_neg]
    intro h4
    apply h
    rw[<-beq_eq kt _ _ hc h4]
    exact h3
   ·rw[if_neg h3,if_neg h3]
theorem get_none(hc:kt.comp=true){o:kt.den}{l:List (kt.den×β)}(hn:(l.map (·.1)).Nodup):fj kt o l=none↔o ∉ l.map (·.1):=by
 constructor
 ·intro h hm
  obtain⟨p,hp,e⟩:=eb.1 hm
  have e:p.1=o:=e
  have:=(mA hc hn (x:=o) (v:=p.2)).2 (by rw[<-e];exact hp)
  rw[h]at this;cases this
 ·intro h
  cases hg:fj kt o l with
  |none=>rfl
  |some v=>exact absurd (eb.2 ⟨_,(mA hc hn).1 hg,rfl⟩) h
theorem xq{l:List (kt.den×β)}(hn:(l.map (·.1)).Nodup):l.Nodup:=by
 induction l with
 |nil=>exact lE
 |cons p l ih=>
  rw[cG,fR]at hn
  exact fR.2 ⟨λh=>hn.1 (eb.2 ⟨p,h,rfl⟩),ih hn.2⟩
theorem HS(hc:kt.comp=true){l l':List (kt.den×β)}(hn:(l.map (·.1)).Nodup)(hn':(l'.map (·.1)).Nodup)(h:∀o,fj kt o l=fj kt o l'):l.Perm l':=by
 rw[List.perm_ext_iff_of_nodup (xq hn) (xq hn')]
 rintro⟨o,v⟩
 rw[<-mA hc hn,<-mA hc hn',h]
end
theorem DF(a b:ir):(Ty.beq gV a b=true)↔a=b:=⟨beq_eq gV a b rfl,λh=>by rw[h];exact beq_refl gV b rfl⟩
abbrev At:=List (ir×na)
abbrev o3(a:At):List ir:=a.map (·.1)
theorem Rw(o o':ir)(v:na)(a:At):fj gV o (lu gV o' v a)=if o=o' then some v else fj gV o a:=by
 rw[Bu l8]
 by_cases h:o=o'
 ·rw[if_pos ((DF _ _).2 h),if_pos h]
 ·rw[if_neg (λe=>h ((DF _ _).1 e)),if_neg h]
theorem Pe(o o':ir){a:At}(hn:(o3 a).Nodup):fj gV o (mz gV o' a)=if o=o' then none else fj gV o a:=by
 rw[Kb l8 _ _ hn]
 by_cases h:o=o'
 ·rw[if_pos ((DF _ _).2 h),if_pos h]
 ·rw[if_neg (λe=>h ((DF _ _).1 e)),if_neg h]
theorem Ch{o:ir}{v:na}{a:At}(hn:(o3 a).Nodup):(o3 (lu gV o v a)).Nodup:=AP l8 hn
theorem sH{o:ir}{a:At}(hn:(o3 a).Nodup):(o3 (mz gV o a)).Nodup:=wg l8 hn
theorem Tw{a a':At}(hn:(o3 a).Nodup)(hn':(o3 a').Nodup)(h:∀o,fj gV o a=fj gV o a'):a.Perm a':=HS l8 hn hn' h
theorem JF{o:ir}{c:na}{a:At}(hn:(o3 a).Nodup)(hg:fj gV o a=some c):a.Perm ((o,c)::mz gV o a):=by
 refine Tw hn ?_ λx=> ?_
 ·show(o::o3 (mz gV o a)).Nodup
  refine fR.2 ⟨?_,sH hn⟩
  have:=(get_none l8 (sH (o:=o) hn)).1 (by rw[Pe o o hn,if_pos rfl])
  exact this
 ·rw[jn,Pe x o hn]
  by_cases h:x=o
  ·subst h;rw[if_pos ((DF _ _).2 rfl),hg]
  ·rw[if_neg (λe=>h ((DF _ _).1 e)),if_neg h]
theorem zB(o:ir)(l:List ir)(a:At):Bg (o::l) a=Bg l (mz gV o a):=rfl
theorem xE:∀(l:List ir) {a:At},(o3 a).Nodup->(o3 (Bg l a)).Nodup
 |[],_,h=>h
 |o::l,a,h=>by rw[zB];exact xE l (sH h)
theorem Ka(x:ir):∀(l:List ir) {a:At},(o3 a).Nodup->fj gV x (Bg l a)=if x∈l then none else fj gV x a
 |[],a,_=>by rw[if_neg (by simp)];rfl
 |o::l,a,h=>by
  rw[zB,Ka x l (sH h),Pe x o h]
  by_cases h1:x∈l
  ·rw[if_pos h1,if_pos (bj _ h1)]
  ·rw[if_neg h1]
   by_cases h2:x=o
   ·rw[if_pos h2,if_pos (by rw[h2];exact bq ..)]
   ·rw[if_neg h2,if_neg (by simp[h1,h2])]
theorem wJ(h:Int)(o:ir)(l:List ir)(x:kF)(xs:List kF)(a:At):zs h (o::l) (x::xs) a=zs h l xs (lu gV o (x,(h,())) a):=rfl
theorem BO(h:Int):∀(l:List ir) (xs:List kF) {a:At},(o3 a).Nodup->(o3 (zs h l xs a)).Nodup
 |[],[],_,hn=>hn
 |[],_::_,_,hn=>hn
 |_::_,[],_,hn=>hn
 |o::l,x::xs,a,hn=>by rw[wJ];exact BO h l xs (Ch hn)
theorem J9(h:Int)(x:ir):∀(l:List ir) (xs:List kF) (a:At),x ∉ l->fj gV x (zs h l xs a)=fj gV x a
 |[],[],_,_=>rfl
 |[],_::_,_,_=>rfl
 |_::_,[],_,_=>rfl
 |o::l,y::xs,a,hx=>by
  rw[wJ,J9 h x l xs _ (λe=>hx (bj _ e)),Rw,if_neg (λe=>hx (by rw[e];exact bq ..))]
theorem GZ(h:Int):∀(l:List ir) (xs:List kF) (a:At),l.Nodup->∀(k:Nat) (hk:k < l.length) (OM:k < xs.length),fj gV l[k] (zs h l xs a)=some (xs[k],(h,()))
 |[],_,_,_,k,hk,_=>by simp at hk
 |_::_,[],_,_,k,_,hk=>by simp at hk
 |o::l,y::xs,a,hn,k,hk,OM=>by
  rw[fR]at hn
  rw[wJ]
  cases k with
  |zero=>
   show fj gV o _=some (y,(h,()))
   rw[J9 h o l xs _ hn.1,Rw,if_pos rfl]
  |succ k=>
   simp only[List.getElem_cons_succ]
   exact GZ h l xs _ hn.2 k (by simpa using hk) (by simpa using OM)
def qs(a:At)(l:List ir):Int:=(l.map λo=>((fj gV o a).getD OK).1.1).sum
theorem GQ:∀(l:List ir) {a:At},(o3 a).Nodup->l.Nodup->(∀o∈l,(fj gV o a).isSome=true)->vE (Bg l a)=vE a - qs a l/\(Bg l a).length+l.length=a.length
 |[],a,_,_,_=>by simp[Bg,qs]
 |o::l,a,hn,hl,ht=>by
  rw[fR]at hl
  obtain⟨c,hc⟩:=dj.1 (ht o (bq ..))
  have hg:∀x∈l,fj gV x (mz gV o a)=fj gV x a:=λx hx=>by
   rw[Pe x o hn,if_neg (λe=>hl.1 (by rw[<-e];exact hx))]
  obtain⟨h1,h2⟩:=GQ l (sH (o:=o) hn) hl.2 λx hx=>by rw[hg x hx];exact ht x (bj _ hx)
  have hp:=JF hn hc
  have h3:=K1 hp
  have h4:=hp.length_eq
  have h5:qs (mz gV o a) l=qs a l:=by
   unfold qs
   congr 1
   exact j5 λx hx=>by rw[hg x hx]
  rw[qE]at h3
  rw[aN]at h4
  rw[zB,h1,h5,aN]
  have h6:qs a (o::l)=c.1.1+qs a l:=by simp[qs,hc]
  rw[h6]
  exact⟨by have h3:vE a=c.1.1+vE (mz gV o a):=h3;omega,by omega⟩
theorem AY(x:kF)(xs:List kF):mc (x::xs)=x.1+mc xs:=by simp[mc]
theorem Gv(h:Int):∀(l:List ir) (xs:List kF) {a:At},(o3 a).Nodup->l.Nodup->l.length=xs.length->(∀o∈l,fj gV o a=none)->vE (zs h l xs a)=vE a+mc xs/\(zs h l xs a).length=a.length+l.length
 |[],[],a,_,_,_,_=>by simp[zs,mc]
 |[],_::_,_,_,_,he,_=>by simp at he
 |_::_,[],_,_,_,he,_=>by simp at he
 |o::l,x::xs,a,hn,hl,he,ht=>by
  rw[fR]at hl
  have h0:=(get_none l8 hn).1 (ht o (bq ..))
  have e:lu gV o (x,(h,())) a=a++ [(o,(x,(h,())))]:=wh l8 h0
  obtain⟨h1,h2⟩:=Gv h l xs (Ch (o:=o) (v:=(x,(h,()))) hn) hl.2 (by simpa using he) λy hy=>by
   rw[Rw,if_neg (λe=>hl.1 (by rw[<-e];exact hy))];exact ht y (bj _ hy)
  rw[wJ,h1,h2,e,Gy,AY,ae]
  simp only[vE,cG,jg,List.sum_cons,List.sum_nil,aN,bJ]
  omega
theorem Cv:∀(l:List kX) (m:List (ir×Bool)),tO m l=true->(l.map (·.1)).Nodup/\∀x∈l,fj gV x.1 m≠some true
 |[],_,_=>⟨lE,λ_ h=>by cases h⟩
 |x::l,m,h=>by
  rw[tO,ak,ak]at h
  obtain⟨⟨h1,_⟩,h2⟩:=h
  obtain⟨h3,h4⟩:=Cv l _ h2
  have hs:∀y∈l,fj gV y.1 (lu gV x.1 true m)≠some true:=h4
  have lh:∀y∈l,y.1≠x.1:=λy hy e=>hs y hy (by rw[Bu l8,if_pos ((DF _ _).2 e)])
  refine⟨?_,λy hy=> ?_⟩
  ·rw[cG,fR]
   refine⟨λhm=> ?_,h3⟩
   obtain⟨y,hy,e⟩:=eb.1 hm
   exact lh y hy e
  ·rcases cH.1 hy with rfl | hy
   ·intro e
    unfold xm at h1
    rw[e]at h1
    cases h1
   ·have:=hs y hy
    rw[Bu l8,if_neg (λe=>lh y hy ((DF _ _).1 e))]at this
    exact this
theorem F7(t:iM):(gb t).Nodup:=by
 unfold gb
 split
 ·rename_i h
  exact(Cv _ _ (pH h).2.1).1
 ·exact lE
theorem CE(t:iM):(gq t).Nodup:=by
 unfold gq
 split
 ·unfold nE
  refine List.Pairwise.map _ (λa b lh e=> ?_) (List.nodup_range' (s:=0) (n:=t.2.1.length) (step:=1))
  have:(a:Int)=b:=congrArg (λo:ir=>o.2.1) e
  exact lh (by omega)
 ·exact lE
theorem xP{h:Int}{id:List Int}{a:At}:∀(l:List kX) (f0 f:Int),rO h id a l f0= .inr f->(∀o∈l.map (·.1),(fj gV o a).isSome=true)/\f=f0+qs a (l.map (·.1))
 |[],f0,f,e=>by simp only[rO,Sum.inr.injEq]at e;subst e;simp[qs]
 |x::l,f0,f,e=>by
  simp only[rO]at e
  cases hg:fj gV x.1 a with
  |none=>rw[hg]at e;cases e
  |some c=>
   rw[hg]at e
   simp only at e
   split at e
   ·cases e
   ·obtain⟨h1,h2⟩:=xP l _ _ e
    refine⟨λo ho=> ?_,?_⟩
    ·rw[cG]at ho
     rcases cH.1 ho with rfl | ho
     ·rw[hg];rfl
     ·exact h1 o ho
    ·rw[h2]
     simp only[qs,cG,List.sum_cons,hg,gj]
     omega
structure tC(t:iM)(h:Int)(a:At)(np:Int):Prop where
 ok:jQ t=true
 h1:1<=h
 h2:h<=1048576
 ins:∃f,rO h (mD t) a t.1 0= .inr f/\np=f - mc t.2.1
 there:∀o∈gb t,(fj gV o a).isSome=true
 made:∀o∈gq t,fj gV o a=none
 Tq:np=qs a (gb t) - mc t.2.1
 pos:0<=np
theorem J3{t:iM}{h:Int}{a:At}(e:(mU t h a).2=0):tC t h a (mU t h a).1:=by
 obtain⟨jV,h1,h2,f,hi,hm,hp,hc⟩:=Em e
 obtain⟨i1,i2⟩:=xP _ _ _ hi
 have hs:gb t=t.1.map (·.1):=by unfold gb;rw[if_pos jV]
 rw[hc]
 refine⟨jV,h1,h2,⟨f,hi,rfl⟩,by rw[hs];exact i1,λo ho=> ?_,by rw[hs,i2];show 0+_ - _=_;omega,hp⟩
 have:=jr.1 hm o ho
 unfold pd at this
 cases hg:fj gV o a with
 |none=>rfl
 |some c=>rw[hg]at this;simp at this
section
variable {t:iM} {h np:Int} {a:At}
theorem tC.QX(hc:tC t h a np)(ha:(o3 a).Nodup){o:ir}(ho:o∈gb t):fj gV o (ma t h a)=none:=by
 have hm:o ∉ gq t:=λe=>by
  have:=hc.there o ho
  rw[hc.made o e]at this;cases this
 unfold ma
 rw[J9 h o _ _ _ hm,Ka o _ ha,if_pos ho]
theorem tC.new(hc:tC t h a np){k:Nat}(hk:k < (gq t).length)(OM:k < t.2.1.length):fj gV (gq t)[k] (ma t h a)=some (t.2.1[k],(h,())):=by
 unfold ma
 exact GZ h _ _ _ (CE t) k hk OM
theorem sh(ha:(o3 a).Nodup){o:ir}(h1:o ∉ gb t)(h2:o ∉ gq t):fj gV o (ma t h a)=fj gV o a:=by
 unfold ma
 rw[J9 h o _ _ _ h2,Ka o _ ha,if_neg h1]
theorem yr(ha:(o3 a).Nodup):(o3 (ma t h a)).Nodup:=BO h _ _ (xE _ ha)
theorem tC.sum(hc:tC t h a np)(ha:(o3 a).Nodup):vE (ma t h a)=vE a - np/\(ma t h a).length+t.1.length=a.length+t.2.1.length:=by
 obtain⟨d1,d2⟩:=GQ (gb t) ha (F7 t) hc.there
 obtain⟨e1,e2⟩:=Gv h (gq t) t.2.1 (xE (gb t) ha) (CE t) (sy hc.ok) λo ho=>by
  rw[Ka o _ ha];split
  ·rfl
  ·exact hc.made o ho
 have hf:=hc.Tq
 have hl:=G7 hc.ok
 have hm:=sy hc.ok
 unfold ma
 rw[e1,e2,d1]
 exact⟨by omega,by omega⟩
theorem tC.Tv(hc:tC t h a np)(ha:JO a)(hv:tZ t):JO (ma t h a):=by
 refine⟨yr ha.1,λp hp=> ?_⟩
 have hg:=(mA l8 (yr (t:=t) (h:=h) ha.1) (x:=p.1) (v:=p.2)).2 hp
 by_cases h2:p.1∈gq t
 ·obtain⟨k,hk,e⟩:=List.getElem_of_mem h2
  have OM:k < t.2.1.length:=by rw[<-sy hc.ok];exact hk
  rw[<-e,hc.new hk OM]at hg
  have hg:=(cM hg).symm
  have ho:=pF _ _ (pH hc.ok).2.2 _ (List.getElem_mem OM)
  have hu:=hv.1.1 _ (List.getElem_mem OM)
  have h1:=hc.h1
  have h3:=hc.h2
  refine⟨?_,?_⟩
  ·rw[<-e]
   have hm:gq t=nE (mD t) 0 t.2.1.length:=by unfold gq;rw[if_pos hc.ok]
   simp only[hm,nE,mj]
   have:=(Dq (t:=t))
   exact⟨this.1,λx hx=>this.2 x hx⟩
  ·rw[hg]
   exact⟨ho.2,hu.1,ho.1.1,ho.1.2,by show 0<=h;omega,h3⟩
 ·by_cases h1:p.1∈gb t
  ·rw[hc.QX ha.1 h1]at hg;cases hg
  ·rw[sh ha.1 h1 h2]at hg
   exact ha.2 p ((mA l8 ha.1).1 hg)
end
end Go.Ab
namespace Go.Ab
open Go.Proofs
noncomputable section
def th(ch:iN):Lk:=vD [(nW ch 0).1,(nW ch 1).1]
def mv(k0 k1:pI)(c:iM):iM:=vf c 0 ((0:Int),([jO k0.1 (mD c),jO k1.1 (mD c)],((0:Int),())))
abbrev hM.D:=iN
def hM.st:hM.D->SA:=λch=>([.d nb ch],[])
abbrev hM.Y:=Lk
abbrev hM.X:=Lk
def hM.out:hM.X->aZ:=λx=>⟨.d s7 x,[],[]⟩
def hM.add:hM.D->hM.Y->hM.X:=λch y=>y
def hM.aw:hM.D->Prop:=λch=>ns ch
def hM.F:hM.D->hM.Y:=λch=>th ch
def hM.G:fD:=gz (P:=Tryz.prog) [ik.sg]
def hM.an:fT:= {}
def hM.A:= @dq Tryz.prog hM.G hM.an 0 Tryz.f47 _ hM.st
abbrev hM.Ok:=dr @hM.A hM.aw hM.add hM.F hM.out
theorem hM.eq{R:Type}(ch:iN)(k:aZ->Option R):hM.A ch k=
 aj (ik.call ((nth qt ch.2.2.1 0).1,(nth qt ch.2.2.1 1).1)) λx1=>
 k (hM.out x1):=by kernel_rfl
theorem hM.ok:hM.Ok:=by
 intro ch fI
 have e:ik.call ((nth qt ch.2.2.1 0).1,(nth qt ch.2.2.1 1).1)=some (th ch):=ik.run (d:=((nth qt ch.2.2.1 0).1,(nth qt ch.2.2.1 1).1)) trivial
 rw[hM.eq,e]
 rfl
def hM.E:=Entry.dp [some nb] hM.st hM.aw hM.add hM.F hM.out
def hM.call:hM.D->Option hM.X:=cj hM.E hM.st
theorem hM.run:cl hM.call hM.aw hM.add hM.F:=dw (du [.d nb] λ_=>by kernel_rfl)
def hM.sg:SG Tryz.prog:=⟨47,aP,hM.E,.fn 0 (by kernel_rfl) hM.ok trivial⟩
abbrev gA.D:=pI×iM
def gA.st:gA.D->SA:=λ(kit,t)=>([.d rZ kit,.d jP t],[])
abbrev gA.Y:=Sg
abbrev gA.X:=Sg
def gA.out:gA.X->aZ:=λx=>⟨.d Ap x,[],[]⟩
def gA.add:gA.D->gA.Y->gA.X:=λ(kit,t) y=>y
def gA.aw:gA.D->Prop:=λ(k,t)=>iw k.1/\tZ t
def gA.F:gA.D->gA.Y:=λ(k,t)=>jO k.1 (mD t)
def gA.G:fD:=gz (P:=Tryz.prog) [tid.sg,gh.sg]
def gA.an:fT:= {}
def gA.A:= @dq Tryz.prog gA.G gA.an 0 Tryz.f49 _ gA.st
abbrev gA.Ok:=dr @gA.A gA.aw gA.add gA.F gA.out
theorem gA.eq{R:Type}(kit:pI)(t:iM)(k:aZ->Option R):gA.A (kit,t) k=
 aj (tid.call t) λx1=>
 aj (gh.call (kit.1,x1)) λx2=>
 k (gA.out x2):=by kernel_rfl
theorem gA.ok:gA.Ok:=by
 rintro⟨k,t⟩ ⟨hk,hv⟩
 have e:tid.call t=some (mD t):=tid.run (d:=t) hv
 have hm:Sm (mD t):=Dq
 have ea:∀d y,gA.add d y=y:=λ_ _=>rfl
 have eF:gA.F (k,t)=jO k.1 (mD t):=rfl
 rw[gA.eq,e,ab,ea,eF]
 generalize mD t=m at hm
 rw[gh.run (d:=(k.1,m)) ⟨hk,hm⟩]
 simp only[ab,gh.add,gh.F]
def gA.E:=Entry.dp [some rZ,some jP] gA.st gA.aw gA.add gA.F gA.out
def gA.call:gA.D->Option gA.X:=cj gA.E gA.st
theorem gA.run:cl gA.call gA.aw gA.add gA.F:=dw (du [.d rZ,.d jP] λ_=>by kernel_rfl)
def gA.sg:SG Tryz.prog:=⟨49,aP,gA.E,.fn 0 (by kernel_rfl) gA.ok trivial⟩
abbrev ao.L0.D:=Int×Int×Nat×Nat×(Int×Unit)×(Int×Unit)×(List kX)×(List kF)
def ao.L0.st:ao.L0.D->AS:=λ(t17,t18,DW,ri,n1,n2,n9,CK)=>⟨([.undef,.ptr (.new 1 0) 0 [] 0,.ptr (.new 2 0) 0 [] 0]++bG 14 ([.d ti t17,.d ti t18]++bG 56 [])),[],([[],[.obj 0 false (.pr (.dh (.new 9 0) 0 [] 0 0 DW) (.pr (.dh (.new 12 0) 0 [] 0 0 ri) (.d (.pair ti .unit) n1)))],[.obj 0 false (.pr (.eV) (.pr (.eV) (.d (.pair ti .unit) n2)))]]++db 6 ([[.obj 0 false (.vec 93 kj n9)],[],[],[.obj 0 false (.vec 100 lg CK)]]++db 62 []))⟩
abbrev ao.L0.Y0:=(List kX)
abbrev ao.L0.X0:=(Nat×Nat×(Int×Unit)×(Int×Unit)×(List kF))×((List kX))
def ao.L0.bV:ao.L0.X0->Exit×AS:=λx=>(.exit 0,⟨([.undef,.ptr (.new 1 0) 0 [] 0,.ptr (.new 2 0) 0 [] 0]++bG 72 []),[],([[],[.obj 0 false (.pr (.dh (.new 9 0) 0 [] 0 0 x.1.1) (.pr (.dh (.new 12 0) 0 [] 0 0 x.1.2.1) (.d (.pair ti .unit) x.1.2.2.1)))],[.obj 0 false (.pr (.eV) (.pr (.eV) (.d (.pair ti .unit) x.1.2.2.2.1)))]]++db 6 ([[.obj 0 false (.vec 93 kj x.2)],[],[],[.obj 0 false (.vec 100 lg x.1.2.2.2.2)]]++db 62 []))⟩)
abbrev ao.L0.X:=ao.L0.X0
abbrev ao.L0.Y:=ao.L0.Y0
def ao.L0.out:ao.L0.X->Out (Exit×AS):=λx=> .ok (ao.L0.bV x)
def ao.L0.add:ao.L0.D->ao.L0.Y->ao.L0.X:=λ(t17,t18,DW,ri,n1,n2,n9,CK) y=>((DW,ri,n1,n2,CK),y)
abbrev ao.L1.D:=Int×Int×Nat×Nat×(Int×Unit)×(Int×Unit)×(List kX)×(List kF)
def ao.L1.st:ao.L1.D->AS:=λ(t38,t39,sK,rj,xU,lS,o5,qi)=>⟨([.undef,.ptr (.new 1 0) 0 [] 0,.ptr (.new 2 0) 0 [] 0]++bG 35 ([.d ti t38,.d ti t39]++bG 35 [])),[],([[],[.obj 0 false (.pr (.dh (.new 9 0) 0 [] 0 0 sK) (.pr (.dh (.new 12 0) 0 [] 0 0 rj) (.d (.pair ti .unit) xU)))],[.obj 0 false (.pr (.eV) (.pr (.eV) (.d (.pair ti .unit) lS)))]]++db 6 ([[.obj 0 false (.vec 93 kj o5)],[],[],[.obj 0 false (.vec 100 lg qi)]]++db 62 []))⟩
abbrev ao.L1.Y0:=Nat×Nat×(Int×Unit)×(Int×Unit)×(List kX)×(List kF)
abbrev ao.L1.X0:=Nat×Nat×(Int×Unit)×(Int×Unit)×(List kX)×(List kF)
def ao.L1.bV:ao.L1.X0->Exit×AS:=λx=>(.exit 2,⟨([.undef,.ptr (.new 1 0) 0 [] 0,.ptr (.new 2 0) 0 [] 0]++bG 72 []),[],([[],[.obj 0 false (.pr (.dh (.new 9 0) 0 [] 0 0 x.1) (.pr (.dh (.new 12 0) 0 [] 0 0 x.2.1) (.d (.pair ti .unit) x.2.2.1)))],[.obj 0 false (.pr (.eV) (.pr (.eV) (.d (.pair ti .unit) x.2.2.2.1)))]]++db 6 ([[.obj 0 false (.vec 93 kj x.2.2.2.2.1)],[],[],[.obj 0 false (.vec 100 lg x.2.2.2.2.2)]]++db 62 []))⟩)
abbrev ao.L1.X:=ao.L1.X0
abbrev ao.L1.Y:=ao.L1.Y0
def ao.L1.out:ao.L1.X->Out (Exit×AS):=λx=> .ok (ao.L1.bV x)
def ao.L1.add:ao.L1.D->ao.L1.Y->ao.L1.X:=λ(t38,t39,sK,rj,xU,lS,o5,qi) y=>y
abbrev ao.L2.D:=Int×Nat×Int×Int×Int×Int×Nat×Nat×(Int×Unit)×(Int×Unit)×(List kX)×(List kF)×(List qy)
def ao.L2.st:ao.L2.D->AS:=λ(i,lL,rE,rF,t51,t52,rk,rn,wj,rp,wk,rh,uF)=>⟨([.undef,.ptr (.new 1 0) 0 [] 0,.ptr (.new 2 0) 0 [] 0,.undef,.d ti i,.dh (.new 49 0) 0 [] 0 0 lL]++bG 32 ([.d ti rE,.d ti rF]++bG 11 ([.d ti t51,.d ti t52]++bG 22 []))),[],([[],[.obj 0 false (.pr (.dh (.new 9 0) 0 [] 0 0 rk) (.pr (.dh (.new 12 0) 0 [] 0 0 rn) (.d (.pair ti .unit) wj)))],[.obj 0 false (.pr (.eV) (.pr (.eV) (.d (.pair ti .unit) rp)))]]++db 6 ([[.obj 0 false (.vec 93 kj wk)],[],[],[.obj 0 false (.vec 100 lg rh)]]++db 36 ([[.obj 0 false (.vec 58 pT uF)]]++db 25 [])))⟩
abbrev ao.L2.Y0:=(List qy)×(List qy)
abbrev ao.L2.X0:=(Int×Int×Int×Nat×Nat×(Int×Unit)×(Int×Unit)×(List kX)×(List kF))×((List qy)×(List qy))
def ao.L2.bV:ao.L2.X0->Exit×AS:=λx=>(.exit 4,⟨([.undef,.ptr (.new 1 0) 0 [] 0,.ptr (.new 2 0) 0 [] 0,.undef,.d ti x.1.1,.d (.slice pT) x.2.1]++bG 32 ([.d ti x.1.2.1,.d ti x.1.2.2.1]++bG 35 [])),[],([[],[.obj 0 false (.pr (.dh (.new 9 0) 0 [] 0 0 x.1.2.2.2.1) (.pr (.dh (.new 12 0) 0 [] 0 0 x.1.2.2.2.2.1) (.d (.pair ti .unit) x.1.2.2.2.2.2.1)))],[.obj 0 false (.pr (.eV) (.pr (.eV) (.d (.pair ti .unit) x.1.2.2.2.2.2.2.1)))]]++db 6 ([[.obj 0 false (.vec 93 kj x.1.2.2.2.2.2.2.2.1)],[],[],[.obj 0 false (.vec 100 lg x.1.2.2.2.2.2.2.2.2)]]++db 36 ([[.obj 0 true (.vec 58 pT x.2.2)]]++db 25 [])))⟩)
abbrev ao.L2.X:=ao.L2.X0
abbrev ao.L2.Y:=ao.L2.Y0
def ao.L2.out:ao.L2.X->Out (Exit×AS):=λx=> .ok (ao.L2.bV x)
def ao.L2.add:ao.L2.D->ao.L2.Y->ao.L2.X:=λ(i,lL,rE,rF,t51,t52,rk,rn,wj,rp,wk,rh,uF) y=>((i,rE,rF,rk,rn,wj,rp,wk,rh),y)
abbrev ao.D:=iM
def ao.st:ao.D->SA:=λt=>([.d jP t],[])
abbrev ao.Y:=Nat×((List kF)×(Int×Unit))×(List kX)
abbrev ao.X:=Nat×((List kF)×(Int×Unit))×(List kX)
def ao.out:ao.X->aZ:=λx=>⟨.pr (.dh (.new 0 0) 0 [] 0 0 x.1) (.d (.pair (.slice lg) (.pair ti .unit)) x.2.1),[],[.obj 0 false (.vec 93 kj x.2.2)]⟩
def ao.add:ao.D->ao.Y->ao.X:=λt y=>y
def ao.L0.aw:ao.L0.D->Prop:=λ(m,i,L,L2,u,v,l,os)=>(l.length<=1000/\∀x∈l,x.2.1.2.1.length<=1000000)/\∃k:Nat,k<=l.length/\i=k/\m=l.length/\L=l.length
def ao.L0.F:ao.L0.D->ao.L0.Y:=λ(m,i,L,L2,u,v,l,os)=>l
def ao.L2.aw:ao.L2.D->Prop:=λ(kv,L,m1,i1,m,i,L5,L6,u,v,ls,os,bs)=>(bs.length<=1000/\∀x∈bs,x.1.length<=1000000)/\∃k:Nat,k<=bs.length/\i=k/\m=bs.length/\L=bs.length
def ao.L2.F:ao.L2.D->ao.L2.Y:=λ(kv,L,m1,i1,m,i,L5,L6,u,v,ls,os,bs)=>(bs,bs)
def ao.L1.aw:ao.L1.D->Prop:=λ(m,i,L3,L,u,v,ls,os)=>(os.length<=1000/\∀x∈os,x.2.1.1.length<=1000/\∀b∈x.2.1.1,b.1.length<=1000000)/\∃k:Nat,k<=os.length/\i=k/\m=os.length/\L=os.length
def ao.L1.F:ao.L1.D->ao.L1.Y:=λ(m,i,L3,L,u,v,ls,os)=>(L3,L,u,v,ls,os)
def ao.aw:ao.D->Prop:=λt=>jQ t=true
def ao.F:ao.D->ao.Y:=λt=>(t.1.length,(t.2.1,t.2.2),t.1)
def ao.G:fD:=gz (P:=Tryz.prog) [js.sg,fW.sg,fX.sg,ja.sg,dT.sg]
def ao.L0.E:=cV.dp ao.L0.st ao.L0.aw ao.L0.add ao.L0.F ao.L0.out
def ao.L0.call:ao.L0.D->Option ao.L0.X:=eI ao.L0.E ao.L0.st
def ao.L1.E:=cV.dp ao.L1.st ao.L1.aw ao.L1.add ao.L1.F ao.L1.out
def ao.L1.call:ao.L1.D->Option ao.L1.X:=eI ao.L1.E ao.L1.st
def ao.L2.E:=cV.dp ao.L2.st ao.L2.aw ao.L2.add ao.L2.F ao.L2.out
def ao.L2.call:ao.L2.D->Option ao.L2.X:=eI ao.L2.E ao.L2.st
def ao.an:fT:= {da:=[1],loops:=oF [(3,{bS:=[1,2,17,18],sites:=[1,2,9,12]}),(8,{bS:=[1,2,38,39],sites:=[1,2,9,12]}),(12,{bS:=[1,2,4,5,38,39,51,52],sites:=[1,2,9,12,49]})],outs:=oE [(3,{bS:=[1,2],sites:=[1,2,9,12]},{bS:=[2]}),(8,{bS:=[1,2],sites:=[1,2,9,12]},{bS:=[2]}),(12,{bS:=[1,2,4,5,38,39],sites:=[1,2,9,12,49],data:=[(5,(.slice pT))]},{bS:=[2]})],jw:=pL [(3,ao.L0.E),(8,ao.L1.E),(12,ao.L2.E)],Fo:=[⟨2,[.snd,.fst],(.slice lg)⟩]}
def ao.A:= @dq Tryz.prog ao.G ao.an 0 Tryz.f101 _ ao.st
abbrev ao.Ok:=dr @ao.A ao.aw ao.add ao.F ao.out
def ao.L0.R:= @dn Tryz.prog ao.G ao.an 0 Tryz.f101 0 _ ao.L0.st
abbrev ao.L0.Ok:=gw Tryz.prog ao.G ao.an 0 Tryz.f101 0 ao.L0.st ao.L0.aw ao.L0.add ao.L0.F ao.L0.out
def ao.L1.R:= @dn Tryz.prog ao.G ao.an 0 Tryz.f101 1 _ ao.L1.st
abbrev ao.L1.Ok:=gw Tryz.prog ao.G ao.an 0 Tryz.f101 1 ao.L1.st ao.L1.aw ao.L1.add ao.L1.F ao.L1.out
def ao.L2.R:= @dn Tryz.prog ao.G ao.an 0 Tryz.f101 2 _ ao.L2.st
abbrev ao.L2.Ok:=gw Tryz.prog ao.G ao.an 0 Tryz.f101 2 ao.L2.st ao.L2.aw ao.L2.add ao.L2.F ao.L2.out
theorem ao.L0.run:cl ao.L0.call ao.L0.aw ao.L0.add ao.L0.F:=gT (gS [.d ti,.d ti,.n,.n,.d (.pair ti .unit),.d (.pair ti .unit),.d (.slice kj),.d (.slice lg)] λ_=>by kernel_rfl)
theorem ao.L0.aI:jk @ao.L0.R ao.L0.st ao.L0.aw ao.L0.add ao.L0.F ao.L0.bV ao.L0.Ok:=jm
theorem ao.L0.step{R:Type}(t17:Int)(t18:Int)(DW:Nat)(ri:Nat)(n1:(Int×Unit))(n2:(Int×Unit))(n9:(List kX))(CK:(List kF))(kn:AS->Option R)(kx:Exit->AS->Option R):ao.L0.R (t17,t18,DW,ri,n1,n2,n9,CK) kn kx=
  aJ ((jK t18 t17)) (
   aJ (fp t18 ((DW:Nat):Int)) (
   aJ (decide ((0+(Int.toNat t18)) < (List.length n9))) (
   aJ (decide ((((0+(Int.toNat t18))*36)+34)=(((0+((Int.toNat t18)*36))+33)+1))) (
   aj (fX.call (nth kj n9 (0+(Int.toNat t18))).2.1.2.1) λx1=>
   aJ (fp t18 ((DW:Nat):Int)) (
   aJ (decide ((0+(Int.toNat t18)) < (List.length n9))) (
   aJ (decide ((((0+(Int.toNat t18))*36)+34)=(((0+((Int.toNat t18)*36))+33)+1))) (
   aJ (decide ((0+(Int.toNat t18)) < (List.length n9))) (
   kn (ao.L0.st (t17,(bO .i64 t18 (1:Int)),DW,ri,n1,n2,(List.set n9 (0+(Int.toNat t18)) ((nth kj n9 (0+(Int.toNat t18))).1,(((nth kj n9 (0+(Int.toNat t18))).2.1.1,(x1,(nth kj n9 (0+(Int.toNat t18))).2.1.2.2)),(nth kj n9 (0+(Int.toNat t18))).2.2))),CK))) none) none) none) none) none) none) none) (
   kx (ao.L0.bV ((DW,ri,n1,n2,CK),n9)).1 (ao.L0.bV ((DW,ri,n1,n2,CK),n9)).2):=by kernel_rfl
theorem ao.L1.run:cl ao.L1.call ao.L1.aw ao.L1.add ao.L1.F:=gT (gS [.d ti,.d ti,.n,.n,.d (.pair ti .unit),.d (.pair ti .unit),.d (.slice kj),.d (.slice lg)] λ_=>by kernel_rfl)
theorem ao.L1.aI:jk @ao.L1.R ao.L1.st ao.L1.aw ao.L1.add ao.L1.F ao.L1.bV ao.L1.Ok:=jm
theorem ao.L1.step{R:Type}(t38:Int)(t39:Int)(sK:Nat)(rj:Nat)(xU:(Int×Unit))(lS:(Int×Unit))(o5:(List kX))(qi:(List kF))(kn:AS->Option R)(kx:Exit->AS->Option R):ao.L1.R (t38,t39,sK,rj,xU,lS,o5,qi) kn kx=
  aJ ((jK t39 t38)) (
   aJ (fp t39 ((rj:Nat):Int)) (
   aJ (decide ((0+(Int.toNat t39)) < (List.length qi))) (
   aJ (decide ((((0+(Int.toNat t39))*2)+1)=(((0+((Int.toNat t39)*2))+1)+0))) (
   aj (ja.call (nth lg qi (0+(Int.toNat t39))).2.1.1) λx1=>
   aj (ao.L2.call (t39,x1.1,t38,t39,((x1.1:Nat):Int),(0:Int),sK,rj,xU,lS,o5,qi,x1.2)) λx2=>
   aJ (fp x2.1.1 ((x2.1.2.2.2.2.1:Nat):Int)) (
   aJ (decide ((0+(Int.toNat x2.1.1)) < (List.length x2.1.2.2.2.2.2.2.2.2))) (
   aJ (decide ((((0+(Int.toNat x2.1.1))*2)+1)=(((0+((Int.toNat x2.1.1)*2))+1)+0))) (
   aJ (decide ((0+(Int.toNat x2.1.1)) < (List.length x2.1.2.2.2.2.2.2.2.2))) (
   kn (ao.L1.st (x2.1.2.1,(bO .i64 x2.1.2.2.1 (1:Int)),x2.1.2.2.2.1,x2.1.2.2.2.2.1,x2.1.2.2.2.2.2.1,x2.1.2.2.2.2.2.2.1,x2.1.2.2.2.2.2.2.2.1,(List.set x2.1.2.2.2.2.2.2.2.2 (0+(Int.toNat x2.1.1)) ((nth lg x2.1.2.2.2.2.2.2.2.2 (0+(Int.toNat x2.1.1))).1,((x2.2.1,(nth lg x2.1.2.2.2.2.2.2.2.2 (0+(Int.toNat x2.1.1))).2.1.2),(nth lg x2.1.2.2.2.2.2.2.2.2 (0+(Int.toNat x2.1.1))).2.2)))))) none) none) none) none) none) none) none) (
   kx (ao.L1.bV (sK,rj,xU,lS,o5,qi)).1 (ao.L1.bV (sK,rj,xU,lS,o5,qi)).2):=by kernel_rfl
theorem ao.L2.run:cl ao.L2.call ao.L2.aw ao.L2.add ao.L2.F:=gT (gS [.d ti,.n,.d ti,.d ti,.d ti,.d ti,.n,.n,.d (.pair ti .unit),.d (.pair ti .unit),.d (.slice kj),.d (.slice lg),.d (.slice pT)] λ_=>by kernel_rfl)
theorem ao.L2.aI:jk @ao.L2.R ao.L2.st ao.L2.aw ao.L2.add ao.L2.F ao.L2.bV ao.L2.Ok:=jm
theorem ao.L2.step{R:Type}(i:Int)(lL:Nat)(rE:Int)(rF:Int)(t51:Int)(t52:Int)(rk:Nat)(rn:Nat)(wj:(Int×Unit))(rp:(Int×Unit))(wk:(List kX))(rh:(List kF))(uF:(List qy))(kn:AS->Option R)(kx:Exit->AS->Option R):ao.L2.R (i,lL,rE,rF,t51,t52,rk,rn,wj,rp,wk,rh,uF) kn kx=
  aJ ((jK t52 t51)) (
   aJ (fp t52 ((lL:Nat):Int)) (
   aJ (decide ((0+(Int.toNat t52)) < (List.length uF))) (
   aJ (decide ((((0+(Int.toNat t52))*4)+0)=((0+((Int.toNat t52)*4))+0))) (
   aj (dT.call (nth pT uF (0+(Int.toNat t52))).1) λx1=>
   aJ (fp t52 ((lL:Nat):Int)) (
   aJ (decide ((0+(Int.toNat t52)) < (List.length uF))) (
   aJ (decide ((((0+(Int.toNat t52))*4)+0)=((0+((Int.toNat t52)*4))+0))) (
   aJ (decide ((0+(Int.toNat t52)) < (List.length uF))) (
   kn (ao.L2.st (i,lL,rE,rF,t51,(bO .i64 t52 (1:Int)),rk,rn,wj,rp,wk,rh,(List.set uF (0+(Int.toNat t52)) (x1,(nth pT uF (0+(Int.toNat t52))).2))))) none) none) none) none) none) none) none) (
   aJ (decide (0=0/\(0+lL)<=(List.length uF))) (
   kx (ao.L2.bV ((i,rE,rF,rk,rn,wj,rp,wk,rh),((cut uF 0 lL),uF))).1 (ao.L2.bV ((i,rE,rF,rk,rn,wj,rp,wk,rh),((cut uF 0 lL),uF))).2) none):=by kernel_rfl
theorem ao.eq{R:Type}(t:iM)(k:aZ->Option R):ao.A t k=
 aj (js.call t.1) λx1=>
 aj (fW.call t.2.1) λx2=>
 aj (ao.L0.call (((x1.1:Nat):Int),(0:Int),x1.1,x2.1,t.2.2,((0:Int),()),x1.2,x2.2)) λx4=>
 aj (ao.L1.call (((x4.1.2.1:Nat):Int),(0:Int),x4.1.1,x4.1.2.1,x4.1.2.2.1,x4.1.2.2.2.1,x4.2,x4.1.2.2.2.2)) λx8=>
 aJ (decide (0=0/\(0+x8.2.1)<=(List.length x8.2.2.2.2.2))) (
 k (ao.out (x8.1,((cut x8.2.2.2.2.2 0 x8.2.1),x8.2.2.1),x8.2.2.2.2.1))) none:=by kernel_rfl
theorem ao.L0.ok:ao.L0.Ok:=by
 refine ao.L0.aI (λ(m,i,L,L2,u,v,l,os)=>l.length - Int.toNat i) ?_
 rintro⟨m,i,L,L2,u,v,l,os⟩ ⟨⟨hlen,hx⟩,k,hk,rfl,rfl,rfl⟩
 have hlen:l.length<=1000:=hlen
 have hk:k<=l.length:=hk
 by_cases h:k < l.length
 ·left
  have n1:nth kj l k=l[k]:=dP (t:=kj) h
  have hs:l.set k l[k]=l:=gr h
  have e:=hx _ (List.getElem_mem h)
  refine⟨((l.length:Int),((k+1:Nat):Int),l.length,L2,u,v,l,os),⟨⟨hlen,hx⟩,k+1,by omega,rfl,rfl,rfl⟩,by simp only[aa];omega,rfl,λkn kx=> ?_⟩
  rw[ao.L0.step,bI (by omega),bF (by omega) (by omega)]
  simp only[aa,bl,dE,gY,Nat.reduceAdd,ah,aO h,decide_true,n1]
  rw[fX.run (d:=l[k].2.1.2.1) e]
  simp only[ab,fX.add,fX.F]
  rw[N.pJ (by omega)]
  exact congrArg (λz=>kn (ao.L0.st (_,_,_,_,_,_,z,_))) hs
 ·right
  obtain rfl:k=l.length:=by omega
  intro R kn kx
  rw[ao.L0.step,bp (by omega),ai]
  rfl
theorem ao.L2.ok:ao.L2.Ok:=by
 refine ao.L2.aI (λ(kv,L,m1,i1,m,i,L5,L6,u,v,ls,os,bs)=>bs.length - Int.toNat i) ?_
 rintro⟨kv,L,m1,i1,m,i,L5,L6,u,v,ls,os,bs⟩ ⟨⟨hlen,hx⟩,k,hk,rfl,rfl,rfl⟩
 have hlen:bs.length<=1000:=hlen
 have hk:k<=bs.length:=hk
 by_cases h:k < bs.length
 ·left
  have n1:nth pT bs k=bs[k]:=dP (t:=pT) h
  have hs:bs.set k bs[k]=bs:=gr h
  have e:=hx _ (List.getElem_mem h)
  refine⟨(kv,bs.length,m1,i1,(bs.length:Int),((k+1:Nat):Int),L5,L6,u,v,ls,os,bs),⟨⟨hlen,hx⟩,k+1,by omega,rfl,rfl,rfl⟩,by simp only[aa];omega,rfl,λkn kx=> ?_⟩
  rw[ao.L2.step,bI (by omega),bF (by omega) (by omega)]
  simp only[aa,bl,dE,gY,Nat.reduceAdd,ah,aO h,decide_true,n1]
  rw[dT.run (d:=bs[k].1) e]
  simp only[ab,dT.add,dT.F]
  rw[N.pJ (by omega)]
  exact congrArg (λz=>kn (ao.L2.st (_,_,_,_,_,_,_,_,_,_,_,_,z))) hs
 ·right
  obtain rfl:k=bs.length:=by omega
  intro R kn kx
  rw[ao.L2.step,bp (by omega),ai]
  simp only[bl,aC,and_self,decide_true,ah,iV]
  rfl
theorem ao.L1.ok:ao.L1.Ok:=by
 refine ao.L1.aI (λ(m,i,L3,L,u,v,ls,os)=>os.length - Int.toNat i) ?_
 rintro⟨m,i,L3,L,u,v,ls,os⟩ ⟨⟨hlen,hx⟩,k,hk,rfl,rfl,rfl⟩
 have hlen:os.length<=1000:=hlen
 have hk:k<=os.length:=hk
 by_cases h:k < os.length
 ·left
  have n1:nth lg os k=os[k]:=dP (t:=lg) h
  have hs:os.set k os[k]=os:=gr h
  have e:=hx _ (List.getElem_mem h)
  refine⟨((os.length:Int),((k+1:Nat):Int),L3,os.length,u,v,ls,os),⟨⟨hlen,hx⟩,k+1,by omega,rfl,rfl,rfl⟩,by simp only[aa];omega,rfl,λkn kx=> ?_⟩
  rw[ao.L1.step,bI (by omega),bF (by omega) (by omega)]
  simp only[aa,bl,dE,gY,Nat.reduceAdd,ah,aO h,decide_true,n1]
  rw[ja.run (d:=os[k].2.1.1) (by show os[k].2.1.1.length<=_;have:=e.1;omega)]
  simp only[ab,ja.add,ja.F]
  rw[ao.L2.run (d:=((k:Int),os[k].2.1.1.length,(os.length:Int),(k:Int),(os[k].2.1.1.length:Int),0,L3,os.length,u,v,ls,os,os[k].2.1.1)) ⟨e,0,bm _,rfl,rfl,rfl⟩]
  simp only[ab,ao.L2.add,ao.L2.F,aa,n1,ah,aO h,bF (show(0:Int)<=(k:Int) by omega) (show(k:Int) < (os.length:Int) by omega)]
  rw[N.pJ (by omega)]
  exact congrArg (λz=>kn (ao.L1.st (_,_,_,_,_,_,_,z))) hs
 ·right
  obtain rfl:k=os.length:=by omega
  intro R kn kx
  rw[ao.L1.step,bp (by omega),ai]
  rfl
theorem ao.ok:ao.Ok:=by
 rintro⟨is,os,nt,u⟩ jV
 obtain⟨⟨_,a2,a3,_⟩,b1,b2⟩:=pH jV
 have a2:is.length<=64:=a2
 have a3:os.length<=64:=a3
 rw[ao.eq,js.run (d:=is) (by show is.length<=_;omega),fW.run (d:=os) (by show os.length<=_;omega)]
 simp only[ab,js.add,js.F,fW.add,fW.F]
 rw[ao.L0.run (d:=(is.length,0,is.length,os.length,(nt,u),(0,()),is,os)) ⟨⟨by show is.length<=_;omega,λx hx=>by have:=(FI (uq _ _ b1 x hx)).2.2.2.2;omega⟩,0,bm _,rfl,rfl,rfl⟩]
 simp only[ab,ao.L0.add,ao.L0.F]
 rw[ao.L1.run (d:=(os.length,0,is.length,os.length,(nt,u),(0,()),is,os)) ⟨⟨by show os.length<=_;omega,λx hx=>by
  have:=zX (pF _ _ b2 x hx).2
  exact⟨by omega,λb hb=>by have:=this.2 b hb;omega⟩⟩,0,bm _,rfl,rfl,rfl⟩]
 simp only[ab,ao.L1.add,ao.L1.F,bl,aC,and_self,decide_true,ah,iV]
 rfl
def ao.E:=Entry.dp [some jP] ao.st ao.aw ao.add ao.F ao.out
def ao.call:ao.D->Option ao.X:=cj ao.E ao.st
theorem ao.run:cl ao.call ao.aw ao.add ao.F:=dw (du [.d jP] λ_=>by kernel_rfl)
def ao.sg:SG Tryz.prog:=⟨101,aP,ao.E,.fn 3 (by kernel_rfl) ao.ok (And.intro (.dp ao.L0.ok (by kernel_rfl)) (And.intro (.dp ao.L1.ok (by kernel_rfl)) (And.intro (.dp ao.L2.ok (by kernel_rfl)) trivial)))⟩
abbrev hH.D:=iM×Sg×Sg
def hH.st:hH.D->SA:=λ(t,a,b)=>([.d jP t,.d Ap a,.d Ap b],[])
abbrev hH.Y:=iM
abbrev hH.X:=iM
def hH.out:hH.X->aZ:=λx=>⟨.d jP x,[],[]⟩
def hH.add:hH.D->hH.Y->hH.X:=λ(t,a,b) y=>y
def hH.aw:hH.D->Prop:=λ(t,_,_)=>jQ t=true
def hH.F:hH.D->hH.Y:=λ(t,a,b)=>vf t 0 ((0:Int),([a,b],((0:Int),())))
def hH.G:fD:=gz (P:=Tryz.prog) [ao.sg]
def hH.an:fT:= {da:=[3],res:=[some jP]}
def hH.A:= @dq Tryz.prog hH.G hH.an 0 Tryz.f48 _ hH.st
abbrev hH.Ok:=dr @hH.A hH.aw hH.add hH.F hH.out
theorem hH.eq{R:Type}(t:iM)(a:Sg)(b:Sg)(k:aZ->Option R):hH.A (t,a,b) k=
  aj (ao.call t) λx1=>
  aJ ((so ((x1.1:Nat):Int) (0:Int))) (
   aJ (fp (0:Int) ((x1.1:Nat):Int)) (
   aJ (decide (0 < (List.length x1.2.2))) (
   aJ (decide (0 < (List.length x1.2.2))) (
   aJ (decide (0=0/\(0+x1.1)<=(List.length (List.set x1.2.2 0 ((nth kj x1.2.2 0).1,(((0:Int),([a,b],((0:Int),()))),(nth kj x1.2.2 0).2.2)))))) (
   k (hH.out ((cut (List.set x1.2.2 0 ((nth kj x1.2.2 0).1,(((0:Int),([a,b],((0:Int),()))),(nth kj x1.2.2 0).2.2))) 0 x1.1),x1.2.1))) none) none) none) none) (
   aJ (decide (0=0/\(0+x1.1)<=(List.length x1.2.2))) (
   k (hH.out ((cut x1.2.2 0 x1.1),x1.2.1))) none):=by kernel_rfl
theorem hH.ok:hH.Ok:=by
 rintro⟨t,a,b⟩ jV
 have jV:jQ t=true:=jV
 have hl:=(pH jV).1.1
 rw[hH.eq,ao.run (d:=t) jV]
 simp only[ab,ao.add,ao.F]
 rw[fA (by omega),ah,bF (by omega) (by omega),ah,aO (show 0 < t.1.length by omega),ah,ah,aO ⟨trivial,by rw[ej];omega⟩,ah,iV (by rw[ej])]
 rfl
def hH.E:=Entry.dp [some jP,some Ap,some Ap] hH.st hH.aw hH.add hH.F hH.out
def hH.call:hH.D->Option hH.X:=cj hH.E hH.st
theorem hH.run:cl hH.call hH.aw hH.add hH.F:=dw (du [.d jP,.d Ap,.d Ap] λ_=>by kernel_rfl)
def hH.sg:SG Tryz.prog:=⟨48,aP,hH.E,.fn 0 (by kernel_rfl) hH.ok trivial⟩
abbrev az.L0.D:=(List Bs)×Int
def az.L0.st:az.L0.D->AS:=λ(lR,i)=>⟨([.d (.slice tH) lR,.undef,.undef,.d ti i]++bG 27 []),[],(List.replicate 31 [])⟩
abbrev az.L0.Y0:=Unit
abbrev az.L0.X0:=Unit
def az.L0.bV:az.L0.X0->Exit×AS:=λx=>(.ret,⟨([.undef,.undef,.d .bool false]++bG 28 []),[],(List.replicate 31 [])⟩)
abbrev az.L0.Y1:=Unit
abbrev az.L0.X1:=Unit
def az.L0.kI:az.L0.X1->Exit×AS:=λx=>(.exit 0,⟨(bG 31 []),[],(List.replicate 31 [])⟩)
abbrev az.L0.X:=(az.L0.X0)⊕(az.L0.X1)
abbrev az.L0.Y:=(az.L0.Y0)⊕(az.L0.Y1)
def az.L0.out:az.L0.X->Out (Exit×AS):=λx=> .br x.isLeft (.get x.getLeft? λa=> .ok (az.L0.bV a)) (.get x.getRight? λb=> .ok (az.L0.kI b))
def az.L0.add:az.L0.D->az.L0.Y->az.L0.X:=λ(lR,i) y=>match y with | .inl y=> .inl y | .inr z=> .inr (z)
abbrev az.L1.D:=(List Bs)×Int×Int
def az.L1.st:az.L1.D->AS:=λ(Mv,jf,kv)=>⟨([.d (.slice tH) Mv,.undef,.undef,.d ti jf,.d ti kv]++bG 26 []),[],(List.replicate 31 [])⟩
abbrev az.L1.Y0:=Unit
abbrev az.L1.X0:=Unit
def az.L1.bV:az.L1.X0->Exit×AS:=λx=>(.ret,⟨([.undef,.undef,.d .bool false]++bG 28 []),[],(List.replicate 31 [])⟩)
abbrev az.L1.Y1:=Unit
abbrev az.L1.X1:=(List Bs)×Int
def az.L1.kI:az.L1.X1->Exit×AS:=λx=>(.exit 2,⟨([.d (.slice tH) x.1,.undef,.undef,.d ti x.2]++bG 27 []),[],(List.replicate 31 [])⟩)
abbrev az.L1.X:=(az.L1.X0)⊕(az.L1.X1)
abbrev az.L1.Y:=(az.L1.Y0)⊕(az.L1.Y1)
def az.L1.out:az.L1.X->Out (Exit×AS):=λx=> .br x.isLeft (.get x.getLeft? λa=> .ok (az.L1.bV a)) (.get x.getRight? λb=> .ok (az.L1.kI b))
def az.L1.add:az.L1.D->az.L1.Y->az.L1.X:=λ(Mv,jf,kv) y=>match y with | .inl y=> .inl y | .inr z=> .inr ((Mv,jf))
abbrev az.D:=(List Bs)
def az.st:az.D->SA:=λl=>([.d (.slice tH) l],[])
abbrev az.Y:=Bool
abbrev az.X:=Bool
def az.out:az.X->aZ:=λx=>⟨.d .bool x,[],[]⟩
def az.add:az.D->az.Y->az.X:=λl y=>y
def Gi:List Int:=List.replicate 32 0
def O9(x:List Int):List Int->Bool:=λy=>Ty.beq tH y x
def u9(l:List (List Int))(i:Nat):Bool:= !((l.take i).any (O9 (nth tH l i))) && !(Ty.beq tH (nth tH l i) Gi)
def tS(l:List (List Int)):Nat->Nat->Bool
 | 0,_=>true
 |n+1,i=>u9 l i && tS l n (i+1)
def BQ(l:List (List Int)):Bool:=tS l l.length 0
def az.L1.aw:az.L1.D->Prop:=λ(l,i,k)=>l.length<=1000/\∃n m:Nat,n < l.length/\i=n/\m<=n/\k=m
def az.L1.F:az.L1.D->az.L1.Y:=λ(l,i,k)=>if((l.take i.toNat).drop k.toNat).any (O9 (nth tH l i.toNat))=true then .inl () else .inr ()
def az.L0.aw:az.L0.D->Prop:=λ(l,i)=>l.length<=1000/\∃k:Nat,k<=l.length/\i=k
def az.L0.F:az.L0.D->az.L0.Y:=λ(l,i)=>if tS l (l.length - i.toNat) i.toNat=true then .inr () else .inl ()
def az.aw:az.D->Prop:=λl=>l.length<=1000
def az.F:az.D->az.Y:=λl=>BQ l
def az.G:fD:=gz (P:=Tryz.prog) []
def az.L0.E:=cV.dp az.L0.st az.L0.aw az.L0.add az.L0.F az.L0.out
def az.L0.call:az.L0.D->Option az.L0.X:=eI az.L0.E az.L0.st
def az.L1.E:=cV.dp az.L1.st az.L1.aw az.L1.add az.L1.F az.L1.out
def az.L1.call:az.L1.D->Option az.L1.X:=eI az.L1.E az.L1.st
def az.an:fT:= {loops:=oF [(2,{bS:=[0,3]}),(5,{bS:=[0,3,4]})],outs:=oE [(2,{},{bS:=[2]}),(5,{bS:=[0,3]},{bS:=[2]})],jw:=pL [(2,az.L0.E),(5,az.L1.E)]}
def az.A:= @dq Tryz.prog az.G az.an 0 Tryz.f20 _ az.st
abbrev az.Ok:=dr @az.A az.aw az.add az.F az.out
def az.L0.R:= @dn Tryz.prog az.G az.an 0 Tryz.f20 0 _ az.L0.st
abbrev az.L0.Ok:=gw Tryz.prog az.G az.an 0 Tryz.f20 0 az.L0.st az.L0.aw az.L0.add az.L0.F az.L0.out
def az.L1.R:= @dn Tryz.prog az.G az.an 0 Tryz.f20 1 _ az.L1.st
abbrev az.L1.Ok:=gw Tryz.prog az.G az.an 0 Tryz.f20 1 az.L1.st az.L1.aw az.L1.add az.L1.F az.L1.out
theorem az.L0.run:cl az.L0.call az.L0.aw az.L0.add az.L0.F:=gT (gS [.d (.slice tH),.d ti] λ_=>by kernel_rfl)
theorem az.L0.aI:sB @az.L0.R az.L0.st az.L0.aw az.L0.add az.L0.F az.L0.out az.L0.Ok:=s8
theorem az.L0.step{R:Type}(lR:(List Bs))(i:Int)(kn:AS->Option R)(kx:Exit->AS->Option R):az.L0.R (lR,i) kn kx=
  aJ ((jK i (((List.length lR):Nat):Int))) (
   aj (az.L1.call (lR,i,(0:Int))) λx1=>
   aJ (x1.isLeft) (
    aj (x1.getLeft?) λa2=>
    kx (az.L0.bV ()).1 (az.L0.bV ()).2) (
    aj (x1.getRight?) λb3=>
    aJ (fp b3.2 (((List.length b3.1):Nat):Int)) (
    aJ ((Ty.beq tH (nth tH b3.1 (Int.toNat b3.2)) (List.replicate 32 (0:Int)))) (
     kx (az.L0.bV ()).1 (az.L0.bV ()).2) (
     kn (az.L0.st (b3.1,(bO .i64 b3.2 (1:Int)))))) none)) (
   kx (az.L0.kI ()).1 (az.L0.kI ()).2):=by kernel_rfl
theorem az.L1.run:cl az.L1.call az.L1.aw az.L1.add az.L1.F:=gT (gS [.d (.slice tH),.d ti,.d ti] λ_=>by kernel_rfl)
theorem az.L1.aI:sB @az.L1.R az.L1.st az.L1.aw az.L1.add az.L1.F az.L1.out az.L1.Ok:=s8
theorem az.L1.step{R:Type}(Mv:(List Bs))(jf:Int)(kv:Int)(kn:AS->Option R)(kx:Exit->AS->Option R):az.L1.R (Mv,jf,kv) kn kx=
  aJ ((jK kv jf)) (
   aJ (fp kv (((List.length Mv):Nat):Int)) (
   aJ (fp jf (((List.length Mv):Nat):Int)) (
   aJ ((Ty.beq tH (nth tH Mv (Int.toNat kv)) (nth tH Mv (Int.toNat jf)))) (
    kx (az.L1.bV ()).1 (az.L1.bV ()).2) (
    kn (az.L1.st (Mv,jf,(bO .i64 kv (1:Int)))))) none) none) (
   kx (az.L1.kI (Mv,jf)).1 (az.L1.kI (Mv,jf)).2):=by kernel_rfl
theorem az.eq{R:Type}(l:(List Bs))(k:aZ->Option R):az.A l k=
  aj (az.L0.call (l,(0:Int))) λx4=>
  aJ (x4.isLeft) (
   aj (x4.getLeft?) λa5=>
   k (az.out false)) (
   aj (x4.getRight?) λb6=>
   k (az.out true)):=by kernel_rfl
theorem az.L1.ok:az.L1.Ok:=by
 refine az.L1.aI (λ(l,i,k)=>(i - k).toNat) ?_
 rintro⟨l,i,k⟩ ⟨hl,n,m,hn,rfl,hm,rfl⟩
 have hl:l.length<=1000:=hl
 have hn:n < l.length:=hn
 by_cases h:m < n
 ·have hd:((l.take n).drop m).any (O9 (nth tH l n))=(O9 (nth tH l n) (nth tH l m) || ((l.take n).drop (m+1)).any (O9 (nth tH l n))):=by
   have Ym:m < (l.take n).length:=by rw[fO];omega
   rw[aA Ym,nj,List.getElem_take,dP (t:=tH) (by omega:m < l.length)]
  have step:∀ {R:Type} (kn:AS->Option R) (kx:Exit->AS->Option R),az.L1.R (l,(n:Int),(m:Int)) kn kx=aJ (O9 (nth tH l n) (nth tH l m)) (kx (az.L1.bV ()).1 (az.L1.bV ()).2) (kn (az.L1.st (l,(n:Int),((m+1:Nat):Int)))):=by
   intro R kn kx
   rw[az.L1.step,bI (by omega),ah,bF (by omega) (by omega),ah,bF (by omega) (by omega),ah,aa,aa,N.pJ (by omega)]
   rfl
  cases he:O9 (nth tH l n) (nth tH l m)
  ·left
   refine⟨(l,(n:Int),((m+1:Nat):Int)),⟨hl,n,m+1,hn,rfl,by omega,rfl⟩,by show((n:Int) - ((m+1:Nat):Int)).toNat < ((n:Int) - (m:Int)).toNat;omega,?_,λkn kx=> ?_⟩
   ·simp only[az.L1.add,az.L1.F,aa,hd,he,Bool.false_or]
   ·rw[step,he,ai]
  ·right
   refine⟨az.L1.bV (),?_,λkn kx=> ?_⟩
   ·simp only[az.L1.add,az.L1.F,aa,hd,he,Bool.true_or,if_true]
    rfl
   ·rw[step,he,ah]
 ·right
  obtain rfl:m=n:=by omega
  refine⟨az.L1.kI (l,(m:Int)),?_,λkn kx=> ?_⟩
  ·have hd:((l.take m).drop m)=[]:=gM (by rw[fO];omega)
   simp only[az.L1.add,az.L1.F,aa,hd,List.any_nil,cF,if_false]
   rfl
  ·rw[az.L1.step,bp (by omega),ai]
theorem az.L0.ok:az.L0.Ok:=by
 refine az.L0.aI (λ(l,i)=>l.length - i.toNat) ?_
 rintro⟨l,i⟩ ⟨hl,k,hk,rfl⟩
 have hl:l.length<=1000:=hl
 have hk:k<=l.length:=hk
 by_cases h:k < l.length
 ·have hd:tS l (l.length - k) k=(u9 l k && tS l (l.length - (k+1)) (k+1)):=by
   rw[show l.length - k=(l.length - (k+1))+1 by omega,tS]
  have step:∀ {R:Type} (kn:AS->Option R) (kx:Exit->AS->Option R),az.L0.R (l,(k:Int)) kn kx=aJ (u9 l k) (kn (az.L0.st (l,((k+1:Nat):Int)))) (kx (az.L0.bV ()).1 (az.L0.bV ()).2):=by
   intro R kn kx
   rw[az.L0.step,bI (by omega),ah,az.L1.run (d:=(l,(k:Int),0)) ⟨hl,k,0,h,rfl,bm _,rfl⟩]
   simp only[ab,az.L1.add,az.L1.F,aa,bK,aW]
   unfold u9
   cases(l.take k).any (O9 (nth tH l k))
   ·simp only[cF,if_false,iZ,ai,gO,ab,gk,cv,aa]
    rw[bF (by omega) (by omega),ah,N.pJ (by omega)]
    show aJ (Ty.beq tH (nth tH l k) Gi) _ _=_
    cases Ty.beq tH (nth tH l k) Gi <;> rfl
   ·simp only[if_true,nL,ah,mr,ab,bY,fK,ai]
  cases he:u9 l k
  ·right
   refine⟨az.L0.bV (),?_,λkn kx=> ?_⟩
   ·simp only[az.L0.add,az.L0.F,aa,hd,he,fK,cF,if_false]
    rfl
   ·rw[step,he,ai]
  ·left
   refine⟨(l,((k+1:Nat):Int)),⟨hl,k+1,by omega,rfl⟩,by simp only[aa];omega,?_,λkn kx=> ?_⟩
   ·simp only[az.L0.add,az.L0.F,aa,hd,he,cv]
   ·rw[step,he,ah]
 ·right
  obtain rfl:k=l.length:=by omega
  refine⟨az.L0.kI (),?_,λkn kx=> ?_⟩
  ·simp only[az.L0.add,az.L0.F,aa,Nat.sub_self,tS,if_true]
   rfl
  ·rw[az.L0.step,bp (by omega),ai]
theorem az.ok:az.Ok:=by
 intro l hl
 rw[az.eq,az.L0.run (d:=(l,0)) ⟨hl,0,bm _,rfl⟩]
 simp only[ab,az.L0.add,az.L0.F,bK,Nat.sub_zero,az.add,az.F,BQ]
 by_cases h:tS l l.length 0=true
 ·rw[if_pos h,h];rfl
 ·rw[if_neg h,Bool.eq_false_iff.2 h];rfl
def az.E:=Entry.dp [some (.slice tH)] az.st az.aw az.add az.F az.out
def az.call:az.D->Option az.X:=cj az.E az.st
theorem az.run:cl az.call az.aw az.add az.F:=dw (du [.d (.slice tH)] λ_=>by kernel_rfl)
def az.sg:SG Tryz.prog:=⟨20,aP,az.E,.fn 2 (by kernel_rfl) az.ok (And.intro (.dp az.L0.ok (by kernel_rfl)) (And.intro (.dp az.L1.ok (by kernel_rfl)) trivial))⟩
theorem Pa(x y:List Int):O9 x y=true↔y=x:=⟨beq_eq tH y x rfl,λh=>by rw[h];exact beq_refl tH x rfl⟩
theorem EN:∀(l:List (List Int)) (n i:Nat),tS l n i=true->∀j,i<=j->j < i+n->u9 l j=true
 |_,0,i,_,j,h1,h2=>by omega
 |l,n+1,i,h,j,h1,h2=>by
  rw[tS,ak]at h
  by_cases e:j=i
  ·rw[e];exact h.1
  ·exact EN l n (i+1) h.2 j (by omega) (by omega)
theorem K3{l:List (List Int)}(h:BQ l=true):(∀x∈l,x≠Gi)/\l.Pairwise (λx y=>x≠y):=by
 have hk:∀(k:Nat) (hk:k < l.length),u9 l k=true:=λk hk=>EN l l.length 0 h k (bm _) (by omega)
 refine⟨λx hx=> ?_,?_⟩
 ·obtain⟨k,Pp,rfl⟩:=List.getElem_of_mem hx
  have:=hk k Pp
  unfold u9 at this
  rw[ak,dP (t:=tH) Pp]at this
  intro e
  rw[e]at this
  have h2:=this.2
  rw[show Ty.beq tH Gi Gi=true from beq_refl tH _ rfl]at h2
  cases h2
 ·rw[List.pairwise_iff_getElem]
  intro i j hi hj T0 e
  have:=hk j hj
  unfold u9 at this
  rw[ak,dP (t:=tH) hj]at this
  have h1:=this.1
  rw[dI,jr]at h1
  refine h1 l[i] ?_ ((Pa _ _).2 e)
  exact List.mem_take_iff_getElem.2 ⟨i,by omega,rfl⟩
def qa(ch:iN):At:=[J2 0 (ch.2.1,(th ch,()))]
def Gg(ch:iN)(t:iM):Bool×(Nat×(At×List mN)):=if(mU t 1 (qa ch)).2=0 then(true,(1,(ma t 1 (qa ch),[stepOf t (qa ch)]))) else(false,(0,(qa ch,[])))
theorem Fy{ch:iN}(fI:ns ch):kW (th ch)=true:=by
 unfold th
 rw[NA _ (dD rfl)]
 simp only[kG,oe,(fI.ba (.inl rfl)).1.p,(fI.ba (.inr rfl)).1.p,l9]
theorem M6{ch:iN}(fI:ns ch):Mm (th ch):=λb hb=>by
 rw[aR.1 (show b∈ [([(nW ch 0).1,(nW ch 1).1],(0,0,0,()))] from hb)]
 refine⟨λx hx=> ?_,vh⟩
 rcases cH.1 hx with rfl | hx
 ·exact(fI.ba (.inl rfl)).1.1
 ·rw[aR.1 hx];exact(fI.ba (.inr rfl)).1.1
theorem Fk{ch:iN}(fI:ns ch):JO (qa ch):=by
 have ha:=fI.DD
 refine⟨fR.2 ⟨λh=>(by cases h),lE⟩,λp hp=> ?_⟩
 rw[aR.1 (show p∈ [J2 0 (ch.2.1,(th ch,()))] from hp)]
 exact⟨⟨eo,λx hx=>by rw[(pk.1 hx).2];exact⟨by decide,by decide⟩⟩,Fy fI,M6 fI,by show 0<=ch.2.1;omega,by show ch.2.1<=_;omega,ln 0,by show(0:Int)<=_;decide⟩
theorem ct.c{ch:iN}(fI:ns ch):ct.call [(ch.2.1,(th ch,()))]=some (.inr (qa ch,[])):=by
 have ha:=fI.DD
 have e:PO [(ch.2.1,(th ch,()))]=some (qa ch):=by
  unfold PO
  rw[if_pos (dD rfl)]
  have e0:xV 0 (ch.2.1,(th ch,()))=true:=by
   unfold xV
   rw[Fy fI,aO ⟨by show 0<=ch.2.1;omega,by show ch.2.1<=1125899906842624 - 0;omega⟩]
   rfl
  rw[FU,e0]
  rfl
 rw[ct.run (d:=[(ch.2.1,(th ch,()))]) (λo ho=>by
  rw[aR.1 ho]
  exact⟨M6 fI,by show 1<=_;decide,by show ch.2.1<=_;omega⟩)]
 simp only[ct.add,ct.F,e]
theorem SF(a b:Sg):uD ((0:Int),([a,b],((0:Int),())))=true:=rfl
theorem yz{k0 k1:pI}{c:iM}(jV:jQ c=true)(hv:tZ c):jQ (mv k0 k1 c)=true/\tZ (mv k0 k1 c)/\mD (mv k0 k1 c)=mD c/\gq (mv k0 k1 c)=gq c:=by
 have hl:=(pH jV).1.1
 have h0:0 < c.1.length:=by omega
 unfold mv
 generalize hm:mD c=m
 have hs:∀k,SL (jO k m):=λk=>H3 k m
 have ha:=hs k0.1
 have hb:=hs k1.1
 clear hs
 generalize jO k0.1 m=a at*
 generalize jO k1.1 m=b at*
 refine⟨zb h0 jV (SF _ _),Ol h0 hv ⟨λs hx=> ?_,vh⟩ (by show 2<=_;decide),?_,?_⟩
 ·rcases cH.1 (show s∈ [a,b] from hx) with rfl | hx
  ·exact ha
  ·rw[aR.1 hx];exact hb
 ·rw[(F4 h0 jV (SF _ _)).1,hm]
 ·exact(F4 h0 jV (SF _ _)).2.2
abbrev dS.D:=yk×Int
def dS.st:dS.D->SA:=λ(p,me)=>([.d KL p,.d ti me],[])
abbrev dS.Y:=Ax×Bool×Nat×(List (ir×na))×(List mN)
abbrev dS.X:=Ax×Bool×Nat×(List (ir×na))×(List mN)
def dS.out:dS.X->aZ:=λx=>⟨.cons (.ptr (.new 0 0) 0 [] 0) (.cons (.d Gr x.1) (.cons (.d .bool x.2.1) (.nil))),[],[.obj 0 false (.pr (.kO (.new 0 1) 0) (.pr (.dh (.new 0 2) 0 [] 0 0 x.2.2.1) (.d .unit ()))),.obj 0 false (.mp gV wD x.2.2.2.1),.obj 0 false (.vec 149 pG x.2.2.2.2)]⟩
def dS.add:dS.D->dS.Y->dS.X:=λ(p,me) y=>y
def dS.aw:dS.D->Prop:=λ(p,me)=>Mn p/\Sm p.2.2.2.2.2.2.2.1/\(me=0\/me=1)
def dS.F:dS.D->dS.Y:=λ(p,me)=>(bZ (tE p) (Ib p) (1 - me) (l7 p.2.2.2.2.2.2.2.1),Gg (tE p) (mv (oK (nth tH p.1 0)) (oK (nth tH p.1 1)) (bZ (tE p) (Ib p) (1 - me) (l7 p.2.2.2.2.2.2.2.1)).1))
def dS.G:fD:=gz (P:=Tryz.prog) [aM.sg,eU.sg,bn.sg,hM.sg,ct.sg,gA.sg,hH.sg,bE.sg]
def dS.an:fT:= {nB:=[⟨4,[.snd,.fst],38,0⟩],res:=[none,some Gr,none]}
def dS.A:= @dq Tryz.prog dS.G dS.an 0 Tryz.f18 _ dS.st
abbrev dS.Ok:=dr @dS.A dS.aw dS.add dS.F dS.out
theorem dS.eq{R:Type}(p:yk)(me:Int)(k:aZ->Option R):dS.A (p,me) k=
  aj (aM.call p) λx1=>
  aj (eU.call p.2.2.2.2.2.2.2.1) λx2=>
  aj (bn.call (x1.1,x1.2.2,(cY .i64 (1:Int) me),x2)) λx3=>
  aj (hM.call x1.1) λx4=>
  aj (ct.call [(x1.1.2.1,(x4,()))]) λx5=>
  aJ (x5.isLeft) (
   aj (x5.getLeft?) λZB=>
   aJ ((rN x3.2 (0:Int))) (
    k ⟨.cons (.o6) (.cons (.d Gr x3.1) (.cons (.d .bool false) (.nil))),[],[]⟩) (
    k ⟨.cons (.o6) (.cons (.d Gr x3.1) (.cons (.d .bool false) (.nil))),[],[]⟩)) (
   aj (x5.getRight?) λXQ=>
   aJ ((rN x3.2 (0:Int))) (
    k ⟨.cons (.o6) (.cons (.d Gr x3.1) (.cons (.d .bool false) (.nil))),[],[]⟩) (
    aJ (decide (0 < (List.length x1.2.1))) (
    aj (gA.call ((nth rZ x1.2.1 0),x3.1.1)) λx6=>
    aJ (decide (1 < (List.length x1.2.1))) (
    aj (gA.call ((nth rZ x1.2.1 1),x3.1.1)) λx7=>
    aj (hH.call (x3.1.1,x6,x7)) λx8=>
    aj (bE.call (x8,(1:Int),0,XQ.1,XQ.2)) λx9=>
    aJ (x9.isLeft) (
     aj (x9.getLeft?) λVg=>
     k (dS.out (x3.1,(nX Vg.1 (0:Int)),Vg.2.1,Vg.2.2.1,Vg.2.2.2))) (
     aj (x9.getRight?) λVh=>
     k (dS.out (x3.1,(nX Vh.1 (0:Int)),Vh.2.1,Vh.2.2.1,Vh.2.2.2)))) none) none)):=by kernel_rfl
theorem NH{ch:iN}{s:jl}{own:Int}{per:List Int}(hs:xi ch s)(ho:own=0\/own=1):oG ch s own (l7 per)=(bZ ch s own (l7 per),0):=by
 have hp:oS (l7 per)=true:=v7 _
 unfold oG
 rw[aO ho,hp,if_pos (show(true && true)=true from rfl),if_pos (sT.2 hs)]
theorem dS.ok:dS.Ok:=by
 rintro⟨p,me⟩ ⟨hp,yC,hm⟩
 have hp:Mn p:=hp
 have yC:Sm p.2.2.2.2.2.2.2.1:=yC
 have hm:me=0\/me=1:=hm
 have fI:=GL hp
 have hu:=Ot p
 have hs:=An hp
 have RW:iw (l7 p.2.2.2.2.2.2.2.1):=uK _
 have ON:=NH (per:=p.2.2.2.2.2.2.2.1) hs (own:=1 - me) (by omega)
 have jV:=uh (per:=l7 p.2.2.2.2.2.2.2.1) fI hs (own:=1 - me) (by omega)
 have hv:=(qH (per:=l7 p.2.2.2.2.2.2.2.1) fI hu hs (own:=1 - me) (by omega) RW).1
 have YG:=v9 (nth tH p.1 0)
 have Wi:=v9 (nth tH p.1 1)
 have T4:tm p=[oK (nth tH p.1 0),oK (nth tH p.1 1)]:=rfl
 have c1:=bn.c (own:=1 - me) fI hu RW
 rw[ON]at c1
 have ea:∀d y,dS.add d y=y:=λ_ _=>rfl
 have eF:dS.F (p,me)=(bZ (tE p) (Ib p) (1 - me) (l7 p.2.2.2.2.2.2.2.1),Gg (tE p) (mv (oK (nth tH p.1 0)) (oK (nth tH p.1 1)) (bZ (tE p) (Ib p) (1 - me) (l7 p.2.2.2.2.2.2.2.1)).1)):=rfl
 rw[dS.eq,ea,eF,aM.c hp,ab,eU.c yC,ab,JD (by omega),T4]
 generalize oK (nth tH p.1 0)=k0 at*
 generalize oK (nth tH p.1 1)=k1 at*
 generalize tE p=ch at*
 generalize Ib p=s at*
 generalize l7 p.2.2.2.2.2.2.2.1=per at*
 rw[c1,ab,hM.run (d:=ch) fI]
 generalize bZ ch s (1 - me) per=c at*
 simp only[ab,hM.add,hM.F]
 rw[ct.c fI,ab]
 simp only[iZ,ai,gO,ab]
 rw[gK rfl,ai,aO (show 0 < ([k0,k1]:List pI).length from mo 1),ah,aO (show 1 < ([k0,k1]:List pI).length from Nat.lt_succ_self 1)]
 rw[show nth rZ [k0,k1] 0=k0 from rfl,show nth rZ [k0,k1] 1=k1 from rfl]
 have g0:gA.call (k0,c.1)=some (jO k0.1 (mD c.1)):=gA.run (d:=(k0,c.1)) ⟨YG.1,hv⟩
 have g1:gA.call (k1,c.1)=some (jO k1.1 (mD c.1)):=gA.run (d:=(k1,c.1)) ⟨Wi.1,hv⟩
 have g2:hH.call (c.1,jO k0.1 (mD c.1),jO k1.1 (mD c.1))=some (mv k0 k1 c.1):=hH.run (d:=(c.1,jO k0.1 (mD c.1),jO k1.1 (mD c.1))) jV
 rw[g0,ab,ah,g1,ab,g2,ab]
 have hf:=yz (k0:=k0) (k1:=k1) jV hv
 generalize mv k0 k1 c.1=t at hf
 rw[bE.run (d:=(t,1,0,qa ch,[])) ⟨hf.2.1,Fk fI,bm _,bm _⟩]
 simp only[ab,bE.add,bE.F]
 unfold Gg
 by_cases h:(mU t 1 (qa ch)).2=0
 ·rw[if_neg (λe=>e h),if_pos h]
  simp only[iZ,ai,gO,ab]
  rfl
 ·rw[if_pos h,if_neg h]
  simp only[nL,ah,mr,ab]
  rw[fJ h]
def dS.E:=Entry.dp [some KL,some ti] dS.st dS.aw dS.add dS.F dS.out
def dS.call:dS.D->Option dS.X:=cj dS.E dS.st
theorem dS.run:cl dS.call dS.aw dS.add dS.F:=dw (du [.d KL,.d ti] λ_=>by kernel_rfl)
def dS.sg:SG Tryz.prog:=⟨18,aP,dS.E,.fn 0 (by kernel_rfl) dS.ok trivial⟩
end
end Go.Ab
namespace Go.Ab
open Go.Proofs
noncomputable section
theorem NI(n:Nat):mG 1 (gP n)=gP n:=by
 have h:=xM 0 n
 rw[Fz,bl]at h
 exact h
theorem SB(a b:Nat):vg [gP a,gP b]=gP (a+b):=by
 show mG (mG 1 (tk (gP a))) (tk (gP b))=_
 rw[zh (xK a),zh (xK b),NI,xM]
theorem Ru{x y:Int}(hx:0<=x)(hy:0<=y):gP (BP x y).toNat=gP (x.toNat+y.toNat):=by
 rw[<-zI (x.toNat+y.toNat)]
 congr 1
 unfold BP LU
 omega
theorem J8{x y:Int}(hx:0<=x)(hy:0<=y):gP (yM x y).toNat=gP (x.toNat*y.toNat):=by
 rw[<-zI (x.toNat*y.toNat)]
 congr 1
 unfold yM LU
 rw[<-iQ]
 obtain⟨a,rfl⟩:=kR hx
 obtain⟨b,rfl⟩:=kR hy
 rw[<-pa,aa,aa]
 generalize a*b=n
 omega
theorem Oa{b:Int}{s:List Int}(hb:0<=b):fw (sx b s)=vc (fw b) (l7 s):=by
 have hq:=(lZ s).1
 unfold sx vc
 have hu:0<=tK uv (fw b) (l7 s):=(B6 _ _ _).1
 have hv:0<=tK uv (l7 s) (fw b):=(B6 _ _ _).1
 generalize tK uv (fw b) (l7 s)=u at*
 generalize tK uv (l7 s) (fw b)=v at*
 unfold l7
 generalize kS s=q at*
 rw[td _ (yp _ _).1,Ru (yN _ _).1 (yN _ _).1,<-xM,J8 hb hu,J8 (by omega) hv,xM,td b hb,td q (by omega),Cd _ _ hu,Cd _ _ hv,SB]
def Kw(k:Int)(l:Lk):Prop:=kW l=true/\∃r,l.1=([fw k],((0:Int),((0:Int),((0:Int),()))))::r
def JP(a:At)(x:mI):Prop:=∃c,fj gV x.1 a=some c/\c.1.1=x.2.1/\c.2.1=1/\Kw x.2.2.1 c.1.2.1
def UD(m:List Int)(x:mI):kX:=(x.1,(((0:Int),([jO x.2.2.1 m],((0:Int),()))),()))
theorem PS{k:Int}{l:Lk}(hl:Kw k l)(hk:0 < k/\k < 2305843009213688669)(m:List Int){h a:Int}(h0:0<=h)(h1:0<=a):tt l ((0:Int),([jO k m],((0:Int),()))) m h a=0:=by
 obtain⟨jV,r,e⟩:=hl
 have h0':0 < l.1.length:=by rw[e];exact mo _
 have hb:l.1[0]=([k].map fw,((0:Int),((0:Int),((0:Int),())))):=by simp only[e];rfl
 have s:=yQ [k] (Uw hk) 0 0 0 0 m h a (.inl rfl)
 rw[if_neg (by omega)]at s
 exact(Kv jV h0' hb [jO k m] 0 m h a).trans s
theorem Kl{h:Int}{id:List Int}{a:At}:∀(l:List kX) (f0:Int),(∀x∈l,∃c,fj gV x.1 a=some c/\tt c.1.2.1 x.2.1 id h (h - c.2.1)=0)->∃f,rO h id a l f0= .inr f
 |[],f0,_=>⟨f0,rfl⟩
 |x::l,f0,hx=>by
  obtain⟨c,h1,h2⟩:=hx x bq
  obtain⟨f,hf⟩:=Kl l (f0+c.1.1) λy hy=>hx y (bj _ hy)
  refine⟨f,?_⟩
  rw[rO,h1]
  simp only[h2,ne_eq,not_true_eq_false,if_false]
  exact hf
theorem EZ{a:At}:∀l:List mI,(∀x∈l,∃c,fj gV x.1 a=some c/\c.1.1=x.2.1)->qs a (l.map λx=>x.1)=Be l
 |[],_=>rfl
 |x::l,hx=>by
  obtain⟨c,h1,h2⟩:=hx x bq
  have ih:=EZ l λy hy=>hx y (bj _ hy)
  unfold qs at ih ⊢
  rw[cG,cG,List.sum_cons,ih,h1,Be]
  show c.1.1+_=_
  rw[h2]
theorem KF{A r:List kX}{y:kX}:nth kj (A++y::r) A.length=y/\∀z,(A++y::r).set A.length z=A++z::r:=by
 constructor
 ·rw[dP (t:=kj) (by rw[ae,aN];omega)]
  simp
 ·intro z
  simp
theorem EX(m:List Int):∀(l:List mI) (t t':iM) (i:Nat) (A:List kX),qB t i l= .inl t'->tZ t->mD t=m->t.1=A++l.map Cq->A.length=i->t'.1=A++l.map (UD m)/\mD t'=m/\∀x∈l,x.2.2.1 < 2305843009213688669/\x.2.2.1≠0
 |[],t,t',i,A,h,_,hm,ht,_=>by
  rw[qB]at h
  injection h with h
  subst h
  exact⟨ht,hm,λx hx=>by cases hx⟩
 |x::l,t,t',i,A,h,hv,hm,ht,hi=>by
  rw[qB]at h
  split at h
  ·next e=>
   have hs:=KI hv vh e
   have ha:=Db (sc:=0) hv hs.2 vh
   have e1:pS t i 0 [x.2.2.1] 0=(vf t i (wA t 0 [x.2.2.1] 0),0):=by rw[zd,if_pos hs.2,aa]
   rw[aa]at ha
   rw[e1]at h
   have hk:=(Da hs.2).2.2 x.2.2.1 (aR.2 rfl)
   obtain⟨q1,q2,q3⟩:=EX m l (vf t i (wA t 0 [x.2.2.1] 0)) t' (i+1) (A++ [UD m x]) h ha.2.1 (ha.2.2.1.trans hm) (by
    show t.1.set i ((nth kj t.1 i).1,(wA t 0 [x.2.2.1] 0,()))=_
    unfold wA
    rw[hm,ht,<-hi,cG,KF.1,KF.2,bR]
    rfl) (by rw[ae,hi];rfl)
   refine⟨?_,q2,λy hy=> ?_⟩
   ·rw[q1,bR];rfl
   ·rcases cH.1 hy with rfl | hy
    ·exact hk
    ·exact q3 y hy
  ·cases h
theorem C9:∀(l:List mI) (t:iM) (i:Nat) (e:Int),qB t i l= .inr e->e=1
 |[],t,i,e,h=>by rw[qB]at h;cases h
 |x::l,t,i,e,h=>by
  rw[qB]at h
  split at h
  ·exact C9 l _ _ e h
  ·next hn=>
   injection h with h
   rw[<-h]
   rw[zd]at hn ⊢
   split
   ·next e2=>rw[if_pos e2]at hn;exact absurd rfl hn
   ·rfl
theorem JE{l:List mI}{to:Lk}{bP h:Int}{t:iM}{a:At}(hg:zr l)(ht:ua to)(rV:kW to=true)(hn:(l.map λx=>x.1).Nodup)(hi:∀x∈l,0<=x.1.2.1/\x.1.2.1 < 64)(hr:0<=bP)(hm:lP l bP<=1125899906842624)(e:ni l to bP=(t,0)):
  1<=lP l bP/\jQ t=true/\tZ t/\t.2=([(lP l bP,(to,()))],((0:Int),()))/\(t.1.length=l.length/\sY t=18+18*(l.length:Int)/\gb t=l.map λx=>x.1)/\
  ((1<=h/\h<=1048576)->(∀x∈l,JP a x)->(∀o:ir,o.1=mD t->fj gV o a=none)->mU t h a=(bP*sY t,0)):=by
 have Xi:1<=lP l bP:=by
  unfold ni at e
  split at e
  ·injection e with _ e;cases e
  ·omega
 have lh:1<=l.length:=by
  cases l with
  |nil=>
   have:lP [] bP=0 - bP*(18+18*0):=nM [] bP
   omega
  |cons x l=>exact Nat.succ_le_succ (bm _)
 have Kf:qB (D8 l to (lP l bP)) 0 l= .inl t:=by
  unfold ni at e
  rw[if_neg (by omega)]at e
  cases hs:qB (D8 l to (lP l bP)) 0 l with
  |inl t2=>rw[hs]at e;injection e with e _;rw[e]
  |inr x=>
   rw[hs]at e
   injection e with _ e
   have:=C9 _ _ _ _ hs
   omega
 obtain⟨s1,s2,s3⟩:=EX (mD (D8 l to (lP l bP))) l _ t 0 [] Kf (JH hg ht) rfl rfl rfl
 have hk:∀x∈l,0 < x.2.2.1/\x.2.2.1 < 2305843009213688669:=λx hx=>by
  have h1:=(hg.2 x hx).key.1
  have h2:=s3 x hx
  omega
 obtain⟨t2,e2,w1,w2,w3,w4,w5,w6⟩:=Dl hg ht rV lh hn hi hk Xi hm
 have et:t2=t:=by rw[e2]at e;injection e
 subst et
 refine⟨Xi,w1,w2,w3,⟨w4,w5,w6⟩,λhh ha RT=> ?_⟩
 rw[<-s2]at s1
 rw[bu]at s1
 have RM:∃f,rO h (mD t2) a t2.1 0= .inr f:=Kl t2.1 0 λx hx=>by
  rw[s1]at hx
  obtain⟨y,hy,rfl⟩:=eb.1 hx
  obtain⟨c,c1,c2,c3,c4⟩:=ha y hy
  exact⟨c,c1,PS c4 (hk y hy) _ (by omega) (by omega)⟩
 obtain⟨f,hf⟩:=RM
 have Pk:=(xP _ _ _ hf).2
 have VV:t2.1.map (·.1)=l.map λx=>x.1:=by rw[s1,pZ];rfl
 rw[VV,EZ l (λx hx=>by obtain⟨c,c1,c2,_⟩:=ha x hx;exact⟨c,c1,c2⟩)]at Pk
 have SX:(gq t2).any (pd a)=false:=by
  rw[jr]
  intro o ho
  have:o.1=mD t2:=by
   unfold gq at ho
   rw[if_pos w1]at ho
   exact ur ho
  unfold pd
  rw[RT o this]
  decide
 have FE:mc t2.2.1=lP l bP:=by
  rw[w3]
  show lP l bP+0=_
  omega
 have VQ:=nM l bP
 have Vy:f - mc t2.2.1=bP*sY t2:=by rw[FE,w5];omega
 have RS:0<=bP*sY t2:=pW hr (by omega)
 unfold mU
 rw[if_pos ⟨w1,hh.1,hh.2⟩,hf]
 simp only[]
 rw[SX,if_neg (by decide),Vy,if_neg (by omega)]
theorem Gb(rev pay:Int):∀(l:List mF) (os:List ir) (y:mI),y∈Ba rev pay os (l.map λm=>m.1) (l.map λm=>m.2.1)->∃(k:Nat) (h:k < os.length) (h2:k < l.length),y=(os[k],(l[k].1.1,((if l[k].2.1.1=2 then pay else rev),())))/\¬(l[k].2.1.1=3\/l[k].2.1.1=4)
 |[],[],y,h=>by simp[Ba]at h
 |[],_::_,y,h=>by simp[Ba]at h
 |_::_,[],y,h=>by simp[Ba]at h
 |m::l,o::os,y,h=>by
  rw[cG,cG,Ba,cf]at h
  rcases h with h | h
  ·unfold vC at h
   split at h
   ·cases h
   ·next hr=>
    rw[aR]at h
    exact⟨0,mo _,mo _,h,hr⟩
  ·obtain⟨k,h1,h2,h3,h4⟩:=Gb rev pay l os y h
   exact⟨k+1,Nat.succ_lt_succ h1,Nat.succ_lt_succ h2,h3,h4⟩
theorem Og{ch:iN}{s:jl}{own per:Int}{m:mF}(hm:m∈ng ch s own per)(hr:¬(m.2.1.1=3\/m.2.1.1=4)):∃r,m.1.2.1.1=([if m.2.1.1=2 then(nW ch (1 - own)).2.1 else vc (nW ch (1 - own)).2.2.2.2.1 per],((0:Int),((0:Int),((0:Int),()))))::r:=by
 unfold ng at hm
 simp only[cf]at hm
 generalize vc (nW ch (1 - own)).2.2.2.2.1 per=rv at*
 rcases hm with hm | hm | hm | hm
 ·split at hm
  ·rw[aR]at hm;subst hm
   exact⟨_,rfl⟩
  ·cases hm
 ·split at hm
  ·rw[aR]at hm;subst hm
   exact⟨_,rfl⟩
  ·cases hm
 ·rcases cH.1 hm with rfl | hm
  ·exact absurd (.inl rfl) hr
  ·rw[aR]at hm;subst hm
   exact absurd (.inr rfl) hr
 ·obtain⟨c,hc,rfl⟩:=eb.1 hm
  unfold oC
  split
  ·exact⟨_,rfl⟩
  ·exact⟨_,rfl⟩
theorem NR{ch:iN}{s:jl}{me per rev pay np:Int}{t:iM}{a:At}(fI:ns ch)(hs:xi ch s)(hm:me=0\/me=1)(hp:fw pay=(nW ch me).2.1)(hr:fw rev=vc (nW ch me).2.2.2.2.1 per)(h:tC t 1 a np)
  (e1:gq t=gq (bZ ch s (1 - me) per).1) (e2:t.2.1=(bZ ch s (1 - me) per).1.2.1):∀x∈tr (bZ ch s (1 - me) per) rev pay,JP (ma t 1 a) x:=by
 intro x hx
 have ho:1 - me=0\/1 - me=1:=by omega
 have Tx:1 - (1 - me)=me:=by omega
 obtain⟨k,h1,h2,rfl,h4⟩:=Gb rev pay (lf (ng ch s (1 - me) per)) (gq (bZ ch s (1 - me) per).1) x hx
 have tM:=w7.1 (List.getElem_mem h2)
 have Mp:=KC fI hs ho _ tM
 obtain⟨r,hb⟩:=Og tM h4
 rw[Tx,<-hp,<-hr]at hb
 have uV:=h.new (k:=k) (by rw[e1];exact h1) (by rw[e2];show k < (List.map _ _).length;rw[b8];exact h2)
 have e3:(bZ ch s (1 - me) per).1.2.1=(lf (ng ch s (1 - me) per)).map λm=>m.1:=rfl
 rw[e3]at e2
 simp only[e1,e2,mj]at uV
 refine⟨_,uV,rfl,rfl,Mp,r,?_⟩
 show(lf (ng ch s (1 - me) per))[k].1.2.1.1=_
 rw[hb]
 show _=([fw (if(lf (ng ch s (1 - me) per))[k].2.1.1=2 then pay else rev)],_)::r
 split <;> rfl
theorem AZ:∀l:List kF,mc l=F9 l
 |[]=>rfl
 |o::l=>by rw[AY,F9,AZ l]
theorem Of{ch:iN}{s:jl}{own per:Int}(fI:ns ch)(hs:xi ch s)(ho:own=0\/own=1):qC (ng ch s own per)<=ch.2.1:=by
 have hp':1 - own=0\/1 - own=1:=by omega
 have r0:=y2 hs ho
 have r1:=y2 hs hp'
 have rs:=ES fI s ho
 have ht:=hs.Ve
 have I4:=yc _ hs.a
 have hf:=xH s.2.2.2.1 (jb s.2.2.1).length
 unfold ng
 rw[lp,lp,lp,(qD ..).1]
 have e0:∀(b:Bool) (n:Int) (l:Lk) (r:xx),0<=n->qC (if b=true then [Gp n l r] else [])<=n:=λb n l r hn=>by
  cases b
  ·exact hn
  ·show n+0<=n;omega
 have q0:=e0 (D7 (jF ch s own)) (jF ch s own) (AH (wb (nW ch own).2.2.1 per) (vc (nW ch (1 - own)).2.2.2.2.1 per) (xv ch (1 - own))) ((1:Int),(OV,())) r0
 have q1:=e0 (D7 (jF ch s (1 - own))) (jF ch s (1 - own)) (vD [(nW ch (1 - own)).2.1]) ((2:Int),(OV,())) r1
 have q2:∀(a b:Lk) (x y:xx),qC [Gp 330 a x,Gp 330 b y]=660:=λ_ _ _ _=>rfl
 rw[q2]
 omega
theorem zA(ch:iN)(o:ir):fj gV o (qa ch)=if o=(List.replicate 32 0,((0:Int),())) then some ((ch.2.1,(th ch,())),((0:Int),())) else none:=by
 show fj gV o [((List.replicate 32 (0:Int),(((0:Nat):Int),())),((ch.2.1,(th ch,())),((0:Int),())))]=_
 rw[jn,uu]
 by_cases h:o=(List.replicate 32 0,((0:Int),()))
 ·rw[if_pos h];exact if_pos ((DF _ _).2 h)
 ·rw[if_neg h];exact if_neg (λe=>h ((DF _ _).1 e))
theorem KG(ch:iN)(s:jl)(own per:Int)(w:DB):vf (bZ ch s own per).1 0 w=([(ch.1,(w,()))],(bZ ch s own per).1.2):=rfl
theorem Ip{ch:iN}{s:jl}{own per:Int}{k0 k1:pI}(fI:ns ch)(hu:uE s)(hs:xi ch s)(ho:own=0\/own=1)(yC:iw per)(p0:0 < k0.1/\k0.1 < 2305843009213688669)(p1:0 < k1.1/\k1.1 < 2305843009213688669)(b0:(nW ch 0).1=fw k0.1)(b1:(nW ch 1).1=fw k1.1)
  (hz:mD (bZ ch s own per).1≠Gi):(mU (mv k0 k1 (bZ ch s own per).1) 1 (qa ch)).2=0:=by
 have jV:=uh (per:=per) fI hs ho
 have hv:=(qH fI hu hs ho yC).1
 obtain⟨f1,f2,f3,f4⟩:=yz (k0:=k0) (k1:=k1) jV hv
 have UX:=Fy fI
 have bh:mc (bZ ch s own per).1.2.1<=ch.2.1:=by
  show mc ((lf (ng ch s own per)).map λm=>m.1)<=_
  rw[AZ,Dh,zt (mf _)]
  exact Of fI hs ho
 have VA:=fI.Pc
 unfold mU
 rw[if_pos ⟨f1,by decide,by decide⟩]
 have SX:(gq (mv k0 k1 (bZ ch s own per).1)).any (pd (qa ch))=false:=by
  rw[f4,jr]
  intro o hm
  have e:o.1=mD (bZ ch s own per).1:=by
   unfold gq at hm
   rw[if_pos jV]at hm
   exact ur hm
  unfold pd
  rw[zA,if_neg (λe2=>hz (by rw[<-e,e2];rfl))]
  decide
 have RM:rO 1 (mD (mv k0 k1 (bZ ch s own per).1)) (qa ch) (mv k0 k1 (bZ ch s own per).1).1 0= .inr (0+ch.2.1):=by
  rw[f3]
  unfold mv
  rw[KG]
  generalize mD (bZ ch s own per).1=m
  have s2:=yQ [k0.1,k1.1] (Ux p0 p1) 0 0 0 0 m 1 1 (.inl rfl)
  rw[if_neg (by decide)]at s2
  have U2:tt (th ch) ((0:Int),([jO k0.1 m,jO k1.1 m],((0:Int),()))) m 1 1=0:=by
   refine(Kv (i:=0) (b:=([k0.1,k1.1].map fw,((0:Int),((0:Int),((0:Int),()))))) UX (mo 0) ?_ [jO k0.1 m,jO k1.1 m] 0 m 1 1).trans s2
   show([(nW ch 0).1,(nW ch 1).1],_)=_
   rw[b0,b1]
   rfl
  rw[rO,zA,VA,if_pos rfl]
  simp only[]
  rw[show(1:Int) - 0=1 from rfl,U2,if_neg (λe=>e rfl),rO]
 rw[RM]
 simp only[]
 rw[SX,if_neg (by decide)]
 have e2:(mv k0 k1 (bZ ch s own per).1).2.1=(bZ ch s own per).1.2.1:=rfl
 rw[e2,if_neg (by omega)]
theorem Io{ch:iN}{s:jl}{own per:Int}{k0 k1:pI}(fI:ns ch)(hu:uE s)(hs:xi ch s)(ho:own=0\/own=1)(yC:iw per)(m:List Int)(h1:m≠mD (bZ ch s own per).1)(h2:m≠Gi){o:ir}(e:o.1=m)
     :fj gV o (ma (mv k0 k1 (bZ ch s own per).1) 1 (qa ch))=none:=by
  have jV:=uh (per:=per) fI hs ho
  have hv:=(qH fI hu hs ho yC).1
  obtain⟨f1,f2,f3,f4⟩:=yz (k0:=k0) (k1:=k1) jV hv
  have RT:¬o=(List.replicate 32 0,((0:Int),())):=λe2=>h2 (by rw[<-e,e2];rfl)
  rw[sh (Fk fI).1 ?_ ?_,zA,if_neg RT]
  · intro hm
    unfold gb at hm
    rw[if_pos f1]at hm
    unfold mv at hm
    rw[KG]at hm
    have hm:o∈ [ch.1]:=hm
    rw[aR,fI.Pc]at hm
    exact RT hm
  · rw[f4]
    intro hm
    unfold gq at hm
    rw[if_pos jV]at hm
    exact h1 (by rw[<-e];exact ur hm)
end
end Go.Ab
namespace Go.Ab
open Go.Proofs
noncomputable section
theorem R5{p:yk}{me:Int}(hm:me=0\/me=1):∃kit,nth rZ [oK (nth tH p.1 0),oK (nth tH p.1 1)] me.toNat=kit/\Fa kit/\nW (tE p) me=uJ kit/\(0 < kit.2.1/\kit.2.1 < 2305843009213688669)/\0<=kit.2.2.2.2.1:=by
 rcases hm with rfl | rfl
 ·exact⟨oK (nth tH p.1 0),rfl,v9 _,rfl,lZ _,nY (lZ _).1⟩
 ·exact⟨oK (nth tH p.1 1),rfl,v9 _,rfl,lZ _,nY (lZ _).1⟩
theorem LC{ch:iN}{s:jl}{kit:pI}{me n:Int}{secret:List Int}{to:Lk}(hs:xi ch s)(hm:me=0\/me=1)(hn:0<=n/\n<=1000)(rV:kW to=true)(hb:nW ch me=uJ kit):
  kV ch kit me s secret to n=(tr (bZ ch s (1 - me) (l7 secret)) (sx kit.2.2.2.2.1 secret) kit.2.1,0):=by
 have VX:CH ch kit me to n=true:=by
  unfold CH
  rw[la (by omega) (by omega),la hn.1 hn.2,rV,hb,MH]
  rfl
 unfold kV
 rw[if_pos VX,NH hs (by omega)]
 rfl
end
end Go.Ab
end
