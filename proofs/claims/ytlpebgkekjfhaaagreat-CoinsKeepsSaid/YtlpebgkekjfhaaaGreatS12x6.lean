/-
  Made short by a program of mine (wip/tools/mini.py).
-/
import Derived.Test.YtlpebgkekjfhaaaGreatS12x5
set_option linter.unusedVariables false
set_option linter.unusedSimpArgs false
namespace Go.Ab
open Go.Proofs
set_option maxRecDepth 100000
set_option linter.unusedVariables false
set_option linter.unusedSimpArgs false
set_option synthInstance.maxSize 5000
abbrev dF.D:=cR×Nat×(List (cR×eS))×(List dI)
def dF.st:dF.D→SA:=fun(o,o0baL,o1,o2)=>([.ptr (.dr 0) 0 [] 0,.d cj o],[.obj 0 false (.pr (.eH (.dr 1) 0) (.pr (.bI (.dr 2) 0 [] 0 0 o0baL) (.d .unit ()))),.obj 0 false (.mp cj gq o1),.obj 0 false (.vec 161 eB o2)])
abbrev dF.Y:=eS×Bool
abbrev dF.X:=(Nat×(List (cR×eS))×(List dI))×(eS×Bool)
def dF.out:dF.X→bk:=fun x=>⟨.cons (.d gq x.2.1) (.cons (.d .bool x.2.2) (.nil)),[.obj 0 false (.pr (.eH (.dr 1) 0) (.pr (.bI (.dr 2) 0 [] 0 0 x.1.1) (.d .unit ()))),.obj 0 false (.mp cj gq x.1.2.1),.obj 0 false (.vec 161 eB x.1.2.2)],[]⟩
def dF.add:dF.D→dF.Y→dF.X:=fun(o,o0baL,o1,o2) y=>((o0baL,o1,o2),y)
def Ha(c:eS):Prop:=jJ c.1.2.1=true∧Cm c.1.2.1∧0≤c.1.1∧c.1.1≤1125899906842624∧0≤c.2.1∧c.2.1≤1048576
def uJ(a:List (cR×eS)):Prop:=(a.map (·.1)).Nodup∧∀p∈a,xq p.1∧Ha p.2
theorem uJ.get{a:List (cR×eS)}(h:uJ a){o:cR}{c:eS}(hg:cO cj o a=some c):Ha c:=(h.2 _ ((gT gC h.1).1 hg)).2
def v8:eS:=((0,(([],()),())),(0,()))
def dF.aC:dF.D→Prop:=fun(_,_,a,_)=>uJ a
def dF.F:dF.D→dF.Y:=fun(o,_,a,_)=>((cO cj o a).getD v8,(cO cj o a).isSome)
noncomputable def dF.G:dZ:=fh (P:=Tryz.prog) [cF.sg]
noncomputable def dF.an:eO:= {res:=[some gq,none]}
noncomputable def dF.A:= @cZ Tryz.prog dF.G dF.an 0 Tryz.f34 _ dF.st
abbrev dF.Ok:=da @dF.A dF.aC dF.add dF.F dF.out
theorem dF.eq{R:Type}(o:cR)(o0baL:Nat)(o1:(List (cR×eS)))(o2:(List dI))(k:bk→Option R):dF.A (o,o0baL,o1,o2) k=
  ah (cF.call ((cO cj o o1).getD (((0:Int),((([]:List iA),()),())),((0:Int),()))).1) fun x1=>
  aJ ((!(cO cj o o1).isSome)) (
   k (dF.out ((o0baL,o1,o2),((((0:Int),((([]:List iA),()),())),((0:Int),())),false)))) (
   k (dF.out ((o0baL,o1,o2),((x1,((cO cj o o1).getD (((0:Int),((([]:List iA),()),())),((0:Int),()))).2),true)))):=by kernel_rfl
theorem Ha.own{c:eS}(h:Ha c):H8 c.1.2.1:=by
 have:=tN h.1
 exact⟨by omega,fun b hb=>by have:=this.2 b hb;omega⟩
theorem dF.ok:dF.Ok:=by
 rintro⟨o,n,a,s⟩ ha
 have ha:uJ a:=ha
 rw[dF.eq]
 cases hg:cO cj o a with
 |none=>
  simp only[Option.getD_none,Option.isSome_none,Bool.not_false,ag]
  rw[cF.run (d:=((0:Int),((([]:List iA),()),()))) ⟨by show 0≤1000;decide,fun b hb=>by cases hb⟩]
  simp only[aa,dF.add,dF.F,hg,Option.getD_none,Option.isSome_none]
  rfl
 |some c=>
  simp only[Option.getD_some,Option.isSome_some,Bool.not_true,ai]
  rw[cF.run (d:=c.1) (ha.get hg).own]
  simp only[aa,cF.add,cF.F,dF.add,dF.F,hg,Option.getD_some,Option.isSome_some]
noncomputable def dF.E:=Entry.cq [none,some cj] dF.st dF.aC dF.add dF.F dF.out
noncomputable def dF.call:dF.D→Option dF.X:=bT dF.E dF.st
theorem dF.run:bK dF.call dF.aC dF.add dF.F:=dh (de [.d cj,.n,.d (.slice (.pair cj gq)),.d (.slice eB)] fun _=>by kernel_rfl)
noncomputable def dF.sg:SG Tryz.prog:=⟨34,aY,dF.E,.fn 0 (by kernel_rfl) dF.ok trivial⟩
abbrev aB.L0.D:=Int×eT×Int×(List fZ)×Int×Int×Nat×(List (cR×eS))×(List dI)×Bs
def aB.L0.st:aB.L0.D→AS:=fun(height_2,t_2,iB,t35,t36,t37,o0L,o1_2,o2_2,n8)=>⟨([.ptr (.dr 0) 0 [] 0,.undef,.d ti height_2,.undef,.eI gf t_2,.undef,.undef,.undef,.ptr (.new 8 0) 0 [] 0,.d ti iB]++ba 25 ([.d (.slice fy) t35,.d ti t36,.d ti t37]++ba 69 [])),[.obj 0 false (.pr (.eH (.dr 1) 0) (.pr (.bI (.dr 2) 0 [] 0 0 o0L) (.d .unit ()))),.obj 0 false (.mp cj gq o1_2),.obj 0 false (.vec 161 eB o2_2)],(bE 8 ([[.obj 0 false (.d tH n8)]]++bE 98 []))⟩
abbrev aB.L0.Y0:=Int
abbrev aB.L0.X0:=(Nat×(List (cR×eS))×(List dI))×(Int)
def aB.L0.bj:aB.L0.X0→Exit×AS:=fun x=>(.ret,⟨(ba 6 ([.d ti (0:Int),.d ti x.2]++ba 99 [])),[.obj 0 false (.pr (.eH (.dr 1) 0) (.pr (.bI (.dr 2) 0 [] 0 0 x.1.1) (.d .unit ()))),.obj 0 false (.mp cj gq x.1.2.1),.obj 0 false (.vec 161 eB x.1.2.2)],(List.replicate 107 [])⟩)
abbrev aB.L0.Y1:=Int
abbrev aB.L0.X1:=(eT×Nat×(List (cR×eS))×(List dI))×(Int)
def aB.L0.e7:aB.L0.X1→Exit×AS:=fun x=>(.exit 0,⟨([.ptr (.dr 0) 0 [] 0,.undef,.undef,.undef,.eI gf x.1.1]++ba 4 ([.d ti x.2]++ba 97 [])),[.obj 0 false (.pr (.eH (.dr 1) 0) (.pr (.bI (.dr 2) 0 [] 0 0 x.1.2.1) (.d .unit ()))),.obj 0 false (.mp cj gq x.1.2.2.1),.obj 0 false (.vec 161 eB x.1.2.2.2)],(List.replicate 107 [])⟩)
abbrev aB.L0.X:=(aB.L0.X0)⊕(aB.L0.X1)
abbrev aB.L0.Y:=(aB.L0.Y0)⊕(aB.L0.Y1)
def aB.L0.out:aB.L0.X→Out (Exit×AS):=fun x=> .br x.isLeft (.get x.getLeft? fun a=> .ok (aB.L0.bj a)) (.get x.getRight? fun b=> .ok (aB.L0.e7 b))
def aB.L0.add:aB.L0.D→aB.L0.Y→aB.L0.X:=fun(height_2,t_2,iB,t35,t36,t37,o0L,o1_2,o2_2,n8) y=>match y with | .inl y=> .inl ((o0L,o1_2,o2_2),y) | .inr z=> .inr (((t_2,o0L,o1_2,o2_2),z))
abbrev aB.L1.D:=eT×Int×(List cR)×Int×Int×Nat×(List (cR×eS))×(List dI)
def aB.L1.st:aB.L1.D→AS:=fun(t_3,fee_2,t75,t76,t77,o0L_2,o1_3,o2_3)=>⟨([.ptr (.dr 0) 0 [] 0,.undef,.undef,.undef,.eI gf t_3]++ba 4 ([.d ti fee_2]++ba 65 ([.d (.slice cj) t75,.d ti t76,.d ti t77]++ba 29 []))),[.obj 0 false (.pr (.eH (.dr 1) 0) (.pr (.bI (.dr 2) 0 [] 0 0 o0L_2) (.d .unit ()))),.obj 0 false (.mp cj gq o1_3),.obj 0 false (.vec 161 eB o2_3)],(List.replicate 107 [])⟩
abbrev aB.L1.Y0:=Unit
abbrev aB.L1.X0:=Nat×(List (cR×eS))×(List dI)
def aB.L1.bj:aB.L1.X0→Exit×AS:=fun x=>(.ret,⟨(ba 6 ([.d ti (0:Int),.d ti (4:Int)]++ba 99 [])),[.obj 0 false (.pr (.eH (.dr 1) 0) (.pr (.bI (.dr 2) 0 [] 0 0 x.1) (.d .unit ()))),.obj 0 false (.mp cj gq x.2.1),.obj 0 false (.vec 161 eB x.2.2)],(List.replicate 107 [])⟩)
abbrev aB.L1.Y1:=Unit
abbrev aB.L1.X1:=eT×Int×Nat×(List (cR×eS))×(List dI)
def aB.L1.e7:aB.L1.X1→Exit×AS:=fun x=>(.exit 2,⟨(ba 4 ([.eI gf x.1]++ba 4 ([.d ti x.2.1]++ba 97 []))),[.obj 0 false (.pr (.eH (.dr 1) 0) (.pr (.bI (.dr 2) 0 [] 0 0 x.2.2.1) (.d .unit ()))),.obj 0 false (.mp cj gq x.2.2.2.1),.obj 0 false (.vec 161 eB x.2.2.2.2)],(List.replicate 107 [])⟩)
abbrev aB.L1.X:=(aB.L1.X0)⊕(aB.L1.X1)
abbrev aB.L1.Y:=(aB.L1.Y0)⊕(aB.L1.Y1)
def aB.L1.out:aB.L1.X→Out (Exit×AS):=fun x=> .br x.isLeft (.get x.getLeft? fun a=> .ok (aB.L1.bj a)) (.get x.getRight? fun b=> .ok (aB.L1.e7 b))
def aB.L1.add:aB.L1.D→aB.L1.Y→aB.L1.X:=fun(t_3,fee_2,t75,t76,t77,o0L_2,o1_3,o2_3) y=>match y with | .inl y=> .inl (o0L_2,o1_3,o2_3) | .inr z=> .inr ((t_3,fee_2,o0L_2,o1_3,o2_3))
abbrev aB.L2.D:=Int×(List fu)×Int×Int×Nat×(List (cR×eS))×(List dI)
def aB.L2.st:aB.L2.D→AS:=fun(fee_3,t93,t94,t95,o0L_3,o1_4,o2_4)=>⟨(ba 9 ([.d ti fee_3]++ba 83 ([.d (.slice eN) t93,.d ti t94,.d ti t95]++ba 11 []))),[.obj 0 false (.pr (.eH (.dr 1) 0) (.pr (.bI (.dr 2) 0 [] 0 0 o0L_3) (.d .unit ()))),.obj 0 false (.mp cj gq o1_4),.obj 0 false (.vec 161 eB o2_4)],(List.replicate 107 [])⟩
abbrev aB.L2.Y0:=Int
abbrev aB.L2.X0:=(Nat×(List (cR×eS))×(List dI))×(Int)
def aB.L2.bj:aB.L2.X0→Exit×AS:=fun x=>(.exit 4,⟨(ba 9 ([.d ti x.2]++ba 97 [])),[.obj 0 false (.pr (.eH (.dr 1) 0) (.pr (.bI (.dr 2) 0 [] 0 0 x.1.1) (.d .unit ()))),.obj 0 false (.mp cj gq x.1.2.1),.obj 0 false (.vec 161 eB x.1.2.2)],(List.replicate 107 [])⟩)
abbrev aB.L2.X:=aB.L2.X0
abbrev aB.L2.Y:=aB.L2.Y0
def aB.L2.out:aB.L2.X→Out (Exit×AS):=fun x=> .ok (aB.L2.bj x)
def aB.L2.add:aB.L2.D→aB.L2.Y→aB.L2.X:=fun(fee_3,t93,t94,t95,o0L_3,o1_4,o2_4) y=>((o0L_3,o1_4,o2_4),y)
abbrev aB.D:=eT×Int×Nat×(List (cR×eS))×(List dI)
def aB.st:aB.D→SA:=fun(t,height,o0baL,o1,o2)=>([.ptr (.dr 0) 0 [] 0,.d gf t,.d ti height],[.obj 0 false (.pr (.eH (.dr 1) 0) (.pr (.bI (.dr 2) 0 [] 0 0 o0baL) (.d .unit ()))),.obj 0 false (.mp cj gq o1),.obj 0 false (.vec 161 eB o2)])
abbrev aB.Y:=Int×Int×Nat×(List (cR×eS))×(List dI)
abbrev aB.X:=Int×Int×Nat×(List (cR×eS))×(List dI)
def aB.out:aB.X→bk:=fun x=>⟨.cons (.d ti x.1) (.cons (.d ti x.2.1) (.nil)),[.obj 0 false (.pr (.eH (.dr 1) 0) (.pr (.bI (.dr 2) 0 [] 0 0 x.2.2.1) (.d .unit ()))),.obj 0 false (.mp cj gq x.2.2.2.1),.obj 0 false (.vec 161 eB x.2.2.2.2)],[]⟩
def aB.add:aB.D→aB.Y→aB.X:=fun(t,height,o0baL,o1,o2) y=>y
def iX(h:Int)(id:List Int)(a:List (cR×eS)):List fZ→Int→Int⊕Int
 |[],iB=> .inr iB
 |x::l,iB=>match cO cj x.1 a with
  |none=> .inl 5
  |some c=>if jV c.1.2.1 x.2.1 id h (h - c.2.1)≠0 then .inl (jV c.1.2.1 x.2.1 id h (h - c.2.1)) else iX h id a l (iB+c.1.1)
def kB(a:List (cR×eS))(o:cR):Bool:=(cO cj o a).isSome
def gj(l:List fu):Int:=(l.map (·.1)).sum
def ee(t:eT)(h:Int)(a:List (cR×eS)):Int×Int:=
 if gD t=true∧1≤h∧h≤1048576 then
  match iX h (mG t) a t.1 0 with
  | .inl e=>(0,e)
  | .inr iB=>if(eZ t).any (kB a)=true then(0,4) else if iB - gj t.2.1 < 0 then(0,8) else(iB - gj t.2.1,0)
 else(0,1)
def aB.L0.aC:aB.L0.D→Prop:=fun(h,_,iB,l,n,i,_,a,_,id)=>(0≤h∧h≤1048576)∧Sm id∧l.length≤64∧(∀x∈l,IM x)∧uJ a∧∃k:Nat,k≤l.length∧i=k∧n=l.length∧0≤iB∧iB≤(k:Int)*1125899906842624
def aB.L0.F:aB.L0.D→aB.L0.Y:=fun(h,_,iB,l,_,i,_,a,_,id)=>iX h id a (l.drop i.toNat) iB
def aB.L1.aC:aB.L1.D→Prop:=fun(_,_,l,n,i,_,_,_)=>l.length≤1000∧∃k:Nat,k≤l.length∧i=k∧n=l.length
def aB.L1.F:aB.L1.D→aB.L1.Y:=fun(_,_,l,_,i,_,a,_)=>if(l.drop i.toNat).any (kB a)=true then .inl () else .inr ()
def aB.L2.aC:aB.L2.D→Prop:=fun(iB,l,n,i,_,_,_)=>l.length≤64∧(∀o∈l,0≤o.1∧o.1≤1125899906842624)∧∃k:Nat,k≤l.length∧i=k∧n=l.length∧ -((k:Int)*1125899906842624)≤iB∧iB≤1000000000000000000
def aB.L2.F:aB.L2.D→aB.L2.Y:=fun(iB,l,_,i,_,_,_)=>iB - gj (l.drop i.toNat)
def aB.aC:aB.D→Prop:=fun(t,_,_,a,_)=>nR t∧uJ a
def aB.F:aB.D→aB.Y:=fun(t,h,n,a,s)=>((ee t h a).1,(ee t h a).2,n,a,s)
noncomputable def aB.G:dZ:=fh (P:=Tryz.prog) [ax.sg,tid.sg,bw.sg,bD.sg]
noncomputable def aB.L0.E:=bP.cq aB.L0.st aB.L0.aC aB.L0.add aB.L0.F aB.L0.out
noncomputable def aB.L0.call:aB.L0.D→Option aB.L0.X:=cX aB.L0.E aB.L0.st
noncomputable def aB.L1.E:=bP.cq aB.L1.st aB.L1.aC aB.L1.add aB.L1.F aB.L1.out
noncomputable def aB.L1.call:aB.L1.D→Option aB.L1.X:=cX aB.L1.E aB.L1.st
noncomputable def aB.L2.E:=bP.cq aB.L2.st aB.L2.aC aB.L2.add aB.L2.F aB.L2.out
noncomputable def aB.L2.call:aB.L2.D→Option aB.L2.X:=cX aB.L2.E aB.L2.st
noncomputable def aB.an:eO:= {loops:=j7 [(5,{bm:=[0,2,4,8,9,35,36,37],sites:=[8]}),(16,{bm:=[0,4,9,75,76,77]}),(23,{bm:=[9,93,94,95]})],outs:=j6 [(5,{bm:=[0,4,9]},{bm:=[6,7]}),(16,{bm:=[4,9]},{bm:=[6,7]}),(23,{bm:=[9]},{bm:=[6,7]})],fJ:=kW [(5,aB.L0.E),(16,aB.L1.E),(23,aB.L2.E)]}
noncomputable def aB.A:= @cZ Tryz.prog aB.G aB.an 0 Tryz.f29 _ aB.st
abbrev aB.Ok:=da @aB.A aB.aC aB.add aB.F aB.out
noncomputable def aB.L0.R:= @bX Tryz.prog aB.G aB.an 0 Tryz.f29 0 _ aB.L0.st
abbrev aB.L0.Ok:=ej Tryz.prog aB.G aB.an 0 Tryz.f29 0 aB.L0.st aB.L0.aC aB.L0.add aB.L0.F aB.L0.out
noncomputable def aB.L1.R:= @bX Tryz.prog aB.G aB.an 0 Tryz.f29 1 _ aB.L1.st
abbrev aB.L1.Ok:=ej Tryz.prog aB.G aB.an 0 Tryz.f29 1 aB.L1.st aB.L1.aC aB.L1.add aB.L1.F aB.L1.out
noncomputable def aB.L2.R:= @bX Tryz.prog aB.G aB.an 0 Tryz.f29 2 _ aB.L2.st
abbrev aB.L2.Ok:=ej Tryz.prog aB.G aB.an 0 Tryz.f29 2 aB.L2.st aB.L2.aC aB.L2.add aB.L2.F aB.L2.out
theorem aB.L0.run:bK aB.L0.call aB.L0.aC aB.L0.add aB.L0.F:=eG (eC [.d ti,.d gf,.d ti,.d (.slice fy),.d ti,.d ti,.n,.d (.slice (.pair cj gq)),.d (.slice eB),.d tB] fun _=>by kernel_rfl)
theorem aB.L0.aD:j5 @aB.L0.R aB.L0.st aB.L0.aC aB.L0.add aB.L0.F aB.L0.out aB.L0.Ok:=kf
theorem aB.L0.step{R:Type}(height_2:Int)(t_2:eT)(iB:Int)(t35:(List fZ))(t36:Int)(t37:Int)(o0L:Nat)(o1_2:(List (cR×eS)))(o2_2:(List dI))(n8:Bs)(kn:AS→Option R)(kx:Exit→AS→Option R):aB.L0.R (height_2,t_2,iB,t35,t36,t37,o0L,o1_2,o2_2,n8) kn kx=
  aJ ((fX t37 t36)) (
   aJ (eJ t37 (((List.length t35):Nat):Int)) (
   aJ ((!(cO cj (nth fy t35 (Int.toNat t37)).1 o1_2).isSome)) (
    kx (aB.L0.bj ((o0L,o1_2,o2_2),(5:Int))).1 (aB.L0.bj ((o0L,o1_2,o2_2),(5:Int))).2) (
    ah (bw.call (((cO cj (nth fy t35 (Int.toNat t37)).1 o1_2).getD (((0:Int),((([]:List iA),()),())),((0:Int),()))).1.2.1,(nth fy t35 (Int.toNat t37)).2.1,n8,height_2,(cH .i64 height_2 ((cO cj (nth fy t35 (Int.toNat t37)).1 o1_2).getD (((0:Int),((([]:List iA),()),())),((0:Int),()))).2.1))) fun x1=>
    aJ ((jO x1 (0:Int))) (
     kx (aB.L0.bj ((o0L,o1_2,o2_2),x1)).1 (aB.L0.bj ((o0L,o1_2,o2_2),x1)).2) (
     kn (aB.L0.st (height_2,t_2,(bN .i64 iB ((cO cj (nth fy t35 (Int.toNat t37)).1 o1_2).getD (((0:Int),((([]:List iA),()),())),((0:Int),()))).1.1),t35,t36,(bN .i64 t37 (1:Int)),o0L,o1_2,o2_2,n8))))) none) (
   kx (aB.L0.e7 ((t_2,o0L,o1_2,o2_2),iB)).1 (aB.L0.e7 ((t_2,o0L,o1_2,o2_2),iB)).2):=by kernel_rfl
theorem aB.L1.run:bK aB.L1.call aB.L1.aC aB.L1.add aB.L1.F:=eG (eC [.d gf,.d ti,.d (.slice cj),.d ti,.d ti,.n,.d (.slice (.pair cj gq)),.d (.slice eB)] fun _=>by kernel_rfl)
theorem aB.L1.aD:j5 @aB.L1.R aB.L1.st aB.L1.aC aB.L1.add aB.L1.F aB.L1.out aB.L1.Ok:=kf
theorem aB.L1.step{R:Type}(t_3:eT)(fee_2:Int)(t75:(List cR))(t76:Int)(t77:Int)(o0L_2:Nat)(o1_3:(List (cR×eS)))(o2_3:(List dI))(kn:AS→Option R)(kx:Exit→AS→Option R):aB.L1.R (t_3,fee_2,t75,t76,t77,o0L_2,o1_3,o2_3) kn kx=
  aJ ((fX t77 t76)) (
   aJ (eJ t77 (((List.length t75):Nat):Int)) (
   aJ ((cO cj (nth cj t75 (Int.toNat t77)) o1_3).isSome) (
    kx (aB.L1.bj (o0L_2,o1_3,o2_3)).1 (aB.L1.bj (o0L_2,o1_3,o2_3)).2) (
    kn (aB.L1.st (t_3,fee_2,t75,t76,(bN .i64 t77 (1:Int)),o0L_2,o1_3,o2_3)))) none) (
   kx (aB.L1.e7 (t_3,fee_2,o0L_2,o1_3,o2_3)).1 (aB.L1.e7 (t_3,fee_2,o0L_2,o1_3,o2_3)).2):=by kernel_rfl
theorem aB.L2.run:bK aB.L2.call aB.L2.aC aB.L2.add aB.L2.F:=eG (eC [.d ti,.d (.slice eN),.d ti,.d ti,.n,.d (.slice (.pair cj gq)),.d (.slice eB)] fun _=>by kernel_rfl)
theorem aB.L2.aD:fN @aB.L2.R aB.L2.st aB.L2.aC aB.L2.add aB.L2.F aB.L2.bj aB.L2.Ok:=fU
theorem aB.L2.step{R:Type}(fee_3:Int)(t93:(List fu))(t94:Int)(t95:Int)(o0L_3:Nat)(o1_4:(List (cR×eS)))(o2_4:(List dI))(kn:AS→Option R)(kx:Exit→AS→Option R):aB.L2.R (fee_3,t93,t94,t95,o0L_3,o1_4,o2_4) kn kx=
  aJ ((fX t95 t94)) (
   aJ (eJ t95 (((List.length t93):Nat):Int)) (
   kn (aB.L2.st ((cH .i64 fee_3 (nth eN t93 (Int.toNat t95)).1),t93,t94,(bN .i64 t95 (1:Int)),o0L_3,o1_4,o2_4))) none) (
   kx (aB.L2.bj ((o0L_3,o1_4,o2_4),fee_3)).1 (aB.L2.bj ((o0L_3,o1_4,o2_4),fee_3)).2):=by kernel_rfl
theorem aB.eq{R:Type}(t:eT)(height:Int)(o0baL:Nat)(o1:(List (cR×eS)))(o2:(List dI))(k:bk→Option R):aB.A (t,height,o0baL,o1,o2) k=
  ah (ax.call t) fun x1=>
  aJ ((!x1)) (
   k (aB.out ((0:Int),(1:Int),o0baL,o1,o2))) (
   aJ ((fX height (1:Int))) (
    k (aB.out ((0:Int),(1:Int),o0baL,o1,o2))) (
    aJ ((mP height (1048576:Int))) (
     k (aB.out ((0:Int),(1:Int),o0baL,o1,o2))) (
     ah (tid.call t) fun x2=>
     ah (aB.L0.call (height,t,(0:Int),t.1,(((List.length t.1):Nat):Int),(0:Int),o0baL,o1,o2,x2)) fun x4=>
     aJ (x4.isLeft) (
      ah (x4.getLeft?) fun a5=>
      k (aB.out ((0:Int),a5.2,a5.1.1,a5.1.2.1,a5.1.2.2))) (
      ah (x4.getRight?) fun b6=>
      ah (bD.call b6.1.1) fun x7=>
      ah (aB.L1.call (b6.1.1,b6.2,x7,(((List.length x7):Nat):Int),(0:Int),b6.1.2.1,b6.1.2.2.1,b6.1.2.2.2)) fun x8=>
      aJ (x8.isLeft) (
       ah (x8.getLeft?) fun a9=>
       k (aB.out ((0:Int),(4:Int),a9.1,a9.2.1,a9.2.2))) (
       ah (x8.getRight?) fun b10=>
       ah (aB.L2.call (b10.2.1,b10.1.2.1,(((List.length b10.1.2.1):Nat):Int),(0:Int),b10.2.2.1,b10.2.2.2.1,b10.2.2.2.2)) fun x11=>
       aJ ((fX x11.2 (0:Int))) (
        k (aB.out ((0:Int),(8:Int),x11.1.1,x11.1.2.1,x11.1.2.2))) (
        k (aB.out (x11.2,(0:Int),x11.1.1,x11.1.2.1,x11.1.2.2)))))))):=by kernel_rfl
theorem aB.L0.ok:aB.L0.Ok:=by
 refine aB.L0.aD (fun(_,_,_,l,_,i,_,_,_,_)=>l.length - i.toNat) ?_
 rintro⟨h,t,iB,l,n,i,o,a,s,id⟩ ⟨⟨hh1,hh2⟩,hid,hl,hu,ha,k,hk,rfl,rfl,hf1,hf2⟩
 have hh1:0≤h:=hh1
 have hh2:h≤1048576:=hh2
 have hl:l.length≤64:=hl
 have hf1:0≤iB:=hf1
 have hf2:iB≤(k:Int)*1125899906842624:=hf2
 have hk:k≤l.length:=hk
 by_cases hlt:k < l.length
 ·have hx:=hu _ (List.getElem_mem hlt)
  have n1:nth fy l k=l[k]:=cm (t:=fy) hlt
  have hd:l.drop k=l[k]::l.drop (k+1):=List.drop_eq_getElem_cons hlt
  cases hg:cO cj l[k].1 a with
  |none=>
   right
   refine⟨aB.L0.bj ((o,a,s),5),?_,fun kn kx=> ?_⟩
   rotate_left
   ·rw[aB.L0.step,bq (by omega),ag,bt (by omega) (by omega),ag,Int.toNat_natCast,n1,hg]
    simp only[Option.isSome_none,Bool.not_false,ag]
   ·simp only[aB.L0.add,aB.L0.F,Int.toNat_natCast,hd,iX,hg]
    rfl
  |some c=>
   have hc:=ha.get hg
   obtain⟨c1,c2,c3,c4,c5,c6⟩:=hc
   have hst:∀ {R:Type} (kn:AS→Option R) (kx:Exit→AS→Option R),aB.L0.R (h,t,iB,l,(l.length:Int),(k:Int),o,a,s,id) kn kx=
     aJ (jO (jV c.1.2.1 l[k].2.1 id h (h - c.2.1)) 0) (kx (aB.L0.bj ((o,a,s),jV c.1.2.1 l[k].2.1 id h (h - c.2.1))).1 (aB.L0.bj ((o,a,s),jV c.1.2.1 l[k].2.1 id h (h - c.2.1))).2)
      (kn (aB.L0.st (h,t,iB+c.1.1,l,(l.length:Int),((k+1:Nat):Int),o,a,s,id))):=fun kn kx=>by
    rw[aB.L0.step,bq (by omega),ag,bt (by omega) (by omega),ag,Int.toNat_natCast,n1,hg]
    simp only[Option.isSome_some,Bool.not_true,ai,Option.getD_some]
    rw[eK (by omega) (by omega),bw.run (d:=(c.1.2.1,l[k].2.1,id,h,h - c.2.1)) ⟨c2,by have:=tN c1;omega,hx.2.1,hid⟩]
    simp only[aa,bw.add,bw.F]
    rw[fK (by omega) (by omega),N.j4 (by omega)]
   by_cases he:jV c.1.2.1 l[k].2.1 id h (h - c.2.1)=0
   ·left
    refine⟨(h,t,iB+c.1.1,l,(l.length:Int),((k+1:Nat):Int),o,a,s,id),⟨⟨hh1,hh2⟩,hid,hl,hu,ha,k+1,by omega,rfl,rfl,by show 0≤iB+c.1.1;omega,by show iB+c.1.1≤_;omega⟩,by simp only[Int.toNat_natCast];omega,?_,fun kn kx=> ?_⟩
    ·simp only[aB.L0.add,aB.L0.F,Int.toNat_natCast,hd,iX,hg,he,ne_eq,not_true_eq_false,if_false]
    ·rw[hst,bU he,ai]
   ·right
    refine⟨aB.L0.bj ((o,a,s),jV c.1.2.1 l[k].2.1 id h (h - c.2.1)),?_,fun kn kx=> ?_⟩
    rotate_left
    ·rw[hst,dO he,ag]
    ·simp only[aB.L0.add,aB.L0.F,Int.toNat_natCast,hd,iX,hg]
     rw[if_pos he]
     rfl
 ·right
  obtain rfl:k=l.length:=by omega
  refine⟨aB.L0.e7 ((t,o,a,s),iB),?_,fun kn kx=> ?_⟩
  rotate_left
  ·rw[aB.L0.step,bg (by omega),ai]
  ·simp only[aB.L0.add,aB.L0.F,Int.toNat_natCast,List.drop_length,iX]
   rfl
theorem aB.L1.ok:aB.L1.Ok:=by
 refine aB.L1.aD (fun(_,_,l,_,i,_,_,_)=>l.length - i.toNat) ?_
 rintro⟨t,iB,l,n,i,o,a,s⟩ ⟨hl,k,hk,rfl,rfl⟩
 have hl:l.length≤1000:=hl
 have hk:k≤l.length:=hk
 by_cases hlt:k < l.length
 ·have n1:nth cj l k=l[k]:=cm (t:=cj) hlt
  have hd:l.drop k=l[k]::l.drop (k+1):=List.drop_eq_getElem_cons hlt
  cases hg:(cO cj l[k] a).isSome with
  |true=>
   right
   refine⟨aB.L1.bj (o,a,s),?_,fun kn kx=> ?_⟩
   rotate_left
   ·rw[aB.L1.step,bq (by omega),ag,bt (by omega) (by omega),ag,Int.toNat_natCast,n1,hg,ag]
   ·simp only[aB.L1.add,aB.L1.F,Int.toNat_natCast,hd,List.any_cons,kB,hg,Bool.true_or,if_true]
    rfl
  |false=>
   left
   refine⟨(t,iB,l,(l.length:Int),((k+1:Nat):Int),o,a,s),⟨hl,k+1,by omega,rfl,rfl⟩,by simp only[Int.toNat_natCast];omega,?_,fun kn kx=> ?_⟩
   ·simp only[aB.L1.add,aB.L1.F,Int.toNat_natCast,hd,List.any_cons,kB,hg,Bool.false_or]
   ·rw[aB.L1.step,bq (by omega),ag,bt (by omega) (by omega),ag,Int.toNat_natCast,n1,hg,ai,N.j4 (by omega)]
 ·right
  obtain rfl:k=l.length:=by omega
  refine⟨aB.L1.e7 (t,iB,o,a,s),?_,fun kn kx=> ?_⟩
  rotate_left
  ·rw[aB.L1.step,bg (by omega),ai]
  ·simp only[aB.L1.add,aB.L1.F,Int.toNat_natCast,List.drop_length,List.any_nil,Bool.false_eq_true,if_false]
   rfl
theorem aB.L2.ok:aB.L2.Ok:=by
 refine aB.L2.aD (fun(_,l,_,i,_,_,_)=>l.length - i.toNat) ?_
 rintro⟨iB,l,n,i,o,a,s⟩ ⟨hl,ho,k,hk,rfl,rfl,hf1,hf2⟩
 have hl:l.length≤64:=hl
 have hk:k≤l.length:=hk
 have hf1: -((k:Int)*1125899906842624)≤iB:=hf1
 have hf2:iB≤1000000000000000000:=hf2
 by_cases hlt:k < l.length
 ·left
  have n1:nth eN l k=l[k]:=cm (t:=eN) hlt
  have hd:l.drop k=l[k]::l.drop (k+1):=List.drop_eq_getElem_cons hlt
  have hx:=ho _ (List.getElem_mem hlt)
  refine⟨(iB - l[k].1,l,(l.length:Int),((k+1:Nat):Int),o,a,s),⟨hl,ho,k+1,by omega,rfl,rfl,by show _≤iB - l[k].1;omega,by show iB - l[k].1≤_;omega⟩,by simp only[Int.toNat_natCast];omega,?_,fun kn kx=> ?_⟩
  ·simp only[aB.L2.add,aB.L2.F,Int.toNat_natCast,hd,gj,List.map_cons,List.sum_cons]
   rw[Int.sub_sub]
  ·rw[aB.L2.step,bq (by omega),ag,bt (by omega) (by omega),ag,Int.toNat_natCast,n1,eK (by omega) (by omega),N.j4 (by omega)]
 ·right
  obtain rfl:k=l.length:=by omega
  intro R kn kx
  rw[aB.L2.step,bg (by omega),ai]
  simp only[aB.L2.add,aB.L2.F,Int.toNat_natCast,List.drop_length,gj,List.map_nil,List.sum_nil,Int.sub_zero]
theorem jF{t:eT}(h:gD t=true):(eZ t).length=t.2.1.length:=by
 unfold eZ
 rw[if_pos h]
 simp[nL]
theorem tD{h:Int}{id:List Int}{a:List (cR×eS)}(ha:uJ a):∀(l:List fZ) (iB f:Int),iX h id a l iB= .inr f→iB≤f∧f≤iB+(l.length:Int)*1125899906842624
 |[],iB,f,e=>by simp only[iX,Sum.inr.injEq]at e;subst e;simp
 |x::l,iB,f,e=>by
  simp only[iX]at e
  cases hg:cO cj x.1 a with
  |none=>rw[hg]at e;cases e
  |some c=>
   rw[hg]at e
   simp only at e
   split at e
   ·cases e
   ·have hc:=ha.get hg
    have:=tD ha l _ _ e
    obtain⟨_,_,c3,c4,_⟩:=hc
    rw[List.length_cons]
    omega
theorem aB.ok:aB.Ok:=by
 rintro⟨t,h,n,a,s⟩ ⟨hv,ha⟩
 have hv:nR t:=hv
 have ha:uJ a:=ha
 rw[aB.eq,ax.run (d:=t) hv.1]
 simp only[aa,ax.add,ax.F,aB.add,aB.F,ee]
 by_cases hok:gD t=true
 ·rw[hok,Bool.not_true,ai]
  obtain⟨⟨_,a2,a3,_⟩,b1,b2⟩:=iM hok
  by_cases h1:1≤h
  ·rw[bg (by omega),ai]
   by_cases h2:h≤1048576
   ·rw[db (by omega),ai,if_pos ⟨rfl,h1,h2⟩,tid.run (d:=t) hv]
    simp only[aa,tid.add,tid.F]
    rw[aB.L0.run (d:=(h,t,0,t.1,(t.1.length:Int),0,n,a,s,mG t)) ⟨⟨by show 0≤h;omega,h2⟩,Ar,a2,hv.2.1,ha,0,Nat.zero_le _,rfl,rfl,by decide,by decide⟩]
    simp only[aa,aB.L0.add,aB.L0.F,Int.toNat_zero,List.drop_zero]
    cases hi:iX h (mG t) a t.1 0 with
    |inl e=>
     simp only[Sum.isLeft_inl,ag,Sum.getLeft?_inl,aa]
    |inr iB=>
     have hb:=tD ha _ _ _ hi
     simp only[Sum.isLeft_inr,ai,Sum.getRight?_inr,aa]
     rw[bD.run (d:=t) hv]
     simp only[aa,bD.add,bD.F]
     rw[aB.L1.run (d:=(t,iB,eZ t,((eZ t).length:Int),0,n,a,s)) ⟨by rw[jF hok];omega,0,Nat.zero_le _,rfl,rfl⟩]
     simp only[aa,aB.L1.add,aB.L1.F,Int.toNat_zero,List.drop_zero]
     by_cases hm:(eZ t).any (kB a)=true
     ·rw[if_pos hm]
      simp only[Sum.isLeft_inl,ag,Sum.getLeft?_inl,aa,if_true,hm]
     ·rw[if_neg hm]
      simp only[Sum.isLeft_inr,ai,Sum.getRight?_inr,aa]
      rw[aB.L2.run (d:=(iB,t.2.1,(t.2.1.length:Int),0,n,a,s)) ⟨a3,fun o ho=>(kk _ _ b2 o ho).1,0,Nat.zero_le _,rfl,rfl,by show -((0:Int)*_)≤iB;omega,by show iB≤_;omega⟩]
      simp only[aa,aB.L2.add,aB.L2.F,Int.toNat_zero,List.drop_zero]
      rw[if_neg hm]
      by_cases hf:iB - gj t.2.1 < 0
      ·rw[bq hf,ag,if_pos hf]
      ·rw[bg hf,ai,if_neg hf]
   ·rw[dy (by omega),ag,if_neg (fun e=>h2 e.2.2)]
  ·rw[bq (by omega),ag,if_neg (fun e=>h1 e.2.1)]
 ·have hok':gD t=false:=by simpa using hok
  rw[hok',Bool.not_false,ag,if_neg (fun e=>by cases e.1)]
noncomputable def aB.E:=Entry.cq [none,some gf,some ti] aB.st aB.aC aB.add aB.F aB.out
noncomputable def aB.call:aB.D→Option aB.X:=bT aB.E aB.st
theorem aB.run:bK aB.call aB.aC aB.add aB.F:=dh (de [.d gf,.d ti,.n,.d (.slice (.pair cj gq)),.d (.slice eB)] fun _=>by kernel_rfl)
noncomputable def aB.sg:SG Tryz.prog:=⟨29,aY,aB.E,.fn 3 (by kernel_rfl) aB.ok (And.intro (.cq aB.L0.ok (by kernel_rfl)) (And.intro (.cq aB.L1.ok (by kernel_rfl)) (And.intro (.cq aB.L2.ok (by kernel_rfl)) trivial)))⟩
set_option synthInstance.maxSize 5000
abbrev aQ.L0.D:=Int×(List cR)×Int×Int×Nat×(List (cR×eS))×(List dI)
def aQ.L0.st:aQ.L0.D→AS:=fun(n,t23,t24,t25,o0L,o1_2,o2_2)=>⟨([.ptr (.dr 0) 0 [] 0,.undef,.undef,.d ti n]++ba 19 ([.d (.slice cj) t23,.d ti t24,.d ti t25]++ba 40 [])),[.obj 0 false (.pr (.eH (.dr 1) 0) (.pr (.bI (.dr 2) 0 [] 0 0 o0L) (.d .unit ()))),.obj 0 false (.mp cj gq o1_2),.obj 0 false (.vec 161 eB o2_2)],(List.replicate 66 [])⟩
abbrev aQ.L0.Y0:=(List (cR×eS))
abbrev aQ.L0.X0:=(Int×Nat×(List dI))×((List (cR×eS)))
def aQ.L0.bj:aQ.L0.X0→Exit×AS:=fun x=>(.exit 0,⟨([.ptr (.dr 0) 0 [] 0,.undef,.undef,.d ti x.1.1]++ba 62 []),[.obj 0 false (.pr (.eH (.dr 1) 0) (.pr (.bI (.dr 2) 0 [] 0 0 x.1.2.1) (.d .unit ()))),.obj 0 false (.mp cj gq x.2),.obj 0 false (.vec 161 eB x.1.2.2)],(List.replicate 66 [])⟩)
abbrev aQ.L0.X:=aQ.L0.X0
abbrev aQ.L0.Y:=aQ.L0.Y0
def aQ.L0.out:aQ.L0.X→Out (Exit×AS):=fun x=> .ok (aQ.L0.bj x)
def aQ.L0.add:aQ.L0.D→aQ.L0.Y→aQ.L0.X:=fun(n,t23,t24,t25,o0L,o1_2,o2_2) y=>((n,o0L,o2_2),y)
abbrev aQ.L1.D:=Int×(List zj)×Int×Int×Nat×(List (cR×eS))×(List dI)
def aQ.L1.st:aQ.L1.D→AS:=fun(n_2,t42,t43,t44,o0L_2,o1_3,o2_3)=>⟨([.ptr (.dr 0) 0 [] 0,.undef,.undef,.d ti n_2]++ba 38 ([.d (.slice Cg) t42,.d ti t43,.d ti t44]++ba 21 [])),[.obj 0 false (.pr (.eH (.dr 1) 0) (.pr (.bI (.dr 2) 0 [] 0 0 o0L_2) (.d .unit ()))),.obj 0 false (.mp cj gq o1_3),.obj 0 false (.vec 161 eB o2_3)],(List.replicate 66 [])⟩
abbrev aQ.L1.Y0:=(List (cR×eS))
abbrev aQ.L1.X0:=(Int×Nat×(List dI))×((List (cR×eS)))
def aQ.L1.bj:aQ.L1.X0→Exit×AS:=fun x=>(.exit 2,⟨([.ptr (.dr 0) 0 [] 0,.undef,.undef,.d ti x.1.1]++ba 62 []),[.obj 0 false (.pr (.eH (.dr 1) 0) (.pr (.bI (.dr 2) 0 [] 0 0 x.1.2.1) (.d .unit ()))),.obj 0 false (.mp cj gq x.2),.obj 0 false (.vec 161 eB x.1.2.2)],(List.replicate 66 [])⟩)
abbrev aQ.L1.X:=aQ.L1.X0
abbrev aQ.L1.Y:=aQ.L1.Y0
def aQ.L1.out:aQ.L1.X→Out (Exit×AS):=fun x=> .ok (aQ.L1.bj x)
def aQ.L1.add:aQ.L1.D→aQ.L1.Y→aQ.L1.X:=fun(n_2,t42,t43,t44,o0L_2,o1_3,o2_3) y=>((n_2,o0L_2,o2_3),y)
abbrev aQ.D:=Nat×(List (cR×eS))×(List dI)
def aQ.st:aQ.D→SA:=fun(o0baL,o1,o2)=>([.ptr (.dr 0) 0 [] 0],[.obj 0 false (.pr (.eH (.dr 1) 0) (.pr (.bI (.dr 2) 0 [] 0 0 o0baL) (.d .unit ()))),.obj 0 false (.mp cj gq o1),.obj 0 false (.vec 161 eB o2)])
abbrev aQ.Y:=Bool×Nat×(List (cR×eS))×(List dI)
abbrev aQ.X:=Bool×Nat×(List (cR×eS))×(List dI)
def aQ.out:aQ.X→bk:=fun x=>⟨.d .bool x.1,[.obj 0 false (.pr (.eH (.dr 1) 0) (.pr (.bI (.dr 2) 0 [] 0 0 x.2.1) (.d .unit ()))),.obj 0 false (.mp cj gq x.2.2.1),.obj 0 false (.vec 161 eB x.2.2.2)],[]⟩
def aQ.add:aQ.D→aQ.Y→aQ.X:=fun(o0baL,o1,o2) y=>y
def mw(l:List cR)(a:List (cR×eS)):List (cR×eS):=l.foldl (fun m o=>gJ cj o m) a
def DF(l:List zj)(a:List (cR×eS)):List (cR×eS):=l.foldl (fun m e=>fT cj e.1 e.2.1 m) a
def Bg(a:List (cR×eS))(st:dI):List (cR×eS):=DF st.1 (mw st.2.1 a)
def aQ.L0.aC:aQ.L0.D→Prop:=fun(_,l,n,i,_,_,_)=>l.length≤1000∧∃k:Nat,k≤l.length∧i=k∧n=l.length
def aQ.L0.F:aQ.L0.D→aQ.L0.Y:=fun(_,l,_,i,_,a,_)=>mw (l.drop i.toNat) a
def aQ.L1.aC:aQ.L1.D→Prop:=fun(_,l,n,i,_,_,_)=>l.length≤1000∧∃k:Nat,k≤l.length∧i=k∧n=l.length
def aQ.L1.F:aQ.L1.D→aQ.L1.Y:=fun(_,l,_,i,_,a,_)=>DF (l.drop i.toNat) a
def Cu(st:dI):Prop:=st.1.length≤1000∧st.2.1.length≤1000
def aQ.aC:aQ.D→Prop:=fun(n,_,s)=>n≤s.length∧s.length≤1000000∧∀st∈s,Cu st
def aQ.F:aQ.D→aQ.Y:=fun(n,a,s)=>if n=0 then(false,n,a,s) else(true,n - 1,Bg a (nth eB s (n - 1)),s)
noncomputable def aQ.G:dZ:=fh (P:=Tryz.prog) []
noncomputable def aQ.L0.E:=bP.cq aQ.L0.st aQ.L0.aC aQ.L0.add aQ.L0.F aQ.L0.out
noncomputable def aQ.L0.call:aQ.L0.D→Option aQ.L0.X:=cX aQ.L0.E aQ.L0.st
noncomputable def aQ.L1.E:=bP.cq aQ.L1.st aQ.L1.aC aQ.L1.add aQ.L1.F aQ.L1.out
noncomputable def aQ.L1.call:aQ.L1.D→Option aQ.L1.X:=cX aQ.L1.E aQ.L1.st
noncomputable def aQ.an:eO:= {loops:=j7 [(5,{bm:=[0,3,23,24,25]}),(10,{bm:=[0,3,42,43,44]})],outs:=j6 [(5,{bm:=[0,3]},{bm:=[2]}),(10,{bm:=[0,3]},{bm:=[2]})],fJ:=kW [(5,aQ.L0.E),(10,aQ.L1.E)]}
noncomputable def aQ.A:= @cZ Tryz.prog aQ.G aQ.an 0 Tryz.f37 _ aQ.st
abbrev aQ.Ok:=da @aQ.A aQ.aC aQ.add aQ.F aQ.out
noncomputable def aQ.L0.R:= @bX Tryz.prog aQ.G aQ.an 0 Tryz.f37 0 _ aQ.L0.st
abbrev aQ.L0.Ok:=ej Tryz.prog aQ.G aQ.an 0 Tryz.f37 0 aQ.L0.st aQ.L0.aC aQ.L0.add aQ.L0.F aQ.L0.out
noncomputable def aQ.L1.R:= @bX Tryz.prog aQ.G aQ.an 0 Tryz.f37 1 _ aQ.L1.st
abbrev aQ.L1.Ok:=ej Tryz.prog aQ.G aQ.an 0 Tryz.f37 1 aQ.L1.st aQ.L1.aC aQ.L1.add aQ.L1.F aQ.L1.out
theorem aQ.L0.run:bK aQ.L0.call aQ.L0.aC aQ.L0.add aQ.L0.F:=eG (eC [.d ti,.d (.slice cj),.d ti,.d ti,.n,.d (.slice (.pair cj gq)),.d (.slice eB)] fun _=>by kernel_rfl)
theorem aQ.L0.aD:fN @aQ.L0.R aQ.L0.st aQ.L0.aC aQ.L0.add aQ.L0.F aQ.L0.bj aQ.L0.Ok:=fU
theorem aQ.L0.step{R:Type}(n:Int)(t23:(List cR))(t24:Int)(t25:Int)(o0L:Nat)(o1_2:(List (cR×eS)))(o2_2:(List dI))(kn:AS→Option R)(kx:Exit→AS→Option R):aQ.L0.R (n,t23,t24,t25,o0L,o1_2,o2_2) kn kx=
  aJ ((fX t25 t24)) (
   aJ (eJ t25 (((List.length t23):Nat):Int)) (
   kn (aQ.L0.st (n,t23,t24,(bN .i64 t25 (1:Int)),o0L,(gJ cj (nth cj t23 (Int.toNat t25)) o1_2),o2_2))) none) (
   kx (aQ.L0.bj ((n,o0L,o2_2),o1_2)).1 (aQ.L0.bj ((n,o0L,o2_2),o1_2)).2):=by kernel_rfl
theorem aQ.L1.run:bK aQ.L1.call aQ.L1.aC aQ.L1.add aQ.L1.F:=eG (eC [.d ti,.d (.slice Cg),.d ti,.d ti,.n,.d (.slice (.pair cj gq)),.d (.slice eB)] fun _=>by kernel_rfl)
theorem aQ.L1.aD:fN @aQ.L1.R aQ.L1.st aQ.L1.aC aQ.L1.add aQ.L1.F aQ.L1.bj aQ.L1.Ok:=fU
theorem aQ.L1.step{R:Type}(n_2:Int)(t42:(List zj))(t43:Int)(t44:Int)(o0L_2:Nat)(o1_3:(List (cR×eS)))(o2_3:(List dI))(kn:AS→Option R)(kx:Exit→AS→Option R):aQ.L1.R (n_2,t42,t43,t44,o0L_2,o1_3,o2_3) kn kx=
  aJ ((fX t44 t43)) (
   aJ (eJ t44 (((List.length t42):Nat):Int)) (
   kn (aQ.L1.st (n_2,t42,t43,(bN .i64 t44 (1:Int)),o0L_2,(fT cj (nth Cg t42 (Int.toNat t44)).1 (nth Cg t42 (Int.toNat t44)).2.1 o1_3),o2_3))) none) (
   kx (aQ.L1.bj ((n_2,o0L_2,o2_3),o1_3)).1 (aQ.L1.bj ((n_2,o0L_2,o2_3),o1_3)).2):=by kernel_rfl
theorem aQ.eq{R:Type}(o0baL:Nat)(o1:(List (cR×eS)))(o2:(List dI))(k:bk→Option R):aQ.A (o0baL,o1,o2) k=
  aJ ((fX (cH .i64 ((o0baL:Nat):Int) (1:Int)) (0:Int))) (
   k (aQ.out (false,o0baL,o1,o2))) (
   aJ (eJ (cH .i64 ((o0baL:Nat):Int) (1:Int)) ((o0baL:Nat):Int)) (
   aJ (decide ((0+(Int.toNat (cH .i64 ((o0baL:Nat):Int) (1:Int)))) < (List.length o2))) (
   aJ (decide ((((0+(Int.toNat (cH .i64 ((o0baL:Nat):Int) (1:Int))))*2)+1)=((0+((Int.toNat (cH .i64 ((o0baL:Nat):Int) (1:Int)))*2))+1))) (
   ah (aQ.L0.call ((cH .i64 ((o0baL:Nat):Int) (1:Int)),(nth eB o2 (0+(Int.toNat (cH .i64 ((o0baL:Nat):Int) (1:Int))))).2.1,(((List.length (nth eB o2 (0+(Int.toNat (cH .i64 ((o0baL:Nat):Int) (1:Int))))).2.1):Nat):Int),(0:Int),o0baL,o1,o2)) fun x1=>
   aJ (eJ x1.1.1 ((x1.1.2.1:Nat):Int)) (
   aJ (decide ((0+(Int.toNat x1.1.1)) < (List.length x1.1.2.2))) (
   aJ (decide ((((0+(Int.toNat x1.1.1))*2)+0)=((0+((Int.toNat x1.1.1)*2))+0))) (
   ah (aQ.L1.call (x1.1.1,(nth eB x1.1.2.2 (0+(Int.toNat x1.1.1))).1,(((List.length (nth eB x1.1.2.2 (0+(Int.toNat x1.1.1))).1):Nat):Int),(0:Int),x1.1.2.1,x1.2,x1.1.2.2)) fun x2=>
   aJ (inc x2.1.1 ((x2.1.2.1:Nat):Int)) (
   k (aQ.out (true,((Int.toNat x2.1.1) - 0),x2.2,x2.1.2.2))) none) none) none) none) none) none) none):=by kernel_rfl
theorem aQ.L0.ok:aQ.L0.Ok:=by
 refine aQ.L0.aD (fun(_,l,_,i,_,_,_)=>l.length - i.toNat) ?_
 rintro⟨u,l,n,i,o,a,s⟩ ⟨hl,k,hk,rfl,rfl⟩
 have hl:l.length≤1000:=hl
 have hk:k≤l.length:=hk
 by_cases hlt:k < l.length
 ·left
  have n1:nth cj l k=l[k]:=cm (t:=cj) hlt
  have hd:l.drop k=l[k]::l.drop (k+1):=List.drop_eq_getElem_cons hlt
  refine⟨(u,l,(l.length:Int),((k+1:Nat):Int),o,mw [l[k]] a,s),⟨hl,k+1,by omega,rfl,rfl⟩,by simp only[Int.toNat_natCast];omega,?_,fun kn kx=> ?_⟩
  ·simp only[aQ.L0.add,aQ.L0.F,Int.toNat_natCast,hd,mw,List.foldl_cons,List.foldl_nil]
  ·rw[aQ.L0.step,bq (by omega),ag,bt (by omega) (by omega),ag,Int.toNat_natCast,n1,N.j4 (by omega)]
   rfl
 ·right
  obtain rfl:k=l.length:=by omega
  intro R kn kx
  rw[aQ.L0.step,bg (by omega),ai]
  simp only[aQ.L0.add,aQ.L0.F,Int.toNat_natCast,List.drop_length,mw,List.foldl_nil]
theorem aQ.L1.ok:aQ.L1.Ok:=by
 refine aQ.L1.aD (fun(_,l,_,i,_,_,_)=>l.length - i.toNat) ?_
 rintro⟨u,l,n,i,o,a,s⟩ ⟨hl,k,hk,rfl,rfl⟩
 have hl:l.length≤1000:=hl
 have hk:k≤l.length:=hk
 by_cases hlt:k < l.length
 ·left
  have n1:nth Cg l k=l[k]:=cm (t:=Cg) hlt
  have hd:l.drop k=l[k]::l.drop (k+1):=List.drop_eq_getElem_cons hlt
  refine⟨(u,l,(l.length:Int),((k+1:Nat):Int),o,DF [l[k]] a,s),⟨hl,k+1,by omega,rfl,rfl⟩,by simp only[Int.toNat_natCast];omega,?_,fun kn kx=> ?_⟩
  ·simp only[aQ.L1.add,aQ.L1.F,Int.toNat_natCast,hd,DF,List.foldl_cons,List.foldl_nil]
  ·rw[aQ.L1.step,bq (by omega),ag,bt (by omega) (by omega),ag,Int.toNat_natCast,n1,N.j4 (by omega)]
   rfl
 ·right
  obtain rfl:k=l.length:=by omega
  intro R kn kx
  rw[aQ.L1.step,bg (by omega),ai]
  simp only[aQ.L1.add,aQ.L1.F,Int.toNat_natCast,List.drop_length,DF,List.foldl_nil]
theorem aQ.ok:aQ.Ok:=by
 rintro⟨n,a,s⟩ ⟨h1,h2,h3⟩
 have h1:n≤s.length:=h1
 have h2:s.length≤1000000:=h2
 have h3:∀st∈s,Cu st:=h3
 rw[aQ.eq]
 simp only[aQ.add,aQ.F]
 cases n with
 |zero=>
  rw[bq (by decide),ag]
  rfl
 |succ m=>
  have e1:cH .i64 (((m+1:Nat):Nat):Int) (1:Int)=(m:Int):=by rw[eK (by omega) (by omega)];omega
  have hm:m < s.length:=by omega
  have n1:nth eB s m=s[m]:=cm (t:=eB) hm
  have hs:=h3 _ (List.getElem_mem hm)
  rw[e1,bg (by omega),ai,bt (by omega) (by omega),ag]
  simp only[Int.toNat_natCast,Nat.zero_add,Nat.add_zero,aX hm,ag,decide_true,n1]
  rw[aQ.L0.run (d:=((m:Int),s[m].2.1,(s[m].2.1.length:Int),0,m+1,a,s)) ⟨hs.2,0,Nat.zero_le _,rfl,rfl⟩]
  simp only[aa,aQ.L0.add,aQ.L0.F,Int.toNat_zero,List.drop_zero]
  rw[bt (by omega) (by omega),ag]
  simp only[Int.toNat_natCast,Nat.zero_add,Nat.add_zero,aX hm,ag,decide_true,n1]
  rw[aQ.L1.run (d:=((m:Int),s[m].1,(s[m].1.length:Int),0,m+1,mw s[m].2.1 a,s)) ⟨hs.1,0,Nat.zero_le _,rfl,rfl⟩]
  simp only[aa,aQ.L1.add,aQ.L1.F,Int.toNat_zero,List.drop_zero]
  rw[kJ (by omega) (by omega),ag,if_neg (by omega)]
  simp only[Int.toNat_natCast,Nat.sub_zero,Nat.add_sub_cancel,n1,Bg]
noncomputable def aQ.E:=Entry.cq [none] aQ.st aQ.aC aQ.add aQ.F aQ.out
noncomputable def aQ.call:aQ.D→Option aQ.X:=bT aQ.E aQ.st
theorem aQ.run:bK aQ.call aQ.aC aQ.add aQ.F:=dh (de [.n,.d (.slice (.pair cj gq)),.d (.slice eB)] fun _=>by kernel_rfl)
noncomputable def aQ.sg:SG Tryz.prog:=⟨37,aY,aQ.E,.fn 2 (by kernel_rfl) aQ.ok (And.intro (.cq aQ.L0.ok (by kernel_rfl)) (And.intro (.cq aQ.L1.ok (by kernel_rfl)) trivial))⟩
abbrev aP.L0.D:=Int×eT×(List cR)×Int×Int×Nat×(List (cR×eS))×(List dI)×Nat×((List cR)×Unit)×(List zj)
def aP.L0.st:aP.L0.D→AS:=fun(height_2,t_2,t28,t29,t30,o0L,o1_2,o2_2,n9L,n9,n45)=>⟨([.ptr (.dr 0) 0 [] 0,.undef,.d ti height_2,.undef,.eI gf t_2]++ba 4 ([.ptr (.new 9 0) 0 [] 0]++ba 18 ([.d (.slice cj) t28,.d ti t29,.d ti t30]++ba 54 []))),[.obj 0 false (.pr (.eH (.dr 1) 0) (.pr (.bI (.dr 2) 0 [] 0 0 o0L) (.d .unit ()))),.obj 0 false (.mp cj gq o1_2),.obj 0 false (.vec 161 eB o2_2)],(bE 9 ([[.obj 0 false (.pr (.bI (.new 45 0) 0 [] 0 0 n9L) (.d (.pair (.slice cj) .unit) n9))]]++bE 35 ([[.obj 0 false (.vec 163 Cg n45)]]++bE 39 [])))⟩
abbrev aP.L0.Y0:=(List (cR×eS))×Nat×(List zj)
abbrev aP.L0.X0:=(Int×eT×Nat×(List dI)×((List cR)×Unit))×((List (cR×eS))×Nat×(List zj))
def aP.L0.bj:aP.L0.X0→Exit×AS:=fun x=>(.exit 0,⟨([.ptr (.dr 0) 0 [] 0,.undef,.d ti x.1.1,.undef,.eI gf x.1.2.1]++ba 4 ([.ptr (.new 9 0) 0 [] 0]++ba 75 [])),[.obj 0 false (.pr (.eH (.dr 1) 0) (.pr (.bI (.dr 2) 0 [] 0 0 x.1.2.2.1) (.d .unit ()))),.obj 0 false (.mp cj gq x.2.1),.obj 0 false (.vec 161 eB x.1.2.2.2.1)],(bE 9 ([[.obj 0 false (.pr (.bI (.new 45 0) 0 [] 0 0 x.2.2.1) (.d (.pair (.slice cj) .unit) x.1.2.2.2.2))]]++bE 35 ([[.obj 0 false (.vec 163 Cg x.2.2.2)]]++bE 39 [])))⟩)
abbrev aP.L0.X:=aP.L0.X0
abbrev aP.L0.Y:=aP.L0.Y0
def aP.L0.out:aP.L0.X→Out (Exit×AS):=fun x=> .ok (aP.L0.bj x)
def aP.L0.add:aP.L0.D→aP.L0.Y→aP.L0.X:=fun(height_2,t_2,t28,t29,t30,o0L,o1_2,o2_2,n9L,n9,n45) y=>((height_2,t_2,o0L,o2_2,n9),y)
abbrev aP.L1.D:=Int×eT×(List cR)×Int×Int×Nat×(List (cR×eS))×(List dI)×Nat×((List cR)×Unit)×(List zj)
def aP.L1.st:aP.L1.D→AS:=fun(height_3,t_3,t54,t55,t56,o0L_2,o1_3,o2_3,n9L_2,n9_2,n45_2)=>⟨([.ptr (.dr 0) 0 [] 0,.undef,.d ti height_3,.undef,.eI gf t_3]++ba 4 ([.ptr (.new 9 0) 0 [] 0]++ba 44 ([.d (.slice cj) t54,.d ti t55,.d ti t56]++ba 28 []))),[.obj 0 false (.pr (.eH (.dr 1) 0) (.pr (.bI (.dr 2) 0 [] 0 0 o0L_2) (.d .unit ()))),.obj 0 false (.mp cj gq o1_3),.obj 0 false (.vec 161 eB o2_3)],(bE 9 ([[.obj 0 false (.pr (.bI (.new 45 0) 0 [] 0 0 n9L_2) (.d (.pair (.slice cj) .unit) n9_2))]]++bE 35 ([[.obj 0 false (.vec 163 Cg n45_2)]]++bE 39 [])))⟩
abbrev aP.L1.Y0:=(List (cR×eS))
abbrev aP.L1.X0:=(Nat×(List dI)×Nat×((List cR)×Unit)×(List zj))×((List (cR×eS)))
def aP.L1.bj:aP.L1.X0→Exit×AS:=fun x=>(.exit 2,⟨([.ptr (.dr 0) 0 [] 0]++ba 8 ([.ptr (.new 9 0) 0 [] 0]++ba 75 [])),[.obj 0 false (.pr (.eH (.dr 1) 0) (.pr (.bI (.dr 2) 0 [] 0 0 x.1.1) (.d .unit ()))),.obj 0 false (.mp cj gq x.2),.obj 0 false (.vec 161 eB x.1.2.1)],(bE 9 ([[.obj 0 false (.pr (.bI (.new 45 0) 0 [] 0 0 x.1.2.2.1) (.d (.pair (.slice cj) .unit) x.1.2.2.2.1))]]++bE 35 ([[.obj 0 false (.vec 163 Cg x.1.2.2.2.2)]]++bE 39 [])))⟩)
abbrev aP.L1.X:=aP.L1.X0
abbrev aP.L1.Y:=aP.L1.Y0
def aP.L1.out:aP.L1.X→Out (Exit×AS):=fun x=> .ok (aP.L1.bj x)
def aP.L1.add:aP.L1.D→aP.L1.Y→aP.L1.X:=fun(height_3,t_3,t54,t55,t56,o0L_2,o1_3,o2_3,n9L_2,n9_2,n45_2) y=>((o0L_2,o2_3,n9L_2,n9_2,n45_2),y)
abbrev aP.D:=eT×Int×Nat×(List (cR×eS))×(List dI)
def aP.st:aP.D→SA:=fun(t,height,o0baL,o1,o2)=>([.ptr (.dr 0) 0 [] 0,.d gf t,.d ti height],[.obj 0 false (.pr (.eH (.dr 1) 0) (.pr (.bI (.dr 2) 0 [] 0 0 o0baL) (.d .unit ()))),.obj 0 false (.mp cj gq o1),.obj 0 false (.vec 161 eB o2)])
abbrev aP.Y:=(Int×Nat×(List (cR×eS))×(List dI))⊕(Int×Nat×(List (cR×eS))×(List dI))
abbrev aP.X:=(Int×Nat×(List (cR×eS))×(List dI))⊕(Int×Nat×(List (cR×eS))×(List dI))
def aP.out:aP.X→bk:=fun x=>match x with | .inl x=>⟨.d ti x.1,[.obj 0 false (.pr (.eH (.dr 1) 0) (.pr (.bI (.dr 2) 0 [] 0 0 x.2.1) (.d .unit ()))),.obj 0 false (.mp cj gq x.2.2.1),.obj 0 false (.vec 161 eB x.2.2.2)],[]⟩ | .inr x=>⟨.d ti x.1,[.obj 0 false (.pr (.eH (.dr 1) 0) (.pr (.bI (.dr 2) 1 [] 0 0 x.2.1) (.d .unit ()))),.obj 0 false (.mp cj gq x.2.2.1),.obj 1 false (.vec 161 eB x.2.2.2)],[]⟩
def aP.add:aP.D→aP.Y→aP.X:=fun(t,height,o0baL,o1,o2) y=>match y with | .inl y=> .inl y | .inr y=> .inr y
def nK(a:List (cR×eS)):List cR→List zj
 |[]=> []
 |o::l=>(o,((cO cj o a).getD v8,()))::nK (gJ cj o a) l
def rb(h:Int):List cR→List fu→List (cR×eS)→List (cR×eS)
 |o::l,x::xs,a=>rb h l xs (fT cj o (x,(h,())) a)
 |_,_,a=>a
def stepOf(t:eT)(a:List (cR×eS)):dI:=(nK a (dJ t),(eZ t,()))
def fO(t:eT)(h:Int)(a:List (cR×eS)):List (cR×eS):=rb h (eZ t) t.2.1 (mw (dJ t) a)
def aP.L0.aC:aP.L0.D→Prop:=fun(_,_,l,n,i,_,_,_,gL,_,g)=>l.length≤1000∧∃k:Nat,k≤l.length∧i=k∧n=l.length∧gL=g.length∧g.length=k
def aP.L0.F:aP.L0.D→aP.L0.Y:=fun(_,_,l,_,i,_,a,_,gL,_,g)=>(mw (l.drop i.toNat) a,gL+(l.drop i.toNat).length,g++nK a (l.drop i.toNat))
def aP.L1.aC:aP.L1.D→Prop:=fun(_,t,l,n,i,_,_,_,_,_,_)=>l.length≤1000∧l.length=t.2.1.length∧(∀o∈t.2.1,H8 o.2.1)∧∃k:Nat,k≤l.length∧i=k∧n=l.length
def aP.L1.F:aP.L1.D→aP.L1.Y:=fun(h,t,l,_,i,_,a,_,_,_,_)=>rb h (l.drop i.toNat) (t.2.1.drop i.toNat) a
def aP.aC:aP.D→Prop:=fun(t,_,n,a,s)=>nR t∧uJ a∧n≤s.length∧s.length≤1000000
def aP.F:aP.D→aP.Y:=fun(t,h,n,a,s)=>if(ee t h a).2≠0 then .inl ((ee t h a).2,n,a,s) else .inr (0,n+1,fO t h a,s.take n++ [stepOf t a])
noncomputable def aP.G:dZ:=fh (P:=Tryz.prog) [aB.sg,bD.sg,aO.sg,cF.sg]
noncomputable def aP.L0.E:=bP.cq aP.L0.st aP.L0.aC aP.L0.add aP.L0.F aP.L0.out
noncomputable def aP.L0.call:aP.L0.D→Option aP.L0.X:=cX aP.L0.E aP.L0.st
noncomputable def aP.L1.E:=bP.cq aP.L1.st aP.L1.aC aP.L1.add aP.L1.F aP.L1.out
noncomputable def aP.L1.call:aP.L1.D→Option aP.L1.X:=cX aP.L1.E aP.L1.st
noncomputable def aP.an:eO:= {loops:=j7 [(6,{bm:=[0,2,4,9,28,29,30],sites:=[9,45],ij:=[⟨9,[.fst],45,159⟩]}),(12,{bm:=[0,2,4,9,54,55,56],sites:=[9,45]})],outs:=j6 [(6,{bm:=[0,2,4,9],sites:=[9,45]},{bm:=[6]}),(12,{bm:=[0,9],sites:=[9,45]},{bm:=[6]})],fJ:=kW [(6,aP.L0.E),(12,aP.L1.E)]}
noncomputable def aP.A:= @cZ Tryz.prog aP.G aP.an 0 Tryz.f30 _ aP.st
abbrev aP.Ok:=da @aP.A aP.aC aP.add aP.F aP.out
noncomputable def aP.L0.R:= @bX Tryz.prog aP.G aP.an 0 Tryz.f30 0 _ aP.L0.st
abbrev aP.L0.Ok:=ej Tryz.prog aP.G aP.an 0 Tryz.f30 0 aP.L0.st aP.L0.aC aP.L0.add aP.L0.F aP.L0.out
noncomputable def aP.L1.R:= @bX Tryz.prog aP.G aP.an 0 Tryz.f30 1 _ aP.L1.st
abbrev aP.L1.Ok:=ej Tryz.prog aP.G aP.an 0 Tryz.f30 1 aP.L1.st aP.L1.aC aP.L1.add aP.L1.F aP.L1.out
theorem aP.L0.run:bK aP.L0.call aP.L0.aC aP.L0.add aP.L0.F:=eG (eC [.d ti,.d gf,.d (.slice cj),.d ti,.d ti,.n,.d (.slice (.pair cj gq)),.d (.slice eB),.n,.d (.pair (.slice cj) .unit),.d (.slice Cg)] fun _=>by kernel_rfl)
theorem aP.L0.aD:fN @aP.L0.R aP.L0.st aP.L0.aC aP.L0.add aP.L0.F aP.L0.bj aP.L0.Ok:=fU
theorem aP.L0.step{R:Type}(height_2:Int)(t_2:eT)(t28:(List cR))(t29:Int)(t30:Int)(o0L:Nat)(o1_2:(List (cR×eS)))(o2_2:(List dI))(n9L:Nat)(n9:((List cR)×Unit))(n45:(List zj))(kn:AS→Option R)(kx:Exit→AS→Option R):aP.L0.R (height_2,t_2,t28,t29,t30,o0L,o1_2,o2_2,n9L,n9,n45) kn kx=
  aJ ((fX t30 t29)) (
   aJ (eJ t30 (((List.length t28):Nat):Int)) (
   aJ (decide (n9L≤(List.length n45))) (
   aJ (dq (n9L+1) 80) (
   kn (aP.L0.st (height_2,t_2,t28,t29,(bN .i64 t30 (1:Int)),o0L,(gJ cj (nth cj t28 (Int.toNat t30)) o1_2),o2_2,(n9L+1),n9,((List.take n9L n45)++ [((nth cj t28 (Int.toNat t30)),(((cO cj (nth cj t28 (Int.toNat t30)) o1_2).getD (((0:Int),((([]:List iA),()),())),((0:Int),()))),()))])))) none) none) none) (
   kx (aP.L0.bj ((height_2,t_2,o0L,o2_2,n9),(o1_2,n9L,n45))).1 (aP.L0.bj ((height_2,t_2,o0L,o2_2,n9),(o1_2,n9L,n45))).2):=by kernel_rfl
theorem aP.L1.run:bK aP.L1.call aP.L1.aC aP.L1.add aP.L1.F:=eG (eC [.d ti,.d gf,.d (.slice cj),.d ti,.d ti,.n,.d (.slice (.pair cj gq)),.d (.slice eB),.n,.d (.pair (.slice cj) .unit),.d (.slice Cg)] fun _=>by kernel_rfl)
theorem aP.L1.aD:fN @aP.L1.R aP.L1.st aP.L1.aC aP.L1.add aP.L1.F aP.L1.bj aP.L1.Ok:=fU
theorem aP.L1.step{R:Type}(height_3:Int)(t_3:eT)(t54:(List cR))(t55:Int)(t56:Int)(o0L_2:Nat)(o1_3:(List (cR×eS)))(o2_3:(List dI))(n9L_2:Nat)(n9_2:((List cR)×Unit))(n45_2:(List zj))(kn:AS→Option R)(kx:Exit→AS→Option R):aP.L1.R (height_3,t_3,t54,t55,t56,o0L_2,o1_3,o2_3,n9L_2,n9_2,n45_2) kn kx=
  aJ ((fX t56 t55)) (
   aJ (eJ t56 (((List.length t54):Nat):Int)) (
   aJ (eJ t56 (((List.length t_3.2.1):Nat):Int)) (
   ah (cF.call (nth eN t_3.2.1 (Int.toNat t56))) fun x1=>
   kn (aP.L1.st (height_3,t_3,t54,t55,(bN .i64 t56 (1:Int)),o0L_2,(fT cj (nth cj t54 (Int.toNat t56)) (x1,(height_3,())) o1_3),o2_3,n9L_2,n9_2,n45_2))) none) none) (
   kx (aP.L1.bj ((o0L_2,o2_3,n9L_2,n9_2,n45_2),o1_3)).1 (aP.L1.bj ((o0L_2,o2_3,n9L_2,n9_2,n45_2),o1_3)).2):=by kernel_rfl
theorem aP.eq{R:Type}(t:eT)(height:Int)(o0baL:Nat)(o1:(List (cR×eS)))(o2:(List dI))(k:bk→Option R):aP.A (t,height,o0baL,o1,o2) k=
  ah (aB.call (t,height,o0baL,o1,o2)) fun x1=>
  aJ ((jO x1.2.1 (0:Int))) (
   k (aP.out (.inl (x1.2.1,x1.2.2.1,x1.2.2.2.1,x1.2.2.2.2)))) (
   ah (bD.call t) fun x2=>
   ah (aO.call t) fun x3=>
   ah (aP.L0.call (height,t,x3,(((List.length x3):Nat):Int),(0:Int),x1.2.2.1,x1.2.2.2.1,x1.2.2.2.2,0,(x2,()),([]:List zj))) fun x4=>
   ah (aP.L1.call (x4.1.1,x4.1.2.1,x4.1.2.2.2.2.1,(((List.length x4.1.2.2.2.2.1):Nat):Int),(0:Int),x4.1.2.2.1,x4.2.1,x4.1.2.2.2.1,x4.2.2.1,x4.1.2.2.2.2,x4.2.2.2)) fun x6=>
   aJ (decide (0=0∧(0+x6.1.2.2.1)≤(List.length x6.1.2.2.2.2))) (
   aJ (decide (x6.1.1≤(List.length x6.1.2.1))) (
   aJ (dq (x6.1.1+1) 48) (
   k (aP.out (.inr ((0:Int),(x6.1.1+1),x6.2,((List.take x6.1.1 x6.1.2.1)++ [((cut x6.1.2.2.2.2 0 x6.1.2.2.1),x6.1.2.2.2.1)]))))) none) none) none):=by kernel_rfl
theorem aP.L0.ok:aP.L0.Ok:=by
 refine aP.L0.aD (fun(_,_,l,_,i,_,_,_,_,_,_)=>l.length - i.toNat) ?_
 rintro⟨h,t,l,n,i,o,a,s,gL,u,g⟩ ⟨hl,k,hk,rfl,rfl,rfl,hg⟩
 have hl:l.length≤1000:=hl
 have hk:k≤l.length:=hk
 have hg:g.length=k:=hg
 by_cases hlt:k < l.length
 ·left
  have n1:nth cj l k=l[k]:=cm (t:=cj) hlt
  have hd:l.drop k=l[k]::l.drop (k+1):=List.drop_eq_getElem_cons hlt
  refine⟨(h,t,l,(l.length:Int),((k+1:Nat):Int),o,gJ cj l[k] a,s,g.length+1,u,g++ [(l[k],((cO cj l[k] a).getD v8,()))]),⟨hl,k+1,by omega,rfl,rfl,by simp,by simp[hg]⟩,by simp only[Int.toNat_natCast];omega,?_,fun kn kx=> ?_⟩
  ·simp only[aP.L0.add,aP.L0.F,Int.toNat_natCast,hd,mw,List.foldl_cons,nK,List.append_assoc,List.singleton_append,List.length_cons]
   rw[show g.length+1+(l.drop (k+1)).length=g.length+((l.drop (k+1)).length+1) by omega]
  ·rw[aP.L0.step,bq (by omega),ag,bt (by omega) (by omega),ag,aX (Nat.le_refl _),ag,ed (by omega) (by omega),ag,Int.toNat_natCast,n1,N.j4 (by omega),List.take_length]
   rfl
 ·right
  obtain rfl:k=l.length:=by omega
  intro R kn kx
  rw[aP.L0.step,bg (by omega),ai]
  simp only[aP.L0.add,aP.L0.F,Int.toNat_natCast,List.drop_length,mw,List.foldl_nil,nK,List.append_nil,List.length_nil,Nat.add_zero]
theorem aP.L1.ok:aP.L1.Ok:=by
 refine aP.L1.aD (fun(_,_,l,_,i,_,_,_,_,_,_)=>l.length - i.toNat) ?_
 rintro⟨h,t,l,n,i,o,a,s,gL,u,g⟩ ⟨hl,he,hb,k,hk,rfl,rfl⟩
 have hl:l.length≤1000:=hl
 have he:l.length=t.2.1.length:=he
 have hk:k≤l.length:=hk
 by_cases hlt:k < l.length
 ·left
  have hlt2:k < t.2.1.length:=by omega
  have n1:nth cj l k=l[k]:=cm (t:=cj) hlt
  have n2:nth eN t.2.1 k=t.2.1[k]:=cm (t:=eN) hlt2
  have hd:l.drop k=l[k]::l.drop (k+1):=List.drop_eq_getElem_cons hlt
  have hd2:t.2.1.drop k=t.2.1[k]::t.2.1.drop (k+1):=List.drop_eq_getElem_cons hlt2
  refine⟨(h,t,l,(l.length:Int),((k+1:Nat):Int),o,fT cj l[k] (t.2.1[k],(h,())) a,s,gL,u,g),⟨hl,he,hb,k+1,by omega,rfl,rfl⟩,by simp only[Int.toNat_natCast];omega,?_,fun kn kx=> ?_⟩
  ·simp only[aP.L1.add,aP.L1.F,Int.toNat_natCast,hd,hd2,rb]
  ·rw[aP.L1.step,bq (by omega),ag,bt (by omega) (by omega),ag,bt (by omega) (by omega),ag,Int.toNat_natCast,n1,n2,cF.run (d:=t.2.1[k]) (hb _ (List.getElem_mem hlt2))]
   simp only[aa,cF.add,cF.F]
   rw[N.j4 (by omega)]
 ·right
  obtain rfl:k=l.length:=by omega
  intro R kn kx
  rw[aP.L1.step,bg (by omega),ai]
  simp only[aP.L1.add,aP.L1.F,Int.toNat_natCast,List.drop_length,rb]
theorem vm{t:eT}{h:Int}{a:List (cR×eS)}(e:(ee t h a).2=0):gD t=true∧1≤h∧h≤1048576∧∃iB,iX h (mG t) a t.1 0= .inr iB∧(eZ t).any (kB a)=false∧0≤iB - gj t.2.1∧ee t h a=(iB - gj t.2.1,0):=by
 unfold ee at e ⊢
 by_cases h0:gD t=true∧1≤h∧h≤1048576
 ·rw[if_pos h0]at e
  rw[if_pos h0]
  refine⟨h0.1,h0.2.1,h0.2.2,?_⟩
  cases hi:iX h (mG t) a t.1 0 with
  |inl x=>
   exfalso
   rw[hi]at e
   simp only at e
   subst e
   have key:∀(l:List fZ) (f:Int),iX h (mG t) a l f≠ .inl 0:=by
    intro l
    induction l with
    |nil=>intro f hf;cases hf
    |cons x l ih=>
     intro f hf
     simp only[iX]at hf
     cases hg:cO cj x.1 a with
     |none=>rw[hg]at hf;simp at hf
     |some c=>
      rw[hg]at hf
      simp only at hf
      split at hf
      ·rename_i hne;exact hne (by injection hf)
      ·exact ih _ hf
   exact key _ _ hi
  |inr iB=>
   rw[hi]at e
   simp only at e ⊢
   by_cases hm:(eZ t).any (kB a)=true
   ·rw[if_pos hm]at e;cases e
   ·rw[if_neg hm]at e
    rw[if_neg hm]
    by_cases hf:iB - gj t.2.1 < 0
    ·rw[if_pos hf]at e;cases e
    ·rw[if_neg hf]
     exact⟨iB,rfl,by simpa using hm,by omega,rfl⟩
 ·rw[if_neg h0]at e;cases e
theorem ql{t:eT}(h:gD t=true):(dJ t).length=t.1.length:=by
 unfold dJ
 rw[if_pos h,List.length_map]
theorem aP.ok:aP.Ok:=by
 rintro⟨t,h,n,a,s⟩ ⟨hv,ha,hn,hs⟩
 have hv:nR t:=hv
 have ha:uJ a:=ha
 have hn:n≤s.length:=hn
 have hs:s.length≤1000000:=hs
 rw[aP.eq,aB.run (d:=(t,h,n,a,s)) ⟨hv,ha⟩]
 simp only[aa,aB.add,aB.F,aP.add,aP.F]
 by_cases he:(ee t h a).2=0
 ·rw[bU he,ai,if_neg (fun e=>e he)]
  obtain⟨hok,_,_,_⟩:=vm he
  obtain⟨⟨_,a2,a3,_⟩,b1,b2⟩:=iM hok
  rw[bD.run (d:=t) hv]
  simp only[aa,bD.add,bD.F]
  rw[aO.run (d:=t) hv.1]
  simp only[aa,aO.add,aO.F]
  rw[aP.L0.run (d:=(h,t,dJ t,((dJ t).length:Int),0,n,a,s,0,(eZ t,()),[])) ⟨by rw[ql hok];omega,0,Nat.zero_le _,rfl,rfl,rfl,rfl⟩]
  simp only[aa,aP.L0.add,aP.L0.F,Int.toNat_zero,List.drop_zero,List.nil_append,Nat.zero_add]
  rw[aP.L1.run (d:=(h,t,eZ t,((eZ t).length:Int),0,n,mw (dJ t) a,s,(dJ t).length,(eZ t,()),nK a (dJ t))) ⟨by rw[jF hok];omega,jF hok,fun o ho=>by
   have:=tN (kk _ _ b2 o ho).2
   exact⟨by omega,fun b hb=>by have:=this.2 b hb;omega⟩,0,Nat.zero_le _,rfl,rfl⟩]
  simp only[aa,aP.L1.add,aP.L1.F,Int.toNat_zero,List.drop_zero]
  have hgl:∀(l:List cR) (a:List (cR×eS)),(nK a l).length=l.length:=by
   intro l
   induction l with
   |nil=>intro a;rfl
   |cons o l ih=>intro a;simp[nK,ih]
  rw[aX (by rw[hgl];exact⟨trivial,by omega⟩),ag,aX hn,ag,ed (by omega) (by omega),ag,fc (hgl _ _)]
  rfl
 ·rw[dO he,ag,if_pos he]
noncomputable def aP.E:=Entry.EY [none,some gf,some ti] aP.st aP.aC aP.add aP.F aP.out
noncomputable def aP.call:aP.D→Option aP.X:=bT aP.E aP.st
theorem aP.run:bK aP.call aP.aC aP.add aP.F:=FM (de [.d gf,.d ti,.n,.d (.slice (.pair cj gq)),.d (.slice eB)] fun _=>by kernel_rfl)
noncomputable def aP.sg:SG Tryz.prog:=⟨30,aY,aP.E,.IY (.fn 2 (by kernel_rfl) aP.ok (And.intro (.cq aP.L0.ok (by kernel_rfl)) (And.intro (.cq aP.L1.ok (by kernel_rfl)) trivial)))⟩
set_option synthInstance.maxSize 5000
def rX:eW:=([],true,())
def jb(r:eW):Prop:=r.1.length≤1000000000∧Bytes r.1
def iC(n:Nat)(r:eW):List Int×eW:=if r.2.1=true∨r.1.length < n then([],rX) else(r.1.take n,(r.1.drop n,r.2))
def sF(l:List Int):Int:=l.foldl (fun n b=>n*256+b) 0
def j2(r:eW):Int×eW:=(sF (iC 8 r).1,(iC 8 r).2)
theorem wD:jb rX:=⟨Nat.zero_le _,fun x hx=>by cases hx⟩
theorem lJ{n:Nat}{r:eW}(h:jb r):(iC n r).1.length≤n∧Bytes (iC n r).1∧jb (iC n r).2:=by
 unfold iC
 split
 ·exact⟨Nat.zero_le _,fun x hx=>(by cases hx),wD⟩
 ·refine⟨by rw[List.length_take];omega,fun x hx=>h.2 x (List.mem_of_mem_take hx),?_,fun x hx=>h.2 x (List.mem_of_mem_drop hx)⟩
  show(r.1.drop n).length≤_
  rw[List.length_drop]
  have:=h.1
  omega
theorem B2(l:List Int)(b:Int):sF (l++ [b])=sF l*256+b:=by unfold sF;rw[List.foldl_append];rfl
theorem yF:∀(l:List Int) (n:Int) (k:Nat),Bytes l→0≤n→n < 256^k→0≤l.foldl (fun n b=>n*256+b) n∧l.foldl (fun n b=>n*256+b) n < 256^(k+l.length)
 |[],n,k,_,h0,h1=>⟨h0,h1⟩
 |b::l,n,k,hb,h0,h1=>by
  obtain⟨hx1,hx2⟩:=hb b List.mem_cons_self
  have e:(256:Int)^(k+1)=256^k*256:=Int.pow_succ 256 k
  have:=yF l (n*256+b) (k+1) (fun x hx=>hb x (List.mem_cons_of_mem _ hx)) (by omega) (by rw[e];omega)
  rw[show k+(b::l).length=k+1+l.length by rw[List.length_cons];omega]
  exact this
theorem A2{l:List Int}(h:Bytes l):0≤sF l∧sF l < 256^l.length:=by
 have:=yF l 0 0 h (Int.le_refl 0) (by decide)
 rw[Nat.zero_add]at this
 exact this
theorem vN{a b:Nat}(h:a≤b):(256:Int)^a≤256^b:=by
 have:((256^a:Nat):Int)≤((256^b:Nat):Int):=Int.ofNat_le.2 (Nat.pow_le_pow_right (by decide) h)
 rw[Int.natCast_pow,Int.natCast_pow]at this
 exact this
theorem Gv{l:List Int}(h:Bytes l)(h8:l.length≤8):jd (sF l):=by
 have e:=A2 h
 have e2:=vN h8
 have e3:(256:Int)^8=18446744073709551616:=rfl
 exact⟨e.1,by omega⟩
theorem rR{r:eW}(h:jb r):jd (j2 r).1∧jb (j2 r).2:=⟨Gv (lJ h).2.1 (lJ h).1,(lJ h).2.2⟩
theorem HR{n b:Int}(h0:0≤n)(h1:n < 72057594037927936)(hb:xo b):cC .or .u64 (gS .u64 n 8) (dM .u64 b)=n*256+b:=by
 have e:=(rY (n:=n) (b:=b) ⟨h0,by omega⟩ hb).1
 rw[kF 56 (by rfl) (by omega)]at e
 have p:(2:Int)^56=72057594037927936:=rfl
 rw[p]at e
 omega
abbrev dW.D:=eW
def dW.st:dW.D→SA:=fun o0=>([.ptr (.dr 0) 0 [] 0],[.obj 0 false (.d jK o0)])
abbrev dW.Y:=eW
abbrev dW.X:=eW
def dW.out:dW.X→bk:=fun x=>⟨.nil,[.obj 0 false (.d jK x)],[]⟩
def dW.add:dW.D→dW.Y→dW.X:=fun o0 y=>y
def dW.aC:dW.D→Prop:=fun _=>True
def dW.F:dW.D→dW.Y:=fun _=>rX
noncomputable def dW.G:dZ:=fh (P:=Tryz.prog) []
noncomputable def dW.an:eO:= {uS:=[⟨0,[.arr],jK⟩]}
noncomputable def dW.A:= @cZ Tryz.prog dW.G dW.an 0 Tryz.f239 _ dW.st
abbrev dW.Ok:=da @dW.A dW.aC dW.add dW.F dW.out
theorem dW.eq{R:Type}(o0:eW)(k:bk→Option R):dW.A o0 k=
 k (dW.out (([]:List Int),(true,o0.2.2))):=by kernel_rfl
theorem dW.ok:dW.Ok:=by
 intro o _
 rw[dW.eq]
 rfl
noncomputable def dW.E:=Entry.cq [none] dW.st dW.aC dW.add dW.F dW.out
noncomputable def dW.call:dW.D→Option dW.X:=bT dW.E dW.st
theorem dW.run:bK dW.call dW.aC dW.add dW.F:=dh (de [.d jK] fun _=>by kernel_rfl)
noncomputable def dW.sg:SG Tryz.prog:=⟨239,aY,dW.E,.fn 0 (by kernel_rfl) dW.ok trivial⟩
abbrev eA.D:=eW
def eA.st:eA.D→SA:=fun o0=>([.ptr (.dr 0) 0 [] 0],[.obj 0 false (.d jK o0)])
abbrev eA.Y:=Int
abbrev eA.X:=(eW)×(Int)
def eA.out:eA.X→bk:=fun x=>⟨.d ti x.2,[.obj 0 false (.d jK x.1)],[]⟩
def eA.add:eA.D→eA.Y→eA.X:=fun o0 y=>(o0,y)
def eA.aC:eA.D→Prop:=fun _=>True
def eA.F:eA.D→eA.Y:=fun o=>(o.1.length:Int)
noncomputable def eA.G:dZ:=fh (P:=Tryz.prog) []
noncomputable def eA.an:eO:= {}
noncomputable def eA.A:= @cZ Tryz.prog eA.G eA.an 0 Tryz.f190 _ eA.st
abbrev eA.Ok:=da @eA.A eA.aC eA.add eA.F eA.out
theorem eA.eq{R:Type}(o0:eW)(k:bk→Option R):eA.A o0 k=
 k (eA.out (o0,(((List.length o0.1):Nat):Int))):=by kernel_rfl
theorem eA.ok:eA.Ok:=by
 intro o _
 rw[eA.eq]
 rfl
noncomputable def eA.E:=Entry.cq [none] eA.st eA.aC eA.add eA.F eA.out
noncomputable def eA.call:eA.D→Option eA.X:=bT eA.E eA.st
theorem eA.run:bK eA.call eA.aC eA.add eA.F:=dh (de [.d jK] fun _=>by kernel_rfl)
noncomputable def eA.sg:SG Tryz.prog:=⟨190,aY,eA.E,.fn 0 (by kernel_rfl) eA.ok trivial⟩
abbrev fI.D:=eW
def fI.st:fI.D→SA:=fun o0=>([.ptr (.dr 0) 0 [] 0],[.obj 0 false (.d jK o0)])
abbrev fI.Y:=Bool
abbrev fI.X:=(eW)×(Bool)
def fI.out:fI.X→bk:=fun x=>⟨.d .bool x.2,[.obj 0 false (.d jK x.1)],[]⟩
def fI.add:fI.D→fI.Y→fI.X:=fun o0 y=>(o0,y)
def fI.aC:fI.D→Prop:=fun _=>True
def fI.F:fI.D→fI.Y:=fun o=> !o.2.1
noncomputable def fI.G:dZ:=fh (P:=Tryz.prog) []
noncomputable def fI.an:eO:= {}
noncomputable def fI.A:= @cZ Tryz.prog fI.G fI.an 0 Tryz.f189 _ fI.st
abbrev fI.Ok:=da @fI.A fI.aC fI.add fI.F fI.out
theorem fI.eq{R:Type}(o0:eW)(k:bk→Option R):fI.A o0 k=
 k (fI.out (o0,(!o0.2.1))):=by kernel_rfl
theorem fI.ok:fI.Ok:=by
 intro o _
 rw[fI.eq]
 rfl
noncomputable def fI.E:=Entry.cq [none] fI.st fI.aC fI.add fI.F fI.out
noncomputable def fI.call:fI.D→Option fI.X:=bT fI.E fI.st
theorem fI.run:bK fI.call fI.aC fI.add fI.F:=dh (de [.d jK] fun _=>by kernel_rfl)
noncomputable def fI.sg:SG Tryz.prog:=⟨189,aY,fI.E,.fn 0 (by kernel_rfl) fI.ok trivial⟩
abbrev dB.D:=Int×eW
def dB.st:dB.D→SA:=fun(n,o0)=>([.ptr (.dr 0) 0 [] 0,.d ti n],[.obj 0 false (.d jK o0)])
abbrev dB.Y:=Bs×eW
abbrev dB.X:=Bs×eW
def dB.out:dB.X→bk:=fun x=>⟨.d tB x.1,[.obj 0 false (.d jK x.2)],[]⟩
def dB.add:dB.D→dB.Y→dB.X:=fun(n,o0) y=>y
def dB.aC:dB.D→Prop:=fun(n,o)=>0≤n∧o.1.length≤1000000000
def dB.F:dB.D→dB.Y:=fun(n,o)=>iC n.toNat o
noncomputable def dB.G:dZ:=fh (P:=Tryz.prog) [dW.sg,cz.sg]
noncomputable def dB.an:eO:= {res:=[some tB],uS:=[⟨0,[.arr],jK⟩]}
noncomputable def dB.A:= @cZ Tryz.prog dB.G dB.an 0 Tryz.f240 _ dB.st
abbrev dB.Ok:=da @dB.A dB.aC dB.add dB.F dB.out
theorem dB.eq{R:Type}(n:Int)(o0:eW)(k:bk→Option R):dB.A (n,o0) k=
  aJ (o0.2.1) (
   ah (dW.call o0) fun x1=>
   k (dB.out (([]:List Int),x1))) (
   aJ ((mP n (((List.length o0.1):Nat):Int))) (
    ah (dW.call o0) fun x2=>
    k (dB.out (([]:List Int),x2))) (
    aJ (inc n (((List.length o0.1):Nat):Int)) (
    ah (cz.call (cut o0.1 0 ((Int.toNat n) - 0))) fun x3=>
    aJ (inc n (((List.length o0.1):Nat):Int)) (
    aJ (decide (0=0∧(0+x3.1)≤(List.length x3.2))) (
    k (dB.out ((cut x3.2 0 x3.1),((cut o0.1 (Int.toNat n) ((List.length o0.1) - (Int.toNat n))),o0.2)))) none) none) none)):=by kernel_rfl
theorem dB.ok:dB.Ok:=by
 rintro⟨n,o⟩ ⟨h0,hl⟩
 have h0:0≤n:=h0
 have hl:o.1.length≤1000000000:=hl
 obtain⟨k,rfl⟩:∃k:Nat,n=k:=⟨n.toNat,by omega⟩
 rw[dB.eq]
 simp only[dB.add,dB.F,iC,Int.toNat_natCast,Nat.sub_zero]
 cases h2:o.2.1
 ·by_cases hn:o.1.length < k
  ·rw[dy (by omega),if_pos (Or.inr hn),dW.run (d:=o) trivial];rfl
  ·have e1:cut o.1 0 k=o.1.take k:=rfl
   have e2:cut o.1 k (o.1.length - k)=o.1.drop k:=by unfold cut;rw[List.take_of_length_le];rw[List.length_drop];omega
   rw[db (by omega),if_neg (by intro x;rcases x with x | x;exact absurd x (by decide);exact hn x),kJ (by omega) (by omega),e1,e2,cz.run (d:=o.1.take k) (by show(o.1.take k).length≤_;rw[List.length_take];omega)]
   simp only[ai,ag,aa,cz.add,cz.F,Nat.zero_add,Nat.le_refl,and_self,decide_true,fc]
 ·rw[ag,if_pos (Or.inl rfl),dW.run (d:=o) trivial];rfl
noncomputable def dB.E:=Entry.cq [none,some ti] dB.st dB.aC dB.add dB.F dB.out
noncomputable def dB.call:dB.D→Option dB.X:=bT dB.E dB.st
theorem dB.run:bK dB.call dB.aC dB.add dB.F:=dh (de [.d ti,.d jK] fun _=>by kernel_rfl)
noncomputable def dB.sg:SG Tryz.prog:=⟨240,aY,dB.E,.fn 0 (by kernel_rfl) dB.ok trivial⟩
abbrev ct.L0.D:=Int×Bs×Int×Int×eW
def ct.L0.st:ct.L0.D→AS:=fun(n,t7,t8,t9,o0_2)=>⟨([.undef,.undef,.undef,.d tu n,.undef,.undef,.undef,.d tB t7,.d ti t8,.d ti t9]++ba 10 []),[.obj 0 false (.d jK o0_2)],(List.replicate 20 [])⟩
abbrev ct.L0.Y0:=Int
abbrev ct.L0.X0:=(eW)×(Int)
def ct.L0.bj:ct.L0.X0→Exit×AS:=fun x=>(.exit 0,⟨([.undef,.undef,.undef,.d tu x.2]++ba 16 []),[.obj 0 false (.d jK x.1)],(List.replicate 20 [])⟩)
abbrev ct.L0.X:=ct.L0.X0
abbrev ct.L0.Y:=ct.L0.Y0
def ct.L0.out:ct.L0.X→Out (Exit×AS):=fun x=> .ok (ct.L0.bj x)
def ct.L0.add:ct.L0.D→ct.L0.Y→ct.L0.X:=fun(n,t7,t8,t9,o0_2) y=>(o0_2,y)
abbrev ct.D:=eW
def ct.st:ct.D→SA:=fun o0=>([.ptr (.dr 0) 0 [] 0],[.obj 0 false (.d jK o0)])
abbrev ct.Y:=Int×eW
abbrev ct.X:=Int×eW
def ct.out:ct.X→bk:=fun x=>⟨.d tu x.1,[.obj 0 false (.d jK x.2)],[]⟩
def ct.add:ct.D→ct.Y→ct.X:=fun o0 y=>y
def ct.L0.aC:ct.L0.D→Prop:=fun(n,l,m,i,o)=>Bytes l∧l.length≤8∧m=l.length∧∃k:Nat,k≤l.length∧i=k∧n=sF (l.take k)
def ct.L0.F:ct.L0.D→ct.L0.Y:=fun(n,l,m,i,o)=>sF l
def ct.aC:ct.D→Prop:=fun o=>jb o
def ct.F:ct.D→ct.Y:=fun o=>j2 o
noncomputable def ct.G:dZ:=fh (P:=Tryz.prog) [dB.sg]
noncomputable def ct.L0.E:=bP.cq ct.L0.st ct.L0.aC ct.L0.add ct.L0.F ct.L0.out
noncomputable def ct.L0.call:ct.L0.D→Option ct.L0.X:=cX ct.L0.E ct.L0.st
noncomputable def ct.an:eO:= {loops:=j7 [(3,{bm:=[3,7,8,9]})],outs:=j6 [(3,{bm:=[3]},{bm:=[2]})],fJ:=kW [(3,ct.L0.E)]}
noncomputable def ct.A:= @cZ Tryz.prog ct.G ct.an 0 Tryz.f188 _ ct.st
abbrev ct.Ok:=da @ct.A ct.aC ct.add ct.F ct.out
noncomputable def ct.L0.R:= @bX Tryz.prog ct.G ct.an 0 Tryz.f188 0 _ ct.L0.st
abbrev ct.L0.Ok:=ej Tryz.prog ct.G ct.an 0 Tryz.f188 0 ct.L0.st ct.L0.aC ct.L0.add ct.L0.F ct.L0.out
theorem ct.L0.run:bK ct.L0.call ct.L0.aC ct.L0.add ct.L0.F:=eG (eC [.d tu,.d tB,.d ti,.d ti,.d jK] fun _=>by kernel_rfl)
theorem ct.L0.aD:fN @ct.L0.R ct.L0.st ct.L0.aC ct.L0.add ct.L0.F ct.L0.bj ct.L0.Ok:=fU
theorem ct.L0.step{R:Type}(n:Int)(t7:Bs)(t8:Int)(t9:Int)(o0_2:eW)(kn:AS→Option R)(kx:Exit→AS→Option R):ct.L0.R (n,t7,t8,t9,o0_2) kn kx=
  aJ ((fX t9 t8)) (
   aJ (eJ t9 (((List.length t7):Nat):Int)) (
   kn (ct.L0.st ((cC .or .u64 (gS .u64 n (8:Int)) (dM .u64 (nth tb t7 (Int.toNat t9)))),t7,t8,(bN .i64 t9 (1:Int)),o0_2))) none) (
   kx (ct.L0.bj (o0_2,n)).1 (ct.L0.bj (o0_2,n)).2):=by kernel_rfl
theorem ct.eq{R:Type}(o0:eW)(k:bk→Option R):ct.A o0 k=
 ah (dB.call ((8:Int),o0)) fun x1=>
 ah (ct.L0.call ((0:Int),x1.1,(((List.length x1.1):Nat):Int),(0:Int),x1.2)) fun x2=>
 k (ct.out (x2.2,x2.1)):=by kernel_rfl
theorem ct.L0.ok:ct.L0.Ok:=by
 refine ct.L0.aD (fun(n,l,m,i,o)=>l.length - i.toNat) ?_
 rintro⟨n,l,m,i,o⟩ ⟨hb,h8,rfl,k,hk,rfl,rfl⟩
 have h8:l.length≤8:=h8
 have hk:k≤l.length:=hk
 by_cases h:k < l.length
 ·left
  have hx:=hb _ (List.getElem_mem h)
  have n1:nth (.int .u8) l k=l[k]:=cm (t:= .int .u8) h
  have ht:(l.take k).length=k:=by rw[List.length_take];omega
  have b0:=A2 (l:=l.take k) fun x hx=>hb x (List.mem_of_mem_take hx)
  rw[ht]at b0
  have b1:=vN (show k≤7 by omega)
  have b2:(256:Int)^7=72057594037927936:=rfl
  refine⟨(sF (l.take (k+1)),l,l.length,((k+1:Nat):Int),o),⟨hb,h8,rfl,k+1,by omega,rfl,rfl⟩,by simp only[Int.toNat_natCast];omega,rfl,fun kn kx=> ?_⟩
  rw[ct.L0.step,bq (by omega),bt (by omega) (by omega),Int.toNat_natCast,n1,N.j4 (by omega),HR b0.1 (by omega) hx,List.take_succ_eq_append_getElem h,B2]
  rfl
 ·right
  obtain rfl:k=l.length:=by omega
  intro R kn kx
  rw[ct.L0.step,bg (by omega),ai,List.take_length]
  rfl
theorem ct.ok:ct.Ok:=by
 intro o h
 have h:jb o:=h
 have t:=lJ (n:=8) h
 rw[ct.eq,dB.run (d:=(8,o)) ⟨by decide,h.1⟩]
 simp only[aa,dB.add,dB.F]
 rw[show Int.toNat 8=8 from rfl,ct.L0.run (d:=(0,(iC 8 o).1,(iC 8 o).1.length,0,(iC 8 o).2)) ⟨t.2.1,t.1,rfl,0,Nat.zero_le _,rfl,rfl⟩]
 rfl
noncomputable def ct.E:=Entry.cq [none] ct.st ct.aC ct.add ct.F ct.out
noncomputable def ct.call:ct.D→Option ct.X:=bT ct.E ct.st
theorem ct.run:bK ct.call ct.aC ct.add ct.F:=dh (de [.d jK] fun _=>by kernel_rfl)
noncomputable def ct.sg:SG Tryz.prog:=⟨188,aY,ct.E,.fn 1 (by kernel_rfl) ct.ok (And.intro (.cq ct.L0.ok (by kernel_rfl)) trivial)⟩
abbrev dR.D:=Bs
def dR.st:dR.D→SA:=fun b=>([.d tB b],[])
abbrev dR.Y:=eW
abbrev dR.X:=eW
def dR.out:dR.X→bk:=fun x=>⟨.ptr (.new 0 0) 0 [] 0,[],[.obj 0 false (.d jK x)]⟩
def dR.add:dR.D→dR.Y→dR.X:=fun b y=>y
def dR.aC:dR.D→Prop:=fun b=>b.length≤1000000000
def dR.F:dR.D→dR.Y:=fun b=>(b,false,())
noncomputable def dR.G:dZ:=fh (P:=Tryz.prog) [cz.sg]
noncomputable def dR.an:eO:= {bO:=[6],uS:=[⟨2,[.arr],jK⟩]}
noncomputable def dR.A:= @cZ Tryz.prog dR.G dR.an 0 Tryz.f182 _ dR.st
abbrev dR.Ok:=da @dR.A dR.aC dR.add dR.F dR.out
theorem dR.eq{R:Type}(b:Bs)(k:bk→Option R):dR.A b k=
 ah (cz.call b) fun x1=>
 aJ (decide (0=0∧(0+x1.1)≤(List.length x1.2))) (
 k (dR.out ((cut x1.2 0 x1.1),(false,())))) none:=by kernel_rfl
theorem dR.ok:dR.Ok:=by
 intro b hb
 have hb:b.length≤1000000000:=hb
 rw[dR.eq,cz.run (d:=b) (by show b.length≤_;omega)]
 simp only[aa,cz.add,cz.F,Nat.zero_add,Nat.le_refl,and_self,decide_true,ag,fc]
 rfl
noncomputable def dR.E:=Entry.cq [some tB] dR.st dR.aC dR.add dR.F dR.out
noncomputable def dR.call:dR.D→Option dR.X:=bT dR.E dR.st
theorem dR.run:bK dR.call dR.aC dR.add dR.F:=dh (de [.d tB] fun _=>by kernel_rfl)
noncomputable def dR.sg:SG Tryz.prog:=⟨182,aY,dR.E,.fn 0 (by kernel_rfl) dR.ok trivial⟩
abbrev cU.D:=Int×eW
def cU.st:cU.D→SA:=fun(o0,o2)=>([.ptr (.dr 0) 0 [] 0,.ptr (.dr 1) 0 [] 0],[.obj 0 false (.d ti o0),.obj 0 false (.ptr (.dr 2) 0 [] 0),.obj 0 false (.d jK o2)])
abbrev cU.Y:=Bool
abbrev cU.X:=(Int×eW)×(Bool)
def cU.out:cU.X→bk:=fun x=>⟨.d .bool x.2,[.obj 0 false (.d ti x.1.1),.obj 0 false (.ptr (.dr 2) 0 [] 0),.obj 0 false (.d jK x.1.2)],[]⟩
def cU.add:cU.D→cU.Y→cU.X:=fun(o0,o2) y=>((o0,o2),y)
def cU.aC:cU.D→Prop:=fun(a,o)=>0≤a
def cU.F:cU.D→cU.Y:=fun(a,o)=>decide (o.1.length≤a.toNat∨8 < a.toNat∨(0 < a.toNat∧nth (.int .u8) o.1 a.toNat=0))
noncomputable def cU.G:dZ:=fh (P:=Tryz.prog) []
noncomputable def cU.an:eO:= {}
noncomputable def cU.A:= @cZ Tryz.prog cU.G cU.an 0 Tryz.f238 _ cU.st
abbrev cU.Ok:=da @cU.A cU.aC cU.add cU.F cU.out
theorem cU.eq{R:Type}(o0:Int)(o2:eW)(k:bk→Option R):cU.A (o0,o2) k=
  aJ ((nS o0 (((List.length o2.1):Nat):Int))) (
   k (cU.out ((o0,o2),true))) (
   aJ ((mP o0 (8:Int))) (
    k (cU.out ((o0,o2),true))) (
    aJ ((mP o0 (0:Int))) (
     aJ (eJ o0 (((List.length o2.1):Nat):Int)) (
     k (cU.out ((o0,o2),(jB (nth tb o2.1 (Int.toNat o0)) (0:Int))))) none) (
     k (cU.out ((o0,o2),false))))):=by kernel_rfl
theorem cU.ok:cU.Ok:=by
 rintro⟨a,o⟩ h0
 obtain⟨k,rfl⟩:∃k:Nat,a=k:=⟨a.toNat,by have h0:0≤a:=h0;omega⟩
 rw[cU.eq]
 simp only[cU.add,cU.F,Int.toNat_natCast]
 by_cases h1:o.1.length≤k
 ·rw[gl (by omega),aX (Or.inl h1)];rfl
 by_cases h2:8 < k
 ·rw[eX (by omega),dy (by omega),aX (Or.inr (Or.inl h2))];rfl
 by_cases h3:0 < k
 ·rw[eX (by omega),db (by omega),dy (by omega),bt (by omega) (by omega)]
  simp only[ai,ag]
  by_cases h4:nth (.int .u8) o.1 k=0
  ·rw[il h4,aX (Or.inr (Or.inr ⟨h3,h4⟩))]
  ·rw[iR h4,bz (by rintro(x | x | x);exact h1 x;exact h2 x;exact h4 x.2)]
 ·rw[eX (by omega),db (by omega),db (by omega),bz (by rintro(x | x | x);exact h1 x;exact h2 x;exact h3 x.1)];rfl
noncomputable def cU.E:=Entry.cq [none,none] cU.st cU.aC cU.add cU.F cU.out
noncomputable def cU.call:cU.D→Option cU.X:=bT cU.E cU.st
theorem cU.run:bK cU.call cU.aC cU.add cU.F:=dh (de [.d ti,.d jK] fun _=>by kernel_rfl)
noncomputable def cU.sg:SG Tryz.prog:=⟨238,aY,cU.E,.fn 0 (by kernel_rfl) cU.ok trivial⟩
set_option synthInstance.maxSize 5000
def pN:List Int→Nat→Int→(Int×Nat)⊕Unit
 |[],_,_=> .inr ()
 |d::l,a,n=>if 8 < a∨(0 < a∧d=0) then .inr () else if d < 128 then .inl (n+d%128*128^a,a+1) else pN l (a+1) (n+d%128*128^a)
def dv(r:eW):Int×eW:=match pN r.1 0 0 with | .inl v=>(v.1,(r.1.drop v.2,r.2)) | .inr _=>(0,rX)
theorem Ac(k:Nat):(128:Int)^k=((128^k:Nat):Int):=by rw[Int.natCast_pow];rfl
theorem xR{n d k:Nat}(hk:k≤8)(hn:n < 128^k)(hd:d < 128):cC .or .i64 (n:Int) (gS .i64 (d:Int) ((7*k:Nat):Int))=((n+d*128^k:Nat):Int)∧n+d*128^k < 128^(k+1)∧128^(k+1)≤9223372036854775808:=by
 have p:128^k≤128^8:=Nat.pow_le_pow_right (by decide) hk
 have p8:128^8=72057594037927936:=rfl
 have e1:128^(k+1)=128^k*128:=Nat.pow_succ (n:=128) (m:=k)
 have e2:2^(7*k)=128^k:=by rw[Nat.pow_mul]
 have e3:d*128^k≤127*128^k:=Nat.mul_le_mul_right _ (by omega)
 refine⟨?_,by omega,by omega⟩
 have s:gS .i64 (d:Int) ((7*k:Nat):Int)=((d*128^k:Nat):Int):=by
  rw[gS]
  have e:min (Int.toNat ((7*k:Nat):Int)) IntKind.i64.bits=7*k:=by simp only[IntKind.bits,Int.toNat_natCast];omega
  rw[e,show(2:Int)^(7*k)=((2^(7*k):Nat):Int) by rw[Int.natCast_pow];rfl,e2,←Int.natCast_mul]
  exact jN (by omega) (by omega)
 rw[s]
 have e:(BitVec.ofInt 64 (n:Int) ||| BitVec.ofInt 64 ((d*128^k:Nat):Int)).toNat=n+d*128^k:=by
  rw[BitVec.toNat_or]
  have a:(BitVec.ofInt 64 ((d*128^k:Nat):Int)).toNat=2^(7*k)*d:=by rw[BitVec.ofInt_natCast,BitVec.toNat_ofNat,e2,Nat.mul_comm];exact Nat.mod_eq_of_lt (by rw[Nat.mul_comm];omega)
  have b:(BitVec.ofInt 64 (n:Int)).toNat=n:=by rw[BitVec.ofInt_natCast,BitVec.toNat_ofNat];exact Nat.mod_eq_of_lt (by omega)
  rw[a,b,Nat.or_comm,←Nat.two_pow_add_eq_or_of_lt (by rw[e2];exact hn),e2,Nat.mul_comm]
  omega
 show IntKind.i64.wrap ((BitVec.ofInt 64 (n:Int) ||| BitVec.ofInt 64 ((d*128^k:Nat):Int)).toNat:Int)=_
 rw[e]
 exact jN (by omega) (by omega)
theorem wY:∀(l:List Int) (a:Nat) (n:Int) (v:Int×Nat),Bytes l→a≤9→0≤n→n < 128^a→pN l a n= .inl v→0≤v.1∧v.1 < 9223372036854775808∧a < v.2∧v.2≤a+l.length∧v.2≤9
 |[],a,n,v,_,_,_,_,h=>by cases h
 |d::l,a,n,v,hb,ha,h0,h1,h=>by
  have hx:=hb d List.mem_cons_self
  obtain⟨x1,x2⟩:=hx
  rw[pN]at h
  split at h
  ·cases h
  ·rename_i hc
   have ha8:a≤8:=by omega
   rw[Ac]at h1 h
   obtain⟨nn,rfl⟩:∃m:Nat,n=m:=⟨n.toNat,by omega⟩
   obtain⟨dn,hdn⟩:∃m:Nat,d%128=m:=⟨(d%128).toNat,by omega⟩
   have g:=(xR (n:=nn) (d:=dn) ha8 (by omega) (by omega)).2
   rw[hdn]at h
   have ec:((nn:Int)+(dn:Int)*((128^a:Nat):Int))=((nn+dn*128^a:Nat):Int):=by rw[Int.natCast_add,Int.natCast_mul]
   rw[ec]at h
   split at h
   ·cases h
    simp only[List.length_cons]
    exact⟨by omega,by omega,by omega,by omega,by omega⟩
   ·have:=wY l (a+1) _ v (fun x hx=>hb x (List.mem_cons_of_mem _ hx)) (by omega) (by omega) (by rw[Ac];omega) h
    simp only[List.length_cons]
    exact⟨this.1,this.2.1,by omega,by omega,this.2.2.2.2⟩
theorem jm{r:eW}(h:jb r):0≤(dv r).1∧(dv r).1≤9223372036854775807∧jb (dv r).2:=by
 unfold dv
 cases hf:pN r.1 0 0 with
 |inl v=>
  have:=wY r.1 0 0 v h.2 (by decide) (by decide) (by decide) hf
  refine⟨this.1,by have:=this.2.1;show v.1≤_;omega,?_,fun x hx=>h.2 x (List.mem_of_mem_drop hx)⟩
  show(r.1.drop v.2).length≤_
  rw[List.length_drop]
  have:=h.1
  omega
 |inr _=>exact⟨Int.le_refl 0,(show(0:Int)≤9223372036854775807 by decide),wD⟩
abbrev bS.L0.D:=Int×eW×Int
def bS.L0.st:bS.L0.D→AS:=fun(n,o0_2,n4)=>⟨([.ptr (.dr 0) 0 [] 0,.ptr (.new 1 0) 0 [] 0,.undef,.d ti n,.ptr (.new 4 0) 0 [] 0,.fn 238 (.cons (.ptr (.new 4 0) 0 [] 0) (.cons (.ptr (.new 1 0) 0 [] 0) (.nil)))]++ba 35 []),[.obj 0 false (.d jK o0_2)],([[],[.obj 0 false (.ptr (.dr 0) 0 [] 0)],[],[],[.obj 0 false (.d ti n4)]]++bE 36 [])⟩
abbrev bS.L0.Y0:=eW
abbrev bS.L0.X0:=eW
def bS.L0.bj:bS.L0.X0→Exit×AS:=fun x=>(.ret,⟨([.ptr (.dr 0) 0 [] 0,.undef,.d ti (0:Int)]++ba 38 []),[.obj 0 false (.d jK x)],(List.replicate 41 [])⟩)
abbrev bS.L0.Y1:=Int×eW×Int
abbrev bS.L0.X1:=Int×eW×Int
def bS.L0.e7:bS.L0.X1→Exit×AS:=fun x=>(.exit 0,⟨([.ptr (.dr 0) 0 [] 0,.ptr (.new 1 0) 0 [] 0,.undef,.d ti x.1,.ptr (.new 4 0) 0 [] 0]++ba 36 []),[.obj 0 false (.d jK x.2.1)],([[],[.obj 0 false (.ptr (.dr 0) 0 [] 0)],[],[],[.obj 0 false (.d ti x.2.2)]]++bE 36 [])⟩)
abbrev bS.L0.X:=(bS.L0.X0)⊕(bS.L0.X1)
abbrev bS.L0.Y:=(bS.L0.Y0)⊕(bS.L0.Y1)
def bS.L0.out:bS.L0.X→Out (Exit×AS):=fun x=> .br x.isLeft (.get x.getLeft? fun a=> .ok (bS.L0.bj a)) (.get x.getRight? fun b=> .ok (bS.L0.e7 b))
def bS.L0.add:bS.L0.D→bS.L0.Y→bS.L0.X:=fun(n,o0_2,n4) y=>match y with | .inl y=> .inl y | .inr z=> .inr (z)
abbrev bS.D:=eW
def bS.st:bS.D→SA:=fun o0=>([.ptr (.dr 0) 0 [] 0],[.obj 0 false (.d jK o0)])
abbrev bS.Y:=Int×eW
abbrev bS.X:=Int×eW
def bS.out:bS.X→bk:=fun x=>⟨.d ti x.1,[.obj 0 false (.d jK x.2)],[]⟩
def bS.add:bS.D→bS.Y→bS.X:=fun o0 y=>y
def bS.L0.aC:bS.L0.D→Prop:=fun(n,o,i)=>jb o∧∃(k m:Nat),k≤9∧i=k∧n=m∧m < 128^k
def bS.L0.F:bS.L0.D→bS.L0.Y:=fun(n,o,i)=>match pN (o.1.drop i.toNat) i.toNat n with | .inl v=> .inr (v.1,o,(v.2:Int)) | .inr _=> .inl rX
def bS.aC:bS.D→Prop:=fun o=>jb o
def bS.F:bS.D→bS.Y:=fun o=>dv o
noncomputable def bS.G:dZ:=fh (P:=Tryz.prog) [cU.sg,dW.sg]
noncomputable def bS.L0.E:=bP.cq bS.L0.st bS.L0.aC bS.L0.add bS.L0.F bS.L0.out
noncomputable def bS.L0.call:bS.L0.D→Option bS.L0.X:=cX bS.L0.E bS.L0.st
noncomputable def bS.an:eO:= {bO:=[1],loops:=j7 [(3,{bm:=[0,1,3,4,5],sites:=[1,4]})],outs:=j6 [(3,{bm:=[0,1,3,4],sites:=[1,4]},{bm:=[0,2]})],fJ:=kW [(3,bS.L0.E)],uS:=[⟨0,[.arr],jK⟩]}
noncomputable def bS.A:= @cZ Tryz.prog bS.G bS.an 0 Tryz.f184 _ bS.st
abbrev bS.Ok:=da @bS.A bS.aC bS.add bS.F bS.out
noncomputable def bS.L0.R:= @bX Tryz.prog bS.G bS.an 0 Tryz.f184 0 _ bS.L0.st
abbrev bS.L0.Ok:=ej Tryz.prog bS.G bS.an 0 Tryz.f184 0 bS.L0.st bS.L0.aC bS.L0.add bS.L0.F bS.L0.out
theorem bS.L0.run:bK bS.L0.call bS.L0.aC bS.L0.add bS.L0.F:=eG (eC [.d ti,.d jK,.d ti] fun _=>by kernel_rfl)
theorem bS.L0.aD:j5 @bS.L0.R bS.L0.st bS.L0.aC bS.L0.add bS.L0.F bS.L0.out bS.L0.Ok:=kf
theorem bS.L0.step{R:Type}(n:Int)(o0_2:eW)(n4:Int)(kn:AS→Option R)(kx:Exit→AS→Option R):bS.L0.R (n,o0_2,n4) kn kx=
  ah (cU.call (n4,o0_2)) fun x1=>
  aJ (x1.2) (
   ah (dW.call x1.1.2) fun x2=>
   kx (bS.L0.bj x2).1 (bS.L0.bj x2).2) (
   aJ (eJ x1.1.1 (((List.length x1.1.2.1):Nat):Int)) (
   aJ (ig (fi .i64 (7:Int) x1.1.1)) (
   aJ ((fX (nth tb x1.1.2.1 (Int.toNat x1.1.1)) (128:Int))) (
    kx (bS.L0.e7 ((cC .or .i64 n (gS .i64 (dM .i64 (jI (nth tb x1.1.2.1 (Int.toNat x1.1.1)) (128:Int))) (fi .i64 (7:Int) x1.1.1))),x1.1.2,(bN .i64 x1.1.1 (1:Int)))).1 (bS.L0.e7 ((cC .or .i64 n (gS .i64 (dM .i64 (jI (nth tb x1.1.2.1 (Int.toNat x1.1.1)) (128:Int))) (fi .i64 (7:Int) x1.1.1))),x1.1.2,(bN .i64 x1.1.1 (1:Int)))).2) (
    kn (bS.L0.st ((cC .or .i64 n (gS .i64 (dM .i64 (jI (nth tb x1.1.2.1 (Int.toNat x1.1.1)) (128:Int))) (fi .i64 (7:Int) x1.1.1))),x1.1.2,(bN .i64 x1.1.1 (1:Int)))))) none) none):=by kernel_rfl
theorem bS.eq{R:Type}(o0:eW)(k:bk→Option R):bS.A o0 k=
  ah (bS.L0.call ((0:Int),o0,(0:Int))) fun x3=>
  aJ (x3.isLeft) (
   ah (x3.getLeft?) fun a4=>
   k (bS.out ((0:Int),a4))) (
   ah (x3.getRight?) fun b5=>
   aJ (inc b5.2.2 (((List.length b5.2.1.1):Nat):Int)) (
   k (bS.out (b5.1,((cut b5.2.1.1 (Int.toNat b5.2.2) ((List.length b5.2.1.1) - (Int.toNat b5.2.2))),b5.2.1.2)))) none):=by kernel_rfl
theorem bS.L0.ok:bS.L0.Ok:=by
 refine bS.L0.aD (fun(n,o,i)=>9 - i.toNat) ?_
 rintro⟨n,o,i⟩ ⟨hr,k,m,hk,rfl,rfl,hm⟩
 have hk:k≤9:=hk
 have hr:jb o:=hr
 by_cases hw:o.1.length≤k∨8 < k∨(0 < k∧nth (.int .u8) o.1 k=0)
 ·right
  have hf:pN (o.1.drop k) k (m:Int)= .inr ():=by
   by_cases h:k < o.1.length
   ·have n1:nth (.int .u8) o.1 k=o.1[k]:=cm (t:= .int .u8) h
    rw[List.drop_eq_getElem_cons h,pN,if_pos (by rw[n1]at hw;rcases hw with x | x | x;exact absurd x (by omega);exact Or.inl x;exact Or.inr x)]
   ·rw[List.drop_of_length_le (by omega)];rfl
  refine⟨bS.L0.bj rX,?_,fun kn kx=> ?_⟩
  ·simp only[bS.L0.add,bS.L0.F,Int.toNat_natCast,hf]
   rfl
  ·rw[bS.L0.step,cU.run (d:=((k:Int),o)) (Int.natCast_nonneg k)]
   simp only[aa,cU.add,cU.F,Int.toNat_natCast]
   rw[aX hw,ag,dW.run (d:=o) trivial]
   rfl
 ·have h:k < o.1.length:=by omega
  have hx:=hr.2 _ (List.getElem_mem h)
  obtain⟨x1,x2⟩:=hx
  have n1:nth (.int .u8) o.1 k=o.1[k]:=cm (t:= .int .u8) h
  have hc:¬(8 < k∨(0 < k∧o.1[k]=0)):=fun x=>hw (x.elim (fun y=> .inr (.inl y)) fun y=> .inr (.inr ⟨y.1,n1.trans y.2⟩))
  obtain⟨dn,hdn⟩:∃d:Nat,o.1[k]=d:=⟨o.1[k].toNat,by omega⟩
  have g:=xR (n:=m) (d:=dn%128) (k:=k) (by omega) hm (by omega)
  have step:∀ {R:Type} (kn:AS→Option R) (kx:Exit→AS→Option R),bS.L0.R ((m:Int),o,(k:Int)) kn kx=aJ (fX o.1[k] 128) (kx (bS.L0.e7 (((m+dn%128*128^k:Nat):Int),o,((k+1:Nat):Int))).1 (bS.L0.e7 (((m+dn%128*128^k:Nat):Int),o,((k+1:Nat):Int))).2) (kn (bS.L0.st (((m+dn%128*128^k:Nat):Int),o,((k+1:Nat):Int)))):=by
   intro R kn kx
   rw[bS.L0.step,cU.run (d:=((k:Int),o)) (Int.natCast_nonneg k)]
   simp only[aa,cU.add,cU.F,Int.toNat_natCast]
   rw[bz hw,ai,bt (by omega) (by omega),n1,hdn,N.HD (by omega),kM (by omega),N.Iw,N.cN (by omega),g.1,N.j4 (by omega)]
   rfl
  have ef:pN (o.1.drop k) k (m:Int)=if o.1[k] < 128 then .inl (((m+dn%128*128^k:Nat):Int),k+1) else pN (o.1.drop (k+1)) (k+1) ((m+dn%128*128^k:Nat):Int):=by
   have ec:(m:Int)+o.1[k]%128*128^k=((m+dn%128*128^k:Nat):Int):=by rw[hdn,Ac,Int.natCast_add,Int.natCast_mul];rfl
   rw[List.drop_eq_getElem_cons h,pN,if_neg hc,ec]
  by_cases hl:o.1[k] < 128
  ·right
   refine⟨bS.L0.e7 (((m+dn%128*128^k:Nat):Int),o,((k+1:Nat):Int)),?_,fun kn kx=> ?_⟩
   ·simp only[bS.L0.add,bS.L0.F,Int.toNat_natCast,ef,if_pos hl]
    rfl
   ·rw[step,bq hl,ag]
  ·left
   refine⟨(((m+dn%128*128^k:Nat):Int),o,((k+1:Nat):Int)),⟨hr,k+1,_,by omega,rfl,rfl,g.2.1⟩,by simp only[Int.toNat_natCast];omega,?_,fun kn kx=> ?_⟩
   ·simp only[bS.L0.add,bS.L0.F,Int.toNat_natCast,ef,if_neg hl]
   ·rw[step,bg hl,ai]
theorem bS.ok:bS.Ok:=by
 intro o h
 have h:jb o:=h
 rw[bS.eq,bS.L0.run (d:=(0,o,0)) ⟨h,0,0,by decide,rfl,rfl,by decide⟩]
 simp only[aa,bS.L0.add,bS.L0.F,Int.toNat_zero,List.drop_zero,bS.add,bS.F,dv]
 cases hf:pN o.1 0 0 with
 |inl v=>
  have g:=wY o.1 0 0 v h.2 (by decide) (by decide) (by decide) hf
  have e2:cut o.1 v.2 (o.1.length - v.2)=o.1.drop v.2:=by unfold cut;rw[List.take_of_length_le];rw[List.length_drop];omega
  simp only[Sum.isLeft_inr,Sum.getRight?_inr,ai,aa,Int.toNat_natCast]
  rw[kJ (by omega) (by omega),ag,e2]
 |inr _=>rfl
noncomputable def bS.E:=Entry.cq [none] bS.st bS.aC bS.add bS.F bS.out
noncomputable def bS.call:bS.D→Option bS.X:=bT bS.E bS.st
theorem bS.run:bK bS.call bS.aC bS.add bS.F:=dh (de [.d jK] fun _=>by kernel_rfl)
noncomputable def bS.sg:SG Tryz.prog:=⟨184,aY,bS.E,.fn 1 (by kernel_rfl) bS.ok (And.intro (.cq bS.L0.ok (by kernel_rfl)) trivial)⟩
set_option synthInstance.maxSize 5000
theorem Bv{a b:List Int}(ha:Bytes a)(hb:Bytes b):Bytes (a++b):=fun x hx=>by
 rcases List.mem_append.1 hx with h | h
 ·exact ha x h
 ·exact hb x h
structure I8(b:iA):Prop where
 len:b.1.length≤12
 af:xp b.2.1
 dl:xp b.2.2.1
theorem Ag{b:List Int}(h:Bytes b)(hl:b.length≤1000000000)(u:Bool×Unit):jb (b,u):=⟨hl,h⟩
set_option synthInstance.maxSize 5000
def kc:Nat→eW→List Int×eW
 | 0,r=>([],r)
 |k+1,r=>((j2 r).1::(kc k (j2 r).2).1,(kc k (j2 r).2).2)
def nY(k:Nat)(r:eW):iA×eW:=
 (((kc k r).1,(dv (kc k r).2).1,(dv (dv (kc k r).2).2).1,(j2 (dv (dv (kc k r).2).2).2).1,()),(j2 (dv (dv (kc k r).2).2).2).2)
def oa:Nat→Int→eW→List iA
 | 0,_,_=> []
 |f+1,n,r=>if 0 < n then(if f=0∨12 < (dv r).1 then [] else(nY (dv r).1.toNat (dv r).2).1::oa f (n - 1) (nY (dv r).1.toNat (dv r).2).2) else []
def kR(b:List Int):List iA:=oa 5 (dv (b,false,())).1 (dv (b,false,())).2
theorem wP:∀(k:Nat) (r:eW),jb r→nG (kc k r).1∧(kc k r).1.length=k∧jb (kc k r).2
 | 0,r,h=>⟨fun x hx=>(by cases hx),rfl,h⟩
 |k+1,r,h=>by
  have e:=rR h
  have ih:=wP k _ e.2
  refine⟨fun x hx=> ?_,by rw[kc,List.length_cons,ih.2.1],ih.2.2⟩
  rcases List.mem_cons.1 hx with rfl | hx
  ·exact e.1
  ·exact ih.1 x hx
theorem AD(k:Nat)(r:eW)(h:jb r):GX (nY k r).1∧(nY k r).1.1.length=k∧jb (nY k r).2:=by
 have h1:=wP k r h
 have h2:=jm h1.2.2
 have h3:=jm h2.2.2
 have h4:=rR h3.2.2
 exact⟨⟨h1.1,h4.1⟩,h1.2.1,h4.2⟩
theorem CJ:∀(f:Nat) (n:Int) (r:eW),jb r→(∀b∈oa f n r,GX b)∧(oa f n r).length≤f
 | 0,n,r,h=>⟨fun x hx=>(by cases hx),Nat.le_refl _⟩
 |f+1,n,r,h=>by
  have h1:=jm h
  have h2:=AD (dv r).1.toNat _ h1.2.2
  have ih:=CJ f (n - 1) _ h2.2.2
  rw[oa]
  split
  ·split
   ·exact⟨fun x hx=>(by cases hx),Nat.zero_le _⟩
   ·refine⟨fun x hx=> ?_,by rw[List.length_cons];omega⟩
    rcases List.mem_cons.1 hx with rfl | hx
    ·exact h2.1
    ·exact ih.1 x hx
  ·exact⟨fun x hx=>(by cases hx),Nat.zero_le _⟩
theorem A9{b:List Int}(h:Bytes b)(hl:b.length≤1000000000):Cm (kR b,())∧(kR b).length≤5:=by
 have e:=CJ 5 (dv (b,false,())).1 _ (jm (Ag h hl (false,()))).2.2
 exact⟨e.1,e.2⟩
def ph(b:List Int):Lk×Bool:=if jJ (kR b,())=true∧zi (kR b,())=b then((kR b,()),true) else(([],()),false)
theorem DL{b:List Int}(h:(ph b).2=true):∃l:Lk,jJ l=true∧zi l=b∧ph b=(l,true)∧l=(kR b,()):=by
 unfold ph at h ⊢
 split at h
 ·rename_i hc
  exact⟨(kR b,()),hc.1,hc.2,by rw[if_pos hc],rfl⟩
 ·cases h
set_option synthInstance.maxSize 5000
abbrev aS.L0.D:=Bs×Int×Int×Nat×eW×(List iA)
def aS.L0.st:aS.L0.D→AS:=fun(b_2,n,i,n5L,n11,n51)=>⟨([.d tB b_2,.undef,.ptr (.new 2 0) 0 [] 0,.undef,.ptr (.new 11 0) 0 [] 0,.ptr (.new 5 0) 0 [] 0,.d ti n,.d ti i]++ba 57 []),[],([[],[],[.obj 0 false (.pr (.cY) (.d .unit ()))],[],[],[.obj 0 false (.pr (.bI (.new 51 0) 0 [] 0 0 n5L) (.d .unit ()))]]++bE 5 ([[.obj 0 false (.d jK n11)]]++bE 39 ([[.obj 0 false (.vec 29 gG n51)]]++bE 13 [])))⟩
abbrev aS.L0.Y0:=Bs×Nat×(List iA)
abbrev aS.L0.X0:=Bs×Nat×(List iA)
def aS.L0.bj:aS.L0.X0→Exit×AS:=fun x=>(.exit 0,⟨([.d tB x.1,.undef,.ptr (.new 2 0) 0 [] 0,.undef,.undef,.ptr (.new 5 0) 0 [] 0]++ba 59 []),[],([[],[],[.obj 0 false (.pr (.cY) (.d .unit ()))],[],[],[.obj 0 false (.pr (.bI (.new 51 0) 0 [] 0 0 x.2.1) (.d .unit ()))]]++bE 45 ([[.obj 0 false (.vec 29 gG x.2.2)]]++bE 13 []))⟩)
abbrev aS.L0.X:=aS.L0.X0
abbrev aS.L0.Y:=aS.L0.Y0
def aS.L0.out:aS.L0.X→Out (Exit×AS):=fun x=> .ok (aS.L0.bj x)
def aS.L0.add:aS.L0.D→aS.L0.Y→aS.L0.X:=fun(b_2,n,i,n5L,n11,n51) y=>y
abbrev aS.L1.D:=Bs×Int×Int×Int×Int×Nat×Nat×(Int×(Int×(Int×Unit)))×eW×(List Int)×(List iA)
def aS.L1.st:aS.L1.D→AS:=fun(b_3,n_2,i_2,t27,t28,n5L_2,n8L,n8,n11_2,n35,n51_2)=>⟨([.d tB b_3,.undef,.ptr (.new 2 0) 0 [] 0,.undef,.ptr (.new 11 0) 0 [] 0,.ptr (.new 5 0) 0 [] 0,.d ti n_2,.d ti i_2,.ptr (.new 8 0) 0 [] 0]++ba 18 ([.d ti t27,.d ti t28]++ba 36 [])),[],([[],[],[.obj 0 false (.pr (.cY) (.d .unit ()))],[],[],[.obj 0 false (.pr (.bI (.new 51 0) 0 [] 0 0 n5L_2) (.d .unit ()))],[],[],[.obj 0 false (.pr (.bI (.new 35 0) 0 [] 0 0 n8L) (.d (.pair ti (.pair ti (.pair tu .unit))) n8))],[],[],[.obj 0 false (.d jK n11_2)]]++bE 23 ([[.obj 0 false (.vec 25 tu n35)]]++bE 15 ([[.obj 0 false (.vec 29 gG n51_2)]]++bE 13 [])))⟩
abbrev aS.L1.Y0:=Nat×eW×(List Int)
abbrev aS.L1.X0:=(Bs×Int×Int×Nat×(Int×(Int×(Int×Unit)))×(List iA))×(Nat×eW×(List Int))
def aS.L1.bj:aS.L1.X0→Exit×AS:=fun x=>(.exit 2,⟨([.d tB x.1.1,.undef,.ptr (.new 2 0) 0 [] 0,.undef,.ptr (.new 11 0) 0 [] 0,.ptr (.new 5 0) 0 [] 0,.d ti x.1.2.1,.d ti x.1.2.2.1,.ptr (.new 8 0) 0 [] 0]++ba 56 []),[],([[],[],[.obj 0 false (.pr (.cY) (.d .unit ()))],[],[],[.obj 0 false (.pr (.bI (.new 51 0) 0 [] 0 0 x.1.2.2.2.1) (.d .unit ()))],[],[],[.obj 0 false (.pr (.bI (.new 35 0) 0 [] 0 0 x.2.1) (.d (.pair ti (.pair ti (.pair tu .unit))) x.1.2.2.2.2.1))],[],[],[.obj 0 false (.d jK x.2.2.1)]]++bE 23 ([[.obj 0 false (.vec 25 tu x.2.2.2)]]++bE 15 ([[.obj 0 false (.vec 29 gG x.1.2.2.2.2.2)]]++bE 13 [])))⟩)
abbrev aS.L1.X:=aS.L1.X0
abbrev aS.L1.Y:=aS.L1.Y0
def aS.L1.out:aS.L1.X→Out (Exit×AS):=fun x=> .ok (aS.L1.bj x)
def aS.L1.add:aS.L1.D→aS.L1.Y→aS.L1.X:=fun(b_3,n_2,i_2,t27,t28,n5L_2,n8L,n8,n11_2,n35,n51_2) y=>((b_3,n_2,i_2,n5L_2,n8,n51_2),y)
abbrev aS.D:=Bs
def aS.st:aS.D→SA:=fun b=>([.d tB b],[])
abbrev aS.Y:=Lk×Bool
abbrev aS.X:=Lk×Bool
def aS.out:aS.X→bk:=fun x=>⟨.cons (.d o8 x.1) (.cons (.d .bool x.2) (.nil)),[],[]⟩
def aS.add:aS.D→aS.Y→aS.X:=fun b y=>y
def aS.L1.aC:aS.L1.D→Prop:=fun(b,n,i,t,j,m1,m2,x,r,ks,bs)=>jb r∧ks.length=m2∧m2≤1000∧∃k c:Nat,j=k∧t=c∧k≤c∧c≤12∧m2=k
def aS.L1.F:aS.L1.D→aS.L1.Y:=fun(b,n,i,t,j,m1,m2,x,r,ks,bs)=>(m2+(t - j).toNat,(kc (t - j).toNat r).2,ks++(kc (t - j).toNat r).1)
def aS.L0.aC:aS.L0.D→Prop:=fun(b,n,i,m,r,bs)=>jb r∧n≤9223372036854775807∧bs.length=m∧∃k:Nat,i=k∧k≤4∧m=k
def aS.L0.F:aS.L0.D→aS.L0.Y:=fun(b,n,i,m,r,bs)=>(b,m+(oa (5 - i.toNat) (n - i) r).length,bs++oa (5 - i.toNat) (n - i) r)
def aS.aC:aS.D→Prop:=fun b=>Bytes b∧b.length≤1000000000
def aS.F:aS.D→aS.Y:=fun b=>ph b
noncomputable def aS.G:dZ:=fh (P:=Tryz.prog) [dR.sg,bS.sg,ct.sg,aN.sg,aG.sg,cd.sg]
noncomputable def aS.L0.E:=bP.cq aS.L0.st aS.L0.aC aS.L0.add aS.L0.F aS.L0.out
noncomputable def aS.L0.call:aS.L0.D→Option aS.L0.X:=cX aS.L0.E aS.L0.st
noncomputable def aS.L1.E:=bP.cq aS.L1.st aS.L1.aC aS.L1.add aS.L1.F aS.L1.out
noncomputable def aS.L1.call:aS.L1.D→Option aS.L1.X:=cX aS.L1.E aS.L1.st
noncomputable def aS.an:eO:= {loops:=j7 [(5,{bm:=[0,2,4,5,6,7],sites:=[2,5,11,51],ij:=[⟨5,[.fst],51,32⟩]}),(11,{bm:=[0,2,4,5,6,7,8,27,28],sites:=[2,5,8,11,35,51],ij:=[⟨8,[.fst],35,27⟩]})],outs:=j6 [(5,{bm:=[0,2,5],sites:=[2,5,51]},{bm:=[2,3]}),(11,{bm:=[0,2,4,5,6,7,8],sites:=[2,5,8,11,35,51]},{bm:=[2,3]})],fJ:=kW [(5,aS.L0.E),(11,aS.L1.E)],res:=[some o8,none]}
noncomputable def aS.A:= @cZ Tryz.prog aS.G aS.an 0 Tryz.f186 _ aS.st
abbrev aS.Ok:=da @aS.A aS.aC aS.add aS.F aS.out
noncomputable def aS.L0.R:= @bX Tryz.prog aS.G aS.an 0 Tryz.f186 0 _ aS.L0.st
abbrev aS.L0.Ok:=ej Tryz.prog aS.G aS.an 0 Tryz.f186 0 aS.L0.st aS.L0.aC aS.L0.add aS.L0.F aS.L0.out
noncomputable def aS.L1.R:= @bX Tryz.prog aS.G aS.an 0 Tryz.f186 1 _ aS.L1.st
abbrev aS.L1.Ok:=ej Tryz.prog aS.G aS.an 0 Tryz.f186 1 aS.L1.st aS.L1.aC aS.L1.add aS.L1.F aS.L1.out
theorem aS.L0.run:bK aS.L0.call aS.L0.aC aS.L0.add aS.L0.F:=eG (eC [.d tB,.d ti,.d ti,.n,.d jK,.d (.slice gG)] fun _=>by kernel_rfl)
theorem aS.L0.aD:fN @aS.L0.R aS.L0.st aS.L0.aC aS.L0.add aS.L0.F aS.L0.bj aS.L0.Ok:=fU
theorem aS.L0.step{R:Type}(b_2:Bs)(n:Int)(i:Int)(n5L:Nat)(n11:eW)(n51:(List iA))(kn:AS→Option R)(kx:Exit→AS→Option R):aS.L0.R (b_2,n,i,n5L,n11,n51) kn kx=
  aJ ((fX i n)) (
   ah (bS.call n11) fun x22=>
   aJ ((jB i (4:Int))) (
    kx (aS.L0.bj (b_2,n5L,n51)).1 (aS.L0.bj (b_2,n5L,n51)).2) (
    aJ ((mP x22.1 (12:Int))) (
     kx (aS.L0.bj (b_2,n5L,n51)).1 (aS.L0.bj (b_2,n5L,n51)).2) (
     ah (aS.L1.call (b_2,n,i,x22.1,(0:Int),n5L,0,((0:Int),((0:Int),((0:Int),()))),x22.2,([]:List Int),n51)) fun x24=>
     ah (bS.call x24.2.2.1) fun x31=>
     ah (bS.call x31.2) fun x32=>
     ah (ct.call x32.2) fun x36=>
     aJ (decide (0=0∧(0+x24.2.1)≤(List.length x24.2.2.2))) (
     aJ (decide (x24.1.2.2.2.1≤(List.length x24.1.2.2.2.2.2))) (
     aJ (dq (x24.1.2.2.2.1+1) 48) (
     kn (aS.L0.st (x24.1.1,x24.1.2.1,(bN .i64 x24.1.2.2.1 (1:Int)),(x24.1.2.2.2.1+1),x36.2,((List.take x24.1.2.2.2.1 x24.1.2.2.2.2.2)++ [((cut x24.2.2.2 0 x24.2.1),(x31.1,(x32.1,(x36.1,x24.1.2.2.2.2.1.2.2.2))))])))) none) none) none))) (
   kx (aS.L0.bj (b_2,n5L,n51)).1 (aS.L0.bj (b_2,n5L,n51)).2):=by kernel_rfl
theorem aS.L1.run:bK aS.L1.call aS.L1.aC aS.L1.add aS.L1.F:=eG (eC [.d tB,.d ti,.d ti,.d ti,.d ti,.n,.n,.d (.pair ti (.pair ti (.pair tu .unit))),.d jK,.d tU,.d (.slice gG)] fun _=>by kernel_rfl)
theorem aS.L1.aD:fN @aS.L1.R aS.L1.st aS.L1.aC aS.L1.add aS.L1.F aS.L1.bj aS.L1.Ok:=fU
theorem aS.L1.step{R:Type}(b_3:Bs)(n_2:Int)(i_2:Int)(t27:Int)(t28:Int)(n5L_2:Nat)(n8L:Nat)(n8:(Int×(Int×(Int×Unit))))(n11_2:eW)(n35:(List Int))(n51_2:(List iA))(kn:AS→Option R)(kx:Exit→AS→Option R):aS.L1.R (b_3,n_2,i_2,t27,t28,n5L_2,n8L,n8,n11_2,n35,n51_2) kn kx=
  aJ ((fX t28 t27)) (
   ah (ct.call n11_2) fun x4=>
   aJ (decide (n8L≤(List.length n35))) (
   aJ (dq (n8L+1) 8) (
   kn (aS.L1.st (b_3,n_2,i_2,t27,(bN .i64 t28 (1:Int)),n5L_2,(n8L+1),n8,x4.2,((List.take n8L n35)++ [x4.1]),n51_2))) none) none) (
   kx (aS.L1.bj ((b_3,n_2,i_2,n5L_2,n8,n51_2),(n8L,n11_2,n35))).1 (aS.L1.bj ((b_3,n_2,i_2,n5L_2,n8,n51_2),(n8L,n11_2,n35))).2):=by kernel_rfl
theorem aS.eq{R:Type}(b:Bs)(k:bk→Option R):aS.A b k=
  ah (dR.call b) fun x4=>
  ah (bS.call x4) fun x6=>
  ah (aS.L0.call (b,x6.1,(0:Int),0,x6.2,([]:List iA))) fun x96=>
  aJ (decide (0=0∧(0+x96.2.1)≤(List.length x96.2.2))) (
  ah (aN.call ((cut x96.2.2 0 x96.2.1),())) fun x106=>
  aJ ((!x106)) (
   k (aS.out ((([]:List iA),()),false))) (
   aJ (decide (0=0∧(0+x96.2.1)≤(List.length x96.2.2))) (
   ah (aG.call ((cut x96.2.2 0 x96.2.1),())) fun x107=>
   ah (cd.call (x107,x96.1)) fun x108=>
   aJ ((!x108)) (
    k (aS.out ((([]:List iA),()),false))) (
    aJ (decide (0=0∧(0+x96.2.1)≤(List.length x96.2.2))) (
    k (aS.out (((cut x96.2.2 0 x96.2.1),()),true))) none)) none)) none:=by kernel_rfl
theorem aS.L1.ok:aS.L1.Ok:=by
 refine aS.L1.aD (fun(b,n,i,t,j,m1,m2,x,r,ks,bs)=>(t - j).toNat) ?_
 rintro⟨b,n,i,t,j,m1,m2,x,r,ks,bs⟩ ⟨hr,hks,hm,k,c,rfl,rfl,hkc,hc,hmk⟩
 have hr:jb r:=hr
 have hks:ks.length=m2:=hks
 have hmk:m2=k:=hmk
 by_cases h:k < c
 ·left
  have e1:((c:Int) - (k:Int)).toNat=(c - (k+1))+1:=by omega
  have e2:((c:Int) - ((k+1:Nat):Int)).toNat=c - (k+1):=by omega
  refine⟨(b,n,i,(c:Int),((k+1:Nat):Int),m1,m2+1,x,(j2 r).2,ks++ [(j2 r).1],bs),⟨(rR hr).2,by rw[List.length_append];show ks.length+1=_;omega,by omega,k+1,c,rfl,rfl,by omega,hc,by omega⟩,by show((c:Int) - ((k+1:Nat):Int)).toNat < ((c:Int) - (k:Int)).toNat;omega,?_,fun kn kx=> ?_⟩
  ·simp only[aS.L1.add,aS.L1.F,e1,e2,kc,List.append_assoc,List.singleton_append]
   rw[show m2+1+(c - (k+1))=m2+(c - (k+1)+1) by omega]
  ·rw[aS.L1.step,bq (by omega),ct.run (d:=r) hr]
   simp only[aa,ag,ct.add,ct.F]
   rw[aX (by omega),ed (by omega) (by omega),N.j4 (by omega),List.take_of_length_le (by omega)]
   rfl
 ·right
  obtain rfl:k=c:=by omega
  intro R kn kx
  rw[aS.L1.step,bg (by omega),ai]
  simp only[aS.L1.add,aS.L1.F,Int.sub_self,Int.toNat_zero,kc,List.append_nil,Nat.add_zero]
theorem aS.L0.ok:aS.L0.Ok:=by
 refine aS.L0.aD (fun(b,n,i,m,r,bs)=>5 - i.toNat) ?_
 rintro⟨b,n,i,m,r,bs⟩ ⟨hr,hn,hbs,k,rfl,hk,hmk⟩
 have hr:jb r:=hr
 have hn:n≤9223372036854775807:=hn
 have hbs:bs.length=m:=hbs
 have hmk:m=k:=hmk
 have e0:5 - (k:Int).toNat=(4 - k)+1:=by rw[Int.toNat_natCast];omega
 have g1:=jm hr
 by_cases h:(k:Int) < n
 ·have hp:0 < n - (k:Int):=by omega
  by_cases hc:4 - k=0∨12 < (dv r).1
  ·right
   intro R kn kx
   have eb:oa ((4 - k)+1) (n - (k:Int)) r=[]:=by rw[oa,if_pos hp,if_pos hc]
   rw[aS.L0.step,bq h,bS.run (d:=r) hr]
   simp only[aa,ag,bS.add,bS.F,aS.L0.add,aS.L0.F,e0,eb,List.length_nil,Nat.add_zero,List.append_nil]
   by_cases h4:(k:Int)=4
   ·rw[il h4,ag]
   ·rw[iR h4,ai,dy (by omega),ag]
  ·left
   have h4:¬(k:Int)=4:=by omega
   have hkn:¬(dv r).1 > 12:=by omega
   obtain⟨c,hcn⟩:∃c:Nat,(dv r).1=c:=⟨(dv r).1.toNat,by omega⟩
   have hbd:=AD c _ g1.2.2
   have gk:=wP c _ g1.2.2
   have ga:=jm gk.2.2
   have gd:=jm ga.2.2
   have eb:oa ((4 - k)+1) (n - (k:Int)) r=(nY c (dv r).2).1::oa (4 - k) (n - (k:Int) - 1) (nY c (dv r).2).2:=by
    rw[oa,if_pos hp,if_neg hc,hcn,Int.toNat_natCast]
   have e1:5 - ((k+1:Nat):Int).toNat=4 - k:=by rw[Int.toNat_natCast];omega
   refine⟨(b,n,((k+1:Nat):Int),m+1,(nY c (dv r).2).2,bs++ [(nY c (dv r).2).1]),⟨hbd.2.2,hn,by rw[List.length_append];show bs.length+1=_;omega,k+1,rfl,by omega,by omega⟩,by simp only[Int.toNat_natCast];omega,?_,fun kn kx=> ?_⟩
   ·simp only[aS.L0.add,aS.L0.F,e0,e1,eb,List.append_assoc,List.singleton_append,List.length_cons]
    rw[show n - ((k+1:Nat):Int)=n - (k:Int) - 1 by omega,show m+1+(oa (4 - k) (n - (k:Int) - 1) (nY c (dv r).2).2).length=m+((oa (4 - k) (n - (k:Int) - 1) (nY c (dv r).2).2).length+1) by omega]
   ·rw[aS.L0.step,bq h,bS.run (d:=r) hr]
    simp only[aa,ag,bS.add,bS.F]
    rw[iR h4,ai,db hkn,ai,hcn,aS.L1.run (d:=(b,n,(k:Int),(c:Int),0,m,0,(0,0,0,()),(dv r).2,[],bs)) ⟨g1.2.2,rfl,by decide,0,c,rfl,rfl,Nat.zero_le _,by omega,rfl⟩]
    simp only[aa,aS.L1.add,aS.L1.F,Int.sub_zero,Int.toNat_natCast,Nat.zero_add,List.nil_append]
    rw[bS.run (d:=(kc c (dv r).2).2) gk.2.2]
    simp only[aa,bS.add,bS.F]
    rw[bS.run (d:=(dv (kc c (dv r).2).2).2) ga.2.2]
    simp only[aa,bS.add,bS.F]
    rw[ct.run (d:=(dv (dv (kc c (dv r).2).2).2).2) gd.2.2]
    simp only[aa,ct.add,ct.F]
    rw[aX ⟨by trivial,by rw[gk.2.1];exact Nat.le_refl _⟩,aX (by omega),ed (by omega) (by omega),N.j4 (by omega),List.take_of_length_le (by omega),fc gk.2.1]
    rfl
 ·right
  intro R kn kx
  have eb:oa ((4 - k)+1) (n - (k:Int)) r=[]:=by rw[oa,if_neg (by omega)]
  rw[aS.L0.step,bg h,ai]
  simp only[aS.L0.add,aS.L0.F,e0,eb,List.length_nil,Nat.add_zero,List.append_nil]
theorem aS.ok:aS.Ok:=by
 rintro b ⟨hb,hl⟩
 have hb:Bytes b:=hb
 have hl:b.length≤1000000000:=hl
 have g0:=Ag hb hl (false,())
 have g1:=jm g0
 have gu:=A9 hb hl
 rw[aS.eq,dR.run (d:=b) hl]
 simp only[aa,dR.add,dR.F]
 rw[bS.run (d:=(b,false,())) g0]
 simp only[aa,bS.add,bS.F]
 rw[aS.L0.run (d:=(b,(dv (b,false,())).1,0,0,(dv (b,false,())).2,[])) ⟨g1.2.2,g1.2.1,rfl,0,rfl,by decide,rfl⟩]
 simp only[aa,aS.L0.add,aS.L0.F,Int.toNat_zero,Nat.sub_zero,Int.sub_zero,Nat.zero_add,List.nil_append,Nat.le_refl,and_self,decide_true,ag,fc]
 rw[show oa 5 (dv (b,false,())).1 (dv (b,false,())).2=kR b from rfl]
 have hL1:((kR b,()):Lk).1.length≤1000000000:=by show(kR b).length≤_;omega
 rw[aN.run (d:=(kR b,())) ⟨gu.1,Nat.le_trans hL1 (by decide)⟩]
 simp only[aa,aN.add,aN.F,aS.add,aS.F,ph]
 cases hok:jJ (kR b,())
 ·rw[if_neg (by rintro⟨x,_⟩;cases x)];rfl
 ·rw[aG.run (d:=(kR b,())) ⟨gu.1,Nat.le_trans hL1 (by decide)⟩]
  simp only[Bool.not_true,ai,aa,aG.add,aG.F]
  rw[cd.run (d:=(zi (kR b,()),b)) (by show(zi _).length≤_;have:=wQ (kR b,());omega)]
  simp only[aa,cd.add,cd.F]
  by_cases hx:zi (kR b,())=b
  ·rw[aX hx,if_pos ⟨by trivial,hx⟩];rfl
  ·rw[bz hx,if_neg (fun y=>hx y.2)];rfl
noncomputable def aS.E:=Entry.cq [some tB] aS.st aS.aC aS.add aS.F aS.out
noncomputable def aS.call:aS.D→Option aS.X:=bT aS.E aS.st
theorem aS.run:bK aS.call aS.aC aS.add aS.F:=dh (de [.d tB] fun _=>by kernel_rfl)
noncomputable def aS.sg:SG Tryz.prog:=⟨186,aY,aS.E,.fn 2 (by kernel_rfl) aS.ok (And.intro (.cq aS.L0.ok (by kernel_rfl)) (And.intro (.cq aS.L1.ok (by kernel_rfl)) trivial))⟩
set_option synthInstance.maxSize 5000
def qi(r:eW):List Int×eW:=((iC 32 r).1++List.drop (iC 32 r).1.length (List.replicate 32 (0:Int)),(iC 32 r).2)
def px(r:eW):List Int×eW:=if(dv r).2.2.1=true then([],(dv r).2) else iC (dv r).1.toNat (dv r).2
def q9(most:Int)(r:eW):Int×eW:=(if(dv r).1 > most then -1 else(dv r).1,(dv r).2)
def G7(r:eW):cR×eW:=(((qi r).1,(dv (qi r).2).1,()),(dv (qi r).2).2)
def qA:Nat→eW→List cR×eW
 | 0,r=>([],r)
 |k+1,r=>((G7 r).1::(qA k (G7 r).2).1,(qA k (G7 r).2).2)
def w5(r:eW):fu×eW:=(((dv r).1,(ph (px (dv r).2).1).1,()),(px (dv r).2).2)
def pg:Nat→eW→Option (List fu×eW)
 | 0,r=>some ([],r)
 |k+1,r=>if(ph (px (dv r).2).1).2=true then(match pg k (w5 r).2 with
  |some x=>some ((w5 r).1::x.1,x.2)
  |none=>none) else none
def G9(r:eW):Sg×eW:=(((j2 r).1,(j2 (j2 r).2).1,()),(j2 (j2 r).2).2)
def oE:Nat→eW→List Sg×eW
 | 0,r=>([],r)
 |k+1,r=>((G9 r).1::(oE k (G9 r).2).1,(oE k (G9 r).2).2)
def lk(r:eW):List Sg×eW:=oE (q9 12 (dv r).2).1.toNat (q9 12 (dv r).2).2
def Ei(r:eW):Option (oY×eW):=if(q9 12 (dv r).2).1 < 0 then none else some (((dv r).1,(lk r).1,(j2 (lk r).2).1,()),(j2 (lk r).2).2)
def po:List cR→eW→Option (List fZ×eW)
 |[],r=>some ([],r)
 |o::l,r=>match Ei r with
  |none=>none
  |some w=>match po l w.2 with
   |none=>none
   |some x=>some ((o,w.1,())::x.1,x.2)
def Gt:eT×Bool:=(([],[],0,()),false)
def Fw(n m:Int)(t:eT)(r:eW):eT×Bool:=if n < 0∨m < 0∨r.2.1=true∨0 < r.1.length∨gD t=false then Gt else(t,true)
def FF(n m:Int)(ops:List cR)(os:List fu)(r:eW):eT×Bool:=match po ops (dv r).2 with
 |none=>Gt
 |some x=>Fw n m (x.1,os,(dv r).1,()) x.2
def DM(b:List Int):eT×Bool:=
 let n:=q9 64 (b,false,())
 let ops:=qA n.1.toNat n.2
 let m:=q9 64 ops.2
 match pg m.1.toNat m.2 with
 |none=>Gt
 |some x=>FF n.1 m.1 ops.1 x.1 x.2
def I2(o:cR):List Int:=o.1++mg o.2.1
def HK(o:fu):List Int:=mg o.1++(mg (zi o.2.1).length++zi o.2.1)
def IW(s:Sg):List Int:=ik s.1++ik s.2.1
def GW(w:oY):List Int:=mg w.1++(mg w.2.1.length++(w.2.1.flatMap IW++ik w.2.2.1))
def jL(r:eW):Prop:=jb r∧(r.2.1=true→r.1=[])
def Ov(r r':eW)(e:List Int):Prop:=jL r'∧(r'.2.1=false→r.2.1=false∧r.1=e++r'.1)
theorem Ov.trans{r r1 r2:eW}{e1 e2:List Int}(h1:Ov r r1 e1)(h2:Ov r1 r2 e2):Ov r r2 (e1++e2):=
 ⟨h2.1,fun h=>⟨(h1.2 (h2.2 h).1).1,by rw[(h1.2 (h2.2 h).1).2,(h2.2 h).2,List.append_assoc]⟩⟩
theorem Ov.of{r r':eW}{e e':List Int}(h:Ov r r' e)(he:r'.2.1=false→e=e'):Ov r r' e':=⟨h.1,fun h'=>by rw[←he h'];exact h.2 h'⟩
theorem Ov.refl{r:eW}(h:jL r):Ov r r []:=⟨h,fun h'=>⟨h',rfl⟩⟩
theorem EE:jL rX:=⟨wD,fun _=>rfl⟩
theorem xV(r:eW)(e:List Int):Ov r rX e:=⟨EE,fun h=>by cases h⟩
theorem Fa{b:List Int}(hb:Bytes b)(hl:b.length≤1000000000):jL (b,false,()):=⟨Ag hb hl (false,()),fun h=>by cases h⟩
theorem uA{r:eW}(h:jL r)(n:Nat):Ov r (iC n r).2 (iC n r).1∧((iC n r).2.2.1=false→(iC n r).1.length=n):=by
 have hb:=(lJ (n:=n) h.1).2.2
 revert hb
 unfold iC
 split
 ·exact fun _=>⟨xV _ _,fun h=>by cases h⟩
 ·rename_i hc
  intro hb
  have h1:r.2.1=false:=by cases hr:r.2.1 with | false=>rfl | true=>exact absurd (Or.inl hr) hc
  have h2:¬r.1.length < n:=fun x=>hc (Or.inr x)
  exact⟨⟨⟨hb,fun(hx:r.2.1=true)=>by rw[h1]at hx;cases hx⟩,fun _=>⟨h1,(List.take_append_drop n r.1).symm⟩⟩,fun _=>by show(r.1.take n).length=n;rw[List.length_take];omega⟩
theorem uh(f:Nat){d:Int}(h:d < 128):gF f d=([],d):=by
 cases f with
 |zero=>rfl
 |succ f=>rw[gF,if_neg (by omega)]
theorem yG:∀(l:List Int) (a:Nat) (n:Int) (v:Int×Nat),Bytes l→a≤9→pN l a n= .inl v→
  ∃w rest,v.1=n+w*128^a∧0≤w∧(a=0∨0 < w)∧w < 128^(9 - a)∧l=(gF (8 - a) w).1++(gF (8 - a) w).2::rest∧v.2=a+(gF (8 - a) w).1.length+1
 |[],a,n,v,_,_,h=>by cases h
 |d::l,a,n,v,hb,ha,h=>by
  obtain⟨x1,x2⟩:=hb d List.mem_cons_self
  rw[pN]at h
  split at h
  ·cases h
  rename_i hc
  have ha8:a≤8:=by omega
  have e9:(128:Int)^(9 - a)=128^(8 - a)*128:=by rw[show 9 - a=(8 - a)+1 by omega];exact Int.pow_succ 128 (8 - a)
  have p8:(0:Int) < 128^(8 - a):=Int.pow_pos (by decide)
  split at h
  ·rename_i hd
   cases h
   refine⟨d,l,by rw[Int.emod_eq_of_lt x1 hd],x1,by omega,by omega,?_,?_⟩
   ·rw[uh _ hd];rfl
   ·rw[uh _ hd];rfl
  ·rename_i hd
   obtain⟨w,rest,e1,w0,w1,w2,e2,e3⟩:=yG l (a+1) _ v (fun x hx=>hb x (List.mem_cons_of_mem _ hx)) (by omega) h
   have w1:0 < w:=by omega
   rw[show 9 - (a+1)=8 - a by omega]at w2
   have ha7:a≤7:=by
    by_cases h8:a=8
    ·rw[h8]at w2
     have:(128:Int)^(8 - 8)=1:=rfl
     omega
    ·omega
   have er:gF (8 - a) (d%128+128*w)=((d%128+128)::(gF (8 - (a+1)) w).1,(gF (8 - (a+1)) w).2):=by
    rw[show 8 - a=(8 - (a+1))+1 by omega,gF,if_pos (by omega),show(d%128+128*w)%128=d%128 by omega,show(d%128+128*w) / 128=w by omega]
   refine⟨d%128+128*w,rest,?_,by omega,by omega,by omega,?_,?_⟩
   ·rw[e1,Int.pow_succ,Int.add_mul,Int.add_assoc,Int.mul_comm 128 w,Int.mul_assoc w,Int.mul_comm 128]
   ·rw[er,e2,show d%128+128=d by omega];rfl
   ·rw[er,e3];simp only[List.length_cons];omega
theorem jn{r:eW}(h:jL r):Ov r (dv r).2 (mg (dv r).1)∧((dv r).2.2.1=false→xp (dv r).1):=by
 have hk:=jm h.1
 revert hk
 unfold dv
 cases hf:pN r.1 0 0 with
 |inr _=>exact fun _=>⟨xV _ _,fun h=>by cases h⟩
 |inl v=>
  intro hk
  obtain⟨w,rest,e1,w0,_,w2,e2,e3⟩:=yG r.1 0 0 v h.1.2 (by decide) hf
  have h1:r.2.1=false:=by
   cases hr:r.2.1 with
   |false=>rfl
   |true=>rw[h.2 hr]at hf;cases hf
  have ew:v.1=w:=by rw[e1,Int.pow_zero];omega
  have e9:(128:Int)^(9 - 0)=9223372036854775808:=rfl
  have e8:(128:Int)^(8+1)=9223372036854775808:=rfl
  have e10:(128:Int)^(10+1)=151115727451828646838272:=rfl
  have er:gF 10 w=gF 8 w:=rI 10 8 w (by rw[e10];omega) (by rw[e8];omega)
  have en:mg v.1=(gF 8 w).1++ [(gF 8 w).2]:=by rw[ew];unfold mg;rw[er]
  refine⟨⟨⟨hk.2.2,fun(hx:r.2.1=true)=>by rw[h1]at hx;cases hx⟩,fun _=>⟨h1,?_⟩⟩,fun _=>⟨hk.1,hk.2.1⟩⟩
  show r.1=mg v.1++r.1.drop v.2
  rw[en,e3,List.append_assoc]
  conv=>rhs;rw[e2]
  rw[List.append_cons,Nat.zero_add,List.drop_left' (by rw[List.length_append];rfl)]
  exact e2
theorem CF{l:List Int}(h:l.length=8)(hb:Bytes l):ik (sF l)=l:=by
 match l,h with
 |[a,b,c,d,e,f,g,i],_=>
  have h0:=hb a (by simp)
  have h1:=hb b (by simp)
  have h2:=hb c (by simp)
  have h3:=hb d (by simp)
  have h4:=hb e (by simp)
  have h5:=hb f (by simp)
  have h6:=hb g (by simp)
  have h7:=hb i (by simp)
  unfold xo at h0 h1 h2 h3 h4 h5 h6 h7
  unfold ik sF
  simp only[List.foldl_cons,List.foldl_nil]
  congr 1
  ·omega
  congr 1
  ·omega
  congr 1
  ·omega
  congr 1
  ·omega
  congr 1
  ·omega
  congr 1
  ·omega
  congr 1
  ·omega
  congr 1
  omega
theorem oW{r:eW}(h:jL r):Ov r (j2 r).2 (ik (j2 r).1):=by
 have e:=uA h 8
 exact e.1.of fun hk=>(CF (e.2 hk) (lJ h.1).2.1).symm
theorem yg{r:eW}(h:jL r):Ov r (qi r).2 (qi r).1:=by
 have e:=uA h 32
 refine e.1.of fun hk=> ?_
 unfold qi
 simp only[e.2 hk]
 rw[show List.drop 32 (List.replicate 32 (0:Int))=[] from rfl,List.append_nil]
theorem C5{r:eW}(h:jb r):Sm (qi r).1:=by
 have e:=lJ (n:=32) h
 refine⟨?_,Bv e.2.1 fun x hx=> ?_⟩
 ·show((iC 32 r).1++List.drop (iC 32 r).1.length (List.replicate 32 (0:Int))).length=32
  rw[List.length_append,List.length_drop,List.length_replicate]
  have:=e.1
  omega
 ·obtain rfl:=(List.mem_replicate.1 (List.mem_of_mem_drop hx)).2
  exact⟨by decide,by decide⟩
theorem wq{r:eW}(h:jL r):Ov r (px r).2 (mg (px r).1.length++(px r).1)∧Bytes (px r).1∧(px r).1.length≤1000000000:=by
 have e:=jn h
 unfold px
 split
 ·rename_i hc
  exact⟨⟨e.1.1,fun hk=>by rw[hc]at hk;cases hk⟩,fun x hx=>(by cases hx),Nat.zero_le _⟩
 ·rename_i hc
  have hc:(dv r).2.2.1=false:=by simpa using hc
  have t:=uA e.1.1 (dv r).1.toNat
  have tb:=lJ (n:=(dv r).1.toNat) e.1.1.1
  have n0:=(e.2 hc).1
  refine⟨(e.1.trans t.1).of fun hk=> ?_,tb.2.1,?_⟩
  ·rw[t.2 hk,Int.toNat_of_nonneg n0]
  ·have hl:(iC (dv r).1.toNat (dv r).2).1.length≤(dv r).2.1.length:=by
    unfold iC
    split
    ·exact Nat.zero_le _
    ·show((dv r).2.1.take _).length≤_
     rw[List.length_take];omega
   have:=e.1.1.1.1
   omega
theorem GV{r:eW}(h:jL r){m:Int}(h0:0≤(q9 m r).1):Ov r (q9 m r).2 (mg (q9 m r).1)∧(q9 m r).1≤m:=by
 have e:=jn h
 unfold q9 at h0 ⊢
 by_cases hc:(dv r).1 > m
 ·simp only[if_pos hc]at h0
  omega
 ·simp only[if_neg hc]
  exact⟨e.1,by omega⟩
theorem Bi{r:eW}(h:jL r)(m:Int):jL (q9 m r).2:=(jn h).1.1
theorem Bh{r:eW}(h:jb r){m:Int}(hm:0≤m): -1≤(q9 m r).1∧(q9 m r).1≤m:=by
 have:=(jm h).1
 unfold q9
 split
 ·exact⟨by omega,by show(-1:Int)≤m;omega⟩
 ·rename_i hc
  have hc:¬(dv r).1 > m:=hc
  exact⟨by show -1≤(dv r).1;omega,by show(dv r).1≤m;omega⟩
theorem A3:∀(k:Nat) {r:eW},jL r→Ov r (qA k r).2 ((qA k r).1.flatMap I2)∧(qA k r).1.length=k∧∀o∈(qA k r).1,Sm o.1
 | 0,r,h=>⟨Ov.refl h,rfl,fun x hx=>by cases hx⟩
 |k+1,r,h=>by
  have e1:=yg h
  have e2:=jn e1.1
  have ih:=A3 k (r:=(G7 r).2) e2.1.1
  refine⟨?_,by rw[qA,List.length_cons,ih.2.1],fun o ho=> ?_⟩
  ·have:=(e1.trans e2.1).trans ih.1
   rw[qA,List.flatMap_cons]
   exact this
  ·rcases List.mem_cons.1 ho with rfl | ho
   ·exact C5 h.1
   ·exact ih.2.2 o ho
theorem Gx{r:eW}(h:jL r):jL (w5 r).2:=(wq (jn h).1.1).1.1
theorem yL:∀(k:Nat) {r:eW} {x:List fu×eW},jL r→pg k r=some x→Ov r x.2 (x.1.flatMap HK)∧x.1.length=k∧∀o∈x.1,o.1≤9223372036854775807∧jJ o.2.1=true∧FO o.2.1
 | 0,r,x,h,hx=>by
  cases hx
  exact⟨Ov.refl h,rfl,fun x hx=>by cases hx⟩
 |k+1,r,x,h,hx=>by
  rw[pg]at hx
  split at hx
  ·rename_i hr
   split at hx
   ·rename_i y hy
    cases hx
    have e1:=jn h
    have e2:=wq e1.1.1
    have ih:=yL k (Gx h) hy
    obtain⟨l,hl,hlb,he,hle⟩:=DL hr
    have hu:=A9 e2.2.1 e2.2.2
    have el:(w5 r).1.2.1=l:=by show(ph (px (dv r).2).1).1=l;rw[he]
    refine⟨?_,by rw[List.length_cons,ih.2.1],fun o ho=> ?_⟩
    ·have:=(e1.1.trans e2.1).trans ih.1
     rw[List.flatMap_cons]
     unfold HK
     rw[el,hlb]
     exact this
    ·rcases List.mem_cons.1 ho with rfl | ho
     ·refine⟨(jm h.1).2.1,by rw[el];exact hl,?_⟩
      rw[el,hle]
      exact⟨hu.1,by show(kR _).length≤_;omega⟩
     ·exact ih.2.2 o ho
   ·cases hx
  ·cases hx
theorem w8:∀(k:Nat) {r:eW},jL r→Ov r (oE k r).2 ((oE k r).1.flatMap IW)∧(oE k r).1.length=k∧∀s∈(oE k r).1,FP s
 | 0,r,h=>⟨Ov.refl h,rfl,fun x hx=>by cases hx⟩
 |k+1,r,h=>by
  have e1:=oW h
  have e2:=oW e1.1
  have ih:=w8 k (r:=(G9 r).2) e2.1
  refine⟨?_,by rw[oE,List.length_cons,ih.2.1],fun o ho=> ?_⟩
  ·have:=(e1.trans e2).trans ih.1
   rw[oE,List.flatMap_cons]
   exact this
  ·rcases List.mem_cons.1 ho with rfl | ho
   ·exact⟨(rR h.1).1,(rR e1.1.1).1⟩
   ·exact ih.2.2 o ho
theorem Bj{r:eW}(h:jL r):jL (lk r).2∧(lk r).1.length≤12∧∀s∈(lk r).1,FP s:=by
 have e1:=jn h
 have ih:=w8 (q9 12 (dv r).2).1.toNat (Bi e1.1.1 12)
 have:=Bh e1.1.1.1 (m:=12) (by decide)
 exact⟨ih.1.1,by show(oE _ _).1.length≤12;rw[ih.2.1];omega,ih.2.2⟩
theorem Fq{r:eW}{w:oY×eW}(h:jL r)(hw:Ei r=some w):Ov r w.2 (GW w.1)∧we w.1∧w.1.2.1.length≤12:=by
 unfold Ei at hw
 split at hw
 ·cases hw
 ·rename_i hc
  cases hw
  have e1:=jn h
  have hc:0≤(q9 12 (dv r).2).1:=by omega
  have e2:=GV e1.1.1 hc
  have e3:=w8 (q9 12 (dv r).2).1.toNat e2.1.1
  have g:=Bj h
  have e4:=oW g.1
  have hl:((lk r).1.length:Int)=(q9 12 (dv r).2).1:=by
   show((oE _ _).1.length:Int)=_
   rw[e3.2.1];omega
  have:=((e1.1.trans e2.1).trans e3.1).trans e4
  refine⟨this.of fun _=> ?_,⟨g.2.2,(rR g.1.1).1⟩,g.2.1⟩
  unfold GW
  simp only[hl,List.append_assoc]
  rfl
theorem zf:∀(l:List cR) {r:eW} {x:List fZ×eW},jL r→po l r=some x→Ov r x.2 (x.1.flatMap fun y=>GW y.2.1)∧x.1.map (·.1)=l∧∀y∈x.1,we y.2.1∧y.2.1.2.1.length≤12
 |[],r,x,h,hx=>by
  cases hx
  exact⟨Ov.refl h,rfl,fun x hx=>by cases hx⟩
 |o::l,r,x,h,hx=>by
  rw[po]at hx
  split at hx
  ·cases hx
  ·rename_i w hw
   have e:=Fq h hw
   split at hx
   ·cases hx
   ·rename_i y hy
    cases hx
    have ih:=zf l e.1.1 hy
    refine⟨?_,by rw[List.map_cons,ih.2.1],fun z hz=> ?_⟩
    ·have:=e.1.trans ih.1
     rw[List.flatMap_cons]
     exact this
    ·rcases List.mem_cons.1 hz with rfl | hz
     ·exact e.2
     ·exact ih.2.2 z hz
set_option synthInstance.maxSize 5000
def El(o:cR):kG:=(o,(0,none,0,()),())
def H2(x:fZ):kG:=(x.1,(x.2.1.1,some x.2.1.2.1,x.2.1.2.2),())
def IL(x:kG):fZ:=(x.1,(x.2.1.1,x.2.1.2.1.getD [],x.2.1.2.2),())
theorem F2(l:List kG):G5 (.slice jk) (.slice fy) l=l.map IL:=by kernel_rfl
theorem GU(l:List fZ):(l.map H2).map IL=l:=by
 rw[List.map_map]
 have:(IL∘H2)=id:=rfl
 rw[this,List.map_id]
theorem E3{t:Ty}{l:List t.den}{k:Nat}{y:t.den}(h:k < l.length):nth t (l.set k y) k=y:=by simp[nth,h]
theorem E2{t:Ty}{a b:List t.den}{k:Nat}{y:t.den}(h:a.length=k):nth t (a++y::b) k=y:=by subst h;simp[nth]
theorem Ff{α:Type}{a b:List α}{k:Nat}{y z:α}(h:a.length=k):(a++y::b).set k z=a++z::b:=by subst h;simp
theorem Ch{α:Type}{l:List α}{k:Nat}{y:α}:(l.set k y).take k=l.take k:=by rw[List.take_set,List.set_eq_of_length_le (by rw[List.length_take];omega)]
theorem BE{α:Type}{l:List α}{k:Nat}{y:α}:(l.set k y).drop (k+1)=l.drop (k+1):=List.drop_set_of_lt (by omega)
abbrev ez.D:=eW
def ez.st:ez.D→SA:=fun o0=>([.ptr (.dr 0) 0 [] 0],[.obj 0 false (.d jK o0)])
abbrev ez.Y:=Bs×eW
abbrev ez.X:=Bs×eW
def ez.out:ez.X→bk:=fun x=>⟨.d tH x.1,[.obj 0 false (.d jK x.2)],[]⟩
def ez.add:ez.D→ez.Y→ez.X:=fun o0 y=>y
def ez.aC:ez.D→Prop:=fun r=>jb r
def ez.F:ez.D→ez.Y:=fun r=>qi r
noncomputable def ez.G:dZ:=fh (P:=Tryz.prog) [dB.sg]
noncomputable def ez.an:eO:= {}
noncomputable def ez.A:= @cZ Tryz.prog ez.G ez.an 0 Tryz.f185 _ ez.st
abbrev ez.Ok:=da @ez.A ez.aC ez.add ez.F ez.out
theorem ez.eq{R:Type}(o0:eW)(k:bk→Option R):ez.A o0 k=
 ah (dB.call ((32:Int),o0)) fun x1=>
 aJ (decide ((List.length x1.1)≤32)) (
 k (ez.out ((x1.1++(List.drop (List.length x1.1) (List.replicate 32 (0:Int)))),x1.2))) none:=by kernel_rfl
theorem ez.ok:ez.Ok:=by
 intro r h
 have h:jb r:=h
 have e:=(lJ (n:=32) h).1
 rw[ez.eq,dB.run (d:=(32,r)) ⟨by decide,h.1⟩]
 simp only[aa,dB.add,dB.F]
 rw[show Int.toNat 32=32 from rfl,aX e]
 rfl
noncomputable def ez.E:=Entry.cq [none] ez.st ez.aC ez.add ez.F ez.out
noncomputable def ez.call:ez.D→Option ez.X:=bT ez.E ez.st
theorem ez.run:bK ez.call ez.aC ez.add ez.F:=dh (de [.d jK] fun _=>by kernel_rfl)
noncomputable def ez.sg:SG Tryz.prog:=⟨185,aY,ez.E,.fn 0 (by kernel_rfl) ez.ok trivial⟩
abbrev dp.D:=eW
def dp.st:dp.D→SA:=fun o0=>([.ptr (.dr 0) 0 [] 0],[.obj 0 false (.d jK o0)])
abbrev dp.Y:=Bs×eW
abbrev dp.X:=Bs×eW
def dp.out:dp.X→bk:=fun x=>⟨.d tB x.1,[.obj 0 false (.d jK x.2)],[]⟩
def dp.add:dp.D→dp.Y→dp.X:=fun o0 y=>y
def dp.aC:dp.D→Prop:=fun r=>jb r
def dp.F:dp.D→dp.Y:=fun r=>px r
noncomputable def dp.G:dZ:=fh (P:=Tryz.prog) [bS.sg,dB.sg]
noncomputable def dp.an:eO:= {res:=[some tB],uS:=[⟨0,[.arr],jK⟩]}
noncomputable def dp.A:= @cZ Tryz.prog dp.G dp.an 0 Tryz.f187 _ dp.st
abbrev dp.Ok:=da @dp.A dp.aC dp.add dp.F dp.out
theorem dp.eq{R:Type}(o0:eW)(k:bk→Option R):dp.A o0 k=
  ah (bS.call o0) fun x1=>
  aJ (x1.2.2.1) (
   k (dp.out (([]:List Int),x1.2))) (
   ah (dB.call (x1.1,x1.2)) fun x2=>
   k (dp.out (x2.1,x2.2))):=by kernel_rfl
theorem dp.ok:dp.Ok:=by
 intro r h
 have h:jb r:=h
 have e:=jm h
 rw[dp.eq,bS.run (d:=r) h]
 simp only[aa,bS.add,bS.F,dp.add,dp.F,px]
 cases hc:(dv r).2.2.1
 ·rw[ai,dB.run (d:=((dv r).1,(dv r).2)) ⟨e.1,e.2.2.1⟩]
  rfl
 ·rfl
noncomputable def dp.E:=Entry.cq [none] dp.st dp.aC dp.add dp.F dp.out
noncomputable def dp.call:dp.D→Option dp.X:=bT dp.E dp.st
theorem dp.run:bK dp.call dp.aC dp.add dp.F:=dh (de [.d jK] fun _=>by kernel_rfl)
noncomputable def dp.sg:SG Tryz.prog:=⟨187,aY,dp.E,.fn 0 (by kernel_rfl) dp.ok trivial⟩
abbrev dE.D:=Int×eW
def dE.st:dE.D→SA:=fun(most,o1)=>([.d ti most,.ptr (.dr 0) 0 [] 0],[.obj 0 false (.ptr (.dr 1) 0 [] 0),.obj 0 false (.d jK o1)])
abbrev dE.Y:=Int×eW
abbrev dE.X:=Int×eW
def dE.out:dE.X→bk:=fun x=>⟨.d ti x.1,[.obj 0 false (.ptr (.dr 1) 0 [] 0),.obj 0 false (.d jK x.2)],[]⟩
def dE.add:dE.D→dE.Y→dE.X:=fun(most,o1) y=>y
def dE.aC:dE.D→Prop:=fun(m,r)=>jb r
def dE.F:dE.D→dE.Y:=fun(m,r)=>q9 m r
noncomputable def dE.G:dZ:=fh (P:=Tryz.prog) [bS.sg]
noncomputable def dE.an:eO:= {}
noncomputable def dE.A:= @cZ Tryz.prog dE.G dE.an 0 Tryz.f183 _ dE.st
abbrev dE.Ok:=da @dE.A dE.aC dE.add dE.F dE.out
theorem dE.eq{R:Type}(most:Int)(o1:eW)(k:bk→Option R):dE.A (most,o1) k=
  ah (bS.call o1) fun x1=>
  aJ ((mP x1.1 most)) (
   k (dE.out ((-1:Int),x1.2))) (
   k (dE.out (x1.1,x1.2))):=by kernel_rfl
theorem dE.ok:dE.Ok:=by
 rintro⟨m,r⟩ h
 have h:jb r:=h
 rw[dE.eq,bS.run (d:=r) h]
 simp only[aa,bS.add,bS.F,dE.add,dE.F,q9]
 by_cases hc:(dv r).1 > m
 ·rw[dy hc,if_pos hc];rfl
 ·rw[db hc,if_neg hc];rfl
noncomputable def dE.E:=Entry.cq [some ti,none] dE.st dE.aC dE.add dE.F dE.out
noncomputable def dE.call:dE.D→Option dE.X:=bT dE.E dE.st
theorem dE.run:bK dE.call dE.aC dE.add dE.F:=dh (de [.d ti,.d jK] fun _=>by kernel_rfl)
noncomputable def dE.sg:SG Tryz.prog:=⟨183,aY,dE.E,.fn 0 (by kernel_rfl) dE.ok trivial⟩
abbrev aw.L0.D:=Int×Int×Int×(Int×Unit)×Nat×(Int×Unit)×eW×(List kG)
def aw.L0.st:aw.L0.D→AS:=fun(n,t20,t21,n2,n4L,n4,n16,n32)=>⟨([.undef,.undef,.ptr (.new 2 0) 0 [] 0,.undef,.ptr (.new 4 0) 0 [] 0,.ptr (.new 5 0) 0 [] 0,.fn 183 (.cons (.ptr (.new 5 0) 0 [] 0) (.nil)),.d ti n]++ba 12 ([.d ti t20,.d ti t21]++ba 110 [])),[],([[],[],[.obj 0 false (.pr (.cY) (.pr (.cY) (.d (.pair ti .unit) n2)))],[],[.obj 0 false (.pr (.bI (.new 32 0) 0 [] 0 0 n4L) (.pr (.cY) (.d (.pair ti .unit) n4)))],[.obj 0 false (.ptr (.new 16 0) 0 [] 0)]]++bE 10 ([[.obj 0 false (.d jK n16)]]++bE 15 ([[.obj 0 false (.vec 52 jk n32)]]++bE 99 [])))⟩
abbrev aw.L0.Y0:=Nat×eW×(List kG)
abbrev aw.L0.X0:=(Int×(Int×Unit)×(Int×Unit))×(Nat×eW×(List kG))
def aw.L0.bj:aw.L0.X0→Exit×AS:=fun x=>(.exit 0,⟨([.undef,.undef,.ptr (.new 2 0) 0 [] 0,.undef,.ptr (.new 4 0) 0 [] 0,.ptr (.new 5 0) 0 [] 0,.fn 183 (.cons (.ptr (.new 5 0) 0 [] 0) (.nil)),.d ti x.1.1]++ba 124 []),[],([[],[],[.obj 0 false (.pr (.cY) (.pr (.cY) (.d (.pair ti .unit) x.1.2.1)))],[],[.obj 0 false (.pr (.bI (.new 32 0) 0 [] 0 0 x.2.1) (.pr (.cY) (.d (.pair ti .unit) x.1.2.2)))],[.obj 0 false (.ptr (.new 16 0) 0 [] 0)]]++bE 10 ([[.obj 0 false (.d jK x.2.2.1)]]++bE 15 ([[.obj 0 false (.vec 52 jk x.2.2.2)]]++bE 99 [])))⟩)
abbrev aw.L0.X:=aw.L0.X0
abbrev aw.L0.Y:=aw.L0.Y0
def aw.L0.out:aw.L0.X→Out (Exit×AS):=fun x=> .ok (aw.L0.bj x)
def aw.L0.add:aw.L0.D→aw.L0.Y→aw.L0.X:=fun(n,t20,t21,n2,n4L,n4,n16,n32) y=>((n,n2,n4),y)
abbrev aw.L1.D:=Int×Int×Int×Int×(Int×Unit)×Nat×Nat×(Int×Unit)×eW×(List kG)×(List fu)
def aw.L1.st:aw.L1.D→AS:=fun(n_2,m,t37,t38,n2_2,n4L_2,n4L_3,n4_2,n16_2,n32_2,n58)=>⟨([.undef,.undef,.ptr (.new 2 0) 0 [] 0,.undef,.ptr (.new 4 0) 0 [] 0,.ptr (.new 5 0) 0 [] 0,.fn 183 (.cons (.ptr (.new 5 0) 0 [] 0) (.nil)),.d ti n_2,.d ti m]++ba 28 ([.d ti t37,.d ti t38]++ba 93 [])),[],([[],[],[.obj 0 false (.pr (.cY) (.pr (.cY) (.d (.pair ti .unit) n2_2)))],[],[.obj 0 false (.pr (.bI (.new 32 0) 0 [] 0 0 n4L_2) (.pr (.bI (.new 58 0) 0 [] 0 0 n4L_3) (.d (.pair ti .unit) n4_2)))],[.obj 0 false (.ptr (.new 16 0) 0 [] 0)]]++bE 10 ([[.obj 0 false (.d jK n16_2)]]++bE 15 ([[.obj 0 false (.vec 52 jk n32_2)]]++bE 25 ([[.obj 0 false (.vec 36 eN n58)]]++bE 73 []))))⟩
abbrev aw.L1.Y0:=(Int×Unit)
abbrev aw.L1.X0:=(Int×Unit)
def aw.L1.bj:aw.L1.X0→Exit×AS:=fun x=>(.ret,⟨([.undef,.undef,.ptr (.new 2 0) 0 [] 0,.d .bool false]++ba 128 []),[],([[],[],[.obj 0 false (.pr (.cY) (.pr (.cY) (.d (.pair ti .unit) x)))]]++bE 129 [])⟩)
abbrev aw.L1.Y1:=Nat×eW×(List fu)
abbrev aw.L1.X1:=(Int×Int×(Int×Unit)×Nat×(Int×Unit)×(List kG))×(Nat×eW×(List fu))
def aw.L1.e7:aw.L1.X1→Exit×AS:=fun x=>(.exit 2,⟨([.undef,.undef,.ptr (.new 2 0) 0 [] 0,.undef,.ptr (.new 4 0) 0 [] 0,.ptr (.new 5 0) 0 [] 0,.fn 183 (.cons (.ptr (.new 5 0) 0 [] 0) (.nil)),.d ti x.1.1,.d ti x.1.2.1]++ba 123 []),[],([[],[],[.obj 0 false (.pr (.cY) (.pr (.cY) (.d (.pair ti .unit) x.1.2.2.1)))],[],[.obj 0 false (.pr (.bI (.new 32 0) 0 [] 0 0 x.1.2.2.2.1) (.pr (.bI (.new 58 0) 0 [] 0 0 x.2.1) (.d (.pair ti .unit) x.1.2.2.2.2.1)))],[.obj 0 false (.ptr (.new 16 0) 0 [] 0)]]++bE 10 ([[.obj 0 false (.d jK x.2.2.1)]]++bE 15 ([[.obj 0 false (.vec 52 jk x.1.2.2.2.2.2)]]++bE 25 ([[.obj 0 false (.vec 36 eN x.2.2.2)]]++bE 73 []))))⟩)
abbrev aw.L1.X:=(aw.L1.X0)⊕(aw.L1.X1)
abbrev aw.L1.Y:=(aw.L1.Y0)⊕(aw.L1.Y1)
def aw.L1.out:aw.L1.X→Out (Exit×AS):=fun x=> .br x.isLeft (.get x.getLeft? fun a=> .ok (aw.L1.bj a)) (.get x.getRight? fun b=> .ok (aw.L1.e7 b))
def aw.L1.add:aw.L1.D→aw.L1.Y→aw.L1.X:=fun(n_2,m,t37,t38,n2_2,n4L_2,n4L_3,n4_2,n16_2,n32_2,n58) y=>match y with | .inl y=> .inl y | .inr z=> .inr (((n_2,m,n2_2,n4L_2,n4_2,n32_2),z))
abbrev aw.L2.D:=Int×Int×Int×Int×(Int×Unit)×Nat×Nat×(Int×Unit)×eW×(List kG)×(List fu)
def aw.L2.st:aw.L2.D→AS:=fun(n_3,m_2,t66,t67,n2_3,n4L_4,n4L_5,n4_3,n16_3,n32_3,n58_2)=>⟨([.undef,.undef,.ptr (.new 2 0) 0 [] 0,.undef,.ptr (.new 4 0) 0 [] 0,.ptr (.new 5 0) 0 [] 0,.fn 183 (.cons (.ptr (.new 5 0) 0 [] 0) (.nil)),.d ti n_3,.d ti m_2]++ba 57 ([.d ti t66,.d ti t67]++ba 64 [])),[],([[],[],[.obj 0 false (.pr (.cY) (.pr (.cY) (.d (.pair ti .unit) n2_3)))],[],[.obj 0 false (.pr (.bI (.new 32 0) 0 [] 0 0 n4L_4) (.pr (.bI (.new 58 0) 0 [] 0 0 n4L_5) (.d (.pair ti .unit) n4_3)))],[.obj 0 false (.ptr (.new 16 0) 0 [] 0)]]++bE 10 ([[.obj 0 false (.d jK n16_3)]]++bE 15 ([[.obj 0 false (.vec 52 jk n32_3)]]++bE 25 ([[.obj 0 false (.vec 36 eN n58_2)]]++bE 73 []))))⟩
abbrev aw.L2.Y0:=(Int×Unit)
abbrev aw.L2.X0:=(Int×Unit)
def aw.L2.bj:aw.L2.X0→Exit×AS:=fun x=>(.ret,⟨([.undef,.undef,.ptr (.new 2 0) 0 [] 0,.d .bool false]++ba 128 []),[],([[],[],[.obj 0 false (.pr (.cY) (.pr (.cY) (.d (.pair ti .unit) x)))]]++bE 129 [])⟩)
abbrev aw.L2.Y1:=Int×Int×(Int×Unit)×Nat×Nat×(Int×Unit)×eW×(List kG)×(List fu)
abbrev aw.L2.X1:=Int×Int×(Int×Unit)×Nat×Nat×(Int×Unit)×eW×(List kG)×(List fu)
def aw.L2.e7:aw.L2.X1→Exit×AS:=fun x=>(.exit 4,⟨([.undef,.undef,.ptr (.new 2 0) 0 [] 0,.undef,.ptr (.new 4 0) 0 [] 0,.ptr (.new 5 0) 0 [] 0,.undef,.d ti x.1,.d ti x.2.1]++ba 123 []),[],([[],[],[.obj 0 false (.pr (.cY) (.pr (.cY) (.d (.pair ti .unit) x.2.2.1)))],[],[.obj 0 false (.pr (.bI (.new 32 0) 0 [] 0 0 x.2.2.2.1) (.pr (.bI (.new 58 0) 0 [] 0 0 x.2.2.2.2.1) (.d (.pair ti .unit) x.2.2.2.2.2.1)))],[.obj 0 false (.ptr (.new 16 0) 0 [] 0)]]++bE 10 ([[.obj 0 false (.d jK x.2.2.2.2.2.2.1)]]++bE 15 ([[.obj 0 false (.vec 52 jk x.2.2.2.2.2.2.2.1)]]++bE 25 ([[.obj 0 false (.vec 36 eN x.2.2.2.2.2.2.2.2)]]++bE 73 []))))⟩)
abbrev aw.L2.X:=(aw.L2.X0)⊕(aw.L2.X1)
abbrev aw.L2.Y:=(aw.L2.Y0)⊕(aw.L2.Y1)
def aw.L2.out:aw.L2.X→Out (Exit×AS):=fun x=> .br x.isLeft (.get x.getLeft? fun a=> .ok (aw.L2.bj a)) (.get x.getRight? fun b=> .ok (aw.L2.e7 b))
def aw.L2.add:aw.L2.D→aw.L2.Y→aw.L2.X:=fun(n_3,m_2,t66,t67,n2_3,n4L_4,n4L_5,n4_3,n16_3,n32_3,n58_2) y=>match y with | .inl y=> .inl y | .inr z=> .inr (z)
abbrev aw.L3.D:=Int×Int×Int×Int×Int×Int×(Int×Unit)×Nat×Nat×(Int×Unit)×eW×(List kG)×cR×Int×Nat×(Int×Unit)×(List kG)×(List fu)×(List Sg)
def aw.L3.st:aw.L3.D→AS:=fun(n_4,m_3,t66_2,t67_2,t85,t86,n2_4,n4L_6,n4L_7,n4_4,n16_4,n32_4,n32_5,n32_6,n32L,n32_7,n32_8,n58_3,n99)=>⟨([.undef,.undef,.ptr (.new 2 0) 0 [] 0,.undef,.ptr (.new 4 0) 0 [] 0,.ptr (.new 5 0) 0 [] 0,.fn 183 (.cons (.ptr (.new 5 0) 0 [] 0) (.nil)),.d ti n_4,.d ti m_3]++ba 4 ([.ptr (.new 32 0) 0 [.snd,.fst,.snd,.fst] ((0+((Int.toNat t67_2)*36))+33)]++ba 52 ([.d ti t66_2,.d ti t67_2]++ba 17 ([.d ti t85,.d ti t86]++ba 45 [])))),[],([[],[],[.obj 0 false (.pr (.cY) (.pr (.cY) (.d (.pair ti .unit) n2_4)))],[],[.obj 0 false (.pr (.bI (.new 32 0) 0 [] 0 0 n4L_6) (.pr (.bI (.new 58 0) 0 [] 0 0 n4L_7) (.d (.pair ti .unit) n4_4)))],[.obj 0 false (.ptr (.new 16 0) 0 [] 0)]]++bE 10 ([[.obj 0 false (.d jK n16_4)]]++bE 15 ([[.obj 0 false (.bx 52 36 (.pr (.d (.arr (0+(Int.toNat t67_2)) jk) n32_4) (.pr (.pr (.d cj n32_5) (.pr (.pr (.d ti n32_6) (.pr (.bI (.new 99 0) 0 [] 0 0 n32L) (.d (.pair tu .unit) n32_7))) (.d .unit ()))) (.d (.arr (List.length n32_8) jk) n32_8))))]]++bE 25 ([[.obj 0 false (.vec 36 eN n58_3)]]++bE 40 ([[.obj 0 false (.vec 135 nP n99)]]++bE 32 [])))))⟩
abbrev aw.L3.Y0:=eW×(List kG)×(List Sg)
abbrev aw.L3.X0:=(Int×Int×Int×Int×(Int×Unit)×Nat×Nat×(Int×Unit)×(List fu))×(eW×(List kG)×(List Sg))
def aw.L3.bj:aw.L3.X0→Exit×AS:=fun x=>(.exit 6,⟨([.undef,.undef,.ptr (.new 2 0) 0 [] 0,.undef,.ptr (.new 4 0) 0 [] 0,.ptr (.new 5 0) 0 [] 0,.fn 183 (.cons (.ptr (.new 5 0) 0 [] 0) (.nil)),.d ti x.1.1,.d ti x.1.2.1]++ba 4 ([.ptr (.new 32 0) 0 [.idx (0+(Int.toNat x.1.2.2.2.1)),.snd,.fst] ((0+((Int.toNat x.1.2.2.2.1)*36))+33)]++ba 52 ([.d ti x.1.2.2.1,.d ti x.1.2.2.2.1]++ba 64 []))),[],([[],[],[.obj 0 false (.pr (.cY) (.pr (.cY) (.d (.pair ti .unit) x.1.2.2.2.2.1)))],[],[.obj 0 false (.pr (.bI (.new 32 0) 0 [] 0 0 x.1.2.2.2.2.2.1) (.pr (.bI (.new 58 0) 0 [] 0 0 x.1.2.2.2.2.2.2.1) (.d (.pair ti .unit) x.1.2.2.2.2.2.2.2.1)))],[.obj 0 false (.ptr (.new 16 0) 0 [] 0)]]++bE 10 ([[.obj 0 false (.d jK x.2.1)]]++bE 15 ([[.obj 0 false (.vec 52 jk x.2.2.1)]]++bE 25 ([[.obj 0 false (.vec 36 eN x.1.2.2.2.2.2.2.2.2)]]++bE 40 ([[.obj 0 true (.vec 135 nP x.2.2.2)]]++bE 32 [])))))⟩)
abbrev aw.L3.X:=aw.L3.X0
abbrev aw.L3.Y:=aw.L3.Y0
def aw.L3.out:aw.L3.X→Out (Exit×AS):=fun x=> .ok (aw.L3.bj x)
def aw.L3.add:aw.L3.D→aw.L3.Y→aw.L3.X:=fun(n_4,m_3,t66_2,t67_2,t85,t86,n2_4,n4L_6,n4L_7,n4_4,n16_4,n32_4,n32_5,n32_6,n32L,n32_7,n32_8,n58_3,n99) y=>((n_4,m_3,t66_2,t67_2,n2_4,n4L_6,n4L_7,n4_4,n58_3),y)
abbrev aw.D:=Bs
def aw.st:aw.D→SA:=fun b=>([.d tB b],[])
abbrev aw.Y:=eT×Bool
abbrev aw.X:=eT×Bool
def aw.out:aw.X→bk:=fun x=>⟨.cons (.d gf x.1) (.cons (.d .bool x.2) (.nil)),[],[]⟩
def aw.add:aw.D→aw.Y→aw.X:=fun b y=>y
def aw.L0.aC:aw.L0.D→Prop:=fun(n,m,i,u,L,v,r,l)=>jL r∧m≤64∧∃k:Nat,i=k∧k≤64∧L=l.length∧l.length=k
def aw.L0.F:aw.L0.D→aw.L0.Y:=fun(n,m,i,u,L,v,r,l)=>(L+(m - i).toNat,(qA (m - i).toNat r).2,l++(qA (m - i).toNat r).1.map El)
def aw.L1.aC:aw.L1.D→Prop:=fun(n,m1,m,i,u,L,L2,v,r,l,os)=>jL r∧m≤64∧∃k:Nat,i=k∧k≤64∧L2=os.length∧os.length=k
def aw.L1.F:aw.L1.D→aw.L1.Y:=fun(n,m1,m,i,u,L,L2,v,r,l,os)=>match pg (m - i).toNat r with | none=> .inl (0,()) | some x=> .inr (L2+x.1.length,x.2,os++x.1)
def aw.L3.aC:aw.L3.D→Prop:=fun(n,m1,mo,io,m,i,u,L,L2,v,r,la,op,br,Ls,sc,lb,os,sg)=>jL r∧m≤12∧∃k:Nat,i=k∧k≤12∧Ls=sg.length∧sg.length=k
def aw.L3.F:aw.L3.D→aw.L3.Y:=fun(n,m1,mo,io,m,i,u,L,L2,v,r,la,op,br,Ls,sc,lb,os,sg)=>((oE (m - i).toNat r).2,la++(op,(br,some (sg++(oE (m - i).toNat r).1),sc),())::lb,sg++(oE (m - i).toNat r).1)
def aw.L2.aC:aw.L2.D→Prop:=fun(n,m1,m,i,u,L,L2,v,r,l,os)=>jL r∧l.length≤64∧∃k:Nat,i=k∧k≤l.length∧m=l.length∧L=l.length∧∀x∈l.drop k,x=El x.1
def aw.L2.F:aw.L2.D→aw.L2.Y:=fun(n,m1,m,i,u,L,L2,v,r,l,os)=>match po ((l.drop i.toNat).map (·.1)) r with | none=> .inl (0,()) | some x=> .inr (n,m1,u,L,L2,v,x.2,l.take i.toNat++x.1.map H2,os)
def aw.aC:aw.D→Prop:=fun b=>Bytes b∧b.length≤1000000000
def aw.F:aw.D→aw.Y:=fun b=>DM b
noncomputable def aw.G:dZ:=fh (P:=Tryz.prog) [dR.sg,dE.sg,ez.sg,bS.sg,dp.sg,aS.sg,ct.sg,fI.sg,eA.sg,ax.sg]
noncomputable def aw.L0.E:=bP.cq aw.L0.st aw.L0.aC aw.L0.add aw.L0.F aw.L0.out
noncomputable def aw.L0.call:aw.L0.D→Option aw.L0.X:=cX aw.L0.E aw.L0.st
noncomputable def aw.L1.E:=bP.cq aw.L1.st aw.L1.aC aw.L1.add aw.L1.F aw.L1.out
noncomputable def aw.L1.call:aw.L1.D→Option aw.L1.X:=cX aw.L1.E aw.L1.st
noncomputable def aw.L2.E:=bP.cq aw.L2.st aw.L2.aC aw.L2.add aw.L2.F aw.L2.out
noncomputable def aw.L2.call:aw.L2.D→Option aw.L2.X:=cX aw.L2.E aw.L2.st
noncomputable def aw.L3.E:=bP.cq aw.L3.st aw.L3.aC aw.L3.add aw.L3.F aw.L3.out
noncomputable def aw.L3.call:aw.L3.D→Option aw.L3.X:=cX aw.L3.E aw.L3.st
noncomputable def aw.an:eO:= {bO:=[100031,100032],loops:=j7 [(6,{bm:=[2,4,5,6,7,20,21],sites:=[2,4,5,16,32],ij:=[⟨4,[.fst],32,100038⟩]}),(11,{bm:=[2,4,5,6,7,8,37,38],sites:=[2,4,5,16,32,58],ij:=[⟨4,[.snd,.fst],58,37⟩]}),(21,{bm:=[2,4,5,6,7,8,66,67],sites:=[2,4,5,16,32,58]}),(29,{bm:=[2,4,5,6,7,8,13,66,67,85,86],sites:=[2,4,5,16,32,58,99],ij:=[⟨13,[.snd,.fst],99,48⟩],IQ:=[13]})],outs:=j6 [(6,{bm:=[2,4,5,6,7],sites:=[2,4,5,16,32]},{bm:=[2,3]}),(11,{bm:=[2,4,5,6,7,8],sites:=[2,4,5,16,32,58]},{bm:=[2,3],sites:=[2]}),(21,{bm:=[2,4,5,7,8],sites:=[2,4,5,16,32,58]},{bm:=[2,3],sites:=[2]}),(29,{bm:=[2,4,5,6,7,8,13,66,67],sites:=[2,4,5,16,32,58,99],I0:=[13]},{bm:=[2,3]})],fJ:=kW [(6,aw.L0.E),(11,aw.L1.E),(21,aw.L2.E),(29,aw.L3.E)],res:=[some gf,none]}
noncomputable def aw.A:= @cZ Tryz.prog aw.G aw.an 0 Tryz.f126 _ aw.st
abbrev aw.Ok:=da @aw.A aw.aC aw.add aw.F aw.out
noncomputable def aw.L0.R:= @bX Tryz.prog aw.G aw.an 0 Tryz.f126 0 _ aw.L0.st
abbrev aw.L0.Ok:=ej Tryz.prog aw.G aw.an 0 Tryz.f126 0 aw.L0.st aw.L0.aC aw.L0.add aw.L0.F aw.L0.out
noncomputable def aw.L1.R:= @bX Tryz.prog aw.G aw.an 0 Tryz.f126 1 _ aw.L1.st
abbrev aw.L1.Ok:=ej Tryz.prog aw.G aw.an 0 Tryz.f126 1 aw.L1.st aw.L1.aC aw.L1.add aw.L1.F aw.L1.out
noncomputable def aw.L2.R:= @bX Tryz.prog aw.G aw.an 0 Tryz.f126 2 _ aw.L2.st
abbrev aw.L2.Ok:=ej Tryz.prog aw.G aw.an 0 Tryz.f126 2 aw.L2.st aw.L2.aC aw.L2.add aw.L2.F aw.L2.out
noncomputable def aw.L3.R:= @bX Tryz.prog aw.G aw.an 0 Tryz.f126 3 _ aw.L3.st
abbrev aw.L3.Ok:=ej Tryz.prog aw.G aw.an 0 Tryz.f126 3 aw.L3.st aw.L3.aC aw.L3.add aw.L3.F aw.L3.out
theorem aw.L0.run:bK aw.L0.call aw.L0.aC aw.L0.add aw.L0.F:=eG (eC [.d ti,.d ti,.d ti,.d (.pair ti .unit),.n,.d (.pair ti .unit),.d jK,.d (.slice jk)] fun _=>by kernel_rfl)
theorem aw.L0.aD:fN @aw.L0.R aw.L0.st aw.L0.aC aw.L0.add aw.L0.F aw.L0.bj aw.L0.Ok:=fU
theorem aw.L0.step{R:Type}(n:Int)(t20:Int)(t21:Int)(n2:(Int×Unit))(n4L:Nat)(n4:(Int×Unit))(n16:eW)(n32:(List kG))(kn:AS→Option R)(kx:Exit→AS→Option R):aw.L0.R (n,t20,t21,n2,n4L,n4,n16,n32) kn kx=
  aJ ((fX t21 t20)) (
   ah (ez.call n16) fun x7=>
   ah (bS.call x7.2) fun x8=>
   aJ (decide (n4L≤(List.length n32))) (
   aJ (dq (n4L+1) 80) (
   kn (aw.L0.st (n,t20,(bN .i64 t21 (1:Int)),n2,(n4L+1),n4,x8.2,((List.take n4L n32)++ [((x7.1,(x8.1,())),(((0:Int),(none,((0:Int),()))),()))])))) none) none) (
   kx (aw.L0.bj ((n,n2,n4),(n4L,n16,n32))).1 (aw.L0.bj ((n,n2,n4),(n4L,n16,n32))).2):=by kernel_rfl
theorem aw.L1.run:bK aw.L1.call aw.L1.aC aw.L1.add aw.L1.F:=eG (eC [.d ti,.d ti,.d ti,.d ti,.d (.pair ti .unit),.n,.n,.d (.pair ti .unit),.d jK,.d (.slice jk),.d (.slice eN)] fun _=>by kernel_rfl)
theorem aw.L1.aD:j5 @aw.L1.R aw.L1.st aw.L1.aC aw.L1.add aw.L1.F aw.L1.out aw.L1.Ok:=kf
theorem aw.L1.step{R:Type}(n_2:Int)(m:Int)(t37:Int)(t38:Int)(n2_2:(Int×Unit))(n4L_2:Nat)(n4L_3:Nat)(n4_2:(Int×Unit))(n16_2:eW)(n32_2:(List kG))(n58:(List fu))(kn:AS→Option R)(kx:Exit→AS→Option R):aw.L1.R (n_2,m,t37,t38,n2_2,n4L_2,n4L_3,n4_2,n16_2,n32_2,n58) kn kx=
  aJ ((fX t38 t37)) (
   ah (bS.call n16_2) fun x16=>
   ah (dp.call x16.2) fun x23=>
   ah (aS.call x23.1) fun x24=>
   aJ ((!x24.2)) (
    kx (aw.L1.bj ((0:Int),())).1 (aw.L1.bj ((0:Int),())).2) (
    aJ (decide (n4L_3≤(List.length n58))) (
    aJ (dq (n4L_3+1) 32) (
    kn (aw.L1.st (n_2,m,t37,(bN .i64 t38 (1:Int)),n2_2,n4L_2,(n4L_3+1),n4_2,x23.2,n32_2,((List.take n4L_3 n58)++ [(x16.1,(x24.1,()))])))) none) none)) (
   kx (aw.L1.e7 ((n_2,m,n2_2,n4L_2,n4_2,n32_2),(n4L_3,n16_2,n58))).1 (aw.L1.e7 ((n_2,m,n2_2,n4L_2,n4_2,n32_2),(n4L_3,n16_2,n58))).2):=by kernel_rfl
theorem aw.L2.run:bK aw.L2.call aw.L2.aC aw.L2.add aw.L2.F:=eG (eC [.d ti,.d ti,.d ti,.d ti,.d (.pair ti .unit),.n,.n,.d (.pair ti .unit),.d jK,.d (.slice jk),.d (.slice eN)] fun _=>by kernel_rfl)
theorem aw.L2.aD:j5 @aw.L2.R aw.L2.st aw.L2.aC aw.L2.add aw.L2.F aw.L2.out aw.L2.Ok:=kf
theorem aw.L2.step{R:Type}(n_3:Int)(m_2:Int)(t66:Int)(t67:Int)(n2_3:(Int×Unit))(n4L_4:Nat)(n4L_5:Nat)(n4_3:(Int×Unit))(n16_3:eW)(n32_3:(List kG))(n58_2:(List fu))(kn:AS→Option R)(kx:Exit→AS→Option R):aw.L2.R (n_3,m_2,t66,t67,n2_3,n4L_4,n4L_5,n4_3,n16_3,n32_3,n58_2) kn kx=
  aJ ((fX t67 t66)) (
   aJ (eJ t67 ((n4L_4:Nat):Int)) (
   ah (bS.call n16_3) fun x16=>
   aJ (decide ((0+(Int.toNat t67)) < (List.length n32_3))) (
   aJ (decide ((((0+(Int.toNat t67))*36)+33)=(((0+((Int.toNat t67)*36))+33)+0))) (
   aJ (decide ((0+(Int.toNat t67)) < (List.length n32_3))) (
   ah (dE.call ((12:Int),x16.2)) fun x20=>
   aJ ((fX x20.1 (0:Int))) (
    kx (aw.L2.bj ((0:Int),())).1 (aw.L2.bj ((0:Int),())).2) (
    aJ (decide ((0+(Int.toNat t67)) < (List.length (List.set n32_3 (0+(Int.toNat t67)) ((nth jk n32_3 (0+(Int.toNat t67))).1,((x16.1,(nth jk n32_3 (0+(Int.toNat t67))).2.1.2),(nth jk n32_3 (0+(Int.toNat t67))).2.2)))))) (
    aJ ((Option.isNone (nth jk (List.set n32_3 (0+(Int.toNat t67)) ((nth jk n32_3 (0+(Int.toNat t67))).1,((x16.1,(nth jk n32_3 (0+(Int.toNat t67))).2.1.2),(nth jk n32_3 (0+(Int.toNat t67))).2.2))) (0+(Int.toNat t67))).2.1.2.1)) (
    ah (aw.L3.call (n_3,m_2,t66,t67,x20.1,(0:Int),n2_3,n4L_4,n4L_5,n4_3,x20.2,(List.take (0+(Int.toNat t67)) (List.set n32_3 (0+(Int.toNat t67)) ((nth jk n32_3 (0+(Int.toNat t67))).1,((x16.1,(nth jk n32_3 (0+(Int.toNat t67))).2.1.2),(nth jk n32_3 (0+(Int.toNat t67))).2.2)))),((nth jk (List.set n32_3 (0+(Int.toNat t67)) ((nth jk n32_3 (0+(Int.toNat t67))).1,((x16.1,(nth jk n32_3 (0+(Int.toNat t67))).2.1.2),(nth jk n32_3 (0+(Int.toNat t67))).2.2))) (0+(Int.toNat t67))).1.1,((nth jk (List.set n32_3 (0+(Int.toNat t67)) ((nth jk n32_3 (0+(Int.toNat t67))).1,((x16.1,(nth jk n32_3 (0+(Int.toNat t67))).2.1.2),(nth jk n32_3 (0+(Int.toNat t67))).2.2))) (0+(Int.toNat t67))).1.2.1,(nth jk (List.set n32_3 (0+(Int.toNat t67)) ((nth jk n32_3 (0+(Int.toNat t67))).1,((x16.1,(nth jk n32_3 (0+(Int.toNat t67))).2.1.2),(nth jk n32_3 (0+(Int.toNat t67))).2.2))) (0+(Int.toNat t67))).1.2.2)),(nth jk (List.set n32_3 (0+(Int.toNat t67)) ((nth jk n32_3 (0+(Int.toNat t67))).1,((x16.1,(nth jk n32_3 (0+(Int.toNat t67))).2.1.2),(nth jk n32_3 (0+(Int.toNat t67))).2.2))) (0+(Int.toNat t67))).2.1.1,0,((nth jk (List.set n32_3 (0+(Int.toNat t67)) ((nth jk n32_3 (0+(Int.toNat t67))).1,((x16.1,(nth jk n32_3 (0+(Int.toNat t67))).2.1.2),(nth jk n32_3 (0+(Int.toNat t67))).2.2))) (0+(Int.toNat t67))).2.1.2.2.1,(nth jk (List.set n32_3 (0+(Int.toNat t67)) ((nth jk n32_3 (0+(Int.toNat t67))).1,((x16.1,(nth jk n32_3 (0+(Int.toNat t67))).2.1.2),(nth jk n32_3 (0+(Int.toNat t67))).2.2))) (0+(Int.toNat t67))).2.1.2.2.2),(List.drop ((0+(Int.toNat t67))+1) (List.set n32_3 (0+(Int.toNat t67)) ((nth jk n32_3 (0+(Int.toNat t67))).1,((x16.1,(nth jk n32_3 (0+(Int.toNat t67))).2.1.2),(nth jk n32_3 (0+(Int.toNat t67))).2.2)))),n58_2,([]:List Sg))) fun x22=>
    ah (ct.call x22.2.1) fun x24=>
    aJ (decide ((0+(Int.toNat x22.1.2.2.2.1)) < (List.length x22.2.2.1))) (
    aJ (decide ((((0+(Int.toNat x22.1.2.2.2.1))*36)+35)=(((0+((Int.toNat x22.1.2.2.2.1)*36))+33)+2))) (
    aJ (decide ((0+(Int.toNat x22.1.2.2.2.1)) < (List.length x22.2.2.1))) (
    kn (aw.L2.st (x22.1.1,x22.1.2.1,x22.1.2.2.1,(bN .i64 x22.1.2.2.2.1 (1:Int)),x22.1.2.2.2.2.1,x22.1.2.2.2.2.2.1,x22.1.2.2.2.2.2.2.1,x22.1.2.2.2.2.2.2.2.1,x24.2,(List.set x22.2.2.1 (0+(Int.toNat x22.1.2.2.2.1)) ((nth jk x22.2.2.1 (0+(Int.toNat x22.1.2.2.2.1))).1,(((nth jk x22.2.2.1 (0+(Int.toNat x22.1.2.2.2.1))).2.1.1,((nth jk x22.2.2.1 (0+(Int.toNat x22.1.2.2.2.1))).2.1.2.1,(x24.1,(nth jk x22.2.2.1 (0+(Int.toNat x22.1.2.2.2.1))).2.1.2.2.2))),(nth jk x22.2.2.1 (0+(Int.toNat x22.1.2.2.2.1))).2.2))),x22.1.2.2.2.2.2.2.2.2))) none) none) none) none) none)) none) none) none) none) (
   kx (aw.L2.e7 (n_3,m_2,n2_3,n4L_4,n4L_5,n4_3,n16_3,n32_3,n58_2)).1 (aw.L2.e7 (n_3,m_2,n2_3,n4L_4,n4L_5,n4_3,n16_3,n32_3,n58_2)).2):=by kernel_rfl
theorem aw.L3.run:bK aw.L3.call aw.L3.aC aw.L3.add aw.L3.F:=eG (eC [.d ti,.d ti,.d ti,.d ti,.d ti,.d ti,.d (.pair ti .unit),.n,.n,.d (.pair ti .unit),.d jK,.d (.slice jk),.d cj,.d ti,.n,.d (.pair tu .unit),.d (.slice jk),.d (.slice eN),.d (.slice nP)] fun _=>by kernel_rfl)
theorem aw.L3.aD:fN @aw.L3.R aw.L3.st aw.L3.aC aw.L3.add aw.L3.F aw.L3.bj aw.L3.Ok:=fU
theorem aw.L3.step{R:Type}(n_4:Int)(m_3:Int)(t66_2:Int)(t67_2:Int)(t85:Int)(t86:Int)(n2_4:(Int×Unit))(n4L_6:Nat)(n4L_7:Nat)(n4_4:(Int×Unit))(n16_4:eW)(n32_4:(List kG))(n32_5:cR)(n32_6:Int)(n32L:Nat)(n32_7:(Int×Unit))(n32_8:(List kG))(n58_3:(List fu))(n99:(List Sg))(kn:AS→Option R)(kx:Exit→AS→Option R):aw.L3.R (n_4,m_3,t66_2,t67_2,t85,t86,n2_4,n4L_6,n4L_7,n4_4,n16_4,n32_4,n32_5,n32_6,n32L,n32_7,n32_8,n58_3,n99) kn kx=
  aJ ((fX t86 t85)) (
   aJ (decide ((((0+(Int.toNat t67_2))*36)+34)=(((0+((Int.toNat t67_2)*36))+33)+1))) (
   ah (ct.call n16_4) fun x7=>
   ah (ct.call x7.2) fun x8=>
   aJ (decide (n32L≤(List.length n99))) (
   aJ (dq (n32L+1) 16) (
   aJ (decide ((((0+(Int.toNat t67_2))*36)+34)=(((0+((Int.toNat t67_2)*36))+33)+1))) (
   kn (aw.L3.st (n_4,m_3,t66_2,t67_2,t85,(bN .i64 t86 (1:Int)),n2_4,n4L_6,n4L_7,n4_4,x8.2,n32_4,n32_5,n32_6,(n32L+1),n32_7,n32_8,n58_3,((List.take n32L n99)++ [(x7.1,(x8.1,()))])))) none) none) none) none) (
   aJ (decide (0=0∧(0+n32L)≤(List.length n99))) (
   kx (aw.L3.bj ((n_4,m_3,t66_2,t67_2,n2_4,n4L_6,n4L_7,n4_4,n58_3),(n16_4,(n32_4++(n32_5,((n32_6,((some (cut n99 0 n32L)),n32_7)),()))::n32_8),n99))).1 (aw.L3.bj ((n_4,m_3,t66_2,t67_2,n2_4,n4L_6,n4L_7,n4_4,n58_3),(n16_4,(n32_4++(n32_5,((n32_6,((some (cut n99 0 n32L)),n32_7)),()))::n32_8),n99))).2) none):=by kernel_rfl
theorem aw.eq{R:Type}(b:Bs)(k:bk→Option R):aw.A b k=
  ah (dR.call b) fun x4=>
  ah (dE.call ((64:Int),x4)) fun x8=>
  ah (aw.L0.call (x8.1,x8.1,(0:Int),((0:Int),()),0,((0:Int),()),x8.2,([]:List kG))) fun x26=>
  ah (dE.call ((64:Int),x26.2.2.1)) fun x30=>
  ah (aw.L1.call (x26.1.1,x30.1,x30.1,(0:Int),x26.1.2.1,x26.2.1,0,x26.1.2.2,x30.2,x26.2.2.2,([]:List fu))) fun x82=>
  aJ (x82.isLeft) (
   ah (x82.getLeft?) fun a83=>
   k (aw.out ((([]:List fZ),(([]:List fu),a83)),false))) (
   ah (x82.getRight?) fun b84=>
   ah (bS.call b84.2.2.1) fun x88=>
   ah (aw.L2.call (b84.1.1,b84.1.2.1,((b84.1.2.2.2.1:Nat):Int),(0:Int),b84.1.2.2.1,b84.1.2.2.2.1,b84.2.1,(x88.1,b84.1.2.2.2.2.1.2),x88.2,b84.1.2.2.2.2.2,b84.2.2.2)) fun x124=>
   aJ (x124.isLeft) (
    ah (x124.getLeft?) fun a125=>
    k (aw.out ((([]:List fZ),(([]:List fu),a125)),false))) (
    ah (x124.getRight?) fun b126=>
    aJ ((fX b126.1 (0:Int))) (
     k (aw.out ((([]:List fZ),(([]:List fu),((0:Int),()))),false))) (
     aJ ((fX b126.2.1 (0:Int))) (
      k (aw.out ((([]:List fZ),(([]:List fu),((0:Int),()))),false))) (
      ah (fI.call b126.2.2.2.2.2.2.1) fun x136=>
      aJ ((!x136.2)) (
       k (aw.out ((([]:List fZ),(([]:List fu),((0:Int),()))),false))) (
       ah (eA.call x136.1) fun x137=>
       aJ ((mP x137.2 (0:Int))) (
        k (aw.out ((([]:List fZ),(([]:List fu),((0:Int),()))),false))) (
        aJ (decide (0=0∧(0+b126.2.2.2.1)≤(List.length b126.2.2.2.2.2.2.2.1))) (
        aJ (decide (0=0∧(0+b126.2.2.2.2.1)≤(List.length b126.2.2.2.2.2.2.2.2))) (
        ah (ax.call ((G5 (.slice jk) (.slice fy) (cut b126.2.2.2.2.2.2.2.1 0 b126.2.2.2.1)),((cut b126.2.2.2.2.2.2.2.2 0 b126.2.2.2.2.1),b126.2.2.2.2.2.1))) fun x138=>
        aJ ((!x138)) (
         k (aw.out ((([]:List fZ),(([]:List fu),((0:Int),()))),false))) (
         aJ (decide (0=0∧(0+b126.2.2.2.1)≤(List.length b126.2.2.2.2.2.2.2.1))) (
         aJ (decide (0=0∧(0+b126.2.2.2.2.1)≤(List.length b126.2.2.2.2.2.2.2.2))) (
         k (aw.out (((G5 (.slice jk) (.slice fy) (cut b126.2.2.2.2.2.2.2.1 0 b126.2.2.2.1)),((cut b126.2.2.2.2.2.2.2.2 0 b126.2.2.2.2.1),b126.2.2.2.2.2.1)),true))) none) none)) none) none)))))):=by kernel_rfl
theorem aw.L0.ok:aw.L0.Ok:=by
 refine aw.L0.aD (fun(n,m,i,u,L,v,r,l)=>(m - i).toNat) ?_
 rintro⟨n,m,i,u,L,v,r,l⟩ ⟨hr,hm,k,rfl,hk,rfl,hlk⟩
 have hr:jL r:=hr
 have hm:m≤64:=hm
 have hlk:l.length=k:=hlk
 by_cases h:(k:Int) < m
 ·left
  have e1:(m - (k:Int)).toNat=(m - ((k+1:Nat):Int)).toNat+1:=by omega
  have h1:=yg hr
  refine⟨(n,m,((k+1:Nat):Int),u,l.length+1,v,(G7 r).2,l++ [El (G7 r).1]),⟨(jn h1.1).1.1,hm,k+1,rfl,by omega,by rw[List.length_append];rfl,by rw[List.length_append];show l.length+1=_;omega⟩,by show(m - ((k+1:Nat):Int)).toNat < (m - (k:Int)).toNat;omega,?_,fun kn kx=> ?_⟩
  ·simp only[aw.L0.add,aw.L0.F,e1,qA,List.map_cons,List.append_assoc,List.singleton_append]
   rw[show ∀a c:Nat,a+1+c=a+(c+1) from fun a c=>by omega]
  ·rw[aw.L0.step,bq h,ez.run (d:=r) hr.1]
   simp only[ag,aa,ez.add,ez.F]
   rw[bS.run (d:=(qi r).2) h1.1.1]
   simp only[aa,bS.add,bS.F]
   rw[aX (Nat.le_refl _),ed (by omega) (by omega),N.j4 (by omega),List.take_length]
   rfl
 ·right
  intro R kn kx
  have e1:(m - (k:Int)).toNat=0:=by omega
  rw[aw.L0.step,bg h,ai]
  simp only[aw.L0.add,aw.L0.F,e1,qA,List.map_nil,List.append_nil,Nat.add_zero]
theorem aw.L1.ok:aw.L1.Ok:=by
 refine aw.L1.aD (fun(n,m1,m,i,u,L,L2,v,r,l,os)=>(m - i).toNat) ?_
 rintro⟨n,m1,m,i,u,L,L2,v,r,l,os⟩ ⟨hr,hm,k,rfl,hk,rfl,hlk⟩
 have hr:jL r:=hr
 have hm:m≤64:=hm
 have hlk:os.length=k:=hlk
 by_cases h:(k:Int) < m
 ·have e1:(m - (k:Int)).toNat=(m - ((k+1:Nat):Int)).toNat+1:=by omega
  have h1:=jn hr
  have h2:=wq h1.1.1
  have step:∀ {R:Type} (kn:AS→Option R) (kx:Exit→AS→Option R),aw.L1.R (n,m1,m,(k:Int),u,L,os.length,v,r,l,os) kn kx=aJ (!(ph (px (dv r).2).1).2) (kx (aw.L1.bj (0,())).1 (aw.L1.bj (0,())).2) (kn (aw.L1.st (n,m1,m,((k+1:Nat):Int),u,L,os.length+1,v,(w5 r).2,l,os++ [(w5 r).1]))):=by
   intro R kn kx
   rw[aw.L1.step,bq h,bS.run (d:=r) hr.1]
   simp only[ag,aa,bS.add,bS.F]
   rw[dp.run (d:=(dv r).2) h1.1.1.1]
   simp only[aa,dp.add,dp.F]
   rw[aS.run (d:=(px (dv r).2).1) ⟨h2.2.1,h2.2.2⟩]
   simp only[aa,aS.add,aS.F]
   rw[aX (Nat.le_refl _),ed (by omega) (by omega),N.j4 (by omega),List.take_length]
   rfl
  cases hp:(ph (px (dv r).2).1).2
  ·right
   refine⟨aw.L1.bj (0,()),?_,fun kn kx=> ?_⟩
   ·simp only[aw.L1.add,aw.L1.F,e1,pg,hp,Bool.false_eq_true,if_false]
    rfl
   ·rw[step,hp];rfl
  ·left
   refine⟨(n,m1,m,((k+1:Nat):Int),u,L,os.length+1,v,(w5 r).2,l,os++ [(w5 r).1]),⟨h2.1.1,hm,k+1,rfl,by omega,by rw[List.length_append];rfl,by rw[List.length_append];show os.length+1=_;omega⟩,by show(m - ((k+1:Nat):Int)).toNat < (m - (k:Int)).toNat;omega,?_,fun kn kx=> ?_⟩
   ·simp only[aw.L1.add,aw.L1.F,e1,pg,hp,if_true]
    cases pg (m - ((k+1:Nat):Int)).toNat (w5 r).2 with
    |none=>rfl
    |some x=>
     simp only[List.length_cons,List.append_assoc,List.singleton_append]
     rw[show ∀a c:Nat,a+1+c=a+(c+1) from fun a c=>by omega]
   ·rw[step,hp];rfl
 ·right
  have e1:(m - (k:Int)).toNat=0:=by omega
  refine⟨aw.L1.e7 ((n,m1,u,L,v,l),(os.length,r,os)),?_,fun kn kx=> ?_⟩
  ·simp only[aw.L1.add,aw.L1.F,e1,pg,List.length_nil,Nat.add_zero,List.append_nil]
   rfl
  ·rw[aw.L1.step,bg h,ai]
theorem aw.L3.ok:aw.L3.Ok:=by
 refine aw.L3.aD (fun(n,m1,mo,io,m,i,u,L,L2,v,r,la,op,br,Ls,sc,lb,os,sg)=>(m - i).toNat) ?_
 rintro⟨n,m1,mo,io,m,i,u,L,L2,v,r,la,op,br,Ls,sc,lb,os,sg⟩ ⟨hr,hm,k,rfl,hk,rfl,hlk⟩
 have hr:jL r:=hr
 have hm:m≤12:=hm
 have hlk:sg.length=k:=hlk
 by_cases h:(k:Int) < m
 ·left
  have e1:(m - (k:Int)).toNat=(m - ((k+1:Nat):Int)).toNat+1:=by omega
  have h1:=oW hr
  have h2:=oW h1.1
  refine⟨(n,m1,mo,io,m,((k+1:Nat):Int),u,L,L2,v,(G9 r).2,la,op,br,sg.length+1,sc,lb,os,sg++ [(G9 r).1]),⟨h2.1,hm,k+1,rfl,by omega,by rw[List.length_append];rfl,by rw[List.length_append];show sg.length+1=_;omega⟩,by show(m - ((k+1:Nat):Int)).toNat < (m - (k:Int)).toNat;omega,?_,fun kn kx=> ?_⟩
  ·simp only[aw.L3.add,aw.L3.F,e1,oE,List.append_assoc,List.singleton_append]
  ·rw[aw.L3.step,bq h,aX (by omega),ct.run (d:=r) hr.1]
   simp only[ag,aa,ct.add,ct.F]
   rw[ct.run (d:=(j2 r).2) h1.1.1]
   simp only[aa,ct.add,ct.F]
   rw[aX (Nat.le_refl _),ed (by omega) (by omega),N.j4 (by omega),List.take_length]
   rfl
 ·right
  intro R kn kx
  have e1:(m - (k:Int)).toNat=0:=by omega
  rw[aw.L3.step,bg h,ai]
  simp only[aw.L3.add,aw.L3.F,e1,oE,List.append_nil,Nat.zero_add,Nat.le_refl,and_self,decide_true,ag,fc]
theorem aw.L2.ok:aw.L2.Ok:=by
 refine aw.L2.aD (fun(n,m1,m,i,u,L,L2,v,r,l,os)=>l.length - i.toNat) ?_
 rintro⟨n,m1,m,i,u,L,L2,v,r,l,os⟩ ⟨hr,hl,k,rfl,hk,rfl,rfl,hg⟩
 have hr:jL r:=hr
 have hl:l.length≤64:=hl
 have hk:k≤l.length:=hk
 by_cases h:k < l.length
 ·have n1:nth jk l k=l[k]:=cm (t:=jk) h
  have hd:l.drop k=l[k]::l.drop (k+1):=List.drop_eq_getElem_cons h
  have hop:l[k]=El l[k].1:=hg _ (by rw[hd];exact List.mem_cons_self)
  obtain⟨op,hop2⟩:∃op,l[k].1=op:=⟨_,rfl⟩
  rw[hop2]at hop
  have h1:=jn hr
  have h2:=Bi h1.1.1 12
  have h3:=Bh h1.1.1.1 (m:=12) (by decide)
  have hw:=Bj hr
  have hu:=oW hw.1
  have hat:(l.take k).length=k:=by rw[List.length_take];omega
  have step:∀ {R:Type} (kn:AS→Option R) (kx:Exit→AS→Option R),aw.L2.R (n,m1,(l.length:Int),(k:Int),u,l.length,L2,v,r,l,os) kn kx=aJ (fX (q9 12 (dv r).2).1 0) (kx (aw.L2.bj (0,())).1 (aw.L2.bj (0,())).2) (kn (aw.L2.st (n,m1,(l.length:Int),((k+1:Nat):Int),u,l.length,L2,v,(j2 (lk r).2).2,l.take k++(op,((dv r).1,some (lk r).1,(j2 (lk r).2).1,()),())::l.drop (k+1),os))):=by
   intro R kn kx
   rw[aw.L2.step,bq (by omega),bt (by omega) (by omega),bS.run (d:=r) hr.1]
   have ns:∀y:kG,nth jk (l.set k y) k=y:=fun y=>E3 (t:=jk) h
   have nm:∀(y:kG) (b:List kG),nth jk (l.take k++y::b) k=y:=fun y b=>E2 (t:=jk) hat
   simp only[ag,aa,bS.add,bS.F,Int.toNat_natCast,Nat.zero_add,Nat.add_zero,n1,hop,aX h,decide_true]
   rw[dE.run (d:=(12,(dv r).2)) h1.1.1.1]
   simp only[ag,aa,dE.add,dE.F]
   refine congrArg (fun z=>aJ _ _ z) ?_
   simp only[List.length_set,aX h,ag,El,ns,Ch,BE,Option.isNone_none]
   rw[aw.L3.run (d:=(n,m1,(l.length:Int),(k:Int),(q9 12 (dv r).2).1,0,u,l.length,L2,v,(q9 12 (dv r).2).2,l.take k,op,(dv r).1,0,(0,()),l.drop (k+1),os,[])) ⟨h2,h3.2,0,rfl,by decide,rfl,rfl⟩]
   simp only[aa,aw.L3.add,aw.L3.F,Int.sub_zero,List.nil_append]
   rw[show oE (q9 12 (dv r).2).1.toNat (q9 12 (dv r).2).2=lk r from rfl,ct.run (d:=(lk r).2) hw.1.1]
   simp only[aa,ct.add,ct.F,Int.toNat_natCast,nm,Ff hat,aX (show k < (l.take k++(op,((dv r).1,some (lk r).1,0,()),())::l.drop (k+1)).length by rw[List.length_append,List.length_cons];omega),Nat.add_assoc,Nat.reduceAdd,decide_true,ag]
   rw[N.j4 (by omega)]
  by_cases hp:(q9 12 (dv r).2).1 < 0
  ·right
   refine⟨aw.L2.bj (0,()),?_,fun kn kx=> ?_⟩
   ·simp only[aw.L2.add,aw.L2.F,Int.toNat_natCast,hd,List.map_cons,po,Ei,if_pos hp]
    rfl
   ·rw[step,bq hp,ag]
  ·left
   have hl2:(l.take k++(op,((dv r).1,some (lk r).1,(j2 (lk r).2).1,()),())::l.drop (k+1)).length=l.length:=by
    rw[List.length_append,List.length_cons,List.length_drop];omega
   have hd2:(l.take k++(op,((dv r).1,some (lk r).1,(j2 (lk r).2).1,()),())::l.drop (k+1)).drop (k+1)=l.drop (k+1):=by
    rw[List.append_cons,List.drop_left' (by rw[List.length_append];show(l.take k).length+1=_;omega)]
   have ht2:(l.take k++(op,((dv r).1,some (lk r).1,(j2 (lk r).2).1,()),())::l.drop (k+1)).take (k+1)=l.take k++ [(op,((dv r).1,some (lk r).1,(j2 (lk r).2).1,()),())]:=by
    rw[List.append_cons,List.take_left' (by rw[List.length_append];show(l.take k).length+1=_;omega)]
   refine⟨(n,m1,(l.length:Int),((k+1:Nat):Int),u,l.length,L2,v,(j2 (lk r).2).2,l.take k++(op,((dv r).1,some (lk r).1,(j2 (lk r).2).1,()),())::l.drop (k+1),os),⟨hu.1,by rw[hl2];exact hl,k+1,rfl,by rw[hl2];omega,by rw[hl2],by rw[hl2],by rw[hd2];exact fun x hx=>hg x (by rw[hd];exact List.mem_cons_of_mem _ hx)⟩,by simp only[Int.toNat_natCast,hl2];omega,?_,fun kn kx=> ?_⟩
   ·simp only[aw.L2.add,aw.L2.F,Int.toNat_natCast,hd2,ht2,hd,List.map_cons,po,Ei,if_neg hp,hop2]
    cases po ((l.drop (k+1)).map (·.1)) (j2 (lk r).2).2 with
    |none=>rfl
    |some x=>
     simp only[List.map_cons,List.append_assoc,List.singleton_append]
     rfl
   ·rw[step,bg hp,ai]
 ·right
  obtain rfl:k=l.length:=by omega
  refine⟨aw.L2.e7 (n,m1,u,l.length,L2,v,r,l,os),?_,fun kn kx=> ?_⟩
  ·simp only[aw.L2.add,aw.L2.F,Int.toNat_natCast,List.drop_length,List.map_nil,po,List.take_length,List.append_nil]
   rfl
  ·rw[aw.L2.step,bg (by omega),ai]
theorem EW(l:List cR):(l.map El).map (·.1)=l:=by
 rw[List.map_map]
 have:((fun x:kG=>x.1)∘El)=id:=rfl
 rw[this,List.map_id]
theorem aw.ok:aw.Ok:=by
 rintro b ⟨hb,hl⟩
 have hb:Bytes b:=hb
 have hl:b.length≤1000000000:=hl
 have k0:=Fa hb hl
 have k1:=Bi k0 64
 have u1:=Bh k0.1 (m:=64) (by decide)
 rw[aw.eq,dR.run (d:=b) hl]
 simp only[aa,dR.add,dR.F,aw.add,aw.F,DM]
 rw[dE.run (d:=(64,(b,false,()))) k0.1]
 simp only[aa,dE.add,dE.F]
 generalize q9 64 (b,false,())=n at*
 have o2:=A3 n.1.toNat k1
 rw[aw.L0.run (d:=(n.1,n.1,0,(0,()),0,(0,()),n.2,[])) ⟨k1,u1.2,0,rfl,by decide,rfl,rfl⟩]
 simp only[aa,aw.L0.add,aw.L0.F,Int.sub_zero,List.nil_append,Nat.zero_add]
 generalize qA n.1.toNat n.2=ops at*
 have k3:=Bi o2.1.1 64
 have u3:=Bh o2.1.1.1 (m:=64) (by decide)
 rw[dE.run (d:=(64,ops.2)) o2.1.1.1]
 simp only[aa,dE.add,dE.F]
 generalize q9 64 ops.2=m at*
 rw[aw.L1.run (d:=(n.1,m.1,m.1,0,(0,()),n.1.toNat,0,(0,()),m.2,ops.1.map El,[])) ⟨k3,u3.2,0,rfl,by decide,rfl,rfl⟩]
 simp only[aa,aw.L1.add,aw.L1.F,Int.sub_zero,List.nil_append,Nat.zero_add]
 cases hx:pg m.1.toNat m.2 with
 |none=>rfl
 |some x=>
  have o4:=yL _ k3 hx
  have o5:=jn o4.1.1
  have ol:(ops.1.map El).length=n.1.toNat:=by rw[List.length_map];exact o2.2.1
  simp only[Sum.isLeft_inr,Sum.getRight?_inr,ai,aa]
  rw[bS.run (d:=x.2) o4.1.1.1]
  simp only[aa,bS.add,bS.F]
  rw[aw.L2.run (d:=(n.1,m.1,(n.1.toNat:Int),0,(0,()),n.1.toNat,x.1.length,((dv x.2).1,()),(dv x.2).2,ops.1.map El,x.1)) ⟨o5.1.1,by rw[ol];omega,0,rfl,Nat.zero_le _,by rw[ol],by rw[ol],fun z hz=>by
   rw[List.drop_zero]at hz
   obtain⟨o,_,rfl⟩:=List.mem_map.1 hz
   rfl⟩]
  simp only[aa,aw.L2.add,aw.L2.F,Int.toNat_zero,List.drop_zero,List.take_zero,List.nil_append,EW,FF]
  cases hy:po ops.1 (dv x.2).2 with
  |none=>rfl
  |some y=>
   have o6:=zf _ o5.1.1 hy
   have yl:y.1.length=n.1.toNat:=by rw[←o2.2.1,←o6.2.1,List.length_map]
   have yl2:(y.1.map H2).length=n.1.toNat:=by rw[List.length_map];exact yl
   simp only[Sum.isLeft_inr,Sum.getRight?_inr,ai,aa,Fw]
   by_cases c1:n.1 < 0
   ·rw[bq c1,ag,if_pos (Or.inl c1)];rfl
   rw[bg c1,ai]
   by_cases c2:m.1 < 0
   ·rw[bq c2,ag,if_pos (Or.inr (Or.inl c2))];rfl
   rw[bg c2,ai,fI.run (d:=y.2) trivial]
   simp only[aa,fI.add,fI.F,Bool.not_not]
   cases c3:y.2.2.1
   ·rw[ai,eA.run (d:=y.2) trivial]
    simp only[aa,eA.add,eA.F]
    by_cases c4:0 < y.2.1.length
    ·rw[dy (by omega),ag,if_pos (Or.inr (Or.inr (Or.inr (Or.inl c4))))];rfl
    ·rw[db (by omega),ai,aX ⟨by trivial,by omega⟩,aX ⟨by trivial,by omega⟩,fc yl2,fc rfl,F2,GU]
     simp only[ag]
     rw[ax.run (d:=(y.1,x.1,(dv x.2).1,())) ⟨fun o ho=>(o4.2.2 o ho).2.2,by show y.1.length≤_;omega,by show x.1.length≤_;have:=o4.2.1;omega⟩]
     simp only[aa,ax.add,ax.F]
     cases c5:gD (y.1,x.1,(dv x.2).1,())
     ·rw[if_pos (Or.inr (Or.inr (Or.inr (Or.inr (by trivial)))))];rfl
     ·rw[if_neg (by
       rintro(z | z | z | z | z)
       ·exact c1 z
       ·exact c2 z
       ·cases z
       ·exact c4 z
       ·cases z)]
      rfl
   ·rw[ag,if_pos (Or.inr (Or.inr (Or.inl (by trivial))))];rfl
noncomputable def aw.E:=Entry.cq [some tB] aw.st aw.aC aw.add aw.F aw.out
noncomputable def aw.call:aw.D→Option aw.X:=bT aw.E aw.st
theorem aw.run:bK aw.call aw.aC aw.add aw.F:=dh (de [.d tB] fun _=>by kernel_rfl)
noncomputable def aw.sg:SG Tryz.prog:=⟨126,aY,aw.E,.fn 4 (by kernel_rfl) aw.ok (And.intro (.cq aw.L0.ok (by kernel_rfl)) (And.intro (.cq aw.L1.ok (by kernel_rfl)) (And.intro (.cq aw.L2.ok (by kernel_rfl)) (And.intro (.cq aw.L3.ok (by kernel_rfl)) trivial))))⟩
set_option synthInstance.maxSize 5000
theorem DR(k:Int)(m:List Int):FP (im k m):=by
 unfold im
 split
 ·exact⟨(Fl _).u,(Ax _ _).u⟩
 ·exact⟨⟨Int.le_refl 0,by decide⟩,Int.le_refl 0,by decide⟩
theorem xY:∀(l l':List fZ) (b:List Int),l.map (·.1)=l'.map (·.1)→l.foldl uL b=l'.foldl uL b
 |[],[],_,_=>rfl
 |[],_::_,_,h=>by cases h
 |_::_,[],_,h=>by cases h
 |x::l,y::l',b,h=>by
  rw[List.map_cons,List.map_cons,List.cons.injEq]at h
  have e:uL b x=uL b y:=by unfold uL;rw[h.1]
  rw[List.foldl_cons,List.foldl_cons,e,xY l l' _ h.2]
theorem B7{l l':List fZ}(t:List fu×Int×Unit)(h:l.map (·.1)=l'.map (·.1)):l5 (l,t)=l5 (l',t):=by
 have hl:l.length=l'.length:=by have:=congrArg List.length h;simpa using this
 unfold l5
 simp only[hl]
 rw[xY l l' _ h]
theorem yi:∀(l l':List fZ) (m:List (cR×Bool)),l.map (·.1)=l'.map (·.1)→qk m l=true→(∀x∈l',nQ x.2.1=true)→qk m l'=true
 |[],[],_,_,_,_=>rfl
 |[],_::_,_,h,_,_=>by cases h
 |_::_,[],_,h,_,_=>by cases h
 |x::l,y::l',m,h,hi,hw=>by
  rw[List.map_cons,List.map_cons,List.cons.injEq]at h
  rw[qk,Bool.and_eq_true,Bool.and_eq_true]at hi ⊢
  have hx:=hi.1.2
  unfold tz at hx
  rw[Bool.and_eq_true]at hx
  refine⟨⟨?_,?_⟩,?_⟩
  ·have:=hi.1.1
   unfold r0 at this ⊢
   rw[←h.1]
   exact this
  ·unfold tz
   rw[←h.1,hx.1,hw y List.mem_cons_self]
   rfl
  ·rw[←h.1]
   exact yi l l' _ h.2 hi.2 fun z hz=>hw z (List.mem_cons_of_mem _ hz)
theorem Ea{l l':List fZ}{t:List fu×Int×Unit}(h:l.map (·.1)=l'.map (·.1))(hok:gD (l,t)=true)(hw:∀x∈l',nQ x.2.1=true):gD (l',t)=true:=by
 have hl:l.length=l'.length:=by have:=congrArg List.length h;simpa using this
 unfold gD xj at hok ⊢
 rw[Bool.and_eq_true,Bool.and_eq_true]at hok ⊢
 simp only[hl]at hok
 exact⟨hok.1,yi l l' _ h hok.2.1 hw,hok.2.2⟩
theorem Be{l l':List fZ}{t:List fu×Int×Unit}(h:l.map (·.1)=l'.map (·.1))(h1:gD (l,t)=true)(h2:gD (l',t)=true):mG (l',t)=mG (l,t):=by
 unfold mG
 rw[h1,h2,B7 t h]
theorem Al{l l':List fZ}{t:List fu×Int×Unit}(h:l.map (·.1)=l'.map (·.1))(h1:gD (l,t)=true)(h2:gD (l',t)=true):dJ (l',t)=dJ (l,t):=by
 unfold dJ
 rw[h1,h2]
 exact h.symm
theorem Dr{l l':List fZ}{t:List fu×Int×Unit}(h:l.map (·.1)=l'.map (·.1))(h1:gD (l,t)=true)(h2:gD (l',t)=true):eZ (l',t)=eZ (l,t):=by
 unfold eZ
 rw[h1,h2,Be h h1 h2]
def sH(t:eT)(k:Nat)(w:oY):eT:=(t.1.set k ((nth fy t.1 k).1,w,()),t.2)
theorem qS(l:List fZ)(k:Nat)(w:oY)(h:k < l.length):l.map (·.1)=(l.set k ((nth fy l k).1,w,())).map (·.1):=by
 have n1:nth fy l k=l[k]:=cm (t:=fy) h
 rw[n1,List.map_set]
 have e:(l[k].1:cR)=(l.map (·.1))[k]'(by rw[List.length_map];exact h):=by rw[List.getElem_map]
 show _=(l.map (·.1)).set k l[k].1
 rw[e,List.set_getElem_self]
theorem yV{l:List fZ}{k:Nat}{w:oY}{x:fZ}(h:k < l.length)(hx:x∈l.set k ((nth fy l k).1,w,())):x∈l∨(x.1=l[k].1∧x.2.1=w):=by
 have n1:nth fy l k=l[k]:=cm (t:=fy) h
 rw[n1]at hx
 rcases List.mem_or_eq_of_mem_set hx with h1 | h1
 ·exact .inl h1
 ·exact .inr ⟨by rw[h1],by rw[h1]⟩
theorem sX{t:eT}{k:Nat}{w:oY}(h:k < t.1.length)(hok:gD t=true)(hw:nQ w=true):gD (sH t k w)=true:=by
 obtain⟨_,b1,_⟩:=iM hok
 refine Ea (l:=t.1) (qS t.1 k w h) hok fun x hx=> ?_
 rcases yV h hx with h1 | h1
 ·have:=mR _ _ b1 x h1
  unfold tz at this
  rw[Bool.and_eq_true]at this
  exact this.2
 ·rw[h1.2];exact hw
theorem GB{t:eT}{k:Nat}{w:oY}(h:k < t.1.length)(hv:nR t)(hu:we w)(hl:w.2.1.length≤9223372036854775807):nR (sH t k w):=by
 refine⟨⟨hv.1.1,by show(t.1.set k _).length≤_;rw[List.length_set];exact hv.1.2.1,hv.1.2.2⟩,fun x hx=> ?_,hv.2.2⟩
 rcases yV h hx with h1 | h1
 ·exact hv.2.1 x h1
 ·refine⟨?_,by rw[h1.2];exact hu,by rw[h1.2];exact hl⟩
  rw[h1.1]
  exact(hv.2.1 _ (List.getElem_mem h)).1
theorem Fe{t:eT}{k:Nat}{w:oY}(h:k < t.1.length)(hok:gD t=true)(hw:nQ w=true):mG (sH t k w)=mG t∧dJ (sH t k w)=dJ t∧eZ (sH t k w)=eZ t:=
 ⟨Be (l:=t.1) (qS t.1 k w h) hok (sX h hok hw),Al (l:=t.1) (qS t.1 k w h) hok (sX h hok hw),Dr (l:=t.1) (qS t.1 k w h) hok (sX h hok hw)⟩
def vd(t:eT)(br:Int)(ks:List Int)(sc:Int):oY:=(br,ks.map (fun k=>im k (mG t)),sc,())
theorem DT(t:eT)(i br:Int)(ks:List Int)(sc:Int):DS t i br ks sc=if oF t i br ks then(sH t i.toNat (vd t br ks sc),0) else(([],[],0,()),1):=rfl
theorem uk{t:eT}{i br:Int}{ks:List Int}(h:oF t i br ks=true):gD t=true∧(0≤i∧i < t.1.length∧0≤br∧br < 4∧ks.length≤12)∧∀k∈ks,k < 2305843009213688669∧k≠0:=by
 unfold oF at h
 simp only[Bool.and_eq_true,decide_eq_true_eq,Bool.not_eq_true']at h
 refine⟨h.1,h.2.1,fun k hk=> ?_⟩
 have:=h.2.2
 rw[List.any_eq_false]at this
 have:=this k hk
 unfold p9 at this
 simpa using this
theorem Fg{t:eT}{i br:Int}{ks:List Int}(sc:Int)(h:oF t i br ks=true):nQ (vd t br ks sc)=true:=by
 have e:=(uk h).2.1
 unfold nQ vd
 rw[aX ⟨e.2.2.1,e.2.2.2.1⟩,aX (by rw[List.length_map];exact e.2.2.2.2)]
 rfl
theorem GG(t:eT)(br:Int)(ks:List Int){sc:Int}(h:jd sc):we (vd t br ks sc):=⟨fun s hs=>by
  obtain⟨k,_,rfl⟩:=List.mem_map.1 (show s∈ks.map fun k=>im k (mG t) from hs)
  exact DR k _,h⟩
theorem DU{t:eT}{i br sc:Int}{ks:List Int}(hv:nR t)(h:oF t i br ks=true)(hs:jd sc):
  gD (sH t i.toNat (vd t br ks sc))=true∧nR (sH t i.toNat (vd t br ks sc))∧mG (sH t i.toNat (vd t br ks sc))=mG t∧dJ (sH t i.toNat (vd t br ks sc))=dJ t∧eZ (sH t i.toNat (vd t br ks sc))=eZ t:=by
 obtain⟨hok,e,_⟩:=uk h
 have hk:i.toNat < t.1.length:=by omega
 have hw:=Fg sc h
 exact⟨sX hk hok hw,GB hk hv (GG t br ks hs) (by show(ks.map _).length≤_;rw[List.length_map];omega),Fe hk hok hw⟩
set_option synthInstance.maxSize 5000
section
variable {β:Type} {kt:Ty}
theorem sO(hc:kt.comp=true)(o o':kt.den)(v:β):∀l:List (kt.den×β),cO kt o (fT kt o' v l)=if kt.beq o o'=true then some v else cO kt o l
 |[]=>by rw[BY,fR,oS]
 |p::l=>by
  rw[pM]
  by_cases h:kt.beq o' p.1=true
  ·rw[if_pos h,fR,fR]
   have e:=beq_eq kt _ _ hc h
   by_cases h2:kt.beq o o'=true
   ·rw[if_pos h2,if_pos h2]
   ·rw[if_neg h2,if_neg h2,if_neg (by rw[←e];exact h2)]
  ·rw[if_neg h,fR,fR,sO hc o o' v l]
   by_cases h3:kt.beq o p.1=true
   ·rw[if_pos h3,if_pos h3,if_neg]
    intro h4
    apply h
    rw[←beq_eq kt _ _ hc h4]
    exact h3
   ·rw[if_neg h3,if_neg h3]
theorem AO(hc:kt.comp=true)(o o':kt.den):∀ {l:List (kt.den×β)},(l.map (·.1)).Nodup→cO kt o (gJ kt o' l)=if kt.beq o o'=true then none else cO kt o l
 |[],_=>by rw[BX,oS];split <;> rfl
 |p::l,hn=>by
  rw[List.map_cons,List.nodup_cons]at hn
  rw[nr]
  by_cases h:kt.beq o' p.1=true
  ·rw[if_pos h,fR]
   have e:=beq_eq kt _ _ hc h
   by_cases h2:kt.beq o o'=true
   ·rw[if_pos h2]
    have e2:=beq_eq kt _ _ hc h2
    cases hg:cO kt o l with
    |none=>rfl
    |some v=>exact absurd (List.mem_map.2 ⟨_,(gT hc hn.2).1 hg,rfl⟩) (by rw[e2,e];exact hn.1)
   ·rw[if_neg h2,if_neg (by rw[←e];exact h2)]
  ·rw[if_neg h,fR,fR,AO hc o o' hn.2]
   by_cases h3:kt.beq o p.1=true
   ·rw[if_pos h3,if_pos h3,if_neg]
    intro h4
    apply h
    rw[←beq_eq kt _ _ hc h4]
    exact h3
   ·rw[if_neg h3,if_neg h3]
theorem get_none(hc:kt.comp=true){o:kt.den}{l:List (kt.den×β)}(hn:(l.map (·.1)).Nodup):cO kt o l=none↔o ∉ l.map (·.1):=by
 constructor
 ·intro h hm
  obtain⟨p,hp,e⟩:=List.mem_map.1 hm
  have e:p.1=o:=e
  have:=(gT hc hn (x:=o) (v:=p.2)).2 (by rw[←e];exact hp)
  rw[h]at this;cases this
 ·intro h
  cases hg:cO kt o l with
  |none=>rfl
  |some v=>exact absurd (List.mem_map.2 ⟨_,(gT hc hn).1 hg,rfl⟩) h
theorem pf{l:List (kt.den×β)}(hn:(l.map (·.1)).Nodup):l.Nodup:=by
 induction l with
 |nil=>exact List.nodup_nil
 |cons p l ih=>
  rw[List.map_cons,List.nodup_cons]at hn
  exact List.nodup_cons.2 ⟨fun h=>hn.1 (List.mem_map.2 ⟨p,h,rfl⟩),ih hn.2⟩
theorem yN(hc:kt.comp=true){l l':List (kt.den×β)}(hn:(l.map (·.1)).Nodup)(hn':(l'.map (·.1)).Nodup)(h:∀o,cO kt o l=cO kt o l'):l.Perm l':=by
 rw[List.perm_ext_iff_of_nodup (pf hn) (pf hn')]
 rintro⟨o,v⟩
 rw[←gT hc hn,←gT hc hn',h]
end
theorem qa(a b:cR):(Ty.beq cj a b=true)↔a=b:=⟨beq_eq cj a b rfl,fun h=>by rw[h];exact beq_refl cj b rfl⟩
abbrev At:=List (cR×eS)
abbrev gZ(a:At):List cR:=a.map (·.1)
theorem Gi(o o':cR)(v:eS)(a:At):cO cj o (fT cj o' v a)=if o=o' then some v else cO cj o a:=by
 rw[sO gC]
 by_cases h:o=o'
 ·rw[if_pos ((qa _ _).2 h),if_pos h]
 ·rw[if_neg (fun e=>h ((qa _ _).1 e)),if_neg h]
theorem EH(o o':cR){a:At}(hn:(gZ a).Nodup):cO cj o (gJ cj o' a)=if o=o' then none else cO cj o a:=by
 rw[AO gC _ _ hn]
 by_cases h:o=o'
 ·rw[if_pos ((qa _ _).2 h),if_pos h]
 ·rw[if_neg (fun e=>h ((qa _ _).1 e)),if_neg h]
theorem tw{o:cR}{v:eS}{a:At}(hn:(gZ a).Nodup):(gZ (fT cj o v a)).Nodup:=sq gC hn
theorem lT{o:cR}{a:At}(hn:(gZ a).Nodup):(gZ (gJ cj o a)).Nodup:=ow gC hn
theorem Hw{a a':At}(hn:(gZ a).Nodup)(hn':(gZ a').Nodup)(h:∀o,cO cj o a=cO cj o a'):a.Perm a':=yN gC hn hn' h
theorem Ap{o:cR}{c:eS}{a:At}(hn:(gZ a).Nodup)(hg:cO cj o a=some c):a.Perm ((o,c)::gJ cj o a):=by
 refine Hw hn ?_ fun x=> ?_
 ·show(o::gZ (gJ cj o a)).Nodup
  refine List.nodup_cons.2 ⟨?_,lT hn⟩
  have:=(get_none gC (lT (o:=o) hn)).1 (by rw[EH o o hn,if_pos rfl])
  exact this
 ·rw[fR,EH x o hn]
  by_cases h:x=o
  ·subst h;rw[if_pos ((qa _ _).2 rfl),hg]
  ·rw[if_neg (fun e=>h ((qa _ _).1 e)),if_neg h]
theorem rk(o:cR)(l:List cR)(a:At):mw (o::l) a=mw l (gJ cj o a):=rfl
theorem pC:∀(l:List cR) {a:At},(gZ a).Nodup→(gZ (mw l a)).Nodup
 |[],_,h=>h
 |o::l,a,h=>by rw[rk];exact pC l (lT h)
theorem AN(x:cR):∀(l:List cR) {a:At},(gZ a).Nodup→cO cj x (mw l a)=if x∈l then none else cO cj x a
 |[],a,_=>by rw[if_neg (by simp)];rfl
 |o::l,a,h=>by
  rw[rk,AN x l (lT h),EH x o h]
  by_cases h1:x∈l
  ·rw[if_pos h1,if_pos (List.mem_cons_of_mem _ h1)]
  ·rw[if_neg h1]
   by_cases h2:x=o
   ·rw[if_pos h2,if_pos (by rw[h2];exact List.mem_cons_self ..)]
   ·rw[if_neg h2,if_neg (by simp[h1,h2])]
theorem oJ(h:Int)(o:cR)(l:List cR)(x:fu)(xs:List fu)(a:At):rb h (o::l) (x::xs) a=rb h l xs (fT cj o (x,(h,())) a):=rfl
theorem sZ(h:Int):∀(l:List cR) (xs:List fu) {a:At},(gZ a).Nodup→(gZ (rb h l xs a)).Nodup
 |[],[],_,hn=>hn
 |[],_::_,_,hn=>hn
 |_::_,[],_,hn=>hn
 |o::l,x::xs,a,hn=>by rw[oJ];exact sZ h l xs (tw hn)
theorem AM(h:Int)(x:cR):∀(l:List cR) (xs:List fu) (a:At),x ∉ l→cO cj x (rb h l xs a)=cO cj x a
 |[],[],_,_=>rfl
 |[],_::_,_,_=>rfl
 |_::_,[],_,_=>rfl
 |o::l,y::xs,a,hx=>by
  rw[oJ,AM h x l xs _ (fun e=>hx (List.mem_cons_of_mem _ e)),Gi,if_neg (fun e=>hx (by rw[e];exact List.mem_cons_self ..))]
theorem yd(h:Int):∀(l:List cR) (xs:List fu) (a:At),l.Nodup→∀(k:Nat) (hk:k < l.length) (hk2:k < xs.length),cO cj l[k] (rb h l xs a)=some (xs[k],(h,()))
 |[],_,_,_,k,hk,_=>by simp at hk
 |_::_,[],_,_,k,_,hk=>by simp at hk
 |o::l,y::xs,a,hn,k,hk,hk2=>by
  rw[List.nodup_cons]at hn
  rw[oJ]
  cases k with
  |zero=>
   show cO cj o _=some (y,(h,()))
   rw[AM h o l xs _ hn.1,Gi,if_pos rfl]
  |succ k=>
   simp only[List.getElem_cons_succ]
   exact yd h l xs _ hn.2 k (by simpa using hk) (by simpa using hk2)
def lh(a:At)(l:List cR):Int:=(l.map fun o=>((cO cj o a).getD v8).1.1).sum
theorem xP:∀(l:List cR) {a:At},(gZ a).Nodup→l.Nodup→(∀o∈l,(cO cj o a).isSome=true)→gb (mw l a)=gb a - lh a l∧(mw l a).length+l.length=a.length
 |[],a,_,_,_=>by simp[mw,lh]
 |o::l,a,hn,hl,ht=>by
  rw[List.nodup_cons]at hl
  obtain⟨c,hc⟩:=Option.isSome_iff_exists.1 (ht o (List.mem_cons_self ..))
  have hg:∀x∈l,cO cj x (gJ cj o a)=cO cj x a:=fun x hx=>by
   rw[EH x o hn,if_neg (fun e=>hl.1 (by rw[←e];exact hx))]
  obtain⟨h1,h2⟩:=xP l (lT (o:=o) hn) hl.2 fun x hx=>by rw[hg x hx];exact ht x (List.mem_cons_of_mem _ hx)
  have hp:=Ap hn hc
  have h3:=re hp
  have h4:=hp.length_eq
  have h5:lh (gJ cj o a) l=lh a l:=by
   unfold lh
   congr 1
   exact List.map_congr_left fun x hx=>by rw[hg x hx]
  rw[gR]at h3
  rw[List.length_cons]at h4
  rw[rk,h1,h5,List.length_cons]
  have h6:lh a (o::l)=c.1.1+lh a l:=by simp[lh,hc]
  rw[h6]
  exact⟨by have h3:gb a=c.1.1+gb (gJ cj o a):=h3;omega,by omega⟩
theorem jG(x:fu)(xs:List fu):gj (x::xs)=x.1+gj xs:=by simp[gj]
theorem xw(h:Int):∀(l:List cR) (xs:List fu) {a:At},(gZ a).Nodup→l.Nodup→l.length=xs.length→(∀o∈l,cO cj o a=none)→gb (rb h l xs a)=gb a+gj xs∧(rb h l xs a).length=a.length+l.length
 |[],[],a,_,_,_,_=>by simp[rb,gj]
 |[],_::_,_,_,_,he,_=>by simp at he
 |_::_,[],_,_,_,he,_=>by simp at he
 |o::l,x::xs,a,hn,hl,he,ht=>by
  rw[List.nodup_cons]at hl
  have h0:=(get_none gC hn).1 (ht o (List.mem_cons_self ..))
  have e:fT cj o (x,(h,())) a=a++ [(o,(x,(h,())))]:=ml gC h0
  obtain⟨h1,h2⟩:=xw h l xs (tw (o:=o) (v:=(x,(h,()))) hn) hl.2 (by simpa using he) fun y hy=>by
   rw[Gi,if_neg (fun e=>hl.1 (by rw[←e];exact hy))];exact ht y (List.mem_cons_of_mem _ hy)
  rw[oJ,h1,h2,e,xz,jG,List.length_append]
  simp only[gb,List.map_cons,List.map_nil,List.sum_cons,List.sum_nil,List.length_cons,List.length_nil]
  omega
theorem tG:∀(l:List fZ) (m:List (cR×Bool)),qk m l=true→(l.map (·.1)).Nodup∧∀x∈l,cO cj x.1 m≠some true
 |[],_,_=>⟨List.nodup_nil,fun _ h=>by cases h⟩
 |x::l,m,h=>by
  rw[qk,Bool.and_eq_true,Bool.and_eq_true]at h
  obtain⟨⟨h1,_⟩,h2⟩:=h
  obtain⟨h3,h4⟩:=tG l _ h2
  have hs:∀y∈l,cO cj y.1 (fT cj x.1 true m)≠some true:=h4
  have hne:∀y∈l,y.1≠x.1:=fun y hy e=>hs y hy (by rw[sO gC,if_pos ((qa _ _).2 e)])
  refine⟨?_,fun y hy=> ?_⟩
  ·rw[List.map_cons,List.nodup_cons]
   refine⟨fun hm=> ?_,h3⟩
   obtain⟨y,hy,e⟩:=List.mem_map.1 hm
   exact hne y hy e
  ·rcases List.mem_cons.1 hy with rfl | hy
   ·intro e
    unfold r0 at h1
    rw[e]at h1
    cases h1
   ·have:=hs y hy
    rw[sO gC,if_neg (fun e=>hne y hy ((qa _ _).1 e))]at this
    exact this
theorem xe(t:eT):(dJ t).Nodup:=by
 unfold dJ
 split
 ·rename_i h
  exact(tG _ _ (iM h).2.1).1
 ·exact List.nodup_nil
theorem tS(t:eT):(eZ t).Nodup:=by
 unfold eZ
 split
 ·unfold nL
  refine List.Pairwise.map _ (fun a b hne e=> ?_) (List.nodup_range' (s:=0) (n:=t.2.1.length) (step:=1))
  have:(a:Int)=b:=congrArg (fun o:cR=>o.2.1) e
  exact hne (by omega)
 ·exact List.nodup_nil
theorem tF{h:Int}{id:List Int}{a:At}:∀(l:List fZ) (f0 f:Int),iX h id a l f0= .inr f→(∀o∈l.map (·.1),(cO cj o a).isSome=true)∧f=f0+lh a (l.map (·.1))
 |[],f0,f,e=>by simp only[iX,Sum.inr.injEq]at e;subst e;simp[lh]
 |x::l,f0,f,e=>by
  simp only[iX]at e
  cases hg:cO cj x.1 a with
  |none=>rw[hg]at e;cases e
  |some c=>
   rw[hg]at e
   simp only at e
   split at e
   ·cases e
   ·obtain⟨h1,h2⟩:=tF l _ _ e
    refine⟨fun o ho=> ?_,?_⟩
    ·rw[List.map_cons]at ho
     rcases List.mem_cons.1 ho with rfl | ho
     ·rw[hg];rfl
     ·exact h1 o ho
    ·rw[h2]
     simp only[lh,List.map_cons,List.sum_cons,hg,Option.getD_some]
     omega
structure jq(t:eT)(h:Int)(a:At)(iB:Int):Prop where
 ok:gD t=true
 h1:1≤h
 h2:h≤1048576
 ins:∃f,iX h (mG t) a t.1 0= .inr f∧iB=f - gj t.2.1
 there:∀o∈dJ t,(cO cj o a).isSome=true
 made:∀o∈eZ t,cO cj o a=none
 Hr:iB=lh a (dJ t) - gj t.2.1
 pos:0≤iB
theorem wx{t:eT}{h:Int}{a:At}(e:(ee t h a).2=0):jq t h a (ee t h a).1:=by
 obtain⟨hok,h1,h2,f,hi,hm,hp,hc⟩:=vm e
 obtain⟨i1,i2⟩:=tF _ _ _ hi
 have hs:dJ t=t.1.map (·.1):=by unfold dJ;rw[if_pos hok]
 rw[hc]
 refine⟨hok,h1,h2,⟨f,hi,rfl⟩,by rw[hs];exact i1,fun o ho=> ?_,by rw[hs,i2];show 0+_ - _=_;omega,hp⟩
 have:=List.any_eq_false.1 hm o ho
 unfold kB at this
 cases hg:cO cj o a with
 |none=>rfl
 |some c=>rw[hg]at this;simp at this
theorem zz{t:eT}{h:Int}{a:At}(e:(ee t h a).2≠0):(ee t h a).1=0:=by
 unfold ee at e ⊢
 split
 ·rename_i h0
  rw[if_pos h0]at e
  cases hi:iX h (mG t) a t.1 0 with
  |inl x=>rfl
  |inr f=>
   rw[hi]at e
   simp only at e ⊢
   split
   ·rfl
   ·rename_i h1
    rw[if_neg h1]at e
    split
    ·rfl
    ·rename_i h2
     rw[if_neg h2]at e
     exact absurd rfl e
 ·rfl
section
variable {t:eT} {h iB:Int} {a:At}
theorem jq.D0(hc:jq t h a iB)(ha:(gZ a).Nodup){o:cR}(ho:o∈dJ t):cO cj o (fO t h a)=none:=by
 have hm:o ∉ eZ t:=fun e=>by
  have:=hc.there o ho
  rw[hc.made o e]at this;cases this
 unfold fO
 rw[AM h o _ _ _ hm,AN o _ ha,if_pos ho]
theorem jq.new(hc:jq t h a iB){k:Nat}(hk:k < (eZ t).length)(hk2:k < t.2.1.length):cO cj (eZ t)[k] (fO t h a)=some (t.2.1[k],(h,())):=by
 unfold fO
 exact yd h _ _ _ (tS t) k hk hk2
theorem wk(ha:(gZ a).Nodup){o:cR}(h1:o ∉ dJ t)(h2:o ∉ eZ t):cO cj o (fO t h a)=cO cj o a:=by
 unfold fO
 rw[AM h o _ _ _ h2,AN o _ ha,if_neg h1]
theorem pX(ha:(gZ a).Nodup):(gZ (fO t h a)).Nodup:=sZ h _ _ (pC _ ha)
theorem jq.sum(hc:jq t h a iB)(ha:(gZ a).Nodup):gb (fO t h a)=gb a - iB∧(fO t h a).length+t.1.length=a.length+t.2.1.length:=by
 obtain⟨d1,d2⟩:=xP (dJ t) ha (xe t) hc.there
 obtain⟨e1,e2⟩:=xw h (eZ t) t.2.1 (pC (dJ t) ha) (tS t) (jF hc.ok) fun o ho=>by
  rw[AN o _ ha];split
  ·rfl
  ·exact hc.made o ho
 have hf:=hc.Hr
 have hl:=ql hc.ok
 have hm:=jF hc.ok
 unfold fO
 rw[e1,e2,d1]
 exact⟨by omega,by omega⟩
theorem jq.mN(hc:jq t h a iB)(ha:uJ a)(hv:nR t):uJ (fO t h a):=by
 refine⟨pX ha.1,fun p hp=> ?_⟩
 have hg:=(gT gC (pX (t:=t) (h:=h) ha.1) (x:=p.1) (v:=p.2)).2 hp
 by_cases h2:p.1∈eZ t
 ·obtain⟨k,hk,e⟩:=List.getElem_of_mem h2
  have hk2:k < t.2.1.length:=by rw[←jF hc.ok];exact hk
  rw[←e,hc.new hk hk2]at hg
  have hg:=(Option.some.inj hg).symm
  have ho:=kk _ _ (iM hc.ok).2.2 _ (List.getElem_mem hk2)
  have hu:=hv.1.1 _ (List.getElem_mem hk2)
  have h1:=hc.h1
  have h3:=hc.h2
  refine⟨?_,?_⟩
  ·rw[←e]
   have hm:eZ t=nL (mG t) 0 t.2.1.length:=by unfold eZ;rw[if_pos hc.ok]
   simp only[hm,nL,List.getElem_map]
   have:=(Ar (t:=t))
   exact⟨this.1,fun x hx=>this.2 x hx⟩
  ·rw[hg]
   exact⟨ho.2,hu.1,ho.1.1,ho.1.2,by show 0≤h;omega,h3⟩
 ·by_cases h1:p.1∈dJ t
  ·rw[hc.D0 ha.1 h1]at hg;cases hg
  ·rw[wk ha.1 h1 h2]at hg
   exact ha.2 p ((gT gC ha.1).1 hg)
theorem jq.again(hc:jq t h a iB)(ha:(gZ a).Nodup)(h':Int)(h1:1≤h')(h2:h'≤1048576):ee t h' (fO t h a)=(0,5):=by
 unfold ee
 rw[if_pos ⟨hc.ok,h1,h2⟩]
 have hl:=(iM hc.ok).1.1
 have hs:dJ t=t.1.map (·.1):=by unfold dJ;rw[if_pos hc.ok]
 cases ht:t.1 with
 |nil=>rw[ht]at hl;simp at hl
 |cons x l=>
  have hg:=hc.D0 ha (o:=x.1) (by rw[hs,ht];simp)
  simp only[iX,hg]
end
end Go.Ab
namespace Go.Ab
open Go.Proofs
set_option maxRecDepth 100000
set_option linter.unusedVariables false
set_option linter.unusedSimpArgs false
set_option synthInstance.maxSize 5000
theorem Es(k:Int):jd (fb k):=(yS _ _).u
def mT:List Int:=[152,45,158,62,185,150,245,89,230,51,244,209,148,222,243,118,29,144,159,90,59,100,125,26,133,31,234,214,124,50,201,209]
theorem s3:im 3 mT=(2066670005889522986,1913675330412042729,()):=by decide+kernel
set_option synthInstance.maxSize 5000
theorem u0:jd 0:=⟨Int.le_refl 0,by decide⟩
theorem zQ{x:Int}{l:List Int}(h:jd x)(hl:nG l):nG (x::l):=fun p hp=>by
 rcases List.mem_cons.1 hp with rfl | hp
 ·exact h
 ·exact hl p hp
theorem BP:nG []:=fun p hp=>by cases hp
theorem EV{ks:List Int}(h:nG ks):Cm (Bn ks):=fun b hb=>by
 have hb:b∈ [(ks,(0:Int),(0:Int),(0:Int),())]:=hb
 rw[List.mem_singleton]at hb
 subst hb
 exact⟨h,u0⟩
theorem H0:sC 0=true:=rfl
theorem Eu(ks:List Int)(a d:Int)(h:ks.length≤12):o3 (ks,a,d,0,())=(ks.all mA && (sC a && sC d)):=by
 have e:o3 (ks,a,d,0,())=(decide (ks.length≤12) && (ks.all mA && (sC a && (sC d && true)))):=rfl
 rw[e,aX h,Bool.true_and,Bool.and_true]
theorem Dj(ks:List Int)(h:ks.length≤12):jJ (Bn ks)=ks.all mA:=by
 have e:jJ (Bn ks)=((o3 (ks,0,0,0,()) && true) && true):=rfl
 rw[e,Eu _ _ _ h,H0,Bool.and_true,Bool.and_true,Bool.and_true,Bool.and_true]
def DC(b:iA)(sg:List Sg)(s:Int)(m:List Int)(height age:Int):Int:=
 if height < b.2.1∨age < b.2.2.1 then 11
 else if b.2.2.2.1≠0∧fb s≠b.2.2.2.1 then 23
 else if sg.length≠b.1.length then 7
 else if lj m b.1 sg then 0 else 7
theorem E5{l:Lk}{i:Nat}{b:iA}(hok:jJ l=true)(hi:i < l.1.length)(hb:l.1[i]=b)(sg:List Sg)(s:Int)(m:List Int)(h a:Int):jV l ((i:Int),sg,s,()) m h a=DC b sg s m h a:=by
 have n1:nth (.pair (.slice (.int .u64)) (.pair (.int .i64) (.pair (.int .i64) (.pair (.int .u64) .unit)))) l.1 i=l.1[i]:=cm (t:=(.pair (.slice (.int .u64)) (.pair (.int .i64) (.pair (.int .i64) (.pair (.int .u64) .unit))))) hi
 unfold jV
 rw[if_neg (by
  intro hh
  rcases hh with hh | hh | hh
  ·rw[hok]at hh;cases hh
  ·have hh:(i:Int) < 0:=hh
   omega
  ·have hh:(i:Int)≥l.1.length:=hh
   omega)]
 show(if h < (nth (.pair (.slice (.int .u64)) (.pair (.int .i64) (.pair (.int .i64) (.pair (.int .u64) .unit)))) l.1 i).2.1∨a < (nth (.pair (.slice (.int .u64)) (.pair (.int .i64) (.pair (.int .i64) (.pair (.int .u64) .unit)))) l.1 i).2.2.1 then 11 else if(nth (.pair (.slice (.int .u64)) (.pair (.int .i64) (.pair (.int .i64) (.pair (.int .u64) .unit)))) l.1 i).2.2.2.1≠0∧fb s≠(nth (.pair (.slice (.int .u64)) (.pair (.int .i64) (.pair (.int .i64) (.pair (.int .u64) .unit)))) l.1 i).2.2.2.1 then 23 else if sg.length≠(nth (.pair (.slice (.int .u64)) (.pair (.int .i64) (.pair (.int .i64) (.pair (.int .u64) .unit)))) l.1 i).1.length then 7 else if lj m (nth (.pair (.slice (.int .u64)) (.pair (.int .i64) (.pair (.int .i64) (.pair (.int .u64) .unit)))) l.1 i).1 sg then 0 else 7)=_
 rw[n1,hb]
 rfl
theorem uH(m:List Int):∀ks:List Int,(∀k∈ks,0 < k∧k < 2305843009213688669)→lj m (ks.map fb) (ks.map fun k=>im k m)=true
 |[],_=>rfl
 |k::ks,h=>by
  have hk:=h k List.mem_cons_self
  show(lQ (fb k) m 1 (im k m) && lj m (ks.map fb) (ks.map fun k=>im k m))=true
  rw[Fh k m hk.1 hk.2,uH m ks fun x hx=>h x (List.mem_cons_of_mem _ hx)]
  rfl
theorem w4(ks:List Int)(hk:∀k∈ks,0 < k∧k < 2305843009213688669)(af dl sc s:Int)(m:List Int)(h a:Int)(hs:sc=0∨fb s=sc):
  DC (ks.map fb,af,dl,sc,()) (ks.map fun k=>im k m) s m h a=if h < af∨a < dl then 11 else 0:=by
 have e:DC (ks.map fb,af,dl,sc,()) (ks.map fun k=>im k m) s m h a=if h < af∨a < dl then 11 else if sc≠0∧fb s≠sc then 23 else if(ks.map fun k=>im k m).length≠(ks.map fb).length then 7 else if lj m (ks.map fb) (ks.map fun k=>im k m) then 0 else 7:=rfl
 rw[e,uH m ks hk,if_neg (c:=sc≠0∧fb s≠sc) (by rintro⟨h1,h2⟩;exact hs.elim h1 h2),if_neg (c:=(ks.map fun k=>im k m).length≠(ks.map fb).length) (by rw[List.length_map,List.length_map];exact fun x=>x rfl)]
 rfl
theorem HI{k:Int}(h:0 < k∧k < 2305843009213688669):∀x∈ [k],0 < x∧x < 2305843009213688669:=fun x hx=>by rw[List.mem_singleton]at hx;subst hx;exact h
set_option synthInstance.maxSize 5000
def z32:List Int:=List.replicate 32 0
def uM:Lk:=Bn [fb 7]
def uN:eT:=([((z32,((0:Int),())),(((0:Int),(([]:List Sg),((0:Int),()))),()))],([((90:Int),(uM,()))],((0:Int),())))
def mI:eT:=sH uN (Int.toNat 0) (vd uN 0 [7] 0)
def kz:At:=[rW 0 ((100:Int),(uM,()))]
theorem GK:oF uN 0 0 [7]=true:=by decide+kernel
theorem Io:¬mG uN=z32:=by decide+kernel
theorem b7:jd (fb 7):=Es 7
theorem Gm:Cm uM:=EV (zQ b7 BP)
theorem Dm:jJ uM=true:=by
 unfold uM
 rw[Dj [fb 7] (by decide)]
 simp only[List.all_cons,List.all_nil,tI,Bool.and_true]
theorem I1:nR uN:=by
 refine⟨⟨fun o ho=> ?_,by decide,by decide⟩,fun x hx=> ?_,by decide⟩
 ·have ho:o∈ [((90:Int),(uM,()))]:=ho
  rw[List.mem_singleton]at ho
  subst ho
  exact⟨Gm,by show 1≤_;decide⟩
 ·have hx:x∈ [((z32,((0:Int),())),(((0:Int),(([]:List Sg),((0:Int),()))),()))]:=hx
  rw[List.mem_singleton]at hx
  subst hx
  refine⟨⟨by show z32.length=32;unfold z32;rw[List.length_replicate],fun y hy=> ?_⟩,⟨fun s hs=>(by cases hs),by show(0:Int)≤0;decide,by show(0:Int) < 18446744073709551616;decide⟩,Nat.zero_le _⟩
  have hy:y∈List.replicate 32 (0:Int):=hy
  obtain rfl:=(List.mem_replicate.1 hy).2
  exact⟨by decide,by decide⟩
theorem HS:jd 0:=⟨by decide,by decide⟩
theorem pb:gD mI=true∧nR mI∧mG mI=mG uN∧dJ mI=dJ uN∧eZ mI=eZ uN:=DU I1 GK HS
theorem HH:gD uN=true:=(uk GK).1
theorem HQ:dJ mI=[(z32,((0:Int),()))]:=by
 rw[pb.2.2.2.1]
 unfold dJ
 rw[if_pos HH]
 rfl
theorem Gq:eZ mI=[(mG uN,((0:Int),()))]:=by
 rw[pb.2.2.2.2]
 unfold eZ
 rw[if_pos HH]
 rfl
theorem Il:mI.1=[((z32,((0:Int),())),(((((0:Nat):Int),([7].map (fun k=>im k (mG uN)),((0:Int),())))),()))]:=rfl
theorem Ip(m:List Int)(h a:Int)(hh:0≤h)(ha:0≤a):jV uM (((0:Nat):Int),([7].map (fun k=>im k m),((0:Int),()))) m h a=0:=by
 have s1:=w4 [7] (HI (k:=7) (by decide)) 0 0 0 0 m h a (.inl rfl)
 rw[if_neg (by omega)]at s1
 exact(E5 (l:=uM) (i:=0) (b:=([7].map fb,0,0,0,())) Dm (by show 0 < 1;decide) rfl _ _ _ _ _).trans s1
theorem g14:cO cj (z32,((0:Int),())) kz=some (((100:Int),(uM,())),((0:Int),())):=by
 unfold kz rW
 rw[fR]
 exact if_pos ((qa _ _).2 rfl)
theorem n14(m:List Int)(hm:¬m=z32):cO cj (m,((0:Int),())) kz=none:=by
 unfold kz rW
 rw[fR,if_neg,oS]
 intro e
 have:=(qa _ _).1 e
 exact hm (congrArg (fun o:cR=>o.1) this)
theorem Db{h:Int}{m:List Int}{a:At}{x:fZ}{c:eS}{f:Int}(hg:cO cj x.1 a=some c)(ho:jV c.1.2.1 x.2.1 m h (h - c.2.1)=0)(hf:c.1.1=f):iX h m a [x] 0= .inr f:=by
 subst hf
 simp only[iX,hg,ho,ne_eq,not_true_eq_false,if_false,Int.zero_add]
theorem xQ{o:cR}{c:eS}:mw [o] [(o,c)]=[]:=by
 show gJ cj o [(o,c)]=[]
 rw[nr]
 exact if_pos ((qa _ _).2 rfl)
theorem BI{o:cR}{c:eS}{a:At}(hg:cO cj o a=some c):nK a [o]=[(o,(c,()))]:=by
 simp only[nK,hg,Option.getD_some]
theorem EI{o:cR}{c:eS}:cO cj o [(o,c)]=some c:=by
 rw[fR]
 exact if_pos ((qa _ _).2 rfl)
theorem Ex(h:Int)(h1:1≤h)(h2:h≤1048576):ee mI h kz=(10,0):=by
 have hne:=Io
 have hmd:=Gq
 have hin:=Il
 have hid:=pb.2.2.1
 generalize mG uN=m at hne hmd hin hid
 unfold ee
 rw[if_pos ⟨pb.1,h1,h2⟩,hin,hid]
 have e:iX h m kz [((z32,((0:Int),())),(((((0:Nat):Int),([7].map (fun k=>im k m),((0:Int),())))),()))] 0= .inr 100:=by
  simp only[iX,g14]
  exact Db (x:=((z32,((0:Int),())),(((((0:Nat):Int),([7].map (fun k=>im k m),((0:Int),())))),()))) (c:=(((100:Int),(uM,())),((0:Int),()))) g14 (Ip m h (h - 0) (by omega) (by omega)) rfl
 rw[e,hmd]
 have n1:([(m,((0:Int),()))]:List cR).any (kB kz)=false:=by
  simp only[List.any_cons,List.any_nil,kB,n14 m hne,Option.isSome_none,Bool.or_false]
 simp only[n1,Bool.false_eq_true,if_false]
 rfl
def uK(h:Int):At:=[((mG uN,((0:Int),())),(((90:Int),(uM,())),(h,())))]
theorem FR(h:Int):fO mI h kz=uK h:=by
 unfold fO uK
 rw[HQ,Gq]
 generalize mG uN=m
 have e:mw [(z32,((0:Int),()))] kz=[]:=by
  exact xQ
 rw[e]
 rfl
theorem GP:stepOf mI kz=([((z32,((0:Int),())),((((100:Int),(uM,())),((0:Int),())),()))],([(mG uN,((0:Int),()))],())):=by
 unfold stepOf
 rw[HQ,Gq]
 rw[BI g14]
theorem IK(h:Int):Bg (uK h) (stepOf mI kz)=kz:=by
 rw[GP]
 unfold Bg uK
 generalize mG uN=m
 have e:mw [(m,((0:Int),()))] [((m,((0:Int),())),(((90:Int),(uM,())),(h,())))]=[]:=by
  exact xQ
 rw[e]
 rfl
theorem Ik(h:Int):cO cj (mG uN,((0:Int),())) (uK h)=some (((90:Int),(uM,())),(h,())):=by
 unfold uK
 generalize mG uN=m
 exact EI
theorem zo:uJ kz:=by
 refine⟨by decide,fun p hp=> ?_⟩
 have hp:p∈ [rW 0 ((100:Int),(uM,()))]:=hp
 rw[List.mem_singleton]at hp
 subst hp
 refine⟨⟨by show(List.replicate 32 (0:Int)).length=32;rw[List.length_replicate],fun x hx=> ?_⟩,Dm,Gm,by show(0:Int)≤100;decide,by show(100:Int)≤_;decide,by show(0:Int)≤0;decide,by show(0:Int)≤_;decide⟩
 have hx:x∈List.replicate 32 (0:Int):=hx
 obtain rfl:=(List.mem_replicate.1 hx).2
 exact⟨by decide,by decide⟩
theorem Hl(h:Int)(h1:1≤h)(h2:h≤1048576):jq mI h kz 10:=by
 have:=wx (t:=mI) (h:=h) (a:=kz) (by rw[Ex h h1 h2])
 rw[Ex h h1 h2]at this
 exact this
theorem Ig(h:Int)(h1:1≤h)(h2:h≤1048576):uJ (uK h):=by
 rw[←FR];exact(Hl h h1 h2).mN zo pb.2.1
theorem HF:bu.call [((100:Int),(uM,()))]=some (.inr (kz,[])):=by
 rw[bu.run (d:=[((100:Int),(uM,()))]) (fun o ho=>by
  rw[List.mem_singleton]at ho
  subst ho
  exact⟨Gm,by show 1≤_;decide,by show(100:Int)≤_;decide⟩)]
 have e:u5 [((100:Int),(uM,()))]=some kz:=by
  unfold u5
  rw[if_pos (by decide)]
  have e0:nv 0 ((100:Int),(uM,()))=true:=by
   unfold nv
   rw[Dm]
   rfl
  simp only[sE,e0,Option.map_some]
  rfl
 simp only[bu.add,bu.F,e]
theorem GH:bG.call (uN,0,0,[7],0)=some (mI,0):=by
 rw[bG.run (d:=(uN,0,0,[7],0)) ⟨I1,fun x hx=>by rw[List.mem_singleton]at hx;subst hx;exact⟨by decide,by decide⟩,by decide⟩]
 simp only[bG.add,bG.F,DT,GK,if_true]
 rfl
def Hc:eT:=(([]:List fZ),(([]:List fu),((0:Int),())))
theorem Ii:nR Hc:=⟨⟨fun o ho=>(by cases ho),by decide,by decide⟩,fun x hx=>(by cases hx),by decide⟩
theorem Ih(h:Int)(a:At):ee Hc h a=(0,1):=by
 have:gD Hc=false:=by decide+kernel
 unfold ee
 rw[if_neg (fun e=>by rw[this]at e;cases e.1)]
abbrev bh.D:=Unit
def bh.st:bh.D→SA:=fun _=>([],[])
abbrev bh.Y:=Bool
abbrev bh.X:=Bool
def bh.out:bh.X→bk:=fun x=>⟨.d .bool x,[],[]⟩
def bh.add:bh.D→bh.Y→bh.X:=fun _ y=>y
def bh.aC:bh.D→Prop:=fun _=>True
def bh.F:bh.D→bh.Y:=fun _=>true
noncomputable def bh.G:dZ:=fh (P:=Tryz.prog) [dw.sg,fM.sg,bu.sg,bG.sg,aB.sg,aP.sg,tid.sg,dF.sg,bC.sg,aQ.sg,bF.sg]
noncomputable def bh.an:eO:= {}
noncomputable def bh.A:= @cZ Tryz.prog bh.G bh.an 0 Tryz.f25 _ bh.st
abbrev bh.Ok:=da @bh.A bh.aC bh.add bh.F bh.out
theorem bh.eq{R:Type}(k:bk→Option R):bh.A () k=
  ah (dw.call (7:Int)) fun x7=>
  ah (fM.call x7) fun x8=>
  ah (bu.call [((100:Int),(x8,()))]) fun x12=>
  aJ (x12.isLeft) (
   ah (x12.getLeft?) fun x12l=>
   k (bh.out false)) (
   ah (x12.getRight?) fun x12r=>
   ah (bG.call (([(((List.replicate 32 (0:Int)),((0:Int),())),(((0:Int),(([]:List Sg),((0:Int),()))),()))],([((90:Int),(x8,()))],((0:Int),()))),(0:Int),(0:Int),[(7:Int)],(0:Int))) fun x16=>
   ah (aB.call (x16.1,(1:Int),0,x12r.1,x12r.2)) fun x20=>
   ah (aB.call ((([]:List fZ),(([]:List fu),((0:Int),()))),(1:Int),x20.2.2.1,x20.2.2.2.1,x20.2.2.2.2)) fun x24=>
   ah (aP.call (x16.1,(5:Int),x24.2.2.1,x24.2.2.2.1,x24.2.2.2.2)) fun x25=>
   aJ (x25.isLeft) (
    ah (x25.getLeft?) fun x25l=>
    ah (tid.call x16.1) fun x32=>
    ah (dF.call ((x32,((0:Int),())),x25l.2.1,x25l.2.2.1,x25l.2.2.2)) fun x33=>
    ah (aP.call (x16.1,(5:Int),x33.1.1,x33.1.2.1,x33.1.2.2)) fun x34=>
    aJ (x34.isLeft) (
     ah (x34.getLeft?) fun x34l=>
     ah (bC.call (x34l.2.1,x34l.2.2.1,x34l.2.2.2)) fun x38=>
     aJ ((jB x16.2 (0:Int))) (
      aJ ((jB x20.2.1 (0:Int))) (
       aJ ((jB x20.1 (10:Int))) (
        aJ ((jB x24.2.1 (1:Int))) (
         aJ ((jB x25l.1 (0:Int))) (
          aJ (x33.2.2) (
           aJ ((jB x33.2.1.2.1 (5:Int))) (
            aJ ((jB x33.2.1.1.1 (90:Int))) (
             aJ ((jB x34l.1 (5:Int))) (
              aJ ((jB x38.1 (90:Int))) (
               ah (aQ.call (x38.2.1,x38.2.2.1,x38.2.2.2)) fun x43=>
               aJ (x43.1) (
                ah (bC.call (x43.2.1,x43.2.2.1,x43.2.2.2)) fun x44=>
                aJ ((jB x44.1 (100:Int))) (
                 ah (aQ.call (x44.2.1,x44.2.2.1,x44.2.2.2)) fun x45=>
                 aJ ((!x45.1)) (
                  ah (bF.call (x45.2.1,x45.2.2.1,x45.2.2.2)) fun x46=>
                  k (bh.out (jB ((x46.1:Nat):Int) (1:Int)))) (
                  k (bh.out false))) (
                 k (bh.out false))) (
                k (bh.out false))) (
               k (bh.out false))) (
              k (bh.out false))) (
             k (bh.out false))) (
            k (bh.out false))) (
           k (bh.out false))) (
          k (bh.out false))) (
         k (bh.out false))) (
        k (bh.out false))) (
       k (bh.out false))) (
      k (bh.out false))) (
     ah (x34.getRight?) fun x34r=>
     ah (bC.call (x34r.2.1,x34r.2.2.1,x34r.2.2.2)) fun x50=>
     aJ ((jB x16.2 (0:Int))) (
      aJ ((jB x20.2.1 (0:Int))) (
       aJ ((jB x20.1 (10:Int))) (
        aJ ((jB x24.2.1 (1:Int))) (
         aJ ((jB x25l.1 (0:Int))) (
          aJ (x33.2.2) (
           aJ ((jB x33.2.1.2.1 (5:Int))) (
            aJ ((jB x33.2.1.1.1 (90:Int))) (
             aJ ((jB x34r.1 (5:Int))) (
              aJ ((jB x50.1 (90:Int))) (
               ah (aQ.call (x50.2.1,x50.2.2.1,x50.2.2.2)) fun x55=>
               aJ (x55.1) (
                ah (bC.call (x55.2.1,x55.2.2.1,x55.2.2.2)) fun x56=>
                aJ ((jB x56.1 (100:Int))) (
                 ah (aQ.call (x56.2.1,x56.2.2.1,x56.2.2.2)) fun x57=>
                 aJ ((!x57.1)) (
                  ah (bF.call (x57.2.1,x57.2.2.1,x57.2.2.2)) fun x58=>
                  k (bh.out (jB ((x58.1:Nat):Int) (1:Int)))) (
                  k (bh.out false))) (
                 k (bh.out false))) (
                k (bh.out false))) (
               k (bh.out false))) (
              k (bh.out false))) (
             k (bh.out false))) (
            k (bh.out false))) (
           k (bh.out false))) (
          k (bh.out false))) (
         k (bh.out false))) (
        k (bh.out false))) (
       k (bh.out false))) (
      k (bh.out false)))) (
    ah (x25.getRight?) fun x25r=>
    ah (tid.call x16.1) fun x65=>
    ah (dF.call ((x65,((0:Int),())),x25r.2.1,x25r.2.2.1,x25r.2.2.2)) fun x66=>
    ah (aP.call (x16.1,(5:Int),x66.1.1,x66.1.2.1,x66.1.2.2)) fun x67=>
    aJ (x67.isLeft) (
     ah (x67.getLeft?) fun x67l=>
     ah (bC.call (x67l.2.1,x67l.2.2.1,x67l.2.2.2)) fun x71=>
     aJ ((jB x16.2 (0:Int))) (
      aJ ((jB x20.2.1 (0:Int))) (
       aJ ((jB x20.1 (10:Int))) (
        aJ ((jB x24.2.1 (1:Int))) (
         aJ ((jB x25r.1 (0:Int))) (
          aJ (x66.2.2) (
           aJ ((jB x66.2.1.2.1 (5:Int))) (
            aJ ((jB x66.2.1.1.1 (90:Int))) (
             aJ ((jB x67l.1 (5:Int))) (
              aJ ((jB x71.1 (90:Int))) (
               ah (aQ.call (x71.2.1,x71.2.2.1,x71.2.2.2)) fun x76=>
               aJ (x76.1) (
                ah (bC.call (x76.2.1,x76.2.2.1,x76.2.2.2)) fun x77=>
                aJ ((jB x77.1 (100:Int))) (
                 ah (aQ.call (x77.2.1,x77.2.2.1,x77.2.2.2)) fun x78=>
                 aJ ((!x78.1)) (
                  ah (bF.call (x78.2.1,x78.2.2.1,x78.2.2.2)) fun x79=>
                  k (bh.out (jB ((x79.1:Nat):Int) (1:Int)))) (
                  k (bh.out false))) (
                 k (bh.out false))) (
                k (bh.out false))) (
               k (bh.out false))) (
              k (bh.out false))) (
             k (bh.out false))) (
            k (bh.out false))) (
           k (bh.out false))) (
          k (bh.out false))) (
         k (bh.out false))) (
        k (bh.out false))) (
       k (bh.out false))) (
      k (bh.out false))) (
     ah (x67.getRight?) fun x67r=>
     ah (bC.call (x67r.2.1,x67r.2.2.1,x67r.2.2.2)) fun x83=>
     aJ ((jB x16.2 (0:Int))) (
      aJ ((jB x20.2.1 (0:Int))) (
       aJ ((jB x20.1 (10:Int))) (
        aJ ((jB x24.2.1 (1:Int))) (
         aJ ((jB x25r.1 (0:Int))) (
          aJ (x66.2.2) (
           aJ ((jB x66.2.1.2.1 (5:Int))) (
            aJ ((jB x66.2.1.1.1 (90:Int))) (
             aJ ((jB x67r.1 (5:Int))) (
              aJ ((jB x83.1 (90:Int))) (
               ah (aQ.call (x83.2.1,x83.2.2.1,x83.2.2.2)) fun x88=>
               aJ (x88.1) (
                ah (bC.call (x88.2.1,x88.2.2.1,x88.2.2.2)) fun x89=>
                aJ ((jB x89.1 (100:Int))) (
                 ah (aQ.call (x89.2.1,x89.2.2.1,x89.2.2.2)) fun x90=>
                 aJ ((!x90.1)) (
                  ah (bF.call (x90.2.1,x90.2.2.1,x90.2.2.2)) fun x91=>
                  k (bh.out (jB ((x91.1:Nat):Int) (1:Int)))) (
                  k (bh.out false))) (
                 k (bh.out false))) (
                k (bh.out false))) (
               k (bh.out false))) (
              k (bh.out false))) (
             k (bh.out false))) (
            k (bh.out false))) (
           k (bh.out false))) (
          k (bh.out false))) (
         k (bh.out false))) (
        k (bh.out false))) (
       k (bh.out false))) (
      k (bh.out false))))):=by kernel_rfl
theorem CA:gb kz=100:=rfl
theorem CB(h:Int):gb (uK h)=90:=by
 unfold uK gb
 simp
theorem bh.ok:bh.Ok:=by
 rintro⟨⟩ _
 have c1:dw.call 7=some (fb 7):=dw.run (d:=7) ⟨by decide,by decide⟩
 have c2:fM.call (fb 7)=some uM:=fM.run (d:=fb 7) trivial
 have c3:=HF
 have c4:=GH
 have c5:aB.call (mI,1,0,kz,[])=some (10,0,0,kz,[]):=by
  rw[aB.run (d:=(mI,1,0,kz,[])) ⟨pb.2.1,zo⟩]
  simp only[aB.add,aB.F,Ex 1 (by decide) (by decide)]
 have c6:aB.call (Hc,1,0,kz,[])=some (0,1,0,kz,[]):=by
  rw[aB.run (d:=(Hc,1,0,kz,[])) ⟨Ii,zo⟩]
  simp only[aB.add,aB.F,Ih]
 have c7:aP.call (mI,5,0,kz,[])=some (.inr (0,1,uK 5,[stepOf mI kz])):=by
  rw[aP.run (d:=(mI,5,0,kz,[])) ⟨pb.2.1,zo,Nat.zero_le _,Nat.zero_le _⟩]
  simp only[aP.add,aP.F,Ex 5 (by decide) (by decide),FR]
  rfl
 obtain⟨m,hm⟩:∃m,mG uN=m:=⟨_,rfl⟩
 have c8:tid.call mI=some m:=by
  rw[tid.run (d:=mI) pb.2.1]
  simp only[tid.add,tid.F,pb.2.2.1,hm]
 have hbg:=Ig 5 (by decide) (by decide)
 have c9:dF.call ((m,((0:Int),())),1,uK 5,[stepOf mI kz])=some ((1,uK 5,[stepOf mI kz]),((((90:Int),(uM,())),((5:Int),())),true)):=by
  rw[dF.run (d:=((m,((0:Int),())),1,uK 5,[stepOf mI kz])) hbg]
  have g:=Ik 5
  rw[hm]at g
  exact congrArg some (congrArg (fun z=>((1,uK 5,[stepOf mI kz]),z)) (congrArg (fun z:Option eS=>(z.getD v8,z.isSome)) g))
 have c10:aP.call (mI,5,1,uK 5,[stepOf mI kz])=some (.inl (5,1,uK 5,[stepOf mI kz])):=by
  rw[aP.run (d:=(mI,5,1,uK 5,[stepOf mI kz])) ⟨pb.2.1,hbg,Nat.le_refl _,by show 1≤_;decide⟩]
  have e:=(Hl 5 (by decide) (by decide)).again zo.1 5 (by decide) (by decide)
  rw[FR]at e
  simp only[aP.add,aP.F,e]
  rfl
 have c11:∀n s,bC.call (n,uK 5,s)=some (90,n,uK 5,s):=fun n s=>by
  rw[bC.run (d:=(n,uK 5,s)) ⟨fun p hp=>(hbg.2 p hp).2.2.2.1,by rw[CB];decide⟩]
  simp only[bC.add,bC.F,CB]
 have c12:aQ.call (1,uK 5,[stepOf mI kz])=some (true,0,kz,[stepOf mI kz]):=by
  rw[aQ.run (d:=(1,uK 5,[stepOf mI kz])) ⟨Nat.le_refl _,by show 1≤_;decide,fun st hst=>by
   rw[List.mem_singleton]at hst
   subst hst
   rw[GP]
   exact⟨by show 1≤_;decide,by show 1≤_;decide⟩⟩]
  have e:nth eB [stepOf mI kz] (1 - 1)=stepOf mI kz:=rfl
  simp only[aQ.add,aQ.F,e,IK]
  rfl
 have c13:∀n s,bC.call (n,kz,s)=some (100,n,kz,s):=fun n s=>by
  rw[bC.run (d:=(n,kz,s)) ⟨fun p hp=>(zo.2 p hp).2.2.2.1,by rw[CA];decide⟩]
  simp only[bC.add,bC.F,CA]
 have c14:aQ.call (0,kz,[stepOf mI kz])=some (false,0,kz,[stepOf mI kz]):=by
  rw[aQ.run (d:=(0,kz,[stepOf mI kz])) ⟨Nat.zero_le _,by show 1≤_;decide,fun st hst=>by
   rw[List.mem_singleton]at hst
   subst hst
   rw[GP]
   exact⟨by show 1≤_;decide,by show 1≤_;decide⟩⟩]
  simp only[aQ.add,aQ.F,if_true]
 have c15:∃x,bF.call (0,kz,[stepOf mI kz])=some (1,x):=by
  refine⟨_,bF.run (d:=(0,kz,[stepOf mI kz])) ⟨by show 1≤_;decide,fun p hp=>(zo.2 p hp).1⟩⟩
 obtain⟨x15,c15⟩:=c15
 generalize hS:stepOf mI kz=S at c7 c9 c10 c12 c14 c15
 rw[bh.eq]
 refine(congrArg (fun z=>ah z _) c1).trans ?_
 rw[aa,c2,aa]
 refine(congrArg (fun z=>ah z _) c3).trans ?_
 rw[aa]
 simp only[Sum.isLeft_inr,ai,Sum.getRight?_inr,aa]
 refine(congrArg (fun z=>ah z _) c4).trans ?_
 rw[aa]
 refine(congrArg (fun z=>ah z _) c5).trans ?_
 rw[aa]
 refine(congrArg (fun z=>ah z _) c6).trans ?_
 rw[aa]
 refine(congrArg (fun z=>ah z _) c7).trans ?_
 rw[aa]
 simp only[Sum.isLeft_inr,ai,Sum.getRight?_inr,aa]
 refine(congrArg (fun z=>ah z _) c8).trans ?_
 rw[aa]
 refine(congrArg (fun z=>ah z _) c9).trans ?_
 rw[aa]
 refine(congrArg (fun z=>ah z _) c10).trans ?_
 rw[aa]
 simp only[Sum.isLeft_inl,ag,Sum.getLeft?_inl,aa]
 refine(congrArg (fun z=>ah z _) (c11 1 [S])).trans ?_
 rw[aa]
 repeat (first | rw[ag] | rw[il rfl])
 refine(congrArg (fun z=>ah z _) c12).trans ?_
 rw[aa,ag]
 refine(congrArg (fun z=>ah z _) (c13 0 [S])).trans ?_
 rw[aa,il rfl,ag]
 refine(congrArg (fun z=>ah z _) c14).trans ?_
 rw[aa,Bool.not_false,ag]
 refine(congrArg (fun z=>ah z _) c15).trans ?_
 rfl
noncomputable def bh.E:=Entry.cq [] bh.st bh.aC bh.add bh.F bh.out
noncomputable def bh.call:bh.D→Option bh.X:=bT bh.E bh.st
theorem bh.run:bK bh.call bh.aC bh.add bh.F:=dh (de [] fun _=>by kernel_rfl)
noncomputable def bh.sg:SG Tryz.prog:=⟨25,aY,bh.E,.fn 0 (by kernel_rfl) bh.ok trivial⟩
set_option synthInstance.maxSize 5000
abbrev bB.L0.D:=(List fu)×(List iW)×Int
def bB.L0.st:bB.L0.D→AS:=fun(outs_2,acts_2,i)=>⟨([.d (.slice eN) outs_2,.d (.slice fA) acts_2,.undef,.undef,.undef,.d ti i]++ba 32 []),[],(List.replicate 38 [])⟩
abbrev bB.L0.Y0:=Unit
abbrev bB.L0.X0:=Unit
def bB.L0.bj:bB.L0.X0→Exit×AS:=fun x=>(.ret,⟨(ba 4 ([.d .bool false]++ba 33 [])),[],(List.replicate 38 [])⟩)
abbrev bB.L0.Y1:=Unit
abbrev bB.L0.X1:=(List fu)×(List iW)
def bB.L0.e7:bB.L0.X1→Exit×AS:=fun x=>(.exit 0,⟨([.d (.slice eN) x.1,.d (.slice fA) x.2]++ba 36 []),[],(List.replicate 38 [])⟩)
abbrev bB.L0.X:=(bB.L0.X0)⊕(bB.L0.X1)
abbrev bB.L0.Y:=(bB.L0.Y0)⊕(bB.L0.Y1)
def bB.L0.out:bB.L0.X→Out (Exit×AS):=fun x=> .br x.isLeft (.get x.getLeft? fun a=> .ok (bB.L0.bj a)) (.get x.getRight? fun b=> .ok (bB.L0.e7 b))
def bB.L0.add:bB.L0.D→bB.L0.Y→bB.L0.X:=fun(outs_2,acts_2,i) y=>match y with | .inl y=> .inl y | .inr z=> .inr ((outs_2,acts_2))
abbrev bB.D:=(List fu)×(List iW)
def bB.st:bB.D→SA:=fun(outs,acts)=>([.d (.slice eN) outs,.d (.slice fA) acts],[])
abbrev bB.Y:=Bool
abbrev bB.X:=Bool
def bB.out:bB.X→bk:=fun x=>⟨.d .bool x,[],[]⟩
def bB.add:bB.D→bB.Y→bB.X:=fun(outs,acts) y=>y
def pa(a:iW):Bool:=decide (a.2.1.1.length≤8) && decide (a.2.1.2.1.length≤8)
def xW(outs:List fu)(acts:List iW):Bool:=acts.all pa && (decide (outs.length≤20) && decide (acts.length≤20))
def bB.L0.aC:bB.L0.D→Prop:=fun(outs,acts,i)=>acts.length≤9223372036854775807∧∃k:Nat,k≤acts.length∧i=k
def bB.L0.F:bB.L0.D→bB.L0.Y:=fun(_,acts,i)=>if(acts.drop i.toNat).all pa then .inr () else .inl ()
def bB.aC:bB.D→Prop:=fun(outs,acts)=>acts.length≤9223372036854775807
def bB.F:bB.D→bB.Y:=fun(outs,acts)=>xW outs acts
noncomputable def bB.G:dZ:=fh (P:=Tryz.prog) []
noncomputable def bB.L0.E:=bP.cq bB.L0.st bB.L0.aC bB.L0.add bB.L0.F bB.L0.out
noncomputable def bB.L0.call:bB.L0.D→Option bB.L0.X:=cX bB.L0.E bB.L0.st
noncomputable def bB.an:eO:= {loops:=j7 [(2,{bm:=[0,1,5]})],outs:=j6 [(2,{bm:=[0,1]},{bm:=[4]})],fJ:=kW [(2,bB.L0.E)]}
noncomputable def bB.A:= @cZ Tryz.prog bB.G bB.an 0 Tryz.f26 _ bB.st
abbrev bB.Ok:=da @bB.A bB.aC bB.add bB.F bB.out
noncomputable def bB.L0.R:= @bX Tryz.prog bB.G bB.an 0 Tryz.f26 0 _ bB.L0.st
abbrev bB.L0.Ok:=ej Tryz.prog bB.G bB.an 0 Tryz.f26 0 bB.L0.st bB.L0.aC bB.L0.add bB.L0.F bB.L0.out
theorem bB.L0.run:bK bB.L0.call bB.L0.aC bB.L0.add bB.L0.F:=eG (eC [.d (.slice eN),.d (.slice fA),.d ti] fun _=>by kernel_rfl)
theorem bB.L0.aD:j5 @bB.L0.R bB.L0.st bB.L0.aC bB.L0.add bB.L0.F bB.L0.out bB.L0.Ok:=kf
theorem bB.L0.step{R:Type}(outs_2:(List fu))(acts_2:(List iW))(i:Int)(kn:AS→Option R)(kx:Exit→AS→Option R):bB.L0.R (outs_2,acts_2,i) kn kx=
  aJ ((fX i (((List.length acts_2):Nat):Int))) (
   aJ (eJ i (((List.length acts_2):Nat):Int)) (
   aJ ((mP (((List.length (nth fA acts_2 (Int.toNat i)).2.1.1):Nat):Int) (8:Int))) (
    kx (bB.L0.bj ()).1 (bB.L0.bj ()).2) (
    aJ (eJ i (((List.length acts_2):Nat):Int)) (
    aJ ((mP (((List.length (nth fA acts_2 (Int.toNat i)).2.1.2.1):Nat):Int) (8:Int))) (
     kx (bB.L0.bj ()).1 (bB.L0.bj ()).2) (
     kn (bB.L0.st (outs_2,acts_2,(bN .i64 i (1:Int)))))) none)) none) (
   kx (bB.L0.e7 (outs_2,acts_2)).1 (bB.L0.e7 (outs_2,acts_2)).2):=by kernel_rfl
theorem bB.eq{R:Type}(outs:(List fu))(acts:(List iW))(k:bk→Option R):bB.A (outs,acts) k=
  ah (bB.L0.call (outs,acts,(0:Int))) fun x1=>
  aJ (x1.isLeft) (
   ah (x1.getLeft?) fun a2=>
   k (bB.out false)) (
   ah (x1.getRight?) fun b3=>
   aJ ((BL (((List.length b3.1):Nat):Int) (20:Int))) (
    k (bB.out (BL (((List.length b3.2):Nat):Int) (20:Int)))) (
    k (bB.out false))):=by kernel_rfl
theorem bB.L0.ok:bB.L0.Ok:=by
 refine bB.L0.aD (fun(_,acts,i)=>acts.length - i.toNat) ?_
 rintro⟨outs,acts,i⟩ ⟨hl,k,hk,rfl⟩
 have hl:acts.length≤9223372036854775807:=hl
 have hk:k≤acts.length:=hk
 by_cases h:k < acts.length
 ·have n1:nth fA acts k=acts[k]:=cm (t:=fA) h
  have hd:(acts.drop k).all pa=(pa acts[k] && (acts.drop (k+1)).all pa):=by rw[List.drop_eq_getElem_cons h,List.all_cons]
  have step:∀ {R:Type} (kn:AS→Option R) (kx:Exit→AS→Option R),bB.L0.R (outs,acts,(k:Int)) kn kx=aJ (pa acts[k]) (kn (bB.L0.st (outs,acts,((k+1:Nat):Int)))) (kx (bB.L0.bj ()).1 (bB.L0.bj ()).2):=by
   intro R kn kx
   rw[bB.L0.step,bq (by omega),bt (by omega) (by omega),Int.toNat_natCast,n1,N.j4 (by omega)]
   unfold pa
   by_cases h1:acts[k].2.1.1.length≤8
   ·by_cases h2:acts[k].2.1.2.1.length≤8
    ·rw[db (by omega),db (by omega),aX h1,aX h2];rfl
    ·rw[db (by omega),dy (by omega),aX h1,bz h2];rfl
   ·rw[dy (by omega),bz h1];rfl
  cases hp:pa acts[k]
  ·right
   refine⟨bB.L0.bj (),?_,fun kn kx=> ?_⟩
   ·simp only[bB.L0.add,bB.L0.F,Int.toNat_natCast,hd,hp,Bool.false_and,Bool.false_eq_true,if_false]
    rfl
   ·rw[step,hp,ai]
  ·left
   refine⟨(outs,acts,((k+1:Nat):Int)),⟨hl,k+1,by omega,rfl⟩,by simp only[Int.toNat_natCast];omega,?_,fun kn kx=> ?_⟩
   ·simp only[bB.L0.add,bB.L0.F,Int.toNat_natCast,hd,hp,Bool.true_and]
   ·rw[step,hp,ag]
 ·right
  obtain rfl:k=acts.length:=by omega
  refine⟨bB.L0.e7 (outs,acts),?_,fun kn kx=> ?_⟩
  ·simp only[bB.L0.add,bB.L0.F,Int.toNat_natCast,List.drop_length]
   rfl
  ·rw[bB.L0.step,bg (by omega),ai]
theorem bB.ok:bB.Ok:=by
 rintro⟨outs,acts⟩ hl
 rw[bB.eq,bB.L0.run (d:=(outs,acts,0)) ⟨hl,0,Nat.zero_le _,rfl⟩]
 simp only[aa,bB.L0.add,bB.L0.F,Int.toNat_zero,List.drop_zero,bB.add,bB.F,xW]
 cases acts.all pa with
 |false=>simp only[Bool.false_eq_true,if_false,Sum.isLeft_inl,ag,Sum.getLeft?_inl,aa,Bool.false_and]
 |true=>
  simp only[if_true,Sum.isLeft_inr,ai,Sum.getRight?_inr,aa,Bool.true_and]
  by_cases h1:outs.length≤20
  ·rw[mQ (by omega),ag,aX h1,Bool.true_and]
   by_cases h2:acts.length≤20
   ·rw[mQ (by omega),aX h2]
   ·rw[ki (by omega),bz h2]
  ·rw[ki (by omega),ai,bz h1,Bool.false_and]
noncomputable def bB.E:=Entry.cq [some (.slice eN),some (.slice fA)] bB.st bB.aC bB.add bB.F bB.out
noncomputable def bB.call:bB.D→Option bB.X:=bT bB.E bB.st
theorem bB.run:bK bB.call bB.aC bB.add bB.F:=dh (de [.d (.slice eN),.d (.slice fA)] fun _=>by kernel_rfl)
noncomputable def bB.sg:SG Tryz.prog:=⟨26,aY,bB.E,.fn 1 (by kernel_rfl) bB.ok (And.intro (.cq bB.L0.ok (by kernel_rfl)) trivial)⟩
abbrev bZ.L0.D:=(List cR)×(List cR)×Int
def bZ.L0.st:bZ.L0.D→AS:=fun(a_2,b_2,i)=>⟨([.d (.slice cj) a_2,.d (.slice cj) b_2,.undef,.undef,.undef,.d ti i]++ba 20 []),[],(List.replicate 26 [])⟩
abbrev bZ.L0.Y0:=Unit
abbrev bZ.L0.X0:=Unit
def bZ.L0.bj:bZ.L0.X0→Exit×AS:=fun x=>(.ret,⟨(ba 4 ([.d .bool false]++ba 21 [])),[],(List.replicate 26 [])⟩)
abbrev bZ.L0.Y1:=Unit
abbrev bZ.L0.X1:=Unit
def bZ.L0.e7:bZ.L0.X1→Exit×AS:=fun x=>(.exit 0,⟨(ba 26 []),[],(List.replicate 26 [])⟩)
abbrev bZ.L0.X:=(bZ.L0.X0)⊕(bZ.L0.X1)
abbrev bZ.L0.Y:=(bZ.L0.Y0)⊕(bZ.L0.Y1)
def bZ.L0.out:bZ.L0.X→Out (Exit×AS):=fun x=> .br x.isLeft (.get x.getLeft? fun a=> .ok (bZ.L0.bj a)) (.get x.getRight? fun b=> .ok (bZ.L0.e7 b))
def bZ.L0.add:bZ.L0.D→bZ.L0.Y→bZ.L0.X:=fun(a_2,b_2,i) y=>match y with | .inl y=> .inl y | .inr z=> .inr (z)
abbrev bZ.D:=(List cR)×(List cR)
def bZ.st:bZ.D→SA:=fun(a,b)=>([.d (.slice cj) a,.d (.slice cj) b],[])
abbrev bZ.Y:=Bool
abbrev bZ.X:=Bool
def bZ.out:bZ.X→bk:=fun x=>⟨.d .bool x,[],[]⟩
def bZ.add:bZ.D→bZ.Y→bZ.X:=fun(a,b) y=>y
def bZ.L0.aC:bZ.L0.D→Prop:=fun(a,b,i)=>a.length≤1000000000∧a.length=b.length∧∃k:Nat,k≤a.length∧i=k
def bZ.L0.F:bZ.L0.D→bZ.L0.Y:=fun(a,b,i)=>if List.drop (Int.toNat i) a=List.drop (Int.toNat i) b then .inr () else .inl ()
def bZ.aC:bZ.D→Prop:=fun(a,_)=>a.length≤1000000000
def bZ.F:bZ.D→bZ.Y:=fun(a,b)=>decide (a=b)
noncomputable def bZ.G:dZ:=fh (P:=Tryz.prog) []
noncomputable def bZ.L0.E:=bP.cq bZ.L0.st bZ.L0.aC bZ.L0.add bZ.L0.F bZ.L0.out
noncomputable def bZ.L0.call:bZ.L0.D→Option bZ.L0.X:=cX bZ.L0.E bZ.L0.st
noncomputable def bZ.an:eO:= {loops:=j7 [(4,{bm:=[0,1,5]})],outs:=j6 [(4,{},{bm:=[4]})],fJ:=kW [(4,bZ.L0.E)]}
noncomputable def bZ.A:= @cZ Tryz.prog bZ.G bZ.an 0 Tryz.f31 _ bZ.st
abbrev bZ.Ok:=da @bZ.A bZ.aC bZ.add bZ.F bZ.out
noncomputable def bZ.L0.R:= @bX Tryz.prog bZ.G bZ.an 0 Tryz.f31 0 _ bZ.L0.st
abbrev bZ.L0.Ok:=ej Tryz.prog bZ.G bZ.an 0 Tryz.f31 0 bZ.L0.st bZ.L0.aC bZ.L0.add bZ.L0.F bZ.L0.out
theorem bZ.L0.run:bK bZ.L0.call bZ.L0.aC bZ.L0.add bZ.L0.F:=eG (eC [.d (.slice cj),.d (.slice cj),.d ti] fun _=>by kernel_rfl)
theorem bZ.L0.aD:j5 @bZ.L0.R bZ.L0.st bZ.L0.aC bZ.L0.add bZ.L0.F bZ.L0.out bZ.L0.Ok:=kf
theorem bZ.L0.step{R:Type}(a_2:(List cR))(b_2:(List cR))(i:Int)(kn:AS→Option R)(kx:Exit→AS→Option R):bZ.L0.R (a_2,b_2,i) kn kx=
  aJ ((fX i (((List.length a_2):Nat):Int))) (
   aJ (eJ i (((List.length a_2):Nat):Int)) (
   aJ (eJ i (((List.length b_2):Nat):Int)) (
   aJ ((!(Ty.beq cj (nth cj a_2 (Int.toNat i)) (nth cj b_2 (Int.toNat i))))) (
    kx (bZ.L0.bj ()).1 (bZ.L0.bj ()).2) (
    kn (bZ.L0.st (a_2,b_2,(bN .i64 i (1:Int)))))) none) none) (
   kx (bZ.L0.e7 ()).1 (bZ.L0.e7 ()).2):=by kernel_rfl
theorem bZ.eq{R:Type}(a:(List cR))(b:(List cR))(k:bk→Option R):bZ.A (a,b) k=
  aJ ((jO (((List.length a):Nat):Int) (((List.length b):Nat):Int))) (
   k (bZ.out false)) (
   ah (bZ.L0.call (a,b,(0:Int))) fun x1=>
   aJ (x1.isLeft) (
    ah (x1.getLeft?) fun a2=>
    k (bZ.out false)) (
    ah (x1.getRight?) fun b3=>
    k (bZ.out true))):=by kernel_rfl
theorem bZ.L0.ok:bZ.L0.Ok:=by
 refine bZ.L0.aD (fun(a,b,i)=>a.length - Int.toNat i) ?_
 rintro⟨a,b,i⟩ ⟨hlen,hab,k,hk,rfl⟩
 have hlen:a.length≤1000000000:=hlen
 have hab:a.length=b.length:=hab
 have hk:k≤a.length:=hk
 by_cases h:k < a.length
 ·have h2:k < b.length:=by omega
  have n1:nth cj a k=a[k]:=cm (t:=cj) h
  have n2:nth cj b k=b[k]:=cm (t:=cj) h2
  have hd:(List.drop k a=List.drop k b)=(a[k]=b[k]∧List.drop (k+1) a=List.drop (k+1) b):=by rw[List.drop_eq_getElem_cons h,List.drop_eq_getElem_cons h2,List.cons.injEq]
  have step:∀ {R:Type} (kn:AS→Option R) (kx:Exit→AS→Option R),bZ.L0.R (a,b,(k:Int)) kn kx=if a[k]=b[k] then kn (bZ.L0.st (a,b,((k+1:Nat):Int))) else kx (bZ.L0.bj ()).1 (bZ.L0.bj ()).2:=by
   intro R kn kx
   rw[bZ.L0.step,bq (by omega),bt (by omega) (by omega),bt (by omega) (by omega),Int.toNat_natCast,n1,n2]
   simp only[ag]
   rw[N.j4 (by omega)]
   by_cases hx:a[k]=b[k]
   ·rw[(qa _ _).2 hx,if_pos hx];rfl
   ·rw[if_neg hx,show Ty.beq cj a[k] b[k]=false by cases hb:Ty.beq cj a[k] b[k]with | false=>rfl | true=>exact absurd ((qa _ _).1 hb) hx];rfl
  by_cases hx:a[k]=b[k]
  ·left
   refine⟨(a,b,((k+1:Nat):Int)),⟨hlen,hab,k+1,by omega,rfl⟩,by simp only[Int.toNat_natCast];omega,?_,fun kn kx=> ?_⟩
   ·simp only[bZ.L0.add,bZ.L0.F,Int.toNat_natCast,hd,hx,true_and]
   ·rw[step,if_pos hx]
  ·right
   refine⟨bZ.L0.bj (),?_,fun kn kx=> ?_⟩
   ·simp only[bZ.L0.add,bZ.L0.F,Int.toNat_natCast,hd,hx,false_and,if_false]
    rfl
   ·rw[step,if_neg hx]
 ·right
  obtain rfl:k=a.length:=by omega
  refine⟨bZ.L0.e7 (),?_,fun kn kx=> ?_⟩
  ·simp only[bZ.L0.add,bZ.L0.F,Int.toNat_natCast,List.drop_length]
   rw[hab,List.drop_length,if_pos rfl]
   rfl
  ·rw[bZ.L0.step,bg (by omega),ai]
theorem bZ.ok:bZ.Ok:=by
 rintro⟨a,b⟩ hl
 have hl:a.length≤1000000000:=hl
 rw[bZ.eq]
 by_cases h:a.length=b.length
 ·rw[bU (by omega),ai,bZ.L0.run (d:=(a,b,0)) ⟨hl,h,0,Nat.zero_le _,rfl⟩]
  simp only[aa,bZ.L0.add,bZ.L0.F,Int.toNat_zero,List.drop_zero,bZ.add,bZ.F]
  by_cases e:a=b
  ·rw[if_pos e,aX e];rfl
  ·rw[if_neg e,bz e];rfl
 ·rw[dO (by omega),ag]
  simp only[bZ.add,bZ.F,bz (fun e:a=b=>h (by rw[e]))]
noncomputable def bZ.E:=Entry.cq [some (.slice cj),some (.slice cj)] bZ.st bZ.aC bZ.add bZ.F bZ.out
noncomputable def bZ.call:bZ.D→Option bZ.X:=bT bZ.E bZ.st
theorem bZ.run:bK bZ.call bZ.aC bZ.add bZ.F:=dh (de [.d (.slice cj),.d (.slice cj)] fun _=>by kernel_rfl)
noncomputable def bZ.sg:SG Tryz.prog:=⟨31,aY,bZ.E,.fn 1 (by kernel_rfl) bZ.ok (And.intro (.cq bZ.L0.ok (by kernel_rfl)) trivial)⟩
structure oX(m n:Nat)(a:At)(s:List dI):Prop where
 mN:uJ a
 le:n≤s.length
 len:s.length≤m
 II:∀st∈s,Cu st
 sum:gb a≤1125899906842624
 G4:a.length≤256+64*m
theorem oX.mono{m m' n:Nat}{a:At}{s:List dI}(h:oX m n a s)(hm:m≤m'):oX m' n a s:=⟨h.mN,h.le,Nat.le_trans h.len hm,h.II,h.sum,by have:=h.G4;omega⟩
theorem CC{a:At}(h:∀p∈a,0≤p.2.1.1):0≤gb a:=by
 induction a with
 |nil=>exact Int.le_refl 0
 |cons p a ih=>
  rw[gR]
  have:=h p List.mem_cons_self
  have:=ih fun q hq=>h q (List.mem_cons_of_mem _ hq)
  omega
theorem uJ.pos{a:At}(h:uJ a):0≤gb a:=CC fun p hp=>(h.2 p hp).2.2.2.1
theorem vJ:∀(l:List fu) (sum:Int) (k:Nat) {a:At},0≤sum→sum≤1125899906842624→(∀o∈l,xr o)→sE sum k l=some a→
  a.length=l.length∧gb a=gj l∧sum+gj l≤1125899906842624∧(∀o∈l,0≤o.1)∧(∀p∈a,xq p.1∧Ha p.2∧(k:Int)≤p.1.2.1)∧(gZ a).Nodup
 |[],sum,k,a,h0,h1,_,e=>by
  obtain rfl:=Option.some.inj e
  exact⟨rfl,rfl,by show sum+0≤_;omega,fun o ho=>(by cases ho),fun p hp=>(by cases hp),List.nodup_nil⟩
 |o::l,sum,k,a,h0,h1,hg,e=>by
  rw[sE]at e
  cases ho:nv sum o with
  |false=>rw[ho]at e;cases e
  |true=>
   rw[ho]at e
   simp only at e
   cases hr:sE (sum+o.1) (k+1) l with
   |none=>rw[hr]at e;cases e
   |some r=>
    rw[hr]at e
    obtain rfl:=Option.some.inj e
    have ho':=ho
    unfold nv at ho'
    simp only[Bool.and_eq_true,decide_eq_true_eq]at ho'
    obtain⟨k1,k2,k3⟩:=ho'
    obtain⟨i1,i2,i3,i4,i5,i6⟩:=vJ l (sum+o.1) (k+1) (by omega) (by omega) (fun x hx=>hg x (List.mem_cons_of_mem _ hx)) hr
    have hu:=hg o List.mem_cons_self
    refine⟨by rw[List.length_cons,List.length_cons,i1],?_,by rw[jG];omega,fun x hx=> ?_,fun p hp=> ?_,?_⟩
    ·rw[gR,jG,i2];rfl
    ·rcases List.mem_cons.1 hx with rfl | hx
     ·exact k2
     ·exact i4 x hx
    ·rcases List.mem_cons.1 hp with rfl | hp
     ·refine⟨⟨by show(List.replicate 32 (0:Int)).length=32;rw[List.length_replicate],fun x hx=> ?_⟩,⟨k1,hu.1,k2,by show o.1≤_;omega,Int.le_refl 0,by show(0:Int)≤_;decide⟩,by show(k:Int)≤k;omega⟩
      have hx:x∈List.replicate 32 (0:Int):=hx
      obtain rfl:=(List.mem_replicate.1 hx).2
      exact⟨by decide,by decide⟩
     ·have:=i5 p hp
      exact⟨this.1,this.2.1,by omega⟩
    ·show((rW k o).1::gZ r).Nodup
     refine List.nodup_cons.2 ⟨fun hm=> ?_,i6⟩
     obtain⟨p,hp,he⟩:=List.mem_map.1 hm
     have:=(i5 p hp).2.2
     have he:p.1=(rW k o).1:=he
     rw[he]at this
     have this:((k+1:Nat):Int)≤(k:Int):=this
     omega
theorem vI{outs:List fu}{a:At}(hg:∀o∈outs,xr o)(e:u5 outs=some a):oX 0 0 a []∧gb a=gj outs∧a.length=outs.length∧outs.length≤256∧(∀o∈outs,0≤o.1)∧gj outs≤1125899906842624:=by
 unfold u5 at e
 by_cases hl:outs.length≤256
 ·rw[if_pos hl]at e
  obtain⟨i1,i2,i3,i4,i5,i6⟩:=vJ outs 0 0 (by decide) (by decide) hg e
  exact⟨⟨⟨i6,fun p hp=>⟨(i5 p hp).1,(i5 p hp).2.1⟩⟩,Nat.le_refl _,Nat.le_refl _,fun st hst=>(by cases hst),by omega,by omega⟩,i2,i1,hl,i4,by omega⟩
 ·rw[if_neg hl]at e;cases e
theorem A1{outs:List fu}(hg:∀o∈outs,xr o):bu.call outs=some (match u5 outs with | none=> .inl () | some r=> .inr (r,[])):=by
 rw[bu.run (d:=outs) hg]
 simp only[bu.add,bu.F]
 cases u5 outs <;> rfl
theorem vC:∀(l:List cR) (a:At),(nK a l).length=l.length
 |[],_=>rfl
 |o::l,a=>by rw[nK,List.length_cons,List.length_cons,vC l]
theorem D2{t:eT}{h iB:Int}{a:At}(hc:jq t h a iB):Cu (stepOf t a):=by
 have h1:=(iM hc.ok).1
 have h2:=jF hc.ok
 have h3:=ql hc.ok
 unfold Cu stepOf
 rw[vC]
 exact⟨by omega,by show(eZ t).length≤1000;omega⟩
section
variable {m n:Nat} {t:eT} {h:Int} {a:At} {s:List dI}
theorem oX.app(hg:oX m n a s)(hc:jq t h a (ee t h a).1)(hv:nR t):oX (m+1) (n+1) (fO t h a) (s.take n++ [stepOf t a]):=by
 have hl:=hg.le
 have hm:=hg.len
 have hs:=hc.sum hg.mN.1
 have hp:=hc.pos
 have h1:=(iM hc.ok).1
 have e:(s.take n).length=n:=by rw[List.length_take];omega
 refine⟨hc.mN hg.mN hv,by rw[List.length_append,e];exact Nat.le_refl _,by rw[List.length_append,e];show n+1≤_;omega,fun st hst=> ?_,?_,?_⟩
 ·rcases List.mem_append.1 hst with hst | hst
  ·exact hg.II st (List.mem_of_mem_take hst)
  ·rw[List.mem_singleton.1 hst];exact D2 hc
 ·have:=hg.sum;omega
 ·have:=hg.G4;omega
theorem oX.apply(hg:oX m n a s)(hm:m≤1000)(hv:nR t):((ee t h a).2≠0∧aP.call (t,h,n,a,s)=some (.inl ((ee t h a).2,n,a,s)))∨
  (jq t h a (ee t h a).1∧(ee t h a).2=0∧aP.call (t,h,n,a,s)=some (.inr (0,n+1,fO t h a,s.take n++ [stepOf t a]))∧oX (m+1) (n+1) (fO t h a) (s.take n++ [stepOf t a])):=by
 have hr:=aP.run (d:=(t,h,n,a,s)) ⟨hv,hg.mN,hg.le,by have:=hg.len;show s.length≤_;omega⟩
 by_cases he:(ee t h a).2=0
 ·right
  refine⟨wx he,he,?_,hg.app (wx he) hv⟩
  rw[hr]
  simp only[aP.add,aP.F,he,ne_eq,not_true_eq_false,if_false]
 ·left
  refine⟨he,?_⟩
  rw[hr]
  simp only[aP.add,aP.F,ne_eq,he,not_false_eq_true,if_true]
theorem oX.check(hg:oX m n a s)(hv:nR t):aB.call (t,h,n,a,s)=some ((ee t h a).1,(ee t h a).2,n,a,s):=aB.run (d:=(t,h,n,a,s)) ⟨hv,hg.mN⟩
noncomputable def Ep(a:At):List cR:=pQ (t:=cj) pz (gZ a)
theorem oX.all(hg:oX m n a s)(hm:m≤1000):bF.call (n,a,s)=some (a.length,n,a,s,Ep a):=bF.run (d:=(n,a,s)) ⟨by have:=hg.G4;show a.length≤_;omega,fun p hp=>(hg.mN.2 p hp).1⟩
theorem oX.total(hg:oX m n a s):bC.call (n,a,s)=some (gb a,n,a,s):=bC.run (d:=(n,a,s)) ⟨fun p hp=>(hg.mN.2 p hp).2.2.2.1,by have:=hg.sum;show gb a≤_;omega⟩
theorem oX.get(hg:oX m n a s)(o:cR):dF.call (o,n,a,s)=some ((n,a,s),((cO cj o a).getD v8,(cO cj o a).isSome)):=dF.run (d:=(o,n,a,s)) hg.mN
theorem oX.copy(hg:oX m n a s)(hm:m≤1000):bo.call (n,a,s)=some (n,a,s,(s.take n).length,kZ a,s.take n):=bo.run (d:=(n,a,s)) ⟨hg.le,by have:=hg.len;show s.length≤_;omega,hg.mN.1⟩
theorem uJ.perm{a':At}(h:uJ a)(hp:a.Perm a'):uJ a':=⟨(hp.map _).nodup_iff.1 h.1,fun p hm=>h.2 p (hp.mem_iff.2 hm)⟩
theorem oX.canon(hg:oX m n a s):oX m n (kZ a) (s.take n)∧(s.take n).length=n:=by
 have hp:=od a
 have e:(s.take n).length=n:=by rw[List.length_take];have:=hg.le;omega
 exact⟨⟨hg.mN.perm hp.symm,by omega,by have:=hg.le;have:=hg.len;omega,fun st hst=>hg.II st (List.mem_of_mem_take hst),by rw[re hp];exact hg.sum,by rw[hp.length_eq];exact hg.G4⟩,e⟩
end
theorem Cz{a:At}(h:uJ a):(Ep a).Perm (gZ a):=(xg qe fun x hx=>by
 obtain⟨p,hp,rfl⟩:=List.mem_map.1 hx
 exact(h.2 p hp).1).1
end Go.Ab
namespace Go.Ab
open Go.Proofs
set_option maxRecDepth 100000
set_option linter.unusedVariables false
set_option linter.unusedSimpArgs false
set_option synthInstance.maxSize 5000
theorem C1{outs:List fu}{acts:List iW}(h:xW outs acts=true):outs.length≤20∧acts.length≤20∧∀x∈acts,x.2.1.1.length≤8∧x.2.1.2.1.length≤8:=by
 unfold xW at h
 simp only[Bool.and_eq_true,decide_eq_true_eq,List.all_eq_true]at h
 refine⟨h.2.1,h.2.2,fun x hx=> ?_⟩
 have:=h.1 x hx
 unfold pa at this
 simpa only[Bool.and_eq_true,decide_eq_true_eq]using this
abbrev Cs:=Nat×At×List dI
def mX(S:Cs)(x:iW):Cs:=if(ee x.2.1 x.2.2.1 S.2.1).2≠0 then S else(S.1+1,fO x.2.1 x.2.2.1 S.2.1,S.2.2.take S.1++ [stepOf x.2.1 S.2.1])
abbrev Ct(m:Nat)(S:Cs):Prop:=oX m S.1 S.2.1 S.2.2
theorem xv{m:Nat}{S:Cs}{x:iW}(hg:Ct m S)(hm:m≤1000)(hv:nR x.2.1):Ct (m+1) (mX S x)∧
  (aP.call (x.2.1,x.2.2.1,S.1,S.2.1,S.2.2)=some (.inr (0,mX S x))∧(ee x.2.1 x.2.2.1 S.2.1).2=0∨aP.call (x.2.1,x.2.2.1,S.1,S.2.1,S.2.2)=some (.inl ((ee x.2.1 x.2.2.1 S.2.1).2,mX S x))∧(ee x.2.1 x.2.2.1 S.2.1).2≠0):=by
 rcases hg.apply (t:=x.2.1) (h:=x.2.2.1) hm hv with⟨h1,h2⟩ | ⟨h1,h2,h3,h4⟩
 ·have e:mX S x=S:=by unfold mX;rw[if_pos h1]
  rw[e]
  exact⟨hg.mono (Nat.le_succ _),.inr ⟨h2,h1⟩⟩
 ·have e:mX S x=(S.1+1,fO x.2.1 x.2.2.1 S.2.1,S.2.2.take S.1++ [stepOf x.2.1 S.2.1]):=by unfold mX;rw[if_neg (fun e=>e h2)]
  rw[e]
  exact⟨h4,.inl ⟨h3,h2⟩⟩
theorem pt:∀(l:List iW) {m:Nat} {S:Cs},Ct m S→m+l.length≤1000→(∀x∈l,nR x.2.1)→Ct (m+l.length) (l.foldl mX S)
 |[],_,_,hg,_,_=>hg
 |x::l,m,S,hg,hm,hv=>by
  rw[List.length_cons]at hm ⊢
  rw[List.foldl_cons,show m+(l.length+1)=(m+1)+l.length by omega]
  exact pt l (xv hg (by omega) (hv x List.mem_cons_self)).1 (by omega) fun y hy=>hv y (List.mem_cons_of_mem _ hy)
theorem yJ{l:Lk}{w:oY}{m:List Int}{h h' a a':Int}(e:jV l w m h a=0)(hh:h≤h')(ha:a≤a'):jV l w m h' a'=0:=by
 unfold jV at e ⊢
 split at e
 ·cases e
 ·rename_i h1
  rw[if_neg h1]
  simp only at e ⊢
  split at e
  ·cases e
  ·rename_i h2
   rw[if_neg (by omega)]
   exact e
theorem zY{l:Lk}{w:oY}{m:List Int}{h a:Int}:jV l w m h a≠5:=by
 unfold jV
 split
 ·decide
 ·simp only
  split
  ·decide
  ·split
   ·decide
   ·split
    ·decide
    ·split
     ·decide
     ·decide
theorem tE{h h':Int}{id:List Int}{a:At}(hh:h≤h'):∀(l:List fZ) (f:Int),(∀g,iX h id a l f= .inr g→iX h' id a l f= .inr g)∧(iX h id a l f= .inl 5→iX h' id a l f= .inl 5)
 |[],f=>⟨fun g e=>e,fun e=>(by cases e)⟩
 |x::l,f=>by
  simp only[iX]
  cases hg:cO cj x.1 a with
  |none=>exact⟨fun g e=>(by cases e),fun e=>rfl⟩
  |some c=>
   obtain⟨i1,i2⟩:=tE hh l (f+c.1.1)
   simp only
   by_cases ho:jV c.1.2.1 x.2.1 id h (h - c.2.1)=0
   ·have ho':=yJ (h':=h') (a':=h' - c.2.1) ho hh (by omega)
    rw[if_neg (fun e=>e ho),if_neg (fun e=>e ho')]
    exact⟨i1,i2⟩
   ·rw[if_pos ho]
    exact⟨fun g e=>(by cases e),fun e=>absurd (Sum.inl.inj e) zY⟩
theorem wu{t:eT}{h h':Int}{a:At}(hh:h≤h')(h2:h'≤1048576):((ee t h a).2=0→ee t h' a=ee t h a)∧((ee t h a).2=5→(ee t h' a).2=5):=by
 unfold ee
 by_cases hc:gD t=true∧1≤h∧h≤1048576
 ·rw[if_pos hc,if_pos ⟨hc.1,by omega,h2⟩]
  obtain⟨i1,i2⟩:=tE (id:=mG t) (a:=a) hh t.1 0
  cases hi:iX h (mG t) a t.1 0 with
  |inl e=>
   refine⟨fun h0=> ?_,fun h5=> ?_⟩
   ·have h0:e=0:=h0
    subst h0
    exfalso
    have key:∀(l:List fZ) (f:Int),iX h (mG t) a l f≠ .inl 0:=by
     intro l
     induction l with
     |nil=>intro f e;cases e
     |cons x l ih=>
      intro f e
      simp only[iX]at e
      cases hg:cO cj x.1 a with
      |none=>rw[hg]at e;simp at e
      |some c=>
       rw[hg]at e
       simp only at e
       split at e
       ·rename_i hne;exact hne (by injection e)
       ·exact ih _ e
    exact key _ _ hi
   ·have h5:e=5:=h5
    subst h5
    rw[i2 hi]
  |inr g=>
   rw[i1 g hi]
   exact⟨fun _=>rfl,fun e=>e⟩
 ·rw[if_neg hc]
  exact⟨fun e=>(by cases e),fun e=>(by cases e)⟩
abbrev bf.L0.D:=(List iW)×Int×Int×eT×Bool×Int×Nat×(List (cR×eS))×(List dI)
def bf.L0.st:bf.L0.D→AS:=fun(acts_2,height_2,more_2,t_2,head,i,n24L,n24,n24_2)=>⟨([.undef,.d (.slice fA) acts_2,.undef,.d ti height_2,.d ti more_2,.undef,.undef,.eI gf t_2,.undef,.undef,.undef,.d .bool head,.undef,.ptr (.new 24 0) 0 [] 0,.d ti i]++ba 99 []),[],(bE 24 ([[.obj 0 false (.pr (.eH (.new 24 1) 0) (.pr (.bI (.new 24 2) 0 [] 0 0 n24L) (.d .unit ()))),.obj 0 false (.mp cj gq n24),.obj 0 false (.vec 161 eB n24_2)]]++bE 89 []))⟩
abbrev bf.L0.Y0:=Nat×(List (cR×eS))×(List dI)
abbrev bf.L0.X0:=(Int×Int×eT×Bool)×(Nat×(List (cR×eS))×(List dI))
def bf.L0.bj:bf.L0.X0→Exit×AS:=fun x=>(.exit 0,⟨([.undef,.undef,.undef,.d ti x.1.1,.d ti x.1.2.1,.undef,.undef,.eI gf x.1.2.2.1,.undef,.undef,.undef,.d .bool x.1.2.2.2,.undef,.ptr (.new 24 0) 0 [] 0]++ba 100 []),[],(bE 24 ([[.obj 0 false (.pr (.eH (.new 24 1) 0) (.pr (.bI (.new 24 2) 0 [] 0 0 x.2.1) (.d .unit ()))),.obj 0 false (.mp cj gq x.2.2.1),.obj 0 false (.vec 161 eB x.2.2.2)]]++bE 89 []))⟩)
abbrev bf.L0.X:=bf.L0.X0
abbrev bf.L0.Y:=bf.L0.Y0
def bf.L0.out:bf.L0.X→Out (Exit×AS):=fun x=> .ok (bf.L0.bj x)
def bf.L0.add:bf.L0.D→bf.L0.Y→bf.L0.X:=fun(acts_2,height_2,more_2,t_2,head,i,n24L,n24,n24_2) y=>((height_2,more_2,t_2,head),y)
abbrev bf.D:=(List fu)×(List iW)×eT×Int×Int
def bf.st:bf.D→SA:=fun(outs,acts,t,height,more)=>([.d (.slice eN) outs,.d (.slice fA) acts,.d gf t,.d ti height,.d ti more],[])
abbrev bf.Y:=Bool
abbrev bf.X:=Bool
def bf.out:bf.X→bk:=fun x=>⟨.d .bool x,[],[]⟩
def bf.add:bf.D→bf.Y→bf.X:=fun(outs,acts,t,height,more) y=>y
def bf.L0.aC:bf.L0.D→Prop:=fun(acts,_,_,_,_,i,n,a,s)=>acts.length≤20∧(∀x∈acts,nR x.2.1)∧∃k:Nat,k≤acts.length∧i=k∧oX k n a s
def bf.L0.F:bf.L0.D→bf.L0.Y:=fun(acts,_,_,_,_,i,n,a,s)=>(acts.drop i.toNat).foldl mX (n,a,s)
def bf.aC:bf.D→Prop:=fun(outs,acts,t,h,more)=>(∀o∈outs,xr o)∧acts.length≤9223372036854775807∧(∀x∈acts,nR x.2.1)∧nR t∧ -9223372036854775808≤h
def bf.F:bf.D→bf.Y:=fun _=>true
noncomputable def bf.G:dZ:=fh (P:=Tryz.prog) [bh.sg,bB.sg,bu.sg,aP.sg,aB.sg]
noncomputable def bf.L0.E:=bP.cq bf.L0.st bf.L0.aC bf.L0.add bf.L0.F bf.L0.out
noncomputable def bf.L0.call:bf.L0.D→Option bf.L0.X:=cX bf.L0.E bf.L0.st
noncomputable def bf.an:eO:= {loops:=j7 [(7,{bm:=[1,3,4,7,11,13,14],sites:=[24],ij:=[⟨13,[.snd,.fst],24,68⟩]})],outs:=j6 [(7,{bm:=[3,4,7,11,13],sites:=[24]},{bm:=[10]})],fJ:=kW [(7,bf.L0.E)]}
noncomputable def bf.A:= @cZ Tryz.prog bf.G bf.an 0 Tryz.f5 _ bf.st
abbrev bf.Ok:=da @bf.A bf.aC bf.add bf.F bf.out
noncomputable def bf.L0.R:= @bX Tryz.prog bf.G bf.an 0 Tryz.f5 0 _ bf.L0.st
abbrev bf.L0.Ok:=ej Tryz.prog bf.G bf.an 0 Tryz.f5 0 bf.L0.st bf.L0.aC bf.L0.add bf.L0.F bf.L0.out
theorem bf.L0.run:bK bf.L0.call bf.L0.aC bf.L0.add bf.L0.F:=eG (eC [.d (.slice fA),.d ti,.d ti,.d gf,.d .bool,.d ti,.n,.d (.slice (.pair cj gq)),.d (.slice eB)] fun _=>by kernel_rfl)
theorem bf.L0.aD:fN @bf.L0.R bf.L0.st bf.L0.aC bf.L0.add bf.L0.F bf.L0.bj bf.L0.Ok:=fU
theorem bf.L0.step{R:Type}(acts_2:(List iW))(height_2:Int)(more_2:Int)(t_2:eT)(head:Bool)(i:Int)(n24L:Nat)(n24:(List (cR×eS)))(n24_2:(List dI))(kn:AS→Option R)(kx:Exit→AS→Option R):bf.L0.R (acts_2,height_2,more_2,t_2,head,i,n24L,n24,n24_2) kn kx=
  aJ ((fX i (((List.length acts_2):Nat):Int))) (
   aJ (eJ i (((List.length acts_2):Nat):Int)) (
   aJ (eJ i (((List.length acts_2):Nat):Int)) (
   ah (aP.call ((nth fA acts_2 (Int.toNat i)).2.1,(nth fA acts_2 (Int.toNat i)).2.2.1,n24L,n24,n24_2)) fun x4=>
   aJ (x4.isLeft) (
    ah (x4.getLeft?) fun x4l=>
    kn (bf.L0.st (acts_2,height_2,more_2,t_2,head,(bN .i64 i (1:Int)),x4l.2.1,x4l.2.2.1,x4l.2.2.2))) (
    ah (x4.getRight?) fun x4r=>
    kn (bf.L0.st (acts_2,height_2,more_2,t_2,head,(bN .i64 i (1:Int)),x4r.2.1,x4r.2.2.1,x4r.2.2.2)))) none) none) (
   kx (bf.L0.bj ((height_2,more_2,t_2,head),(n24L,n24,n24_2))).1 (bf.L0.bj ((height_2,more_2,t_2,head),(n24L,n24,n24_2))).2):=by kernel_rfl
theorem bf.eq{R:Type}(outs:(List fu))(acts:(List iW))(t:eT)(height:Int)(more:Int)(k:bk→Option R):bf.A (outs,acts,t,height,more) k=
  ah (bh.call ()) fun x4=>
  ah (bB.call (outs,acts)) fun x8=>
  ah (bu.call outs) fun x12=>
  aJ (x12.isLeft) (
   ah (x12.getLeft?) fun x12l=>
   aJ ((!x8)) (
    k (bf.out x4)) (
    k (bf.out x4))) (
   ah (x12.getRight?) fun x12r=>
   aJ ((!x8)) (
    k (bf.out x4)) (
    aJ ((fX more (0:Int))) (
     k (bf.out x4)) (
     aJ ((mP more (1048576:Int))) (
      k (bf.out x4)) (
      aJ ((mP height (cH .i64 (1048576:Int) more))) (
       k (bf.out x4)) (
       aJ ((mP (((List.length t.1):Nat):Int) (8:Int))) (
        k (bf.out x4)) (
        aJ ((mP (((List.length t.2.1):Nat):Int) (8:Int))) (
         k (bf.out x4)) (
         ah (bf.L0.call (acts,height,more,t,x4,(0:Int),0,x12r.1,x12r.2)) fun x22=>
         ah (aB.call (x22.1.2.2.1,x22.1.1,x22.2.1,x22.2.2.1,x22.2.2.2)) fun x26=>
         ah (aB.call (x22.1.2.2.1,(bN .i64 x22.1.1 x22.1.2.1),x26.2.2.1,x26.2.2.2.1,x26.2.2.2.2)) fun x30=>
         aJ (x22.1.2.2.2) (
          aJ ((jO x26.2.1 (0:Int))) (
           aJ ((jO x26.2.1 (5:Int))) (
            k (bf.out true)) (
            k (bf.out (jB x30.2.1 (5:Int))))) (
           aJ ((jB x30.2.1 (0:Int))) (
            aJ ((jB x30.1 x26.1)) (
             aJ ((jO x26.2.1 (5:Int))) (
              k (bf.out true)) (
              k (bf.out (jB x30.2.1 (5:Int))))) (
             k (bf.out false))) (
            k (bf.out false)))) (
          k (bf.out false))))))))):=by kernel_rfl
theorem bf.L0.ok:bf.L0.Ok:=by
 refine bf.L0.aD (fun(acts,_,_,_,_,i,_,_,_)=>acts.length - i.toNat) ?_
 rintro⟨acts,h,more,t,hd,i,n,a,s⟩ ⟨hl,hv,k,hk,rfl,hg⟩
 have hl:acts.length≤20:=hl
 have hk:k≤acts.length:=hk
 have hg:Ct k (n,a,s):=hg
 by_cases hlt:k < acts.length
 ·left
  have n1:nth fA acts k=acts[k]:=cm (t:=fA) hlt
  have hx:=hv _ (List.getElem_mem hlt)
  obtain⟨hg',hr⟩:=xv hg (by omega) hx
  refine⟨(acts,h,more,t,hd,((k+1:Nat):Int),mX (n,a,s) acts[k]),⟨hl,hv,k+1,by omega,rfl,hg'⟩,by simp only[Int.toNat_natCast];omega,?_,fun kn kx=> ?_⟩
  ·simp only[bf.L0.add,bf.L0.F,Int.toNat_natCast]
   rw[List.drop_eq_getElem_cons hlt,List.foldl_cons]
  ·rw[bf.L0.step,bq (by omega),ag,bt (by omega) (by omega),ag,ag,Int.toNat_natCast,n1,N.j4 (by omega)]
   rcases hr with⟨e,_⟩ | ⟨e,_⟩
   ·have e:aP.call (acts[k].2.1,acts[k].2.2.1,n,a,s)=_:=e
    rw[e,aa]
    rfl
   ·have e:aP.call (acts[k].2.1,acts[k].2.2.1,n,a,s)=_:=e
    rw[e,aa]
    rfl
 ·right
  obtain rfl:k=acts.length:=by omega
  intro T kn kx
  rw[bf.L0.step,bg (by omega),ai]
  simp only[bf.L0.add,bf.L0.F,Int.toNat_natCast,List.drop_length,List.foldl_nil]
theorem bf.ok:bf.Ok:=by
 rintro⟨outs,acts,t,h,more⟩ ⟨ho,hal,hv,ht,hr⟩
 have hr: -9223372036854775808≤h:=hr
 rw[bf.eq,bh.run (d:=()) trivial,bB.run (d:=(outs,acts)) hal,A1 ho]
 simp only[aa,bh.add,bh.F,bB.add,bB.F,bf.add,bf.F]
 cases hn:u5 outs with
 |none=>
  simp only[Sum.isLeft_inl,ag,Sum.getLeft?_inl,aa]
  cases xW outs acts <;> rfl
 |some a0=>
  simp only[Sum.isLeft_inr,ai,Sum.getRight?_inr,aa]
  cases hf:xW outs acts with
  |false=>rfl
  |true=>
   obtain⟨_,h20,_⟩:=C1 hf
   obtain⟨g0,_⟩:=vI ho hn
   rw[Bool.not_true,ai]
   by_cases m0:more < 0
   ·rw[bq m0];rfl
   by_cases m1:more > 1048576
   ·rw[bg m0,ai,dy m1];rfl
   rw[bg m0,ai,db m1,ai,eK (by omega) (by omega)]
   by_cases m2:h > 1048576 - more
   ·rw[dy m2];rfl
   rw[db m2,ai]
   by_cases m3:t.1.length≤8
   ·rw[db (by omega),ai]
    by_cases m4:t.2.1.length≤8
    ·rw[db (by omega),ai,bf.L0.run (d:=(acts,h,more,t,true,0,0,a0,[])) ⟨h20,hv,0,Nat.zero_le _,rfl,g0⟩]
     have gs:=pt acts (m:=0) (S:=(0,a0,[])) g0 (by omega) hv
     simp only[aa,bf.L0.add,bf.L0.F,Int.toNat_zero,List.drop_zero]
     generalize acts.foldl mX (0,a0,[])=S at gs ⊢
     obtain⟨n,a,s⟩:=S
     have gs:oX (0+acts.length) n a s:=gs
     rw[gs.check ht,aa,fK (by omega) (by omega),gs.check ht,aa,ag]
     obtain⟨l1,l2⟩:=wu (t:=t) (a:=a) (show h≤h+more by omega) (by omega)
     by_cases e0:(ee t h a).2=0
     ·rw[l1 e0,e0]
      rw[bU rfl,ai,il rfl,ag,il rfl,ag,dO (show ¬(0:Int)=5 by decide),ag]
     ·rw[dO e0,ag]
      by_cases e5:(ee t h a).2=5
      ·rw[bU e5,ai,il (l2 e5)]
      ·rw[dO e5,ag]
    ·rw[dy (by omega)];rfl
   ·rw[dy (by omega)];rfl
noncomputable def bf.E:=Entry.cq [some (.slice eN),some (.slice fA),some gf,some ti,some ti] bf.st bf.aC bf.add bf.F bf.out
noncomputable def bf.call:bf.D→Option bf.X:=bT bf.E bf.st
theorem bf.run:bK bf.call bf.aC bf.add bf.F:=dh (de [.d (.slice eN),.d (.slice fA),.d gf,.d ti,.d ti] fun _=>by kernel_rfl)
noncomputable def bf.sg:SG Tryz.prog:=⟨5,aY,bf.E,.fn 1 (by kernel_rfl) bf.ok (And.intro (.cq bf.L0.ok (by kernel_rfl)) trivial)⟩
set_option synthInstance.maxSize 5000
abbrev ae.L0.D:=(List fu)×(List iW)×Bool×Int×Int×Nat×(List (cR×eS))×(List dI)
def ae.L0.st:ae.L0.D→AS:=fun(outs_2,acts_2,head,total,i,n29L,n29,n29_2)=>⟨([.d (.slice eN) outs_2,.d (.slice fA) acts_2,.undef,.undef,.undef,.d .bool head,.undef,.ptr (.new 29 0) 0 [] 0,.d ti total,.d ti i]++ba 188 []),[],(bE 29 ([[.obj 0 false (.pr (.eH (.new 29 1) 0) (.pr (.bI (.new 29 2) 0 [] 0 0 n29L) (.d .unit ()))),.obj 0 false (.mp cj gq n29),.obj 0 false (.vec 161 eB n29_2)]]++bE 168 []))⟩
abbrev ae.L0.Y0:=Int
abbrev ae.L0.X0:=((List iW)×Bool×Nat×(List (cR×eS))×(List dI))×(Int)
def ae.L0.bj:ae.L0.X0→Exit×AS:=fun x=>(.exit 0,⟨([.undef,.d (.slice fA) x.1.1,.undef,.undef,.undef,.d .bool x.1.2.1,.undef,.ptr (.new 29 0) 0 [] 0,.d ti x.2]++ba 189 []),[],(bE 29 ([[.obj 0 false (.pr (.eH (.new 29 1) 0) (.pr (.bI (.new 29 2) 0 [] 0 0 x.1.2.2.1) (.d .unit ()))),.obj 0 false (.mp cj gq x.1.2.2.2.1),.obj 0 false (.vec 161 eB x.1.2.2.2.2)]]++bE 168 []))⟩)
abbrev ae.L0.X:=ae.L0.X0
abbrev ae.L0.Y:=ae.L0.Y0
def ae.L0.out:ae.L0.X→Out (Exit×AS):=fun x=> .ok (ae.L0.bj x)
def ae.L0.add:ae.L0.D→ae.L0.Y→ae.L0.X:=fun(outs_2,acts_2,head,total,i,n29L,n29,n29_2) y=>((acts_2,head,n29L,n29,n29_2),y)
abbrev ae.L1.D:=(List iW)×Bool×Int×Int×Nat×(List (cR×eS))×(List dI)
def ae.L1.st:ae.L1.D→AS:=fun(acts_3,head_2,total_2,i_2,n29L_2,n29_3,n29_4)=>⟨([.undef,.d (.slice fA) acts_3,.undef,.undef,.undef,.d .bool head_2,.undef,.ptr (.new 29 0) 0 [] 0,.d ti total_2,.undef,.d ti i_2]++ba 187 []),[],(bE 29 ([[.obj 0 false (.pr (.eH (.new 29 1) 0) (.pr (.bI (.new 29 2) 0 [] 0 0 n29L_2) (.d .unit ()))),.obj 0 false (.mp cj gq n29_3),.obj 0 false (.vec 161 eB n29_4)]]++bE 168 []))⟩
abbrev ae.L1.Y0:=Unit
abbrev ae.L1.X0:=Unit
def ae.L1.bj:ae.L1.X0→Exit×AS:=fun x=>(.ret,⟨(ba 4 ([.d .bool false]++ba 193 [])),[],(List.replicate 198 [])⟩)
abbrev ae.L1.Y1:=Bool×Int
abbrev ae.L1.X1:=Bool×Int
def ae.L1.e7:ae.L1.X1→Exit×AS:=fun x=>(.exit 2,⟨(ba 5 ([.d .bool x.1,.undef,.undef,.d ti x.2]++ba 189 [])),[],(List.replicate 198 [])⟩)
abbrev ae.L1.X:=(ae.L1.X0)⊕(ae.L1.X1)
abbrev ae.L1.Y:=(ae.L1.Y0)⊕(ae.L1.Y1)
def ae.L1.out:ae.L1.X→Out (Exit×AS):=fun x=> .br x.isLeft (.get x.getLeft? fun a=> .ok (ae.L1.bj a)) (.get x.getRight? fun b=> .ok (ae.L1.e7 b))
def ae.L1.add:ae.L1.D→ae.L1.Y→ae.L1.X:=fun(acts_3,head_2,total_2,i_2,n29L_2,n29_3,n29_4) y=>match y with | .inl y=> .inl y | .inr z=> .inr (z)
abbrev ae.L2.D:=(List iW)×Bool×Int×Int×(List cR)×(List cR)×Int×iW×Nat×(List (cR×eS))×(List dI)
def ae.L2.st:ae.L2.D→AS:=fun(acts_4,head_3,total_3,i_3,l,m,kv,n11,n29L_3,n29_5,n29_6)=>⟨([.undef,.d (.slice fA) acts_4,.undef,.undef,.undef,.d .bool head_3,.undef,.ptr (.new 29 0) 0 [] 0,.d ti total_3,.undef,.d ti i_3,.ptr (.new 11 0) 0 [] 0]++ba 4 ([.d (.slice cj) l,.d (.slice cj) m,.d ti kv]++ba 179 [])),[],(bE 11 ([[.obj 0 false (.d fA n11)]]++bE 17 ([[.obj 0 false (.pr (.eH (.new 29 1) 0) (.pr (.bI (.new 29 2) 0 [] 0 0 n29L_3) (.d .unit ()))),.obj 0 false (.mp cj gq n29_5),.obj 0 false (.vec 161 eB n29_6)]]++bE 168 [])))⟩
abbrev ae.L2.Y0:=Unit
abbrev ae.L2.X0:=Unit
def ae.L2.bj:ae.L2.X0→Exit×AS:=fun x=>(.ret,⟨(ba 4 ([.d .bool false]++ba 193 [])),[],(List.replicate 198 [])⟩)
abbrev ae.L2.Y1:=Nat×(List (cR×eS))×(List dI)
abbrev ae.L2.X1:=((List iW)×Bool×Int×Int×(List cR)×iW)×(Nat×(List (cR×eS))×(List dI))
def ae.L2.e7:ae.L2.X1→Exit×AS:=fun x=>(.exit 4,⟨([.undef,.d (.slice fA) x.1.1,.undef,.undef,.undef,.d .bool x.1.2.1,.undef,.ptr (.new 29 0) 0 [] 0,.d ti x.1.2.2.1,.undef,.d ti x.1.2.2.2.1,.ptr (.new 11 0) 0 [] 0]++ba 5 ([.d (.slice cj) x.1.2.2.2.2.1]++ba 180 [])),[],(bE 11 ([[.obj 0 false (.d fA x.1.2.2.2.2.2)]]++bE 17 ([[.obj 0 false (.pr (.eH (.new 29 1) 0) (.pr (.bI (.new 29 2) 0 [] 0 0 x.2.1) (.d .unit ()))),.obj 0 false (.mp cj gq x.2.2.1),.obj 0 false (.vec 161 eB x.2.2.2)]]++bE 168 [])))⟩)
abbrev ae.L2.X:=(ae.L2.X0)⊕(ae.L2.X1)
abbrev ae.L2.Y:=(ae.L2.Y0)⊕(ae.L2.Y1)
def ae.L2.out:ae.L2.X→Out (Exit×AS):=fun x=> .br x.isLeft (.get x.getLeft? fun a=> .ok (ae.L2.bj a)) (.get x.getRight? fun b=> .ok (ae.L2.e7 b))
def ae.L2.add:ae.L2.D→ae.L2.Y→ae.L2.X:=fun(acts_4,head_3,total_3,i_3,l,m,kv,n11,n29L_3,n29_5,n29_6) y=>match y with | .inl y=> .inl y | .inr z=> .inr (((acts_4,head_3,total_3,i_3,m,n11),z))
abbrev ae.L3.D:=(List iW)×Bool×Int×Int×(List cR)×Int×iW×Nat×(List (cR×eS))×(List dI)
def ae.L3.st:ae.L3.D→AS:=fun(acts_5,head_4,total_4,i_4,m_2,kv_2,n11_2,n29L_4,n29_7,n29_8)=>⟨([.undef,.d (.slice fA) acts_5,.undef,.undef,.undef,.d .bool head_4,.undef,.ptr (.new 29 0) 0 [] 0,.d ti total_4,.undef,.d ti i_4,.ptr (.new 11 0) 0 [] 0]++ba 5 ([.d (.slice cj) m_2,.undef,.undef,.undef,.d ti kv_2]++ba 176 [])),[],(bE 11 ([[.obj 0 false (.d fA n11_2)]]++bE 17 ([[.obj 0 false (.pr (.eH (.new 29 1) 0) (.pr (.bI (.new 29 2) 0 [] 0 0 n29L_4) (.d .unit ()))),.obj 0 false (.mp cj gq n29_7),.obj 0 false (.vec 161 eB n29_8)]]++bE 168 [])))⟩
abbrev ae.L3.Y0:=Unit
abbrev ae.L3.X0:=Unit
def ae.L3.bj:ae.L3.X0→Exit×AS:=fun x=>(.ret,⟨(ba 4 ([.d .bool false]++ba 193 [])),[],(List.replicate 198 [])⟩)
abbrev ae.L3.Y1:=Nat×(List (cR×eS))×(List dI)
abbrev ae.L3.X1:=((List iW)×Bool×Int×Int)×(Nat×(List (cR×eS))×(List dI))
def ae.L3.e7:ae.L3.X1→Exit×AS:=fun x=>(.exit 6,⟨([.undef,.d (.slice fA) x.1.1,.undef,.undef,.undef,.d .bool x.1.2.1,.undef,.ptr (.new 29 0) 0 [] 0,.d ti x.1.2.2.1,.undef,.d ti x.1.2.2.2]++ba 187 []),[],(bE 29 ([[.obj 0 false (.pr (.eH (.new 29 1) 0) (.pr (.bI (.new 29 2) 0 [] 0 0 x.2.1) (.d .unit ()))),.obj 0 false (.mp cj gq x.2.2.1),.obj 0 false (.vec 161 eB x.2.2.2)]]++bE 168 []))⟩)
abbrev ae.L3.X:=(ae.L3.X0)⊕(ae.L3.X1)
abbrev ae.L3.Y:=(ae.L3.Y0)⊕(ae.L3.Y1)
def ae.L3.out:ae.L3.X→Out (Exit×AS):=fun x=> .br x.isLeft (.get x.getLeft? fun a=> .ok (ae.L3.bj a)) (.get x.getRight? fun b=> .ok (ae.L3.e7 b))
def ae.L3.add:ae.L3.D→ae.L3.Y→ae.L3.X:=fun(acts_5,head_4,total_4,i_4,m_2,kv_2,n11_2,n29L_4,n29_7,n29_8) y=>match y with | .inl y=> .inl y | .inr z=> .inr (((acts_5,head_4,total_4,i_4),z))
abbrev ae.D:=(List fu)×(List iW)
def ae.st:ae.D→SA:=fun(outs,acts)=>([.d (.slice eN) outs,.d (.slice fA) acts],[])
abbrev ae.Y:=Bool
abbrev ae.X:=Bool
def ae.out:ae.X→bk:=fun x=>⟨.d .bool x,[],[]⟩
def ae.add:ae.D→ae.Y→ae.X:=fun(outs,acts) y=>y
def ae.L0.aC:ae.L0.D→Prop:=fun(outs,_,_,total,i,_,_,_)=>(∀o∈outs,0≤o.1)∧outs.length≤256∧0≤total∧∃k:Nat,k≤outs.length∧i=k∧total+gj (outs.drop k)≤1125899906842624
def ae.L0.F:ae.L0.D→ae.L0.Y:=fun(outs,_,_,total,i,_,_,_)=>total+gj (outs.drop i.toNat)
def ae.L1.aC:ae.L1.D→Prop:=fun(acts,_,total,i,n,a,s)=>acts.length≤20∧(∀x∈acts,nR x.2.1)∧total=gb a∧∃k:Nat,k≤acts.length∧i=k∧oX k n a s
def ae.L1.F:ae.L1.D→ae.L1.Y:=fun(acts,hd,_,i,n,a,s)=> .inr (hd,gb ((acts.drop i.toNat).foldl mX (n,a,s)).2.1)
def ae.L2.aC:ae.L2.D→Prop:=fun(_,_,_,_,l,_,kv,_,n,a,s)=>l.length≤1000∧oX 100 n a s∧(∀o∈l,cO cj o a=none)∧∃k:Nat,k≤l.length∧kv=k
def ae.L2.F:ae.L2.D→ae.L2.Y:=fun(_,_,_,_,_,_,_,_,n,a,s)=> .inr (n,a,s)
def ae.L3.aC:ae.L3.D→Prop:=fun(_,_,_,_,m,kv,x,n,a,s)=>m.length≤1000∧oX 100 n a s∧m.length=x.2.1.2.1.length∧(∀(j:Nat) (h1:j < m.length) (h2:j < x.2.1.2.1.length),cO cj m[j] a=some (x.2.1.2.1[j],(x.2.2.1,())))∧∃k:Nat,k≤m.length∧kv=k
def ae.L3.F:ae.L3.D→ae.L3.Y:=fun(_,_,_,_,_,_,_,n,a,s)=> .inr (n,a,s)
def ae.aC:ae.D→Prop:=fun(outs,acts)=>(∀o∈outs,xr o)∧acts.length≤9223372036854775807∧(∀x∈acts,nR x.2.1)
def ae.F:ae.D→ae.Y:=fun _=>true
noncomputable def ae.G:dZ:=fh (P:=Tryz.prog) [bh.sg,bB.sg,bu.sg,bF.sg,aB.sg,aP.sg,bC.sg,bZ.sg,aO.sg,bD.sg,dF.sg]
noncomputable def ae.L0.E:=bP.cq ae.L0.st ae.L0.aC ae.L0.add ae.L0.F ae.L0.out
noncomputable def ae.L0.call:ae.L0.D→Option ae.L0.X:=cX ae.L0.E ae.L0.st
noncomputable def ae.L1.E:=bP.cq ae.L1.st ae.L1.aC ae.L1.add ae.L1.F ae.L1.out
noncomputable def ae.L1.call:ae.L1.D→Option ae.L1.X:=cX ae.L1.E ae.L1.st
noncomputable def ae.L2.E:=bP.cq ae.L2.st ae.L2.aC ae.L2.add ae.L2.F ae.L2.out
noncomputable def ae.L2.call:ae.L2.D→Option ae.L2.X:=cX ae.L2.E ae.L2.st
noncomputable def ae.L3.E:=bP.cq ae.L3.st ae.L3.aC ae.L3.add ae.L3.F ae.L3.out
noncomputable def ae.L3.call:ae.L3.D→Option ae.L3.X:=cX ae.L3.E ae.L3.st
noncomputable def ae.an:eO:= {loops:=j7 [(8,{bm:=[0,1,5,7,8,9],sites:=[29]}),(12,{bm:=[1,5,7,8,10],sites:=[29],ij:=[⟨7,[],29,0⟩]}),(31,{bm:=[1,5,7,8,10,11,16,17,18],sites:=[11,29],ij:=[⟨7,[],29,0⟩,⟨11,[],11,0⟩]}),(37,{bm:=[1,5,7,8,10,11,17,21],sites:=[11,29],ij:=[⟨7,[],29,0⟩,⟨11,[],11,0⟩]})],outs:=j6 [(8,{bm:=[1,5,7,8],sites:=[29]},{bm:=[4]}),(12,{bm:=[5,8]},{bm:=[4]}),(31,{bm:=[1,5,7,8,10,11,17],sites:=[11,29]},{bm:=[4]}),(37,{bm:=[1,5,7,8,10],sites:=[29]},{bm:=[4]})],fJ:=kW [(8,ae.L0.E),(12,ae.L1.E),(31,ae.L2.E),(37,ae.L3.E)]}
noncomputable def ae.A:= @cZ Tryz.prog ae.G ae.an 0 Tryz.f4 _ ae.st
abbrev ae.Ok:=da @ae.A ae.aC ae.add ae.F ae.out
noncomputable def ae.L0.R:= @bX Tryz.prog ae.G ae.an 0 Tryz.f4 0 _ ae.L0.st
abbrev ae.L0.Ok:=ej Tryz.prog ae.G ae.an 0 Tryz.f4 0 ae.L0.st ae.L0.aC ae.L0.add ae.L0.F ae.L0.out
noncomputable def ae.L1.R:= @bX Tryz.prog ae.G ae.an 0 Tryz.f4 1 _ ae.L1.st
abbrev ae.L1.Ok:=ej Tryz.prog ae.G ae.an 0 Tryz.f4 1 ae.L1.st ae.L1.aC ae.L1.add ae.L1.F ae.L1.out
noncomputable def ae.L2.R:= @bX Tryz.prog ae.G ae.an 0 Tryz.f4 2 _ ae.L2.st
abbrev ae.L2.Ok:=ej Tryz.prog ae.G ae.an 0 Tryz.f4 2 ae.L2.st ae.L2.aC ae.L2.add ae.L2.F ae.L2.out
noncomputable def ae.L3.R:= @bX Tryz.prog ae.G ae.an 0 Tryz.f4 3 _ ae.L3.st
abbrev ae.L3.Ok:=ej Tryz.prog ae.G ae.an 0 Tryz.f4 3 ae.L3.st ae.L3.aC ae.L3.add ae.L3.F ae.L3.out
theorem ae.L0.run:bK ae.L0.call ae.L0.aC ae.L0.add ae.L0.F:=eG (eC [.d (.slice eN),.d (.slice fA),.d .bool,.d ti,.d ti,.n,.d (.slice (.pair cj gq)),.d (.slice eB)] fun _=>by kernel_rfl)
theorem ae.L0.aD:fN @ae.L0.R ae.L0.st ae.L0.aC ae.L0.add ae.L0.F ae.L0.bj ae.L0.Ok:=fU
theorem ae.L0.step{R:Type}(outs_2:(List fu))(acts_2:(List iW))(head:Bool)(total:Int)(i:Int)(n29L:Nat)(n29:(List (cR×eS)))(n29_2:(List dI))(kn:AS→Option R)(kx:Exit→AS→Option R):ae.L0.R (outs_2,acts_2,head,total,i,n29L,n29,n29_2) kn kx=
  aJ ((fX i (((List.length outs_2):Nat):Int))) (
   aJ (eJ i (((List.length outs_2):Nat):Int)) (
   kn (ae.L0.st (outs_2,acts_2,head,(bN .i64 total (nth eN outs_2 (Int.toNat i)).1),(bN .i64 i (1:Int)),n29L,n29,n29_2))) none) (
   kx (ae.L0.bj ((acts_2,head,n29L,n29,n29_2),total)).1 (ae.L0.bj ((acts_2,head,n29L,n29,n29_2),total)).2):=by kernel_rfl
theorem ae.L1.run:bK ae.L1.call ae.L1.aC ae.L1.add ae.L1.F:=eG (eC [.d (.slice fA),.d .bool,.d ti,.d ti,.n,.d (.slice (.pair cj gq)),.d (.slice eB)] fun _=>by kernel_rfl)
theorem ae.L1.aD:j5 @ae.L1.R ae.L1.st ae.L1.aC ae.L1.add ae.L1.F ae.L1.out ae.L1.Ok:=kf
theorem ae.L1.step{R:Type}(acts_3:(List iW))(head_2:Bool)(total_2:Int)(i_2:Int)(n29L_2:Nat)(n29_3:(List (cR×eS)))(n29_4:(List dI))(kn:AS→Option R)(kx:Exit→AS→Option R):ae.L1.R (acts_3,head_2,total_2,i_2,n29L_2,n29_3,n29_4) kn kx=
  aJ ((fX i_2 (((List.length acts_3):Nat):Int))) (
   aJ (eJ i_2 (((List.length acts_3):Nat):Int)) (
   ah (bF.call (n29L_2,n29_3,n29_4)) fun x113=>
   ah (aB.call ((nth fA acts_3 (Int.toNat i_2)).2.1,(nth fA acts_3 (Int.toNat i_2)).2.2.1,x113.2.1,x113.2.2.1,x113.2.2.2.1)) fun x117=>
   ah (aP.call ((nth fA acts_3 (Int.toNat i_2)).2.1,(nth fA acts_3 (Int.toNat i_2)).2.2.1,x117.2.2.1,x117.2.2.2.1,x117.2.2.2.2)) fun x118=>
   aJ (x118.isLeft) (
    ah (x118.getLeft?) fun x118l=>
    aJ ((jO x117.2.1 x118l.1)) (
     kx (ae.L1.bj ()).1 (ae.L1.bj ()).2) (
     aJ ((fX x117.1 (0:Int))) (
      kx (ae.L1.bj ()).1 (ae.L1.bj ()).2) (
      ah (bC.call (x118l.2.1,x118l.2.2.1,x118l.2.2.2)) fun x122=>
      aJ ((jO x122.1 (cH .i64 total_2 x117.1))) (
       kx (ae.L1.bj ()).1 (ae.L1.bj ()).2) (
       aJ ((jO x118l.1 (0:Int))) (
        aJ ((jO x117.1 (0:Int))) (
         kx (ae.L1.bj ()).1 (ae.L1.bj ()).2) (
         ah (bF.call (x122.2.1,x122.2.2.1,x122.2.2.2)) fun x129=>
         aJ (decide (0=0∧(0+x129.1)≤(List.length x129.2.2.2.2))) (
         aJ (decide (0=0∧(0+x113.1)≤(List.length x113.2.2.2.2))) (
         ah (bZ.call ((cut x129.2.2.2.2 0 x129.1),(cut x113.2.2.2.2 0 x113.1))) fun x130=>
         aJ ((!x130)) (
          kx (ae.L1.bj ()).1 (ae.L1.bj ()).2) (
          kn (ae.L1.st (acts_3,head_2,total_2,(bN .i64 i_2 (1:Int)),x129.2.1,x129.2.2.1,x129.2.2.2.1)))) none) none)) (
        ah (aO.call (nth fA acts_3 (Int.toNat i_2)).2.1) fun x134=>
        ah (bD.call (nth fA acts_3 (Int.toNat i_2)).2.1) fun x138=>
        aJ ((jO (((List.length x138):Nat):Int) (((List.length (nth fA acts_3 (Int.toNat i_2)).2.1.2.1):Nat):Int))) (
         kx (ae.L1.bj ()).1 (ae.L1.bj ()).2) (
         ah (aP.call ((nth fA acts_3 (Int.toNat i_2)).2.1,(nth fA acts_3 (Int.toNat i_2)).2.2.1,x122.2.1,x122.2.2.1,x122.2.2.2)) fun x148=>
         aJ (x148.isLeft) (
          ah (x148.getLeft?) fun x148l=>
          aJ ((jO x148l.1 (5:Int))) (
           kx (ae.L1.bj ()).1 (ae.L1.bj ()).2) (
           ah (bF.call (x148l.2.1,x148l.2.2.1,x148l.2.2.2)) fun x149=>
           aJ ((jO ((x149.1:Nat):Int) (bN .i64 (cH .i64 ((x113.1:Nat):Int) (((List.length x134):Nat):Int)) (((List.length x138):Nat):Int)))) (
            kx (ae.L1.bj ()).1 (ae.L1.bj ()).2) (
            ah (ae.L2.call (acts_3,head_2,(cH .i64 total_2 x117.1),i_2,x134,x138,(0:Int),(nth fA acts_3 (Int.toNat i_2)),x149.2.1,x149.2.2.1,x149.2.2.2.1)) fun x153=>
            aJ (x153.isLeft) (
             ah (x153.getLeft?) fun a154=>
             kx (ae.L1.bj ()).1 (ae.L1.bj ()).2) (
             ah (x153.getRight?) fun b155=>
             ah (ae.L3.call (b155.1.1,b155.1.2.1,b155.1.2.2.1,b155.1.2.2.2.1,b155.1.2.2.2.2.1,(0:Int),b155.1.2.2.2.2.2,b155.2.1,b155.2.2.1,b155.2.2.2)) fun x156=>
             aJ (x156.isLeft) (
              ah (x156.getLeft?) fun a157=>
              kx (ae.L1.bj ()).1 (ae.L1.bj ()).2) (
              ah (x156.getRight?) fun b158=>
              kn (ae.L1.st (b158.1.1,b158.1.2.1,b158.1.2.2.1,(bN .i64 b158.1.2.2.2 (1:Int)),b158.2.1,b158.2.2.1,b158.2.2.2))))))) (
          ah (x148.getRight?) fun x148r=>
          aJ ((jO x148r.1 (5:Int))) (
           kx (ae.L1.bj ()).1 (ae.L1.bj ()).2) (
           ah (bF.call (x148r.2.1,x148r.2.2.1,x148r.2.2.2)) fun x159=>
           aJ ((jO ((x159.1:Nat):Int) (bN .i64 (cH .i64 ((x113.1:Nat):Int) (((List.length x134):Nat):Int)) (((List.length x138):Nat):Int)))) (
            kx (ae.L1.bj ()).1 (ae.L1.bj ()).2) (
            ah (ae.L2.call (acts_3,head_2,(cH .i64 total_2 x117.1),i_2,x134,x138,(0:Int),(nth fA acts_3 (Int.toNat i_2)),x159.2.1,x159.2.2.1,x159.2.2.2.1)) fun x163=>
            aJ (x163.isLeft) (
             ah (x163.getLeft?) fun a164=>
             kx (ae.L1.bj ()).1 (ae.L1.bj ()).2) (
             ah (x163.getRight?) fun b165=>
             ah (ae.L3.call (b165.1.1,b165.1.2.1,b165.1.2.2.1,b165.1.2.2.2.1,b165.1.2.2.2.2.1,(0:Int),b165.1.2.2.2.2.2,b165.2.1,b165.2.2.1,b165.2.2.2)) fun x166=>
             aJ (x166.isLeft) (
              ah (x166.getLeft?) fun a167=>
              kx (ae.L1.bj ()).1 (ae.L1.bj ()).2) (
              ah (x166.getRight?) fun b168=>
              kn (ae.L1.st (b168.1.1,b168.1.2.1,b168.1.2.2.1,(bN .i64 b168.1.2.2.2 (1:Int)),b168.2.1,b168.2.2.1,b168.2.2.2))))))))))))) (
    ah (x118.getRight?) fun x118r=>
    aJ ((jO x117.2.1 x118r.1)) (
     kx (ae.L1.bj ()).1 (ae.L1.bj ()).2) (
     aJ ((fX x117.1 (0:Int))) (
      kx (ae.L1.bj ()).1 (ae.L1.bj ()).2) (
      ah (bC.call (x118r.2.1,x118r.2.2.1,x118r.2.2.2)) fun x172=>
      aJ ((jO x172.1 (cH .i64 total_2 x117.1))) (
       kx (ae.L1.bj ()).1 (ae.L1.bj ()).2) (
       aJ ((jO x118r.1 (0:Int))) (
        aJ ((jO x117.1 (0:Int))) (
         kx (ae.L1.bj ()).1 (ae.L1.bj ()).2) (
         ah (bF.call (x172.2.1,x172.2.2.1,x172.2.2.2)) fun x179=>
         aJ (decide (0=0∧(0+x179.1)≤(List.length x179.2.2.2.2))) (
         aJ (decide (0=0∧(0+x113.1)≤(List.length x113.2.2.2.2))) (
         ah (bZ.call ((cut x179.2.2.2.2 0 x179.1),(cut x113.2.2.2.2 0 x113.1))) fun x180=>
         aJ ((!x180)) (
          kx (ae.L1.bj ()).1 (ae.L1.bj ()).2) (
          kn (ae.L1.st (acts_3,head_2,total_2,(bN .i64 i_2 (1:Int)),x179.2.1,x179.2.2.1,x179.2.2.2.1)))) none) none)) (
        ah (aO.call (nth fA acts_3 (Int.toNat i_2)).2.1) fun x184=>
        ah (bD.call (nth fA acts_3 (Int.toNat i_2)).2.1) fun x188=>
        aJ ((jO (((List.length x188):Nat):Int) (((List.length (nth fA acts_3 (Int.toNat i_2)).2.1.2.1):Nat):Int))) (
         kx (ae.L1.bj ()).1 (ae.L1.bj ()).2) (
         ah (aP.call ((nth fA acts_3 (Int.toNat i_2)).2.1,(nth fA acts_3 (Int.toNat i_2)).2.2.1,x172.2.1,x172.2.2.1,x172.2.2.2)) fun x198=>
         aJ (x198.isLeft) (
          ah (x198.getLeft?) fun x198l=>
          aJ ((jO x198l.1 (5:Int))) (
           kx (ae.L1.bj ()).1 (ae.L1.bj ()).2) (
           ah (bF.call (x198l.2.1,x198l.2.2.1,x198l.2.2.2)) fun x199=>
           aJ ((jO ((x199.1:Nat):Int) (bN .i64 (cH .i64 ((x113.1:Nat):Int) (((List.length x184):Nat):Int)) (((List.length x188):Nat):Int)))) (
            kx (ae.L1.bj ()).1 (ae.L1.bj ()).2) (
            ah (ae.L2.call (acts_3,head_2,(cH .i64 total_2 x117.1),i_2,x184,x188,(0:Int),(nth fA acts_3 (Int.toNat i_2)),x199.2.1,x199.2.2.1,x199.2.2.2.1)) fun x203=>
            aJ (x203.isLeft) (
             ah (x203.getLeft?) fun a204=>
             kx (ae.L1.bj ()).1 (ae.L1.bj ()).2) (
             ah (x203.getRight?) fun b205=>
             ah (ae.L3.call (b205.1.1,b205.1.2.1,b205.1.2.2.1,b205.1.2.2.2.1,b205.1.2.2.2.2.1,(0:Int),b205.1.2.2.2.2.2,b205.2.1,b205.2.2.1,b205.2.2.2)) fun x206=>
             aJ (x206.isLeft) (
              ah (x206.getLeft?) fun a207=>
              kx (ae.L1.bj ()).1 (ae.L1.bj ()).2) (
              ah (x206.getRight?) fun b208=>
              kn (ae.L1.st (b208.1.1,b208.1.2.1,b208.1.2.2.1,(bN .i64 b208.1.2.2.2 (1:Int)),b208.2.1,b208.2.2.1,b208.2.2.2))))))) (
          ah (x198.getRight?) fun x198r=>
          aJ ((jO x198r.1 (5:Int))) (
           kx (ae.L1.bj ()).1 (ae.L1.bj ()).2) (
           ah (bF.call (x198r.2.1,x198r.2.2.1,x198r.2.2.2)) fun x209=>
           aJ ((jO ((x209.1:Nat):Int) (bN .i64 (cH .i64 ((x113.1:Nat):Int) (((List.length x184):Nat):Int)) (((List.length x188):Nat):Int)))) (
            kx (ae.L1.bj ()).1 (ae.L1.bj ()).2) (
            ah (ae.L2.call (acts_3,head_2,(cH .i64 total_2 x117.1),i_2,x184,x188,(0:Int),(nth fA acts_3 (Int.toNat i_2)),x209.2.1,x209.2.2.1,x209.2.2.2.1)) fun x213=>
            aJ (x213.isLeft) (
             ah (x213.getLeft?) fun a214=>
             kx (ae.L1.bj ()).1 (ae.L1.bj ()).2) (
             ah (x213.getRight?) fun b215=>
             ah (ae.L3.call (b215.1.1,b215.1.2.1,b215.1.2.2.1,b215.1.2.2.2.1,b215.1.2.2.2.2.1,(0:Int),b215.1.2.2.2.2.2,b215.2.1,b215.2.2.1,b215.2.2.2)) fun x216=>
             aJ (x216.isLeft) (
              ah (x216.getLeft?) fun a217=>
              kx (ae.L1.bj ()).1 (ae.L1.bj ()).2) (
              ah (x216.getRight?) fun b218=>
              kn (ae.L1.st (b218.1.1,b218.1.2.1,b218.1.2.2.1,(bN .i64 b218.1.2.2.2 (1:Int)),b218.2.1,b218.2.2.1,b218.2.2.2)))))))))))))) none) (
   kx (ae.L1.e7 (head_2,total_2)).1 (ae.L1.e7 (head_2,total_2)).2):=by kernel_rfl
theorem ae.L2.run:bK ae.L2.call ae.L2.aC ae.L2.add ae.L2.F:=eG (eC [.d (.slice fA),.d .bool,.d ti,.d ti,.d (.slice cj),.d (.slice cj),.d ti,.d fA,.n,.d (.slice (.pair cj gq)),.d (.slice eB)] fun _=>by kernel_rfl)
theorem ae.L2.aD:j5 @ae.L2.R ae.L2.st ae.L2.aC ae.L2.add ae.L2.F ae.L2.out ae.L2.Ok:=kf
theorem ae.L2.step{R:Type}(acts_4:(List iW))(head_3:Bool)(total_3:Int)(i_3:Int)(l:(List cR))(m:(List cR))(kv:Int)(n11:iW)(n29L_3:Nat)(n29_5:(List (cR×eS)))(n29_6:(List dI))(kn:AS→Option R)(kx:Exit→AS→Option R):ae.L2.R (acts_4,head_3,total_3,i_3,l,m,kv,n11,n29L_3,n29_5,n29_6) kn kx=
  aJ ((fX kv (((List.length l):Nat):Int))) (
   aJ (eJ kv (((List.length l):Nat):Int)) (
   ah (dF.call ((nth cj l (Int.toNat kv)),n29L_3,n29_5,n29_6)) fun x8=>
   aJ (x8.2.2) (
    kx (ae.L2.bj ()).1 (ae.L2.bj ()).2) (
    kn (ae.L2.st (acts_4,head_3,total_3,i_3,l,m,(bN .i64 kv (1:Int)),n11,x8.1.1,x8.1.2.1,x8.1.2.2)))) none) (
   kx (ae.L2.e7 ((acts_4,head_3,total_3,i_3,m,n11),(n29L_3,n29_5,n29_6))).1 (ae.L2.e7 ((acts_4,head_3,total_3,i_3,m,n11),(n29L_3,n29_5,n29_6))).2):=by kernel_rfl
theorem ae.L3.run:bK ae.L3.call ae.L3.aC ae.L3.add ae.L3.F:=eG (eC [.d (.slice fA),.d .bool,.d ti,.d ti,.d (.slice cj),.d ti,.d fA,.n,.d (.slice (.pair cj gq)),.d (.slice eB)] fun _=>by kernel_rfl)
theorem ae.L3.aD:j5 @ae.L3.R ae.L3.st ae.L3.aC ae.L3.add ae.L3.F ae.L3.out ae.L3.Ok:=kf
theorem ae.L3.step{R:Type}(acts_5:(List iW))(head_4:Bool)(total_4:Int)(i_4:Int)(m_2:(List cR))(kv_2:Int)(n11_2:iW)(n29L_4:Nat)(n29_7:(List (cR×eS)))(n29_8:(List dI))(kn:AS→Option R)(kx:Exit→AS→Option R):ae.L3.R (acts_5,head_4,total_4,i_4,m_2,kv_2,n11_2,n29L_4,n29_7,n29_8) kn kx=
  aJ ((fX kv_2 (((List.length m_2):Nat):Int))) (
   aJ (eJ kv_2 (((List.length m_2):Nat):Int)) (
   ah (dF.call ((nth cj m_2 (Int.toNat kv_2)),n29L_4,n29_7,n29_8)) fun x8=>
   aJ ((!x8.2.2)) (
    kx (ae.L3.bj ()).1 (ae.L3.bj ()).2) (
    aJ ((jO x8.2.1.2.1 n11_2.2.2.1)) (
     kx (ae.L3.bj ()).1 (ae.L3.bj ()).2) (
     aJ (eJ kv_2 (((List.length n11_2.2.1.2.1):Nat):Int)) (
     aJ ((jO x8.2.1.1.1 (nth eN n11_2.2.1.2.1 (Int.toNat kv_2)).1)) (
      kx (ae.L3.bj ()).1 (ae.L3.bj ()).2) (
      kn (ae.L3.st (acts_5,head_4,total_4,i_4,m_2,(bN .i64 kv_2 (1:Int)),n11_2,x8.1.1,x8.1.2.1,x8.1.2.2)))) none))) none) (
   kx (ae.L3.e7 ((acts_5,head_4,total_4,i_4),(n29L_4,n29_7,n29_8))).1 (ae.L3.e7 ((acts_5,head_4,total_4,i_4),(n29L_4,n29_7,n29_8))).2):=by kernel_rfl
theorem ae.eq{R:Type}(outs:(List fu))(acts:(List iW))(k:bk→Option R):ae.A (outs,acts) k=
  ah (bh.call ()) fun x4=>
  ah (bB.call (outs,acts)) fun x8=>
  ah (bu.call outs) fun x12=>
  aJ (x12.isLeft) (
   ah (x12.getLeft?) fun x12l=>
   aJ ((!x8)) (
    k (ae.out x4)) (
    k (ae.out x4))) (
   ah (x12.getRight?) fun x12r=>
   aJ ((!x8)) (
    k (ae.out x4)) (
    ah (ae.L0.call (outs,acts,x4,(0:Int),(0:Int),0,x12r.1,x12r.2)) fun x14=>
    ah (ae.L1.call (x14.1.1,x14.1.2.1,x14.2,(0:Int),x14.1.2.2.1,x14.1.2.2.2.1,x14.1.2.2.2.2)) fun x252=>
    aJ (x252.isLeft) (
     ah (x252.getLeft?) fun a253=>
     k (ae.out false)) (
     ah (x252.getRight?) fun b254=>
     aJ (b254.1) (
      k (ae.out (nS b254.2 (0:Int)))) (
      k (ae.out false))))):=by kernel_rfl
theorem ae.L0.ok:ae.L0.Ok:=by
 refine ae.L0.aD (fun(outs,_,_,_,i,_,_,_)=>outs.length - i.toNat) ?_
 rintro⟨outs,acts,hb,total,i,n,a,s⟩ ⟨hp,hl,h0,k,hk,rfl,hs⟩
 have hl:outs.length≤256:=hl
 have hk:k≤outs.length:=hk
 have h0:0≤total:=h0
 have sum0:∀l:List fu,(∀o∈l,0≤o.1)→0≤gj l:=by
  intro l
  induction l with
  |nil=>intro _;exact Int.le_refl 0
  |cons o l ih=>
   intro h
   rw[jG]
   have:=h o List.mem_cons_self
   have:=ih fun x hx=>h x (List.mem_cons_of_mem _ hx)
   omega
 by_cases hlt:k < outs.length
 ·left
  have n1:nth eN outs k=outs[k]:=cm (t:=eN) hlt
  have hx:=hp _ (List.getElem_mem hlt)
  have hd:outs.drop k=outs[k]::outs.drop (k+1):=List.drop_eq_getElem_cons hlt
  rw[hd,jG]at hs
  have h1:=sum0 (outs.drop (k+1)) fun x hx=>hp x (List.mem_of_mem_drop hx)
  refine⟨(outs,acts,hb,total+outs[k].1,((k+1:Nat):Int),n,a,s),⟨hp,hl,by show 0≤total+outs[k].1;omega,k+1,by omega,rfl,by omega⟩,by simp only[Int.toNat_natCast];omega,?_,fun kn kx=> ?_⟩
  ·simp only[ae.L0.add,ae.L0.F,Int.toNat_natCast]
   rw[hd,jG,Int.add_assoc]
  ·rw[ae.L0.step,bq (by omega),ag,bt (by omega) (by omega),ag,Int.toNat_natCast,n1,N.j4 (by omega),fK (by omega) (by omega)]
 ·right
  obtain rfl:k=outs.length:=by omega
  intro T kn kx
  rw[ae.L0.step,bg (by omega),ai]
  simp only[ae.L0.add,ae.L0.F,Int.toNat_natCast,List.drop_length]
  rw[show gj ([]:List fu)=0 from rfl,Int.add_zero]
theorem ae.L2.ok:ae.L2.Ok:=by
 refine ae.L2.aD (fun(_,_,_,_,l,_,kv,_,_,_,_)=>l.length - kv.toNat) ?_
 rintro⟨acts,hd,total,i,l,m,kv,x,n,a,s⟩ ⟨hl,hg,ho,k,hk,rfl⟩
 have hl:l.length≤1000:=hl
 have hk:k≤l.length:=hk
 have hg:oX 100 n a s:=hg
 by_cases hlt:k < l.length
 ·left
  have n1:nth cj l k=l[k]:=cm (t:=cj) hlt
  have hx:cO cj l[k] a=none:=ho _ (List.getElem_mem hlt)
  refine⟨(acts,hd,total,i,l,m,((k+1:Nat):Int),x,n,a,s),⟨hl,hg,ho,k+1,by omega,rfl⟩,by simp only[Int.toNat_natCast];omega,rfl,fun kn kx=> ?_⟩
  rw[ae.L2.step,bq (by omega),ag,bt (by omega) (by omega),ag,Int.toNat_natCast,n1,hg.get,aa,hx,N.j4 (by omega)]
  rfl
 ·right
  obtain rfl:k=l.length:=by omega
  refine⟨ae.L2.e7 ((acts,hd,total,i,m,x),(n,a,s)),rfl,fun kn kx=> ?_⟩
  rw[ae.L2.step,bg (by omega),ai]
theorem ae.L3.ok:ae.L3.Ok:=by
 refine ae.L3.aD (fun(_,_,_,_,m,kv,_,_,_,_)=>m.length - kv.toNat) ?_
 rintro⟨acts,hd,total,i,m,kv,x,n,a,s⟩ ⟨hl,hg,he,ho,k,hk,rfl⟩
 have hl:m.length≤1000:=hl
 have he:m.length=x.2.1.2.1.length:=he
 have hk:k≤m.length:=hk
 have hg:oX 100 n a s:=hg
 by_cases hlt:k < m.length
 ·left
  have hlt2:k < x.2.1.2.1.length:=by omega
  have n1:nth cj m k=m[k]:=cm (t:=cj) hlt
  have n2:nth eN x.2.1.2.1 k=x.2.1.2.1[k]:=cm (t:=eN) hlt2
  have hx:cO cj m[k] a=some (x.2.1.2.1[k],(x.2.2.1,())):=ho k hlt hlt2
  refine⟨(acts,hd,total,i,m,((k+1:Nat):Int),x,n,a,s),⟨hl,hg,he,ho,k+1,by omega,rfl⟩,by simp only[Int.toNat_natCast];omega,rfl,fun kn kx=> ?_⟩
  rw[ae.L3.step,bq (by omega),ag,bt (by omega) (by omega),ag,Int.toNat_natCast,n1,hg.get,aa,hx,N.j4 (by omega)]
  simp only[Option.getD_some,Option.isSome_some,Bool.not_true,ai]
  rw[bU rfl,ai,bt (by omega) (by omega),ag,n2,bU rfl,ai]
 ·right
  obtain rfl:k=m.length:=by omega
  refine⟨ae.L3.e7 ((acts,hd,total,i),(n,a,s)),rfl,fun kn kx=> ?_⟩
  rw[ae.L3.step,bg (by omega),ai]
theorem E9{a b:List cR}(h:a.length≤1000000000):bZ.call (a,b)=some (decide (a=b)):=bZ.run (d:=(a,b)) h
theorem Cy{a:At}(h:uJ a):(Ep a).length=a.length:=by rw[(Cz h).length_eq,List.length_map]
theorem CR{l:List cR}{n:Nat}(h:l.length=n):cut l 0 n=l:=by
 subst h
 simp[cut]
theorem ae.L1.ok:ae.L1.Ok:=by
 refine ae.L1.aD (fun(acts,_,_,i,_,_,_)=>acts.length - i.toNat) ?_
 rintro⟨acts,hd,total,i,n,a,s⟩ ⟨hl,hv,rfl,k,hk,rfl,hg⟩
 have hl:acts.length≤20:=hl
 have hk:k≤acts.length:=hk
 have hg:oX k n a s:=hg
 by_cases hlt:k < acts.length
 ·left
  have n1:nth fA acts k=acts[k]:=cm (t:=fA) hlt
  have hx:=hv _ (List.getElem_mem hlt)
  have hfold:(acts.drop k).foldl mX (n,a,s)=(acts.drop (k+1)).foldl mX (mX (n,a,s) acts[k]):=by rw[List.drop_eq_getElem_cons hlt,List.foldl_cons]
  have hla:=Cy hg.mN
  have hcnt:=hg.G4
  have hpos:=hg.mN.pos
  have aM:=hg.sum
  rcases hg.apply (t:=acts[k].2.1) (h:=acts[k].2.2.1) (by omega) hx with⟨h1,h2⟩ | ⟨hc,h1,h2,hg'⟩
  ·have e:mX (n,a,s) acts[k]=(n,a,s):=by unfold mX;rw[if_pos h1]
   refine⟨(acts,hd,gb a,((k+1:Nat):Int),n,a,s),⟨hl,hv,rfl,k+1,by omega,rfl,hg.mono (Nat.le_succ _)⟩,by simp only[Int.toNat_natCast];omega,?_,fun kn kx=> ?_⟩
   ·simp only[ae.L1.add,ae.L1.F,Int.toNat_natCast]
    rw[hfold,e]
   ·rw[ae.L1.step,bq (by omega),ag,bt (by omega) (by omega),ag,Int.toNat_natCast,n1,hg.all (by omega),aa,hg.check hx,aa,h2,aa]
    simp only[Sum.isLeft_inl,ag,Sum.getLeft?_inl,aa]
    rw[bU rfl,ai,zz h1,bg (by decide),ai,hg.total,aa,eK (by omega) (by omega),bU (by show gb a=gb a - 0;omega),ai,dO h1,ag,bU rfl,ai,hg.all (by omega),aa]
    simp only[true_and,Nat.zero_add]
    rw[aX (show a.length≤(Ep a).length by omega),ag,ag,CR hla,E9 (by omega),aa,aX rfl,Bool.not_true,ai,N.j4 (by omega)]
  ·have e:mX (n,a,s) acts[k]=(n+1,fO acts[k].2.1 acts[k].2.2.1 a,s.take n++ [stepOf acts[k].2.1 a]):=by unfold mX;rw[if_neg (fun e=>e h1)]
   have hs:=hc.sum hg.mN.1
   have hp:=hc.pos
   have hag:=hc.again hg.mN.1 acts[k].2.2.1 hc.h1 hc.h2
   have hsp:=ql hc.ok
   have hmd:=jF hc.ok
   have hok:=(iM hc.ok).1
   refine⟨(acts,hd,gb (fO acts[k].2.1 acts[k].2.2.1 a),((k+1:Nat):Int),n+1,fO acts[k].2.1 acts[k].2.2.1 a,s.take n++ [stepOf acts[k].2.1 a]),⟨hl,hv,rfl,k+1,by omega,rfl,hg'⟩,by simp only[Int.toNat_natCast];omega,?_,fun kn kx=> ?_⟩
   ·simp only[ae.L1.add,ae.L1.F,Int.toNat_natCast]
    rw[hfold,e]
   ·have hspent:∀o∈dJ acts[k].2.1,cO cj o (fO acts[k].2.1 acts[k].2.2.1 a)=none:=fun o ho=>hc.D0 hg.mN.1 ho
    have hnew:∀(j:Nat) (h1:j < (eZ acts[k].2.1).length) (h2:j < acts[k].2.1.2.1.length),cO cj (eZ acts[k].2.1)[j] (fO acts[k].2.1 acts[k].2.2.1 a)=some (acts[k].2.1.2.1[j],(acts[k].2.2.1,())):=fun j h1 h2=>hc.new h1 h2
    have hcnt':=hg'.G4
    have hgm:oX 100 (n+1) (fO acts[k].2.1 acts[k].2.2.1 a) (s.take n++ [stepOf acts[k].2.1 a]):=hg'.mono (by omega)
    rw[ae.L1.step,bq (by omega),ag,bt (by omega) (by omega),ag,Int.toNat_natCast,n1,hg.all (by omega),aa,hg.check hx,aa,h2,aa,N.j4 (by omega)]
    have hpos':=hg'.mN.pos
    generalize fO acts[k].2.1 acts[k].2.2.1 a=a' at hs hag hg' hspent hnew hcnt' hgm hpos' ⊢
    generalize s.take n++ [stepOf acts[k].2.1 a]=s' at hg' hgm ⊢
    simp only[Sum.isLeft_inr,ai,Sum.getRight?_inr,aa]
    rw[h1,bU rfl,ai,bg (by show ¬(ee acts[k].2.1 acts[k].2.2.1 a).1 < 0;omega),ai,hg'.total,aa,eK (by omega) (by omega),bU (by show gb a'=gb a - (ee acts[k].2.1 acts[k].2.2.1 a).1;omega),ai,ai]
    rw[aO.run (d:=acts[k].2.1) hx.1,bD.run (d:=acts[k].2.1) hx]
    simp only[aa,aO.add,aO.F,bD.add,bD.F]
    rw[bU (by omega),ai]
    rcases hg'.apply (t:=acts[k].2.1) (h:=acts[k].2.2.1) (by omega) hx with⟨_,h3⟩ | ⟨_,h3,_⟩
    rotate_left
    ·rw[hag]at h3;cases h3
    rw[hag]at h3
    rw[h3,aa]
    simp only[Sum.isLeft_inl,ag,Sum.getLeft?_inl,aa]
    rw[bU rfl,ai,hg'.all (by omega),aa,eK (by omega) (by omega),fK (by omega) (by omega),bU (by show((a'.length:Nat):Int)=(a.length:Int) - ((dJ acts[k].2.1).length:Int)+((eZ acts[k].2.1).length:Int);omega),ai]
    rw[ae.L2.run (d:=(acts,hd,gb a - (ee acts[k].2.1 acts[k].2.2.1 a).1,(k:Int),dJ acts[k].2.1,eZ acts[k].2.1,0,acts[k],n+1,a',s')) ⟨by show(dJ acts[k].2.1).length≤1000;omega,hgm,hspent,0,Nat.zero_le _,rfl⟩]
    simp only[aa,ae.L2.add,ae.L2.F,Sum.isLeft_inr,ai,Sum.getRight?_inr]
    rw[ae.L3.run (d:=(acts,hd,gb a - (ee acts[k].2.1 acts[k].2.2.1 a).1,(k:Int),eZ acts[k].2.1,0,acts[k],n+1,a',s')) ⟨by show(eZ acts[k].2.1).length≤1000;omega,hgm,hmd,hnew,0,Nat.zero_le _,rfl⟩]
    simp only[aa,ae.L3.add,ae.L3.F,Sum.isLeft_inr,ai,Sum.getRight?_inr]
    rw[N.j4 (by omega),hs.1]
 ·right
  obtain rfl:k=acts.length:=by omega
  refine⟨ae.L1.e7 (hd,gb a),?_,fun kn kx=> ?_⟩
  ·simp only[ae.L1.add,ae.L1.F,Int.toNat_natCast,List.drop_length,List.foldl_nil]
   rfl
  ·rw[ae.L1.step,bg (by omega),ai]
theorem ae.ok:ae.Ok:=by
 rintro⟨outs,acts⟩ ⟨ho,hal,hv⟩
 rw[ae.eq,bh.run (d:=()) trivial,bB.run (d:=(outs,acts)) hal,A1 ho]
 simp only[aa,bh.add,bh.F,bB.add,bB.F,ae.add,ae.F]
 cases hn:u5 outs with
 |none=>
  simp only[Sum.isLeft_inl,ag,Sum.getLeft?_inl,aa]
  cases xW outs acts <;> rfl
 |some a0=>
  simp only[Sum.isLeft_inr,ai,Sum.getRight?_inr,aa]
  cases hf:xW outs acts with
  |false=>rfl
  |true=>
   obtain⟨_,h20,_⟩:=C1 hf
   obtain⟨g0,g1,g2,g3,g4,g5⟩:=vI ho hn
   rw[Bool.not_true,ai,ae.L0.run (d:=(outs,acts,true,0,0,0,a0,[])) ⟨g4,g3,Int.le_refl 0,0,Nat.zero_le _,rfl,by rw[List.drop_zero];omega⟩]
   simp only[aa,ae.L0.add,ae.L0.F,Int.toNat_zero,List.drop_zero,Int.zero_add]
   rw[ae.L1.run (d:=(acts,true,gj outs,0,0,a0,[])) ⟨h20,hv,g1.symm,0,Nat.zero_le _,rfl,g0⟩]
   simp only[aa,ae.L1.add,ae.L1.F,Int.toNat_zero,List.drop_zero,Sum.isLeft_inr,ai,Sum.getRight?_inr,ag]
   have gs:=pt acts (m:=0) (S:=(0,a0,[])) g0 (by omega) hv
   rw[gl gs.mN.pos]
noncomputable def ae.E:=Entry.cq [some (.slice eN),some (.slice fA)] ae.st ae.aC ae.add ae.F ae.out
noncomputable def ae.call:ae.D→Option ae.X:=bT ae.E ae.st
theorem ae.run:bK ae.call ae.aC ae.add ae.F:=dh (de [.d (.slice eN),.d (.slice fA)] fun _=>by kernel_rfl)
noncomputable def ae.sg:SG Tryz.prog:=⟨4,aY,ae.E,.fn 4 (by kernel_rfl) ae.ok (And.intro (.cq ae.L0.ok (by kernel_rfl)) (And.intro (.cq ae.L1.ok (by kernel_rfl)) (And.intro (.cq ae.L2.ok (by kernel_rfl)) (And.intro (.cq ae.L3.ok (by kernel_rfl)) trivial))))⟩
end Go.Ab
