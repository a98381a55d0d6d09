/-
  Made short by a program of mine (wip/tools/mini.py).
-/
import Derived.Test.YtlpebgkekjfhaaaGreatS13x5
set_option linter.unusedVariables false
set_option linter.unusedSimpArgs false
namespace Go.Ab
open Go.Proofs
set_option maxRecDepth 100000
set_option linter.unusedVariables false
set_option linter.unusedSimpArgs false
set_option synthInstance.maxSize 5000
abbrev dI.D:=db×Nat×(List (db×eX))×(List eg)
def dI.st:dI.D→SA:=fun(o,o0baL,o1,o2)=>([.ptr (.dq 0) 0 [] 0,.d cJ o],[.obj 0 false (.pr (.eN (.dq 1) 0) (.pr (.bJ (.dq 2) 0 [] 0 0 o0baL) (.d .unit ()))),.obj 0 false (.mp cJ gF o1),.obj 0 false (.vec 161 eO o2)])
abbrev dI.Y:=eX×Bool
abbrev dI.X:=(Nat×(List (db×eX))×(List eg))×(eX×Bool)
def dI.out:dI.X→bg:=fun x=>⟨.cons (.d gF x.2.1) (.cons (.d .bool x.2.2) (.nil)),[.obj 0 false (.pr (.eN (.dq 1) 0) (.pr (.bJ (.dq 2) 0 [] 0 0 x.1.1) (.d .unit ()))),.obj 0 false (.mp cJ gF x.1.2.1),.obj 0 false (.vec 161 eO x.1.2.2)],[]⟩
def dI.add:dI.D→dI.Y→dI.X:=fun(o,o0baL,o1,o2) y=>((o0baL,o1,o2),y)
def G2(c:eX):Prop:=jE c.1.2.1=true∧Ck c.1.2.1∧0≤c.1.1∧c.1.1≤1125899906842624∧0≤c.2.1∧c.2.1≤1048576
def vd(a:List (db×eX)):Prop:=(a.map (·.1)).Nodup∧∀p∈a,xn p.1∧G2 p.2
theorem vd.get{a:List (db×eX)}(h:vd a){o:db}{c:eX}(hg:cS cJ o a=some c):G2 c:=(h.2 _ ((gO gr h.1).1 hg)).2
def vY:eX:=((0,(([],()),())),(0,()))
def dI.aB:dI.D→Prop:=fun(_,_,a,_)=>vd a
def dI.F:dI.D→dI.Y:=fun(o,_,a,_)=>((cS cJ o a).getD vY,(cS cJ o a).isSome)
noncomputable def dI.G:dY:=fg (P:=Tryz.prog) [cz.sg]
noncomputable def dI.an:eI:= {res:=[some gF,none]}
noncomputable def dI.A:= @cY Tryz.prog dI.G dI.an 0 Tryz.f34 _ dI.st
abbrev dI.Ok:=cZ @dI.A dI.aB dI.add dI.F dI.out
theorem dI.eq{R:Type}(o:db)(o0baL:Nat)(o1:(List (db×eX)))(o2:(List eg))(k:bg→Option R):dI.A (o,o0baL,o1,o2) k=
  al (cz.call ((cS cJ o o1).getD (((0:Int),((([]:List iw),()),())),((0:Int),()))).1) fun x1=>
  aK ((!(cS cJ o o1).isSome)) (
   k (dI.out ((o0baL,o1,o2),((((0:Int),((([]:List iw),()),())),((0:Int),())),false)))) (
   k (dI.out ((o0baL,o1,o2),((x1,((cS cJ o o1).getD (((0:Int),((([]:List iw),()),())),((0:Int),()))).2),true)))):=by kernel_rfl
theorem G2.own{c:eX}(h:G2 c):H0 c.1.2.1:=by
 have:=tM h.1
 exact⟨by omega,fun b hb=>by have:=this.2 b hb;omega⟩
theorem dI.ok:dI.Ok:=by
 rintro⟨o,n,a,s⟩ ha
 have ha:vd a:=ha
 rw[dI.eq]
 cases hg:cS cJ o a with
 |none=>
  simp only[Option.getD_none,Option.isSome_none,Bool.not_false,ai]
  rw[cz.run (d:=((0:Int),((([]:List iw),()),()))) ⟨by show 0≤1000;decide,fun b hb=>by cases hb⟩]
  simp only[ab,dI.add,dI.F,hg,Option.getD_none,Option.isSome_none]
  rfl
 |some c=>
  simp only[Option.getD_some,Option.isSome_some,Bool.not_true,ao]
  rw[cz.run (d:=c.1) (ha.get hg).own]
  simp only[ab,cz.add,cz.F,dI.add,dI.F,hg,Option.getD_some,Option.isSome_some]
noncomputable def dI.E:=Entry.cC [none,some cJ] dI.st dI.aB dI.add dI.F dI.out
noncomputable def dI.call:dI.D→Option dI.X:=bS dI.E dI.st
theorem dI.run:bM dI.call dI.aB dI.add dI.F:=dh (dd [.d cJ,.n,.d (.slice (.pair cJ gF)),.d (.slice eO)] fun _=>by kernel_rfl)
noncomputable def dI.sg:SG Tryz.prog:=⟨34,aX,dI.E,.fn 0 (by kernel_rfl) dI.ok trivial⟩
abbrev aA.L0.D:=Int×eT×Int×(List fU)×Int×Int×Nat×(List (db×eX))×(List eg)×Bs
def aA.L0.st:aA.L0.D→AS:=fun(height_2,t_2,ix,t35,t36,t37,o0L,o1_2,o2_2,n8)=>⟨([.ptr (.dq 0) 0 [] 0,.undef,.d ti height_2,.undef,.eC fV t_2,.undef,.undef,.undef,.ptr (.new 8 0) 0 [] 0,.d ti ix]++bh 25 ([.d (.slice fv) t35,.d ti t36,.d ti t37]++bh 69 [])),[.obj 0 false (.pr (.eN (.dq 1) 0) (.pr (.bJ (.dq 2) 0 [] 0 0 o0L) (.d .unit ()))),.obj 0 false (.mp cJ gF o1_2),.obj 0 false (.vec 161 eO o2_2)],(bI 8 ([[.obj 0 false (.d tH n8)]]++bI 98 []))⟩
abbrev aA.L0.Y0:=Int
abbrev aA.L0.X0:=(Nat×(List (db×eX))×(List eg))×(Int)
def aA.L0.bw:aA.L0.X0→Exit×AS:=fun x=>(.ret,⟨(bh 6 ([.d ti (0:Int),.d ti x.2]++bh 99 [])),[.obj 0 false (.pr (.eN (.dq 1) 0) (.pr (.bJ (.dq 2) 0 [] 0 0 x.1.1) (.d .unit ()))),.obj 0 false (.mp cJ gF x.1.2.1),.obj 0 false (.vec 161 eO x.1.2.2)],(List.replicate 107 [])⟩)
abbrev aA.L0.Y1:=Int
abbrev aA.L0.X1:=(eT×Nat×(List (db×eX))×(List eg))×(Int)
def aA.L0.fq:aA.L0.X1→Exit×AS:=fun x=>(.exit 0,⟨([.ptr (.dq 0) 0 [] 0,.undef,.undef,.undef,.eC fV x.1.1]++bh 4 ([.d ti x.2]++bh 97 [])),[.obj 0 false (.pr (.eN (.dq 1) 0) (.pr (.bJ (.dq 2) 0 [] 0 0 x.1.2.1) (.d .unit ()))),.obj 0 false (.mp cJ gF x.1.2.2.1),.obj 0 false (.vec 161 eO x.1.2.2.2)],(List.replicate 107 [])⟩)
abbrev aA.L0.X:=(aA.L0.X0)⊕(aA.L0.X1)
abbrev aA.L0.Y:=(aA.L0.Y0)⊕(aA.L0.Y1)
def aA.L0.out:aA.L0.X→Out (Exit×AS):=fun x=> .br x.isLeft (.get x.getLeft? fun a=> .ok (aA.L0.bw a)) (.get x.getRight? fun b=> .ok (aA.L0.fq b))
def aA.L0.add:aA.L0.D→aA.L0.Y→aA.L0.X:=fun(height_2,t_2,ix,t35,t36,t37,o0L,o1_2,o2_2,n8) y=>match y with | .inl y=> .inl ((o0L,o1_2,o2_2),y) | .inr z=> .inr (((t_2,o0L,o1_2,o2_2),z))
abbrev aA.L1.D:=eT×Int×(List db)×Int×Int×Nat×(List (db×eX))×(List eg)
def aA.L1.st:aA.L1.D→AS:=fun(t_3,fee_2,t75,t76,t77,o0L_2,o1_3,o2_3)=>⟨([.ptr (.dq 0) 0 [] 0,.undef,.undef,.undef,.eC fV t_3]++bh 4 ([.d ti fee_2]++bh 65 ([.d (.slice cJ) t75,.d ti t76,.d ti t77]++bh 29 []))),[.obj 0 false (.pr (.eN (.dq 1) 0) (.pr (.bJ (.dq 2) 0 [] 0 0 o0L_2) (.d .unit ()))),.obj 0 false (.mp cJ gF o1_3),.obj 0 false (.vec 161 eO o2_3)],(List.replicate 107 [])⟩
abbrev aA.L1.Y0:=Unit
abbrev aA.L1.X0:=Nat×(List (db×eX))×(List eg)
def aA.L1.bw:aA.L1.X0→Exit×AS:=fun x=>(.ret,⟨(bh 6 ([.d ti (0:Int),.d ti (4:Int)]++bh 99 [])),[.obj 0 false (.pr (.eN (.dq 1) 0) (.pr (.bJ (.dq 2) 0 [] 0 0 x.1) (.d .unit ()))),.obj 0 false (.mp cJ gF x.2.1),.obj 0 false (.vec 161 eO x.2.2)],(List.replicate 107 [])⟩)
abbrev aA.L1.Y1:=Unit
abbrev aA.L1.X1:=eT×Int×Nat×(List (db×eX))×(List eg)
def aA.L1.fq:aA.L1.X1→Exit×AS:=fun x=>(.exit 2,⟨(bh 4 ([.eC fV x.1]++bh 4 ([.d ti x.2.1]++bh 97 []))),[.obj 0 false (.pr (.eN (.dq 1) 0) (.pr (.bJ (.dq 2) 0 [] 0 0 x.2.2.1) (.d .unit ()))),.obj 0 false (.mp cJ gF x.2.2.2.1),.obj 0 false (.vec 161 eO x.2.2.2.2)],(List.replicate 107 [])⟩)
abbrev aA.L1.X:=(aA.L1.X0)⊕(aA.L1.X1)
abbrev aA.L1.Y:=(aA.L1.Y0)⊕(aA.L1.Y1)
def aA.L1.out:aA.L1.X→Out (Exit×AS):=fun x=> .br x.isLeft (.get x.getLeft? fun a=> .ok (aA.L1.bw a)) (.get x.getRight? fun b=> .ok (aA.L1.fq b))
def aA.L1.add:aA.L1.D→aA.L1.Y→aA.L1.X:=fun(t_3,fee_2,t75,t76,t77,o0L_2,o1_3,o2_3) y=>match y with | .inl y=> .inl (o0L_2,o1_3,o2_3) | .inr z=> .inr ((t_3,fee_2,o0L_2,o1_3,o2_3))
abbrev aA.L2.D:=Int×(List fx)×Int×Int×Nat×(List (db×eX))×(List eg)
def aA.L2.st:aA.L2.D→AS:=fun(fee_3,t93,t94,t95,o0L_3,o1_4,o2_4)=>⟨(bh 9 ([.d ti fee_3]++bh 83 ([.d (.slice eP) t93,.d ti t94,.d ti t95]++bh 11 []))),[.obj 0 false (.pr (.eN (.dq 1) 0) (.pr (.bJ (.dq 2) 0 [] 0 0 o0L_3) (.d .unit ()))),.obj 0 false (.mp cJ gF o1_4),.obj 0 false (.vec 161 eO o2_4)],(List.replicate 107 [])⟩
abbrev aA.L2.Y0:=Int
abbrev aA.L2.X0:=(Nat×(List (db×eX))×(List eg))×(Int)
def aA.L2.bw:aA.L2.X0→Exit×AS:=fun x=>(.exit 4,⟨(bh 9 ([.d ti x.2]++bh 97 [])),[.obj 0 false (.pr (.eN (.dq 1) 0) (.pr (.bJ (.dq 2) 0 [] 0 0 x.1.1) (.d .unit ()))),.obj 0 false (.mp cJ gF x.1.2.1),.obj 0 false (.vec 161 eO x.1.2.2)],(List.replicate 107 [])⟩)
abbrev aA.L2.X:=aA.L2.X0
abbrev aA.L2.Y:=aA.L2.Y0
def aA.L2.out:aA.L2.X→Out (Exit×AS):=fun x=> .ok (aA.L2.bw x)
def aA.L2.add:aA.L2.D→aA.L2.Y→aA.L2.X:=fun(fee_3,t93,t94,t95,o0L_3,o1_4,o2_4) y=>((o0L_3,o1_4,o2_4),y)
abbrev aA.D:=eT×Int×Nat×(List (db×eX))×(List eg)
def aA.st:aA.D→SA:=fun(t,height,o0baL,o1,o2)=>([.ptr (.dq 0) 0 [] 0,.d fV t,.d ti height],[.obj 0 false (.pr (.eN (.dq 1) 0) (.pr (.bJ (.dq 2) 0 [] 0 0 o0baL) (.d .unit ()))),.obj 0 false (.mp cJ gF o1),.obj 0 false (.vec 161 eO o2)])
abbrev aA.Y:=Int×Int×Nat×(List (db×eX))×(List eg)
abbrev aA.X:=Int×Int×Nat×(List (db×eX))×(List eg)
def aA.out:aA.X→bg:=fun x=>⟨.cons (.d ti x.1) (.cons (.d ti x.2.1) (.nil)),[.obj 0 false (.pr (.eN (.dq 1) 0) (.pr (.bJ (.dq 2) 0 [] 0 0 x.2.2.1) (.d .unit ()))),.obj 0 false (.mp cJ gF x.2.2.2.1),.obj 0 false (.vec 161 eO x.2.2.2.2)],[]⟩
def aA.add:aA.D→aA.Y→aA.X:=fun(t,height,o0baL,o1,o2) y=>y
def jd(h:Int)(id:List Int)(a:List (db×eX)):List fU→Int→Int⊕Int
 |[],ix=> .inr ix
 |x::l,ix=>match cS cJ x.1 a with
  |none=> .inl 5
  |some c=>if jP c.1.2.1 x.2.1 id h (h - c.2.1)≠0 then .inl (jP c.1.2.1 x.2.1 id h (h - c.2.1)) else jd h id a l (ix+c.1.1)
def km(a:List (db×eX))(o:db):Bool:=(cS cJ o a).isSome
def gQ(l:List fx):Int:=(l.map (·.1)).sum
def eM(t:eT)(h:Int)(a:List (db×eX)):Int×Int:=
 if gv t=true∧1≤h∧h≤1048576 then
  match jd h (mD t) a t.1 0 with
  | .inl e=>(0,e)
  | .inr ix=>if(fw t).any (km a)=true then(0,4) else if ix - gQ t.2.1 < 0 then(0,8) else(ix - gQ t.2.1,0)
 else(0,1)
def aA.L0.aB:aA.L0.D→Prop:=fun(h,_,ix,l,n,i,_,a,_,id)=>(0≤h∧h≤1048576)∧Sm id∧l.length≤64∧(∀x∈l,IG x)∧vd a∧∃k:Nat,k≤l.length∧i=k∧n=l.length∧0≤ix∧ix≤(k:Int)*1125899906842624
def aA.L0.F:aA.L0.D→aA.L0.Y:=fun(h,_,ix,l,_,i,_,a,_,id)=>jd h id a (l.drop i.toNat) ix
def aA.L1.aB:aA.L1.D→Prop:=fun(_,_,l,n,i,_,_,_)=>l.length≤1000∧∃k:Nat,k≤l.length∧i=k∧n=l.length
def aA.L1.F:aA.L1.D→aA.L1.Y:=fun(_,_,l,_,i,_,a,_)=>if(l.drop i.toNat).any (km a)=true then .inl () else .inr ()
def aA.L2.aB:aA.L2.D→Prop:=fun(ix,l,n,i,_,_,_)=>l.length≤64∧(∀o∈l,0≤o.1∧o.1≤1125899906842624)∧∃k:Nat,k≤l.length∧i=k∧n=l.length∧ -((k:Int)*1125899906842624)≤ix∧ix≤1000000000000000000
def aA.L2.F:aA.L2.D→aA.L2.Y:=fun(ix,l,_,i,_,_,_)=>ix - gQ (l.drop i.toNat)
def aA.aB:aA.D→Prop:=fun(t,_,_,a,_)=>oE t∧vd a
def aA.F:aA.D→aA.Y:=fun(t,h,n,a,s)=>((eM t h a).1,(eM t h a).2,n,a,s)
noncomputable def aA.G:dY:=fg (P:=Tryz.prog) [aw.sg,tid.sg,bp.sg,bD.sg]
noncomputable def aA.L0.E:=bQ.cC aA.L0.st aA.L0.aB aA.L0.add aA.L0.F aA.L0.out
noncomputable def aA.L0.call:aA.L0.D→Option aA.L0.X:=dm aA.L0.E aA.L0.st
noncomputable def aA.L1.E:=bQ.cC aA.L1.st aA.L1.aB aA.L1.add aA.L1.F aA.L1.out
noncomputable def aA.L1.call:aA.L1.D→Option aA.L1.X:=dm aA.L1.E aA.L1.st
noncomputable def aA.L2.E:=bQ.cC aA.L2.st aA.L2.aB aA.L2.add aA.L2.F aA.L2.out
noncomputable def aA.L2.call:aA.L2.D→Option aA.L2.X:=dm aA.L2.E aA.L2.st
noncomputable def aA.an:eI:= {loops:=j4 [(5,{bm:=[0,2,4,8,9,35,36,37],sites:=[8]}),(16,{bm:=[0,4,9,75,76,77]}),(23,{bm:=[9,93,94,95]})],outs:=j3 [(5,{bm:=[0,4,9]},{bm:=[6,7]}),(16,{bm:=[4,9]},{bm:=[6,7]}),(23,{bm:=[9]},{bm:=[6,7]})],fJ:=kT [(5,aA.L0.E),(16,aA.L1.E),(23,aA.L2.E)]}
noncomputable def aA.A:= @cY Tryz.prog aA.G aA.an 0 Tryz.f29 _ aA.st
abbrev aA.Ok:=cZ @aA.A aA.aB aA.add aA.F aA.out
noncomputable def aA.L0.R:= @bV Tryz.prog aA.G aA.an 0 Tryz.f29 0 _ aA.L0.st
abbrev aA.L0.Ok:=ez Tryz.prog aA.G aA.an 0 Tryz.f29 0 aA.L0.st aA.L0.aB aA.L0.add aA.L0.F aA.L0.out
noncomputable def aA.L1.R:= @bV Tryz.prog aA.G aA.an 0 Tryz.f29 1 _ aA.L1.st
abbrev aA.L1.Ok:=ez Tryz.prog aA.G aA.an 0 Tryz.f29 1 aA.L1.st aA.L1.aB aA.L1.add aA.L1.F aA.L1.out
noncomputable def aA.L2.R:= @bV Tryz.prog aA.G aA.an 0 Tryz.f29 2 _ aA.L2.st
abbrev aA.L2.Ok:=ez Tryz.prog aA.G aA.an 0 Tryz.f29 2 aA.L2.st aA.L2.aB aA.L2.add aA.L2.F aA.L2.out
theorem aA.L0.run:bM aA.L0.call aA.L0.aB aA.L0.add aA.L0.F:=eF (eD [.d ti,.d fV,.d ti,.d (.slice fv),.d ti,.d ti,.n,.d (.slice (.pair cJ gF)),.d (.slice eO),.d tB] fun _=>by kernel_rfl)
theorem aA.L0.aD:kP @aA.L0.R aA.L0.st aA.L0.aB aA.L0.add aA.L0.F aA.L0.out aA.L0.Ok:=lp
theorem aA.L0.step{R:Type}(height_2:Int)(t_2:eT)(ix:Int)(t35:(List fU))(t36:Int)(t37:Int)(o0L:Nat)(o1_2:(List (db×eX)))(o2_2:(List eg))(n8:Bs)(kn:AS→Option R)(kx:Exit→AS→Option R):aA.L0.R (height_2,t_2,ix,t35,t36,t37,o0L,o1_2,o2_2,n8) kn kx=
  aK ((fZ t37 t36)) (
   aK (eH t37 (((List.length t35):Nat):Int)) (
   aK ((!(cS cJ (nth fv t35 (Int.toNat t37)).1 o1_2).isSome)) (
    kx (aA.L0.bw ((o0L,o1_2,o2_2),(5:Int))).1 (aA.L0.bw ((o0L,o1_2,o2_2),(5:Int))).2) (
    al (bp.call (((cS cJ (nth fv t35 (Int.toNat t37)).1 o1_2).getD (((0:Int),((([]:List iw),()),())),((0:Int),()))).1.2.1,(nth fv t35 (Int.toNat t37)).2.1,n8,height_2,(cQ .i64 height_2 ((cS cJ (nth fv t35 (Int.toNat t37)).1 o1_2).getD (((0:Int),((([]:List iw),()),())),((0:Int),()))).2.1))) fun x1=>
    aK ((mZ x1 (0:Int))) (
     kx (aA.L0.bw ((o0L,o1_2,o2_2),x1)).1 (aA.L0.bw ((o0L,o1_2,o2_2),x1)).2) (
     kn (aA.L0.st (height_2,t_2,(bR .i64 ix ((cS cJ (nth fv t35 (Int.toNat t37)).1 o1_2).getD (((0:Int),((([]:List iw),()),())),((0:Int),()))).1.1),t35,t36,(bR .i64 t37 (1:Int)),o0L,o1_2,o2_2,n8))))) none) (
   kx (aA.L0.fq ((t_2,o0L,o1_2,o2_2),ix)).1 (aA.L0.fq ((t_2,o0L,o1_2,o2_2),ix)).2):=by kernel_rfl
theorem aA.L1.run:bM aA.L1.call aA.L1.aB aA.L1.add aA.L1.F:=eF (eD [.d fV,.d ti,.d (.slice cJ),.d ti,.d ti,.n,.d (.slice (.pair cJ gF)),.d (.slice eO)] fun _=>by kernel_rfl)
theorem aA.L1.aD:kP @aA.L1.R aA.L1.st aA.L1.aB aA.L1.add aA.L1.F aA.L1.out aA.L1.Ok:=lp
theorem aA.L1.step{R:Type}(t_3:eT)(fee_2:Int)(t75:(List db))(t76:Int)(t77:Int)(o0L_2:Nat)(o1_3:(List (db×eX)))(o2_3:(List eg))(kn:AS→Option R)(kx:Exit→AS→Option R):aA.L1.R (t_3,fee_2,t75,t76,t77,o0L_2,o1_3,o2_3) kn kx=
  aK ((fZ t77 t76)) (
   aK (eH t77 (((List.length t75):Nat):Int)) (
   aK ((cS cJ (nth cJ t75 (Int.toNat t77)) o1_3).isSome) (
    kx (aA.L1.bw (o0L_2,o1_3,o2_3)).1 (aA.L1.bw (o0L_2,o1_3,o2_3)).2) (
    kn (aA.L1.st (t_3,fee_2,t75,t76,(bR .i64 t77 (1:Int)),o0L_2,o1_3,o2_3)))) none) (
   kx (aA.L1.fq (t_3,fee_2,o0L_2,o1_3,o2_3)).1 (aA.L1.fq (t_3,fee_2,o0L_2,o1_3,o2_3)).2):=by kernel_rfl
theorem aA.L2.run:bM aA.L2.call aA.L2.aB aA.L2.add aA.L2.F:=eF (eD [.d ti,.d (.slice eP),.d ti,.d ti,.n,.d (.slice (.pair cJ gF)),.d (.slice eO)] fun _=>by kernel_rfl)
theorem aA.L2.aD:fP @aA.L2.R aA.L2.st aA.L2.aB aA.L2.add aA.L2.F aA.L2.bw aA.L2.Ok:=fR
theorem aA.L2.step{R:Type}(fee_3:Int)(t93:(List fx))(t94:Int)(t95:Int)(o0L_3:Nat)(o1_4:(List (db×eX)))(o2_4:(List eg))(kn:AS→Option R)(kx:Exit→AS→Option R):aA.L2.R (fee_3,t93,t94,t95,o0L_3,o1_4,o2_4) kn kx=
  aK ((fZ t95 t94)) (
   aK (eH t95 (((List.length t93):Nat):Int)) (
   kn (aA.L2.st ((cQ .i64 fee_3 (nth eP t93 (Int.toNat t95)).1),t93,t94,(bR .i64 t95 (1:Int)),o0L_3,o1_4,o2_4))) none) (
   kx (aA.L2.bw ((o0L_3,o1_4,o2_4),fee_3)).1 (aA.L2.bw ((o0L_3,o1_4,o2_4),fee_3)).2):=by kernel_rfl
theorem aA.eq{R:Type}(t:eT)(height:Int)(o0baL:Nat)(o1:(List (db×eX)))(o2:(List eg))(k:bg→Option R):aA.A (t,height,o0baL,o1,o2) k=
  al (aw.call t) fun x1=>
  aK ((!x1)) (
   k (aA.out ((0:Int),(1:Int),o0baL,o1,o2))) (
   aK ((fZ height (1:Int))) (
    k (aA.out ((0:Int),(1:Int),o0baL,o1,o2))) (
    aK ((mJ height (1048576:Int))) (
     k (aA.out ((0:Int),(1:Int),o0baL,o1,o2))) (
     al (tid.call t) fun x2=>
     al (aA.L0.call (height,t,(0:Int),t.1,(((List.length t.1):Nat):Int),(0:Int),o0baL,o1,o2,x2)) fun x4=>
     aK (x4.isLeft) (
      al (x4.getLeft?) fun a5=>
      k (aA.out ((0:Int),a5.2,a5.1.1,a5.1.2.1,a5.1.2.2))) (
      al (x4.getRight?) fun b6=>
      al (bD.call b6.1.1) fun x7=>
      al (aA.L1.call (b6.1.1,b6.2,x7,(((List.length x7):Nat):Int),(0:Int),b6.1.2.1,b6.1.2.2.1,b6.1.2.2.2)) fun x8=>
      aK (x8.isLeft) (
       al (x8.getLeft?) fun a9=>
       k (aA.out ((0:Int),(4:Int),a9.1,a9.2.1,a9.2.2))) (
       al (x8.getRight?) fun b10=>
       al (aA.L2.call (b10.2.1,b10.1.2.1,(((List.length b10.1.2.1):Nat):Int),(0:Int),b10.2.2.1,b10.2.2.2.1,b10.2.2.2.2)) fun x11=>
       aK ((fZ x11.2 (0:Int))) (
        k (aA.out ((0:Int),(8:Int),x11.1.1,x11.1.2.1,x11.1.2.2))) (
        k (aA.out (x11.2,(0:Int),x11.1.1,x11.1.2.1,x11.1.2.2)))))))):=by kernel_rfl
theorem aA.L0.ok:aA.L0.Ok:=by
 refine aA.L0.aD (fun(_,_,_,l,_,i,_,_,_,_)=>l.length - i.toNat) ?_
 rintro⟨h,t,ix,l,n,i,o,a,s,id⟩ ⟨⟨hh1,hh2⟩,hid,hl,hu,ha,k,hk,rfl,rfl,hf1,hf2⟩
 have hh1:0≤h:=hh1
 have hh2:h≤1048576:=hh2
 have hl:l.length≤64:=hl
 have hf1:0≤ix:=hf1
 have hf2:ix≤(k:Int)*1125899906842624:=hf2
 have hk:k≤l.length:=hk
 by_cases hlt:k < l.length
 ·have hx:=hu _ (List.getElem_mem hlt)
  have n1:nth fv l k=l[k]:=cG (t:=fv) hlt
  have hd:l.drop k=l[k]::l.drop (k+1):=List.drop_eq_getElem_cons hlt
  cases hg:cS cJ l[k].1 a with
  |none=>
   right
   refine⟨aA.L0.bw ((o,a,s),5),?_,fun kn kx=> ?_⟩
   rotate_left
   ·rw[aA.L0.step,bu (by omega),ai,bz (by omega) (by omega),ai,Int.toNat_natCast,n1,hg]
    simp only[Option.isSome_none,Bool.not_false,ai]
   ·simp only[aA.L0.add,aA.L0.F,Int.toNat_natCast,hd,jd,hg]
    rfl
  |some c=>
   have hc:=ha.get hg
   obtain⟨c1,c2,c3,c4,c5,c6⟩:=hc
   have hst:∀ {R:Type} (kn:AS→Option R) (kx:Exit→AS→Option R),aA.L0.R (h,t,ix,l,(l.length:Int),(k:Int),o,a,s,id) kn kx=
     aK (mZ (jP c.1.2.1 l[k].2.1 id h (h - c.2.1)) 0) (kx (aA.L0.bw ((o,a,s),jP c.1.2.1 l[k].2.1 id h (h - c.2.1))).1 (aA.L0.bw ((o,a,s),jP c.1.2.1 l[k].2.1 id h (h - c.2.1))).2)
      (kn (aA.L0.st (h,t,ix+c.1.1,l,(l.length:Int),((k+1:Nat):Int),o,a,s,id))):=fun kn kx=>by
    rw[aA.L0.step,bu (by omega),ai,bz (by omega) (by omega),ai,Int.toNat_natCast,n1,hg]
    simp only[Option.isSome_some,Bool.not_true,ao,Option.getD_some]
    rw[eR (by omega) (by omega),bp.run (d:=(c.1.2.1,l[k].2.1,id,h,h - c.2.1)) ⟨c2,by have:=tM c1;omega,hx.2.1,hid⟩]
    simp only[ab,bp.add,bp.F]
    rw[fY (by omega) (by omega),N.kO (by omega)]
   by_cases he:jP c.1.2.1 l[k].2.1 id h (h - c.2.1)=0
   ·left
    refine⟨(h,t,ix+c.1.1,l,(l.length:Int),((k+1:Nat):Int),o,a,s,id),⟨⟨hh1,hh2⟩,hid,hl,hu,ha,k+1,by omega,rfl,rfl,by show 0≤ix+c.1.1;omega,by show ix+c.1.1≤_;omega⟩,by simp only[Int.toNat_natCast];omega,?_,fun kn kx=> ?_⟩
    ·simp only[aA.L0.add,aA.L0.F,Int.toNat_natCast,hd,jd,hg,he,ne_eq,not_true_eq_false,if_false]
    ·rw[hst,cg he,ao]
   ·right
    refine⟨aA.L0.bw ((o,a,s),jP c.1.2.1 l[k].2.1 id h (h - c.2.1)),?_,fun kn kx=> ?_⟩
    rotate_left
    ·rw[hst,dR he,ai]
    ·simp only[aA.L0.add,aA.L0.F,Int.toNat_natCast,hd,jd,hg]
     rw[if_pos he]
     rfl
 ·right
  obtain rfl:k=l.length:=by omega
  refine⟨aA.L0.fq ((t,o,a,s),ix),?_,fun kn kx=> ?_⟩
  rotate_left
  ·rw[aA.L0.step,bk (by omega),ao]
  ·simp only[aA.L0.add,aA.L0.F,Int.toNat_natCast,List.drop_length,jd]
   rfl
theorem aA.L1.ok:aA.L1.Ok:=by
 refine aA.L1.aD (fun(_,_,l,_,i,_,_,_)=>l.length - i.toNat) ?_
 rintro⟨t,ix,l,n,i,o,a,s⟩ ⟨hl,k,hk,rfl,rfl⟩
 have hl:l.length≤1000:=hl
 have hk:k≤l.length:=hk
 by_cases hlt:k < l.length
 ·have n1:nth cJ l k=l[k]:=cG (t:=cJ) hlt
  have hd:l.drop k=l[k]::l.drop (k+1):=List.drop_eq_getElem_cons hlt
  cases hg:(cS cJ l[k] a).isSome with
  |true=>
   right
   refine⟨aA.L1.bw (o,a,s),?_,fun kn kx=> ?_⟩
   rotate_left
   ·rw[aA.L1.step,bu (by omega),ai,bz (by omega) (by omega),ai,Int.toNat_natCast,n1,hg,ai]
   ·simp only[aA.L1.add,aA.L1.F,Int.toNat_natCast,hd,List.any_cons,km,hg,Bool.true_or,if_true]
    rfl
  |false=>
   left
   refine⟨(t,ix,l,(l.length:Int),((k+1:Nat):Int),o,a,s),⟨hl,k+1,by omega,rfl,rfl⟩,by simp only[Int.toNat_natCast];omega,?_,fun kn kx=> ?_⟩
   ·simp only[aA.L1.add,aA.L1.F,Int.toNat_natCast,hd,List.any_cons,km,hg,Bool.false_or]
   ·rw[aA.L1.step,bu (by omega),ai,bz (by omega) (by omega),ai,Int.toNat_natCast,n1,hg,ao,N.kO (by omega)]
 ·right
  obtain rfl:k=l.length:=by omega
  refine⟨aA.L1.fq (t,ix,o,a,s),?_,fun kn kx=> ?_⟩
  rotate_left
  ·rw[aA.L1.step,bk (by omega),ao]
  ·simp only[aA.L1.add,aA.L1.F,Int.toNat_natCast,List.drop_length,List.any_nil,Bool.false_eq_true,if_false]
   rfl
theorem aA.L2.ok:aA.L2.Ok:=by
 refine aA.L2.aD (fun(_,l,_,i,_,_,_)=>l.length - i.toNat) ?_
 rintro⟨ix,l,n,i,o,a,s⟩ ⟨hl,ho,k,hk,rfl,rfl,hf1,hf2⟩
 have hl:l.length≤64:=hl
 have hk:k≤l.length:=hk
 have hf1: -((k:Int)*1125899906842624)≤ix:=hf1
 have hf2:ix≤1000000000000000000:=hf2
 by_cases hlt:k < l.length
 ·left
  have n1:nth eP l k=l[k]:=cG (t:=eP) hlt
  have hd:l.drop k=l[k]::l.drop (k+1):=List.drop_eq_getElem_cons hlt
  have hx:=ho _ (List.getElem_mem hlt)
  refine⟨(ix - l[k].1,l,(l.length:Int),((k+1:Nat):Int),o,a,s),⟨hl,ho,k+1,by omega,rfl,rfl,by show _≤ix - l[k].1;omega,by show ix - l[k].1≤_;omega⟩,by simp only[Int.toNat_natCast];omega,?_,fun kn kx=> ?_⟩
  ·simp only[aA.L2.add,aA.L2.F,Int.toNat_natCast,hd,gQ,List.map_cons,List.sum_cons]
   rw[Int.sub_sub]
  ·rw[aA.L2.step,bu (by omega),ai,bz (by omega) (by omega),ai,Int.toNat_natCast,n1,eR (by omega) (by omega),N.kO (by omega)]
 ·right
  obtain rfl:k=l.length:=by omega
  intro R kn kx
  rw[aA.L2.step,bk (by omega),ao]
  simp only[aA.L2.add,aA.L2.F,Int.toNat_natCast,List.drop_length,gQ,List.map_nil,List.sum_nil,Int.sub_zero]
theorem ka{t:eT}(h:gv t=true):(fw t).length=t.2.1.length:=by
 unfold fw
 rw[if_pos h]
 simp[nG]
theorem tA{h:Int}{id:List Int}{a:List (db×eX)}(ha:vd a):∀(l:List fU) (ix f:Int),jd h id a l ix= .inr f→ix≤f∧f≤ix+(l.length:Int)*1125899906842624
 |[],ix,f,e=>by simp only[jd,Sum.inr.injEq]at e;subst e;simp
 |x::l,ix,f,e=>by
  simp only[jd]at e
  cases hg:cS cJ x.1 a with
  |none=>rw[hg]at e;cases e
  |some c=>
   rw[hg]at e
   simp only at e
   split at e
   ·cases e
   ·have hc:=ha.get hg
    have:=tA ha l _ _ e
    obtain⟨_,_,c3,c4,_⟩:=hc
    rw[List.length_cons]
    omega
theorem aA.ok:aA.Ok:=by
 rintro⟨t,h,n,a,s⟩ ⟨hv,ha⟩
 have hv:oE t:=hv
 have ha:vd a:=ha
 rw[aA.eq,aw.run (d:=t) hv.1]
 simp only[ab,aw.add,aw.F,aA.add,aA.F,eM]
 by_cases hok:gv t=true
 ·rw[hok,Bool.not_true,ao]
  obtain⟨⟨_,a2,a3,_⟩,b1,b2⟩:=iU hok
  by_cases h1:1≤h
  ·rw[bk (by omega),ao]
   by_cases h2:h≤1048576
   ·rw[cW (by omega),ao,if_pos ⟨rfl,h1,h2⟩,tid.run (d:=t) hv]
    simp only[ab,tid.add,tid.F]
    rw[aA.L0.run (d:=(h,t,0,t.1,(t.1.length:Int),0,n,a,s,mD t)) ⟨⟨by show 0≤h;omega,h2⟩,Ao,a2,hv.2.1,ha,0,Nat.zero_le _,rfl,rfl,by decide,by decide⟩]
    simp only[ab,aA.L0.add,aA.L0.F,Int.toNat_zero,List.drop_zero]
    cases hi:jd h (mD t) a t.1 0 with
    |inl e=>
     simp only[Sum.isLeft_inl,ai,Sum.getLeft?_inl,ab]
    |inr ix=>
     have hb:=tA ha _ _ _ hi
     simp only[Sum.isLeft_inr,ao,Sum.getRight?_inr,ab]
     rw[bD.run (d:=t) hv]
     simp only[ab,bD.add,bD.F]
     rw[aA.L1.run (d:=(t,ix,fw t,((fw t).length:Int),0,n,a,s)) ⟨by rw[ka hok];omega,0,Nat.zero_le _,rfl,rfl⟩]
     simp only[ab,aA.L1.add,aA.L1.F,Int.toNat_zero,List.drop_zero]
     by_cases hm:(fw t).any (km a)=true
     ·rw[if_pos hm]
      simp only[Sum.isLeft_inl,ai,Sum.getLeft?_inl,ab,if_true,hm]
     ·rw[if_neg hm]
      simp only[Sum.isLeft_inr,ao,Sum.getRight?_inr,ab]
      rw[aA.L2.run (d:=(ix,t.2.1,(t.2.1.length:Int),0,n,a,s)) ⟨a3,fun o ho=>(kb _ _ b2 o ho).1,0,Nat.zero_le _,rfl,rfl,by show -((0:Int)*_)≤ix;omega,by show ix≤_;omega⟩]
      simp only[ab,aA.L2.add,aA.L2.F,Int.toNat_zero,List.drop_zero]
      rw[if_neg hm]
      by_cases hf:ix - gQ t.2.1 < 0
      ·rw[bu hf,ai,if_pos hf]
      ·rw[bk hf,ao,if_neg hf]
   ·rw[dx (by omega),ai,if_neg (fun e=>h2 e.2.2)]
  ·rw[bu (by omega),ai,if_neg (fun e=>h1 e.2.1)]
 ·have hok':gv t=false:=by simpa using hok
  rw[hok',Bool.not_false,ai,if_neg (fun e=>by cases e.1)]
noncomputable def aA.E:=Entry.cC [none,some fV,some ti] aA.st aA.aB aA.add aA.F aA.out
noncomputable def aA.call:aA.D→Option aA.X:=bS aA.E aA.st
theorem aA.run:bM aA.call aA.aB aA.add aA.F:=dh (dd [.d fV,.d ti,.n,.d (.slice (.pair cJ gF)),.d (.slice eO)] fun _=>by kernel_rfl)
noncomputable def aA.sg:SG Tryz.prog:=⟨29,aX,aA.E,.fn 3 (by kernel_rfl) aA.ok (And.intro (.cC aA.L0.ok (by kernel_rfl)) (And.intro (.cC aA.L1.ok (by kernel_rfl)) (And.intro (.cC aA.L2.ok (by kernel_rfl)) trivial)))⟩
set_option synthInstance.maxSize 5000
abbrev aP.L0.D:=Int×(List db)×Int×Int×Nat×(List (db×eX))×(List eg)
def aP.L0.st:aP.L0.D→AS:=fun(n,t23,t24,t25,o0L,o1_2,o2_2)=>⟨([.ptr (.dq 0) 0 [] 0,.undef,.undef,.d ti n]++bh 19 ([.d (.slice cJ) t23,.d ti t24,.d ti t25]++bh 40 [])),[.obj 0 false (.pr (.eN (.dq 1) 0) (.pr (.bJ (.dq 2) 0 [] 0 0 o0L) (.d .unit ()))),.obj 0 false (.mp cJ gF o1_2),.obj 0 false (.vec 161 eO o2_2)],(List.replicate 66 [])⟩
abbrev aP.L0.Y0:=(List (db×eX))
abbrev aP.L0.X0:=(Int×Nat×(List eg))×((List (db×eX)))
def aP.L0.bw:aP.L0.X0→Exit×AS:=fun x=>(.exit 0,⟨([.ptr (.dq 0) 0 [] 0,.undef,.undef,.d ti x.1.1]++bh 62 []),[.obj 0 false (.pr (.eN (.dq 1) 0) (.pr (.bJ (.dq 2) 0 [] 0 0 x.1.2.1) (.d .unit ()))),.obj 0 false (.mp cJ gF x.2),.obj 0 false (.vec 161 eO x.1.2.2)],(List.replicate 66 [])⟩)
abbrev aP.L0.X:=aP.L0.X0
abbrev aP.L0.Y:=aP.L0.Y0
def aP.L0.out:aP.L0.X→Out (Exit×AS):=fun x=> .ok (aP.L0.bw x)
def aP.L0.add:aP.L0.D→aP.L0.Y→aP.L0.X:=fun(n,t23,t24,t25,o0L,o1_2,o2_2) y=>((n,o0L,o2_2),y)
abbrev aP.L1.D:=Int×(List ze)×Int×Int×Nat×(List (db×eX))×(List eg)
def aP.L1.st:aP.L1.D→AS:=fun(n_2,t42,t43,t44,o0L_2,o1_3,o2_3)=>⟨([.ptr (.dq 0) 0 [] 0,.undef,.undef,.d ti n_2]++bh 38 ([.d (.slice Ce) t42,.d ti t43,.d ti t44]++bh 21 [])),[.obj 0 false (.pr (.eN (.dq 1) 0) (.pr (.bJ (.dq 2) 0 [] 0 0 o0L_2) (.d .unit ()))),.obj 0 false (.mp cJ gF o1_3),.obj 0 false (.vec 161 eO o2_3)],(List.replicate 66 [])⟩
abbrev aP.L1.Y0:=(List (db×eX))
abbrev aP.L1.X0:=(Int×Nat×(List eg))×((List (db×eX)))
def aP.L1.bw:aP.L1.X0→Exit×AS:=fun x=>(.exit 2,⟨([.ptr (.dq 0) 0 [] 0,.undef,.undef,.d ti x.1.1]++bh 62 []),[.obj 0 false (.pr (.eN (.dq 1) 0) (.pr (.bJ (.dq 2) 0 [] 0 0 x.1.2.1) (.d .unit ()))),.obj 0 false (.mp cJ gF x.2),.obj 0 false (.vec 161 eO x.1.2.2)],(List.replicate 66 [])⟩)
abbrev aP.L1.X:=aP.L1.X0
abbrev aP.L1.Y:=aP.L1.Y0
def aP.L1.out:aP.L1.X→Out (Exit×AS):=fun x=> .ok (aP.L1.bw x)
def aP.L1.add:aP.L1.D→aP.L1.Y→aP.L1.X:=fun(n_2,t42,t43,t44,o0L_2,o1_3,o2_3) y=>((n_2,o0L_2,o2_3),y)
abbrev aP.D:=Nat×(List (db×eX))×(List eg)
def aP.st:aP.D→SA:=fun(o0baL,o1,o2)=>([.ptr (.dq 0) 0 [] 0],[.obj 0 false (.pr (.eN (.dq 1) 0) (.pr (.bJ (.dq 2) 0 [] 0 0 o0baL) (.d .unit ()))),.obj 0 false (.mp cJ gF o1),.obj 0 false (.vec 161 eO o2)])
abbrev aP.Y:=Bool×Nat×(List (db×eX))×(List eg)
abbrev aP.X:=Bool×Nat×(List (db×eX))×(List eg)
def aP.out:aP.X→bg:=fun x=>⟨.d .bool x.1,[.obj 0 false (.pr (.eN (.dq 1) 0) (.pr (.bJ (.dq 2) 0 [] 0 0 x.2.1) (.d .unit ()))),.obj 0 false (.mp cJ gF x.2.2.1),.obj 0 false (.vec 161 eO x.2.2.2)],[]⟩
def aP.add:aP.D→aP.Y→aP.X:=fun(o0baL,o1,o2) y=>y
def mn(l:List db)(a:List (db×eX)):List (db×eX):=l.foldl (fun m o=>gD cJ o m) a
def Dy(l:List ze)(a:List (db×eX)):List (db×eX):=l.foldl (fun m e=>fO cJ e.1 e.2.1 m) a
def Bc(a:List (db×eX))(st:eg):List (db×eX):=Dy st.1 (mn st.2.1 a)
def aP.L0.aB:aP.L0.D→Prop:=fun(_,l,n,i,_,_,_)=>l.length≤1000∧∃k:Nat,k≤l.length∧i=k∧n=l.length
def aP.L0.F:aP.L0.D→aP.L0.Y:=fun(_,l,_,i,_,a,_)=>mn (l.drop i.toNat) a
def aP.L1.aB:aP.L1.D→Prop:=fun(_,l,n,i,_,_,_)=>l.length≤1000∧∃k:Nat,k≤l.length∧i=k∧n=l.length
def aP.L1.F:aP.L1.D→aP.L1.Y:=fun(_,l,_,i,_,a,_)=>Dy (l.drop i.toNat) a
def Cs(st:eg):Prop:=st.1.length≤1000∧st.2.1.length≤1000
def aP.aB:aP.D→Prop:=fun(n,_,s)=>n≤s.length∧s.length≤1000000∧∀st∈s,Cs st
def aP.F:aP.D→aP.Y:=fun(n,a,s)=>if n=0 then(false,n,a,s) else(true,n - 1,Bc a (nth eO s (n - 1)),s)
noncomputable def aP.G:dY:=fg (P:=Tryz.prog) []
noncomputable def aP.L0.E:=bQ.cC aP.L0.st aP.L0.aB aP.L0.add aP.L0.F aP.L0.out
noncomputable def aP.L0.call:aP.L0.D→Option aP.L0.X:=dm aP.L0.E aP.L0.st
noncomputable def aP.L1.E:=bQ.cC aP.L1.st aP.L1.aB aP.L1.add aP.L1.F aP.L1.out
noncomputable def aP.L1.call:aP.L1.D→Option aP.L1.X:=dm aP.L1.E aP.L1.st
noncomputable def aP.an:eI:= {loops:=j4 [(5,{bm:=[0,3,23,24,25]}),(10,{bm:=[0,3,42,43,44]})],outs:=j3 [(5,{bm:=[0,3]},{bm:=[2]}),(10,{bm:=[0,3]},{bm:=[2]})],fJ:=kT [(5,aP.L0.E),(10,aP.L1.E)]}
noncomputable def aP.A:= @cY Tryz.prog aP.G aP.an 0 Tryz.f37 _ aP.st
abbrev aP.Ok:=cZ @aP.A aP.aB aP.add aP.F aP.out
noncomputable def aP.L0.R:= @bV Tryz.prog aP.G aP.an 0 Tryz.f37 0 _ aP.L0.st
abbrev aP.L0.Ok:=ez Tryz.prog aP.G aP.an 0 Tryz.f37 0 aP.L0.st aP.L0.aB aP.L0.add aP.L0.F aP.L0.out
noncomputable def aP.L1.R:= @bV Tryz.prog aP.G aP.an 0 Tryz.f37 1 _ aP.L1.st
abbrev aP.L1.Ok:=ez Tryz.prog aP.G aP.an 0 Tryz.f37 1 aP.L1.st aP.L1.aB aP.L1.add aP.L1.F aP.L1.out
theorem aP.L0.run:bM aP.L0.call aP.L0.aB aP.L0.add aP.L0.F:=eF (eD [.d ti,.d (.slice cJ),.d ti,.d ti,.n,.d (.slice (.pair cJ gF)),.d (.slice eO)] fun _=>by kernel_rfl)
theorem aP.L0.aD:fP @aP.L0.R aP.L0.st aP.L0.aB aP.L0.add aP.L0.F aP.L0.bw aP.L0.Ok:=fR
theorem aP.L0.step{R:Type}(n:Int)(t23:(List db))(t24:Int)(t25:Int)(o0L:Nat)(o1_2:(List (db×eX)))(o2_2:(List eg))(kn:AS→Option R)(kx:Exit→AS→Option R):aP.L0.R (n,t23,t24,t25,o0L,o1_2,o2_2) kn kx=
  aK ((fZ t25 t24)) (
   aK (eH t25 (((List.length t23):Nat):Int)) (
   kn (aP.L0.st (n,t23,t24,(bR .i64 t25 (1:Int)),o0L,(gD cJ (nth cJ t23 (Int.toNat t25)) o1_2),o2_2))) none) (
   kx (aP.L0.bw ((n,o0L,o2_2),o1_2)).1 (aP.L0.bw ((n,o0L,o2_2),o1_2)).2):=by kernel_rfl
theorem aP.L1.run:bM aP.L1.call aP.L1.aB aP.L1.add aP.L1.F:=eF (eD [.d ti,.d (.slice Ce),.d ti,.d ti,.n,.d (.slice (.pair cJ gF)),.d (.slice eO)] fun _=>by kernel_rfl)
theorem aP.L1.aD:fP @aP.L1.R aP.L1.st aP.L1.aB aP.L1.add aP.L1.F aP.L1.bw aP.L1.Ok:=fR
theorem aP.L1.step{R:Type}(n_2:Int)(t42:(List ze))(t43:Int)(t44:Int)(o0L_2:Nat)(o1_3:(List (db×eX)))(o2_3:(List eg))(kn:AS→Option R)(kx:Exit→AS→Option R):aP.L1.R (n_2,t42,t43,t44,o0L_2,o1_3,o2_3) kn kx=
  aK ((fZ t44 t43)) (
   aK (eH t44 (((List.length t42):Nat):Int)) (
   kn (aP.L1.st (n_2,t42,t43,(bR .i64 t44 (1:Int)),o0L_2,(fO cJ (nth Ce t42 (Int.toNat t44)).1 (nth Ce t42 (Int.toNat t44)).2.1 o1_3),o2_3))) none) (
   kx (aP.L1.bw ((n_2,o0L_2,o2_3),o1_3)).1 (aP.L1.bw ((n_2,o0L_2,o2_3),o1_3)).2):=by kernel_rfl
theorem aP.eq{R:Type}(o0baL:Nat)(o1:(List (db×eX)))(o2:(List eg))(k:bg→Option R):aP.A (o0baL,o1,o2) k=
  aK ((fZ (cQ .i64 ((o0baL:Nat):Int) (1:Int)) (0:Int))) (
   k (aP.out (false,o0baL,o1,o2))) (
   aK (eH (cQ .i64 ((o0baL:Nat):Int) (1:Int)) ((o0baL:Nat):Int)) (
   aK (decide ((0+(Int.toNat (cQ .i64 ((o0baL:Nat):Int) (1:Int)))) < (List.length o2))) (
   aK (decide ((((0+(Int.toNat (cQ .i64 ((o0baL:Nat):Int) (1:Int))))*2)+1)=((0+((Int.toNat (cQ .i64 ((o0baL:Nat):Int) (1:Int)))*2))+1))) (
   al (aP.L0.call ((cQ .i64 ((o0baL:Nat):Int) (1:Int)),(nth eO o2 (0+(Int.toNat (cQ .i64 ((o0baL:Nat):Int) (1:Int))))).2.1,(((List.length (nth eO o2 (0+(Int.toNat (cQ .i64 ((o0baL:Nat):Int) (1:Int))))).2.1):Nat):Int),(0:Int),o0baL,o1,o2)) fun x1=>
   aK (eH x1.1.1 ((x1.1.2.1:Nat):Int)) (
   aK (decide ((0+(Int.toNat x1.1.1)) < (List.length x1.1.2.2))) (
   aK (decide ((((0+(Int.toNat x1.1.1))*2)+0)=((0+((Int.toNat x1.1.1)*2))+0))) (
   al (aP.L1.call (x1.1.1,(nth eO x1.1.2.2 (0+(Int.toNat x1.1.1))).1,(((List.length (nth eO x1.1.2.2 (0+(Int.toNat x1.1.1))).1):Nat):Int),(0:Int),x1.1.2.1,x1.2,x1.1.2.2)) fun x2=>
   aK (inc x2.1.1 ((x2.1.2.1:Nat):Int)) (
   k (aP.out (true,((Int.toNat x2.1.1) - 0),x2.2,x2.1.2.2))) none) none) none) none) none) none) none):=by kernel_rfl
theorem aP.L0.ok:aP.L0.Ok:=by
 refine aP.L0.aD (fun(_,l,_,i,_,_,_)=>l.length - i.toNat) ?_
 rintro⟨u,l,n,i,o,a,s⟩ ⟨hl,k,hk,rfl,rfl⟩
 have hl:l.length≤1000:=hl
 have hk:k≤l.length:=hk
 by_cases hlt:k < l.length
 ·left
  have n1:nth cJ l k=l[k]:=cG (t:=cJ) hlt
  have hd:l.drop k=l[k]::l.drop (k+1):=List.drop_eq_getElem_cons hlt
  refine⟨(u,l,(l.length:Int),((k+1:Nat):Int),o,mn [l[k]] a,s),⟨hl,k+1,by omega,rfl,rfl⟩,by simp only[Int.toNat_natCast];omega,?_,fun kn kx=> ?_⟩
  ·simp only[aP.L0.add,aP.L0.F,Int.toNat_natCast,hd,mn,List.foldl_cons,List.foldl_nil]
  ·rw[aP.L0.step,bu (by omega),ai,bz (by omega) (by omega),ai,Int.toNat_natCast,n1,N.kO (by omega)]
   rfl
 ·right
  obtain rfl:k=l.length:=by omega
  intro R kn kx
  rw[aP.L0.step,bk (by omega),ao]
  simp only[aP.L0.add,aP.L0.F,Int.toNat_natCast,List.drop_length,mn,List.foldl_nil]
theorem aP.L1.ok:aP.L1.Ok:=by
 refine aP.L1.aD (fun(_,l,_,i,_,_,_)=>l.length - i.toNat) ?_
 rintro⟨u,l,n,i,o,a,s⟩ ⟨hl,k,hk,rfl,rfl⟩
 have hl:l.length≤1000:=hl
 have hk:k≤l.length:=hk
 by_cases hlt:k < l.length
 ·left
  have n1:nth Ce l k=l[k]:=cG (t:=Ce) hlt
  have hd:l.drop k=l[k]::l.drop (k+1):=List.drop_eq_getElem_cons hlt
  refine⟨(u,l,(l.length:Int),((k+1:Nat):Int),o,Dy [l[k]] a,s),⟨hl,k+1,by omega,rfl,rfl⟩,by simp only[Int.toNat_natCast];omega,?_,fun kn kx=> ?_⟩
  ·simp only[aP.L1.add,aP.L1.F,Int.toNat_natCast,hd,Dy,List.foldl_cons,List.foldl_nil]
  ·rw[aP.L1.step,bu (by omega),ai,bz (by omega) (by omega),ai,Int.toNat_natCast,n1,N.kO (by omega)]
   rfl
 ·right
  obtain rfl:k=l.length:=by omega
  intro R kn kx
  rw[aP.L1.step,bk (by omega),ao]
  simp only[aP.L1.add,aP.L1.F,Int.toNat_natCast,List.drop_length,Dy,List.foldl_nil]
theorem aP.ok:aP.Ok:=by
 rintro⟨n,a,s⟩ ⟨h1,h2,h3⟩
 have h1:n≤s.length:=h1
 have h2:s.length≤1000000:=h2
 have h3:∀st∈s,Cs st:=h3
 rw[aP.eq]
 simp only[aP.add,aP.F]
 cases n with
 |zero=>
  rw[bu (by decide),ai]
  rfl
 |succ m=>
  have e1:cQ .i64 (((m+1:Nat):Nat):Int) (1:Int)=(m:Int):=by rw[eR (by omega) (by omega)];omega
  have hm:m < s.length:=by omega
  have n1:nth eO s m=s[m]:=cG (t:=eO) hm
  have hs:=h3 _ (List.getElem_mem hm)
  rw[e1,bk (by omega),ao,bz (by omega) (by omega),ai]
  simp only[Int.toNat_natCast,Nat.zero_add,Nat.add_zero,aY hm,ai,decide_true,n1]
  rw[aP.L0.run (d:=((m:Int),s[m].2.1,(s[m].2.1.length:Int),0,m+1,a,s)) ⟨hs.2,0,Nat.zero_le _,rfl,rfl⟩]
  simp only[ab,aP.L0.add,aP.L0.F,Int.toNat_zero,List.drop_zero]
  rw[bz (by omega) (by omega),ai]
  simp only[Int.toNat_natCast,Nat.zero_add,Nat.add_zero,aY hm,ai,decide_true,n1]
  rw[aP.L1.run (d:=((m:Int),s[m].1,(s[m].1.length:Int),0,m+1,mn s[m].2.1 a,s)) ⟨hs.1,0,Nat.zero_le _,rfl,rfl⟩]
  simp only[ab,aP.L1.add,aP.L1.F,Int.toNat_zero,List.drop_zero]
  rw[kB (by omega) (by omega),ai,if_neg (by omega)]
  simp only[Int.toNat_natCast,Nat.sub_zero,Nat.add_sub_cancel,n1,Bc]
noncomputable def aP.E:=Entry.cC [none] aP.st aP.aB aP.add aP.F aP.out
noncomputable def aP.call:aP.D→Option aP.X:=bS aP.E aP.st
theorem aP.run:bM aP.call aP.aB aP.add aP.F:=dh (dd [.n,.d (.slice (.pair cJ gF)),.d (.slice eO)] fun _=>by kernel_rfl)
noncomputable def aP.sg:SG Tryz.prog:=⟨37,aX,aP.E,.fn 2 (by kernel_rfl) aP.ok (And.intro (.cC aP.L0.ok (by kernel_rfl)) (And.intro (.cC aP.L1.ok (by kernel_rfl)) trivial))⟩
abbrev aN.L0.D:=Int×eT×(List db)×Int×Int×Nat×(List (db×eX))×(List eg)×Nat×((List db)×Unit)×(List ze)
def aN.L0.st:aN.L0.D→AS:=fun(height_2,t_2,t28,t29,t30,o0L,o1_2,o2_2,n9L,n9,n45)=>⟨([.ptr (.dq 0) 0 [] 0,.undef,.d ti height_2,.undef,.eC fV t_2]++bh 4 ([.ptr (.new 9 0) 0 [] 0]++bh 18 ([.d (.slice cJ) t28,.d ti t29,.d ti t30]++bh 54 []))),[.obj 0 false (.pr (.eN (.dq 1) 0) (.pr (.bJ (.dq 2) 0 [] 0 0 o0L) (.d .unit ()))),.obj 0 false (.mp cJ gF o1_2),.obj 0 false (.vec 161 eO o2_2)],(bI 9 ([[.obj 0 false (.pr (.bJ (.new 45 0) 0 [] 0 0 n9L) (.d (.pair (.slice cJ) .unit) n9))]]++bI 35 ([[.obj 0 false (.vec 163 Ce n45)]]++bI 39 [])))⟩
abbrev aN.L0.Y0:=(List (db×eX))×Nat×(List ze)
abbrev aN.L0.X0:=(Int×eT×Nat×(List eg)×((List db)×Unit))×((List (db×eX))×Nat×(List ze))
def aN.L0.bw:aN.L0.X0→Exit×AS:=fun x=>(.exit 0,⟨([.ptr (.dq 0) 0 [] 0,.undef,.d ti x.1.1,.undef,.eC fV x.1.2.1]++bh 4 ([.ptr (.new 9 0) 0 [] 0]++bh 75 [])),[.obj 0 false (.pr (.eN (.dq 1) 0) (.pr (.bJ (.dq 2) 0 [] 0 0 x.1.2.2.1) (.d .unit ()))),.obj 0 false (.mp cJ gF x.2.1),.obj 0 false (.vec 161 eO x.1.2.2.2.1)],(bI 9 ([[.obj 0 false (.pr (.bJ (.new 45 0) 0 [] 0 0 x.2.2.1) (.d (.pair (.slice cJ) .unit) x.1.2.2.2.2))]]++bI 35 ([[.obj 0 false (.vec 163 Ce x.2.2.2)]]++bI 39 [])))⟩)
abbrev aN.L0.X:=aN.L0.X0
abbrev aN.L0.Y:=aN.L0.Y0
def aN.L0.out:aN.L0.X→Out (Exit×AS):=fun x=> .ok (aN.L0.bw x)
def aN.L0.add:aN.L0.D→aN.L0.Y→aN.L0.X:=fun(height_2,t_2,t28,t29,t30,o0L,o1_2,o2_2,n9L,n9,n45) y=>((height_2,t_2,o0L,o2_2,n9),y)
abbrev aN.L1.D:=Int×eT×(List db)×Int×Int×Nat×(List (db×eX))×(List eg)×Nat×((List db)×Unit)×(List ze)
def aN.L1.st:aN.L1.D→AS:=fun(height_3,t_3,t54,t55,t56,o0L_2,o1_3,o2_3,n9L_2,n9_2,n45_2)=>⟨([.ptr (.dq 0) 0 [] 0,.undef,.d ti height_3,.undef,.eC fV t_3]++bh 4 ([.ptr (.new 9 0) 0 [] 0]++bh 44 ([.d (.slice cJ) t54,.d ti t55,.d ti t56]++bh 28 []))),[.obj 0 false (.pr (.eN (.dq 1) 0) (.pr (.bJ (.dq 2) 0 [] 0 0 o0L_2) (.d .unit ()))),.obj 0 false (.mp cJ gF o1_3),.obj 0 false (.vec 161 eO o2_3)],(bI 9 ([[.obj 0 false (.pr (.bJ (.new 45 0) 0 [] 0 0 n9L_2) (.d (.pair (.slice cJ) .unit) n9_2))]]++bI 35 ([[.obj 0 false (.vec 163 Ce n45_2)]]++bI 39 [])))⟩
abbrev aN.L1.Y0:=(List (db×eX))
abbrev aN.L1.X0:=(Nat×(List eg)×Nat×((List db)×Unit)×(List ze))×((List (db×eX)))
def aN.L1.bw:aN.L1.X0→Exit×AS:=fun x=>(.exit 2,⟨([.ptr (.dq 0) 0 [] 0]++bh 8 ([.ptr (.new 9 0) 0 [] 0]++bh 75 [])),[.obj 0 false (.pr (.eN (.dq 1) 0) (.pr (.bJ (.dq 2) 0 [] 0 0 x.1.1) (.d .unit ()))),.obj 0 false (.mp cJ gF x.2),.obj 0 false (.vec 161 eO x.1.2.1)],(bI 9 ([[.obj 0 false (.pr (.bJ (.new 45 0) 0 [] 0 0 x.1.2.2.1) (.d (.pair (.slice cJ) .unit) x.1.2.2.2.1))]]++bI 35 ([[.obj 0 false (.vec 163 Ce x.1.2.2.2.2)]]++bI 39 [])))⟩)
abbrev aN.L1.X:=aN.L1.X0
abbrev aN.L1.Y:=aN.L1.Y0
def aN.L1.out:aN.L1.X→Out (Exit×AS):=fun x=> .ok (aN.L1.bw x)
def aN.L1.add:aN.L1.D→aN.L1.Y→aN.L1.X:=fun(height_3,t_3,t54,t55,t56,o0L_2,o1_3,o2_3,n9L_2,n9_2,n45_2) y=>((o0L_2,o2_3,n9L_2,n9_2,n45_2),y)
abbrev aN.D:=eT×Int×Nat×(List (db×eX))×(List eg)
def aN.st:aN.D→SA:=fun(t,height,o0baL,o1,o2)=>([.ptr (.dq 0) 0 [] 0,.d fV t,.d ti height],[.obj 0 false (.pr (.eN (.dq 1) 0) (.pr (.bJ (.dq 2) 0 [] 0 0 o0baL) (.d .unit ()))),.obj 0 false (.mp cJ gF o1),.obj 0 false (.vec 161 eO o2)])
abbrev aN.Y:=(Int×Nat×(List (db×eX))×(List eg))⊕(Int×Nat×(List (db×eX))×(List eg))
abbrev aN.X:=(Int×Nat×(List (db×eX))×(List eg))⊕(Int×Nat×(List (db×eX))×(List eg))
def aN.out:aN.X→bg:=fun x=>match x with | .inl x=>⟨.d ti x.1,[.obj 0 false (.pr (.eN (.dq 1) 0) (.pr (.bJ (.dq 2) 0 [] 0 0 x.2.1) (.d .unit ()))),.obj 0 false (.mp cJ gF x.2.2.1),.obj 0 false (.vec 161 eO x.2.2.2)],[]⟩ | .inr x=>⟨.d ti x.1,[.obj 0 false (.pr (.eN (.dq 1) 0) (.pr (.bJ (.dq 2) 1 [] 0 0 x.2.1) (.d .unit ()))),.obj 0 false (.mp cJ gF x.2.2.1),.obj 1 false (.vec 161 eO x.2.2.2)],[]⟩
def aN.add:aN.D→aN.Y→aN.X:=fun(t,height,o0baL,o1,o2) y=>match y with | .inl y=> .inl y | .inr y=> .inr y
def nF(a:List (db×eX)):List db→List ze
 |[]=> []
 |o::l=>(o,((cS cJ o a).getD vY,()))::nF (gD cJ o a) l
def qV(h:Int):List db→List fx→List (db×eX)→List (db×eX)
 |o::l,x::xs,a=>qV h l xs (fO cJ o (x,(h,())) a)
 |_,_,a=>a
def stepOf(t:eT)(a:List (db×eX)):eg:=(nF a (ea t),(fw t,()))
def gM(t:eT)(h:Int)(a:List (db×eX)):List (db×eX):=qV h (fw t) t.2.1 (mn (ea t) a)
def aN.L0.aB:aN.L0.D→Prop:=fun(_,_,l,n,i,_,_,_,gL,_,g)=>l.length≤1000∧∃k:Nat,k≤l.length∧i=k∧n=l.length∧gL=g.length∧g.length=k
def aN.L0.F:aN.L0.D→aN.L0.Y:=fun(_,_,l,_,i,_,a,_,gL,_,g)=>(mn (l.drop i.toNat) a,gL+(l.drop i.toNat).length,g++nF a (l.drop i.toNat))
def aN.L1.aB:aN.L1.D→Prop:=fun(_,t,l,n,i,_,_,_,_,_,_)=>l.length≤1000∧l.length=t.2.1.length∧(∀o∈t.2.1,H0 o.2.1)∧∃k:Nat,k≤l.length∧i=k∧n=l.length
def aN.L1.F:aN.L1.D→aN.L1.Y:=fun(h,t,l,_,i,_,a,_,_,_,_)=>qV h (l.drop i.toNat) (t.2.1.drop i.toNat) a
def aN.aB:aN.D→Prop:=fun(t,_,n,a,s)=>oE t∧vd a∧n≤s.length∧s.length≤1000000
def aN.F:aN.D→aN.Y:=fun(t,h,n,a,s)=>if(eM t h a).2≠0 then .inl ((eM t h a).2,n,a,s) else .inr (0,n+1,gM t h a,s.take n++ [stepOf t a])
noncomputable def aN.G:dY:=fg (P:=Tryz.prog) [aA.sg,bD.sg,aO.sg,cz.sg]
noncomputable def aN.L0.E:=bQ.cC aN.L0.st aN.L0.aB aN.L0.add aN.L0.F aN.L0.out
noncomputable def aN.L0.call:aN.L0.D→Option aN.L0.X:=dm aN.L0.E aN.L0.st
noncomputable def aN.L1.E:=bQ.cC aN.L1.st aN.L1.aB aN.L1.add aN.L1.F aN.L1.out
noncomputable def aN.L1.call:aN.L1.D→Option aN.L1.X:=dm aN.L1.E aN.L1.st
noncomputable def aN.an:eI:= {loops:=j4 [(6,{bm:=[0,2,4,9,28,29,30],sites:=[9,45],iA:=[⟨9,[.fst],45,159⟩]}),(12,{bm:=[0,2,4,9,54,55,56],sites:=[9,45]})],outs:=j3 [(6,{bm:=[0,2,4,9],sites:=[9,45]},{bm:=[6]}),(12,{bm:=[0,9],sites:=[9,45]},{bm:=[6]})],fJ:=kT [(6,aN.L0.E),(12,aN.L1.E)]}
noncomputable def aN.A:= @cY Tryz.prog aN.G aN.an 0 Tryz.f30 _ aN.st
abbrev aN.Ok:=cZ @aN.A aN.aB aN.add aN.F aN.out
noncomputable def aN.L0.R:= @bV Tryz.prog aN.G aN.an 0 Tryz.f30 0 _ aN.L0.st
abbrev aN.L0.Ok:=ez Tryz.prog aN.G aN.an 0 Tryz.f30 0 aN.L0.st aN.L0.aB aN.L0.add aN.L0.F aN.L0.out
noncomputable def aN.L1.R:= @bV Tryz.prog aN.G aN.an 0 Tryz.f30 1 _ aN.L1.st
abbrev aN.L1.Ok:=ez Tryz.prog aN.G aN.an 0 Tryz.f30 1 aN.L1.st aN.L1.aB aN.L1.add aN.L1.F aN.L1.out
theorem aN.L0.run:bM aN.L0.call aN.L0.aB aN.L0.add aN.L0.F:=eF (eD [.d ti,.d fV,.d (.slice cJ),.d ti,.d ti,.n,.d (.slice (.pair cJ gF)),.d (.slice eO),.n,.d (.pair (.slice cJ) .unit),.d (.slice Ce)] fun _=>by kernel_rfl)
theorem aN.L0.aD:fP @aN.L0.R aN.L0.st aN.L0.aB aN.L0.add aN.L0.F aN.L0.bw aN.L0.Ok:=fR
theorem aN.L0.step{R:Type}(height_2:Int)(t_2:eT)(t28:(List db))(t29:Int)(t30:Int)(o0L:Nat)(o1_2:(List (db×eX)))(o2_2:(List eg))(n9L:Nat)(n9:((List db)×Unit))(n45:(List ze))(kn:AS→Option R)(kx:Exit→AS→Option R):aN.L0.R (height_2,t_2,t28,t29,t30,o0L,o1_2,o2_2,n9L,n9,n45) kn kx=
  aK ((fZ t30 t29)) (
   aK (eH t30 (((List.length t28):Nat):Int)) (
   aK (decide (n9L≤(List.length n45))) (
   aK (dp (n9L+1) 80) (
   kn (aN.L0.st (height_2,t_2,t28,t29,(bR .i64 t30 (1:Int)),o0L,(gD cJ (nth cJ t28 (Int.toNat t30)) o1_2),o2_2,(n9L+1),n9,((List.take n9L n45)++ [((nth cJ t28 (Int.toNat t30)),(((cS cJ (nth cJ t28 (Int.toNat t30)) o1_2).getD (((0:Int),((([]:List iw),()),())),((0:Int),()))),()))])))) none) none) none) (
   kx (aN.L0.bw ((height_2,t_2,o0L,o2_2,n9),(o1_2,n9L,n45))).1 (aN.L0.bw ((height_2,t_2,o0L,o2_2,n9),(o1_2,n9L,n45))).2):=by kernel_rfl
theorem aN.L1.run:bM aN.L1.call aN.L1.aB aN.L1.add aN.L1.F:=eF (eD [.d ti,.d fV,.d (.slice cJ),.d ti,.d ti,.n,.d (.slice (.pair cJ gF)),.d (.slice eO),.n,.d (.pair (.slice cJ) .unit),.d (.slice Ce)] fun _=>by kernel_rfl)
theorem aN.L1.aD:fP @aN.L1.R aN.L1.st aN.L1.aB aN.L1.add aN.L1.F aN.L1.bw aN.L1.Ok:=fR
theorem aN.L1.step{R:Type}(height_3:Int)(t_3:eT)(t54:(List db))(t55:Int)(t56:Int)(o0L_2:Nat)(o1_3:(List (db×eX)))(o2_3:(List eg))(n9L_2:Nat)(n9_2:((List db)×Unit))(n45_2:(List ze))(kn:AS→Option R)(kx:Exit→AS→Option R):aN.L1.R (height_3,t_3,t54,t55,t56,o0L_2,o1_3,o2_3,n9L_2,n9_2,n45_2) kn kx=
  aK ((fZ t56 t55)) (
   aK (eH t56 (((List.length t54):Nat):Int)) (
   aK (eH t56 (((List.length t_3.2.1):Nat):Int)) (
   al (cz.call (nth eP t_3.2.1 (Int.toNat t56))) fun x1=>
   kn (aN.L1.st (height_3,t_3,t54,t55,(bR .i64 t56 (1:Int)),o0L_2,(fO cJ (nth cJ t54 (Int.toNat t56)) (x1,(height_3,())) o1_3),o2_3,n9L_2,n9_2,n45_2))) none) none) (
   kx (aN.L1.bw ((o0L_2,o2_3,n9L_2,n9_2,n45_2),o1_3)).1 (aN.L1.bw ((o0L_2,o2_3,n9L_2,n9_2,n45_2),o1_3)).2):=by kernel_rfl
theorem aN.eq{R:Type}(t:eT)(height:Int)(o0baL:Nat)(o1:(List (db×eX)))(o2:(List eg))(k:bg→Option R):aN.A (t,height,o0baL,o1,o2) k=
  al (aA.call (t,height,o0baL,o1,o2)) fun x1=>
  aK ((mZ x1.2.1 (0:Int))) (
   k (aN.out (.inl (x1.2.1,x1.2.2.1,x1.2.2.2.1,x1.2.2.2.2)))) (
   al (bD.call t) fun x2=>
   al (aO.call t) fun x3=>
   al (aN.L0.call (height,t,x3,(((List.length x3):Nat):Int),(0:Int),x1.2.2.1,x1.2.2.2.1,x1.2.2.2.2,0,(x2,()),([]:List ze))) fun x4=>
   al (aN.L1.call (x4.1.1,x4.1.2.1,x4.1.2.2.2.2.1,(((List.length x4.1.2.2.2.2.1):Nat):Int),(0:Int),x4.1.2.2.1,x4.2.1,x4.1.2.2.2.1,x4.2.2.1,x4.1.2.2.2.2,x4.2.2.2)) fun x6=>
   aK (decide (0=0∧(0+x6.1.2.2.1)≤(List.length x6.1.2.2.2.2))) (
   aK (decide (x6.1.1≤(List.length x6.1.2.1))) (
   aK (dp (x6.1.1+1) 48) (
   k (aN.out (.inr ((0:Int),(x6.1.1+1),x6.2,((List.take x6.1.1 x6.1.2.1)++ [((cut x6.1.2.2.2.2 0 x6.1.2.2.1),x6.1.2.2.2.1)]))))) none) none) none):=by kernel_rfl
theorem aN.L0.ok:aN.L0.Ok:=by
 refine aN.L0.aD (fun(_,_,l,_,i,_,_,_,_,_,_)=>l.length - i.toNat) ?_
 rintro⟨h,t,l,n,i,o,a,s,gL,u,g⟩ ⟨hl,k,hk,rfl,rfl,rfl,hg⟩
 have hl:l.length≤1000:=hl
 have hk:k≤l.length:=hk
 have hg:g.length=k:=hg
 by_cases hlt:k < l.length
 ·left
  have n1:nth cJ l k=l[k]:=cG (t:=cJ) hlt
  have hd:l.drop k=l[k]::l.drop (k+1):=List.drop_eq_getElem_cons hlt
  refine⟨(h,t,l,(l.length:Int),((k+1:Nat):Int),o,gD cJ l[k] a,s,g.length+1,u,g++ [(l[k],((cS cJ l[k] a).getD vY,()))]),⟨hl,k+1,by omega,rfl,rfl,by simp,by simp[hg]⟩,by simp only[Int.toNat_natCast];omega,?_,fun kn kx=> ?_⟩
  ·simp only[aN.L0.add,aN.L0.F,Int.toNat_natCast,hd,mn,List.foldl_cons,nF,List.append_assoc,List.singleton_append,List.length_cons]
   rw[show g.length+1+(l.drop (k+1)).length=g.length+((l.drop (k+1)).length+1) by omega]
  ·rw[aN.L0.step,bu (by omega),ai,bz (by omega) (by omega),ai,aY (Nat.le_refl _),ai,dX (by omega) (by omega),ai,Int.toNat_natCast,n1,N.kO (by omega),List.take_length]
   rfl
 ·right
  obtain rfl:k=l.length:=by omega
  intro R kn kx
  rw[aN.L0.step,bk (by omega),ao]
  simp only[aN.L0.add,aN.L0.F,Int.toNat_natCast,List.drop_length,mn,List.foldl_nil,nF,List.append_nil,List.length_nil,Nat.add_zero]
theorem aN.L1.ok:aN.L1.Ok:=by
 refine aN.L1.aD (fun(_,_,l,_,i,_,_,_,_,_,_)=>l.length - i.toNat) ?_
 rintro⟨h,t,l,n,i,o,a,s,gL,u,g⟩ ⟨hl,he,hb,k,hk,rfl,rfl⟩
 have hl:l.length≤1000:=hl
 have he:l.length=t.2.1.length:=he
 have hk:k≤l.length:=hk
 by_cases hlt:k < l.length
 ·left
  have hlt2:k < t.2.1.length:=by omega
  have n1:nth cJ l k=l[k]:=cG (t:=cJ) hlt
  have n2:nth eP t.2.1 k=t.2.1[k]:=cG (t:=eP) hlt2
  have hd:l.drop k=l[k]::l.drop (k+1):=List.drop_eq_getElem_cons hlt
  have hd2:t.2.1.drop k=t.2.1[k]::t.2.1.drop (k+1):=List.drop_eq_getElem_cons hlt2
  refine⟨(h,t,l,(l.length:Int),((k+1:Nat):Int),o,fO cJ l[k] (t.2.1[k],(h,())) a,s,gL,u,g),⟨hl,he,hb,k+1,by omega,rfl,rfl⟩,by simp only[Int.toNat_natCast];omega,?_,fun kn kx=> ?_⟩
  ·simp only[aN.L1.add,aN.L1.F,Int.toNat_natCast,hd,hd2,qV]
  ·rw[aN.L1.step,bu (by omega),ai,bz (by omega) (by omega),ai,bz (by omega) (by omega),ai,Int.toNat_natCast,n1,n2,cz.run (d:=t.2.1[k]) (hb _ (List.getElem_mem hlt2))]
   simp only[ab,cz.add,cz.F]
   rw[N.kO (by omega)]
 ·right
  obtain rfl:k=l.length:=by omega
  intro R kn kx
  rw[aN.L1.step,bk (by omega),ao]
  simp only[aN.L1.add,aN.L1.F,Int.toNat_natCast,List.drop_length,qV]
theorem vk{t:eT}{h:Int}{a:List (db×eX)}(e:(eM t h a).2=0):gv t=true∧1≤h∧h≤1048576∧∃ix,jd h (mD t) a t.1 0= .inr ix∧(fw t).any (km a)=false∧0≤ix - gQ t.2.1∧eM t h a=(ix - gQ t.2.1,0):=by
 unfold eM at e ⊢
 by_cases h0:gv t=true∧1≤h∧h≤1048576
 ·rw[if_pos h0]at e
  rw[if_pos h0]
  refine⟨h0.1,h0.2.1,h0.2.2,?_⟩
  cases hi:jd h (mD t) a t.1 0 with
  |inl x=>
   exfalso
   rw[hi]at e
   simp only at e
   subst e
   have key:∀(l:List fU) (f:Int),jd h (mD t) a l f≠ .inl 0:=by
    intro l
    induction l with
    |nil=>intro f hf;cases hf
    |cons x l ih=>
     intro f hf
     simp only[jd]at hf
     cases hg:cS cJ x.1 a with
     |none=>rw[hg]at hf;simp at hf
     |some c=>
      rw[hg]at hf
      simp only at hf
      split at hf
      ·rename_i hne;exact hne (by injection hf)
      ·exact ih _ hf
   exact key _ _ hi
  |inr ix=>
   rw[hi]at e
   simp only at e ⊢
   by_cases hm:(fw t).any (km a)=true
   ·rw[if_pos hm]at e;cases e
   ·rw[if_neg hm]at e
    rw[if_neg hm]
    by_cases hf:ix - gQ t.2.1 < 0
    ·rw[if_pos hf]at e;cases e
    ·rw[if_neg hf]
     exact⟨ix,rfl,by simpa using hm,by omega,rfl⟩
 ·rw[if_neg h0]at e;cases e
theorem tE{t:eT}(h:gv t=true):(ea t).length=t.1.length:=by
 unfold ea
 rw[if_pos h,List.length_map]
theorem aN.ok:aN.Ok:=by
 rintro⟨t,h,n,a,s⟩ ⟨hv,ha,hn,hs⟩
 have hv:oE t:=hv
 have ha:vd a:=ha
 have hn:n≤s.length:=hn
 have hs:s.length≤1000000:=hs
 rw[aN.eq,aA.run (d:=(t,h,n,a,s)) ⟨hv,ha⟩]
 simp only[ab,aA.add,aA.F,aN.add,aN.F]
 by_cases he:(eM t h a).2=0
 ·rw[cg he,ao,if_neg (fun e=>e he)]
  obtain⟨hok,_,_,_⟩:=vk he
  obtain⟨⟨_,a2,a3,_⟩,b1,b2⟩:=iU hok
  rw[bD.run (d:=t) hv]
  simp only[ab,bD.add,bD.F]
  rw[aO.run (d:=t) hv.1]
  simp only[ab,aO.add,aO.F]
  rw[aN.L0.run (d:=(h,t,ea t,((ea t).length:Int),0,n,a,s,0,(fw t,()),[])) ⟨by rw[tE hok];omega,0,Nat.zero_le _,rfl,rfl,rfl,rfl⟩]
  simp only[ab,aN.L0.add,aN.L0.F,Int.toNat_zero,List.drop_zero,List.nil_append,Nat.zero_add]
  rw[aN.L1.run (d:=(h,t,fw t,((fw t).length:Int),0,n,mn (ea t) a,s,(ea t).length,(fw t,()),nF a (ea t))) ⟨by rw[ka hok];omega,ka hok,fun o ho=>by
   have:=tM (kb _ _ b2 o ho).2
   exact⟨by omega,fun b hb=>by have:=this.2 b hb;omega⟩,0,Nat.zero_le _,rfl,rfl⟩]
  simp only[ab,aN.L1.add,aN.L1.F,Int.toNat_zero,List.drop_zero]
  have hgl:∀(l:List db) (a:List (db×eX)),(nF a l).length=l.length:=by
   intro l
   induction l with
   |nil=>intro a;rfl
   |cons o l ih=>intro a;simp[nF,ih]
  rw[aY (by rw[hgl];exact⟨trivial,by omega⟩),ai,aY hn,ai,dX (by omega) (by omega),ai,e7 (hgl _ _)]
  rfl
 ·rw[dR he,ai,if_pos he]
noncomputable def aN.E:=Entry.EP [none,some fV,some ti] aN.st aN.aB aN.add aN.F aN.out
noncomputable def aN.call:aN.D→Option aN.X:=bS aN.E aN.st
theorem aN.run:bM aN.call aN.aB aN.add aN.F:=FE (dd [.d fV,.d ti,.n,.d (.slice (.pair cJ gF)),.d (.slice eO)] fun _=>by kernel_rfl)
noncomputable def aN.sg:SG Tryz.prog:=⟨30,aX,aN.E,.IS (.fn 2 (by kernel_rfl) aN.ok (And.intro (.cC aN.L0.ok (by kernel_rfl)) (And.intro (.cC aN.L1.ok (by kernel_rfl)) trivial)))⟩
set_option synthInstance.maxSize 5000
def rQ:eU:=([],true,())
def iX(r:eU):Prop:=r.1.length≤1000000000∧Bytes r.1
def iy(n:Nat)(r:eU):List Int×eU:=if r.2.1=true∨r.1.length < n then([],rQ) else(r.1.take n,(r.1.drop n,r.2))
def sz(l:List Int):Int:=l.foldl (fun n b=>n*256+b) 0
def jU(r:eU):Int×eU:=(sz (iy 8 r).1,(iy 8 r).2)
theorem wA:iX rQ:=⟨Nat.zero_le _,fun x hx=>by cases hx⟩
theorem lE{n:Nat}{r:eU}(h:iX r):(iy n r).1.length≤n∧Bytes (iy n r).1∧iX (iy n r).2:=by
 unfold iy
 split
 ·exact⟨Nat.zero_le _,fun x hx=>(by cases hx),wA⟩
 ·refine⟨by rw[List.length_take];omega,fun x hx=>h.2 x (List.mem_of_mem_take hx),?_,fun x hx=>h.2 x (List.mem_of_mem_drop hx)⟩
  show(r.1.drop n).length≤_
  rw[List.length_drop]
  have:=h.1
  omega
theorem B0(l:List Int)(b:Int):sz (l++ [b])=sz l*256+b:=by unfold sz;rw[List.foldl_append];rfl
theorem yA:∀(l:List Int) (n:Int) (k:Nat),Bytes l→0≤n→n < 256^k→0≤l.foldl (fun n b=>n*256+b) n∧l.foldl (fun n b=>n*256+b) n < 256^(k+l.length)
 |[],n,k,_,h0,h1=>⟨h0,h1⟩
 |b::l,n,k,hb,h0,h1=>by
  obtain⟨hx1,hx2⟩:=hb b List.mem_cons_self
  have e:(256:Int)^(k+1)=256^k*256:=Int.pow_succ 256 k
  have:=yA l (n*256+b) (k+1) (fun x hx=>hb x (List.mem_cons_of_mem _ hx)) (by omega) (by rw[e];omega)
  rw[show k+(b::l).length=k+1+l.length by rw[List.length_cons];omega]
  exact this
theorem AY{l:List Int}(h:Bytes l):0≤sz l∧sz l < 256^l.length:=by
 have:=yA l 0 0 h (Int.le_refl 0) (by decide)
 rw[Nat.zero_add]at this
 exact this
theorem vJ{a b:Nat}(h:a≤b):(256:Int)^a≤256^b:=by
 have:((256^a:Nat):Int)≤((256^b:Nat):Int):=Int.ofNat_le.2 (Nat.pow_le_pow_right (by decide) h)
 rw[Int.natCast_pow,Int.natCast_pow]at this
 exact this
theorem Gp{l:List Int}(h:Bytes l)(h8:l.length≤8):iZ (sz l):=by
 have e:=AY h
 have e2:=vJ h8
 have e3:(256:Int)^8=18446744073709551616:=rfl
 exact⟨e.1,by omega⟩
theorem rK{r:eU}(h:iX r):iZ (jU r).1∧iX (jU r).2:=⟨Gp (lE h).2.1 (lE h).1,(lE h).2.2⟩
theorem HJ{n b:Int}(h0:0≤n)(h1:n < 72057594037927936)(hb:xl b):ct .or .u64 (gN .u64 n 8) (dJ .u64 b)=n*256+b:=by
 have e:=(rR (n:=n) (b:=b) ⟨h0,by omega⟩ hb).1
 rw[ku 56 (by rfl) (by omega)]at e
 have p:(2:Int)^56=72057594037927936:=rfl
 rw[p]at e
 omega
abbrev dT.D:=eU
def dT.st:dT.D→SA:=fun o0=>([.ptr (.dq 0) 0 [] 0],[.obj 0 false (.d jF o0)])
abbrev dT.Y:=eU
abbrev dT.X:=eU
def dT.out:dT.X→bg:=fun x=>⟨.nil,[.obj 0 false (.d jF x)],[]⟩
def dT.add:dT.D→dT.Y→dT.X:=fun o0 y=>y
def dT.aB:dT.D→Prop:=fun _=>True
def dT.F:dT.D→dT.Y:=fun _=>rQ
noncomputable def dT.G:dY:=fg (P:=Tryz.prog) []
noncomputable def dT.an:eI:= {uQ:=[⟨0,[.arr],jF⟩]}
noncomputable def dT.A:= @cY Tryz.prog dT.G dT.an 0 Tryz.f239 _ dT.st
abbrev dT.Ok:=cZ @dT.A dT.aB dT.add dT.F dT.out
theorem dT.eq{R:Type}(o0:eU)(k:bg→Option R):dT.A o0 k=
 k (dT.out (([]:List Int),(true,o0.2.2))):=by kernel_rfl
theorem dT.ok:dT.Ok:=by
 intro o _
 rw[dT.eq]
 rfl
noncomputable def dT.E:=Entry.cC [none] dT.st dT.aB dT.add dT.F dT.out
noncomputable def dT.call:dT.D→Option dT.X:=bS dT.E dT.st
theorem dT.run:bM dT.call dT.aB dT.add dT.F:=dh (dd [.d jF] fun _=>by kernel_rfl)
noncomputable def dT.sg:SG Tryz.prog:=⟨239,aX,dT.E,.fn 0 (by kernel_rfl) dT.ok trivial⟩
abbrev eo.D:=eU
def eo.st:eo.D→SA:=fun o0=>([.ptr (.dq 0) 0 [] 0],[.obj 0 false (.d jF o0)])
abbrev eo.Y:=Int
abbrev eo.X:=(eU)×(Int)
def eo.out:eo.X→bg:=fun x=>⟨.d ti x.2,[.obj 0 false (.d jF x.1)],[]⟩
def eo.add:eo.D→eo.Y→eo.X:=fun o0 y=>(o0,y)
def eo.aB:eo.D→Prop:=fun _=>True
def eo.F:eo.D→eo.Y:=fun o=>(o.1.length:Int)
noncomputable def eo.G:dY:=fg (P:=Tryz.prog) []
noncomputable def eo.an:eI:= {}
noncomputable def eo.A:= @cY Tryz.prog eo.G eo.an 0 Tryz.f190 _ eo.st
abbrev eo.Ok:=cZ @eo.A eo.aB eo.add eo.F eo.out
theorem eo.eq{R:Type}(o0:eU)(k:bg→Option R):eo.A o0 k=
 k (eo.out (o0,(((List.length o0.1):Nat):Int))):=by kernel_rfl
theorem eo.ok:eo.Ok:=by
 intro o _
 rw[eo.eq]
 rfl
noncomputable def eo.E:=Entry.cC [none] eo.st eo.aB eo.add eo.F eo.out
noncomputable def eo.call:eo.D→Option eo.X:=bS eo.E eo.st
theorem eo.run:bM eo.call eo.aB eo.add eo.F:=dh (dd [.d jF] fun _=>by kernel_rfl)
noncomputable def eo.sg:SG Tryz.prog:=⟨190,aX,eo.E,.fn 0 (by kernel_rfl) eo.ok trivial⟩
abbrev fG.D:=eU
def fG.st:fG.D→SA:=fun o0=>([.ptr (.dq 0) 0 [] 0],[.obj 0 false (.d jF o0)])
abbrev fG.Y:=Bool
abbrev fG.X:=(eU)×(Bool)
def fG.out:fG.X→bg:=fun x=>⟨.d .bool x.2,[.obj 0 false (.d jF x.1)],[]⟩
def fG.add:fG.D→fG.Y→fG.X:=fun o0 y=>(o0,y)
def fG.aB:fG.D→Prop:=fun _=>True
def fG.F:fG.D→fG.Y:=fun o=> !o.2.1
noncomputable def fG.G:dY:=fg (P:=Tryz.prog) []
noncomputable def fG.an:eI:= {}
noncomputable def fG.A:= @cY Tryz.prog fG.G fG.an 0 Tryz.f189 _ fG.st
abbrev fG.Ok:=cZ @fG.A fG.aB fG.add fG.F fG.out
theorem fG.eq{R:Type}(o0:eU)(k:bg→Option R):fG.A o0 k=
 k (fG.out (o0,(!o0.2.1))):=by kernel_rfl
theorem fG.ok:fG.Ok:=by
 intro o _
 rw[fG.eq]
 rfl
noncomputable def fG.E:=Entry.cC [none] fG.st fG.aB fG.add fG.F fG.out
noncomputable def fG.call:fG.D→Option fG.X:=bS fG.E fG.st
theorem fG.run:bM fG.call fG.aB fG.add fG.F:=dh (dd [.d jF] fun _=>by kernel_rfl)
noncomputable def fG.sg:SG Tryz.prog:=⟨189,aX,fG.E,.fn 0 (by kernel_rfl) fG.ok trivial⟩
abbrev dA.D:=Int×eU
def dA.st:dA.D→SA:=fun(n,o0)=>([.ptr (.dq 0) 0 [] 0,.d ti n],[.obj 0 false (.d jF o0)])
abbrev dA.Y:=Bs×eU
abbrev dA.X:=Bs×eU
def dA.out:dA.X→bg:=fun x=>⟨.d tB x.1,[.obj 0 false (.d jF x.2)],[]⟩
def dA.add:dA.D→dA.Y→dA.X:=fun(n,o0) y=>y
def dA.aB:dA.D→Prop:=fun(n,o)=>0≤n∧o.1.length≤1000000000
def dA.F:dA.D→dA.Y:=fun(n,o)=>iy n.toNat o
noncomputable def dA.G:dY:=fg (P:=Tryz.prog) [dT.sg,cr.sg]
noncomputable def dA.an:eI:= {res:=[some tB],uQ:=[⟨0,[.arr],jF⟩]}
noncomputable def dA.A:= @cY Tryz.prog dA.G dA.an 0 Tryz.f240 _ dA.st
abbrev dA.Ok:=cZ @dA.A dA.aB dA.add dA.F dA.out
theorem dA.eq{R:Type}(n:Int)(o0:eU)(k:bg→Option R):dA.A (n,o0) k=
  aK (o0.2.1) (
   al (dT.call o0) fun x1=>
   k (dA.out (([]:List Int),x1))) (
   aK ((mJ n (((List.length o0.1):Nat):Int))) (
    al (dT.call o0) fun x2=>
    k (dA.out (([]:List Int),x2))) (
    aK (inc n (((List.length o0.1):Nat):Int)) (
    al (cr.call (cut o0.1 0 ((Int.toNat n) - 0))) fun x3=>
    aK (inc n (((List.length o0.1):Nat):Int)) (
    aK (decide (0=0∧(0+x3.1)≤(List.length x3.2))) (
    k (dA.out ((cut x3.2 0 x3.1),((cut o0.1 (Int.toNat n) ((List.length o0.1) - (Int.toNat n))),o0.2)))) none) none) none)):=by kernel_rfl
theorem dA.ok:dA.Ok:=by
 rintro⟨n,o⟩ ⟨h0,hl⟩
 have h0:0≤n:=h0
 have hl:o.1.length≤1000000000:=hl
 obtain⟨k,rfl⟩:∃k:Nat,n=k:=⟨n.toNat,by omega⟩
 rw[dA.eq]
 simp only[dA.add,dA.F,iy,Int.toNat_natCast,Nat.sub_zero]
 cases h2:o.2.1
 ·by_cases hn:o.1.length < k
  ·rw[dx (by omega),if_pos (Or.inr hn),dT.run (d:=o) trivial];rfl
  ·have e1:cut o.1 0 k=o.1.take k:=rfl
   have e2:cut o.1 k (o.1.length - k)=o.1.drop k:=by unfold cut;rw[List.take_of_length_le];rw[List.length_drop];omega
   rw[cW (by omega),if_neg (by intro x;rcases x with x | x;exact absurd x (by decide);exact hn x),kB (by omega) (by omega),e1,e2,cr.run (d:=o.1.take k) (by show(o.1.take k).length≤_;rw[List.length_take];omega)]
   simp only[ao,ai,ab,cr.add,cr.F,Nat.zero_add,Nat.le_refl,and_self,decide_true,e7]
 ·rw[ai,if_pos (Or.inl rfl),dT.run (d:=o) trivial];rfl
noncomputable def dA.E:=Entry.cC [none,some ti] dA.st dA.aB dA.add dA.F dA.out
noncomputable def dA.call:dA.D→Option dA.X:=bS dA.E dA.st
theorem dA.run:bM dA.call dA.aB dA.add dA.F:=dh (dd [.d ti,.d jF] fun _=>by kernel_rfl)
noncomputable def dA.sg:SG Tryz.prog:=⟨240,aX,dA.E,.fn 0 (by kernel_rfl) dA.ok trivial⟩
abbrev cm.L0.D:=Int×Bs×Int×Int×eU
def cm.L0.st:cm.L0.D→AS:=fun(n,t7,t8,t9,o0_2)=>⟨([.undef,.undef,.undef,.d tu n,.undef,.undef,.undef,.d tB t7,.d ti t8,.d ti t9]++bh 10 []),[.obj 0 false (.d jF o0_2)],(List.replicate 20 [])⟩
abbrev cm.L0.Y0:=Int
abbrev cm.L0.X0:=(eU)×(Int)
def cm.L0.bw:cm.L0.X0→Exit×AS:=fun x=>(.exit 0,⟨([.undef,.undef,.undef,.d tu x.2]++bh 16 []),[.obj 0 false (.d jF x.1)],(List.replicate 20 [])⟩)
abbrev cm.L0.X:=cm.L0.X0
abbrev cm.L0.Y:=cm.L0.Y0
def cm.L0.out:cm.L0.X→Out (Exit×AS):=fun x=> .ok (cm.L0.bw x)
def cm.L0.add:cm.L0.D→cm.L0.Y→cm.L0.X:=fun(n,t7,t8,t9,o0_2) y=>(o0_2,y)
abbrev cm.D:=eU
def cm.st:cm.D→SA:=fun o0=>([.ptr (.dq 0) 0 [] 0],[.obj 0 false (.d jF o0)])
abbrev cm.Y:=Int×eU
abbrev cm.X:=Int×eU
def cm.out:cm.X→bg:=fun x=>⟨.d tu x.1,[.obj 0 false (.d jF x.2)],[]⟩
def cm.add:cm.D→cm.Y→cm.X:=fun o0 y=>y
def cm.L0.aB:cm.L0.D→Prop:=fun(n,l,m,i,o)=>Bytes l∧l.length≤8∧m=l.length∧∃k:Nat,k≤l.length∧i=k∧n=sz (l.take k)
def cm.L0.F:cm.L0.D→cm.L0.Y:=fun(n,l,m,i,o)=>sz l
def cm.aB:cm.D→Prop:=fun o=>iX o
def cm.F:cm.D→cm.Y:=fun o=>jU o
noncomputable def cm.G:dY:=fg (P:=Tryz.prog) [dA.sg]
noncomputable def cm.L0.E:=bQ.cC cm.L0.st cm.L0.aB cm.L0.add cm.L0.F cm.L0.out
noncomputable def cm.L0.call:cm.L0.D→Option cm.L0.X:=dm cm.L0.E cm.L0.st
noncomputable def cm.an:eI:= {loops:=j4 [(3,{bm:=[3,7,8,9]})],outs:=j3 [(3,{bm:=[3]},{bm:=[2]})],fJ:=kT [(3,cm.L0.E)]}
noncomputable def cm.A:= @cY Tryz.prog cm.G cm.an 0 Tryz.f188 _ cm.st
abbrev cm.Ok:=cZ @cm.A cm.aB cm.add cm.F cm.out
noncomputable def cm.L0.R:= @bV Tryz.prog cm.G cm.an 0 Tryz.f188 0 _ cm.L0.st
abbrev cm.L0.Ok:=ez Tryz.prog cm.G cm.an 0 Tryz.f188 0 cm.L0.st cm.L0.aB cm.L0.add cm.L0.F cm.L0.out
theorem cm.L0.run:bM cm.L0.call cm.L0.aB cm.L0.add cm.L0.F:=eF (eD [.d tu,.d tB,.d ti,.d ti,.d jF] fun _=>by kernel_rfl)
theorem cm.L0.aD:fP @cm.L0.R cm.L0.st cm.L0.aB cm.L0.add cm.L0.F cm.L0.bw cm.L0.Ok:=fR
theorem cm.L0.step{R:Type}(n:Int)(t7:Bs)(t8:Int)(t9:Int)(o0_2:eU)(kn:AS→Option R)(kx:Exit→AS→Option R):cm.L0.R (n,t7,t8,t9,o0_2) kn kx=
  aK ((fZ t9 t8)) (
   aK (eH t9 (((List.length t7):Nat):Int)) (
   kn (cm.L0.st ((ct .or .u64 (gN .u64 n (8:Int)) (dJ .u64 (nth tb t7 (Int.toNat t9)))),t7,t8,(bR .i64 t9 (1:Int)),o0_2))) none) (
   kx (cm.L0.bw (o0_2,n)).1 (cm.L0.bw (o0_2,n)).2):=by kernel_rfl
theorem cm.eq{R:Type}(o0:eU)(k:bg→Option R):cm.A o0 k=
 al (dA.call ((8:Int),o0)) fun x1=>
 al (cm.L0.call ((0:Int),x1.1,(((List.length x1.1):Nat):Int),(0:Int),x1.2)) fun x2=>
 k (cm.out (x2.2,x2.1)):=by kernel_rfl
theorem cm.L0.ok:cm.L0.Ok:=by
 refine cm.L0.aD (fun(n,l,m,i,o)=>l.length - i.toNat) ?_
 rintro⟨n,l,m,i,o⟩ ⟨hb,h8,rfl,k,hk,rfl,rfl⟩
 have h8:l.length≤8:=h8
 have hk:k≤l.length:=hk
 by_cases h:k < l.length
 ·left
  have hx:=hb _ (List.getElem_mem h)
  have n1:nth (.int .u8) l k=l[k]:=cG (t:= .int .u8) h
  have ht:(l.take k).length=k:=by rw[List.length_take];omega
  have b0:=AY (l:=l.take k) fun x hx=>hb x (List.mem_of_mem_take hx)
  rw[ht]at b0
  have b1:=vJ (show k≤7 by omega)
  have b2:(256:Int)^7=72057594037927936:=rfl
  refine⟨(sz (l.take (k+1)),l,l.length,((k+1:Nat):Int),o),⟨hb,h8,rfl,k+1,by omega,rfl,rfl⟩,by simp only[Int.toNat_natCast];omega,rfl,fun kn kx=> ?_⟩
  rw[cm.L0.step,bu (by omega),bz (by omega) (by omega),Int.toNat_natCast,n1,N.kO (by omega),HJ b0.1 (by omega) hx,List.take_succ_eq_append_getElem h,B0]
  rfl
 ·right
  obtain rfl:k=l.length:=by omega
  intro R kn kx
  rw[cm.L0.step,bk (by omega),ao,List.take_length]
  rfl
theorem cm.ok:cm.Ok:=by
 intro o h
 have h:iX o:=h
 have t:=lE (n:=8) h
 rw[cm.eq,dA.run (d:=(8,o)) ⟨by decide,h.1⟩]
 simp only[ab,dA.add,dA.F]
 rw[show Int.toNat 8=8 from rfl,cm.L0.run (d:=(0,(iy 8 o).1,(iy 8 o).1.length,0,(iy 8 o).2)) ⟨t.2.1,t.1,rfl,0,Nat.zero_le _,rfl,rfl⟩]
 rfl
noncomputable def cm.E:=Entry.cC [none] cm.st cm.aB cm.add cm.F cm.out
noncomputable def cm.call:cm.D→Option cm.X:=bS cm.E cm.st
theorem cm.run:bM cm.call cm.aB cm.add cm.F:=dh (dd [.d jF] fun _=>by kernel_rfl)
noncomputable def cm.sg:SG Tryz.prog:=⟨188,aX,cm.E,.fn 1 (by kernel_rfl) cm.ok (And.intro (.cC cm.L0.ok (by kernel_rfl)) trivial)⟩
abbrev dN.D:=Bs
def dN.st:dN.D→SA:=fun b=>([.d tB b],[])
abbrev dN.Y:=eU
abbrev dN.X:=eU
def dN.out:dN.X→bg:=fun x=>⟨.ptr (.new 0 0) 0 [] 0,[],[.obj 0 false (.d jF x)]⟩
def dN.add:dN.D→dN.Y→dN.X:=fun b y=>y
def dN.aB:dN.D→Prop:=fun b=>b.length≤1000000000
def dN.F:dN.D→dN.Y:=fun b=>(b,false,())
noncomputable def dN.G:dY:=fg (P:=Tryz.prog) [cr.sg]
noncomputable def dN.an:eI:= {bK:=[6],uQ:=[⟨2,[.arr],jF⟩]}
noncomputable def dN.A:= @cY Tryz.prog dN.G dN.an 0 Tryz.f182 _ dN.st
abbrev dN.Ok:=cZ @dN.A dN.aB dN.add dN.F dN.out
theorem dN.eq{R:Type}(b:Bs)(k:bg→Option R):dN.A b k=
 al (cr.call b) fun x1=>
 aK (decide (0=0∧(0+x1.1)≤(List.length x1.2))) (
 k (dN.out ((cut x1.2 0 x1.1),(false,())))) none:=by kernel_rfl
theorem dN.ok:dN.Ok:=by
 intro b hb
 have hb:b.length≤1000000000:=hb
 rw[dN.eq,cr.run (d:=b) (by show b.length≤_;omega)]
 simp only[ab,cr.add,cr.F,Nat.zero_add,Nat.le_refl,and_self,decide_true,ai,e7]
 rfl
noncomputable def dN.E:=Entry.cC [some tB] dN.st dN.aB dN.add dN.F dN.out
noncomputable def dN.call:dN.D→Option dN.X:=bS dN.E dN.st
theorem dN.run:bM dN.call dN.aB dN.add dN.F:=dh (dd [.d tB] fun _=>by kernel_rfl)
noncomputable def dN.sg:SG Tryz.prog:=⟨182,aX,dN.E,.fn 0 (by kernel_rfl) dN.ok trivial⟩
abbrev cR.D:=Int×eU
def cR.st:cR.D→SA:=fun(o0,o2)=>([.ptr (.dq 0) 0 [] 0,.ptr (.dq 1) 0 [] 0],[.obj 0 false (.d ti o0),.obj 0 false (.ptr (.dq 2) 0 [] 0),.obj 0 false (.d jF o2)])
abbrev cR.Y:=Bool
abbrev cR.X:=(Int×eU)×(Bool)
def cR.out:cR.X→bg:=fun x=>⟨.d .bool x.2,[.obj 0 false (.d ti x.1.1),.obj 0 false (.ptr (.dq 2) 0 [] 0),.obj 0 false (.d jF x.1.2)],[]⟩
def cR.add:cR.D→cR.Y→cR.X:=fun(o0,o2) y=>((o0,o2),y)
def cR.aB:cR.D→Prop:=fun(a,o)=>0≤a
def cR.F:cR.D→cR.Y:=fun(a,o)=>decide (o.1.length≤a.toNat∨8 < a.toNat∨(0 < a.toNat∧nth (.int .u8) o.1 a.toNat=0))
noncomputable def cR.G:dY:=fg (P:=Tryz.prog) []
noncomputable def cR.an:eI:= {}
noncomputable def cR.A:= @cY Tryz.prog cR.G cR.an 0 Tryz.f238 _ cR.st
abbrev cR.Ok:=cZ @cR.A cR.aB cR.add cR.F cR.out
theorem cR.eq{R:Type}(o0:Int)(o2:eU)(k:bg→Option R):cR.A (o0,o2) k=
  aK ((oc o0 (((List.length o2.1):Nat):Int))) (
   k (cR.out ((o0,o2),true))) (
   aK ((mJ o0 (8:Int))) (
    k (cR.out ((o0,o2),true))) (
    aK ((mJ o0 (0:Int))) (
     aK (eH o0 (((List.length o2.1):Nat):Int)) (
     k (cR.out ((o0,o2),(jy (nth tb o2.1 (Int.toNat o0)) (0:Int))))) none) (
     k (cR.out ((o0,o2),false))))):=by kernel_rfl
theorem cR.ok:cR.Ok:=by
 rintro⟨a,o⟩ h0
 obtain⟨k,rfl⟩:∃k:Nat,a=k:=⟨a.toNat,by have h0:0≤a:=h0;omega⟩
 rw[cR.eq]
 simp only[cR.add,cR.F,Int.toNat_natCast]
 by_cases h1:o.1.length≤k
 ·rw[gq (by omega),aY (Or.inl h1)];rfl
 by_cases h2:8 < k
 ·rw[eV (by omega),dx (by omega),aY (Or.inr (Or.inl h2))];rfl
 by_cases h3:0 < k
 ·rw[eV (by omega),cW (by omega),dx (by omega),bz (by omega) (by omega)]
  simp only[ao,ai]
  by_cases h4:nth (.int .u8) o.1 k=0
  ·rw[ia h4,aY (Or.inr (Or.inr ⟨h3,h4⟩))]
  ·rw[iO h4,bq (by rintro(x | x | x);exact h1 x;exact h2 x;exact h4 x.2)]
 ·rw[eV (by omega),cW (by omega),cW (by omega),bq (by rintro(x | x | x);exact h1 x;exact h2 x;exact h3 x.1)];rfl
noncomputable def cR.E:=Entry.cC [none,none] cR.st cR.aB cR.add cR.F cR.out
noncomputable def cR.call:cR.D→Option cR.X:=bS cR.E cR.st
theorem cR.run:bM cR.call cR.aB cR.add cR.F:=dh (dd [.d ti,.d jF] fun _=>by kernel_rfl)
noncomputable def cR.sg:SG Tryz.prog:=⟨238,aX,cR.E,.fn 0 (by kernel_rfl) cR.ok trivial⟩
set_option synthInstance.maxSize 5000
def pI:List Int→Nat→Int→(Int×Nat)⊕Unit
 |[],_,_=> .inr ()
 |d::l,a,n=>if 8 < a∨(0 < a∧d=0) then .inr () else if d < 128 then .inl (n+d%128*128^a,a+1) else pI l (a+1) (n+d%128*128^a)
def du(r:eU):Int×eU:=match pI r.1 0 0 with | .inl v=>(v.1,(r.1.drop v.2,r.2)) | .inr _=>(0,rQ)
theorem z6(k:Nat):(128:Int)^k=((128^k:Nat):Int):=by rw[Int.natCast_pow];rfl
theorem xN{n d k:Nat}(hk:k≤8)(hn:n < 128^k)(hd:d < 128):ct .or .i64 (n:Int) (gN .i64 (d:Int) ((7*k:Nat):Int))=((n+d*128^k:Nat):Int)∧n+d*128^k < 128^(k+1)∧128^(k+1)≤9223372036854775808:=by
 have p:128^k≤128^8:=Nat.pow_le_pow_right (by decide) hk
 have p8:128^8=72057594037927936:=rfl
 have e1:128^(k+1)=128^k*128:=Nat.pow_succ (n:=128) (m:=k)
 have e2:2^(7*k)=128^k:=by rw[Nat.pow_mul]
 have e3:d*128^k≤127*128^k:=Nat.mul_le_mul_right _ (by omega)
 refine⟨?_,by omega,by omega⟩
 have s:gN .i64 (d:Int) ((7*k:Nat):Int)=((d*128^k:Nat):Int):=by
  rw[gN]
  have e:min (Int.toNat ((7*k:Nat):Int)) IntKind.i64.bits=7*k:=by simp only[IntKind.bits,Int.toNat_natCast];omega
  rw[e,show(2:Int)^(7*k)=((2^(7*k):Nat):Int) by rw[Int.natCast_pow];rfl,e2,←Int.natCast_mul]
  exact jI (by omega) (by omega)
 rw[s]
 have e:(BitVec.ofInt 64 (n:Int) ||| BitVec.ofInt 64 ((d*128^k:Nat):Int)).toNat=n+d*128^k:=by
  rw[BitVec.toNat_or]
  have a:(BitVec.ofInt 64 ((d*128^k:Nat):Int)).toNat=2^(7*k)*d:=by rw[BitVec.ofInt_natCast,BitVec.toNat_ofNat,e2,Nat.mul_comm];exact Nat.mod_eq_of_lt (by rw[Nat.mul_comm];omega)
  have b:(BitVec.ofInt 64 (n:Int)).toNat=n:=by rw[BitVec.ofInt_natCast,BitVec.toNat_ofNat];exact Nat.mod_eq_of_lt (by omega)
  rw[a,b,Nat.or_comm,←Nat.two_pow_add_eq_or_of_lt (by rw[e2];exact hn),e2,Nat.mul_comm]
  omega
 show IntKind.i64.wrap ((BitVec.ofInt 64 (n:Int) ||| BitVec.ofInt 64 ((d*128^k:Nat):Int)).toNat:Int)=_
 rw[e]
 exact jI (by omega) (by omega)
theorem wW:∀(l:List Int) (a:Nat) (n:Int) (v:Int×Nat),Bytes l→a≤9→0≤n→n < 128^a→pI l a n= .inl v→0≤v.1∧v.1 < 9223372036854775808∧a < v.2∧v.2≤a+l.length∧v.2≤9
 |[],a,n,v,_,_,_,_,h=>by cases h
 |d::l,a,n,v,hb,ha,h0,h1,h=>by
  have hx:=hb d List.mem_cons_self
  obtain⟨x1,x2⟩:=hx
  rw[pI]at h
  split at h
  ·cases h
  ·rename_i hc
   have ha8:a≤8:=by omega
   rw[z6]at h1 h
   obtain⟨nn,rfl⟩:∃m:Nat,n=m:=⟨n.toNat,by omega⟩
   obtain⟨dn,hdn⟩:∃m:Nat,d%128=m:=⟨(d%128).toNat,by omega⟩
   have g:=(xN (n:=nn) (d:=dn) ha8 (by omega) (by omega)).2
   rw[hdn]at h
   have ec:((nn:Int)+(dn:Int)*((128^a:Nat):Int))=((nn+dn*128^a:Nat):Int):=by rw[Int.natCast_add,Int.natCast_mul]
   rw[ec]at h
   split at h
   ·cases h
    simp only[List.length_cons]
    exact⟨by omega,by omega,by omega,by omega,by omega⟩
   ·have:=wW l (a+1) _ v (fun x hx=>hb x (List.mem_cons_of_mem _ hx)) (by omega) (by omega) (by rw[z6];omega) h
    simp only[List.length_cons]
    exact⟨this.1,this.2.1,by omega,by omega,this.2.2.2.2⟩
theorem jj{r:eU}(h:iX r):0≤(du r).1∧(du r).1≤9223372036854775807∧iX (du r).2:=by
 unfold du
 cases hf:pI r.1 0 0 with
 |inl v=>
  have:=wW r.1 0 0 v h.2 (by decide) (by decide) (by decide) hf
  refine⟨this.1,by have:=this.2.1;show v.1≤_;omega,?_,fun x hx=>h.2 x (List.mem_of_mem_drop hx)⟩
  show(r.1.drop v.2).length≤_
  rw[List.length_drop]
  have:=h.1
  omega
 |inr _=>exact⟨Int.le_refl 0,(show(0:Int)≤9223372036854775807 by decide),wA⟩
abbrev bP.L0.D:=Int×eU×Int
def bP.L0.st:bP.L0.D→AS:=fun(n,o0_2,n4)=>⟨([.ptr (.dq 0) 0 [] 0,.ptr (.new 1 0) 0 [] 0,.undef,.d ti n,.ptr (.new 4 0) 0 [] 0,.fn 238 (.cons (.ptr (.new 4 0) 0 [] 0) (.cons (.ptr (.new 1 0) 0 [] 0) (.nil)))]++bh 35 []),[.obj 0 false (.d jF o0_2)],([[],[.obj 0 false (.ptr (.dq 0) 0 [] 0)],[],[],[.obj 0 false (.d ti n4)]]++bI 36 [])⟩
abbrev bP.L0.Y0:=eU
abbrev bP.L0.X0:=eU
def bP.L0.bw:bP.L0.X0→Exit×AS:=fun x=>(.ret,⟨([.ptr (.dq 0) 0 [] 0,.undef,.d ti (0:Int)]++bh 38 []),[.obj 0 false (.d jF x)],(List.replicate 41 [])⟩)
abbrev bP.L0.Y1:=Int×eU×Int
abbrev bP.L0.X1:=Int×eU×Int
def bP.L0.fq:bP.L0.X1→Exit×AS:=fun x=>(.exit 0,⟨([.ptr (.dq 0) 0 [] 0,.ptr (.new 1 0) 0 [] 0,.undef,.d ti x.1,.ptr (.new 4 0) 0 [] 0]++bh 36 []),[.obj 0 false (.d jF x.2.1)],([[],[.obj 0 false (.ptr (.dq 0) 0 [] 0)],[],[],[.obj 0 false (.d ti x.2.2)]]++bI 36 [])⟩)
abbrev bP.L0.X:=(bP.L0.X0)⊕(bP.L0.X1)
abbrev bP.L0.Y:=(bP.L0.Y0)⊕(bP.L0.Y1)
def bP.L0.out:bP.L0.X→Out (Exit×AS):=fun x=> .br x.isLeft (.get x.getLeft? fun a=> .ok (bP.L0.bw a)) (.get x.getRight? fun b=> .ok (bP.L0.fq b))
def bP.L0.add:bP.L0.D→bP.L0.Y→bP.L0.X:=fun(n,o0_2,n4) y=>match y with | .inl y=> .inl y | .inr z=> .inr (z)
abbrev bP.D:=eU
def bP.st:bP.D→SA:=fun o0=>([.ptr (.dq 0) 0 [] 0],[.obj 0 false (.d jF o0)])
abbrev bP.Y:=Int×eU
abbrev bP.X:=Int×eU
def bP.out:bP.X→bg:=fun x=>⟨.d ti x.1,[.obj 0 false (.d jF x.2)],[]⟩
def bP.add:bP.D→bP.Y→bP.X:=fun o0 y=>y
def bP.L0.aB:bP.L0.D→Prop:=fun(n,o,i)=>iX o∧∃(k m:Nat),k≤9∧i=k∧n=m∧m < 128^k
def bP.L0.F:bP.L0.D→bP.L0.Y:=fun(n,o,i)=>match pI (o.1.drop i.toNat) i.toNat n with | .inl v=> .inr (v.1,o,(v.2:Int)) | .inr _=> .inl rQ
def bP.aB:bP.D→Prop:=fun o=>iX o
def bP.F:bP.D→bP.Y:=fun o=>du o
noncomputable def bP.G:dY:=fg (P:=Tryz.prog) [cR.sg,dT.sg]
noncomputable def bP.L0.E:=bQ.cC bP.L0.st bP.L0.aB bP.L0.add bP.L0.F bP.L0.out
noncomputable def bP.L0.call:bP.L0.D→Option bP.L0.X:=dm bP.L0.E bP.L0.st
noncomputable def bP.an:eI:= {bK:=[1],loops:=j4 [(3,{bm:=[0,1,3,4,5],sites:=[1,4]})],outs:=j3 [(3,{bm:=[0,1,3,4],sites:=[1,4]},{bm:=[0,2]})],fJ:=kT [(3,bP.L0.E)],uQ:=[⟨0,[.arr],jF⟩]}
noncomputable def bP.A:= @cY Tryz.prog bP.G bP.an 0 Tryz.f184 _ bP.st
abbrev bP.Ok:=cZ @bP.A bP.aB bP.add bP.F bP.out
noncomputable def bP.L0.R:= @bV Tryz.prog bP.G bP.an 0 Tryz.f184 0 _ bP.L0.st
abbrev bP.L0.Ok:=ez Tryz.prog bP.G bP.an 0 Tryz.f184 0 bP.L0.st bP.L0.aB bP.L0.add bP.L0.F bP.L0.out
theorem bP.L0.run:bM bP.L0.call bP.L0.aB bP.L0.add bP.L0.F:=eF (eD [.d ti,.d jF,.d ti] fun _=>by kernel_rfl)
theorem bP.L0.aD:kP @bP.L0.R bP.L0.st bP.L0.aB bP.L0.add bP.L0.F bP.L0.out bP.L0.Ok:=lp
theorem bP.L0.step{R:Type}(n:Int)(o0_2:eU)(n4:Int)(kn:AS→Option R)(kx:Exit→AS→Option R):bP.L0.R (n,o0_2,n4) kn kx=
  al (cR.call (n4,o0_2)) fun x1=>
  aK (x1.2) (
   al (dT.call x1.1.2) fun x2=>
   kx (bP.L0.bw x2).1 (bP.L0.bw x2).2) (
   aK (eH x1.1.1 (((List.length x1.1.2.1):Nat):Int)) (
   aK (hP (fe .i64 (7:Int) x1.1.1)) (
   aK ((fZ (nth tb x1.1.2.1 (Int.toNat x1.1.1)) (128:Int))) (
    kx (bP.L0.fq ((ct .or .i64 n (gN .i64 (dJ .i64 (jD (nth tb x1.1.2.1 (Int.toNat x1.1.1)) (128:Int))) (fe .i64 (7:Int) x1.1.1))),x1.1.2,(bR .i64 x1.1.1 (1:Int)))).1 (bP.L0.fq ((ct .or .i64 n (gN .i64 (dJ .i64 (jD (nth tb x1.1.2.1 (Int.toNat x1.1.1)) (128:Int))) (fe .i64 (7:Int) x1.1.1))),x1.1.2,(bR .i64 x1.1.1 (1:Int)))).2) (
    kn (bP.L0.st ((ct .or .i64 n (gN .i64 (dJ .i64 (jD (nth tb x1.1.2.1 (Int.toNat x1.1.1)) (128:Int))) (fe .i64 (7:Int) x1.1.1))),x1.1.2,(bR .i64 x1.1.1 (1:Int)))))) none) none):=by kernel_rfl
theorem bP.eq{R:Type}(o0:eU)(k:bg→Option R):bP.A o0 k=
  al (bP.L0.call ((0:Int),o0,(0:Int))) fun x3=>
  aK (x3.isLeft) (
   al (x3.getLeft?) fun a4=>
   k (bP.out ((0:Int),a4))) (
   al (x3.getRight?) fun b5=>
   aK (inc b5.2.2 (((List.length b5.2.1.1):Nat):Int)) (
   k (bP.out (b5.1,((cut b5.2.1.1 (Int.toNat b5.2.2) ((List.length b5.2.1.1) - (Int.toNat b5.2.2))),b5.2.1.2)))) none):=by kernel_rfl
theorem bP.L0.ok:bP.L0.Ok:=by
 refine bP.L0.aD (fun(n,o,i)=>9 - i.toNat) ?_
 rintro⟨n,o,i⟩ ⟨hr,k,m,hk,rfl,rfl,hm⟩
 have hk:k≤9:=hk
 have hr:iX o:=hr
 by_cases hw:o.1.length≤k∨8 < k∨(0 < k∧nth (.int .u8) o.1 k=0)
 ·right
  have hf:pI (o.1.drop k) k (m:Int)= .inr ():=by
   by_cases h:k < o.1.length
   ·have n1:nth (.int .u8) o.1 k=o.1[k]:=cG (t:= .int .u8) h
    rw[List.drop_eq_getElem_cons h,pI,if_pos (by rw[n1]at hw;rcases hw with x | x | x;exact absurd x (by omega);exact Or.inl x;exact Or.inr x)]
   ·rw[List.drop_of_length_le (by omega)];rfl
  refine⟨bP.L0.bw rQ,?_,fun kn kx=> ?_⟩
  ·simp only[bP.L0.add,bP.L0.F,Int.toNat_natCast,hf]
   rfl
  ·rw[bP.L0.step,cR.run (d:=((k:Int),o)) (Int.natCast_nonneg k)]
   simp only[ab,cR.add,cR.F,Int.toNat_natCast]
   rw[aY hw,ai,dT.run (d:=o) trivial]
   rfl
 ·have h:k < o.1.length:=by omega
  have hx:=hr.2 _ (List.getElem_mem h)
  obtain⟨x1,x2⟩:=hx
  have n1:nth (.int .u8) o.1 k=o.1[k]:=cG (t:= .int .u8) h
  have hc:¬(8 < k∨(0 < k∧o.1[k]=0)):=fun x=>hw (x.elim (fun y=> .inr (.inl y)) fun y=> .inr (.inr ⟨y.1,n1.trans y.2⟩))
  obtain⟨dn,hdn⟩:∃d:Nat,o.1[k]=d:=⟨o.1[k].toNat,by omega⟩
  have g:=xN (n:=m) (d:=dn%128) (k:=k) (by omega) hm (by omega)
  have step:∀ {R:Type} (kn:AS→Option R) (kx:Exit→AS→Option R),bP.L0.R ((m:Int),o,(k:Int)) kn kx=aK (fZ o.1[k] 128) (kx (bP.L0.fq (((m+dn%128*128^k:Nat):Int),o,((k+1:Nat):Int))).1 (bP.L0.fq (((m+dn%128*128^k:Nat):Int),o,((k+1:Nat):Int))).2) (kn (bP.L0.st (((m+dn%128*128^k:Nat):Int),o,((k+1:Nat):Int)))):=by
   intro R kn kx
   rw[bP.L0.step,cR.run (d:=((k:Int),o)) (Int.natCast_nonneg k)]
   simp only[ab,cR.add,cR.F,Int.toNat_natCast]
   rw[bq hw,ao,bz (by omega) (by omega),n1,hdn,N.Hv (by omega),kE (by omega),N.Iq,N.cN (by omega),g.1,N.kO (by omega)]
   rfl
  have ef:pI (o.1.drop k) k (m:Int)=if o.1[k] < 128 then .inl (((m+dn%128*128^k:Nat):Int),k+1) else pI (o.1.drop (k+1)) (k+1) ((m+dn%128*128^k:Nat):Int):=by
   have ec:(m:Int)+o.1[k]%128*128^k=((m+dn%128*128^k:Nat):Int):=by rw[hdn,z6,Int.natCast_add,Int.natCast_mul];rfl
   rw[List.drop_eq_getElem_cons h,pI,if_neg hc,ec]
  by_cases hl:o.1[k] < 128
  ·right
   refine⟨bP.L0.fq (((m+dn%128*128^k:Nat):Int),o,((k+1:Nat):Int)),?_,fun kn kx=> ?_⟩
   ·simp only[bP.L0.add,bP.L0.F,Int.toNat_natCast,ef,if_pos hl]
    rfl
   ·rw[step,bu hl,ai]
  ·left
   refine⟨(((m+dn%128*128^k:Nat):Int),o,((k+1:Nat):Int)),⟨hr,k+1,_,by omega,rfl,rfl,g.2.1⟩,by simp only[Int.toNat_natCast];omega,?_,fun kn kx=> ?_⟩
   ·simp only[bP.L0.add,bP.L0.F,Int.toNat_natCast,ef,if_neg hl]
   ·rw[step,bk hl,ao]
theorem bP.ok:bP.Ok:=by
 intro o h
 have h:iX o:=h
 rw[bP.eq,bP.L0.run (d:=(0,o,0)) ⟨h,0,0,by decide,rfl,rfl,by decide⟩]
 simp only[ab,bP.L0.add,bP.L0.F,Int.toNat_zero,List.drop_zero,bP.add,bP.F,du]
 cases hf:pI o.1 0 0 with
 |inl v=>
  have g:=wW o.1 0 0 v h.2 (by decide) (by decide) (by decide) hf
  have e2:cut o.1 v.2 (o.1.length - v.2)=o.1.drop v.2:=by unfold cut;rw[List.take_of_length_le];rw[List.length_drop];omega
  simp only[Sum.isLeft_inr,Sum.getRight?_inr,ao,ab,Int.toNat_natCast]
  rw[kB (by omega) (by omega),ai,e2]
 |inr _=>rfl
noncomputable def bP.E:=Entry.cC [none] bP.st bP.aB bP.add bP.F bP.out
noncomputable def bP.call:bP.D→Option bP.X:=bS bP.E bP.st
theorem bP.run:bM bP.call bP.aB bP.add bP.F:=dh (dd [.d jF] fun _=>by kernel_rfl)
noncomputable def bP.sg:SG Tryz.prog:=⟨184,aX,bP.E,.fn 1 (by kernel_rfl) bP.ok (And.intro (.cC bP.L0.ok (by kernel_rfl)) trivial)⟩
set_option synthInstance.maxSize 5000
theorem Bq{a b:List Int}(ha:Bytes a)(hb:Bytes b):Bytes (a++b):=fun x hx=>by
 rcases List.mem_append.1 hx with h | h
 ·exact ha x h
 ·exact hb x h
structure I2(b:iw):Prop where
 len:b.1.length≤12
 af:xm b.2.1
 dl:xm b.2.2.1
theorem Ac{b:List Int}(h:Bytes b)(hl:b.length≤1000000000)(u:Bool×Unit):iX (b,u):=⟨hl,h⟩
set_option synthInstance.maxSize 5000
def j2:Nat→eU→List Int×eU
 | 0,r=>([],r)
 |k+1,r=>((jU r).1::(j2 k (jU r).2).1,(j2 k (jU r).2).2)
def nR(k:Nat)(r:eU):iw×eU:=
 (((j2 k r).1,(du (j2 k r).2).1,(du (du (j2 k r).2).2).1,(jU (du (du (j2 k r).2).2).2).1,()),(jU (du (du (j2 k r).2).2).2).2)
def nT:Nat→Int→eU→List iw
 | 0,_,_=> []
 |f+1,n,r=>if 0 < n then(if f=0∨12 < (du r).1 then [] else(nR (du r).1.toNat (du r).2).1::nT f (n - 1) (nR (du r).1.toNat (du r).2).2) else []
def kJ(b:List Int):List iw:=nT 5 (du (b,false,())).1 (du (b,false,())).2
theorem wM:∀(k:Nat) (r:eU),iX r→nB (j2 k r).1∧(j2 k r).1.length=k∧iX (j2 k r).2
 | 0,r,h=>⟨fun x hx=>(by cases hx),rfl,h⟩
 |k+1,r,h=>by
  have e:=rK h
  have ih:=wM k _ e.2
  refine⟨fun x hx=> ?_,by rw[j2,List.length_cons,ih.2.1],ih.2.2⟩
  rcases List.mem_cons.1 hx with rfl | hx
  ·exact e.1
  ·exact ih.1 x hx
theorem Az(k:Nat)(r:eU)(h:iX r):GP (nR k r).1∧(nR k r).1.1.length=k∧iX (nR k r).2:=by
 have h1:=wM k r h
 have h2:=jj h1.2.2
 have h3:=jj h2.2.2
 have h4:=rK h3.2.2
 exact⟨⟨h1.1,h4.1⟩,h1.2.1,h4.2⟩
theorem CF:∀(f:Nat) (n:Int) (r:eU),iX r→(∀b∈nT f n r,GP b)∧(nT f n r).length≤f
 | 0,n,r,h=>⟨fun x hx=>(by cases hx),Nat.le_refl _⟩
 |f+1,n,r,h=>by
  have h1:=jj h
  have h2:=Az (du r).1.toNat _ h1.2.2
  have ih:=CF f (n - 1) _ h2.2.2
  rw[nT]
  split
  ·split
   ·exact⟨fun x hx=>(by cases hx),Nat.zero_le _⟩
   ·refine⟨fun x hx=> ?_,by rw[List.length_cons];omega⟩
    rcases List.mem_cons.1 hx with rfl | hx
    ·exact h2.1
    ·exact ih.1 x hx
  ·exact⟨fun x hx=>(by cases hx),Nat.zero_le _⟩
theorem A5{b:List Int}(h:Bytes b)(hl:b.length≤1000000000):Ck (kJ b,())∧(kJ b).length≤5:=by
 have e:=CF 5 (du (b,false,())).1 _ (jj (Ac h hl (false,()))).2.2
 exact⟨e.1,e.2⟩
def pc(b:List Int):Lk×Bool:=if jE (kJ b,())=true∧zd (kJ b,())=b then((kJ b,()),true) else(([],()),false)
theorem DE{b:List Int}(h:(pc b).2=true):∃l:Lk,jE l=true∧zd l=b∧pc b=(l,true)∧l=(kJ b,()):=by
 unfold pc at h ⊢
 split at h
 ·rename_i hc
  exact⟨(kJ b,()),hc.1,hc.2,by rw[if_pos hc],rfl⟩
 ·cases h
set_option synthInstance.maxSize 5000
abbrev aR.L0.D:=Bs×Int×Int×Nat×eU×(List iw)
def aR.L0.st:aR.L0.D→AS:=fun(b_2,n,i,n5L,n11,n51)=>⟨([.d tB b_2,.undef,.ptr (.new 2 0) 0 [] 0,.undef,.ptr (.new 11 0) 0 [] 0,.ptr (.new 5 0) 0 [] 0,.d ti n,.d ti i]++bh 57 []),[],([[],[],[.obj 0 false (.pr (.cV) (.d .unit ()))],[],[],[.obj 0 false (.pr (.bJ (.new 51 0) 0 [] 0 0 n5L) (.d .unit ()))]]++bI 5 ([[.obj 0 false (.d jF n11)]]++bI 39 ([[.obj 0 false (.vec 29 gA n51)]]++bI 13 [])))⟩
abbrev aR.L0.Y0:=Bs×Nat×(List iw)
abbrev aR.L0.X0:=Bs×Nat×(List iw)
def aR.L0.bw:aR.L0.X0→Exit×AS:=fun x=>(.exit 0,⟨([.d tB x.1,.undef,.ptr (.new 2 0) 0 [] 0,.undef,.undef,.ptr (.new 5 0) 0 [] 0]++bh 59 []),[],([[],[],[.obj 0 false (.pr (.cV) (.d .unit ()))],[],[],[.obj 0 false (.pr (.bJ (.new 51 0) 0 [] 0 0 x.2.1) (.d .unit ()))]]++bI 45 ([[.obj 0 false (.vec 29 gA x.2.2)]]++bI 13 []))⟩)
abbrev aR.L0.X:=aR.L0.X0
abbrev aR.L0.Y:=aR.L0.Y0
def aR.L0.out:aR.L0.X→Out (Exit×AS):=fun x=> .ok (aR.L0.bw x)
def aR.L0.add:aR.L0.D→aR.L0.Y→aR.L0.X:=fun(b_2,n,i,n5L,n11,n51) y=>y
abbrev aR.L1.D:=Bs×Int×Int×Int×Int×Nat×Nat×(Int×(Int×(Int×Unit)))×eU×(List Int)×(List iw)
def aR.L1.st:aR.L1.D→AS:=fun(b_3,n_2,i_2,t27,t28,n5L_2,n8L,n8,n11_2,n35,n51_2)=>⟨([.d tB b_3,.undef,.ptr (.new 2 0) 0 [] 0,.undef,.ptr (.new 11 0) 0 [] 0,.ptr (.new 5 0) 0 [] 0,.d ti n_2,.d ti i_2,.ptr (.new 8 0) 0 [] 0]++bh 18 ([.d ti t27,.d ti t28]++bh 36 [])),[],([[],[],[.obj 0 false (.pr (.cV) (.d .unit ()))],[],[],[.obj 0 false (.pr (.bJ (.new 51 0) 0 [] 0 0 n5L_2) (.d .unit ()))],[],[],[.obj 0 false (.pr (.bJ (.new 35 0) 0 [] 0 0 n8L) (.d (.pair ti (.pair ti (.pair tu .unit))) n8))],[],[],[.obj 0 false (.d jF n11_2)]]++bI 23 ([[.obj 0 false (.vec 25 tu n35)]]++bI 15 ([[.obj 0 false (.vec 29 gA n51_2)]]++bI 13 [])))⟩
abbrev aR.L1.Y0:=Nat×eU×(List Int)
abbrev aR.L1.X0:=(Bs×Int×Int×Nat×(Int×(Int×(Int×Unit)))×(List iw))×(Nat×eU×(List Int))
def aR.L1.bw:aR.L1.X0→Exit×AS:=fun x=>(.exit 2,⟨([.d tB x.1.1,.undef,.ptr (.new 2 0) 0 [] 0,.undef,.ptr (.new 11 0) 0 [] 0,.ptr (.new 5 0) 0 [] 0,.d ti x.1.2.1,.d ti x.1.2.2.1,.ptr (.new 8 0) 0 [] 0]++bh 56 []),[],([[],[],[.obj 0 false (.pr (.cV) (.d .unit ()))],[],[],[.obj 0 false (.pr (.bJ (.new 51 0) 0 [] 0 0 x.1.2.2.2.1) (.d .unit ()))],[],[],[.obj 0 false (.pr (.bJ (.new 35 0) 0 [] 0 0 x.2.1) (.d (.pair ti (.pair ti (.pair tu .unit))) x.1.2.2.2.2.1))],[],[],[.obj 0 false (.d jF x.2.2.1)]]++bI 23 ([[.obj 0 false (.vec 25 tu x.2.2.2)]]++bI 15 ([[.obj 0 false (.vec 29 gA x.1.2.2.2.2.2)]]++bI 13 [])))⟩)
abbrev aR.L1.X:=aR.L1.X0
abbrev aR.L1.Y:=aR.L1.Y0
def aR.L1.out:aR.L1.X→Out (Exit×AS):=fun x=> .ok (aR.L1.bw x)
def aR.L1.add:aR.L1.D→aR.L1.Y→aR.L1.X:=fun(b_3,n_2,i_2,t27,t28,n5L_2,n8L,n8,n11_2,n35,n51_2) y=>((b_3,n_2,i_2,n5L_2,n8,n51_2),y)
abbrev aR.D:=Bs
def aR.st:aR.D→SA:=fun b=>([.d tB b],[])
abbrev aR.Y:=Lk×Bool
abbrev aR.X:=Lk×Bool
def aR.out:aR.X→bg:=fun x=>⟨.cons (.d oX x.1) (.cons (.d .bool x.2) (.nil)),[],[]⟩
def aR.add:aR.D→aR.Y→aR.X:=fun b y=>y
def aR.L1.aB:aR.L1.D→Prop:=fun(b,n,i,t,j,m1,m2,x,r,ks,bs)=>iX r∧ks.length=m2∧m2≤1000∧∃k c:Nat,j=k∧t=c∧k≤c∧c≤12∧m2=k
def aR.L1.F:aR.L1.D→aR.L1.Y:=fun(b,n,i,t,j,m1,m2,x,r,ks,bs)=>(m2+(t - j).toNat,(j2 (t - j).toNat r).2,ks++(j2 (t - j).toNat r).1)
def aR.L0.aB:aR.L0.D→Prop:=fun(b,n,i,m,r,bs)=>iX r∧n≤9223372036854775807∧bs.length=m∧∃k:Nat,i=k∧k≤4∧m=k
def aR.L0.F:aR.L0.D→aR.L0.Y:=fun(b,n,i,m,r,bs)=>(b,m+(nT (5 - i.toNat) (n - i) r).length,bs++nT (5 - i.toNat) (n - i) r)
def aR.aB:aR.D→Prop:=fun b=>Bytes b∧b.length≤1000000000
def aR.F:aR.D→aR.Y:=fun b=>pc b
noncomputable def aR.G:dY:=fg (P:=Tryz.prog) [dN.sg,bP.sg,cm.sg,aM.sg,aF.sg,bX.sg]
noncomputable def aR.L0.E:=bQ.cC aR.L0.st aR.L0.aB aR.L0.add aR.L0.F aR.L0.out
noncomputable def aR.L0.call:aR.L0.D→Option aR.L0.X:=dm aR.L0.E aR.L0.st
noncomputable def aR.L1.E:=bQ.cC aR.L1.st aR.L1.aB aR.L1.add aR.L1.F aR.L1.out
noncomputable def aR.L1.call:aR.L1.D→Option aR.L1.X:=dm aR.L1.E aR.L1.st
noncomputable def aR.an:eI:= {loops:=j4 [(5,{bm:=[0,2,4,5,6,7],sites:=[2,5,11,51],iA:=[⟨5,[.fst],51,32⟩]}),(11,{bm:=[0,2,4,5,6,7,8,27,28],sites:=[2,5,8,11,35,51],iA:=[⟨8,[.fst],35,27⟩]})],outs:=j3 [(5,{bm:=[0,2,5],sites:=[2,5,51]},{bm:=[2,3]}),(11,{bm:=[0,2,4,5,6,7,8],sites:=[2,5,8,11,35,51]},{bm:=[2,3]})],fJ:=kT [(5,aR.L0.E),(11,aR.L1.E)],res:=[some oX,none]}
noncomputable def aR.A:= @cY Tryz.prog aR.G aR.an 0 Tryz.f186 _ aR.st
abbrev aR.Ok:=cZ @aR.A aR.aB aR.add aR.F aR.out
noncomputable def aR.L0.R:= @bV Tryz.prog aR.G aR.an 0 Tryz.f186 0 _ aR.L0.st
abbrev aR.L0.Ok:=ez Tryz.prog aR.G aR.an 0 Tryz.f186 0 aR.L0.st aR.L0.aB aR.L0.add aR.L0.F aR.L0.out
noncomputable def aR.L1.R:= @bV Tryz.prog aR.G aR.an 0 Tryz.f186 1 _ aR.L1.st
abbrev aR.L1.Ok:=ez Tryz.prog aR.G aR.an 0 Tryz.f186 1 aR.L1.st aR.L1.aB aR.L1.add aR.L1.F aR.L1.out
theorem aR.L0.run:bM aR.L0.call aR.L0.aB aR.L0.add aR.L0.F:=eF (eD [.d tB,.d ti,.d ti,.n,.d jF,.d (.slice gA)] fun _=>by kernel_rfl)
theorem aR.L0.aD:fP @aR.L0.R aR.L0.st aR.L0.aB aR.L0.add aR.L0.F aR.L0.bw aR.L0.Ok:=fR
theorem aR.L0.step{R:Type}(b_2:Bs)(n:Int)(i:Int)(n5L:Nat)(n11:eU)(n51:(List iw))(kn:AS→Option R)(kx:Exit→AS→Option R):aR.L0.R (b_2,n,i,n5L,n11,n51) kn kx=
  aK ((fZ i n)) (
   al (bP.call n11) fun x22=>
   aK ((jy i (4:Int))) (
    kx (aR.L0.bw (b_2,n5L,n51)).1 (aR.L0.bw (b_2,n5L,n51)).2) (
    aK ((mJ x22.1 (12:Int))) (
     kx (aR.L0.bw (b_2,n5L,n51)).1 (aR.L0.bw (b_2,n5L,n51)).2) (
     al (aR.L1.call (b_2,n,i,x22.1,(0:Int),n5L,0,((0:Int),((0:Int),((0:Int),()))),x22.2,([]:List Int),n51)) fun x24=>
     al (bP.call x24.2.2.1) fun x31=>
     al (bP.call x31.2) fun x32=>
     al (cm.call x32.2) fun x36=>
     aK (decide (0=0∧(0+x24.2.1)≤(List.length x24.2.2.2))) (
     aK (decide (x24.1.2.2.2.1≤(List.length x24.1.2.2.2.2.2))) (
     aK (dp (x24.1.2.2.2.1+1) 48) (
     kn (aR.L0.st (x24.1.1,x24.1.2.1,(bR .i64 x24.1.2.2.1 (1:Int)),(x24.1.2.2.2.1+1),x36.2,((List.take x24.1.2.2.2.1 x24.1.2.2.2.2.2)++ [((cut x24.2.2.2 0 x24.2.1),(x31.1,(x32.1,(x36.1,x24.1.2.2.2.2.1.2.2.2))))])))) none) none) none))) (
   kx (aR.L0.bw (b_2,n5L,n51)).1 (aR.L0.bw (b_2,n5L,n51)).2):=by kernel_rfl
theorem aR.L1.run:bM aR.L1.call aR.L1.aB aR.L1.add aR.L1.F:=eF (eD [.d tB,.d ti,.d ti,.d ti,.d ti,.n,.n,.d (.pair ti (.pair ti (.pair tu .unit))),.d jF,.d tU,.d (.slice gA)] fun _=>by kernel_rfl)
theorem aR.L1.aD:fP @aR.L1.R aR.L1.st aR.L1.aB aR.L1.add aR.L1.F aR.L1.bw aR.L1.Ok:=fR
theorem aR.L1.step{R:Type}(b_3:Bs)(n_2:Int)(i_2:Int)(t27:Int)(t28:Int)(n5L_2:Nat)(n8L:Nat)(n8:(Int×(Int×(Int×Unit))))(n11_2:eU)(n35:(List Int))(n51_2:(List iw))(kn:AS→Option R)(kx:Exit→AS→Option R):aR.L1.R (b_3,n_2,i_2,t27,t28,n5L_2,n8L,n8,n11_2,n35,n51_2) kn kx=
  aK ((fZ t28 t27)) (
   al (cm.call n11_2) fun x4=>
   aK (decide (n8L≤(List.length n35))) (
   aK (dp (n8L+1) 8) (
   kn (aR.L1.st (b_3,n_2,i_2,t27,(bR .i64 t28 (1:Int)),n5L_2,(n8L+1),n8,x4.2,((List.take n8L n35)++ [x4.1]),n51_2))) none) none) (
   kx (aR.L1.bw ((b_3,n_2,i_2,n5L_2,n8,n51_2),(n8L,n11_2,n35))).1 (aR.L1.bw ((b_3,n_2,i_2,n5L_2,n8,n51_2),(n8L,n11_2,n35))).2):=by kernel_rfl
theorem aR.eq{R:Type}(b:Bs)(k:bg→Option R):aR.A b k=
  al (dN.call b) fun x4=>
  al (bP.call x4) fun x6=>
  al (aR.L0.call (b,x6.1,(0:Int),0,x6.2,([]:List iw))) fun x96=>
  aK (decide (0=0∧(0+x96.2.1)≤(List.length x96.2.2))) (
  al (aM.call ((cut x96.2.2 0 x96.2.1),())) fun x106=>
  aK ((!x106)) (
   k (aR.out ((([]:List iw),()),false))) (
   aK (decide (0=0∧(0+x96.2.1)≤(List.length x96.2.2))) (
   al (aF.call ((cut x96.2.2 0 x96.2.1),())) fun x107=>
   al (bX.call (x107,x96.1)) fun x108=>
   aK ((!x108)) (
    k (aR.out ((([]:List iw),()),false))) (
    aK (decide (0=0∧(0+x96.2.1)≤(List.length x96.2.2))) (
    k (aR.out (((cut x96.2.2 0 x96.2.1),()),true))) none)) none)) none:=by kernel_rfl
theorem aR.L1.ok:aR.L1.Ok:=by
 refine aR.L1.aD (fun(b,n,i,t,j,m1,m2,x,r,ks,bs)=>(t - j).toNat) ?_
 rintro⟨b,n,i,t,j,m1,m2,x,r,ks,bs⟩ ⟨hr,hks,hm,k,c,rfl,rfl,hkc,hc,hmk⟩
 have hr:iX r:=hr
 have hks:ks.length=m2:=hks
 have hmk:m2=k:=hmk
 by_cases h:k < c
 ·left
  have e1:((c:Int) - (k:Int)).toNat=(c - (k+1))+1:=by omega
  have e2:((c:Int) - ((k+1:Nat):Int)).toNat=c - (k+1):=by omega
  refine⟨(b,n,i,(c:Int),((k+1:Nat):Int),m1,m2+1,x,(jU r).2,ks++ [(jU r).1],bs),⟨(rK hr).2,by rw[List.length_append];show ks.length+1=_;omega,by omega,k+1,c,rfl,rfl,by omega,hc,by omega⟩,by show((c:Int) - ((k+1:Nat):Int)).toNat < ((c:Int) - (k:Int)).toNat;omega,?_,fun kn kx=> ?_⟩
  ·simp only[aR.L1.add,aR.L1.F,e1,e2,j2,List.append_assoc,List.singleton_append]
   rw[show m2+1+(c - (k+1))=m2+(c - (k+1)+1) by omega]
  ·rw[aR.L1.step,bu (by omega),cm.run (d:=r) hr]
   simp only[ab,ai,cm.add,cm.F]
   rw[aY (by omega),dX (by omega) (by omega),N.kO (by omega),List.take_of_length_le (by omega)]
   rfl
 ·right
  obtain rfl:k=c:=by omega
  intro R kn kx
  rw[aR.L1.step,bk (by omega),ao]
  simp only[aR.L1.add,aR.L1.F,Int.sub_self,Int.toNat_zero,j2,List.append_nil,Nat.add_zero]
theorem aR.L0.ok:aR.L0.Ok:=by
 refine aR.L0.aD (fun(b,n,i,m,r,bs)=>5 - i.toNat) ?_
 rintro⟨b,n,i,m,r,bs⟩ ⟨hr,hn,hbs,k,rfl,hk,hmk⟩
 have hr:iX r:=hr
 have hn:n≤9223372036854775807:=hn
 have hbs:bs.length=m:=hbs
 have hmk:m=k:=hmk
 have e0:5 - (k:Int).toNat=(4 - k)+1:=by rw[Int.toNat_natCast];omega
 have g1:=jj hr
 by_cases h:(k:Int) < n
 ·have hp:0 < n - (k:Int):=by omega
  by_cases hc:4 - k=0∨12 < (du r).1
  ·right
   intro R kn kx
   have eb:nT ((4 - k)+1) (n - (k:Int)) r=[]:=by rw[nT,if_pos hp,if_pos hc]
   rw[aR.L0.step,bu h,bP.run (d:=r) hr]
   simp only[ab,ai,bP.add,bP.F,aR.L0.add,aR.L0.F,e0,eb,List.length_nil,Nat.add_zero,List.append_nil]
   by_cases h4:(k:Int)=4
   ·rw[ia h4,ai]
   ·rw[iO h4,ao,dx (by omega),ai]
  ·left
   have h4:¬(k:Int)=4:=by omega
   have hkn:¬(du r).1 > 12:=by omega
   obtain⟨c,hcn⟩:∃c:Nat,(du r).1=c:=⟨(du r).1.toNat,by omega⟩
   have hbd:=Az c _ g1.2.2
   have gk:=wM c _ g1.2.2
   have ga:=jj gk.2.2
   have gd:=jj ga.2.2
   have eb:nT ((4 - k)+1) (n - (k:Int)) r=(nR c (du r).2).1::nT (4 - k) (n - (k:Int) - 1) (nR c (du r).2).2:=by
    rw[nT,if_pos hp,if_neg hc,hcn,Int.toNat_natCast]
   have e1:5 - ((k+1:Nat):Int).toNat=4 - k:=by rw[Int.toNat_natCast];omega
   refine⟨(b,n,((k+1:Nat):Int),m+1,(nR c (du r).2).2,bs++ [(nR c (du r).2).1]),⟨hbd.2.2,hn,by rw[List.length_append];show bs.length+1=_;omega,k+1,rfl,by omega,by omega⟩,by simp only[Int.toNat_natCast];omega,?_,fun kn kx=> ?_⟩
   ·simp only[aR.L0.add,aR.L0.F,e0,e1,eb,List.append_assoc,List.singleton_append,List.length_cons]
    rw[show n - ((k+1:Nat):Int)=n - (k:Int) - 1 by omega,show m+1+(nT (4 - k) (n - (k:Int) - 1) (nR c (du r).2).2).length=m+((nT (4 - k) (n - (k:Int) - 1) (nR c (du r).2).2).length+1) by omega]
   ·rw[aR.L0.step,bu h,bP.run (d:=r) hr]
    simp only[ab,ai,bP.add,bP.F]
    rw[iO h4,ao,cW hkn,ao,hcn,aR.L1.run (d:=(b,n,(k:Int),(c:Int),0,m,0,(0,0,0,()),(du r).2,[],bs)) ⟨g1.2.2,rfl,by decide,0,c,rfl,rfl,Nat.zero_le _,by omega,rfl⟩]
    simp only[ab,aR.L1.add,aR.L1.F,Int.sub_zero,Int.toNat_natCast,Nat.zero_add,List.nil_append]
    rw[bP.run (d:=(j2 c (du r).2).2) gk.2.2]
    simp only[ab,bP.add,bP.F]
    rw[bP.run (d:=(du (j2 c (du r).2).2).2) ga.2.2]
    simp only[ab,bP.add,bP.F]
    rw[cm.run (d:=(du (du (j2 c (du r).2).2).2).2) gd.2.2]
    simp only[ab,cm.add,cm.F]
    rw[aY ⟨by trivial,by rw[gk.2.1];exact Nat.le_refl _⟩,aY (by omega),dX (by omega) (by omega),N.kO (by omega),List.take_of_length_le (by omega),e7 gk.2.1]
    rfl
 ·right
  intro R kn kx
  have eb:nT ((4 - k)+1) (n - (k:Int)) r=[]:=by rw[nT,if_neg (by omega)]
  rw[aR.L0.step,bk h,ao]
  simp only[aR.L0.add,aR.L0.F,e0,eb,List.length_nil,Nat.add_zero,List.append_nil]
theorem aR.ok:aR.Ok:=by
 rintro b ⟨hb,hl⟩
 have hb:Bytes b:=hb
 have hl:b.length≤1000000000:=hl
 have g0:=Ac hb hl (false,())
 have g1:=jj g0
 have gu:=A5 hb hl
 rw[aR.eq,dN.run (d:=b) hl]
 simp only[ab,dN.add,dN.F]
 rw[bP.run (d:=(b,false,())) g0]
 simp only[ab,bP.add,bP.F]
 rw[aR.L0.run (d:=(b,(du (b,false,())).1,0,0,(du (b,false,())).2,[])) ⟨g1.2.2,g1.2.1,rfl,0,rfl,by decide,rfl⟩]
 simp only[ab,aR.L0.add,aR.L0.F,Int.toNat_zero,Nat.sub_zero,Int.sub_zero,Nat.zero_add,List.nil_append,Nat.le_refl,and_self,decide_true,ai,e7]
 rw[show nT 5 (du (b,false,())).1 (du (b,false,())).2=kJ b from rfl]
 have hL1:((kJ b,()):Lk).1.length≤1000000000:=by show(kJ b).length≤_;omega
 rw[aM.run (d:=(kJ b,())) ⟨gu.1,Nat.le_trans hL1 (by decide)⟩]
 simp only[ab,aM.add,aM.F,aR.add,aR.F,pc]
 cases hok:jE (kJ b,())
 ·rw[if_neg (by rintro⟨x,_⟩;cases x)];rfl
 ·rw[aF.run (d:=(kJ b,())) ⟨gu.1,Nat.le_trans hL1 (by decide)⟩]
  simp only[Bool.not_true,ao,ab,aF.add,aF.F]
  rw[bX.run (d:=(zd (kJ b,()),b)) (by show(zd _).length≤_;have:=wN (kJ b,());omega)]
  simp only[ab,bX.add,bX.F]
  by_cases hx:zd (kJ b,())=b
  ·rw[aY hx,if_pos ⟨by trivial,hx⟩];rfl
  ·rw[bq hx,if_neg (fun y=>hx y.2)];rfl
noncomputable def aR.E:=Entry.cC [some tB] aR.st aR.aB aR.add aR.F aR.out
noncomputable def aR.call:aR.D→Option aR.X:=bS aR.E aR.st
theorem aR.run:bM aR.call aR.aB aR.add aR.F:=dh (dd [.d tB] fun _=>by kernel_rfl)
noncomputable def aR.sg:SG Tryz.prog:=⟨186,aX,aR.E,.fn 2 (by kernel_rfl) aR.ok (And.intro (.cC aR.L0.ok (by kernel_rfl)) (And.intro (.cC aR.L1.ok (by kernel_rfl)) trivial))⟩
set_option synthInstance.maxSize 5000
def qc(r:eU):List Int×eU:=((iy 32 r).1++List.drop (iy 32 r).1.length (List.replicate 32 (0:Int)),(iy 32 r).2)
def pn(r:eU):List Int×eU:=if(du r).2.2.1=true then([],(du r).2) else iy (du r).1.toNat (du r).2
def qT(most:Int)(r:eU):Int×eU:=(if(du r).1 > most then -1 else(du r).1,(du r).2)
def GZ(r:eU):db×eU:=(((qc r).1,(du (qc r).2).1,()),(du (qc r).2).2)
def qq:Nat→eU→List db×eU
 | 0,r=>([],r)
 |k+1,r=>((GZ r).1::(qq k (GZ r).2).1,(qq k (GZ r).2).2)
def w3(r:eU):fx×eU:=(((du r).1,(pc (pn (du r).2).1).1,()),(pn (du r).2).2)
def pb:Nat→eU→Option (List fx×eU)
 | 0,r=>some ([],r)
 |k+1,r=>if(pc (pn (du r).2).1).2=true then(match pb k (w3 r).2 with
  |some x=>some ((w3 r).1::x.1,x.2)
  |none=>none) else none
def G1(r:eU):Sg×eU:=(((jU r).1,(jU (jU r).2).1,()),(jU (jU r).2).2)
def oz:Nat→eU→List Sg×eU
 | 0,r=>([],r)
 |k+1,r=>((G1 r).1::(oz k (G1 r).2).1,(oz k (G1 r).2).2)
def kY(r:eU):List Sg×eU:=oz (qT 12 (du r).2).1.toNat (qT 12 (du r).2).2
def Eb(r:eU):Option (oT×eU):=if(qT 12 (du r).2).1 < 0 then none else some (((du r).1,(kY r).1,(jU (kY r).2).1,()),(jU (kY r).2).2)
def pg:List db→eU→Option (List fU×eU)
 |[],r=>some ([],r)
 |o::l,r=>match Eb r with
  |none=>none
  |some w=>match pg l w.2 with
   |none=>none
   |some x=>some ((o,w.1,())::x.1,x.2)
def Gm:eT×Bool:=(([],[],0,()),false)
def Fm(n m:Int)(t:eT)(r:eU):eT×Bool:=if n < 0∨m < 0∨r.2.1=true∨0 < r.1.length∨gv t=false then Gm else(t,true)
def Fx(n m:Int)(ops:List db)(os:List fx)(r:eU):eT×Bool:=match pg ops (du r).2 with
 |none=>Gm
 |some x=>Fm n m (x.1,os,(du r).1,()) x.2
def DF(b:List Int):eT×Bool:=
 let n:=qT 64 (b,false,())
 let ops:=qq n.1.toNat n.2
 let m:=qT 64 ops.2
 match pb m.1.toNat m.2 with
 |none=>Gm
 |some x=>Fx n.1 m.1 ops.1 x.1 x.2
def IW(o:db):List Int:=o.1++l9 o.2.1
def HC(o:fx):List Int:=l9 o.1++(l9 (zd o.2.1).length++zd o.2.1)
def IP(s:Sg):List Int:=hZ s.1++hZ s.2.1
def GO(w:oT):List Int:=l9 w.1++(l9 w.2.1.length++(w.2.1.flatMap IP++hZ w.2.2.1))
def jG(r:eU):Prop:=iX r∧(r.2.1=true→r.1=[])
def Ov(r r':eU)(e:List Int):Prop:=jG r'∧(r'.2.1=false→r.2.1=false∧r.1=e++r'.1)
theorem Ov.trans{r r1 r2:eU}{e1 e2:List Int}(h1:Ov r r1 e1)(h2:Ov r1 r2 e2):Ov r r2 (e1++e2):=
 ⟨h2.1,fun h=>⟨(h1.2 (h2.2 h).1).1,by rw[(h1.2 (h2.2 h).1).2,(h2.2 h).2,List.append_assoc]⟩⟩
theorem Ov.of{r r':eU}{e e':List Int}(h:Ov r r' e)(he:r'.2.1=false→e=e'):Ov r r' e':=⟨h.1,fun h'=>by rw[←he h'];exact h.2 h'⟩
theorem Ov.refl{r:eU}(h:jG r):Ov r r []:=⟨h,fun h'=>⟨h',rfl⟩⟩
theorem Ew:jG rQ:=⟨wA,fun _=>rfl⟩
theorem xR(r:eU)(e:List Int):Ov r rQ e:=⟨Ew,fun h=>by cases h⟩
theorem E2{b:List Int}(hb:Bytes b)(hl:b.length≤1000000000):jG (b,false,()):=⟨Ac hb hl (false,()),fun h=>by cases h⟩
theorem uz{r:eU}(h:jG r)(n:Nat):Ov r (iy n r).2 (iy n r).1∧((iy n r).2.2.1=false→(iy n r).1.length=n):=by
 have hb:=(lE (n:=n) h.1).2.2
 revert hb
 unfold iy
 split
 ·exact fun _=>⟨xR _ _,fun h=>by cases h⟩
 ·rename_i hc
  intro hb
  have h1:r.2.1=false:=by cases hr:r.2.1 with | false=>rfl | true=>exact absurd (Or.inl hr) hc
  have h2:¬r.1.length < n:=fun x=>hc (Or.inr x)
  exact⟨⟨⟨hb,fun(hx:r.2.1=true)=>by rw[h1]at hx;cases hx⟩,fun _=>⟨h1,(List.take_append_drop n r.1).symm⟩⟩,fun _=>by show(r.1.take n).length=n;rw[List.length_take];omega⟩
theorem ug(f:Nat){d:Int}(h:d < 128):gz f d=([],d):=by
 cases f with
 |zero=>rfl
 |succ f=>rw[gz,if_neg (by omega)]
theorem yB:∀(l:List Int) (a:Nat) (n:Int) (v:Int×Nat),Bytes l→a≤9→pI l a n= .inl v→
  ∃w rest,v.1=n+w*128^a∧0≤w∧(a=0∨0 < w)∧w < 128^(9 - a)∧l=(gz (8 - a) w).1++(gz (8 - a) w).2::rest∧v.2=a+(gz (8 - a) w).1.length+1
 |[],a,n,v,_,_,h=>by cases h
 |d::l,a,n,v,hb,ha,h=>by
  obtain⟨x1,x2⟩:=hb d List.mem_cons_self
  rw[pI]at h
  split at h
  ·cases h
  rename_i hc
  have ha8:a≤8:=by omega
  have e9:(128:Int)^(9 - a)=128^(8 - a)*128:=by rw[show 9 - a=(8 - a)+1 by omega];exact Int.pow_succ 128 (8 - a)
  have p8:(0:Int) < 128^(8 - a):=Int.pow_pos (by decide)
  split at h
  ·rename_i hd
   cases h
   refine⟨d,l,by rw[Int.emod_eq_of_lt x1 hd],x1,by omega,by omega,?_,?_⟩
   ·rw[ug _ hd];rfl
   ·rw[ug _ hd];rfl
  ·rename_i hd
   obtain⟨w,rest,e1,w0,w1,w2,e2,e3⟩:=yB l (a+1) _ v (fun x hx=>hb x (List.mem_cons_of_mem _ hx)) (by omega) h
   have w1:0 < w:=by omega
   rw[show 9 - (a+1)=8 - a by omega]at w2
   have ha7:a≤7:=by
    by_cases h8:a=8
    ·rw[h8]at w2
     have:(128:Int)^(8 - 8)=1:=rfl
     omega
    ·omega
   have er:gz (8 - a) (d%128+128*w)=((d%128+128)::(gz (8 - (a+1)) w).1,(gz (8 - (a+1)) w).2):=by
    rw[show 8 - a=(8 - (a+1))+1 by omega,gz,if_pos (by omega),show(d%128+128*w)%128=d%128 by omega,show(d%128+128*w) / 128=w by omega]
   refine⟨d%128+128*w,rest,?_,by omega,by omega,by omega,?_,?_⟩
   ·rw[e1,Int.pow_succ,Int.add_mul,Int.add_assoc,Int.mul_comm 128 w,Int.mul_assoc w,Int.mul_comm 128]
   ·rw[er,e2,show d%128+128=d by omega];rfl
   ·rw[er,e3];simp only[List.length_cons];omega
theorem jk{r:eU}(h:jG r):Ov r (du r).2 (l9 (du r).1)∧((du r).2.2.1=false→xm (du r).1):=by
 have hk:=jj h.1
 revert hk
 unfold du
 cases hf:pI r.1 0 0 with
 |inr _=>exact fun _=>⟨xR _ _,fun h=>by cases h⟩
 |inl v=>
  intro hk
  obtain⟨w,rest,e1,w0,_,w2,e2,e3⟩:=yB r.1 0 0 v h.1.2 (by decide) hf
  have h1:r.2.1=false:=by
   cases hr:r.2.1 with
   |false=>rfl
   |true=>rw[h.2 hr]at hf;cases hf
  have ew:v.1=w:=by rw[e1,Int.pow_zero];omega
  have e9:(128:Int)^(9 - 0)=9223372036854775808:=rfl
  have e8:(128:Int)^(8+1)=9223372036854775808:=rfl
  have e10:(128:Int)^(10+1)=151115727451828646838272:=rfl
  have er:gz 10 w=gz 8 w:=rB 10 8 w (by rw[e10];omega) (by rw[e8];omega)
  have en:l9 v.1=(gz 8 w).1++ [(gz 8 w).2]:=by rw[ew];unfold l9;rw[er]
  refine⟨⟨⟨hk.2.2,fun(hx:r.2.1=true)=>by rw[h1]at hx;cases hx⟩,fun _=>⟨h1,?_⟩⟩,fun _=>⟨hk.1,hk.2.1⟩⟩
  show r.1=l9 v.1++r.1.drop v.2
  rw[en,e3,List.append_assoc]
  conv=>rhs;rw[e2]
  rw[List.append_cons,Nat.zero_add,List.drop_left' (by rw[List.length_append];rfl)]
  exact e2
theorem CB{l:List Int}(h:l.length=8)(hb:Bytes l):hZ (sz l)=l:=by
 match l,h with
 |[a,b,c,d,e,f,g,i],_=>
  have h0:=hb a (by simp)
  have h1:=hb b (by simp)
  have h2:=hb c (by simp)
  have h3:=hb d (by simp)
  have h4:=hb e (by simp)
  have h5:=hb f (by simp)
  have h6:=hb g (by simp)
  have h7:=hb i (by simp)
  unfold xl at h0 h1 h2 h3 h4 h5 h6 h7
  unfold hZ sz
  simp only[List.foldl_cons,List.foldl_nil]
  congr 1
  ·omega
  congr 1
  ·omega
  congr 1
  ·omega
  congr 1
  ·omega
  congr 1
  ·omega
  congr 1
  ·omega
  congr 1
  ·omega
  congr 1
  omega
theorem oS{r:eU}(h:jG r):Ov r (jU r).2 (hZ (jU r).1):=by
 have e:=uz h 8
 exact e.1.of fun hk=>(CB (e.2 hk) (lE h.1).2.1).symm
theorem xZ{r:eU}(h:jG r):Ov r (qc r).2 (qc r).1:=by
 have e:=uz h 32
 refine e.1.of fun hk=> ?_
 unfold qc
 simp only[e.2 hk]
 rw[show List.drop 32 (List.replicate 32 (0:Int))=[] from rfl,List.append_nil]
theorem CZ{r:eU}(h:iX r):Sm (qc r).1:=by
 have e:=lE (n:=32) h
 refine⟨?_,Bq e.2.1 fun x hx=> ?_⟩
 ·show((iy 32 r).1++List.drop (iy 32 r).1.length (List.replicate 32 (0:Int))).length=32
  rw[List.length_append,List.length_drop,List.length_replicate]
  have:=e.1
  omega
 ·obtain rfl:=(List.mem_replicate.1 (List.mem_of_mem_drop hx)).2
  exact⟨by decide,by decide⟩
theorem wk{r:eU}(h:jG r):Ov r (pn r).2 (l9 (pn r).1.length++(pn r).1)∧Bytes (pn r).1∧(pn r).1.length≤1000000000:=by
 have e:=jk h
 unfold pn
 split
 ·rename_i hc
  exact⟨⟨e.1.1,fun hk=>by rw[hc]at hk;cases hk⟩,fun x hx=>(by cases hx),Nat.zero_le _⟩
 ·rename_i hc
  have hc:(du r).2.2.1=false:=by simpa using hc
  have t:=uz e.1.1 (du r).1.toNat
  have tb:=lE (n:=(du r).1.toNat) e.1.1.1
  have n0:=(e.2 hc).1
  refine⟨(e.1.trans t.1).of fun hk=> ?_,tb.2.1,?_⟩
  ·rw[t.2 hk,Int.toNat_of_nonneg n0]
  ·have hl:(iy (du r).1.toNat (du r).2).1.length≤(du r).2.1.length:=by
    unfold iy
    split
    ·exact Nat.zero_le _
    ·show((du r).2.1.take _).length≤_
     rw[List.length_take];omega
   have:=e.1.1.1.1
   omega
theorem GN{r:eU}(h:jG r){m:Int}(h0:0≤(qT m r).1):Ov r (qT m r).2 (l9 (qT m r).1)∧(qT m r).1≤m:=by
 have e:=jk h
 unfold qT at h0 ⊢
 by_cases hc:(du r).1 > m
 ·simp only[if_pos hc]at h0
  omega
 ·simp only[if_neg hc]
  exact⟨e.1,by omega⟩
theorem Be{r:eU}(h:jG r)(m:Int):jG (qT m r).2:=(jk h).1.1
theorem Bd{r:eU}(h:iX r){m:Int}(hm:0≤m): -1≤(qT m r).1∧(qT m r).1≤m:=by
 have:=(jj h).1
 unfold qT
 split
 ·exact⟨by omega,by show(-1:Int)≤m;omega⟩
 ·rename_i hc
  have hc:¬(du r).1 > m:=hc
  exact⟨by show -1≤(du r).1;omega,by show(du r).1≤m;omega⟩
theorem AZ:∀(k:Nat) {r:eU},jG r→Ov r (qq k r).2 ((qq k r).1.flatMap IW)∧(qq k r).1.length=k∧∀o∈(qq k r).1,Sm o.1
 | 0,r,h=>⟨Ov.refl h,rfl,fun x hx=>by cases hx⟩
 |k+1,r,h=>by
  have e1:=xZ h
  have e2:=jk e1.1
  have ih:=AZ k (r:=(GZ r).2) e2.1.1
  refine⟨?_,by rw[qq,List.length_cons,ih.2.1],fun o ho=> ?_⟩
  ·have:=(e1.trans e2.1).trans ih.1
   rw[qq,List.flatMap_cons]
   exact this
  ·rcases List.mem_cons.1 ho with rfl | ho
   ·exact CZ h.1
   ·exact ih.2.2 o ho
theorem Gr{r:eU}(h:jG r):jG (w3 r).2:=(wk (jk h).1.1).1.1
theorem yG:∀(k:Nat) {r:eU} {x:List fx×eU},jG r→pb k r=some x→Ov r x.2 (x.1.flatMap HC)∧x.1.length=k∧∀o∈x.1,o.1≤9223372036854775807∧jE o.2.1=true∧FH o.2.1
 | 0,r,x,h,hx=>by
  cases hx
  exact⟨Ov.refl h,rfl,fun x hx=>by cases hx⟩
 |k+1,r,x,h,hx=>by
  rw[pb]at hx
  split at hx
  ·rename_i hr
   split at hx
   ·rename_i y hy
    cases hx
    have e1:=jk h
    have e2:=wk e1.1.1
    have ih:=yG k (Gr h) hy
    obtain⟨l,hl,hlb,he,hle⟩:=DE hr
    have hu:=A5 e2.2.1 e2.2.2
    have el:(w3 r).1.2.1=l:=by show(pc (pn (du r).2).1).1=l;rw[he]
    refine⟨?_,by rw[List.length_cons,ih.2.1],fun o ho=> ?_⟩
    ·have:=(e1.1.trans e2.1).trans ih.1
     rw[List.flatMap_cons]
     unfold HC
     rw[el,hlb]
     exact this
    ·rcases List.mem_cons.1 ho with rfl | ho
     ·refine⟨(jj h.1).2.1,by rw[el];exact hl,?_⟩
      rw[el,hle]
      exact⟨hu.1,by show(kJ _).length≤_;omega⟩
     ·exact ih.2.2 o ho
   ·cases hx
  ·cases hx
theorem w6:∀(k:Nat) {r:eU},jG r→Ov r (oz k r).2 ((oz k r).1.flatMap IP)∧(oz k r).1.length=k∧∀s∈(oz k r).1,FI s
 | 0,r,h=>⟨Ov.refl h,rfl,fun x hx=>by cases hx⟩
 |k+1,r,h=>by
  have e1:=oS h
  have e2:=oS e1.1
  have ih:=w6 k (r:=(G1 r).2) e2.1
  refine⟨?_,by rw[oz,List.length_cons,ih.2.1],fun o ho=> ?_⟩
  ·have:=(e1.trans e2).trans ih.1
   rw[oz,List.flatMap_cons]
   exact this
  ·rcases List.mem_cons.1 ho with rfl | ho
   ·exact⟨(rK h.1).1,(rK e1.1.1).1⟩
   ·exact ih.2.2 o ho
theorem Bf{r:eU}(h:jG r):jG (kY r).2∧(kY r).1.length≤12∧∀s∈(kY r).1,FI s:=by
 have e1:=jk h
 have ih:=w6 (qT 12 (du r).2).1.toNat (Be e1.1.1 12)
 have:=Bd e1.1.1.1 (m:=12) (by decide)
 exact⟨ih.1.1,by show(oz _ _).1.length≤12;rw[ih.2.1];omega,ih.2.2⟩
theorem Fh{r:eU}{w:oT×eU}(h:jG r)(hw:Eb r=some w):Ov r w.2 (GO w.1)∧wa w.1∧w.1.2.1.length≤12:=by
 unfold Eb at hw
 split at hw
 ·cases hw
 ·rename_i hc
  cases hw
  have e1:=jk h
  have hc:0≤(qT 12 (du r).2).1:=by omega
  have e2:=GN e1.1.1 hc
  have e3:=w6 (qT 12 (du r).2).1.toNat e2.1.1
  have g:=Bf h
  have e4:=oS g.1
  have hl:((kY r).1.length:Int)=(qT 12 (du r).2).1:=by
   show((oz _ _).1.length:Int)=_
   rw[e3.2.1];omega
  have:=((e1.1.trans e2.1).trans e3.1).trans e4
  refine⟨this.of fun _=> ?_,⟨g.2.2,(rK g.1.1).1⟩,g.2.1⟩
  unfold GO
  simp only[hl,List.append_assoc]
  rfl
theorem y9:∀(l:List db) {r:eU} {x:List fU×eU},jG r→pg l r=some x→Ov r x.2 (x.1.flatMap fun y=>GO y.2.1)∧x.1.map (·.1)=l∧∀y∈x.1,wa y.2.1∧y.2.1.2.1.length≤12
 |[],r,x,h,hx=>by
  cases hx
  exact⟨Ov.refl h,rfl,fun x hx=>by cases hx⟩
 |o::l,r,x,h,hx=>by
  rw[pg]at hx
  split at hx
  ·cases hx
  ·rename_i w hw
   have e:=Fh h hw
   split at hx
   ·cases hx
   ·rename_i y hy
    cases hx
    have ih:=y9 l e.1.1 hy
    refine⟨?_,by rw[List.map_cons,ih.2.1],fun z hz=> ?_⟩
    ·have:=e.1.trans ih.1
     rw[List.flatMap_cons]
     exact this
    ·rcases List.mem_cons.1 hz with rfl | hz
     ·exact e.2
     ·exact ih.2.2 z hz
set_option synthInstance.maxSize 5000
def Ee(o:db):ky:=(o,(0,none,0,()),())
def HU(x:fU):ky:=(x.1,(x.2.1.1,some x.2.1.2.1,x.2.1.2.2),())
def IF(x:ky):fU:=(x.1,(x.2.1.1,x.2.1.2.1.getD [],x.2.1.2.2),())
theorem FV(l:List ky):GX (.slice jh) (.slice fv) l=l.map IF:=by kernel_rfl
theorem GM(l:List fU):(l.map HU).map IF=l:=by
 rw[List.map_map]
 have:(IF∘HU)=id:=rfl
 rw[this,List.map_id]
theorem EW{t:Ty}{l:List t.den}{k:Nat}{y:t.den}(h:k < l.length):nth t (l.set k y) k=y:=by simp[nth,h]
theorem EV{t:Ty}{a b:List t.den}{k:Nat}{y:t.den}(h:a.length=k):nth t (a++y::b) k=y:=by subst h;simp[nth]
theorem E6{α:Type}{a b:List α}{k:Nat}{y z:α}(h:a.length=k):(a++y::b).set k z=a++z::b:=by subst h;simp
theorem Cf{α:Type}{l:List α}{k:Nat}{y:α}:(l.set k y).take k=l.take k:=by rw[List.take_set,List.set_eq_of_length_le (by rw[List.length_take];omega)]
theorem BA{α:Type}{l:List α}{k:Nat}{y:α}:(l.set k y).drop (k+1)=l.drop (k+1):=List.drop_set_of_lt (by omega)
abbrev ek.D:=eU
def ek.st:ek.D→SA:=fun o0=>([.ptr (.dq 0) 0 [] 0],[.obj 0 false (.d jF o0)])
abbrev ek.Y:=Bs×eU
abbrev ek.X:=Bs×eU
def ek.out:ek.X→bg:=fun x=>⟨.d tH x.1,[.obj 0 false (.d jF x.2)],[]⟩
def ek.add:ek.D→ek.Y→ek.X:=fun o0 y=>y
def ek.aB:ek.D→Prop:=fun r=>iX r
def ek.F:ek.D→ek.Y:=fun r=>qc r
noncomputable def ek.G:dY:=fg (P:=Tryz.prog) [dA.sg]
noncomputable def ek.an:eI:= {}
noncomputable def ek.A:= @cY Tryz.prog ek.G ek.an 0 Tryz.f185 _ ek.st
abbrev ek.Ok:=cZ @ek.A ek.aB ek.add ek.F ek.out
theorem ek.eq{R:Type}(o0:eU)(k:bg→Option R):ek.A o0 k=
 al (dA.call ((32:Int),o0)) fun x1=>
 aK (decide ((List.length x1.1)≤32)) (
 k (ek.out ((x1.1++(List.drop (List.length x1.1) (List.replicate 32 (0:Int)))),x1.2))) none:=by kernel_rfl
theorem ek.ok:ek.Ok:=by
 intro r h
 have h:iX r:=h
 have e:=(lE (n:=32) h).1
 rw[ek.eq,dA.run (d:=(32,r)) ⟨by decide,h.1⟩]
 simp only[ab,dA.add,dA.F]
 rw[show Int.toNat 32=32 from rfl,aY e]
 rfl
noncomputable def ek.E:=Entry.cC [none] ek.st ek.aB ek.add ek.F ek.out
noncomputable def ek.call:ek.D→Option ek.X:=bS ek.E ek.st
theorem ek.run:bM ek.call ek.aB ek.add ek.F:=dh (dd [.d jF] fun _=>by kernel_rfl)
noncomputable def ek.sg:SG Tryz.prog:=⟨185,aX,ek.E,.fn 0 (by kernel_rfl) ek.ok trivial⟩
abbrev dj.D:=eU
def dj.st:dj.D→SA:=fun o0=>([.ptr (.dq 0) 0 [] 0],[.obj 0 false (.d jF o0)])
abbrev dj.Y:=Bs×eU
abbrev dj.X:=Bs×eU
def dj.out:dj.X→bg:=fun x=>⟨.d tB x.1,[.obj 0 false (.d jF x.2)],[]⟩
def dj.add:dj.D→dj.Y→dj.X:=fun o0 y=>y
def dj.aB:dj.D→Prop:=fun r=>iX r
def dj.F:dj.D→dj.Y:=fun r=>pn r
noncomputable def dj.G:dY:=fg (P:=Tryz.prog) [bP.sg,dA.sg]
noncomputable def dj.an:eI:= {res:=[some tB],uQ:=[⟨0,[.arr],jF⟩]}
noncomputable def dj.A:= @cY Tryz.prog dj.G dj.an 0 Tryz.f187 _ dj.st
abbrev dj.Ok:=cZ @dj.A dj.aB dj.add dj.F dj.out
theorem dj.eq{R:Type}(o0:eU)(k:bg→Option R):dj.A o0 k=
  al (bP.call o0) fun x1=>
  aK (x1.2.2.1) (
   k (dj.out (([]:List Int),x1.2))) (
   al (dA.call (x1.1,x1.2)) fun x2=>
   k (dj.out (x2.1,x2.2))):=by kernel_rfl
theorem dj.ok:dj.Ok:=by
 intro r h
 have h:iX r:=h
 have e:=jj h
 rw[dj.eq,bP.run (d:=r) h]
 simp only[ab,bP.add,bP.F,dj.add,dj.F,pn]
 cases hc:(du r).2.2.1
 ·rw[ao,dA.run (d:=((du r).1,(du r).2)) ⟨e.1,e.2.2.1⟩]
  rfl
 ·rfl
noncomputable def dj.E:=Entry.cC [none] dj.st dj.aB dj.add dj.F dj.out
noncomputable def dj.call:dj.D→Option dj.X:=bS dj.E dj.st
theorem dj.run:bM dj.call dj.aB dj.add dj.F:=dh (dd [.d jF] fun _=>by kernel_rfl)
noncomputable def dj.sg:SG Tryz.prog:=⟨187,aX,dj.E,.fn 0 (by kernel_rfl) dj.ok trivial⟩
abbrev dD.D:=Int×eU
def dD.st:dD.D→SA:=fun(most,o1)=>([.d ti most,.ptr (.dq 0) 0 [] 0],[.obj 0 false (.ptr (.dq 1) 0 [] 0),.obj 0 false (.d jF o1)])
abbrev dD.Y:=Int×eU
abbrev dD.X:=Int×eU
def dD.out:dD.X→bg:=fun x=>⟨.d ti x.1,[.obj 0 false (.ptr (.dq 1) 0 [] 0),.obj 0 false (.d jF x.2)],[]⟩
def dD.add:dD.D→dD.Y→dD.X:=fun(most,o1) y=>y
def dD.aB:dD.D→Prop:=fun(m,r)=>iX r
def dD.F:dD.D→dD.Y:=fun(m,r)=>qT m r
noncomputable def dD.G:dY:=fg (P:=Tryz.prog) [bP.sg]
noncomputable def dD.an:eI:= {}
noncomputable def dD.A:= @cY Tryz.prog dD.G dD.an 0 Tryz.f183 _ dD.st
abbrev dD.Ok:=cZ @dD.A dD.aB dD.add dD.F dD.out
theorem dD.eq{R:Type}(most:Int)(o1:eU)(k:bg→Option R):dD.A (most,o1) k=
  al (bP.call o1) fun x1=>
  aK ((mJ x1.1 most)) (
   k (dD.out ((-1:Int),x1.2))) (
   k (dD.out (x1.1,x1.2))):=by kernel_rfl
theorem dD.ok:dD.Ok:=by
 rintro⟨m,r⟩ h
 have h:iX r:=h
 rw[dD.eq,bP.run (d:=r) h]
 simp only[ab,bP.add,bP.F,dD.add,dD.F,qT]
 by_cases hc:(du r).1 > m
 ·rw[dx hc,if_pos hc];rfl
 ·rw[cW hc,if_neg hc];rfl
noncomputable def dD.E:=Entry.cC [some ti,none] dD.st dD.aB dD.add dD.F dD.out
noncomputable def dD.call:dD.D→Option dD.X:=bS dD.E dD.st
theorem dD.run:bM dD.call dD.aB dD.add dD.F:=dh (dd [.d ti,.d jF] fun _=>by kernel_rfl)
noncomputable def dD.sg:SG Tryz.prog:=⟨183,aX,dD.E,.fn 0 (by kernel_rfl) dD.ok trivial⟩
abbrev av.L0.D:=Int×Int×Int×(Int×Unit)×Nat×(Int×Unit)×eU×(List ky)
def av.L0.st:av.L0.D→AS:=fun(n,t20,t21,n2,n4L,n4,n16,n32)=>⟨([.undef,.undef,.ptr (.new 2 0) 0 [] 0,.undef,.ptr (.new 4 0) 0 [] 0,.ptr (.new 5 0) 0 [] 0,.fn 183 (.cons (.ptr (.new 5 0) 0 [] 0) (.nil)),.d ti n]++bh 12 ([.d ti t20,.d ti t21]++bh 110 [])),[],([[],[],[.obj 0 false (.pr (.cV) (.pr (.cV) (.d (.pair ti .unit) n2)))],[],[.obj 0 false (.pr (.bJ (.new 32 0) 0 [] 0 0 n4L) (.pr (.cV) (.d (.pair ti .unit) n4)))],[.obj 0 false (.ptr (.new 16 0) 0 [] 0)]]++bI 10 ([[.obj 0 false (.d jF n16)]]++bI 15 ([[.obj 0 false (.vec 52 jh n32)]]++bI 99 [])))⟩
abbrev av.L0.Y0:=Nat×eU×(List ky)
abbrev av.L0.X0:=(Int×(Int×Unit)×(Int×Unit))×(Nat×eU×(List ky))
def av.L0.bw:av.L0.X0→Exit×AS:=fun x=>(.exit 0,⟨([.undef,.undef,.ptr (.new 2 0) 0 [] 0,.undef,.ptr (.new 4 0) 0 [] 0,.ptr (.new 5 0) 0 [] 0,.fn 183 (.cons (.ptr (.new 5 0) 0 [] 0) (.nil)),.d ti x.1.1]++bh 124 []),[],([[],[],[.obj 0 false (.pr (.cV) (.pr (.cV) (.d (.pair ti .unit) x.1.2.1)))],[],[.obj 0 false (.pr (.bJ (.new 32 0) 0 [] 0 0 x.2.1) (.pr (.cV) (.d (.pair ti .unit) x.1.2.2)))],[.obj 0 false (.ptr (.new 16 0) 0 [] 0)]]++bI 10 ([[.obj 0 false (.d jF x.2.2.1)]]++bI 15 ([[.obj 0 false (.vec 52 jh x.2.2.2)]]++bI 99 [])))⟩)
abbrev av.L0.X:=av.L0.X0
abbrev av.L0.Y:=av.L0.Y0
def av.L0.out:av.L0.X→Out (Exit×AS):=fun x=> .ok (av.L0.bw x)
def av.L0.add:av.L0.D→av.L0.Y→av.L0.X:=fun(n,t20,t21,n2,n4L,n4,n16,n32) y=>((n,n2,n4),y)
abbrev av.L1.D:=Int×Int×Int×Int×(Int×Unit)×Nat×Nat×(Int×Unit)×eU×(List ky)×(List fx)
def av.L1.st:av.L1.D→AS:=fun(n_2,m,t37,t38,n2_2,n4L_2,n4L_3,n4_2,n16_2,n32_2,n58)=>⟨([.undef,.undef,.ptr (.new 2 0) 0 [] 0,.undef,.ptr (.new 4 0) 0 [] 0,.ptr (.new 5 0) 0 [] 0,.fn 183 (.cons (.ptr (.new 5 0) 0 [] 0) (.nil)),.d ti n_2,.d ti m]++bh 28 ([.d ti t37,.d ti t38]++bh 93 [])),[],([[],[],[.obj 0 false (.pr (.cV) (.pr (.cV) (.d (.pair ti .unit) n2_2)))],[],[.obj 0 false (.pr (.bJ (.new 32 0) 0 [] 0 0 n4L_2) (.pr (.bJ (.new 58 0) 0 [] 0 0 n4L_3) (.d (.pair ti .unit) n4_2)))],[.obj 0 false (.ptr (.new 16 0) 0 [] 0)]]++bI 10 ([[.obj 0 false (.d jF n16_2)]]++bI 15 ([[.obj 0 false (.vec 52 jh n32_2)]]++bI 25 ([[.obj 0 false (.vec 36 eP n58)]]++bI 73 []))))⟩
abbrev av.L1.Y0:=(Int×Unit)
abbrev av.L1.X0:=(Int×Unit)
def av.L1.bw:av.L1.X0→Exit×AS:=fun x=>(.ret,⟨([.undef,.undef,.ptr (.new 2 0) 0 [] 0,.d .bool false]++bh 128 []),[],([[],[],[.obj 0 false (.pr (.cV) (.pr (.cV) (.d (.pair ti .unit) x)))]]++bI 129 [])⟩)
abbrev av.L1.Y1:=Nat×eU×(List fx)
abbrev av.L1.X1:=(Int×Int×(Int×Unit)×Nat×(Int×Unit)×(List ky))×(Nat×eU×(List fx))
def av.L1.fq:av.L1.X1→Exit×AS:=fun x=>(.exit 2,⟨([.undef,.undef,.ptr (.new 2 0) 0 [] 0,.undef,.ptr (.new 4 0) 0 [] 0,.ptr (.new 5 0) 0 [] 0,.fn 183 (.cons (.ptr (.new 5 0) 0 [] 0) (.nil)),.d ti x.1.1,.d ti x.1.2.1]++bh 123 []),[],([[],[],[.obj 0 false (.pr (.cV) (.pr (.cV) (.d (.pair ti .unit) x.1.2.2.1)))],[],[.obj 0 false (.pr (.bJ (.new 32 0) 0 [] 0 0 x.1.2.2.2.1) (.pr (.bJ (.new 58 0) 0 [] 0 0 x.2.1) (.d (.pair ti .unit) x.1.2.2.2.2.1)))],[.obj 0 false (.ptr (.new 16 0) 0 [] 0)]]++bI 10 ([[.obj 0 false (.d jF x.2.2.1)]]++bI 15 ([[.obj 0 false (.vec 52 jh x.1.2.2.2.2.2)]]++bI 25 ([[.obj 0 false (.vec 36 eP x.2.2.2)]]++bI 73 []))))⟩)
abbrev av.L1.X:=(av.L1.X0)⊕(av.L1.X1)
abbrev av.L1.Y:=(av.L1.Y0)⊕(av.L1.Y1)
def av.L1.out:av.L1.X→Out (Exit×AS):=fun x=> .br x.isLeft (.get x.getLeft? fun a=> .ok (av.L1.bw a)) (.get x.getRight? fun b=> .ok (av.L1.fq b))
def av.L1.add:av.L1.D→av.L1.Y→av.L1.X:=fun(n_2,m,t37,t38,n2_2,n4L_2,n4L_3,n4_2,n16_2,n32_2,n58) y=>match y with | .inl y=> .inl y | .inr z=> .inr (((n_2,m,n2_2,n4L_2,n4_2,n32_2),z))
abbrev av.L2.D:=Int×Int×Int×Int×(Int×Unit)×Nat×Nat×(Int×Unit)×eU×(List ky)×(List fx)
def av.L2.st:av.L2.D→AS:=fun(n_3,m_2,t66,t67,n2_3,n4L_4,n4L_5,n4_3,n16_3,n32_3,n58_2)=>⟨([.undef,.undef,.ptr (.new 2 0) 0 [] 0,.undef,.ptr (.new 4 0) 0 [] 0,.ptr (.new 5 0) 0 [] 0,.fn 183 (.cons (.ptr (.new 5 0) 0 [] 0) (.nil)),.d ti n_3,.d ti m_2]++bh 57 ([.d ti t66,.d ti t67]++bh 64 [])),[],([[],[],[.obj 0 false (.pr (.cV) (.pr (.cV) (.d (.pair ti .unit) n2_3)))],[],[.obj 0 false (.pr (.bJ (.new 32 0) 0 [] 0 0 n4L_4) (.pr (.bJ (.new 58 0) 0 [] 0 0 n4L_5) (.d (.pair ti .unit) n4_3)))],[.obj 0 false (.ptr (.new 16 0) 0 [] 0)]]++bI 10 ([[.obj 0 false (.d jF n16_3)]]++bI 15 ([[.obj 0 false (.vec 52 jh n32_3)]]++bI 25 ([[.obj 0 false (.vec 36 eP n58_2)]]++bI 73 []))))⟩
abbrev av.L2.Y0:=(Int×Unit)
abbrev av.L2.X0:=(Int×Unit)
def av.L2.bw:av.L2.X0→Exit×AS:=fun x=>(.ret,⟨([.undef,.undef,.ptr (.new 2 0) 0 [] 0,.d .bool false]++bh 128 []),[],([[],[],[.obj 0 false (.pr (.cV) (.pr (.cV) (.d (.pair ti .unit) x)))]]++bI 129 [])⟩)
abbrev av.L2.Y1:=Int×Int×(Int×Unit)×Nat×Nat×(Int×Unit)×eU×(List ky)×(List fx)
abbrev av.L2.X1:=Int×Int×(Int×Unit)×Nat×Nat×(Int×Unit)×eU×(List ky)×(List fx)
def av.L2.fq:av.L2.X1→Exit×AS:=fun x=>(.exit 4,⟨([.undef,.undef,.ptr (.new 2 0) 0 [] 0,.undef,.ptr (.new 4 0) 0 [] 0,.ptr (.new 5 0) 0 [] 0,.undef,.d ti x.1,.d ti x.2.1]++bh 123 []),[],([[],[],[.obj 0 false (.pr (.cV) (.pr (.cV) (.d (.pair ti .unit) x.2.2.1)))],[],[.obj 0 false (.pr (.bJ (.new 32 0) 0 [] 0 0 x.2.2.2.1) (.pr (.bJ (.new 58 0) 0 [] 0 0 x.2.2.2.2.1) (.d (.pair ti .unit) x.2.2.2.2.2.1)))],[.obj 0 false (.ptr (.new 16 0) 0 [] 0)]]++bI 10 ([[.obj 0 false (.d jF x.2.2.2.2.2.2.1)]]++bI 15 ([[.obj 0 false (.vec 52 jh x.2.2.2.2.2.2.2.1)]]++bI 25 ([[.obj 0 false (.vec 36 eP x.2.2.2.2.2.2.2.2)]]++bI 73 []))))⟩)
abbrev av.L2.X:=(av.L2.X0)⊕(av.L2.X1)
abbrev av.L2.Y:=(av.L2.Y0)⊕(av.L2.Y1)
def av.L2.out:av.L2.X→Out (Exit×AS):=fun x=> .br x.isLeft (.get x.getLeft? fun a=> .ok (av.L2.bw a)) (.get x.getRight? fun b=> .ok (av.L2.fq b))
def av.L2.add:av.L2.D→av.L2.Y→av.L2.X:=fun(n_3,m_2,t66,t67,n2_3,n4L_4,n4L_5,n4_3,n16_3,n32_3,n58_2) y=>match y with | .inl y=> .inl y | .inr z=> .inr (z)
abbrev av.L3.D:=Int×Int×Int×Int×Int×Int×(Int×Unit)×Nat×Nat×(Int×Unit)×eU×(List ky)×db×Int×Nat×(Int×Unit)×(List ky)×(List fx)×(List Sg)
def av.L3.st:av.L3.D→AS:=fun(n_4,m_3,t66_2,t67_2,t85,t86,n2_4,n4L_6,n4L_7,n4_4,n16_4,n32_4,n32_5,n32_6,n32L,n32_7,n32_8,n58_3,n99)=>⟨([.undef,.undef,.ptr (.new 2 0) 0 [] 0,.undef,.ptr (.new 4 0) 0 [] 0,.ptr (.new 5 0) 0 [] 0,.fn 183 (.cons (.ptr (.new 5 0) 0 [] 0) (.nil)),.d ti n_4,.d ti m_3]++bh 4 ([.ptr (.new 32 0) 0 [.snd,.fst,.snd,.fst] ((0+((Int.toNat t67_2)*36))+33)]++bh 52 ([.d ti t66_2,.d ti t67_2]++bh 17 ([.d ti t85,.d ti t86]++bh 45 [])))),[],([[],[],[.obj 0 false (.pr (.cV) (.pr (.cV) (.d (.pair ti .unit) n2_4)))],[],[.obj 0 false (.pr (.bJ (.new 32 0) 0 [] 0 0 n4L_6) (.pr (.bJ (.new 58 0) 0 [] 0 0 n4L_7) (.d (.pair ti .unit) n4_4)))],[.obj 0 false (.ptr (.new 16 0) 0 [] 0)]]++bI 10 ([[.obj 0 false (.d jF n16_4)]]++bI 15 ([[.obj 0 false (.bx 52 36 (.pr (.d (.arr (0+(Int.toNat t67_2)) jh) n32_4) (.pr (.pr (.d cJ n32_5) (.pr (.pr (.d ti n32_6) (.pr (.bJ (.new 99 0) 0 [] 0 0 n32L) (.d (.pair tu .unit) n32_7))) (.d .unit ()))) (.d (.arr (List.length n32_8) jh) n32_8))))]]++bI 25 ([[.obj 0 false (.vec 36 eP n58_3)]]++bI 40 ([[.obj 0 false (.vec 135 nK n99)]]++bI 32 [])))))⟩
abbrev av.L3.Y0:=eU×(List ky)×(List Sg)
abbrev av.L3.X0:=(Int×Int×Int×Int×(Int×Unit)×Nat×Nat×(Int×Unit)×(List fx))×(eU×(List ky)×(List Sg))
def av.L3.bw:av.L3.X0→Exit×AS:=fun x=>(.exit 6,⟨([.undef,.undef,.ptr (.new 2 0) 0 [] 0,.undef,.ptr (.new 4 0) 0 [] 0,.ptr (.new 5 0) 0 [] 0,.fn 183 (.cons (.ptr (.new 5 0) 0 [] 0) (.nil)),.d ti x.1.1,.d ti x.1.2.1]++bh 4 ([.ptr (.new 32 0) 0 [.idx (0+(Int.toNat x.1.2.2.2.1)),.snd,.fst] ((0+((Int.toNat x.1.2.2.2.1)*36))+33)]++bh 52 ([.d ti x.1.2.2.1,.d ti x.1.2.2.2.1]++bh 64 []))),[],([[],[],[.obj 0 false (.pr (.cV) (.pr (.cV) (.d (.pair ti .unit) x.1.2.2.2.2.1)))],[],[.obj 0 false (.pr (.bJ (.new 32 0) 0 [] 0 0 x.1.2.2.2.2.2.1) (.pr (.bJ (.new 58 0) 0 [] 0 0 x.1.2.2.2.2.2.2.1) (.d (.pair ti .unit) x.1.2.2.2.2.2.2.2.1)))],[.obj 0 false (.ptr (.new 16 0) 0 [] 0)]]++bI 10 ([[.obj 0 false (.d jF x.2.1)]]++bI 15 ([[.obj 0 false (.vec 52 jh x.2.2.1)]]++bI 25 ([[.obj 0 false (.vec 36 eP x.1.2.2.2.2.2.2.2.2)]]++bI 40 ([[.obj 0 true (.vec 135 nK x.2.2.2)]]++bI 32 [])))))⟩)
abbrev av.L3.X:=av.L3.X0
abbrev av.L3.Y:=av.L3.Y0
def av.L3.out:av.L3.X→Out (Exit×AS):=fun x=> .ok (av.L3.bw x)
def av.L3.add:av.L3.D→av.L3.Y→av.L3.X:=fun(n_4,m_3,t66_2,t67_2,t85,t86,n2_4,n4L_6,n4L_7,n4_4,n16_4,n32_4,n32_5,n32_6,n32L,n32_7,n32_8,n58_3,n99) y=>((n_4,m_3,t66_2,t67_2,n2_4,n4L_6,n4L_7,n4_4,n58_3),y)
abbrev av.D:=Bs
def av.st:av.D→SA:=fun b=>([.d tB b],[])
abbrev av.Y:=eT×Bool
abbrev av.X:=eT×Bool
def av.out:av.X→bg:=fun x=>⟨.cons (.d fV x.1) (.cons (.d .bool x.2) (.nil)),[],[]⟩
def av.add:av.D→av.Y→av.X:=fun b y=>y
def av.L0.aB:av.L0.D→Prop:=fun(n,m,i,u,L,v,r,l)=>jG r∧m≤64∧∃k:Nat,i=k∧k≤64∧L=l.length∧l.length=k
def av.L0.F:av.L0.D→av.L0.Y:=fun(n,m,i,u,L,v,r,l)=>(L+(m - i).toNat,(qq (m - i).toNat r).2,l++(qq (m - i).toNat r).1.map Ee)
def av.L1.aB:av.L1.D→Prop:=fun(n,m1,m,i,u,L,L2,v,r,l,os)=>jG r∧m≤64∧∃k:Nat,i=k∧k≤64∧L2=os.length∧os.length=k
def av.L1.F:av.L1.D→av.L1.Y:=fun(n,m1,m,i,u,L,L2,v,r,l,os)=>match pb (m - i).toNat r with | none=> .inl (0,()) | some x=> .inr (L2+x.1.length,x.2,os++x.1)
def av.L3.aB:av.L3.D→Prop:=fun(n,m1,mo,io,m,i,u,L,L2,v,r,la,op,br,Ls,sc,lb,os,sg)=>jG r∧m≤12∧∃k:Nat,i=k∧k≤12∧Ls=sg.length∧sg.length=k
def av.L3.F:av.L3.D→av.L3.Y:=fun(n,m1,mo,io,m,i,u,L,L2,v,r,la,op,br,Ls,sc,lb,os,sg)=>((oz (m - i).toNat r).2,la++(op,(br,some (sg++(oz (m - i).toNat r).1),sc),())::lb,sg++(oz (m - i).toNat r).1)
def av.L2.aB:av.L2.D→Prop:=fun(n,m1,m,i,u,L,L2,v,r,l,os)=>jG r∧l.length≤64∧∃k:Nat,i=k∧k≤l.length∧m=l.length∧L=l.length∧∀x∈l.drop k,x=Ee x.1
def av.L2.F:av.L2.D→av.L2.Y:=fun(n,m1,m,i,u,L,L2,v,r,l,os)=>match pg ((l.drop i.toNat).map (·.1)) r with | none=> .inl (0,()) | some x=> .inr (n,m1,u,L,L2,v,x.2,l.take i.toNat++x.1.map HU,os)
def av.aB:av.D→Prop:=fun b=>Bytes b∧b.length≤1000000000
def av.F:av.D→av.Y:=fun b=>DF b
noncomputable def av.G:dY:=fg (P:=Tryz.prog) [dN.sg,dD.sg,ek.sg,bP.sg,dj.sg,aR.sg,cm.sg,fG.sg,eo.sg,aw.sg]
noncomputable def av.L0.E:=bQ.cC av.L0.st av.L0.aB av.L0.add av.L0.F av.L0.out
noncomputable def av.L0.call:av.L0.D→Option av.L0.X:=dm av.L0.E av.L0.st
noncomputable def av.L1.E:=bQ.cC av.L1.st av.L1.aB av.L1.add av.L1.F av.L1.out
noncomputable def av.L1.call:av.L1.D→Option av.L1.X:=dm av.L1.E av.L1.st
noncomputable def av.L2.E:=bQ.cC av.L2.st av.L2.aB av.L2.add av.L2.F av.L2.out
noncomputable def av.L2.call:av.L2.D→Option av.L2.X:=dm av.L2.E av.L2.st
noncomputable def av.L3.E:=bQ.cC av.L3.st av.L3.aB av.L3.add av.L3.F av.L3.out
noncomputable def av.L3.call:av.L3.D→Option av.L3.X:=dm av.L3.E av.L3.st
noncomputable def av.an:eI:= {bK:=[100031,100032],loops:=j4 [(6,{bm:=[2,4,5,6,7,20,21],sites:=[2,4,5,16,32],iA:=[⟨4,[.fst],32,100038⟩]}),(11,{bm:=[2,4,5,6,7,8,37,38],sites:=[2,4,5,16,32,58],iA:=[⟨4,[.snd,.fst],58,37⟩]}),(21,{bm:=[2,4,5,6,7,8,66,67],sites:=[2,4,5,16,32,58]}),(29,{bm:=[2,4,5,6,7,8,13,66,67,85,86],sites:=[2,4,5,16,32,58,99],iA:=[⟨13,[.snd,.fst],99,48⟩],IJ:=[13]})],outs:=j3 [(6,{bm:=[2,4,5,6,7],sites:=[2,4,5,16,32]},{bm:=[2,3]}),(11,{bm:=[2,4,5,6,7,8],sites:=[2,4,5,16,32,58]},{bm:=[2,3],sites:=[2]}),(21,{bm:=[2,4,5,7,8],sites:=[2,4,5,16,32,58]},{bm:=[2,3],sites:=[2]}),(29,{bm:=[2,4,5,6,7,8,13,66,67],sites:=[2,4,5,16,32,58,99],IU:=[13]},{bm:=[2,3]})],fJ:=kT [(6,av.L0.E),(11,av.L1.E),(21,av.L2.E),(29,av.L3.E)],res:=[some fV,none]}
noncomputable def av.A:= @cY Tryz.prog av.G av.an 0 Tryz.f126 _ av.st
abbrev av.Ok:=cZ @av.A av.aB av.add av.F av.out
noncomputable def av.L0.R:= @bV Tryz.prog av.G av.an 0 Tryz.f126 0 _ av.L0.st
abbrev av.L0.Ok:=ez Tryz.prog av.G av.an 0 Tryz.f126 0 av.L0.st av.L0.aB av.L0.add av.L0.F av.L0.out
noncomputable def av.L1.R:= @bV Tryz.prog av.G av.an 0 Tryz.f126 1 _ av.L1.st
abbrev av.L1.Ok:=ez Tryz.prog av.G av.an 0 Tryz.f126 1 av.L1.st av.L1.aB av.L1.add av.L1.F av.L1.out
noncomputable def av.L2.R:= @bV Tryz.prog av.G av.an 0 Tryz.f126 2 _ av.L2.st
abbrev av.L2.Ok:=ez Tryz.prog av.G av.an 0 Tryz.f126 2 av.L2.st av.L2.aB av.L2.add av.L2.F av.L2.out
noncomputable def av.L3.R:= @bV Tryz.prog av.G av.an 0 Tryz.f126 3 _ av.L3.st
abbrev av.L3.Ok:=ez Tryz.prog av.G av.an 0 Tryz.f126 3 av.L3.st av.L3.aB av.L3.add av.L3.F av.L3.out
theorem av.L0.run:bM av.L0.call av.L0.aB av.L0.add av.L0.F:=eF (eD [.d ti,.d ti,.d ti,.d (.pair ti .unit),.n,.d (.pair ti .unit),.d jF,.d (.slice jh)] fun _=>by kernel_rfl)
theorem av.L0.aD:fP @av.L0.R av.L0.st av.L0.aB av.L0.add av.L0.F av.L0.bw av.L0.Ok:=fR
theorem av.L0.step{R:Type}(n:Int)(t20:Int)(t21:Int)(n2:(Int×Unit))(n4L:Nat)(n4:(Int×Unit))(n16:eU)(n32:(List ky))(kn:AS→Option R)(kx:Exit→AS→Option R):av.L0.R (n,t20,t21,n2,n4L,n4,n16,n32) kn kx=
  aK ((fZ t21 t20)) (
   al (ek.call n16) fun x7=>
   al (bP.call x7.2) fun x8=>
   aK (decide (n4L≤(List.length n32))) (
   aK (dp (n4L+1) 80) (
   kn (av.L0.st (n,t20,(bR .i64 t21 (1:Int)),n2,(n4L+1),n4,x8.2,((List.take n4L n32)++ [((x7.1,(x8.1,())),(((0:Int),(none,((0:Int),()))),()))])))) none) none) (
   kx (av.L0.bw ((n,n2,n4),(n4L,n16,n32))).1 (av.L0.bw ((n,n2,n4),(n4L,n16,n32))).2):=by kernel_rfl
theorem av.L1.run:bM av.L1.call av.L1.aB av.L1.add av.L1.F:=eF (eD [.d ti,.d ti,.d ti,.d ti,.d (.pair ti .unit),.n,.n,.d (.pair ti .unit),.d jF,.d (.slice jh),.d (.slice eP)] fun _=>by kernel_rfl)
theorem av.L1.aD:kP @av.L1.R av.L1.st av.L1.aB av.L1.add av.L1.F av.L1.out av.L1.Ok:=lp
theorem av.L1.step{R:Type}(n_2:Int)(m:Int)(t37:Int)(t38:Int)(n2_2:(Int×Unit))(n4L_2:Nat)(n4L_3:Nat)(n4_2:(Int×Unit))(n16_2:eU)(n32_2:(List ky))(n58:(List fx))(kn:AS→Option R)(kx:Exit→AS→Option R):av.L1.R (n_2,m,t37,t38,n2_2,n4L_2,n4L_3,n4_2,n16_2,n32_2,n58) kn kx=
  aK ((fZ t38 t37)) (
   al (bP.call n16_2) fun x16=>
   al (dj.call x16.2) fun x23=>
   al (aR.call x23.1) fun x24=>
   aK ((!x24.2)) (
    kx (av.L1.bw ((0:Int),())).1 (av.L1.bw ((0:Int),())).2) (
    aK (decide (n4L_3≤(List.length n58))) (
    aK (dp (n4L_3+1) 32) (
    kn (av.L1.st (n_2,m,t37,(bR .i64 t38 (1:Int)),n2_2,n4L_2,(n4L_3+1),n4_2,x23.2,n32_2,((List.take n4L_3 n58)++ [(x16.1,(x24.1,()))])))) none) none)) (
   kx (av.L1.fq ((n_2,m,n2_2,n4L_2,n4_2,n32_2),(n4L_3,n16_2,n58))).1 (av.L1.fq ((n_2,m,n2_2,n4L_2,n4_2,n32_2),(n4L_3,n16_2,n58))).2):=by kernel_rfl
theorem av.L2.run:bM av.L2.call av.L2.aB av.L2.add av.L2.F:=eF (eD [.d ti,.d ti,.d ti,.d ti,.d (.pair ti .unit),.n,.n,.d (.pair ti .unit),.d jF,.d (.slice jh),.d (.slice eP)] fun _=>by kernel_rfl)
theorem av.L2.aD:kP @av.L2.R av.L2.st av.L2.aB av.L2.add av.L2.F av.L2.out av.L2.Ok:=lp
theorem av.L2.step{R:Type}(n_3:Int)(m_2:Int)(t66:Int)(t67:Int)(n2_3:(Int×Unit))(n4L_4:Nat)(n4L_5:Nat)(n4_3:(Int×Unit))(n16_3:eU)(n32_3:(List ky))(n58_2:(List fx))(kn:AS→Option R)(kx:Exit→AS→Option R):av.L2.R (n_3,m_2,t66,t67,n2_3,n4L_4,n4L_5,n4_3,n16_3,n32_3,n58_2) kn kx=
  aK ((fZ t67 t66)) (
   aK (eH t67 ((n4L_4:Nat):Int)) (
   al (bP.call n16_3) fun x16=>
   aK (decide ((0+(Int.toNat t67)) < (List.length n32_3))) (
   aK (decide ((((0+(Int.toNat t67))*36)+33)=(((0+((Int.toNat t67)*36))+33)+0))) (
   aK (decide ((0+(Int.toNat t67)) < (List.length n32_3))) (
   al (dD.call ((12:Int),x16.2)) fun x20=>
   aK ((fZ x20.1 (0:Int))) (
    kx (av.L2.bw ((0:Int),())).1 (av.L2.bw ((0:Int),())).2) (
    aK (decide ((0+(Int.toNat t67)) < (List.length (List.set n32_3 (0+(Int.toNat t67)) ((nth jh n32_3 (0+(Int.toNat t67))).1,((x16.1,(nth jh n32_3 (0+(Int.toNat t67))).2.1.2),(nth jh n32_3 (0+(Int.toNat t67))).2.2)))))) (
    aK ((Option.isNone (nth jh (List.set n32_3 (0+(Int.toNat t67)) ((nth jh n32_3 (0+(Int.toNat t67))).1,((x16.1,(nth jh n32_3 (0+(Int.toNat t67))).2.1.2),(nth jh n32_3 (0+(Int.toNat t67))).2.2))) (0+(Int.toNat t67))).2.1.2.1)) (
    al (av.L3.call (n_3,m_2,t66,t67,x20.1,(0:Int),n2_3,n4L_4,n4L_5,n4_3,x20.2,(List.take (0+(Int.toNat t67)) (List.set n32_3 (0+(Int.toNat t67)) ((nth jh n32_3 (0+(Int.toNat t67))).1,((x16.1,(nth jh n32_3 (0+(Int.toNat t67))).2.1.2),(nth jh n32_3 (0+(Int.toNat t67))).2.2)))),((nth jh (List.set n32_3 (0+(Int.toNat t67)) ((nth jh n32_3 (0+(Int.toNat t67))).1,((x16.1,(nth jh n32_3 (0+(Int.toNat t67))).2.1.2),(nth jh n32_3 (0+(Int.toNat t67))).2.2))) (0+(Int.toNat t67))).1.1,((nth jh (List.set n32_3 (0+(Int.toNat t67)) ((nth jh n32_3 (0+(Int.toNat t67))).1,((x16.1,(nth jh n32_3 (0+(Int.toNat t67))).2.1.2),(nth jh n32_3 (0+(Int.toNat t67))).2.2))) (0+(Int.toNat t67))).1.2.1,(nth jh (List.set n32_3 (0+(Int.toNat t67)) ((nth jh n32_3 (0+(Int.toNat t67))).1,((x16.1,(nth jh n32_3 (0+(Int.toNat t67))).2.1.2),(nth jh n32_3 (0+(Int.toNat t67))).2.2))) (0+(Int.toNat t67))).1.2.2)),(nth jh (List.set n32_3 (0+(Int.toNat t67)) ((nth jh n32_3 (0+(Int.toNat t67))).1,((x16.1,(nth jh n32_3 (0+(Int.toNat t67))).2.1.2),(nth jh n32_3 (0+(Int.toNat t67))).2.2))) (0+(Int.toNat t67))).2.1.1,0,((nth jh (List.set n32_3 (0+(Int.toNat t67)) ((nth jh n32_3 (0+(Int.toNat t67))).1,((x16.1,(nth jh n32_3 (0+(Int.toNat t67))).2.1.2),(nth jh n32_3 (0+(Int.toNat t67))).2.2))) (0+(Int.toNat t67))).2.1.2.2.1,(nth jh (List.set n32_3 (0+(Int.toNat t67)) ((nth jh n32_3 (0+(Int.toNat t67))).1,((x16.1,(nth jh n32_3 (0+(Int.toNat t67))).2.1.2),(nth jh n32_3 (0+(Int.toNat t67))).2.2))) (0+(Int.toNat t67))).2.1.2.2.2),(List.drop ((0+(Int.toNat t67))+1) (List.set n32_3 (0+(Int.toNat t67)) ((nth jh n32_3 (0+(Int.toNat t67))).1,((x16.1,(nth jh n32_3 (0+(Int.toNat t67))).2.1.2),(nth jh n32_3 (0+(Int.toNat t67))).2.2)))),n58_2,([]:List Sg))) fun x22=>
    al (cm.call x22.2.1) fun x24=>
    aK (decide ((0+(Int.toNat x22.1.2.2.2.1)) < (List.length x22.2.2.1))) (
    aK (decide ((((0+(Int.toNat x22.1.2.2.2.1))*36)+35)=(((0+((Int.toNat x22.1.2.2.2.1)*36))+33)+2))) (
    aK (decide ((0+(Int.toNat x22.1.2.2.2.1)) < (List.length x22.2.2.1))) (
    kn (av.L2.st (x22.1.1,x22.1.2.1,x22.1.2.2.1,(bR .i64 x22.1.2.2.2.1 (1:Int)),x22.1.2.2.2.2.1,x22.1.2.2.2.2.2.1,x22.1.2.2.2.2.2.2.1,x22.1.2.2.2.2.2.2.2.1,x24.2,(List.set x22.2.2.1 (0+(Int.toNat x22.1.2.2.2.1)) ((nth jh x22.2.2.1 (0+(Int.toNat x22.1.2.2.2.1))).1,(((nth jh x22.2.2.1 (0+(Int.toNat x22.1.2.2.2.1))).2.1.1,((nth jh x22.2.2.1 (0+(Int.toNat x22.1.2.2.2.1))).2.1.2.1,(x24.1,(nth jh x22.2.2.1 (0+(Int.toNat x22.1.2.2.2.1))).2.1.2.2.2))),(nth jh x22.2.2.1 (0+(Int.toNat x22.1.2.2.2.1))).2.2))),x22.1.2.2.2.2.2.2.2.2))) none) none) none) none) none)) none) none) none) none) (
   kx (av.L2.fq (n_3,m_2,n2_3,n4L_4,n4L_5,n4_3,n16_3,n32_3,n58_2)).1 (av.L2.fq (n_3,m_2,n2_3,n4L_4,n4L_5,n4_3,n16_3,n32_3,n58_2)).2):=by kernel_rfl
theorem av.L3.run:bM av.L3.call av.L3.aB av.L3.add av.L3.F:=eF (eD [.d ti,.d ti,.d ti,.d ti,.d ti,.d ti,.d (.pair ti .unit),.n,.n,.d (.pair ti .unit),.d jF,.d (.slice jh),.d cJ,.d ti,.n,.d (.pair tu .unit),.d (.slice jh),.d (.slice eP),.d (.slice nK)] fun _=>by kernel_rfl)
theorem av.L3.aD:fP @av.L3.R av.L3.st av.L3.aB av.L3.add av.L3.F av.L3.bw av.L3.Ok:=fR
theorem av.L3.step{R:Type}(n_4:Int)(m_3:Int)(t66_2:Int)(t67_2:Int)(t85:Int)(t86:Int)(n2_4:(Int×Unit))(n4L_6:Nat)(n4L_7:Nat)(n4_4:(Int×Unit))(n16_4:eU)(n32_4:(List ky))(n32_5:db)(n32_6:Int)(n32L:Nat)(n32_7:(Int×Unit))(n32_8:(List ky))(n58_3:(List fx))(n99:(List Sg))(kn:AS→Option R)(kx:Exit→AS→Option R):av.L3.R (n_4,m_3,t66_2,t67_2,t85,t86,n2_4,n4L_6,n4L_7,n4_4,n16_4,n32_4,n32_5,n32_6,n32L,n32_7,n32_8,n58_3,n99) kn kx=
  aK ((fZ t86 t85)) (
   aK (decide ((((0+(Int.toNat t67_2))*36)+34)=(((0+((Int.toNat t67_2)*36))+33)+1))) (
   al (cm.call n16_4) fun x7=>
   al (cm.call x7.2) fun x8=>
   aK (decide (n32L≤(List.length n99))) (
   aK (dp (n32L+1) 16) (
   aK (decide ((((0+(Int.toNat t67_2))*36)+34)=(((0+((Int.toNat t67_2)*36))+33)+1))) (
   kn (av.L3.st (n_4,m_3,t66_2,t67_2,t85,(bR .i64 t86 (1:Int)),n2_4,n4L_6,n4L_7,n4_4,x8.2,n32_4,n32_5,n32_6,(n32L+1),n32_7,n32_8,n58_3,((List.take n32L n99)++ [(x7.1,(x8.1,()))])))) none) none) none) none) (
   aK (decide (0=0∧(0+n32L)≤(List.length n99))) (
   kx (av.L3.bw ((n_4,m_3,t66_2,t67_2,n2_4,n4L_6,n4L_7,n4_4,n58_3),(n16_4,(n32_4++(n32_5,((n32_6,((some (cut n99 0 n32L)),n32_7)),()))::n32_8),n99))).1 (av.L3.bw ((n_4,m_3,t66_2,t67_2,n2_4,n4L_6,n4L_7,n4_4,n58_3),(n16_4,(n32_4++(n32_5,((n32_6,((some (cut n99 0 n32L)),n32_7)),()))::n32_8),n99))).2) none):=by kernel_rfl
theorem av.eq{R:Type}(b:Bs)(k:bg→Option R):av.A b k=
  al (dN.call b) fun x4=>
  al (dD.call ((64:Int),x4)) fun x8=>
  al (av.L0.call (x8.1,x8.1,(0:Int),((0:Int),()),0,((0:Int),()),x8.2,([]:List ky))) fun x26=>
  al (dD.call ((64:Int),x26.2.2.1)) fun x30=>
  al (av.L1.call (x26.1.1,x30.1,x30.1,(0:Int),x26.1.2.1,x26.2.1,0,x26.1.2.2,x30.2,x26.2.2.2,([]:List fx))) fun x82=>
  aK (x82.isLeft) (
   al (x82.getLeft?) fun a83=>
   k (av.out ((([]:List fU),(([]:List fx),a83)),false))) (
   al (x82.getRight?) fun b84=>
   al (bP.call b84.2.2.1) fun x88=>
   al (av.L2.call (b84.1.1,b84.1.2.1,((b84.1.2.2.2.1:Nat):Int),(0:Int),b84.1.2.2.1,b84.1.2.2.2.1,b84.2.1,(x88.1,b84.1.2.2.2.2.1.2),x88.2,b84.1.2.2.2.2.2,b84.2.2.2)) fun x124=>
   aK (x124.isLeft) (
    al (x124.getLeft?) fun a125=>
    k (av.out ((([]:List fU),(([]:List fx),a125)),false))) (
    al (x124.getRight?) fun b126=>
    aK ((fZ b126.1 (0:Int))) (
     k (av.out ((([]:List fU),(([]:List fx),((0:Int),()))),false))) (
     aK ((fZ b126.2.1 (0:Int))) (
      k (av.out ((([]:List fU),(([]:List fx),((0:Int),()))),false))) (
      al (fG.call b126.2.2.2.2.2.2.1) fun x136=>
      aK ((!x136.2)) (
       k (av.out ((([]:List fU),(([]:List fx),((0:Int),()))),false))) (
       al (eo.call x136.1) fun x137=>
       aK ((mJ x137.2 (0:Int))) (
        k (av.out ((([]:List fU),(([]:List fx),((0:Int),()))),false))) (
        aK (decide (0=0∧(0+b126.2.2.2.1)≤(List.length b126.2.2.2.2.2.2.2.1))) (
        aK (decide (0=0∧(0+b126.2.2.2.2.1)≤(List.length b126.2.2.2.2.2.2.2.2))) (
        al (aw.call ((GX (.slice jh) (.slice fv) (cut b126.2.2.2.2.2.2.2.1 0 b126.2.2.2.1)),((cut b126.2.2.2.2.2.2.2.2 0 b126.2.2.2.2.1),b126.2.2.2.2.2.1))) fun x138=>
        aK ((!x138)) (
         k (av.out ((([]:List fU),(([]:List fx),((0:Int),()))),false))) (
         aK (decide (0=0∧(0+b126.2.2.2.1)≤(List.length b126.2.2.2.2.2.2.2.1))) (
         aK (decide (0=0∧(0+b126.2.2.2.2.1)≤(List.length b126.2.2.2.2.2.2.2.2))) (
         k (av.out (((GX (.slice jh) (.slice fv) (cut b126.2.2.2.2.2.2.2.1 0 b126.2.2.2.1)),((cut b126.2.2.2.2.2.2.2.2 0 b126.2.2.2.2.1),b126.2.2.2.2.2.1)),true))) none) none)) none) none)))))):=by kernel_rfl
theorem av.L0.ok:av.L0.Ok:=by
 refine av.L0.aD (fun(n,m,i,u,L,v,r,l)=>(m - i).toNat) ?_
 rintro⟨n,m,i,u,L,v,r,l⟩ ⟨hr,hm,k,rfl,hk,rfl,hlk⟩
 have hr:jG r:=hr
 have hm:m≤64:=hm
 have hlk:l.length=k:=hlk
 by_cases h:(k:Int) < m
 ·left
  have e1:(m - (k:Int)).toNat=(m - ((k+1:Nat):Int)).toNat+1:=by omega
  have h1:=xZ hr
  refine⟨(n,m,((k+1:Nat):Int),u,l.length+1,v,(GZ r).2,l++ [Ee (GZ r).1]),⟨(jk h1.1).1.1,hm,k+1,rfl,by omega,by rw[List.length_append];rfl,by rw[List.length_append];show l.length+1=_;omega⟩,by show(m - ((k+1:Nat):Int)).toNat < (m - (k:Int)).toNat;omega,?_,fun kn kx=> ?_⟩
  ·simp only[av.L0.add,av.L0.F,e1,qq,List.map_cons,List.append_assoc,List.singleton_append]
   rw[show ∀a c:Nat,a+1+c=a+(c+1) from fun a c=>by omega]
  ·rw[av.L0.step,bu h,ek.run (d:=r) hr.1]
   simp only[ai,ab,ek.add,ek.F]
   rw[bP.run (d:=(qc r).2) h1.1.1]
   simp only[ab,bP.add,bP.F]
   rw[aY (Nat.le_refl _),dX (by omega) (by omega),N.kO (by omega),List.take_length]
   rfl
 ·right
  intro R kn kx
  have e1:(m - (k:Int)).toNat=0:=by omega
  rw[av.L0.step,bk h,ao]
  simp only[av.L0.add,av.L0.F,e1,qq,List.map_nil,List.append_nil,Nat.add_zero]
theorem av.L1.ok:av.L1.Ok:=by
 refine av.L1.aD (fun(n,m1,m,i,u,L,L2,v,r,l,os)=>(m - i).toNat) ?_
 rintro⟨n,m1,m,i,u,L,L2,v,r,l,os⟩ ⟨hr,hm,k,rfl,hk,rfl,hlk⟩
 have hr:jG r:=hr
 have hm:m≤64:=hm
 have hlk:os.length=k:=hlk
 by_cases h:(k:Int) < m
 ·have e1:(m - (k:Int)).toNat=(m - ((k+1:Nat):Int)).toNat+1:=by omega
  have h1:=jk hr
  have h2:=wk h1.1.1
  have step:∀ {R:Type} (kn:AS→Option R) (kx:Exit→AS→Option R),av.L1.R (n,m1,m,(k:Int),u,L,os.length,v,r,l,os) kn kx=aK (!(pc (pn (du r).2).1).2) (kx (av.L1.bw (0,())).1 (av.L1.bw (0,())).2) (kn (av.L1.st (n,m1,m,((k+1:Nat):Int),u,L,os.length+1,v,(w3 r).2,l,os++ [(w3 r).1]))):=by
   intro R kn kx
   rw[av.L1.step,bu h,bP.run (d:=r) hr.1]
   simp only[ai,ab,bP.add,bP.F]
   rw[dj.run (d:=(du r).2) h1.1.1.1]
   simp only[ab,dj.add,dj.F]
   rw[aR.run (d:=(pn (du r).2).1) ⟨h2.2.1,h2.2.2⟩]
   simp only[ab,aR.add,aR.F]
   rw[aY (Nat.le_refl _),dX (by omega) (by omega),N.kO (by omega),List.take_length]
   rfl
  cases hp:(pc (pn (du r).2).1).2
  ·right
   refine⟨av.L1.bw (0,()),?_,fun kn kx=> ?_⟩
   ·simp only[av.L1.add,av.L1.F,e1,pb,hp,Bool.false_eq_true,if_false]
    rfl
   ·rw[step,hp];rfl
  ·left
   refine⟨(n,m1,m,((k+1:Nat):Int),u,L,os.length+1,v,(w3 r).2,l,os++ [(w3 r).1]),⟨h2.1.1,hm,k+1,rfl,by omega,by rw[List.length_append];rfl,by rw[List.length_append];show os.length+1=_;omega⟩,by show(m - ((k+1:Nat):Int)).toNat < (m - (k:Int)).toNat;omega,?_,fun kn kx=> ?_⟩
   ·simp only[av.L1.add,av.L1.F,e1,pb,hp,if_true]
    cases pb (m - ((k+1:Nat):Int)).toNat (w3 r).2 with
    |none=>rfl
    |some x=>
     simp only[List.length_cons,List.append_assoc,List.singleton_append]
     rw[show ∀a c:Nat,a+1+c=a+(c+1) from fun a c=>by omega]
   ·rw[step,hp];rfl
 ·right
  have e1:(m - (k:Int)).toNat=0:=by omega
  refine⟨av.L1.fq ((n,m1,u,L,v,l),(os.length,r,os)),?_,fun kn kx=> ?_⟩
  ·simp only[av.L1.add,av.L1.F,e1,pb,List.length_nil,Nat.add_zero,List.append_nil]
   rfl
  ·rw[av.L1.step,bk h,ao]
theorem av.L3.ok:av.L3.Ok:=by
 refine av.L3.aD (fun(n,m1,mo,io,m,i,u,L,L2,v,r,la,op,br,Ls,sc,lb,os,sg)=>(m - i).toNat) ?_
 rintro⟨n,m1,mo,io,m,i,u,L,L2,v,r,la,op,br,Ls,sc,lb,os,sg⟩ ⟨hr,hm,k,rfl,hk,rfl,hlk⟩
 have hr:jG r:=hr
 have hm:m≤12:=hm
 have hlk:sg.length=k:=hlk
 by_cases h:(k:Int) < m
 ·left
  have e1:(m - (k:Int)).toNat=(m - ((k+1:Nat):Int)).toNat+1:=by omega
  have h1:=oS hr
  have h2:=oS h1.1
  refine⟨(n,m1,mo,io,m,((k+1:Nat):Int),u,L,L2,v,(G1 r).2,la,op,br,sg.length+1,sc,lb,os,sg++ [(G1 r).1]),⟨h2.1,hm,k+1,rfl,by omega,by rw[List.length_append];rfl,by rw[List.length_append];show sg.length+1=_;omega⟩,by show(m - ((k+1:Nat):Int)).toNat < (m - (k:Int)).toNat;omega,?_,fun kn kx=> ?_⟩
  ·simp only[av.L3.add,av.L3.F,e1,oz,List.append_assoc,List.singleton_append]
  ·rw[av.L3.step,bu h,aY (by omega),cm.run (d:=r) hr.1]
   simp only[ai,ab,cm.add,cm.F]
   rw[cm.run (d:=(jU r).2) h1.1.1]
   simp only[ab,cm.add,cm.F]
   rw[aY (Nat.le_refl _),dX (by omega) (by omega),N.kO (by omega),List.take_length]
   rfl
 ·right
  intro R kn kx
  have e1:(m - (k:Int)).toNat=0:=by omega
  rw[av.L3.step,bk h,ao]
  simp only[av.L3.add,av.L3.F,e1,oz,List.append_nil,Nat.zero_add,Nat.le_refl,and_self,decide_true,ai,e7]
theorem av.L2.ok:av.L2.Ok:=by
 refine av.L2.aD (fun(n,m1,m,i,u,L,L2,v,r,l,os)=>l.length - i.toNat) ?_
 rintro⟨n,m1,m,i,u,L,L2,v,r,l,os⟩ ⟨hr,hl,k,rfl,hk,rfl,rfl,hg⟩
 have hr:jG r:=hr
 have hl:l.length≤64:=hl
 have hk:k≤l.length:=hk
 by_cases h:k < l.length
 ·have n1:nth jh l k=l[k]:=cG (t:=jh) h
  have hd:l.drop k=l[k]::l.drop (k+1):=List.drop_eq_getElem_cons h
  have hop:l[k]=Ee l[k].1:=hg _ (by rw[hd];exact List.mem_cons_self)
  obtain⟨op,hop2⟩:∃op,l[k].1=op:=⟨_,rfl⟩
  rw[hop2]at hop
  have h1:=jk hr
  have h2:=Be h1.1.1 12
  have h3:=Bd h1.1.1.1 (m:=12) (by decide)
  have hw:=Bf hr
  have hu:=oS hw.1
  have hat:(l.take k).length=k:=by rw[List.length_take];omega
  have step:∀ {R:Type} (kn:AS→Option R) (kx:Exit→AS→Option R),av.L2.R (n,m1,(l.length:Int),(k:Int),u,l.length,L2,v,r,l,os) kn kx=aK (fZ (qT 12 (du r).2).1 0) (kx (av.L2.bw (0,())).1 (av.L2.bw (0,())).2) (kn (av.L2.st (n,m1,(l.length:Int),((k+1:Nat):Int),u,l.length,L2,v,(jU (kY r).2).2,l.take k++(op,((du r).1,some (kY r).1,(jU (kY r).2).1,()),())::l.drop (k+1),os))):=by
   intro R kn kx
   rw[av.L2.step,bu (by omega),bz (by omega) (by omega),bP.run (d:=r) hr.1]
   have ns:∀y:ky,nth jh (l.set k y) k=y:=fun y=>EW (t:=jh) h
   have nm:∀(y:ky) (b:List ky),nth jh (l.take k++y::b) k=y:=fun y b=>EV (t:=jh) hat
   simp only[ai,ab,bP.add,bP.F,Int.toNat_natCast,Nat.zero_add,Nat.add_zero,n1,hop,aY h,decide_true]
   rw[dD.run (d:=(12,(du r).2)) h1.1.1.1]
   simp only[ai,ab,dD.add,dD.F]
   refine congrArg (fun z=>aK _ _ z) ?_
   simp only[List.length_set,aY h,ai,Ee,ns,Cf,BA,Option.isNone_none]
   rw[av.L3.run (d:=(n,m1,(l.length:Int),(k:Int),(qT 12 (du r).2).1,0,u,l.length,L2,v,(qT 12 (du r).2).2,l.take k,op,(du r).1,0,(0,()),l.drop (k+1),os,[])) ⟨h2,h3.2,0,rfl,by decide,rfl,rfl⟩]
   simp only[ab,av.L3.add,av.L3.F,Int.sub_zero,List.nil_append]
   rw[show oz (qT 12 (du r).2).1.toNat (qT 12 (du r).2).2=kY r from rfl,cm.run (d:=(kY r).2) hw.1.1]
   simp only[ab,cm.add,cm.F,Int.toNat_natCast,nm,E6 hat,aY (show k < (l.take k++(op,((du r).1,some (kY r).1,0,()),())::l.drop (k+1)).length by rw[List.length_append,List.length_cons];omega),Nat.add_assoc,Nat.reduceAdd,decide_true,ai]
   rw[N.kO (by omega)]
  by_cases hp:(qT 12 (du r).2).1 < 0
  ·right
   refine⟨av.L2.bw (0,()),?_,fun kn kx=> ?_⟩
   ·simp only[av.L2.add,av.L2.F,Int.toNat_natCast,hd,List.map_cons,pg,Eb,if_pos hp]
    rfl
   ·rw[step,bu hp,ai]
  ·left
   have hl2:(l.take k++(op,((du r).1,some (kY r).1,(jU (kY r).2).1,()),())::l.drop (k+1)).length=l.length:=by
    rw[List.length_append,List.length_cons,List.length_drop];omega
   have hd2:(l.take k++(op,((du r).1,some (kY r).1,(jU (kY r).2).1,()),())::l.drop (k+1)).drop (k+1)=l.drop (k+1):=by
    rw[List.append_cons,List.drop_left' (by rw[List.length_append];show(l.take k).length+1=_;omega)]
   have ht2:(l.take k++(op,((du r).1,some (kY r).1,(jU (kY r).2).1,()),())::l.drop (k+1)).take (k+1)=l.take k++ [(op,((du r).1,some (kY r).1,(jU (kY r).2).1,()),())]:=by
    rw[List.append_cons,List.take_left' (by rw[List.length_append];show(l.take k).length+1=_;omega)]
   refine⟨(n,m1,(l.length:Int),((k+1:Nat):Int),u,l.length,L2,v,(jU (kY r).2).2,l.take k++(op,((du r).1,some (kY r).1,(jU (kY r).2).1,()),())::l.drop (k+1),os),⟨hu.1,by rw[hl2];exact hl,k+1,rfl,by rw[hl2];omega,by rw[hl2],by rw[hl2],by rw[hd2];exact fun x hx=>hg x (by rw[hd];exact List.mem_cons_of_mem _ hx)⟩,by simp only[Int.toNat_natCast,hl2];omega,?_,fun kn kx=> ?_⟩
   ·simp only[av.L2.add,av.L2.F,Int.toNat_natCast,hd2,ht2,hd,List.map_cons,pg,Eb,if_neg hp,hop2]
    cases pg ((l.drop (k+1)).map (·.1)) (jU (kY r).2).2 with
    |none=>rfl
    |some x=>
     simp only[List.map_cons,List.append_assoc,List.singleton_append]
     rfl
   ·rw[step,bk hp,ao]
 ·right
  obtain rfl:k=l.length:=by omega
  refine⟨av.L2.fq (n,m1,u,l.length,L2,v,r,l,os),?_,fun kn kx=> ?_⟩
  ·simp only[av.L2.add,av.L2.F,Int.toNat_natCast,List.drop_length,List.map_nil,pg,List.take_length,List.append_nil]
   rfl
  ·rw[av.L2.step,bk (by omega),ao]
theorem EN(l:List db):(l.map Ee).map (·.1)=l:=by
 rw[List.map_map]
 have:((fun x:ky=>x.1)∘Ee)=id:=rfl
 rw[this,List.map_id]
theorem av.ok:av.Ok:=by
 rintro b ⟨hb,hl⟩
 have hb:Bytes b:=hb
 have hl:b.length≤1000000000:=hl
 have k0:=E2 hb hl
 have k1:=Be k0 64
 have u1:=Bd k0.1 (m:=64) (by decide)
 rw[av.eq,dN.run (d:=b) hl]
 simp only[ab,dN.add,dN.F,av.add,av.F,DF]
 rw[dD.run (d:=(64,(b,false,()))) k0.1]
 simp only[ab,dD.add,dD.F]
 generalize qT 64 (b,false,())=n at*
 have o2:=AZ n.1.toNat k1
 rw[av.L0.run (d:=(n.1,n.1,0,(0,()),0,(0,()),n.2,[])) ⟨k1,u1.2,0,rfl,by decide,rfl,rfl⟩]
 simp only[ab,av.L0.add,av.L0.F,Int.sub_zero,List.nil_append,Nat.zero_add]
 generalize qq n.1.toNat n.2=ops at*
 have k3:=Be o2.1.1 64
 have u3:=Bd o2.1.1.1 (m:=64) (by decide)
 rw[dD.run (d:=(64,ops.2)) o2.1.1.1]
 simp only[ab,dD.add,dD.F]
 generalize qT 64 ops.2=m at*
 rw[av.L1.run (d:=(n.1,m.1,m.1,0,(0,()),n.1.toNat,0,(0,()),m.2,ops.1.map Ee,[])) ⟨k3,u3.2,0,rfl,by decide,rfl,rfl⟩]
 simp only[ab,av.L1.add,av.L1.F,Int.sub_zero,List.nil_append,Nat.zero_add]
 cases hx:pb m.1.toNat m.2 with
 |none=>rfl
 |some x=>
  have o4:=yG _ k3 hx
  have o5:=jk o4.1.1
  have ol:(ops.1.map Ee).length=n.1.toNat:=by rw[List.length_map];exact o2.2.1
  simp only[Sum.isLeft_inr,Sum.getRight?_inr,ao,ab]
  rw[bP.run (d:=x.2) o4.1.1.1]
  simp only[ab,bP.add,bP.F]
  rw[av.L2.run (d:=(n.1,m.1,(n.1.toNat:Int),0,(0,()),n.1.toNat,x.1.length,((du x.2).1,()),(du x.2).2,ops.1.map Ee,x.1)) ⟨o5.1.1,by rw[ol];omega,0,rfl,Nat.zero_le _,by rw[ol],by rw[ol],fun z hz=>by
   rw[List.drop_zero]at hz
   obtain⟨o,_,rfl⟩:=List.mem_map.1 hz
   rfl⟩]
  simp only[ab,av.L2.add,av.L2.F,Int.toNat_zero,List.drop_zero,List.take_zero,List.nil_append,EN,Fx]
  cases hy:pg ops.1 (du x.2).2 with
  |none=>rfl
  |some y=>
   have o6:=y9 _ o5.1.1 hy
   have yl:y.1.length=n.1.toNat:=by rw[←o2.2.1,←o6.2.1,List.length_map]
   have yl2:(y.1.map HU).length=n.1.toNat:=by rw[List.length_map];exact yl
   simp only[Sum.isLeft_inr,Sum.getRight?_inr,ao,ab,Fm]
   by_cases c1:n.1 < 0
   ·rw[bu c1,ai,if_pos (Or.inl c1)];rfl
   rw[bk c1,ao]
   by_cases c2:m.1 < 0
   ·rw[bu c2,ai,if_pos (Or.inr (Or.inl c2))];rfl
   rw[bk c2,ao,fG.run (d:=y.2) trivial]
   simp only[ab,fG.add,fG.F,Bool.not_not]
   cases c3:y.2.2.1
   ·rw[ao,eo.run (d:=y.2) trivial]
    simp only[ab,eo.add,eo.F]
    by_cases c4:0 < y.2.1.length
    ·rw[dx (by omega),ai,if_pos (Or.inr (Or.inr (Or.inr (Or.inl c4))))];rfl
    ·rw[cW (by omega),ao,aY ⟨by trivial,by omega⟩,aY ⟨by trivial,by omega⟩,e7 yl2,e7 rfl,FV,GM]
     simp only[ai]
     rw[aw.run (d:=(y.1,x.1,(du x.2).1,())) ⟨fun o ho=>(o4.2.2 o ho).2.2,by show y.1.length≤_;omega,by show x.1.length≤_;have:=o4.2.1;omega⟩]
     simp only[ab,aw.add,aw.F]
     cases c5:gv (y.1,x.1,(du x.2).1,())
     ·rw[if_pos (Or.inr (Or.inr (Or.inr (Or.inr (by trivial)))))];rfl
     ·rw[if_neg (by
       rintro(z | z | z | z | z)
       ·exact c1 z
       ·exact c2 z
       ·cases z
       ·exact c4 z
       ·cases z)]
      rfl
   ·rw[ai,if_pos (Or.inr (Or.inr (Or.inl (by trivial))))];rfl
noncomputable def av.E:=Entry.cC [some tB] av.st av.aB av.add av.F av.out
noncomputable def av.call:av.D→Option av.X:=bS av.E av.st
theorem av.run:bM av.call av.aB av.add av.F:=dh (dd [.d tB] fun _=>by kernel_rfl)
noncomputable def av.sg:SG Tryz.prog:=⟨126,aX,av.E,.fn 4 (by kernel_rfl) av.ok (And.intro (.cC av.L0.ok (by kernel_rfl)) (And.intro (.cC av.L1.ok (by kernel_rfl)) (And.intro (.cC av.L2.ok (by kernel_rfl)) (And.intro (.cC av.L3.ok (by kernel_rfl)) trivial))))⟩
set_option synthInstance.maxSize 5000
theorem DK(k:Int)(m:List Int):FI (ij k m):=by
 unfold ij
 split
 ·exact⟨(Fc _).u,(Au _ _).u⟩
 ·exact⟨⟨Int.le_refl 0,by decide⟩,Int.le_refl 0,by decide⟩
theorem xT:∀(l l':List fU) (b:List Int),l.map (·.1)=l'.map (·.1)→l.foldl uJ b=l'.foldl uJ b
 |[],[],_,_=>rfl
 |[],_::_,_,h=>by cases h
 |_::_,[],_,h=>by cases h
 |x::l,y::l',b,h=>by
  rw[List.map_cons,List.map_cons,List.cons.injEq]at h
  have e:uJ b x=uJ b y:=by unfold uJ;rw[h.1]
  rw[List.foldl_cons,List.foldl_cons,e,xT l l' _ h.2]
theorem B5{l l':List fU}(t:List fx×Int×Unit)(h:l.map (·.1)=l'.map (·.1)):lV (l,t)=lV (l',t):=by
 have hl:l.length=l'.length:=by have:=congrArg List.length h;simpa using this
 unfold lV
 simp only[hl]
 rw[xT l l' _ h]
theorem yd:∀(l l':List fU) (m:List (db×Bool)),l.map (·.1)=l'.map (·.1)→qe m l=true→(∀x∈l',nL x.2.1=true)→qe m l'=true
 |[],[],_,_,_,_=>rfl
 |[],_::_,_,h,_,_=>by cases h
 |_::_,[],_,h,_,_=>by cases h
 |x::l,y::l',m,h,hi,hw=>by
  rw[List.map_cons,List.map_cons,List.cons.injEq]at h
  rw[qe,Bool.and_eq_true,Bool.and_eq_true]at hi ⊢
  have hx:=hi.1.2
  unfold tw at hx
  rw[Bool.and_eq_true]at hx
  refine⟨⟨?_,?_⟩,?_⟩
  ·have:=hi.1.1
   unfold rT at this ⊢
   rw[←h.1]
   exact this
  ·unfold tw
   rw[←h.1,hx.1,hw y List.mem_cons_self]
   rfl
  ·rw[←h.1]
   exact yd l l' _ h.2 hi.2 fun z hz=>hw z (List.mem_cons_of_mem _ hz)
theorem D2{l l':List fU}{t:List fx×Int×Unit}(h:l.map (·.1)=l'.map (·.1))(hok:gv (l,t)=true)(hw:∀x∈l',nL x.2.1=true):gv (l',t)=true:=by
 have hl:l.length=l'.length:=by have:=congrArg List.length h;simpa using this
 unfold gv xg at hok ⊢
 rw[Bool.and_eq_true,Bool.and_eq_true]at hok ⊢
 simp only[hl]at hok
 exact⟨hok.1,yd l l' _ h hok.2.1 hw,hok.2.2⟩
theorem Ba{l l':List fU}{t:List fx×Int×Unit}(h:l.map (·.1)=l'.map (·.1))(h1:gv (l,t)=true)(h2:gv (l',t)=true):mD (l',t)=mD (l,t):=by
 unfold mD
 rw[h1,h2,B5 t h]
theorem Ah{l l':List fU}{t:List fx×Int×Unit}(h:l.map (·.1)=l'.map (·.1))(h1:gv (l,t)=true)(h2:gv (l',t)=true):ea (l',t)=ea (l,t):=by
 unfold ea
 rw[h1,h2]
 exact h.symm
theorem Dj{l l':List fU}{t:List fx×Int×Unit}(h:l.map (·.1)=l'.map (·.1))(h1:gv (l,t)=true)(h2:gv (l',t)=true):fw (l',t)=fw (l,t):=by
 unfold fw
 rw[h1,h2,Ba h h1 h2]
def sB(t:eT)(k:Nat)(w:oT):eT:=(t.1.set k ((nth fv t.1 k).1,w,()),t.2)
theorem qL(l:List fU)(k:Nat)(w:oT)(h:k < l.length):l.map (·.1)=(l.set k ((nth fv l k).1,w,())).map (·.1):=by
 have n1:nth fv l k=l[k]:=cG (t:=fv) h
 rw[n1,List.map_set]
 have e:(l[k].1:db)=(l.map (·.1))[k]'(by rw[List.length_map];exact h):=by rw[List.getElem_map]
 show _=(l.map (·.1)).set k l[k].1
 rw[e,List.set_getElem_self]
theorem yQ{l:List fU}{k:Nat}{w:oT}{x:fU}(h:k < l.length)(hx:x∈l.set k ((nth fv l k).1,w,())):x∈l∨(x.1=l[k].1∧x.2.1=w):=by
 have n1:nth fv l k=l[k]:=cG (t:=fv) h
 rw[n1]at hx
 rcases List.mem_or_eq_of_mem_set hx with h1 | h1
 ·exact .inl h1
 ·exact .inr ⟨by rw[h1],by rw[h1]⟩
theorem sS{t:eT}{k:Nat}{w:oT}(h:k < t.1.length)(hok:gv t=true)(hw:nL w=true):gv (sB t k w)=true:=by
 obtain⟨_,b1,_⟩:=iU hok
 refine D2 (l:=t.1) (qL t.1 k w h) hok fun x hx=> ?_
 rcases yQ h hx with h1 | h1
 ·have:=mL _ _ b1 x h1
  unfold tw at this
  rw[Bool.and_eq_true]at this
  exact this.2
 ·rw[h1.2];exact hw
theorem Gv{t:eT}{k:Nat}{w:oT}(h:k < t.1.length)(hv:oE t)(hu:wa w)(hl:w.2.1.length≤9223372036854775807):oE (sB t k w):=by
 refine⟨⟨hv.1.1,by show(t.1.set k _).length≤_;rw[List.length_set];exact hv.1.2.1,hv.1.2.2⟩,fun x hx=> ?_,hv.2.2⟩
 rcases yQ h hx with h1 | h1
 ·exact hv.2.1 x h1
 ·refine⟨?_,by rw[h1.2];exact hu,by rw[h1.2];exact hl⟩
  rw[h1.1]
  exact(hv.2.1 _ (List.getElem_mem h)).1
theorem E5{t:eT}{k:Nat}{w:oT}(h:k < t.1.length)(hok:gv t=true)(hw:nL w=true):mD (sB t k w)=mD t∧ea (sB t k w)=ea t∧fw (sB t k w)=fw t:=
 ⟨Ba (l:=t.1) (qL t.1 k w h) hok (sS h hok hw),Ah (l:=t.1) (qL t.1 k w h) hok (sS h hok hw),Dj (l:=t.1) (qL t.1 k w h) hok (sS h hok hw)⟩
def va(t:eT)(br:Int)(ks:List Int)(sc:Int):oT:=(br,ks.map (fun k=>ij k (mD t)),sc,())
theorem DM(t:eT)(i br:Int)(ks:List Int)(sc:Int):DL t i br ks sc=if oA t i br ks then(sB t i.toNat (va t br ks sc),0) else(([],[],0,()),1):=rfl
theorem uj{t:eT}{i br:Int}{ks:List Int}(h:oA t i br ks=true):gv t=true∧(0≤i∧i < t.1.length∧0≤br∧br < 4∧ks.length≤12)∧∀k∈ks,k < 2305843009213688669∧k≠0:=by
 unfold oA at h
 simp only[Bool.and_eq_true,decide_eq_true_eq,Bool.not_eq_true']at h
 refine⟨h.1,h.2.1,fun k hk=> ?_⟩
 have:=h.2.2
 rw[List.any_eq_false]at this
 have:=this k hk
 unfold pV at this
 simpa using this
theorem E7{t:eT}{i br:Int}{ks:List Int}(sc:Int)(h:oA t i br ks=true):nL (va t br ks sc)=true:=by
 have e:=(uj h).2.1
 unfold nL va
 rw[aY ⟨e.2.2.1,e.2.2.2.1⟩,aY (by rw[List.length_map];exact e.2.2.2.2)]
 rfl
theorem Gz(t:eT)(br:Int)(ks:List Int){sc:Int}(h:iZ sc):wa (va t br ks sc):=⟨fun s hs=>by
  obtain⟨k,_,rfl⟩:=List.mem_map.1 (show s∈ks.map fun k=>ij k (mD t) from hs)
  exact DK k _,h⟩
theorem DN{t:eT}{i br sc:Int}{ks:List Int}(hv:oE t)(h:oA t i br ks=true)(hs:iZ sc):
  gv (sB t i.toNat (va t br ks sc))=true∧oE (sB t i.toNat (va t br ks sc))∧mD (sB t i.toNat (va t br ks sc))=mD t∧ea (sB t i.toNat (va t br ks sc))=ea t∧fw (sB t i.toNat (va t br ks sc))=fw t:=by
 obtain⟨hok,e,_⟩:=uj h
 have hk:i.toNat < t.1.length:=by omega
 have hw:=E7 sc h
 exact⟨sS hk hok hw,Gv hk hv (Gz t br ks hs) (by show(ks.map _).length≤_;rw[List.length_map];omega),E5 hk hok hw⟩
set_option synthInstance.maxSize 5000
section
variable {β:Type} {kt:Ty}
theorem sI(hc:kt.comp=true)(o o':kt.den)(v:β):∀l:List (kt.den×β),cS kt o (fO kt o' v l)=if kt.beq o o'=true then some v else cS kt o l
 |[]=>by rw[BV,fM,oO]
 |p::l=>by
  rw[pH]
  by_cases h:kt.beq o' p.1=true
  ·rw[if_pos h,fM,fM]
   have e:=beq_eq kt _ _ hc h
   by_cases h2:kt.beq o o'=true
   ·rw[if_pos h2,if_pos h2]
   ·rw[if_neg h2,if_neg h2,if_neg (by rw[←e];exact h2)]
  ·rw[if_neg h,fM,fM,sI hc o o' v l]
   by_cases h3:kt.beq o p.1=true
   ·rw[if_pos h3,if_pos h3,if_neg]
    intro h4
    apply h
    rw[←beq_eq kt _ _ hc h4]
    exact h3
   ·rw[if_neg h3,if_neg h3]
theorem AL(hc:kt.comp=true)(o o':kt.den):∀ {l:List (kt.den×β)},(l.map (·.1)).Nodup→cS kt o (gD kt o' l)=if kt.beq o o'=true then none else cS kt o l
 |[],_=>by rw[BU,oO];split <;> rfl
 |p::l,hn=>by
  rw[List.map_cons,List.nodup_cons]at hn
  rw[nh]
  by_cases h:kt.beq o' p.1=true
  ·rw[if_pos h,fM]
   have e:=beq_eq kt _ _ hc h
   by_cases h2:kt.beq o o'=true
   ·rw[if_pos h2]
    have e2:=beq_eq kt _ _ hc h2
    cases hg:cS kt o l with
    |none=>rfl
    |some v=>exact absurd (List.mem_map.2 ⟨_,(gO hc hn.2).1 hg,rfl⟩) (by rw[e2,e];exact hn.1)
   ·rw[if_neg h2,if_neg (by rw[←e];exact h2)]
  ·rw[if_neg h,fM,fM,AL hc o o' hn.2]
   by_cases h3:kt.beq o p.1=true
   ·rw[if_pos h3,if_pos h3,if_neg]
    intro h4
    apply h
    rw[←beq_eq kt _ _ hc h4]
    exact h3
   ·rw[if_neg h3,if_neg h3]
theorem get_none(hc:kt.comp=true){o:kt.den}{l:List (kt.den×β)}(hn:(l.map (·.1)).Nodup):cS kt o l=none↔o ∉ l.map (·.1):=by
 constructor
 ·intro h hm
  obtain⟨p,hp,e⟩:=List.mem_map.1 hm
  have e:p.1=o:=e
  have:=(gO hc hn (x:=o) (v:=p.2)).2 (by rw[←e];exact hp)
  rw[h]at this;cases this
 ·intro h
  cases hg:cS kt o l with
  |none=>rfl
  |some v=>exact absurd (List.mem_map.2 ⟨_,(gO hc hn).1 hg,rfl⟩) h
theorem pa{l:List (kt.den×β)}(hn:(l.map (·.1)).Nodup):l.Nodup:=by
 induction l with
 |nil=>exact List.nodup_nil
 |cons p l ih=>
  rw[List.map_cons,List.nodup_cons]at hn
  exact List.nodup_cons.2 ⟨fun h=>hn.1 (List.mem_map.2 ⟨p,h,rfl⟩),ih hn.2⟩
theorem yI(hc:kt.comp=true){l l':List (kt.den×β)}(hn:(l.map (·.1)).Nodup)(hn':(l'.map (·.1)).Nodup)(h:∀o,cS kt o l=cS kt o l'):l.Perm l':=by
 rw[List.perm_ext_iff_of_nodup (pa hn) (pa hn')]
 rintro⟨o,v⟩
 rw[←gO hc hn,←gO hc hn',h]
end
theorem pW(a b:db):(Ty.beq cJ a b=true)↔a=b:=⟨beq_eq cJ a b rfl,fun h=>by rw[h];exact beq_refl cJ b rfl⟩
abbrev At:=List (db×eX)
abbrev ig(a:At):List db:=a.map (·.1)
theorem Gc(o o':db)(v:eX)(a:At):cS cJ o (fO cJ o' v a)=if o=o' then some v else cS cJ o a:=by
 rw[sI gr]
 by_cases h:o=o'
 ·rw[if_pos ((pW _ _).2 h),if_pos h]
 ·rw[if_neg (fun e=>h ((pW _ _).1 e)),if_neg h]
theorem Ez(o o':db){a:At}(hn:(ig a).Nodup):cS cJ o (gD cJ o' a)=if o=o' then none else cS cJ o a:=by
 rw[AL gr _ _ hn]
 by_cases h:o=o'
 ·rw[if_pos ((pW _ _).2 h),if_pos h]
 ·rw[if_neg (fun e=>h ((pW _ _).1 e)),if_neg h]
theorem tt{o:db}{v:eX}{a:At}(hn:(ig a).Nodup):(ig (fO cJ o v a)).Nodup:=sa gr hn
theorem lO{o:db}{a:At}(hn:(ig a).Nodup):(ig (gD cJ o a)).Nodup:=om gr hn
theorem Ho{a a':At}(hn:(ig a).Nodup)(hn':(ig a').Nodup)(h:∀o,cS cJ o a=cS cJ o a'):a.Perm a':=yI gr hn hn' h
theorem Am{o:db}{c:eX}{a:At}(hn:(ig a).Nodup)(hg:cS cJ o a=some c):a.Perm ((o,c)::gD cJ o a):=by
 refine Ho hn ?_ fun x=> ?_
 ·show(o::ig (gD cJ o a)).Nodup
  refine List.nodup_cons.2 ⟨?_,lO hn⟩
  have:=(get_none gr (lO (o:=o) hn)).1 (by rw[Ez o o hn,if_pos rfl])
  exact this
 ·rw[fM,Ez x o hn]
  by_cases h:x=o
  ·subst h;rw[if_pos ((pW _ _).2 rfl),hg]
  ·rw[if_neg (fun e=>h ((pW _ _).1 e)),if_neg h]
theorem ra(o:db)(l:List db)(a:At):mn (o::l) a=mn l (gD cJ o a):=rfl
theorem px:∀(l:List db) {a:At},(ig a).Nodup→(ig (mn l a)).Nodup
 |[],_,h=>h
 |o::l,a,h=>by rw[ra];exact px l (lO h)
theorem AK(x:db):∀(l:List db) {a:At},(ig a).Nodup→cS cJ x (mn l a)=if x∈l then none else cS cJ x a
 |[],a,_=>by rw[if_neg (by simp)];rfl
 |o::l,a,h=>by
  rw[ra,AK x l (lO h),Ez x o h]
  by_cases h1:x∈l
  ·rw[if_pos h1,if_pos (List.mem_cons_of_mem _ h1)]
  ·rw[if_neg h1]
   by_cases h2:x=o
   ·rw[if_pos h2,if_pos (by rw[h2];exact List.mem_cons_self ..)]
   ·rw[if_neg h2,if_neg (by simp[h1,h2])]
theorem oF(h:Int)(o:db)(l:List db)(x:fx)(xs:List fx)(a:At):qV h (o::l) (x::xs) a=qV h l xs (fO cJ o (x,(h,())) a):=rfl
theorem sW(h:Int):∀(l:List db) (xs:List fx) {a:At},(ig a).Nodup→(ig (qV h l xs a)).Nodup
 |[],[],_,hn=>hn
 |[],_::_,_,hn=>hn
 |_::_,[],_,hn=>hn
 |o::l,x::xs,a,hn=>by rw[oF];exact sW h l xs (tt hn)
theorem AJ(h:Int)(x:db):∀(l:List db) (xs:List fx) (a:At),x ∉ l→cS cJ x (qV h l xs a)=cS cJ x a
 |[],[],_,_=>rfl
 |[],_::_,_,_=>rfl
 |_::_,[],_,_=>rfl
 |o::l,y::xs,a,hx=>by
  rw[oF,AJ h x l xs _ (fun e=>hx (List.mem_cons_of_mem _ e)),Gc,if_neg (fun e=>hx (by rw[e];exact List.mem_cons_self ..))]
theorem xW(h:Int):∀(l:List db) (xs:List fx) (a:At),l.Nodup→∀(k:Nat) (hk:k < l.length) (hk2:k < xs.length),cS cJ l[k] (qV h l xs a)=some (xs[k],(h,()))
 |[],_,_,_,k,hk,_=>by simp at hk
 |_::_,[],_,_,k,_,hk=>by simp at hk
 |o::l,y::xs,a,hn,k,hk,hk2=>by
  rw[List.nodup_cons]at hn
  rw[oF]
  cases k with
  |zero=>
   show cS cJ o _=some (y,(h,()))
   rw[AJ h o l xs _ hn.1,Gc,if_pos rfl]
  |succ k=>
   simp only[List.getElem_cons_succ]
   exact xW h l xs _ hn.2 k (by simpa using hk) (by simpa using hk2)
def kW(a:At)(l:List db):Int:=(l.map fun o=>((cS cJ o a).getD vY).1.1).sum
theorem xL:∀(l:List db) {a:At},(ig a).Nodup→l.Nodup→(∀o∈l,(cS cJ o a).isSome=true)→gW (mn l a)=gW a - kW a l∧(mn l a).length+l.length=a.length
 |[],a,_,_,_=>by simp[mn,kW]
 |o::l,a,hn,hl,ht=>by
  rw[List.nodup_cons]at hl
  obtain⟨c,hc⟩:=Option.isSome_iff_exists.1 (ht o (List.mem_cons_self ..))
  have hg:∀x∈l,cS cJ x (gD cJ o a)=cS cJ x a:=fun x hx=>by
   rw[Ez x o hn,if_neg (fun e=>hl.1 (by rw[←e];exact hx))]
  obtain⟨h1,h2⟩:=xL l (lO (o:=o) hn) hl.2 fun x hx=>by rw[hg x hx];exact ht x (List.mem_cons_of_mem _ hx)
  have hp:=Am hn hc
  have h3:=qW hp
  have h4:=hp.length_eq
  have h5:kW (gD cJ o a) l=kW a l:=by
   unfold kW
   congr 1
   exact List.map_congr_left fun x hx=>by rw[hg x hx]
  rw[gK]at h3
  rw[List.length_cons]at h4
  rw[ra,h1,h5,List.length_cons]
  have h6:kW a (o::l)=c.1.1+kW a l:=by simp[kW,hc]
  rw[h6]
  exact⟨by have h3:gW a=c.1.1+gW (gD cJ o a):=h3;omega,by omega⟩
theorem oq(x:fx)(xs:List fx):gQ (x::xs)=x.1+gQ xs:=by simp[gQ]
theorem xr(h:Int):∀(l:List db) (xs:List fx) {a:At},(ig a).Nodup→l.Nodup→l.length=xs.length→(∀o∈l,cS cJ o a=none)→gW (qV h l xs a)=gW a+gQ xs∧(qV h l xs a).length=a.length+l.length
 |[],[],a,_,_,_,_=>by simp[qV,gQ]
 |[],_::_,_,_,_,he,_=>by simp at he
 |_::_,[],_,_,_,he,_=>by simp at he
 |o::l,x::xs,a,hn,hl,he,ht=>by
  rw[List.nodup_cons]at hl
  have h0:=(get_none gr hn).1 (ht o (List.mem_cons_self ..))
  have e:fO cJ o (x,(h,())) a=a++ [(o,(x,(h,())))]:=mf gr h0
  obtain⟨h1,h2⟩:=xr h l xs (tt (o:=o) (v:=(x,(h,()))) hn) hl.2 (by simpa using he) fun y hy=>by
   rw[Gc,if_neg (fun e=>hl.1 (by rw[←e];exact hy))];exact ht y (List.mem_cons_of_mem _ hy)
  rw[oF,h1,h2,e,xv,oq,List.length_append]
  simp only[gW,List.map_cons,List.map_nil,List.sum_cons,List.sum_nil,List.length_cons,List.length_nil]
  omega
theorem tF:∀(l:List fU) (m:List (db×Bool)),qe m l=true→(l.map (·.1)).Nodup∧∀x∈l,cS cJ x.1 m≠some true
 |[],_,_=>⟨List.nodup_nil,fun _ h=>by cases h⟩
 |x::l,m,h=>by
  rw[qe,Bool.and_eq_true,Bool.and_eq_true]at h
  obtain⟨⟨h1,_⟩,h2⟩:=h
  obtain⟨h3,h4⟩:=tF l _ h2
  have hs:∀y∈l,cS cJ y.1 (fO cJ x.1 true m)≠some true:=h4
  have hne:∀y∈l,y.1≠x.1:=fun y hy e=>hs y hy (by rw[sI gr,if_pos ((pW _ _).2 e)])
  refine⟨?_,fun y hy=> ?_⟩
  ·rw[List.map_cons,List.nodup_cons]
   refine⟨fun hm=> ?_,h3⟩
   obtain⟨y,hy,e⟩:=List.mem_map.1 hm
   exact hne y hy e
  ·rcases List.mem_cons.1 hy with rfl | hy
   ·intro e
    unfold rT at h1
    rw[e]at h1
    cases h1
   ·have:=hs y hy
    rw[sI gr,if_neg (fun e=>hne y hy ((pW _ _).1 e))]at this
    exact this
theorem xc(t:eT):(ea t).Nodup:=by
 unfold ea
 split
 ·rename_i h
  exact(tF _ _ (iU h).2.1).1
 ·exact List.nodup_nil
theorem tR(t:eT):(fw t).Nodup:=by
 unfold fw
 split
 ·unfold nG
  refine List.Pairwise.map _ (fun a b hne e=> ?_) (List.nodup_range' (s:=0) (n:=t.2.1.length) (step:=1))
  have:(a:Int)=b:=congrArg (fun o:db=>o.2.1) e
  exact hne (by omega)
 ·exact List.nodup_nil
theorem tD{h:Int}{id:List Int}{a:At}:∀(l:List fU) (f0 f:Int),jd h id a l f0= .inr f→(∀o∈l.map (·.1),(cS cJ o a).isSome=true)∧f=f0+kW a (l.map (·.1))
 |[],f0,f,e=>by simp only[jd,Sum.inr.injEq]at e;subst e;simp[kW]
 |x::l,f0,f,e=>by
  simp only[jd]at e
  cases hg:cS cJ x.1 a with
  |none=>rw[hg]at e;cases e
  |some c=>
   rw[hg]at e
   simp only at e
   split at e
   ·cases e
   ·obtain⟨h1,h2⟩:=tD l _ _ e
    refine⟨fun o ho=> ?_,?_⟩
    ·rw[List.map_cons]at ho
     rcases List.mem_cons.1 ho with rfl | ho
     ·rw[hg];rfl
     ·exact h1 o ho
    ·rw[h2]
     simp only[kW,List.map_cons,List.sum_cons,hg,Option.getD_some]
     omega
structure jm(t:eT)(h:Int)(a:At)(ix:Int):Prop where
 ok:gv t=true
 h1:1≤h
 h2:h≤1048576
 ins:∃f,jd h (mD t) a t.1 0= .inr f∧ix=f - gQ t.2.1
 there:∀o∈ea t,(cS cJ o a).isSome=true
 made:∀o∈fw t,cS cJ o a=none
 Hj:ix=kW a (ea t) - gQ t.2.1
 pos:0≤ix
theorem wo{t:eT}{h:Int}{a:At}(e:(eM t h a).2=0):jm t h a (eM t h a).1:=by
 obtain⟨hok,h1,h2,f,hi,hm,hp,hc⟩:=vk e
 obtain⟨i1,i2⟩:=tD _ _ _ hi
 have hs:ea t=t.1.map (·.1):=by unfold ea;rw[if_pos hok]
 rw[hc]
 refine⟨hok,h1,h2,⟨f,hi,rfl⟩,by rw[hs];exact i1,fun o ho=> ?_,by rw[hs,i2];show 0+_ - _=_;omega,hp⟩
 have:=List.any_eq_false.1 hm o ho
 unfold km at this
 cases hg:cS cJ o a with
 |none=>rfl
 |some c=>rw[hg]at this;simp at this
section
variable {t:eT} {h ix:Int} {a:At}
theorem jm.FF(hc:jm t h a ix)(ha:(ig a).Nodup){o:db}(ho:o∈ea t):cS cJ o (gM t h a)=none:=by
 have hm:o ∉ fw t:=fun e=>by
  have:=hc.there o ho
  rw[hc.made o e]at this;cases this
 unfold gM
 rw[AJ h o _ _ _ hm,AK o _ ha,if_pos ho]
theorem jm.new(hc:jm t h a ix){k:Nat}(hk:k < (fw t).length)(hk2:k < t.2.1.length):cS cJ (fw t)[k] (gM t h a)=some (t.2.1[k],(h,())):=by
 unfold gM
 exact xW h _ _ _ (tR t) k hk hk2
theorem wh(ha:(ig a).Nodup){o:db}(h1:o ∉ ea t)(h2:o ∉ fw t):cS cJ o (gM t h a)=cS cJ o a:=by
 unfold gM
 rw[AJ h o _ _ _ h2,AK o _ ha,if_neg h1]
theorem pS(ha:(ig a).Nodup):(ig (gM t h a)).Nodup:=sW h _ _ (px _ ha)
theorem jm.sum(hc:jm t h a ix)(ha:(ig a).Nodup):gW (gM t h a)=gW a - ix∧(gM t h a).length+t.1.length=a.length+t.2.1.length:=by
 obtain⟨d1,d2⟩:=xL (ea t) ha (xc t) hc.there
 obtain⟨e1,e2⟩:=xr h (fw t) t.2.1 (px (ea t) ha) (tR t) (ka hc.ok) fun o ho=>by
  rw[AK o _ ha];split
  ·rfl
  ·exact hc.made o ho
 have hf:=hc.Hj
 have hl:=tE hc.ok
 have hm:=ka hc.ok
 unfold gM
 rw[e1,e2,d1]
 exact⟨by omega,by omega⟩
theorem jm.sr(hc:jm t h a ix)(ha:vd a)(hv:oE t):vd (gM t h a):=by
 refine⟨pS ha.1,fun p hp=> ?_⟩
 have hg:=(gO gr (pS (t:=t) (h:=h) ha.1) (x:=p.1) (v:=p.2)).2 hp
 by_cases h2:p.1∈fw t
 ·obtain⟨k,hk,e⟩:=List.getElem_of_mem h2
  have hk2:k < t.2.1.length:=by rw[←ka hc.ok];exact hk
  rw[←e,hc.new hk hk2]at hg
  have hg:=(Option.some.inj hg).symm
  have ho:=kb _ _ (iU hc.ok).2.2 _ (List.getElem_mem hk2)
  have hu:=hv.1.1 _ (List.getElem_mem hk2)
  have h1:=hc.h1
  have h3:=hc.h2
  refine⟨?_,?_⟩
  ·rw[←e]
   have hm:fw t=nG (mD t) 0 t.2.1.length:=by unfold fw;rw[if_pos hc.ok]
   simp only[hm,nG,List.getElem_map]
   have:=(Ao (t:=t))
   exact⟨this.1,fun x hx=>this.2 x hx⟩
  ·rw[hg]
   exact⟨ho.2,hu.1,ho.1.1,ho.1.2,by show 0≤h;omega,h3⟩
 ·by_cases h1:p.1∈ea t
  ·rw[hc.FF ha.1 h1]at hg;cases hg
  ·rw[wh ha.1 h1 h2]at hg
   exact ha.2 p ((gO gr ha.1).1 hg)
theorem jm.again(hc:jm t h a ix)(ha:(ig a).Nodup)(h':Int)(h1:1≤h')(h2:h'≤1048576):eM t h' (gM t h a)=(0,5):=by
 unfold eM
 rw[if_pos ⟨hc.ok,h1,h2⟩]
 have hl:=(iU hc.ok).1.1
 have hs:ea t=t.1.map (·.1):=by unfold ea;rw[if_pos hc.ok]
 cases ht:t.1 with
 |nil=>rw[ht]at hl;simp at hl
 |cons x l=>
  have hg:=hc.FF ha (o:=x.1) (by rw[hs,ht];simp)
  simp only[jd,hg]
end
end Go.Ab
namespace Go.Ab
open Go.Proofs
set_option maxRecDepth 100000
set_option linter.unusedVariables false
set_option linter.unusedSimpArgs false
set_option synthInstance.maxSize 5000
theorem Ej(k:Int):iZ (eZ k):=(yN _ _).u
def mT:List Int:=[152,45,158,62,185,150,245,89,230,51,244,209,148,222,243,118,29,144,159,90,59,100,125,26,133,31,234,214,124,50,201,209]
theorem s3:ij 3 mT=(2066670005889522986,1913675330412042729,()):=by decide+kernel
set_option synthInstance.maxSize 5000
theorem u0:iZ 0:=⟨Int.le_refl 0,by decide⟩
theorem zM{x:Int}{l:List Int}(h:iZ x)(hl:nB l):nB (x::l):=fun p hp=>by
 rcases List.mem_cons.1 hp with rfl | hp
 ·exact h
 ·exact hl p hp
theorem BM:nB []:=fun p hp=>by cases hp
theorem EM{ks:List Int}(h:nB ks):Ck (Bj ks):=fun b hb=>by
 have hb:b∈ [(ks,(0:Int),(0:Int),(0:Int),())]:=hb
 rw[List.mem_singleton]at hb
 subst hb
 exact⟨h,u0⟩
theorem HT:sw 0=true:=rfl
theorem El(ks:List Int)(a d:Int)(h:ks.length≤12):oV (ks,a,d,0,())=(ks.all mu && (sw a && sw d)):=by
 have e:oV (ks,a,d,0,())=(decide (ks.length≤12) && (ks.all mu && (sw a && (sw d && true)))):=rfl
 rw[e,aY h,Bool.true_and,Bool.and_true]
theorem Dc(ks:List Int)(h:ks.length≤12):jE (Bj ks)=ks.all mu:=by
 have e:jE (Bj ks)=((oV (ks,0,0,0,()) && true) && true):=rfl
 rw[e,El _ _ _ h,HT,Bool.and_true,Bool.and_true,Bool.and_true,Bool.and_true]
def Dv(b:iw)(sg:List Sg)(s:Int)(m:List Int)(height age:Int):Int:=
 if height < b.2.1∨age < b.2.2.1 then 11
 else if b.2.2.2.1≠0∧eZ s≠b.2.2.2.1 then 23
 else if sg.length≠b.1.length then 7
 else if kX m b.1 sg then 0 else 7
theorem EY{l:Lk}{i:Nat}{b:iw}(hok:jE l=true)(hi:i < l.1.length)(hb:l.1[i]=b)(sg:List Sg)(s:Int)(m:List Int)(h a:Int):jP l ((i:Int),sg,s,()) m h a=Dv b sg s m h a:=by
 have n1:nth (.pair (.slice (.int .u64)) (.pair (.int .i64) (.pair (.int .i64) (.pair (.int .u64) .unit)))) l.1 i=l.1[i]:=cG (t:=(.pair (.slice (.int .u64)) (.pair (.int .i64) (.pair (.int .i64) (.pair (.int .u64) .unit))))) hi
 unfold jP
 rw[if_neg (by
  intro hh
  rcases hh with hh | hh | hh
  ·rw[hok]at hh;cases hh
  ·have hh:(i:Int) < 0:=hh
   omega
  ·have hh:(i:Int)≥l.1.length:=hh
   omega)]
 show(if h < (nth (.pair (.slice (.int .u64)) (.pair (.int .i64) (.pair (.int .i64) (.pair (.int .u64) .unit)))) l.1 i).2.1∨a < (nth (.pair (.slice (.int .u64)) (.pair (.int .i64) (.pair (.int .i64) (.pair (.int .u64) .unit)))) l.1 i).2.2.1 then 11 else if(nth (.pair (.slice (.int .u64)) (.pair (.int .i64) (.pair (.int .i64) (.pair (.int .u64) .unit)))) l.1 i).2.2.2.1≠0∧eZ s≠(nth (.pair (.slice (.int .u64)) (.pair (.int .i64) (.pair (.int .i64) (.pair (.int .u64) .unit)))) l.1 i).2.2.2.1 then 23 else if sg.length≠(nth (.pair (.slice (.int .u64)) (.pair (.int .i64) (.pair (.int .i64) (.pair (.int .u64) .unit)))) l.1 i).1.length then 7 else if kX m (nth (.pair (.slice (.int .u64)) (.pair (.int .i64) (.pair (.int .i64) (.pair (.int .u64) .unit)))) l.1 i).1 sg then 0 else 7)=_
 rw[n1,hb]
 rfl
theorem uG(m:List Int):∀ks:List Int,(∀k∈ks,0 < k∧k < 2305843009213688669)→kX m (ks.map eZ) (ks.map fun k=>ij k m)=true
 |[],_=>rfl
 |k::ks,h=>by
  have hk:=h k List.mem_cons_self
  show(lK (eZ k) m 1 (ij k m) && kX m (ks.map eZ) (ks.map fun k=>ij k m))=true
  rw[E8 k m hk.1 hk.2,uG m ks fun x hx=>h x (List.mem_cons_of_mem _ hx)]
  rfl
theorem wZ(ks:List Int)(hk:∀k∈ks,0 < k∧k < 2305843009213688669)(af dl sc s:Int)(m:List Int)(h a:Int)(hs:sc=0∨eZ s=sc):
  Dv (ks.map eZ,af,dl,sc,()) (ks.map fun k=>ij k m) s m h a=if h < af∨a < dl then 11 else 0:=by
 have e:Dv (ks.map eZ,af,dl,sc,()) (ks.map fun k=>ij k m) s m h a=if h < af∨a < dl then 11 else if sc≠0∧eZ s≠sc then 23 else if(ks.map fun k=>ij k m).length≠(ks.map eZ).length then 7 else if kX m (ks.map eZ) (ks.map fun k=>ij k m) then 0 else 7:=rfl
 rw[e,uG m ks hk,if_neg (c:=sc≠0∧eZ s≠sc) (by rintro⟨h1,h2⟩;exact hs.elim h1 h2),if_neg (c:=(ks.map fun k=>ij k m).length≠(ks.map eZ).length) (by rw[List.length_map,List.length_map];exact fun x=>x rfl)]
 rfl
theorem HA{k:Int}(h:0 < k∧k < 2305843009213688669):∀x∈ [k],0 < x∧x < 2305843009213688669:=fun x hx=>by rw[List.mem_singleton]at hx;subst hx;exact h
set_option synthInstance.maxSize 5000
def z32:List Int:=List.replicate 32 0
def uK:Lk:=Bj [eZ 7]
def uL:eT:=([((z32,((0:Int),())),(((0:Int),(([]:List Sg),((0:Int),()))),()))],([((90:Int),(uK,()))],((0:Int),())))
def mC:eT:=sB uL (Int.toNat 0) (va uL 0 [7] 0)
def kj:At:=[rP 0 ((100:Int),(uK,()))]
theorem GD:oA uL 0 0 [7]=true:=by decide+kernel
theorem Ih:¬mD uL=z32:=by decide+kernel
theorem b7:iZ (eZ 7):=Ej 7
theorem Gg:Ck uK:=EM (zM b7 BM)
theorem Df:jE uK=true:=by
 unfold uK
 rw[Dc [eZ 7] (by decide)]
 simp only[List.all_cons,List.all_nil,tG,Bool.and_true]
theorem IV:oE uL:=by
 refine⟨⟨fun o ho=> ?_,by decide,by decide⟩,fun x hx=> ?_,by decide⟩
 ·have ho:o∈ [((90:Int),(uK,()))]:=ho
  rw[List.mem_singleton]at ho
  subst ho
  exact⟨Gg,by show 1≤_;decide⟩
 ·have hx:x∈ [((z32,((0:Int),())),(((0:Int),(([]:List Sg),((0:Int),()))),()))]:=hx
  rw[List.mem_singleton]at hx
  subst hx
  refine⟨⟨by show z32.length=32;unfold z32;rw[List.length_replicate],fun y hy=> ?_⟩,⟨fun s hs=>(by cases hs),by show(0:Int)≤0;decide,by show(0:Int) < 18446744073709551616;decide⟩,Nat.zero_le _⟩
  have hy:y∈List.replicate 32 (0:Int):=hy
  obtain rfl:=(List.mem_replicate.1 hy).2
  exact⟨by decide,by decide⟩
theorem HK:iZ 0:=⟨by decide,by decide⟩
theorem o3:gv mC=true∧oE mC∧mD mC=mD uL∧ea mC=ea uL∧fw mC=fw uL:=DN IV GD HK
theorem Hz:gv uL=true:=(uj GD).1
theorem HI:ea mC=[(z32,((0:Int),()))]:=by
 rw[o3.2.2.2.1]
 unfold ea
 rw[if_pos Hz]
 rfl
theorem Gj:fw mC=[(mD uL,((0:Int),()))]:=by
 rw[o3.2.2.2.2]
 unfold fw
 rw[if_pos Hz]
 rfl
theorem Ie:mC.1=[((z32,((0:Int),())),(((((0:Nat):Int),([7].map (fun k=>ij k (mD uL)),((0:Int),())))),()))]:=rfl
theorem Ii(m:List Int)(h a:Int)(hh:0≤h)(ha:0≤a):jP uK (((0:Nat):Int),([7].map (fun k=>ij k m),((0:Int),()))) m h a=0:=by
 have s1:=wZ [7] (HA (k:=7) (by decide)) 0 0 0 0 m h a (.inl rfl)
 rw[if_neg (by omega)]at s1
 exact(EY (l:=uK) (i:=0) (b:=([7].map eZ,0,0,0,())) Df (by show 0 < 1;decide) rfl _ _ _ _ _).trans s1
theorem g14:cS cJ (z32,((0:Int),())) kj=some (((100:Int),(uK,())),((0:Int),())):=by
 unfold kj rP
 rw[fM]
 exact if_pos ((pW _ _).2 rfl)
theorem n14(m:List Int)(hm:¬m=z32):cS cJ (m,((0:Int),())) kj=none:=by
 unfold kj rP
 rw[fM,if_neg,oO]
 intro e
 have:=(pW _ _).1 e
 exact hm (congrArg (fun o:db=>o.1) this)
theorem C4{h:Int}{m:List Int}{a:At}{x:fU}{c:eX}{f:Int}(hg:cS cJ x.1 a=some c)(ho:jP c.1.2.1 x.2.1 m h (h - c.2.1)=0)(hf:c.1.1=f):jd h m a [x] 0= .inr f:=by
 subst hf
 simp only[jd,hg,ho,ne_eq,not_true_eq_false,if_false,Int.zero_add]
theorem xM{o:db}{c:eX}:mn [o] [(o,c)]=[]:=by
 show gD cJ o [(o,c)]=[]
 rw[nh]
 exact if_pos ((pW _ _).2 rfl)
theorem BF{o:db}{c:eX}{a:At}(hg:cS cJ o a=some c):nF a [o]=[(o,(c,()))]:=by
 simp only[nF,hg,Option.getD_some]
theorem EA{o:db}{c:eX}:cS cJ o [(o,c)]=some c:=by
 rw[fM]
 exact if_pos ((pW _ _).2 rfl)
theorem Eo(h:Int)(h1:1≤h)(h2:h≤1048576):eM mC h kj=(10,0):=by
 have hne:=Ih
 have hmd:=Gj
 have hin:=Ie
 have hid:=o3.2.2.1
 generalize mD uL=m at hne hmd hin hid
 unfold eM
 rw[if_pos ⟨o3.1,h1,h2⟩,hin,hid]
 have e:jd h m kj [((z32,((0:Int),())),(((((0:Nat):Int),([7].map (fun k=>ij k m),((0:Int),())))),()))] 0= .inr 100:=by
  simp only[jd,g14]
  exact C4 (x:=((z32,((0:Int),())),(((((0:Nat):Int),([7].map (fun k=>ij k m),((0:Int),())))),()))) (c:=(((100:Int),(uK,())),((0:Int),()))) g14 (Ii m h (h - 0) (by omega) (by omega)) rfl
 rw[e,hmd]
 have n1:([(m,((0:Int),()))]:List db).any (km kj)=false:=by
  simp only[List.any_cons,List.any_nil,km,n14 m hne,Option.isSome_none,Bool.or_false]
 simp only[n1,Bool.false_eq_true,if_false]
 rfl
def uI(h:Int):At:=[((mD uL,((0:Int),())),(((90:Int),(uK,())),(h,())))]
theorem FK(h:Int):gM mC h kj=uI h:=by
 unfold gM uI
 rw[HI,Gj]
 generalize mD uL=m
 have e:mn [(z32,((0:Int),()))] kj=[]:=by
  exact xM
 rw[e]
 rfl
theorem GJ:stepOf mC kj=([((z32,((0:Int),())),((((100:Int),(uK,())),((0:Int),())),()))],([(mD uL,((0:Int),()))],())):=by
 unfold stepOf
 rw[HI,Gj]
 rw[BF g14]
theorem IE(h:Int):Bc (uI h) (stepOf mC kj)=kj:=by
 rw[GJ]
 unfold Bc uI
 generalize mD uL=m
 have e:mn [(m,((0:Int),()))] [((m,((0:Int),())),(((90:Int),(uK,())),(h,())))]=[]:=by
  exact xM
 rw[e]
 rfl
theorem Ic(h:Int):cS cJ (mD uL,((0:Int),())) (uI h)=some (((90:Int),(uK,())),(h,())):=by
 unfold uI
 generalize mD uL=m
 exact EA
theorem zj:vd kj:=by
 refine⟨by decide,fun p hp=> ?_⟩
 have hp:p∈ [rP 0 ((100:Int),(uK,()))]:=hp
 rw[List.mem_singleton]at hp
 subst hp
 refine⟨⟨by show(List.replicate 32 (0:Int)).length=32;rw[List.length_replicate],fun x hx=> ?_⟩,Df,Gg,by show(0:Int)≤100;decide,by show(100:Int)≤_;decide,by show(0:Int)≤0;decide,by show(0:Int)≤_;decide⟩
 have hx:x∈List.replicate 32 (0:Int):=hx
 obtain rfl:=(List.mem_replicate.1 hx).2
 exact⟨by decide,by decide⟩
theorem Hd(h:Int)(h1:1≤h)(h2:h≤1048576):jm mC h kj 10:=by
 have:=wo (t:=mC) (h:=h) (a:=kj) (by rw[Eo h h1 h2])
 rw[Eo h h1 h2]at this
 exact this
theorem H8(h:Int)(h1:1≤h)(h2:h≤1048576):vd (uI h):=by
 rw[←FK];exact(Hd h h1 h2).sr zj o3.2.1
theorem Hx:bo.call [((100:Int),(uK,()))]=some (.inr (kj,[])):=by
 rw[bo.run (d:=[((100:Int),(uK,()))]) (fun o ho=>by
  rw[List.mem_singleton]at ho
  subst ho
  exact⟨Gg,by show 1≤_;decide,by show(100:Int)≤_;decide⟩)]
 have e:wU [((100:Int),(uK,()))]=some kj:=by
  unfold wU
  rw[if_pos (by decide)]
  have e0:nj 0 ((100:Int),(uK,()))=true:=by
   unfold nj
   rw[Df]
   rfl
  simp only[sy,e0,Option.map_some]
  rfl
 simp only[bo.add,bo.F,e]
theorem GA:bC.call (uL,0,0,[7],0)=some (mC,0):=by
 rw[bC.run (d:=(uL,0,0,[7],0)) ⟨IV,fun x hx=>by rw[List.mem_singleton]at hx;subst hx;exact⟨by decide,by decide⟩,by decide⟩]
 simp only[bC.add,bC.F,DM,GD,if_true]
 rfl
def G4:eT:=(([]:List fU),(([]:List fx),((0:Int),())))
theorem Ia:oE G4:=⟨⟨fun o ho=>(by cases ho),by decide,by decide⟩,fun x hx=>(by cases hx),by decide⟩
theorem H9(h:Int)(a:At):eM G4 h a=(0,1):=by
 have:gv G4=false:=by decide+kernel
 unfold eM
 rw[if_neg (fun e=>by rw[this]at e;cases e.1)]
abbrev ba.D:=Unit
def ba.st:ba.D→SA:=fun _=>([],[])
abbrev ba.Y:=Bool
abbrev ba.X:=Bool
def ba.out:ba.X→bg:=fun x=>⟨.d .bool x,[],[]⟩
def ba.add:ba.D→ba.Y→ba.X:=fun _ y=>y
def ba.aB:ba.D→Prop:=fun _=>True
def ba.F:ba.D→ba.Y:=fun _=>true
noncomputable def ba.G:dY:=fg (P:=Tryz.prog) [dv.sg,fI.sg,bo.sg,bC.sg,aA.sg,aN.sg,tid.sg,dI.sg,bB.sg,aP.sg,bG.sg]
noncomputable def ba.an:eI:= {}
noncomputable def ba.A:= @cY Tryz.prog ba.G ba.an 0 Tryz.f25 _ ba.st
abbrev ba.Ok:=cZ @ba.A ba.aB ba.add ba.F ba.out
theorem ba.eq{R:Type}(k:bg→Option R):ba.A () k=
  al (dv.call (7:Int)) fun x7=>
  al (fI.call x7) fun x8=>
  al (bo.call [((100:Int),(x8,()))]) fun x12=>
  aK (x12.isLeft) (
   al (x12.getLeft?) fun x12l=>
   k (ba.out false)) (
   al (x12.getRight?) fun x12r=>
   al (bC.call (([(((List.replicate 32 (0:Int)),((0:Int),())),(((0:Int),(([]:List Sg),((0:Int),()))),()))],([((90:Int),(x8,()))],((0:Int),()))),(0:Int),(0:Int),[(7:Int)],(0:Int))) fun x16=>
   al (aA.call (x16.1,(1:Int),0,x12r.1,x12r.2)) fun x20=>
   al (aA.call ((([]:List fU),(([]:List fx),((0:Int),()))),(1:Int),x20.2.2.1,x20.2.2.2.1,x20.2.2.2.2)) fun x24=>
   al (aN.call (x16.1,(5:Int),x24.2.2.1,x24.2.2.2.1,x24.2.2.2.2)) fun x25=>
   aK (x25.isLeft) (
    al (x25.getLeft?) fun x25l=>
    al (tid.call x16.1) fun x32=>
    al (dI.call ((x32,((0:Int),())),x25l.2.1,x25l.2.2.1,x25l.2.2.2)) fun x33=>
    al (aN.call (x16.1,(5:Int),x33.1.1,x33.1.2.1,x33.1.2.2)) fun x34=>
    aK (x34.isLeft) (
     al (x34.getLeft?) fun x34l=>
     al (bB.call (x34l.2.1,x34l.2.2.1,x34l.2.2.2)) fun x38=>
     aK ((jy x16.2 (0:Int))) (
      aK ((jy x20.2.1 (0:Int))) (
       aK ((jy x20.1 (10:Int))) (
        aK ((jy x24.2.1 (1:Int))) (
         aK ((jy x25l.1 (0:Int))) (
          aK (x33.2.2) (
           aK ((jy x33.2.1.2.1 (5:Int))) (
            aK ((jy x33.2.1.1.1 (90:Int))) (
             aK ((jy x34l.1 (5:Int))) (
              aK ((jy x38.1 (90:Int))) (
               al (aP.call (x38.2.1,x38.2.2.1,x38.2.2.2)) fun x43=>
               aK (x43.1) (
                al (bB.call (x43.2.1,x43.2.2.1,x43.2.2.2)) fun x44=>
                aK ((jy x44.1 (100:Int))) (
                 al (aP.call (x44.2.1,x44.2.2.1,x44.2.2.2)) fun x45=>
                 aK ((!x45.1)) (
                  al (bG.call (x45.2.1,x45.2.2.1,x45.2.2.2)) fun x46=>
                  k (ba.out (jy ((x46.1:Nat):Int) (1:Int)))) (
                  k (ba.out false))) (
                 k (ba.out false))) (
                k (ba.out false))) (
               k (ba.out false))) (
              k (ba.out false))) (
             k (ba.out false))) (
            k (ba.out false))) (
           k (ba.out false))) (
          k (ba.out false))) (
         k (ba.out false))) (
        k (ba.out false))) (
       k (ba.out false))) (
      k (ba.out false))) (
     al (x34.getRight?) fun x34r=>
     al (bB.call (x34r.2.1,x34r.2.2.1,x34r.2.2.2)) fun x50=>
     aK ((jy x16.2 (0:Int))) (
      aK ((jy x20.2.1 (0:Int))) (
       aK ((jy x20.1 (10:Int))) (
        aK ((jy x24.2.1 (1:Int))) (
         aK ((jy x25l.1 (0:Int))) (
          aK (x33.2.2) (
           aK ((jy x33.2.1.2.1 (5:Int))) (
            aK ((jy x33.2.1.1.1 (90:Int))) (
             aK ((jy x34r.1 (5:Int))) (
              aK ((jy x50.1 (90:Int))) (
               al (aP.call (x50.2.1,x50.2.2.1,x50.2.2.2)) fun x55=>
               aK (x55.1) (
                al (bB.call (x55.2.1,x55.2.2.1,x55.2.2.2)) fun x56=>
                aK ((jy x56.1 (100:Int))) (
                 al (aP.call (x56.2.1,x56.2.2.1,x56.2.2.2)) fun x57=>
                 aK ((!x57.1)) (
                  al (bG.call (x57.2.1,x57.2.2.1,x57.2.2.2)) fun x58=>
                  k (ba.out (jy ((x58.1:Nat):Int) (1:Int)))) (
                  k (ba.out false))) (
                 k (ba.out false))) (
                k (ba.out false))) (
               k (ba.out false))) (
              k (ba.out false))) (
             k (ba.out false))) (
            k (ba.out false))) (
           k (ba.out false))) (
          k (ba.out false))) (
         k (ba.out false))) (
        k (ba.out false))) (
       k (ba.out false))) (
      k (ba.out false)))) (
    al (x25.getRight?) fun x25r=>
    al (tid.call x16.1) fun x65=>
    al (dI.call ((x65,((0:Int),())),x25r.2.1,x25r.2.2.1,x25r.2.2.2)) fun x66=>
    al (aN.call (x16.1,(5:Int),x66.1.1,x66.1.2.1,x66.1.2.2)) fun x67=>
    aK (x67.isLeft) (
     al (x67.getLeft?) fun x67l=>
     al (bB.call (x67l.2.1,x67l.2.2.1,x67l.2.2.2)) fun x71=>
     aK ((jy x16.2 (0:Int))) (
      aK ((jy x20.2.1 (0:Int))) (
       aK ((jy x20.1 (10:Int))) (
        aK ((jy x24.2.1 (1:Int))) (
         aK ((jy x25r.1 (0:Int))) (
          aK (x66.2.2) (
           aK ((jy x66.2.1.2.1 (5:Int))) (
            aK ((jy x66.2.1.1.1 (90:Int))) (
             aK ((jy x67l.1 (5:Int))) (
              aK ((jy x71.1 (90:Int))) (
               al (aP.call (x71.2.1,x71.2.2.1,x71.2.2.2)) fun x76=>
               aK (x76.1) (
                al (bB.call (x76.2.1,x76.2.2.1,x76.2.2.2)) fun x77=>
                aK ((jy x77.1 (100:Int))) (
                 al (aP.call (x77.2.1,x77.2.2.1,x77.2.2.2)) fun x78=>
                 aK ((!x78.1)) (
                  al (bG.call (x78.2.1,x78.2.2.1,x78.2.2.2)) fun x79=>
                  k (ba.out (jy ((x79.1:Nat):Int) (1:Int)))) (
                  k (ba.out false))) (
                 k (ba.out false))) (
                k (ba.out false))) (
               k (ba.out false))) (
              k (ba.out false))) (
             k (ba.out false))) (
            k (ba.out false))) (
           k (ba.out false))) (
          k (ba.out false))) (
         k (ba.out false))) (
        k (ba.out false))) (
       k (ba.out false))) (
      k (ba.out false))) (
     al (x67.getRight?) fun x67r=>
     al (bB.call (x67r.2.1,x67r.2.2.1,x67r.2.2.2)) fun x83=>
     aK ((jy x16.2 (0:Int))) (
      aK ((jy x20.2.1 (0:Int))) (
       aK ((jy x20.1 (10:Int))) (
        aK ((jy x24.2.1 (1:Int))) (
         aK ((jy x25r.1 (0:Int))) (
          aK (x66.2.2) (
           aK ((jy x66.2.1.2.1 (5:Int))) (
            aK ((jy x66.2.1.1.1 (90:Int))) (
             aK ((jy x67r.1 (5:Int))) (
              aK ((jy x83.1 (90:Int))) (
               al (aP.call (x83.2.1,x83.2.2.1,x83.2.2.2)) fun x88=>
               aK (x88.1) (
                al (bB.call (x88.2.1,x88.2.2.1,x88.2.2.2)) fun x89=>
                aK ((jy x89.1 (100:Int))) (
                 al (aP.call (x89.2.1,x89.2.2.1,x89.2.2.2)) fun x90=>
                 aK ((!x90.1)) (
                  al (bG.call (x90.2.1,x90.2.2.1,x90.2.2.2)) fun x91=>
                  k (ba.out (jy ((x91.1:Nat):Int) (1:Int)))) (
                  k (ba.out false))) (
                 k (ba.out false))) (
                k (ba.out false))) (
               k (ba.out false))) (
              k (ba.out false))) (
             k (ba.out false))) (
            k (ba.out false))) (
           k (ba.out false))) (
          k (ba.out false))) (
         k (ba.out false))) (
        k (ba.out false))) (
       k (ba.out false))) (
      k (ba.out false))))):=by kernel_rfl
theorem Cw:gW kj=100:=rfl
theorem Cx(h:Int):gW (uI h)=90:=by
 unfold uI gW
 simp
theorem ba.ok:ba.Ok:=by
 rintro⟨⟩ _
 have c1:dv.call 7=some (eZ 7):=dv.run (d:=7) ⟨by decide,by decide⟩
 have c2:fI.call (eZ 7)=some uK:=fI.run (d:=eZ 7) trivial
 have c3:=Hx
 have c4:=GA
 have c5:aA.call (mC,1,0,kj,[])=some (10,0,0,kj,[]):=by
  rw[aA.run (d:=(mC,1,0,kj,[])) ⟨o3.2.1,zj⟩]
  simp only[aA.add,aA.F,Eo 1 (by decide) (by decide)]
 have c6:aA.call (G4,1,0,kj,[])=some (0,1,0,kj,[]):=by
  rw[aA.run (d:=(G4,1,0,kj,[])) ⟨Ia,zj⟩]
  simp only[aA.add,aA.F,H9]
 have c7:aN.call (mC,5,0,kj,[])=some (.inr (0,1,uI 5,[stepOf mC kj])):=by
  rw[aN.run (d:=(mC,5,0,kj,[])) ⟨o3.2.1,zj,Nat.zero_le _,Nat.zero_le _⟩]
  simp only[aN.add,aN.F,Eo 5 (by decide) (by decide),FK]
  rfl
 obtain⟨m,hm⟩:∃m,mD uL=m:=⟨_,rfl⟩
 have c8:tid.call mC=some m:=by
  rw[tid.run (d:=mC) o3.2.1]
  simp only[tid.add,tid.F,o3.2.2.1,hm]
 have hbg:=H8 5 (by decide) (by decide)
 have c9:dI.call ((m,((0:Int),())),1,uI 5,[stepOf mC kj])=some ((1,uI 5,[stepOf mC kj]),((((90:Int),(uK,())),((5:Int),())),true)):=by
  rw[dI.run (d:=((m,((0:Int),())),1,uI 5,[stepOf mC kj])) hbg]
  have g:=Ic 5
  rw[hm]at g
  exact congrArg some (congrArg (fun z=>((1,uI 5,[stepOf mC kj]),z)) (congrArg (fun z:Option eX=>(z.getD vY,z.isSome)) g))
 have c10:aN.call (mC,5,1,uI 5,[stepOf mC kj])=some (.inl (5,1,uI 5,[stepOf mC kj])):=by
  rw[aN.run (d:=(mC,5,1,uI 5,[stepOf mC kj])) ⟨o3.2.1,hbg,Nat.le_refl _,by show 1≤_;decide⟩]
  have e:=(Hd 5 (by decide) (by decide)).again zj.1 5 (by decide) (by decide)
  rw[FK]at e
  simp only[aN.add,aN.F,e]
  rfl
 have c11:∀n s,bB.call (n,uI 5,s)=some (90,n,uI 5,s):=fun n s=>by
  rw[bB.run (d:=(n,uI 5,s)) ⟨fun p hp=>(hbg.2 p hp).2.2.2.1,by rw[Cx];decide⟩]
  simp only[bB.add,bB.F,Cx]
 have c12:aP.call (1,uI 5,[stepOf mC kj])=some (true,0,kj,[stepOf mC kj]):=by
  rw[aP.run (d:=(1,uI 5,[stepOf mC kj])) ⟨Nat.le_refl _,by show 1≤_;decide,fun st hst=>by
   rw[List.mem_singleton]at hst
   subst hst
   rw[GJ]
   exact⟨by show 1≤_;decide,by show 1≤_;decide⟩⟩]
  have e:nth eO [stepOf mC kj] (1 - 1)=stepOf mC kj:=rfl
  simp only[aP.add,aP.F,e,IE]
  rfl
 have c13:∀n s,bB.call (n,kj,s)=some (100,n,kj,s):=fun n s=>by
  rw[bB.run (d:=(n,kj,s)) ⟨fun p hp=>(zj.2 p hp).2.2.2.1,by rw[Cw];decide⟩]
  simp only[bB.add,bB.F,Cw]
 have c14:aP.call (0,kj,[stepOf mC kj])=some (false,0,kj,[stepOf mC kj]):=by
  rw[aP.run (d:=(0,kj,[stepOf mC kj])) ⟨Nat.zero_le _,by show 1≤_;decide,fun st hst=>by
   rw[List.mem_singleton]at hst
   subst hst
   rw[GJ]
   exact⟨by show 1≤_;decide,by show 1≤_;decide⟩⟩]
  simp only[aP.add,aP.F,if_true]
 have c15:∃x,bG.call (0,kj,[stepOf mC kj])=some (1,x):=by
  refine⟨_,bG.run (d:=(0,kj,[stepOf mC kj])) ⟨by show 1≤_;decide,fun p hp=>(zj.2 p hp).1⟩⟩
 obtain⟨x15,c15⟩:=c15
 generalize hS:stepOf mC kj=S at c7 c9 c10 c12 c14 c15
 rw[ba.eq]
 refine(congrArg (fun z=>al z _) c1).trans ?_
 rw[ab,c2,ab]
 refine(congrArg (fun z=>al z _) c3).trans ?_
 rw[ab]
 simp only[Sum.isLeft_inr,ao,Sum.getRight?_inr,ab]
 refine(congrArg (fun z=>al z _) c4).trans ?_
 rw[ab]
 refine(congrArg (fun z=>al z _) c5).trans ?_
 rw[ab]
 refine(congrArg (fun z=>al z _) c6).trans ?_
 rw[ab]
 refine(congrArg (fun z=>al z _) c7).trans ?_
 rw[ab]
 simp only[Sum.isLeft_inr,ao,Sum.getRight?_inr,ab]
 refine(congrArg (fun z=>al z _) c8).trans ?_
 rw[ab]
 refine(congrArg (fun z=>al z _) c9).trans ?_
 rw[ab]
 refine(congrArg (fun z=>al z _) c10).trans ?_
 rw[ab]
 simp only[Sum.isLeft_inl,ai,Sum.getLeft?_inl,ab]
 refine(congrArg (fun z=>al z _) (c11 1 [S])).trans ?_
 rw[ab]
 repeat (first | rw[ai] | rw[ia rfl])
 refine(congrArg (fun z=>al z _) c12).trans ?_
 rw[ab,ai]
 refine(congrArg (fun z=>al z _) (c13 0 [S])).trans ?_
 rw[ab,ia rfl,ai]
 refine(congrArg (fun z=>al z _) c14).trans ?_
 rw[ab,Bool.not_false,ai]
 refine(congrArg (fun z=>al z _) c15).trans ?_
 rfl
noncomputable def ba.E:=Entry.cC [] ba.st ba.aB ba.add ba.F ba.out
noncomputable def ba.call:ba.D→Option ba.X:=bS ba.E ba.st
theorem ba.run:bM ba.call ba.aB ba.add ba.F:=dh (dd [] fun _=>by kernel_rfl)
noncomputable def ba.sg:SG Tryz.prog:=⟨25,aX,ba.E,.fn 0 (by kernel_rfl) ba.ok trivial⟩
set_option synthInstance.maxSize 5000
abbrev bA.L0.D:=(List fx)×(List ph)×Int
def bA.L0.st:bA.L0.D→AS:=fun(outs_2,acts_2,i)=>⟨([.d (.slice eP) outs_2,.d (.slice nv) acts_2,.undef,.undef,.undef,.d ti i]++bh 32 []),[],(List.replicate 38 [])⟩
abbrev bA.L0.Y0:=Unit
abbrev bA.L0.X0:=Unit
def bA.L0.bw:bA.L0.X0→Exit×AS:=fun x=>(.ret,⟨(bh 4 ([.d .bool false]++bh 33 [])),[],(List.replicate 38 [])⟩)
abbrev bA.L0.Y1:=Unit
abbrev bA.L0.X1:=(List fx)×(List ph)
def bA.L0.fq:bA.L0.X1→Exit×AS:=fun x=>(.exit 0,⟨([.d (.slice eP) x.1,.d (.slice nv) x.2]++bh 36 []),[],(List.replicate 38 [])⟩)
abbrev bA.L0.X:=(bA.L0.X0)⊕(bA.L0.X1)
abbrev bA.L0.Y:=(bA.L0.Y0)⊕(bA.L0.Y1)
def bA.L0.out:bA.L0.X→Out (Exit×AS):=fun x=> .br x.isLeft (.get x.getLeft? fun a=> .ok (bA.L0.bw a)) (.get x.getRight? fun b=> .ok (bA.L0.fq b))
def bA.L0.add:bA.L0.D→bA.L0.Y→bA.L0.X:=fun(outs_2,acts_2,i) y=>match y with | .inl y=> .inl y | .inr z=> .inr ((outs_2,acts_2))
abbrev bA.D:=(List fx)×(List ph)
def bA.st:bA.D→SA:=fun(outs,acts)=>([.d (.slice eP) outs,.d (.slice nv) acts],[])
abbrev bA.Y:=Bool
abbrev bA.X:=Bool
def bA.out:bA.X→bg:=fun x=>⟨.d .bool x,[],[]⟩
def bA.add:bA.D→bA.Y→bA.X:=fun(outs,acts) y=>y
def oZ(a:ph):Bool:=decide (a.2.1.1.length≤8) && decide (a.2.1.2.1.length≤8)
def BC(outs:List fx)(acts:List ph):Bool:=acts.all oZ && (decide (outs.length≤20) && decide (acts.length≤20))
def bA.L0.aB:bA.L0.D→Prop:=fun(outs,acts,i)=>acts.length≤9223372036854775807∧∃k:Nat,k≤acts.length∧i=k
def bA.L0.F:bA.L0.D→bA.L0.Y:=fun(_,acts,i)=>if(acts.drop i.toNat).all oZ then .inr () else .inl ()
def bA.aB:bA.D→Prop:=fun(outs,acts)=>acts.length≤9223372036854775807
def bA.F:bA.D→bA.Y:=fun(outs,acts)=>BC outs acts
noncomputable def bA.G:dY:=fg (P:=Tryz.prog) []
noncomputable def bA.L0.E:=bQ.cC bA.L0.st bA.L0.aB bA.L0.add bA.L0.F bA.L0.out
noncomputable def bA.L0.call:bA.L0.D→Option bA.L0.X:=dm bA.L0.E bA.L0.st
noncomputable def bA.an:eI:= {loops:=j4 [(2,{bm:=[0,1,5]})],outs:=j3 [(2,{bm:=[0,1]},{bm:=[4]})],fJ:=kT [(2,bA.L0.E)]}
noncomputable def bA.A:= @cY Tryz.prog bA.G bA.an 0 Tryz.f26 _ bA.st
abbrev bA.Ok:=cZ @bA.A bA.aB bA.add bA.F bA.out
noncomputable def bA.L0.R:= @bV Tryz.prog bA.G bA.an 0 Tryz.f26 0 _ bA.L0.st
abbrev bA.L0.Ok:=ez Tryz.prog bA.G bA.an 0 Tryz.f26 0 bA.L0.st bA.L0.aB bA.L0.add bA.L0.F bA.L0.out
theorem bA.L0.run:bM bA.L0.call bA.L0.aB bA.L0.add bA.L0.F:=eF (eD [.d (.slice eP),.d (.slice nv),.d ti] fun _=>by kernel_rfl)
theorem bA.L0.aD:kP @bA.L0.R bA.L0.st bA.L0.aB bA.L0.add bA.L0.F bA.L0.out bA.L0.Ok:=lp
theorem bA.L0.step{R:Type}(outs_2:(List fx))(acts_2:(List ph))(i:Int)(kn:AS→Option R)(kx:Exit→AS→Option R):bA.L0.R (outs_2,acts_2,i) kn kx=
  aK ((fZ i (((List.length acts_2):Nat):Int))) (
   aK (eH i (((List.length acts_2):Nat):Int)) (
   aK ((mJ (((List.length (nth nv acts_2 (Int.toNat i)).2.1.1):Nat):Int) (8:Int))) (
    kx (bA.L0.bw ()).1 (bA.L0.bw ()).2) (
    aK (eH i (((List.length acts_2):Nat):Int)) (
    aK ((mJ (((List.length (nth nv acts_2 (Int.toNat i)).2.1.2.1):Nat):Int) (8:Int))) (
     kx (bA.L0.bw ()).1 (bA.L0.bw ()).2) (
     kn (bA.L0.st (outs_2,acts_2,(bR .i64 i (1:Int)))))) none)) none) (
   kx (bA.L0.fq (outs_2,acts_2)).1 (bA.L0.fq (outs_2,acts_2)).2):=by kernel_rfl
theorem bA.eq{R:Type}(outs:(List fx))(acts:(List ph))(k:bg→Option R):bA.A (outs,acts) k=
  al (bA.L0.call (outs,acts,(0:Int))) fun x1=>
  aK (x1.isLeft) (
   al (x1.getLeft?) fun a2=>
   k (bA.out false)) (
   al (x1.getRight?) fun b3=>
   aK ((BI (((List.length b3.1):Nat):Int) (20:Int))) (
    k (bA.out (BI (((List.length b3.2):Nat):Int) (20:Int)))) (
    k (bA.out false))):=by kernel_rfl
theorem bA.L0.ok:bA.L0.Ok:=by
 refine bA.L0.aD (fun(_,acts,i)=>acts.length - i.toNat) ?_
 rintro⟨outs,acts,i⟩ ⟨hl,k,hk,rfl⟩
 have hl:acts.length≤9223372036854775807:=hl
 have hk:k≤acts.length:=hk
 by_cases h:k < acts.length
 ·have n1:nth nv acts k=acts[k]:=cG (t:=nv) h
  have hd:(acts.drop k).all oZ=(oZ acts[k] && (acts.drop (k+1)).all oZ):=by rw[List.drop_eq_getElem_cons h,List.all_cons]
  have step:∀ {R:Type} (kn:AS→Option R) (kx:Exit→AS→Option R),bA.L0.R (outs,acts,(k:Int)) kn kx=aK (oZ acts[k]) (kn (bA.L0.st (outs,acts,((k+1:Nat):Int)))) (kx (bA.L0.bw ()).1 (bA.L0.bw ()).2):=by
   intro R kn kx
   rw[bA.L0.step,bu (by omega),bz (by omega) (by omega),Int.toNat_natCast,n1,N.kO (by omega)]
   unfold oZ
   by_cases h1:acts[k].2.1.1.length≤8
   ·by_cases h2:acts[k].2.1.2.1.length≤8
    ·rw[cW (by omega),cW (by omega),aY h1,aY h2];rfl
    ·rw[cW (by omega),dx (by omega),aY h1,bq h2];rfl
   ·rw[dx (by omega),bq h1];rfl
  cases hp:oZ acts[k]
  ·right
   refine⟨bA.L0.bw (),?_,fun kn kx=> ?_⟩
   ·simp only[bA.L0.add,bA.L0.F,Int.toNat_natCast,hd,hp,Bool.false_and,Bool.false_eq_true,if_false]
    rfl
   ·rw[step,hp,ao]
  ·left
   refine⟨(outs,acts,((k+1:Nat):Int)),⟨hl,k+1,by omega,rfl⟩,by simp only[Int.toNat_natCast];omega,?_,fun kn kx=> ?_⟩
   ·simp only[bA.L0.add,bA.L0.F,Int.toNat_natCast,hd,hp,Bool.true_and]
   ·rw[step,hp,ai]
 ·right
  obtain rfl:k=acts.length:=by omega
  refine⟨bA.L0.fq (outs,acts),?_,fun kn kx=> ?_⟩
  ·simp only[bA.L0.add,bA.L0.F,Int.toNat_natCast,List.drop_length]
   rfl
  ·rw[bA.L0.step,bk (by omega),ao]
theorem bA.ok:bA.Ok:=by
 rintro⟨outs,acts⟩ hl
 rw[bA.eq,bA.L0.run (d:=(outs,acts,0)) ⟨hl,0,Nat.zero_le _,rfl⟩]
 simp only[ab,bA.L0.add,bA.L0.F,Int.toNat_zero,List.drop_zero,bA.add,bA.F,BC]
 cases acts.all oZ with
 |false=>simp only[Bool.false_eq_true,if_false,Sum.isLeft_inl,ai,Sum.getLeft?_inl,ab,Bool.false_and]
 |true=>
  simp only[if_true,Sum.isLeft_inr,ao,Sum.getRight?_inr,ab,Bool.true_and]
  by_cases h1:outs.length≤20
  ·rw[mK (by omega),ai,aY h1,Bool.true_and]
   by_cases h2:acts.length≤20
   ·rw[mK (by omega),aY h2]
   ·rw[j8 (by omega),bq h2]
  ·rw[j8 (by omega),ao,bq h1,Bool.false_and]
noncomputable def bA.E:=Entry.cC [some (.slice eP),some (.slice nv)] bA.st bA.aB bA.add bA.F bA.out
noncomputable def bA.call:bA.D→Option bA.X:=bS bA.E bA.st
theorem bA.run:bM bA.call bA.aB bA.add bA.F:=dh (dd [.d (.slice eP),.d (.slice nv)] fun _=>by kernel_rfl)
noncomputable def bA.sg:SG Tryz.prog:=⟨26,aX,bA.E,.fn 1 (by kernel_rfl) bA.ok (And.intro (.cC bA.L0.ok (by kernel_rfl)) trivial)⟩
abbrev cd.L0.D:=(List db)×(List db)×Int
def cd.L0.st:cd.L0.D→AS:=fun(a_2,b_2,i)=>⟨([.d (.slice cJ) a_2,.d (.slice cJ) b_2,.undef,.undef,.undef,.d ti i]++bh 20 []),[],(List.replicate 26 [])⟩
abbrev cd.L0.Y0:=Unit
abbrev cd.L0.X0:=Unit
def cd.L0.bw:cd.L0.X0→Exit×AS:=fun x=>(.ret,⟨(bh 4 ([.d .bool false]++bh 21 [])),[],(List.replicate 26 [])⟩)
abbrev cd.L0.Y1:=Unit
abbrev cd.L0.X1:=Unit
def cd.L0.fq:cd.L0.X1→Exit×AS:=fun x=>(.exit 0,⟨(bh 26 []),[],(List.replicate 26 [])⟩)
abbrev cd.L0.X:=(cd.L0.X0)⊕(cd.L0.X1)
abbrev cd.L0.Y:=(cd.L0.Y0)⊕(cd.L0.Y1)
def cd.L0.out:cd.L0.X→Out (Exit×AS):=fun x=> .br x.isLeft (.get x.getLeft? fun a=> .ok (cd.L0.bw a)) (.get x.getRight? fun b=> .ok (cd.L0.fq b))
def cd.L0.add:cd.L0.D→cd.L0.Y→cd.L0.X:=fun(a_2,b_2,i) y=>match y with | .inl y=> .inl y | .inr z=> .inr (z)
abbrev cd.D:=(List db)×(List db)
def cd.st:cd.D→SA:=fun(a,b)=>([.d (.slice cJ) a,.d (.slice cJ) b],[])
abbrev cd.Y:=Bool
abbrev cd.X:=Bool
def cd.out:cd.X→bg:=fun x=>⟨.d .bool x,[],[]⟩
def cd.add:cd.D→cd.Y→cd.X:=fun(a,b) y=>y
def cd.L0.aB:cd.L0.D→Prop:=fun(a,b,i)=>a.length≤1000000000∧a.length=b.length∧∃k:Nat,k≤a.length∧i=k
def cd.L0.F:cd.L0.D→cd.L0.Y:=fun(a,b,i)=>if List.drop (Int.toNat i) a=List.drop (Int.toNat i) b then .inr () else .inl ()
def cd.aB:cd.D→Prop:=fun(a,_)=>a.length≤1000000000
def cd.F:cd.D→cd.Y:=fun(a,b)=>decide (a=b)
noncomputable def cd.G:dY:=fg (P:=Tryz.prog) []
noncomputable def cd.L0.E:=bQ.cC cd.L0.st cd.L0.aB cd.L0.add cd.L0.F cd.L0.out
noncomputable def cd.L0.call:cd.L0.D→Option cd.L0.X:=dm cd.L0.E cd.L0.st
noncomputable def cd.an:eI:= {loops:=j4 [(4,{bm:=[0,1,5]})],outs:=j3 [(4,{},{bm:=[4]})],fJ:=kT [(4,cd.L0.E)]}
noncomputable def cd.A:= @cY Tryz.prog cd.G cd.an 0 Tryz.f31 _ cd.st
abbrev cd.Ok:=cZ @cd.A cd.aB cd.add cd.F cd.out
noncomputable def cd.L0.R:= @bV Tryz.prog cd.G cd.an 0 Tryz.f31 0 _ cd.L0.st
abbrev cd.L0.Ok:=ez Tryz.prog cd.G cd.an 0 Tryz.f31 0 cd.L0.st cd.L0.aB cd.L0.add cd.L0.F cd.L0.out
theorem cd.L0.run:bM cd.L0.call cd.L0.aB cd.L0.add cd.L0.F:=eF (eD [.d (.slice cJ),.d (.slice cJ),.d ti] fun _=>by kernel_rfl)
theorem cd.L0.aD:kP @cd.L0.R cd.L0.st cd.L0.aB cd.L0.add cd.L0.F cd.L0.out cd.L0.Ok:=lp
theorem cd.L0.step{R:Type}(a_2:(List db))(b_2:(List db))(i:Int)(kn:AS→Option R)(kx:Exit→AS→Option R):cd.L0.R (a_2,b_2,i) kn kx=
  aK ((fZ i (((List.length a_2):Nat):Int))) (
   aK (eH i (((List.length a_2):Nat):Int)) (
   aK (eH i (((List.length b_2):Nat):Int)) (
   aK ((!(Ty.beq cJ (nth cJ a_2 (Int.toNat i)) (nth cJ b_2 (Int.toNat i))))) (
    kx (cd.L0.bw ()).1 (cd.L0.bw ()).2) (
    kn (cd.L0.st (a_2,b_2,(bR .i64 i (1:Int)))))) none) none) (
   kx (cd.L0.fq ()).1 (cd.L0.fq ()).2):=by kernel_rfl
theorem cd.eq{R:Type}(a:(List db))(b:(List db))(k:bg→Option R):cd.A (a,b) k=
  aK ((mZ (((List.length a):Nat):Int) (((List.length b):Nat):Int))) (
   k (cd.out false)) (
   al (cd.L0.call (a,b,(0:Int))) fun x1=>
   aK (x1.isLeft) (
    al (x1.getLeft?) fun a2=>
    k (cd.out false)) (
    al (x1.getRight?) fun b3=>
    k (cd.out true))):=by kernel_rfl
theorem cd.L0.ok:cd.L0.Ok:=by
 refine cd.L0.aD (fun(a,b,i)=>a.length - Int.toNat i) ?_
 rintro⟨a,b,i⟩ ⟨hlen,hab,k,hk,rfl⟩
 have hlen:a.length≤1000000000:=hlen
 have hab:a.length=b.length:=hab
 have hk:k≤a.length:=hk
 by_cases h:k < a.length
 ·have h2:k < b.length:=by omega
  have n1:nth cJ a k=a[k]:=cG (t:=cJ) h
  have n2:nth cJ b k=b[k]:=cG (t:=cJ) h2
  have hd:(List.drop k a=List.drop k b)=(a[k]=b[k]∧List.drop (k+1) a=List.drop (k+1) b):=by rw[List.drop_eq_getElem_cons h,List.drop_eq_getElem_cons h2,List.cons.injEq]
  have step:∀ {R:Type} (kn:AS→Option R) (kx:Exit→AS→Option R),cd.L0.R (a,b,(k:Int)) kn kx=if a[k]=b[k] then kn (cd.L0.st (a,b,((k+1:Nat):Int))) else kx (cd.L0.bw ()).1 (cd.L0.bw ()).2:=by
   intro R kn kx
   rw[cd.L0.step,bu (by omega),bz (by omega) (by omega),bz (by omega) (by omega),Int.toNat_natCast,n1,n2]
   simp only[ai]
   rw[N.kO (by omega)]
   by_cases hx:a[k]=b[k]
   ·rw[(pW _ _).2 hx,if_pos hx];rfl
   ·rw[if_neg hx,show Ty.beq cJ a[k] b[k]=false by cases hb:Ty.beq cJ a[k] b[k]with | false=>rfl | true=>exact absurd ((pW _ _).1 hb) hx];rfl
  by_cases hx:a[k]=b[k]
  ·left
   refine⟨(a,b,((k+1:Nat):Int)),⟨hlen,hab,k+1,by omega,rfl⟩,by simp only[Int.toNat_natCast];omega,?_,fun kn kx=> ?_⟩
   ·simp only[cd.L0.add,cd.L0.F,Int.toNat_natCast,hd,hx,true_and]
   ·rw[step,if_pos hx]
  ·right
   refine⟨cd.L0.bw (),?_,fun kn kx=> ?_⟩
   ·simp only[cd.L0.add,cd.L0.F,Int.toNat_natCast,hd,hx,false_and,if_false]
    rfl
   ·rw[step,if_neg hx]
 ·right
  obtain rfl:k=a.length:=by omega
  refine⟨cd.L0.fq (),?_,fun kn kx=> ?_⟩
  ·simp only[cd.L0.add,cd.L0.F,Int.toNat_natCast,List.drop_length]
   rw[hab,List.drop_length,if_pos rfl]
   rfl
  ·rw[cd.L0.step,bk (by omega),ao]
theorem cd.ok:cd.Ok:=by
 rintro⟨a,b⟩ hl
 have hl:a.length≤1000000000:=hl
 rw[cd.eq]
 by_cases h:a.length=b.length
 ·rw[cg (by omega),ao,cd.L0.run (d:=(a,b,0)) ⟨hl,h,0,Nat.zero_le _,rfl⟩]
  simp only[ab,cd.L0.add,cd.L0.F,Int.toNat_zero,List.drop_zero,cd.add,cd.F]
  by_cases e:a=b
  ·rw[if_pos e,aY e];rfl
  ·rw[if_neg e,bq e];rfl
 ·rw[dR (by omega),ai]
  simp only[cd.add,cd.F,bq (fun e:a=b=>h (by rw[e]))]
noncomputable def cd.E:=Entry.cC [some (.slice cJ),some (.slice cJ)] cd.st cd.aB cd.add cd.F cd.out
noncomputable def cd.call:cd.D→Option cd.X:=bS cd.E cd.st
theorem cd.run:bM cd.call cd.aB cd.add cd.F:=dh (dd [.d (.slice cJ),.d (.slice cJ)] fun _=>by kernel_rfl)
noncomputable def cd.sg:SG Tryz.prog:=⟨31,aX,cd.E,.fn 1 (by kernel_rfl) cd.ok (And.intro (.cC cd.L0.ok (by kernel_rfl)) trivial)⟩
structure sD(m n:Nat)(a:At)(s:List eg):Prop where
 sr:vd a
 le:n≤s.length
 len:s.length≤m
 IC:∀st∈s,Cs st
 sum:gW a≤1125899906842624
 HS:a.length≤256+64*m
theorem sD.mono{m m' n:Nat}{a:At}{s:List eg}(h:sD m n a s)(hm:m≤m'):sD m' n a s:=⟨h.sr,h.le,Nat.le_trans h.len hm,h.IC,h.sum,by have:=h.HS;omega⟩
theorem Cy{a:At}(h:∀p∈a,0≤p.2.1.1):0≤gW a:=by
 induction a with
 |nil=>exact Int.le_refl 0
 |cons p a ih=>
  rw[gK]
  have:=h p List.mem_cons_self
  have:=ih fun q hq=>h q (List.mem_cons_of_mem _ hq)
  omega
theorem vd.pos{a:At}(h:vd a):0≤gW a:=Cy fun p hp=>(h.2 p hp).2.2.2.1
theorem vG:∀(l:List fx) (sum:Int) (k:Nat) {a:At},0≤sum→sum≤1125899906842624→(∀o∈l,zf o)→sy sum k l=some a→
  a.length=l.length∧gW a=gQ l∧sum+gQ l≤1125899906842624∧(∀o∈l,0≤o.1)∧(∀p∈a,xn p.1∧G2 p.2∧(k:Int)≤p.1.2.1)∧(ig a).Nodup
 |[],sum,k,a,h0,h1,_,e=>by
  obtain rfl:=Option.some.inj e
  exact⟨rfl,rfl,by show sum+0≤_;omega,fun o ho=>(by cases ho),fun p hp=>(by cases hp),List.nodup_nil⟩
 |o::l,sum,k,a,h0,h1,hg,e=>by
  rw[sy]at e
  cases ho:nj sum o with
  |false=>rw[ho]at e;cases e
  |true=>
   rw[ho]at e
   simp only at e
   cases hr:sy (sum+o.1) (k+1) l with
   |none=>rw[hr]at e;cases e
   |some r=>
    rw[hr]at e
    obtain rfl:=Option.some.inj e
    have ho':=ho
    unfold nj at ho'
    simp only[Bool.and_eq_true,decide_eq_true_eq]at ho'
    obtain⟨k1,k2,k3⟩:=ho'
    obtain⟨i1,i2,i3,i4,i5,i6⟩:=vG l (sum+o.1) (k+1) (by omega) (by omega) (fun x hx=>hg x (List.mem_cons_of_mem _ hx)) hr
    have hu:=hg o List.mem_cons_self
    refine⟨by rw[List.length_cons,List.length_cons,i1],?_,by rw[oq];omega,fun x hx=> ?_,fun p hp=> ?_,?_⟩
    ·rw[gK,oq,i2];rfl
    ·rcases List.mem_cons.1 hx with rfl | hx
     ·exact k2
     ·exact i4 x hx
    ·rcases List.mem_cons.1 hp with rfl | hp
     ·refine⟨⟨by show(List.replicate 32 (0:Int)).length=32;rw[List.length_replicate],fun x hx=> ?_⟩,⟨k1,hu.1,k2,by show o.1≤_;omega,Int.le_refl 0,by show(0:Int)≤_;decide⟩,by show(k:Int)≤k;omega⟩
      have hx:x∈List.replicate 32 (0:Int):=hx
      obtain rfl:=(List.mem_replicate.1 hx).2
      exact⟨by decide,by decide⟩
     ·have:=i5 p hp
      exact⟨this.1,this.2.1,by omega⟩
    ·show((rP k o).1::ig r).Nodup
     refine List.nodup_cons.2 ⟨fun hm=> ?_,i6⟩
     obtain⟨p,hp,he⟩:=List.mem_map.1 hm
     have:=(i5 p hp).2.2
     have he:p.1=(rP k o).1:=he
     rw[he]at this
     have this:((k+1:Nat):Int)≤(k:Int):=this
     omega
theorem BW{outs:List fx}{a:At}(hg:∀o∈outs,zf o)(e:wU outs=some a):sD 0 0 a []∧gW a=gQ outs∧a.length=outs.length∧outs.length≤256∧(∀o∈outs,0≤o.1)∧gQ outs≤1125899906842624:=by
 unfold wU at e
 by_cases hl:outs.length≤256
 ·rw[if_pos hl]at e
  obtain⟨i1,i2,i3,i4,i5,i6⟩:=vG outs 0 0 (by decide) (by decide) hg e
  exact⟨⟨⟨i6,fun p hp=>⟨(i5 p hp).1,(i5 p hp).2.1⟩⟩,Nat.le_refl _,Nat.le_refl _,fun st hst=>(by cases hst),by omega,by omega⟩,i2,i1,hl,i4,by omega⟩
 ·rw[if_neg hl]at e;cases e
theorem EU{outs:List fx}(hg:∀o∈outs,zf o):bo.call outs=some (match wU outs with | none=> .inl () | some r=> .inr (r,[])):=by
 rw[bo.run (d:=outs) hg]
 simp only[bo.add,bo.F]
 cases wU outs <;> rfl
theorem vA:∀(l:List db) (a:At),(nF a l).length=l.length
 |[],_=>rfl
 |o::l,a=>by rw[nF,List.length_cons,List.length_cons,vA l]
theorem DT{t:eT}{h ix:Int}{a:At}(hc:jm t h a ix):Cs (stepOf t a):=by
 have h1:=(iU hc.ok).1
 have h2:=ka hc.ok
 have h3:=tE hc.ok
 unfold Cs stepOf
 rw[vA]
 exact⟨by omega,by show(fw t).length≤1000;omega⟩
section
variable {m n:Nat} {t:eT} {h:Int} {a:At} {s:List eg}
theorem sD.app(hg:sD m n a s)(hc:jm t h a (eM t h a).1)(hv:oE t):sD (m+1) (n+1) (gM t h a) (s.take n++ [stepOf t a]):=by
 have hl:=hg.le
 have hm:=hg.len
 have hs:=hc.sum hg.sr.1
 have hp:=hc.pos
 have h1:=(iU hc.ok).1
 have e:(s.take n).length=n:=by rw[List.length_take];omega
 refine⟨hc.sr hg.sr hv,by rw[List.length_append,e];exact Nat.le_refl _,by rw[List.length_append,e];show n+1≤_;omega,fun st hst=> ?_,?_,?_⟩
 ·rcases List.mem_append.1 hst with hst | hst
  ·exact hg.IC st (List.mem_of_mem_take hst)
  ·rw[List.mem_singleton.1 hst];exact DT hc
 ·have:=hg.sum;omega
 ·have:=hg.HS;omega
theorem sD.apply(hg:sD m n a s)(hm:m≤1000)(hv:oE t):((eM t h a).2≠0∧aN.call (t,h,n,a,s)=some (.inl ((eM t h a).2,n,a,s)))∨
  (jm t h a (eM t h a).1∧(eM t h a).2=0∧aN.call (t,h,n,a,s)=some (.inr (0,n+1,gM t h a,s.take n++ [stepOf t a]))∧sD (m+1) (n+1) (gM t h a) (s.take n++ [stepOf t a])):=by
 have hr:=aN.run (d:=(t,h,n,a,s)) ⟨hv,hg.sr,hg.le,by have:=hg.len;show s.length≤_;omega⟩
 by_cases he:(eM t h a).2=0
 ·right
  refine⟨wo he,he,?_,hg.app (wo he) hv⟩
  rw[hr]
  simp only[aN.add,aN.F,he,ne_eq,not_true_eq_false,if_false]
 ·left
  refine⟨he,?_⟩
  rw[hr]
  simp only[aN.add,aN.F,ne_eq,he,not_false_eq_true,if_true]
theorem sD.check(hg:sD m n a s)(hv:oE t):aA.call (t,h,n,a,s)=some ((eM t h a).1,(eM t h a).2,n,a,s):=aA.run (d:=(t,h,n,a,s)) ⟨hv,hg.sr⟩
noncomputable def H4(a:At):List db:=pL (t:=cJ) pq (ig a)
theorem sD.all(hg:sD m n a s)(hm:m≤1000):bG.call (n,a,s)=some (a.length,n,a,s,H4 a):=bG.run (d:=(n,a,s)) ⟨by have:=hg.HS;show a.length≤_;omega,fun p hp=>(hg.sr.2 p hp).1⟩
theorem sD.get(hg:sD m n a s)(o:db):dI.call (o,n,a,s)=some ((n,a,s),((cS cJ o a).getD vY,(cS cJ o a).isSome)):=dI.run (d:=(o,n,a,s)) hg.sr
theorem sD.copy(hg:sD m n a s)(hm:m≤1000):bl.call (n,a,s)=some (n,a,s,(s.take n).length,kS a,s.take n):=bl.run (d:=(n,a,s)) ⟨hg.le,by have:=hg.len;show s.length≤_;omega,hg.sr.1⟩
theorem vd.perm{a':At}(h:vd a)(hp:a.Perm a'):vd a':=⟨(hp.map _).nodup_iff.1 h.1,fun p hm=>h.2 p (hp.mem_iff.2 hm)⟩
theorem sD.canon(hg:sD m n a s):sD m n (kS a) (s.take n)∧(s.take n).length=n:=by
 have hp:=nV a
 have e:(s.take n).length=n:=by rw[List.length_take];have:=hg.le;omega
 exact⟨⟨hg.sr.perm hp.symm,by omega,by have:=hg.le;have:=hg.len;omega,fun st hst=>hg.IC st (List.mem_of_mem_take hst),by rw[qW hp];exact hg.sum,by rw[hp.length_eq];exact hg.HS⟩,e⟩
end
end Go.Ab
namespace Go.Ab
open Go.Proofs
set_option maxRecDepth 100000
set_option linter.unusedVariables false
set_option linter.unusedSimpArgs false
set_option synthInstance.maxSize 5000
theorem Ga{outs:List fx}{acts:List ph}(h:BC outs acts=true):outs.length≤20∧acts.length≤20∧∀x∈acts,x.2.1.1.length≤8∧x.2.1.2.1.length≤8:=by
 unfold BC at h
 simp only[Bool.and_eq_true,decide_eq_true_eq,List.all_eq_true]at h
 refine⟨h.2.1,h.2.2,fun x hx=> ?_⟩
 have:=h.1 x hx
 unfold oZ at this
 simpa only[Bool.and_eq_true,decide_eq_true_eq]using this
abbrev Cq:=Nat×At×List eg
def sU(S:Cq)(x:ph):Cq:=if(eM x.2.1 x.2.2.1 S.2.1).2≠0 then S else(S.1+1,gM x.2.1 x.2.2.1 S.2.1,S.2.2.take S.1++ [stepOf x.2.1 S.2.1])
abbrev Cr(m:Nat)(S:Cq):Prop:=sD m S.1 S.2.1 S.2.2
theorem xq{m:Nat}{S:Cq}{x:ph}(hg:Cr m S)(hm:m≤1000)(hv:oE x.2.1):Cr (m+1) (sU S x)∧
  (aN.call (x.2.1,x.2.2.1,S.1,S.2.1,S.2.2)=some (.inr (0,sU S x))∧(eM x.2.1 x.2.2.1 S.2.1).2=0∨aN.call (x.2.1,x.2.2.1,S.1,S.2.1,S.2.2)=some (.inl ((eM x.2.1 x.2.2.1 S.2.1).2,sU S x))∧(eM x.2.1 x.2.2.1 S.2.1).2≠0):=by
 rcases hg.apply (t:=x.2.1) (h:=x.2.2.1) hm hv with⟨h1,h2⟩ | ⟨h1,h2,h3,h4⟩
 ·have e:sU S x=S:=by unfold sU;rw[if_pos h1]
  rw[e]
  exact⟨hg.mono (Nat.le_succ _),.inr ⟨h2,h1⟩⟩
 ·have e:sU S x=(S.1+1,gM x.2.1 x.2.2.1 S.2.1,S.2.2.take S.1++ [stepOf x.2.1 S.2.1]):=by unfold sU;rw[if_neg (fun e=>e h2)]
  rw[e]
  exact⟨h4,.inl ⟨h3,h2⟩⟩
theorem sV:∀(l:List ph) {m:Nat} {S:Cq},Cr m S→m+l.length≤1000→(∀x∈l,oE x.2.1)→Cr (m+l.length) (l.foldl sU S)
 |[],_,_,hg,_,_=>hg
 |x::l,m,S,hg,hm,hv=>by
  rw[List.length_cons]at hm ⊢
  rw[List.foldl_cons,show m+(l.length+1)=(m+1)+l.length by omega]
  exact sV l (xq hg (by omega) (hv x List.mem_cons_self)).1 (by omega) fun y hy=>hv y (List.mem_cons_of_mem _ hy)
theorem yE{l:Lk}{w:oT}{m:List Int}{h h' a a':Int}(e:jP l w m h a=0)(hh:h≤h')(ha:a≤a'):jP l w m h' a'=0:=by
 unfold jP at e ⊢
 split at e
 ·cases e
 ·rename_i h1
  rw[if_neg h1]
  simp only at e ⊢
  split at e
  ·cases e
  ·rename_i h2
   rw[if_neg (by omega)]
   exact e
theorem zU{l:Lk}{w:oT}{m:List Int}{h a:Int}:jP l w m h a≠5:=by
 unfold jP
 split
 ·decide
 ·simp only
  split
  ·decide
  ·split
   ·decide
   ·split
    ·decide
    ·split
     ·decide
     ·decide
theorem tC{h h':Int}{id:List Int}{a:At}(hh:h≤h'):∀(l:List fU) (f:Int),(∀g,jd h id a l f= .inr g→jd h' id a l f= .inr g)∧(jd h id a l f= .inl 5→jd h' id a l f= .inl 5)
 |[],f=>⟨fun g e=>e,fun e=>(by cases e)⟩
 |x::l,f=>by
  simp only[jd]
  cases hg:cS cJ x.1 a with
  |none=>exact⟨fun g e=>(by cases e),fun e=>rfl⟩
  |some c=>
   obtain⟨i1,i2⟩:=tC hh l (f+c.1.1)
   simp only
   by_cases ho:jP c.1.2.1 x.2.1 id h (h - c.2.1)=0
   ·have ho':=yE (h':=h') (a':=h' - c.2.1) ho hh (by omega)
    rw[if_neg (fun e=>e ho),if_neg (fun e=>e ho')]
    exact⟨i1,i2⟩
   ·rw[if_pos ho]
    exact⟨fun g e=>(by cases e),fun e=>absurd (Sum.inl.inj e) zU⟩
theorem wm{t:eT}{h h':Int}{a:At}(hh:h≤h')(h2:h'≤1048576):((eM t h a).2=0→eM t h' a=eM t h a)∧((eM t h a).2=5→(eM t h' a).2=5):=by
 unfold eM
 by_cases hc:gv t=true∧1≤h∧h≤1048576
 ·rw[if_pos hc,if_pos ⟨hc.1,by omega,h2⟩]
  obtain⟨i1,i2⟩:=tC (id:=mD t) (a:=a) hh t.1 0
  cases hi:jd h (mD t) a t.1 0 with
  |inl e=>
   refine⟨fun h0=> ?_,fun h5=> ?_⟩
   ·have h0:e=0:=h0
    subst h0
    exfalso
    have key:∀(l:List fU) (f:Int),jd h (mD t) a l f≠ .inl 0:=by
     intro l
     induction l with
     |nil=>intro f e;cases e
     |cons x l ih=>
      intro f e
      simp only[jd]at e
      cases hg:cS cJ x.1 a with
      |none=>rw[hg]at e;simp at e
      |some c=>
       rw[hg]at e
       simp only at e
       split at e
       ·rename_i hne;exact hne (by injection e)
       ·exact ih _ e
    exact key _ _ hi
   ·have h5:e=5:=h5
    subst h5
    rw[i2 hi]
  |inr g=>
   rw[i1 g hi]
   exact⟨fun _=>rfl,fun e=>e⟩
 ·rw[if_neg hc]
  exact⟨fun e=>(by cases e),fun e=>(by cases e)⟩
abbrev aZ.L0.D:=(List ph)×Int×Int×eT×Bool×Int×Nat×(List (db×eX))×(List eg)
def aZ.L0.st:aZ.L0.D→AS:=fun(acts_2,height_2,more_2,t_2,head,i,n24L,n24,n24_2)=>⟨([.undef,.d (.slice nv) acts_2,.undef,.d ti height_2,.d ti more_2,.undef,.undef,.eC fV t_2,.undef,.undef,.undef,.d .bool head,.undef,.ptr (.new 24 0) 0 [] 0,.d ti i]++bh 99 []),[],(bI 24 ([[.obj 0 false (.pr (.eN (.new 24 1) 0) (.pr (.bJ (.new 24 2) 0 [] 0 0 n24L) (.d .unit ()))),.obj 0 false (.mp cJ gF n24),.obj 0 false (.vec 161 eO n24_2)]]++bI 89 []))⟩
abbrev aZ.L0.Y0:=Nat×(List (db×eX))×(List eg)
abbrev aZ.L0.X0:=(Int×Int×eT×Bool)×(Nat×(List (db×eX))×(List eg))
def aZ.L0.bw:aZ.L0.X0→Exit×AS:=fun x=>(.exit 0,⟨([.undef,.undef,.undef,.d ti x.1.1,.d ti x.1.2.1,.undef,.undef,.eC fV x.1.2.2.1,.undef,.undef,.undef,.d .bool x.1.2.2.2,.undef,.ptr (.new 24 0) 0 [] 0]++bh 100 []),[],(bI 24 ([[.obj 0 false (.pr (.eN (.new 24 1) 0) (.pr (.bJ (.new 24 2) 0 [] 0 0 x.2.1) (.d .unit ()))),.obj 0 false (.mp cJ gF x.2.2.1),.obj 0 false (.vec 161 eO x.2.2.2)]]++bI 89 []))⟩)
abbrev aZ.L0.X:=aZ.L0.X0
abbrev aZ.L0.Y:=aZ.L0.Y0
def aZ.L0.out:aZ.L0.X→Out (Exit×AS):=fun x=> .ok (aZ.L0.bw x)
def aZ.L0.add:aZ.L0.D→aZ.L0.Y→aZ.L0.X:=fun(acts_2,height_2,more_2,t_2,head,i,n24L,n24,n24_2) y=>((height_2,more_2,t_2,head),y)
abbrev aZ.D:=(List fx)×(List ph)×eT×Int×Int
def aZ.st:aZ.D→SA:=fun(outs,acts,t,height,more)=>([.d (.slice eP) outs,.d (.slice nv) acts,.d fV t,.d ti height,.d ti more],[])
abbrev aZ.Y:=Bool
abbrev aZ.X:=Bool
def aZ.out:aZ.X→bg:=fun x=>⟨.d .bool x,[],[]⟩
def aZ.add:aZ.D→aZ.Y→aZ.X:=fun(outs,acts,t,height,more) y=>y
def aZ.L0.aB:aZ.L0.D→Prop:=fun(acts,_,_,_,_,i,n,a,s)=>acts.length≤20∧(∀x∈acts,oE x.2.1)∧∃k:Nat,k≤acts.length∧i=k∧sD k n a s
def aZ.L0.F:aZ.L0.D→aZ.L0.Y:=fun(acts,_,_,_,_,i,n,a,s)=>(acts.drop i.toNat).foldl sU (n,a,s)
def aZ.aB:aZ.D→Prop:=fun(outs,acts,t,h,more)=>(∀o∈outs,zf o)∧acts.length≤9223372036854775807∧(∀x∈acts,oE x.2.1)∧oE t∧ -9223372036854775808≤h
def aZ.F:aZ.D→aZ.Y:=fun _=>true
noncomputable def aZ.G:dY:=fg (P:=Tryz.prog) [ba.sg,bA.sg,bo.sg,aN.sg,aA.sg]
noncomputable def aZ.L0.E:=bQ.cC aZ.L0.st aZ.L0.aB aZ.L0.add aZ.L0.F aZ.L0.out
noncomputable def aZ.L0.call:aZ.L0.D→Option aZ.L0.X:=dm aZ.L0.E aZ.L0.st
noncomputable def aZ.an:eI:= {loops:=j4 [(7,{bm:=[1,3,4,7,11,13,14],sites:=[24],iA:=[⟨13,[.snd,.fst],24,68⟩]})],outs:=j3 [(7,{bm:=[3,4,7,11,13],sites:=[24]},{bm:=[10]})],fJ:=kT [(7,aZ.L0.E)]}
noncomputable def aZ.A:= @cY Tryz.prog aZ.G aZ.an 0 Tryz.f5 _ aZ.st
abbrev aZ.Ok:=cZ @aZ.A aZ.aB aZ.add aZ.F aZ.out
noncomputable def aZ.L0.R:= @bV Tryz.prog aZ.G aZ.an 0 Tryz.f5 0 _ aZ.L0.st
abbrev aZ.L0.Ok:=ez Tryz.prog aZ.G aZ.an 0 Tryz.f5 0 aZ.L0.st aZ.L0.aB aZ.L0.add aZ.L0.F aZ.L0.out
theorem aZ.L0.run:bM aZ.L0.call aZ.L0.aB aZ.L0.add aZ.L0.F:=eF (eD [.d (.slice nv),.d ti,.d ti,.d fV,.d .bool,.d ti,.n,.d (.slice (.pair cJ gF)),.d (.slice eO)] fun _=>by kernel_rfl)
theorem aZ.L0.aD:fP @aZ.L0.R aZ.L0.st aZ.L0.aB aZ.L0.add aZ.L0.F aZ.L0.bw aZ.L0.Ok:=fR
theorem aZ.L0.step{R:Type}(acts_2:(List ph))(height_2:Int)(more_2:Int)(t_2:eT)(head:Bool)(i:Int)(n24L:Nat)(n24:(List (db×eX)))(n24_2:(List eg))(kn:AS→Option R)(kx:Exit→AS→Option R):aZ.L0.R (acts_2,height_2,more_2,t_2,head,i,n24L,n24,n24_2) kn kx=
  aK ((fZ i (((List.length acts_2):Nat):Int))) (
   aK (eH i (((List.length acts_2):Nat):Int)) (
   aK (eH i (((List.length acts_2):Nat):Int)) (
   al (aN.call ((nth nv acts_2 (Int.toNat i)).2.1,(nth nv acts_2 (Int.toNat i)).2.2.1,n24L,n24,n24_2)) fun x4=>
   aK (x4.isLeft) (
    al (x4.getLeft?) fun x4l=>
    kn (aZ.L0.st (acts_2,height_2,more_2,t_2,head,(bR .i64 i (1:Int)),x4l.2.1,x4l.2.2.1,x4l.2.2.2))) (
    al (x4.getRight?) fun x4r=>
    kn (aZ.L0.st (acts_2,height_2,more_2,t_2,head,(bR .i64 i (1:Int)),x4r.2.1,x4r.2.2.1,x4r.2.2.2)))) none) none) (
   kx (aZ.L0.bw ((height_2,more_2,t_2,head),(n24L,n24,n24_2))).1 (aZ.L0.bw ((height_2,more_2,t_2,head),(n24L,n24,n24_2))).2):=by kernel_rfl
theorem aZ.eq{R:Type}(outs:(List fx))(acts:(List ph))(t:eT)(height:Int)(more:Int)(k:bg→Option R):aZ.A (outs,acts,t,height,more) k=
  al (ba.call ()) fun x4=>
  al (bA.call (outs,acts)) fun x8=>
  al (bo.call outs) fun x12=>
  aK (x12.isLeft) (
   al (x12.getLeft?) fun x12l=>
   aK ((!x8)) (
    k (aZ.out x4)) (
    k (aZ.out x4))) (
   al (x12.getRight?) fun x12r=>
   aK ((!x8)) (
    k (aZ.out x4)) (
    aK ((fZ more (0:Int))) (
     k (aZ.out x4)) (
     aK ((mJ more (1048576:Int))) (
      k (aZ.out x4)) (
      aK ((mJ height (cQ .i64 (1048576:Int) more))) (
       k (aZ.out x4)) (
       aK ((mJ (((List.length t.1):Nat):Int) (8:Int))) (
        k (aZ.out x4)) (
        aK ((mJ (((List.length t.2.1):Nat):Int) (8:Int))) (
         k (aZ.out x4)) (
         al (aZ.L0.call (acts,height,more,t,x4,(0:Int),0,x12r.1,x12r.2)) fun x22=>
         al (aA.call (x22.1.2.2.1,x22.1.1,x22.2.1,x22.2.2.1,x22.2.2.2)) fun x26=>
         al (aA.call (x22.1.2.2.1,(bR .i64 x22.1.1 x22.1.2.1),x26.2.2.1,x26.2.2.2.1,x26.2.2.2.2)) fun x30=>
         aK (x22.1.2.2.2) (
          aK ((mZ x26.2.1 (0:Int))) (
           aK ((mZ x26.2.1 (5:Int))) (
            k (aZ.out true)) (
            k (aZ.out (jy x30.2.1 (5:Int))))) (
           aK ((jy x30.2.1 (0:Int))) (
            aK ((jy x30.1 x26.1)) (
             aK ((mZ x26.2.1 (5:Int))) (
              k (aZ.out true)) (
              k (aZ.out (jy x30.2.1 (5:Int))))) (
             k (aZ.out false))) (
            k (aZ.out false)))) (
          k (aZ.out false))))))))):=by kernel_rfl
theorem aZ.L0.ok:aZ.L0.Ok:=by
 refine aZ.L0.aD (fun(acts,_,_,_,_,i,_,_,_)=>acts.length - i.toNat) ?_
 rintro⟨acts,h,more,t,hd,i,n,a,s⟩ ⟨hl,hv,k,hk,rfl,hg⟩
 have hl:acts.length≤20:=hl
 have hk:k≤acts.length:=hk
 have hg:Cr k (n,a,s):=hg
 by_cases hlt:k < acts.length
 ·left
  have n1:nth nv acts k=acts[k]:=cG (t:=nv) hlt
  have hx:=hv _ (List.getElem_mem hlt)
  obtain⟨hg',hr⟩:=xq hg (by omega) hx
  refine⟨(acts,h,more,t,hd,((k+1:Nat):Int),sU (n,a,s) acts[k]),⟨hl,hv,k+1,by omega,rfl,hg'⟩,by simp only[Int.toNat_natCast];omega,?_,fun kn kx=> ?_⟩
  ·simp only[aZ.L0.add,aZ.L0.F,Int.toNat_natCast]
   rw[List.drop_eq_getElem_cons hlt,List.foldl_cons]
  ·rw[aZ.L0.step,bu (by omega),ai,bz (by omega) (by omega),ai,ai,Int.toNat_natCast,n1,N.kO (by omega)]
   rcases hr with⟨e,_⟩ | ⟨e,_⟩
   ·have e:aN.call (acts[k].2.1,acts[k].2.2.1,n,a,s)=_:=e
    rw[e,ab]
    rfl
   ·have e:aN.call (acts[k].2.1,acts[k].2.2.1,n,a,s)=_:=e
    rw[e,ab]
    rfl
 ·right
  obtain rfl:k=acts.length:=by omega
  intro T kn kx
  rw[aZ.L0.step,bk (by omega),ao]
  simp only[aZ.L0.add,aZ.L0.F,Int.toNat_natCast,List.drop_length,List.foldl_nil]
theorem aZ.ok:aZ.Ok:=by
 rintro⟨outs,acts,t,h,more⟩ ⟨ho,hal,hv,ht,hr⟩
 have hr: -9223372036854775808≤h:=hr
 rw[aZ.eq,ba.run (d:=()) trivial,bA.run (d:=(outs,acts)) hal,EU ho]
 simp only[ab,ba.add,ba.F,bA.add,bA.F,aZ.add,aZ.F]
 cases hn:wU outs with
 |none=>
  simp only[Sum.isLeft_inl,ai,Sum.getLeft?_inl,ab]
  cases BC outs acts <;> rfl
 |some a0=>
  simp only[Sum.isLeft_inr,ao,Sum.getRight?_inr,ab]
  cases hf:BC outs acts with
  |false=>rfl
  |true=>
   obtain⟨_,h20,_⟩:=Ga hf
   obtain⟨g0,_⟩:=BW ho hn
   rw[Bool.not_true,ao]
   by_cases m0:more < 0
   ·rw[bu m0];rfl
   by_cases m1:more > 1048576
   ·rw[bk m0,ao,dx m1];rfl
   rw[bk m0,ao,cW m1,ao,eR (by omega) (by omega)]
   by_cases m2:h > 1048576 - more
   ·rw[dx m2];rfl
   rw[cW m2,ao]
   by_cases m3:t.1.length≤8
   ·rw[cW (by omega),ao]
    by_cases m4:t.2.1.length≤8
    ·rw[cW (by omega),ao,aZ.L0.run (d:=(acts,h,more,t,true,0,0,a0,[])) ⟨h20,hv,0,Nat.zero_le _,rfl,g0⟩]
     have gs:=sV acts (m:=0) (S:=(0,a0,[])) g0 (by omega) hv
     simp only[ab,aZ.L0.add,aZ.L0.F,Int.toNat_zero,List.drop_zero]
     generalize acts.foldl sU (0,a0,[])=S at gs ⊢
     obtain⟨n,a,s⟩:=S
     have gs:sD (0+acts.length) n a s:=gs
     rw[gs.check ht,ab,fY (by omega) (by omega),gs.check ht,ab,ai]
     obtain⟨l1,l2⟩:=wm (t:=t) (a:=a) (show h≤h+more by omega) (by omega)
     by_cases e0:(eM t h a).2=0
     ·rw[l1 e0,e0]
      rw[cg rfl,ao,ia rfl,ai,ia rfl,ai,dR (show ¬(0:Int)=5 by decide),ai]
     ·rw[dR e0,ai]
      by_cases e5:(eM t h a).2=5
      ·rw[cg e5,ao,ia (l2 e5)]
      ·rw[dR e5,ai]
    ·rw[dx (by omega)];rfl
   ·rw[dx (by omega)];rfl
noncomputable def aZ.E:=Entry.cC [some (.slice eP),some (.slice nv),some fV,some ti,some ti] aZ.st aZ.aB aZ.add aZ.F aZ.out
noncomputable def aZ.call:aZ.D→Option aZ.X:=bS aZ.E aZ.st
theorem aZ.run:bM aZ.call aZ.aB aZ.add aZ.F:=dh (dd [.d (.slice eP),.d (.slice nv),.d fV,.d ti,.d ti] fun _=>by kernel_rfl)
noncomputable def aZ.sg:SG Tryz.prog:=⟨5,aX,aZ.E,.fn 1 (by kernel_rfl) aZ.ok (And.intro (.cC aZ.L0.ok (by kernel_rfl)) trivial)⟩
end Go.Ab
