/-
  Made short by a program of mine (wip/tools/mini.py).
-/
import Derived.Test.YtlpebgkekjfhaaaGreatS16x5
set_option linter.unusedVariables false
set_option linter.unusedSimpArgs false
namespace Go.Ab
open Go.Proofs
set_option maxRecDepth 100000
set_option linter.unusedVariables false
set_option linter.unusedSimpArgs false
set_option synthInstance.maxSize 5000
abbrev ea.D:=cK×Nat×(List (cK×fa))×(List dQ)
def ea.st:ea.D→SA:=fun(o,o0baL,o1,o2)=>([.ptr (.dx 0) 0 [] 0,.d ck o],[.obj 0 false (.pr (.ff (.dx 1) 0) (.pr (.bH (.dx 2) 0 [] 0 0 o0baL) (.d .unit ()))),.obj 0 false (.mp ck gl o1),.obj 0 false (.vec 161 dZ o2)])
abbrev ea.Y:=fa×Bool
abbrev ea.X:=(Nat×(List (cK×fa))×(List dQ))×(fa×Bool)
def ea.out:ea.X→ba:=fun x=>⟨.cons (.d gl x.2.1) (.cons (.d .bool x.2.2) (.nil)),[.obj 0 false (.pr (.ff (.dx 1) 0) (.pr (.bH (.dx 2) 0 [] 0 0 x.1.1) (.d .unit ()))),.obj 0 false (.mp ck gl x.1.2.1),.obj 0 false (.vec 161 dZ x.1.2.2)],[]⟩
def ea.add:ea.D→ea.Y→ea.X:=fun(o,o0baL,o1,o2) y=>((o0baL,o1,o2),y)
def GN(c:fa):Prop:=iT c.1.2.1=true∧u9 c.1.2.1∧0≤c.1.1∧c.1.1≤1125899906842624∧0≤c.2.1∧c.2.1≤1048576
def qo(a:List (cK×fa)):Prop:=(a.map (·.1)).Nodup∧∀p∈a,rA p.1∧GN p.2
theorem qo.get{a:List (cK×fa)}(h:qo a){o:cK}{c:fa}(hg:cz ck o a=some c):GN c:=(h.2 _ ((gO fI h.1).1 hg)).2
def uY:fa:=((0,(([],()),())),(0,()))
def ea.av:ea.D→Prop:=fun(_,_,a,_)=>qo a
def ea.F:ea.D→ea.Y:=fun(o,_,a,_)=>((cz ck o a).getD uY,(cz ck o a).isSome)
noncomputable def ea.G:ed:=fk (P:=Tryz.prog) [cZ.sg]
noncomputable def ea.an:eQ:= {res:=[some gl,none]}
noncomputable def ea.A:= @cY Tryz.prog ea.G ea.an 0 Tryz.f34 _ ea.st
abbrev ea.Ok:=dd @ea.A ea.av ea.add ea.F ea.out
theorem ea.eq{R:Type}(o:cK)(o0baL:Nat)(o1:(List (cK×fa)))(o2:(List dQ))(k:ba→Option R):ea.A (o,o0baL,o1,o2) k=
  ah (cZ.call ((cz ck o o1).getD (((0:Int),((([]:List ik),()),())),((0:Int),()))).1) fun x1=>
  aG ((!(cz ck o o1).isSome)) (
   k (ea.out ((o0baL,o1,o2),((((0:Int),((([]:List ik),()),())),((0:Int),())),false)))) (
   k (ea.out ((o0baL,o1,o2),((x1,((cz ck o o1).getD (((0:Int),((([]:List ik),()),())),((0:Int),()))).2),true)))):=by kernel_rfl
theorem GN.own{c:fa}(h:GN c):HH c.1.2.1:=by
 have:=oM h.1
 exact⟨by omega,fun b hb=>by have:=this.2 b hb;omega⟩
theorem ea.ok:ea.Ok:=by
 rintro⟨o,n,a,s⟩ ha
 have ha:qo a:=ha
 rw[ea.eq]
 cases hg:cz ck o a with
 |none=>
  simp only[Option.getD_none,Option.isSome_none,Bool.not_false,ae]
  rw[cZ.run (d:=((0:Int),((([]:List ik),()),()))) ⟨by show 0≤1000;decide,fun b hb=>by cases hb⟩]
  simp only[aa,ea.add,ea.F,hg,Option.getD_none,Option.isSome_none]
  rfl
 |some c=>
  simp only[Option.getD_some,Option.isSome_some,Bool.not_true,ag]
  rw[cZ.run (d:=c.1) (ha.get hg).own]
  simp only[aa,cZ.add,cZ.F,ea.add,ea.F,hg,Option.getD_some,Option.isSome_some]
noncomputable def ea.E:=Entry.cD [none,some ck] ea.st ea.av ea.add ea.F ea.out
noncomputable def ea.call:ea.D→Option ea.X:=bS ea.E ea.st
theorem ea.run:bM ea.call ea.av ea.add ea.F:=dq (df [.d ck,.n,.d (.slice (.pair ck gl)),.d (.slice dZ)] fun _=>by kernel_rfl)
noncomputable def ea.sg:SG Tryz.prog:=⟨34,aR,ea.E,.fn 0 (by kernel_rfl) ea.ok trivial⟩
abbrev aC.L0.D:=Int×fv×Int×(List ia)×Int×Int×Nat×(List (cK×fa))×(List dQ)×Bs
def aC.L0.st:aC.L0.D→AS:=fun(height_2,t_2,fR,t35,t36,t37,o0L,o1_2,o2_2,n8)=>⟨([.ptr (.dx 0) 0 [] 0,.undef,.d ti height_2,.undef,.ej gI t_2,.undef,.undef,.undef,.ptr (.new 8 0) 0 [] 0,.d ti fR]++bl 25 ([.d (.slice gz) t35,.d ti t36,.d ti t37]++bl 69 [])),[.obj 0 false (.pr (.ff (.dx 1) 0) (.pr (.bH (.dx 2) 0 [] 0 0 o0L) (.d .unit ()))),.obj 0 false (.mp ck gl o1_2),.obj 0 false (.vec 161 dZ o2_2)],(ch 8 ([[.obj 0 false (.d tH n8)]]++ch 98 []))⟩
abbrev aC.L0.Y0:=Int
abbrev aC.L0.X0:=(Nat×(List (cK×fa))×(List dQ))×(Int)
def aC.L0.bp:aC.L0.X0→Exit×AS:=fun x=>(.ret,⟨(bl 6 ([.d ti (0:Int),.d ti x.2]++bl 99 [])),[.obj 0 false (.pr (.ff (.dx 1) 0) (.pr (.bH (.dx 2) 0 [] 0 0 x.1.1) (.d .unit ()))),.obj 0 false (.mp ck gl x.1.2.1),.obj 0 false (.vec 161 dZ x.1.2.2)],(List.replicate 107 [])⟩)
abbrev aC.L0.Y1:=Int
abbrev aC.L0.X1:=(fv×Nat×(List (cK×fa))×(List dQ))×(Int)
def aC.L0.fA:aC.L0.X1→Exit×AS:=fun x=>(.exit 0,⟨([.ptr (.dx 0) 0 [] 0,.undef,.undef,.undef,.ej gI x.1.1]++bl 4 ([.d ti x.2]++bl 97 [])),[.obj 0 false (.pr (.ff (.dx 1) 0) (.pr (.bH (.dx 2) 0 [] 0 0 x.1.2.1) (.d .unit ()))),.obj 0 false (.mp ck gl x.1.2.2.1),.obj 0 false (.vec 161 dZ x.1.2.2.2)],(List.replicate 107 [])⟩)
abbrev aC.L0.X:=(aC.L0.X0)⊕(aC.L0.X1)
abbrev aC.L0.Y:=(aC.L0.Y0)⊕(aC.L0.Y1)
def aC.L0.out:aC.L0.X→Out (Exit×AS):=fun x=> .br x.isLeft (.get x.getLeft? fun a=> .ok (aC.L0.bp a)) (.get x.getRight? fun b=> .ok (aC.L0.fA b))
def aC.L0.add:aC.L0.D→aC.L0.Y→aC.L0.X:=fun(height_2,t_2,fR,t35,t36,t37,o0L,o1_2,o2_2,n8) y=>match y with | .inl y=> .inl ((o0L,o1_2,o2_2),y) | .inr z=> .inr (((t_2,o0L,o1_2,o2_2),z))
abbrev aC.L1.D:=fv×Int×(List cK)×Int×Int×Nat×(List (cK×fa))×(List dQ)
def aC.L1.st:aC.L1.D→AS:=fun(t_3,fee_2,t75,t76,t77,o0L_2,o1_3,o2_3)=>⟨([.ptr (.dx 0) 0 [] 0,.undef,.undef,.undef,.ej gI t_3]++bl 4 ([.d ti fee_2]++bl 65 ([.d (.slice ck) t75,.d ti t76,.d ti t77]++bl 29 []))),[.obj 0 false (.pr (.ff (.dx 1) 0) (.pr (.bH (.dx 2) 0 [] 0 0 o0L_2) (.d .unit ()))),.obj 0 false (.mp ck gl o1_3),.obj 0 false (.vec 161 dZ o2_3)],(List.replicate 107 [])⟩
abbrev aC.L1.Y0:=Unit
abbrev aC.L1.X0:=Nat×(List (cK×fa))×(List dQ)
def aC.L1.bp:aC.L1.X0→Exit×AS:=fun x=>(.ret,⟨(bl 6 ([.d ti (0:Int),.d ti (4:Int)]++bl 99 [])),[.obj 0 false (.pr (.ff (.dx 1) 0) (.pr (.bH (.dx 2) 0 [] 0 0 x.1) (.d .unit ()))),.obj 0 false (.mp ck gl x.2.1),.obj 0 false (.vec 161 dZ x.2.2)],(List.replicate 107 [])⟩)
abbrev aC.L1.Y1:=Unit
abbrev aC.L1.X1:=fv×Int×Nat×(List (cK×fa))×(List dQ)
def aC.L1.fA:aC.L1.X1→Exit×AS:=fun x=>(.exit 2,⟨(bl 4 ([.ej gI x.1]++bl 4 ([.d ti x.2.1]++bl 97 []))),[.obj 0 false (.pr (.ff (.dx 1) 0) (.pr (.bH (.dx 2) 0 [] 0 0 x.2.2.1) (.d .unit ()))),.obj 0 false (.mp ck gl x.2.2.2.1),.obj 0 false (.vec 161 dZ x.2.2.2.2)],(List.replicate 107 [])⟩)
abbrev aC.L1.X:=(aC.L1.X0)⊕(aC.L1.X1)
abbrev aC.L1.Y:=(aC.L1.Y0)⊕(aC.L1.Y1)
def aC.L1.out:aC.L1.X→Out (Exit×AS):=fun x=> .br x.isLeft (.get x.getLeft? fun a=> .ok (aC.L1.bp a)) (.get x.getRight? fun b=> .ok (aC.L1.fA b))
def aC.L1.add:aC.L1.D→aC.L1.Y→aC.L1.X:=fun(t_3,fee_2,t75,t76,t77,o0L_2,o1_3,o2_3) y=>match y with | .inl y=> .inl (o0L_2,o1_3,o2_3) | .inr z=> .inr ((t_3,fee_2,o0L_2,o1_3,o2_3))
abbrev aC.L2.D:=Int×(List gm)×Int×Int×Nat×(List (cK×fa))×(List dQ)
def aC.L2.st:aC.L2.D→AS:=fun(fee_3,t93,t94,t95,o0L_3,o1_4,o2_4)=>⟨(bl 9 ([.d ti fee_3]++bl 83 ([.d (.slice fe) t93,.d ti t94,.d ti t95]++bl 11 []))),[.obj 0 false (.pr (.ff (.dx 1) 0) (.pr (.bH (.dx 2) 0 [] 0 0 o0L_3) (.d .unit ()))),.obj 0 false (.mp ck gl o1_4),.obj 0 false (.vec 161 dZ o2_4)],(List.replicate 107 [])⟩
abbrev aC.L2.Y0:=Int
abbrev aC.L2.X0:=(Nat×(List (cK×fa))×(List dQ))×(Int)
def aC.L2.bp:aC.L2.X0→Exit×AS:=fun x=>(.exit 4,⟨(bl 9 ([.d ti x.2]++bl 97 [])),[.obj 0 false (.pr (.ff (.dx 1) 0) (.pr (.bH (.dx 2) 0 [] 0 0 x.1.1) (.d .unit ()))),.obj 0 false (.mp ck gl x.1.2.1),.obj 0 false (.vec 161 dZ x.1.2.2)],(List.replicate 107 [])⟩)
abbrev aC.L2.X:=aC.L2.X0
abbrev aC.L2.Y:=aC.L2.Y0
def aC.L2.out:aC.L2.X→Out (Exit×AS):=fun x=> .ok (aC.L2.bp x)
def aC.L2.add:aC.L2.D→aC.L2.Y→aC.L2.X:=fun(fee_3,t93,t94,t95,o0L_3,o1_4,o2_4) y=>((o0L_3,o1_4,o2_4),y)
abbrev aC.D:=fv×Int×Nat×(List (cK×fa))×(List dQ)
def aC.st:aC.D→SA:=fun(t,height,o0baL,o1,o2)=>([.ptr (.dx 0) 0 [] 0,.d gI t,.d ti height],[.obj 0 false (.pr (.ff (.dx 1) 0) (.pr (.bH (.dx 2) 0 [] 0 0 o0baL) (.d .unit ()))),.obj 0 false (.mp ck gl o1),.obj 0 false (.vec 161 dZ o2)])
abbrev aC.Y:=Int×Int×Nat×(List (cK×fa))×(List dQ)
abbrev aC.X:=Int×Int×Nat×(List (cK×fa))×(List dQ)
def aC.out:aC.X→ba:=fun x=>⟨.cons (.d ti x.1) (.cons (.d ti x.2.1) (.nil)),[.obj 0 false (.pr (.ff (.dx 1) 0) (.pr (.bH (.dx 2) 0 [] 0 0 x.2.2.1) (.d .unit ()))),.obj 0 false (.mp ck gl x.2.2.2.1),.obj 0 false (.vec 161 dZ x.2.2.2.2)],[]⟩
def aC.add:aC.D→aC.Y→aC.X:=fun(t,height,o0baL,o1,o2) y=>y
def jb(h:Int)(id:List Int)(a:List (cK×fa)):List ia→Int→Int⊕Int
 |[],fR=> .inr fR
 |x::l,fR=>match cz ck x.1 a with
  |none=> .inl 5
  |some c=>if kb c.1.2.1 x.2.1 id h (h - c.2.1)≠0 then .inl (kb c.1.2.1 x.2.1 id h (h - c.2.1)) else jb h id a l (fR+c.1.1)
def gW(a:List (cK×fa))(o:cK):Bool:=(cz ck o a).isSome
def fw(l:List gm):Int:=(l.map (·.1)).sum
def ee(t:fv)(h:Int)(a:List (cK×fa)):Int×Int:=
 if gU t=true∧1≤h∧h≤1048576 then
  match jb h (lS t) a t.1 0 with
  | .inl e=>(0,e)
  | .inr fR=>if(fo t).any (gW a)=true then(0,4) else if fR - fw t.2.1 < 0 then(0,8) else(fR - fw t.2.1,0)
 else(0,1)
def aC.L0.av:aC.L0.D→Prop:=fun(h,_,fR,l,n,i,_,a,_,id)=>(0≤h∧h≤1048576)∧Sm id∧l.length≤64∧(∀x∈l,HG x)∧qo a∧∃k:Nat,k≤l.length∧i=k∧n=l.length∧0≤fR∧fR≤(k:Int)*1125899906842624
def aC.L0.F:aC.L0.D→aC.L0.Y:=fun(h,_,fR,l,_,i,_,a,_,id)=>jb h id a (l.drop i.toNat) fR
def aC.L1.av:aC.L1.D→Prop:=fun(_,_,l,n,i,_,_,_)=>l.length≤1000∧∃k:Nat,k≤l.length∧i=k∧n=l.length
def aC.L1.F:aC.L1.D→aC.L1.Y:=fun(_,_,l,_,i,_,a,_)=>if(l.drop i.toNat).any (gW a)=true then .inl () else .inr ()
def aC.L2.av:aC.L2.D→Prop:=fun(fR,l,n,i,_,_,_)=>l.length≤64∧(∀o∈l,0≤o.1∧o.1≤1125899906842624)∧∃k:Nat,k≤l.length∧i=k∧n=l.length∧ -((k:Int)*1125899906842624)≤fR∧fR≤1000000000000000000
def aC.L2.F:aC.L2.D→aC.L2.Y:=fun(fR,l,_,i,_,_,_)=>fR - fw (l.drop i.toNat)
def aC.av:aC.D→Prop:=fun(t,_,_,a,_)=>nE t∧qo a
def aC.F:aC.D→aC.Y:=fun(t,h,n,a,s)=>((ee t h a).1,(ee t h a).2,n,a,s)
noncomputable def aC.G:ed:=fk (P:=Tryz.prog) [aw.sg,tid.sg,bF.sg,bQ.sg]
noncomputable def aC.L0.E:=bU.cD aC.L0.st aC.L0.av aC.L0.add aC.L0.F aC.L0.out
noncomputable def aC.L0.call:aC.L0.D→Option aC.L0.X:=dw aC.L0.E aC.L0.st
noncomputable def aC.L1.E:=bU.cD aC.L1.st aC.L1.av aC.L1.add aC.L1.F aC.L1.out
noncomputable def aC.L1.call:aC.L1.D→Option aC.L1.X:=dw aC.L1.E aC.L1.st
noncomputable def aC.L2.E:=bU.cD aC.L2.st aC.L2.av aC.L2.add aC.L2.F aC.L2.out
noncomputable def aC.L2.call:aC.L2.D→Option aC.L2.X:=dw aC.L2.E aC.L2.st
noncomputable def aC.an:eQ:= {loops:=jB [(5,{bn:=[0,2,4,8,9,35,36,37],sites:=[8]}),(16,{bn:=[0,4,9,75,76,77]}),(23,{bn:=[9,93,94,95]})],outs:=jA [(5,{bn:=[0,4,9]},{bn:=[6,7]}),(16,{bn:=[4,9]},{bn:=[6,7]}),(23,{bn:=[9]},{bn:=[6,7]})],fC:=kf [(5,aC.L0.E),(16,aC.L1.E),(23,aC.L2.E)]}
noncomputable def aC.A:= @cY Tryz.prog aC.G aC.an 0 Tryz.f29 _ aC.st
abbrev aC.Ok:=dd @aC.A aC.av aC.add aC.F aC.out
noncomputable def aC.L0.R:= @cj Tryz.prog aC.G aC.an 0 Tryz.f29 0 _ aC.L0.st
abbrev aC.L0.Ok:=ew Tryz.prog aC.G aC.an 0 Tryz.f29 0 aC.L0.st aC.L0.av aC.L0.add aC.L0.F aC.L0.out
noncomputable def aC.L1.R:= @cj Tryz.prog aC.G aC.an 0 Tryz.f29 1 _ aC.L1.st
abbrev aC.L1.Ok:=ew Tryz.prog aC.G aC.an 0 Tryz.f29 1 aC.L1.st aC.L1.av aC.L1.add aC.L1.F aC.L1.out
noncomputable def aC.L2.R:= @cj Tryz.prog aC.G aC.an 0 Tryz.f29 2 _ aC.L2.st
abbrev aC.L2.Ok:=ew Tryz.prog aC.G aC.an 0 Tryz.f29 2 aC.L2.st aC.L2.av aC.L2.add aC.L2.F aC.L2.out
theorem aC.L0.run:bM aC.L0.call aC.L0.av aC.L0.add aC.L0.F:=eM (eL [.d ti,.d gI,.d ti,.d (.slice gz),.d ti,.d ti,.n,.d (.slice (.pair ck gl)),.d (.slice dZ),.d tB] fun _=>by kernel_rfl)
theorem aC.L0.aB:kC @aC.L0.R aC.L0.st aC.L0.av aC.L0.add aC.L0.F aC.L0.out aC.L0.Ok:=kL
theorem aC.L0.step{R:Type}(height_2:Int)(t_2:fv)(fR:Int)(t35:(List ia))(t36:Int)(t37:Int)(o0L:Nat)(o1_2:(List (cK×fa)))(o2_2:(List dQ))(n8:Bs)(kn:AS→Option R)(kx:Exit→AS→Option R):aC.L0.R (height_2,t_2,fR,t35,t36,t37,o0L,o1_2,o2_2,n8) kn kx=
  aG ((fM t37 t36)) (
   aG (eI t37 (((List.length t35):Nat):Int)) (
   aG ((!(cz ck (nth gz t35 (Int.toNat t37)).1 o1_2).isSome)) (
    kx (aC.L0.bp ((o0L,o1_2,o2_2),(5:Int))).1 (aC.L0.bp ((o0L,o1_2,o2_2),(5:Int))).2) (
    ah (bF.call (((cz ck (nth gz t35 (Int.toNat t37)).1 o1_2).getD (((0:Int),((([]:List ik),()),())),((0:Int),()))).1.2.1,(nth gz t35 (Int.toNat t37)).2.1,n8,height_2,(da .i64 height_2 ((cz ck (nth gz t35 (Int.toNat t37)).1 o1_2).getD (((0:Int),((([]:List ik),()),())),((0:Int),()))).2.1))) fun x1=>
    aG ((mM x1 (0:Int))) (
     kx (aC.L0.bp ((o0L,o1_2,o2_2),x1)).1 (aC.L0.bp ((o0L,o1_2,o2_2),x1)).2) (
     kn (aC.L0.st (height_2,t_2,(bN .i64 fR ((cz ck (nth gz t35 (Int.toNat t37)).1 o1_2).getD (((0:Int),((([]:List ik),()),())),((0:Int),()))).1.1),t35,t36,(bN .i64 t37 (1:Int)),o0L,o1_2,o2_2,n8))))) none) (
   kx (aC.L0.fA ((t_2,o0L,o1_2,o2_2),fR)).1 (aC.L0.fA ((t_2,o0L,o1_2,o2_2),fR)).2):=by kernel_rfl
theorem aC.L1.run:bM aC.L1.call aC.L1.av aC.L1.add aC.L1.F:=eM (eL [.d gI,.d ti,.d (.slice ck),.d ti,.d ti,.n,.d (.slice (.pair ck gl)),.d (.slice dZ)] fun _=>by kernel_rfl)
theorem aC.L1.aB:kC @aC.L1.R aC.L1.st aC.L1.av aC.L1.add aC.L1.F aC.L1.out aC.L1.Ok:=kL
theorem aC.L1.step{R:Type}(t_3:fv)(fee_2:Int)(t75:(List cK))(t76:Int)(t77:Int)(o0L_2:Nat)(o1_3:(List (cK×fa)))(o2_3:(List dQ))(kn:AS→Option R)(kx:Exit→AS→Option R):aC.L1.R (t_3,fee_2,t75,t76,t77,o0L_2,o1_3,o2_3) kn kx=
  aG ((fM t77 t76)) (
   aG (eI t77 (((List.length t75):Nat):Int)) (
   aG ((cz ck (nth ck t75 (Int.toNat t77)) o1_3).isSome) (
    kx (aC.L1.bp (o0L_2,o1_3,o2_3)).1 (aC.L1.bp (o0L_2,o1_3,o2_3)).2) (
    kn (aC.L1.st (t_3,fee_2,t75,t76,(bN .i64 t77 (1:Int)),o0L_2,o1_3,o2_3)))) none) (
   kx (aC.L1.fA (t_3,fee_2,o0L_2,o1_3,o2_3)).1 (aC.L1.fA (t_3,fee_2,o0L_2,o1_3,o2_3)).2):=by kernel_rfl
theorem aC.L2.run:bM aC.L2.call aC.L2.av aC.L2.add aC.L2.F:=eM (eL [.d ti,.d (.slice fe),.d ti,.d ti,.n,.d (.slice (.pair ck gl)),.d (.slice dZ)] fun _=>by kernel_rfl)
theorem aC.L2.aB:fQ @aC.L2.R aC.L2.st aC.L2.av aC.L2.add aC.L2.F aC.L2.bp aC.L2.Ok:=fU
theorem aC.L2.step{R:Type}(fee_3:Int)(t93:(List gm))(t94:Int)(t95:Int)(o0L_3:Nat)(o1_4:(List (cK×fa)))(o2_4:(List dQ))(kn:AS→Option R)(kx:Exit→AS→Option R):aC.L2.R (fee_3,t93,t94,t95,o0L_3,o1_4,o2_4) kn kx=
  aG ((fM t95 t94)) (
   aG (eI t95 (((List.length t93):Nat):Int)) (
   kn (aC.L2.st ((da .i64 fee_3 (nth fe t93 (Int.toNat t95)).1),t93,t94,(bN .i64 t95 (1:Int)),o0L_3,o1_4,o2_4))) none) (
   kx (aC.L2.bp ((o0L_3,o1_4,o2_4),fee_3)).1 (aC.L2.bp ((o0L_3,o1_4,o2_4),fee_3)).2):=by kernel_rfl
theorem aC.eq{R:Type}(t:fv)(height:Int)(o0baL:Nat)(o1:(List (cK×fa)))(o2:(List dQ))(k:ba→Option R):aC.A (t,height,o0baL,o1,o2) k=
  ah (aw.call t) fun x1=>
  aG ((!x1)) (
   k (aC.out ((0:Int),(1:Int),o0baL,o1,o2))) (
   aG ((fM height (1:Int))) (
    k (aC.out ((0:Int),(1:Int),o0baL,o1,o2))) (
    aG ((nN height (1048576:Int))) (
     k (aC.out ((0:Int),(1:Int),o0baL,o1,o2))) (
     ah (tid.call t) fun x2=>
     ah (aC.L0.call (height,t,(0:Int),t.1,(((List.length t.1):Nat):Int),(0:Int),o0baL,o1,o2,x2)) fun x4=>
     aG (x4.isLeft) (
      ah (x4.getLeft?) fun a5=>
      k (aC.out ((0:Int),a5.2,a5.1.1,a5.1.2.1,a5.1.2.2))) (
      ah (x4.getRight?) fun b6=>
      ah (bQ.call b6.1.1) fun x7=>
      ah (aC.L1.call (b6.1.1,b6.2,x7,(((List.length x7):Nat):Int),(0:Int),b6.1.2.1,b6.1.2.2.1,b6.1.2.2.2)) fun x8=>
      aG (x8.isLeft) (
       ah (x8.getLeft?) fun a9=>
       k (aC.out ((0:Int),(4:Int),a9.1,a9.2.1,a9.2.2))) (
       ah (x8.getRight?) fun b10=>
       ah (aC.L2.call (b10.2.1,b10.1.2.1,(((List.length b10.1.2.1):Nat):Int),(0:Int),b10.2.2.1,b10.2.2.2.1,b10.2.2.2.2)) fun x11=>
       aG ((fM x11.2 (0:Int))) (
        k (aC.out ((0:Int),(8:Int),x11.1.1,x11.1.2.1,x11.1.2.2))) (
        k (aC.out (x11.2,(0:Int),x11.1.1,x11.1.2.1,x11.1.2.2)))))))):=by kernel_rfl
theorem aC.L0.ok:aC.L0.Ok:=by
 refine aC.L0.aB (fun(_,_,_,l,_,i,_,_,_,_)=>l.length - i.toNat) ?_
 rintro⟨h,t,fR,l,n,i,o,a,s,id⟩ ⟨⟨hh1,hh2⟩,hid,hl,hu,ha,k,hk,rfl,rfl,hf1,hf2⟩
 have hh1:0≤h:=hh1
 have hh2:h≤1048576:=hh2
 have hl:l.length≤64:=hl
 have hf1:0≤fR:=hf1
 have hf2:fR≤(k:Int)*1125899906842624:=hf2
 have hk:k≤l.length:=hk
 by_cases hlt:k < l.length
 ·have hx:=hu _ (List.getElem_mem hlt)
  have n1:nth gz l k=l[k]:=cn (t:=gz) hlt
  have hd:l.drop k=l[k]::l.drop (k+1):=List.drop_eq_getElem_cons hlt
  cases hg:cz ck l[k].1 a with
  |none=>
   right
   refine⟨aC.L0.bp ((o,a,s),5),?_,fun kn kx=> ?_⟩
   rotate_left
   ·rw[aC.L0.step,aW (by omega),ae,bm (by omega) (by omega),ae,Int.toNat_natCast,n1,hg]
    simp only[Option.isSome_none,Bool.not_false,ae]
   ·simp only[aC.L0.add,aC.L0.F,Int.toNat_natCast,hd,jb,hg]
    rfl
  |some c=>
   have hc:=ha.get hg
   obtain⟨c1,c2,c3,c4,c5,c6⟩:=hc
   have hst:∀ {R:Type} (kn:AS→Option R) (kx:Exit→AS→Option R),aC.L0.R (h,t,fR,l,(l.length:Int),(k:Int),o,a,s,id) kn kx=
     aG (mM (kb c.1.2.1 l[k].2.1 id h (h - c.2.1)) 0) (kx (aC.L0.bp ((o,a,s),kb c.1.2.1 l[k].2.1 id h (h - c.2.1))).1 (aC.L0.bp ((o,a,s),kb c.1.2.1 l[k].2.1 id h (h - c.2.1))).2)
      (kn (aC.L0.st (h,t,fR+c.1.1,l,(l.length:Int),((k+1:Nat):Int),o,a,s,id))):=fun kn kx=>by
    rw[aC.L0.step,aW (by omega),ae,bm (by omega) (by omega),ae,Int.toNat_natCast,n1,hg]
    simp only[Option.isSome_some,Bool.not_true,ag,Option.getD_some]
    rw[eS (by omega) (by omega),bF.run (d:=(c.1.2.1,l[k].2.1,id,h,h - c.2.1)) ⟨c2,by have:=oM c1;omega,hx.2.1,hid⟩]
    simp only[aa,bF.add,bF.F]
    rw[gF (by omega) (by omega),N.j5 (by omega)]
   by_cases he:kb c.1.2.1 l[k].2.1 id h (h - c.2.1)=0
   ·left
    refine⟨(h,t,fR+c.1.1,l,(l.length:Int),((k+1:Nat):Int),o,a,s,id),⟨⟨hh1,hh2⟩,hid,hl,hu,ha,k+1,by omega,rfl,rfl,by show 0≤fR+c.1.1;omega,by show fR+c.1.1≤_;omega⟩,by simp only[Int.toNat_natCast];omega,?_,fun kn kx=> ?_⟩
    ·simp only[aC.L0.add,aC.L0.F,Int.toNat_natCast,hd,jb,hg,he,ne_eq,not_true_eq_false,if_false]
    ·rw[hst,ct he,ag]
   ·right
    refine⟨aC.L0.bp ((o,a,s),kb c.1.2.1 l[k].2.1 id h (h - c.2.1)),?_,fun kn kx=> ?_⟩
    rotate_left
    ·rw[hst,fg he,ae]
    ·simp only[aC.L0.add,aC.L0.F,Int.toNat_natCast,hd,jb,hg]
     rw[if_pos he]
     rfl
 ·right
  obtain rfl:k=l.length:=by omega
  refine⟨aC.L0.fA ((t,o,a,s),fR),?_,fun kn kx=> ?_⟩
  rotate_left
  ·rw[aC.L0.step,aO (by omega),ag]
  ·simp only[aC.L0.add,aC.L0.F,Int.toNat_natCast,List.drop_length,jb]
   rfl
theorem aC.L1.ok:aC.L1.Ok:=by
 refine aC.L1.aB (fun(_,_,l,_,i,_,_,_)=>l.length - i.toNat) ?_
 rintro⟨t,fR,l,n,i,o,a,s⟩ ⟨hl,k,hk,rfl,rfl⟩
 have hl:l.length≤1000:=hl
 have hk:k≤l.length:=hk
 by_cases hlt:k < l.length
 ·have n1:nth ck l k=l[k]:=cn (t:=ck) hlt
  have hd:l.drop k=l[k]::l.drop (k+1):=List.drop_eq_getElem_cons hlt
  cases hg:(cz ck l[k] a).isSome with
  |true=>
   right
   refine⟨aC.L1.bp (o,a,s),?_,fun kn kx=> ?_⟩
   rotate_left
   ·rw[aC.L1.step,aW (by omega),ae,bm (by omega) (by omega),ae,Int.toNat_natCast,n1,hg,ae]
   ·simp only[aC.L1.add,aC.L1.F,Int.toNat_natCast,hd,List.any_cons,gW,hg,Bool.true_or,if_true]
    rfl
  |false=>
   left
   refine⟨(t,fR,l,(l.length:Int),((k+1:Nat):Int),o,a,s),⟨hl,k+1,by omega,rfl,rfl⟩,by simp only[Int.toNat_natCast];omega,?_,fun kn kx=> ?_⟩
   ·simp only[aC.L1.add,aC.L1.F,Int.toNat_natCast,hd,List.any_cons,gW,hg,Bool.false_or]
   ·rw[aC.L1.step,aW (by omega),ae,bm (by omega) (by omega),ae,Int.toNat_natCast,n1,hg,ag,N.j5 (by omega)]
 ·right
  obtain rfl:k=l.length:=by omega
  refine⟨aC.L1.fA (t,fR,o,a,s),?_,fun kn kx=> ?_⟩
  rotate_left
  ·rw[aC.L1.step,aO (by omega),ag]
  ·simp only[aC.L1.add,aC.L1.F,Int.toNat_natCast,List.drop_length,List.any_nil,Bool.false_eq_true,if_false]
   rfl
theorem aC.L2.ok:aC.L2.Ok:=by
 refine aC.L2.aB (fun(_,l,_,i,_,_,_)=>l.length - i.toNat) ?_
 rintro⟨fR,l,n,i,o,a,s⟩ ⟨hl,ho,k,hk,rfl,rfl,hf1,hf2⟩
 have hl:l.length≤64:=hl
 have hk:k≤l.length:=hk
 have hf1: -((k:Int)*1125899906842624)≤fR:=hf1
 have hf2:fR≤1000000000000000000:=hf2
 by_cases hlt:k < l.length
 ·left
  have n1:nth fe l k=l[k]:=cn (t:=fe) hlt
  have hd:l.drop k=l[k]::l.drop (k+1):=List.drop_eq_getElem_cons hlt
  have hx:=ho _ (List.getElem_mem hlt)
  refine⟨(fR - l[k].1,l,(l.length:Int),((k+1:Nat):Int),o,a,s),⟨hl,ho,k+1,by omega,rfl,rfl,by show _≤fR - l[k].1;omega,by show fR - l[k].1≤_;omega⟩,by simp only[Int.toNat_natCast];omega,?_,fun kn kx=> ?_⟩
  ·simp only[aC.L2.add,aC.L2.F,Int.toNat_natCast,hd,fw,List.map_cons,List.sum_cons]
   rw[Int.sub_sub]
  ·rw[aC.L2.step,aW (by omega),ae,bm (by omega) (by omega),ae,Int.toNat_natCast,n1,eS (by omega) (by omega),N.j5 (by omega)]
 ·right
  obtain rfl:k=l.length:=by omega
  intro R kn kx
  rw[aC.L2.step,aO (by omega),ag]
  simp only[aC.L2.add,aC.L2.F,Int.toNat_natCast,List.drop_length,fw,List.map_nil,List.sum_nil,Int.sub_zero]
theorem ka{t:fv}(h:gU t=true):(fo t).length=t.2.1.length:=by
 unfold fo
 rw[if_pos h]
 simp[kj]
theorem pZ{h:Int}{id:List Int}{a:List (cK×fa)}(ha:qo a):∀(l:List ia) (fR f:Int),jb h id a l fR= .inr f→fR≤f∧f≤fR+(l.length:Int)*1125899906842624
 |[],fR,f,e=>by simp only[jb,Sum.inr.injEq]at e;subst e;simp
 |x::l,fR,f,e=>by
  simp only[jb]at e
  cases hg:cz ck x.1 a with
  |none=>rw[hg]at e;cases e
  |some c=>
   rw[hg]at e
   simp only at e
   split at e
   ·cases e
   ·have hc:=ha.get hg
    have:=pZ ha l _ _ e
    obtain⟨_,_,c3,c4,_⟩:=hc
    rw[List.length_cons]
    omega
theorem aC.ok:aC.Ok:=by
 rintro⟨t,h,n,a,s⟩ ⟨hv,ha⟩
 have hv:nE t:=hv
 have ha:qo a:=ha
 rw[aC.eq,aw.run (d:=t) hv.1]
 simp only[aa,aw.add,aw.F,aC.add,aC.F,ee]
 by_cases hok:gU t=true
 ·rw[hok,Bool.not_true,ag]
  obtain⟨⟨_,a2,a3,_⟩,b1,b2⟩:=iF hok
  by_cases h1:1≤h
  ·rw[aO (by omega),ag]
   by_cases h2:h≤1048576
   ·rw[dI (by omega),ag,if_pos ⟨rfl,h1,h2⟩,tid.run (d:=t) hv]
    simp only[aa,tid.add,tid.F]
    rw[aC.L0.run (d:=(h,t,0,t.1,(t.1.length:Int),0,n,a,s,lS t)) ⟨⟨by show 0≤h;omega,h2⟩,uS,a2,hv.2.1,ha,0,Nat.zero_le _,rfl,rfl,by decide,by decide⟩]
    simp only[aa,aC.L0.add,aC.L0.F,Int.toNat_zero,List.drop_zero]
    cases hi:jb h (lS t) a t.1 0 with
    |inl e=>
     simp only[Sum.isLeft_inl,ae,Sum.getLeft?_inl,aa]
    |inr fR=>
     have hb:=pZ ha _ _ _ hi
     simp only[Sum.isLeft_inr,ag,Sum.getRight?_inr,aa]
     rw[bQ.run (d:=t) hv]
     simp only[aa,bQ.add,bQ.F]
     rw[aC.L1.run (d:=(t,fR,fo t,((fo t).length:Int),0,n,a,s)) ⟨by rw[ka hok];omega,0,Nat.zero_le _,rfl,rfl⟩]
     simp only[aa,aC.L1.add,aC.L1.F,Int.toNat_zero,List.drop_zero]
     by_cases hm:(fo t).any (gW a)=true
     ·rw[if_pos hm]
      simp only[Sum.isLeft_inl,ae,Sum.getLeft?_inl,aa,if_true,hm]
     ·rw[if_neg hm]
      simp only[Sum.isLeft_inr,ag,Sum.getRight?_inr,aa]
      rw[aC.L2.run (d:=(fR,t.2.1,(t.2.1.length:Int),0,n,a,s)) ⟨a3,fun o ho=>(iD _ _ b2 o ho).1,0,Nat.zero_le _,rfl,rfl,by show -((0:Int)*_)≤fR;omega,by show fR≤_;omega⟩]
      simp only[aa,aC.L2.add,aC.L2.F,Int.toNat_zero,List.drop_zero]
      rw[if_neg hm]
      by_cases hf:fR - fw t.2.1 < 0
      ·rw[aW hf,ae,if_pos hf]
      ·rw[aO hf,ag,if_neg hf]
   ·rw[dY (by omega),ae,if_neg (fun e=>h2 e.2.2)]
  ·rw[aW (by omega),ae,if_neg (fun e=>h1 e.2.1)]
 ·have hok':gU t=false:=by simpa using hok
  rw[hok',Bool.not_false,ae,if_neg (fun e=>by cases e.1)]
noncomputable def aC.E:=Entry.cD [none,some gI,some ti] aC.st aC.av aC.add aC.F aC.out
noncomputable def aC.call:aC.D→Option aC.X:=bS aC.E aC.st
theorem aC.run:bM aC.call aC.av aC.add aC.F:=dq (df [.d gI,.d ti,.n,.d (.slice (.pair ck gl)),.d (.slice dZ)] fun _=>by kernel_rfl)
noncomputable def aC.sg:SG Tryz.prog:=⟨29,aR,aC.E,.fn 3 (by kernel_rfl) aC.ok (And.intro (.cD aC.L0.ok (by kernel_rfl)) (And.intro (.cD aC.L1.ok (by kernel_rfl)) (And.intro (.cD aC.L2.ok (by kernel_rfl)) trivial)))⟩
set_option synthInstance.maxSize 5000
abbrev aU.L0.D:=Int×(List cK)×Int×Int×Nat×(List (cK×fa))×(List dQ)
def aU.L0.st:aU.L0.D→AS:=fun(n,t23,t24,t25,o0L,o1_2,o2_2)=>⟨([.ptr (.dx 0) 0 [] 0,.undef,.undef,.d ti n]++bl 19 ([.d (.slice ck) t23,.d ti t24,.d ti t25]++bl 40 [])),[.obj 0 false (.pr (.ff (.dx 1) 0) (.pr (.bH (.dx 2) 0 [] 0 0 o0L) (.d .unit ()))),.obj 0 false (.mp ck gl o1_2),.obj 0 false (.vec 161 dZ o2_2)],(List.replicate 66 [])⟩
abbrev aU.L0.Y0:=(List (cK×fa))
abbrev aU.L0.X0:=(Int×Nat×(List dQ))×((List (cK×fa)))
def aU.L0.bp:aU.L0.X0→Exit×AS:=fun x=>(.exit 0,⟨([.ptr (.dx 0) 0 [] 0,.undef,.undef,.d ti x.1.1]++bl 62 []),[.obj 0 false (.pr (.ff (.dx 1) 0) (.pr (.bH (.dx 2) 0 [] 0 0 x.1.2.1) (.d .unit ()))),.obj 0 false (.mp ck gl x.2),.obj 0 false (.vec 161 dZ x.1.2.2)],(List.replicate 66 [])⟩)
abbrev aU.L0.X:=aU.L0.X0
abbrev aU.L0.Y:=aU.L0.Y0
def aU.L0.out:aU.L0.X→Out (Exit×AS):=fun x=> .ok (aU.L0.bp x)
def aU.L0.add:aU.L0.D→aU.L0.Y→aU.L0.X:=fun(n,t23,t24,t25,o0L,o1_2,o2_2) y=>((n,o0L,o2_2),y)
abbrev aU.L1.D:=Int×(List dM)×Int×Int×Nat×(List (cK×fa))×(List dQ)
def aU.L1.st:aU.L1.D→AS:=fun(n_2,t42,t43,t44,o0L_2,o1_3,o2_3)=>⟨([.ptr (.dx 0) 0 [] 0,.undef,.undef,.d ti n_2]++bl 38 ([.d (.slice eN) t42,.d ti t43,.d ti t44]++bl 21 [])),[.obj 0 false (.pr (.ff (.dx 1) 0) (.pr (.bH (.dx 2) 0 [] 0 0 o0L_2) (.d .unit ()))),.obj 0 false (.mp ck gl o1_3),.obj 0 false (.vec 161 dZ o2_3)],(List.replicate 66 [])⟩
abbrev aU.L1.Y0:=(List (cK×fa))
abbrev aU.L1.X0:=(Int×Nat×(List dQ))×((List (cK×fa)))
def aU.L1.bp:aU.L1.X0→Exit×AS:=fun x=>(.exit 2,⟨([.ptr (.dx 0) 0 [] 0,.undef,.undef,.d ti x.1.1]++bl 62 []),[.obj 0 false (.pr (.ff (.dx 1) 0) (.pr (.bH (.dx 2) 0 [] 0 0 x.1.2.1) (.d .unit ()))),.obj 0 false (.mp ck gl x.2),.obj 0 false (.vec 161 dZ x.1.2.2)],(List.replicate 66 [])⟩)
abbrev aU.L1.X:=aU.L1.X0
abbrev aU.L1.Y:=aU.L1.Y0
def aU.L1.out:aU.L1.X→Out (Exit×AS):=fun x=> .ok (aU.L1.bp x)
def aU.L1.add:aU.L1.D→aU.L1.Y→aU.L1.X:=fun(n_2,t42,t43,t44,o0L_2,o1_3,o2_3) y=>((n_2,o0L_2,o2_3),y)
abbrev aU.D:=Nat×(List (cK×fa))×(List dQ)
def aU.st:aU.D→SA:=fun(o0baL,o1,o2)=>([.ptr (.dx 0) 0 [] 0],[.obj 0 false (.pr (.ff (.dx 1) 0) (.pr (.bH (.dx 2) 0 [] 0 0 o0baL) (.d .unit ()))),.obj 0 false (.mp ck gl o1),.obj 0 false (.vec 161 dZ o2)])
abbrev aU.Y:=Bool×Nat×(List (cK×fa))×(List dQ)
abbrev aU.X:=Bool×Nat×(List (cK×fa))×(List dQ)
def aU.out:aU.X→ba:=fun x=>⟨.d .bool x.1,[.obj 0 false (.pr (.ff (.dx 1) 0) (.pr (.bH (.dx 2) 0 [] 0 0 x.2.1) (.d .unit ()))),.obj 0 false (.mp ck gl x.2.2.1),.obj 0 false (.vec 161 dZ x.2.2.2)],[]⟩
def aU.add:aU.D→aU.Y→aU.X:=fun(o0baL,o1,o2) y=>y
def ln(l:List cK)(a:List (cK×fa)):List (cK×fa):=l.foldl (fun m o=>gG ck o m) a
def ur(l:List dM)(a:List (cK×fa)):List (cK×fa):=l.foldl (fun m e=>fH ck e.1 e.2.1 m) a
def kI(a:List (cK×fa))(st:dQ):List (cK×fa):=ur st.1 (ln st.2.1 a)
def aU.L0.av:aU.L0.D→Prop:=fun(_,l,n,i,_,_,_)=>l.length≤1000∧∃k:Nat,k≤l.length∧i=k∧n=l.length
def aU.L0.F:aU.L0.D→aU.L0.Y:=fun(_,l,_,i,_,a,_)=>ln (l.drop i.toNat) a
def aU.L1.av:aU.L1.D→Prop:=fun(_,l,n,i,_,_,_)=>l.length≤1000∧∃k:Nat,k≤l.length∧i=k∧n=l.length
def aU.L1.F:aU.L1.D→aU.L1.Y:=fun(_,l,_,i,_,a,_)=>ur (l.drop i.toNat) a
def Co(st:dQ):Prop:=st.1.length≤1000∧st.2.1.length≤1000
def aU.av:aU.D→Prop:=fun(n,_,s)=>n≤s.length∧s.length≤1000000∧∀st∈s,Co st
def aU.F:aU.D→aU.Y:=fun(n,a,s)=>if n=0 then(false,n,a,s) else(true,n - 1,kI a (nth dZ s (n - 1)),s)
noncomputable def aU.G:ed:=fk (P:=Tryz.prog) []
noncomputable def aU.L0.E:=bU.cD aU.L0.st aU.L0.av aU.L0.add aU.L0.F aU.L0.out
noncomputable def aU.L0.call:aU.L0.D→Option aU.L0.X:=dw aU.L0.E aU.L0.st
noncomputable def aU.L1.E:=bU.cD aU.L1.st aU.L1.av aU.L1.add aU.L1.F aU.L1.out
noncomputable def aU.L1.call:aU.L1.D→Option aU.L1.X:=dw aU.L1.E aU.L1.st
noncomputable def aU.an:eQ:= {loops:=jB [(5,{bn:=[0,3,23,24,25]}),(10,{bn:=[0,3,42,43,44]})],outs:=jA [(5,{bn:=[0,3]},{bn:=[2]}),(10,{bn:=[0,3]},{bn:=[2]})],fC:=kf [(5,aU.L0.E),(10,aU.L1.E)]}
noncomputable def aU.A:= @cY Tryz.prog aU.G aU.an 0 Tryz.f37 _ aU.st
abbrev aU.Ok:=dd @aU.A aU.av aU.add aU.F aU.out
noncomputable def aU.L0.R:= @cj Tryz.prog aU.G aU.an 0 Tryz.f37 0 _ aU.L0.st
abbrev aU.L0.Ok:=ew Tryz.prog aU.G aU.an 0 Tryz.f37 0 aU.L0.st aU.L0.av aU.L0.add aU.L0.F aU.L0.out
noncomputable def aU.L1.R:= @cj Tryz.prog aU.G aU.an 0 Tryz.f37 1 _ aU.L1.st
abbrev aU.L1.Ok:=ew Tryz.prog aU.G aU.an 0 Tryz.f37 1 aU.L1.st aU.L1.av aU.L1.add aU.L1.F aU.L1.out
theorem aU.L0.run:bM aU.L0.call aU.L0.av aU.L0.add aU.L0.F:=eM (eL [.d ti,.d (.slice ck),.d ti,.d ti,.n,.d (.slice (.pair ck gl)),.d (.slice dZ)] fun _=>by kernel_rfl)
theorem aU.L0.aB:fQ @aU.L0.R aU.L0.st aU.L0.av aU.L0.add aU.L0.F aU.L0.bp aU.L0.Ok:=fU
theorem aU.L0.step{R:Type}(n:Int)(t23:(List cK))(t24:Int)(t25:Int)(o0L:Nat)(o1_2:(List (cK×fa)))(o2_2:(List dQ))(kn:AS→Option R)(kx:Exit→AS→Option R):aU.L0.R (n,t23,t24,t25,o0L,o1_2,o2_2) kn kx=
  aG ((fM t25 t24)) (
   aG (eI t25 (((List.length t23):Nat):Int)) (
   kn (aU.L0.st (n,t23,t24,(bN .i64 t25 (1:Int)),o0L,(gG ck (nth ck t23 (Int.toNat t25)) o1_2),o2_2))) none) (
   kx (aU.L0.bp ((n,o0L,o2_2),o1_2)).1 (aU.L0.bp ((n,o0L,o2_2),o1_2)).2):=by kernel_rfl
theorem aU.L1.run:bM aU.L1.call aU.L1.av aU.L1.add aU.L1.F:=eM (eL [.d ti,.d (.slice eN),.d ti,.d ti,.n,.d (.slice (.pair ck gl)),.d (.slice dZ)] fun _=>by kernel_rfl)
theorem aU.L1.aB:fQ @aU.L1.R aU.L1.st aU.L1.av aU.L1.add aU.L1.F aU.L1.bp aU.L1.Ok:=fU
theorem aU.L1.step{R:Type}(n_2:Int)(t42:(List dM))(t43:Int)(t44:Int)(o0L_2:Nat)(o1_3:(List (cK×fa)))(o2_3:(List dQ))(kn:AS→Option R)(kx:Exit→AS→Option R):aU.L1.R (n_2,t42,t43,t44,o0L_2,o1_3,o2_3) kn kx=
  aG ((fM t44 t43)) (
   aG (eI t44 (((List.length t42):Nat):Int)) (
   kn (aU.L1.st (n_2,t42,t43,(bN .i64 t44 (1:Int)),o0L_2,(fH ck (nth eN t42 (Int.toNat t44)).1 (nth eN t42 (Int.toNat t44)).2.1 o1_3),o2_3))) none) (
   kx (aU.L1.bp ((n_2,o0L_2,o2_3),o1_3)).1 (aU.L1.bp ((n_2,o0L_2,o2_3),o1_3)).2):=by kernel_rfl
theorem aU.eq{R:Type}(o0baL:Nat)(o1:(List (cK×fa)))(o2:(List dQ))(k:ba→Option R):aU.A (o0baL,o1,o2) k=
  aG ((fM (da .i64 ((o0baL:Nat):Int) (1:Int)) (0:Int))) (
   k (aU.out (false,o0baL,o1,o2))) (
   aG (eI (da .i64 ((o0baL:Nat):Int) (1:Int)) ((o0baL:Nat):Int)) (
   aG (decide ((0+(Int.toNat (da .i64 ((o0baL:Nat):Int) (1:Int)))) < (List.length o2))) (
   aG (decide ((((0+(Int.toNat (da .i64 ((o0baL:Nat):Int) (1:Int))))*2)+1)=((0+((Int.toNat (da .i64 ((o0baL:Nat):Int) (1:Int)))*2))+1))) (
   ah (aU.L0.call ((da .i64 ((o0baL:Nat):Int) (1:Int)),(nth dZ o2 (0+(Int.toNat (da .i64 ((o0baL:Nat):Int) (1:Int))))).2.1,(((List.length (nth dZ o2 (0+(Int.toNat (da .i64 ((o0baL:Nat):Int) (1:Int))))).2.1):Nat):Int),(0:Int),o0baL,o1,o2)) fun x1=>
   aG (eI x1.1.1 ((x1.1.2.1:Nat):Int)) (
   aG (decide ((0+(Int.toNat x1.1.1)) < (List.length x1.1.2.2))) (
   aG (decide ((((0+(Int.toNat x1.1.1))*2)+0)=((0+((Int.toNat x1.1.1)*2))+0))) (
   ah (aU.L1.call (x1.1.1,(nth dZ x1.1.2.2 (0+(Int.toNat x1.1.1))).1,(((List.length (nth dZ x1.1.2.2 (0+(Int.toNat x1.1.1))).1):Nat):Int),(0:Int),x1.1.2.1,x1.2,x1.1.2.2)) fun x2=>
   aG (inc x2.1.1 ((x2.1.2.1:Nat):Int)) (
   k (aU.out (true,((Int.toNat x2.1.1) - 0),x2.2,x2.1.2.2))) none) none) none) none) none) none) none):=by kernel_rfl
theorem aU.L0.ok:aU.L0.Ok:=by
 refine aU.L0.aB (fun(_,l,_,i,_,_,_)=>l.length - i.toNat) ?_
 rintro⟨u,l,n,i,o,a,s⟩ ⟨hl,k,hk,rfl,rfl⟩
 have hl:l.length≤1000:=hl
 have hk:k≤l.length:=hk
 by_cases hlt:k < l.length
 ·left
  have n1:nth ck l k=l[k]:=cn (t:=ck) hlt
  have hd:l.drop k=l[k]::l.drop (k+1):=List.drop_eq_getElem_cons hlt
  refine⟨(u,l,(l.length:Int),((k+1:Nat):Int),o,ln [l[k]] a,s),⟨hl,k+1,by omega,rfl,rfl⟩,by simp only[Int.toNat_natCast];omega,?_,fun kn kx=> ?_⟩
  ·simp only[aU.L0.add,aU.L0.F,Int.toNat_natCast,hd,ln,List.foldl_cons,List.foldl_nil]
  ·rw[aU.L0.step,aW (by omega),ae,bm (by omega) (by omega),ae,Int.toNat_natCast,n1,N.j5 (by omega)]
   rfl
 ·right
  obtain rfl:k=l.length:=by omega
  intro R kn kx
  rw[aU.L0.step,aO (by omega),ag]
  simp only[aU.L0.add,aU.L0.F,Int.toNat_natCast,List.drop_length,ln,List.foldl_nil]
theorem aU.L1.ok:aU.L1.Ok:=by
 refine aU.L1.aB (fun(_,l,_,i,_,_,_)=>l.length - i.toNat) ?_
 rintro⟨u,l,n,i,o,a,s⟩ ⟨hl,k,hk,rfl,rfl⟩
 have hl:l.length≤1000:=hl
 have hk:k≤l.length:=hk
 by_cases hlt:k < l.length
 ·left
  have n1:nth eN l k=l[k]:=cn (t:=eN) hlt
  have hd:l.drop k=l[k]::l.drop (k+1):=List.drop_eq_getElem_cons hlt
  refine⟨(u,l,(l.length:Int),((k+1:Nat):Int),o,ur [l[k]] a,s),⟨hl,k+1,by omega,rfl,rfl⟩,by simp only[Int.toNat_natCast];omega,?_,fun kn kx=> ?_⟩
  ·simp only[aU.L1.add,aU.L1.F,Int.toNat_natCast,hd,ur,List.foldl_cons,List.foldl_nil]
  ·rw[aU.L1.step,aW (by omega),ae,bm (by omega) (by omega),ae,Int.toNat_natCast,n1,N.j5 (by omega)]
   rfl
 ·right
  obtain rfl:k=l.length:=by omega
  intro R kn kx
  rw[aU.L1.step,aO (by omega),ag]
  simp only[aU.L1.add,aU.L1.F,Int.toNat_natCast,List.drop_length,ur,List.foldl_nil]
theorem aU.ok:aU.Ok:=by
 rintro⟨n,a,s⟩ ⟨h1,h2,h3⟩
 have h1:n≤s.length:=h1
 have h2:s.length≤1000000:=h2
 have h3:∀st∈s,Co st:=h3
 rw[aU.eq]
 simp only[aU.add,aU.F]
 cases n with
 |zero=>
  rw[aW (by decide),ae]
  rfl
 |succ m=>
  have e1:da .i64 (((m+1:Nat):Nat):Int) (1:Int)=(m:Int):=by rw[eS (by omega) (by omega)];omega
  have hm:m < s.length:=by omega
  have n1:nth dZ s m=s[m]:=cn (t:=dZ) hm
  have hs:=h3 _ (List.getElem_mem hm)
  rw[e1,aO (by omega),ag,bm (by omega) (by omega),ae]
  simp only[Int.toNat_natCast,Nat.zero_add,Nat.add_zero,aZ hm,ae,decide_true,n1]
  rw[aU.L0.run (d:=((m:Int),s[m].2.1,(s[m].2.1.length:Int),0,m+1,a,s)) ⟨hs.2,0,Nat.zero_le _,rfl,rfl⟩]
  simp only[aa,aU.L0.add,aU.L0.F,Int.toNat_zero,List.drop_zero]
  rw[bm (by omega) (by omega),ae]
  simp only[Int.toNat_natCast,Nat.zero_add,Nat.add_zero,aZ hm,ae,decide_true,n1]
  rw[aU.L1.run (d:=((m:Int),s[m].1,(s[m].1.length:Int),0,m+1,ln s[m].2.1 a,s)) ⟨hs.1,0,Nat.zero_le _,rfl,rfl⟩]
  simp only[aa,aU.L1.add,aU.L1.F,Int.toNat_zero,List.drop_zero]
  rw[jH (by omega) (by omega),ae,if_neg (by omega)]
  simp only[Int.toNat_natCast,Nat.sub_zero,Nat.add_sub_cancel,n1,kI]
noncomputable def aU.E:=Entry.cD [none] aU.st aU.av aU.add aU.F aU.out
noncomputable def aU.call:aU.D→Option aU.X:=bS aU.E aU.st
theorem aU.run:bM aU.call aU.av aU.add aU.F:=dq (df [.n,.d (.slice (.pair ck gl)),.d (.slice dZ)] fun _=>by kernel_rfl)
noncomputable def aU.sg:SG Tryz.prog:=⟨37,aR,aU.E,.fn 2 (by kernel_rfl) aU.ok (And.intro (.cD aU.L0.ok (by kernel_rfl)) (And.intro (.cD aU.L1.ok (by kernel_rfl)) trivial))⟩
abbrev aT.L0.D:=Int×fv×(List cK)×Int×Int×Nat×(List (cK×fa))×(List dQ)×Nat×((List cK)×Unit)×(List dM)
def aT.L0.st:aT.L0.D→AS:=fun(height_2,t_2,t28,t29,t30,o0L,o1_2,o2_2,n9L,n9,n45)=>⟨([.ptr (.dx 0) 0 [] 0,.undef,.d ti height_2,.undef,.ej gI t_2]++bl 4 ([.ptr (.new 9 0) 0 [] 0]++bl 18 ([.d (.slice ck) t28,.d ti t29,.d ti t30]++bl 54 []))),[.obj 0 false (.pr (.ff (.dx 1) 0) (.pr (.bH (.dx 2) 0 [] 0 0 o0L) (.d .unit ()))),.obj 0 false (.mp ck gl o1_2),.obj 0 false (.vec 161 dZ o2_2)],(ch 9 ([[.obj 0 false (.pr (.bH (.new 45 0) 0 [] 0 0 n9L) (.d (.pair (.slice ck) .unit) n9))]]++ch 35 ([[.obj 0 false (.vec 163 eN n45)]]++ch 39 [])))⟩
abbrev aT.L0.Y0:=(List (cK×fa))×Nat×(List dM)
abbrev aT.L0.X0:=(Int×fv×Nat×(List dQ)×((List cK)×Unit))×((List (cK×fa))×Nat×(List dM))
def aT.L0.bp:aT.L0.X0→Exit×AS:=fun x=>(.exit 0,⟨([.ptr (.dx 0) 0 [] 0,.undef,.d ti x.1.1,.undef,.ej gI x.1.2.1]++bl 4 ([.ptr (.new 9 0) 0 [] 0]++bl 75 [])),[.obj 0 false (.pr (.ff (.dx 1) 0) (.pr (.bH (.dx 2) 0 [] 0 0 x.1.2.2.1) (.d .unit ()))),.obj 0 false (.mp ck gl x.2.1),.obj 0 false (.vec 161 dZ x.1.2.2.2.1)],(ch 9 ([[.obj 0 false (.pr (.bH (.new 45 0) 0 [] 0 0 x.2.2.1) (.d (.pair (.slice ck) .unit) x.1.2.2.2.2))]]++ch 35 ([[.obj 0 false (.vec 163 eN x.2.2.2)]]++ch 39 [])))⟩)
abbrev aT.L0.X:=aT.L0.X0
abbrev aT.L0.Y:=aT.L0.Y0
def aT.L0.out:aT.L0.X→Out (Exit×AS):=fun x=> .ok (aT.L0.bp x)
def aT.L0.add:aT.L0.D→aT.L0.Y→aT.L0.X:=fun(height_2,t_2,t28,t29,t30,o0L,o1_2,o2_2,n9L,n9,n45) y=>((height_2,t_2,o0L,o2_2,n9),y)
abbrev aT.L1.D:=Int×fv×(List cK)×Int×Int×Nat×(List (cK×fa))×(List dQ)×Nat×((List cK)×Unit)×(List dM)
def aT.L1.st:aT.L1.D→AS:=fun(height_3,t_3,t54,t55,t56,o0L_2,o1_3,o2_3,n9L_2,n9_2,n45_2)=>⟨([.ptr (.dx 0) 0 [] 0,.undef,.d ti height_3,.undef,.ej gI t_3]++bl 4 ([.ptr (.new 9 0) 0 [] 0]++bl 44 ([.d (.slice ck) t54,.d ti t55,.d ti t56]++bl 28 []))),[.obj 0 false (.pr (.ff (.dx 1) 0) (.pr (.bH (.dx 2) 0 [] 0 0 o0L_2) (.d .unit ()))),.obj 0 false (.mp ck gl o1_3),.obj 0 false (.vec 161 dZ o2_3)],(ch 9 ([[.obj 0 false (.pr (.bH (.new 45 0) 0 [] 0 0 n9L_2) (.d (.pair (.slice ck) .unit) n9_2))]]++ch 35 ([[.obj 0 false (.vec 163 eN n45_2)]]++ch 39 [])))⟩
abbrev aT.L1.Y0:=(List (cK×fa))
abbrev aT.L1.X0:=(Nat×(List dQ)×Nat×((List cK)×Unit)×(List dM))×((List (cK×fa)))
def aT.L1.bp:aT.L1.X0→Exit×AS:=fun x=>(.exit 2,⟨([.ptr (.dx 0) 0 [] 0]++bl 8 ([.ptr (.new 9 0) 0 [] 0]++bl 75 [])),[.obj 0 false (.pr (.ff (.dx 1) 0) (.pr (.bH (.dx 2) 0 [] 0 0 x.1.1) (.d .unit ()))),.obj 0 false (.mp ck gl x.2),.obj 0 false (.vec 161 dZ x.1.2.1)],(ch 9 ([[.obj 0 false (.pr (.bH (.new 45 0) 0 [] 0 0 x.1.2.2.1) (.d (.pair (.slice ck) .unit) x.1.2.2.2.1))]]++ch 35 ([[.obj 0 false (.vec 163 eN x.1.2.2.2.2)]]++ch 39 [])))⟩)
abbrev aT.L1.X:=aT.L1.X0
abbrev aT.L1.Y:=aT.L1.Y0
def aT.L1.out:aT.L1.X→Out (Exit×AS):=fun x=> .ok (aT.L1.bp x)
def aT.L1.add:aT.L1.D→aT.L1.Y→aT.L1.X:=fun(height_3,t_3,t54,t55,t56,o0L_2,o1_3,o2_3,n9L_2,n9_2,n45_2) y=>((o0L_2,o2_3,n9L_2,n9_2,n45_2),y)
abbrev aT.D:=fv×Int×Nat×(List (cK×fa))×(List dQ)
def aT.st:aT.D→SA:=fun(t,height,o0baL,o1,o2)=>([.ptr (.dx 0) 0 [] 0,.d gI t,.d ti height],[.obj 0 false (.pr (.ff (.dx 1) 0) (.pr (.bH (.dx 2) 0 [] 0 0 o0baL) (.d .unit ()))),.obj 0 false (.mp ck gl o1),.obj 0 false (.vec 161 dZ o2)])
abbrev aT.Y:=(Int×Nat×(List (cK×fa))×(List dQ))⊕(Int×Nat×(List (cK×fa))×(List dQ))
abbrev aT.X:=(Int×Nat×(List (cK×fa))×(List dQ))⊕(Int×Nat×(List (cK×fa))×(List dQ))
def aT.out:aT.X→ba:=fun x=>match x with | .inl x=>⟨.d ti x.1,[.obj 0 false (.pr (.ff (.dx 1) 0) (.pr (.bH (.dx 2) 0 [] 0 0 x.2.1) (.d .unit ()))),.obj 0 false (.mp ck gl x.2.2.1),.obj 0 false (.vec 161 dZ x.2.2.2)],[]⟩ | .inr x=>⟨.d ti x.1,[.obj 0 false (.pr (.ff (.dx 1) 0) (.pr (.bH (.dx 2) 1 [] 0 0 x.2.1) (.d .unit ()))),.obj 0 false (.mp ck gl x.2.2.1),.obj 1 false (.vec 161 dZ x.2.2.2)],[]⟩
def aT.add:aT.D→aT.Y→aT.X:=fun(t,height,o0baL,o1,o2) y=>match y with | .inl y=> .inl y | .inr y=> .inr y
def mK(a:List (cK×fa)):List cK→List dM
 |[]=> []
 |o::l=>(o,((cz ck o a).getD uY,()))::mK (gG ck o a) l
def po(h:Int):List cK→List gm→List (cK×fa)→List (cK×fa)
 |o::l,x::xs,a=>po h l xs (fH ck o (x,(h,())) a)
 |_,_,a=>a
def stepOf(t:fv)(a:List (cK×fa)):dQ:=(mK a (dN t),(fo t,()))
def gB(t:fv)(h:Int)(a:List (cK×fa)):List (cK×fa):=po h (fo t) t.2.1 (ln (dN t) a)
def aT.L0.av:aT.L0.D→Prop:=fun(_,_,l,n,i,_,_,_,gL,_,g)=>l.length≤1000∧∃k:Nat,k≤l.length∧i=k∧n=l.length∧gL=g.length∧g.length=k
def aT.L0.F:aT.L0.D→aT.L0.Y:=fun(_,_,l,_,i,_,a,_,gL,_,g)=>(ln (l.drop i.toNat) a,gL+(l.drop i.toNat).length,g++mK a (l.drop i.toNat))
def aT.L1.av:aT.L1.D→Prop:=fun(_,t,l,n,i,_,_,_,_,_,_)=>l.length≤1000∧l.length=t.2.1.length∧(∀o∈t.2.1,HH o.2.1)∧∃k:Nat,k≤l.length∧i=k∧n=l.length
def aT.L1.F:aT.L1.D→aT.L1.Y:=fun(h,t,l,_,i,_,a,_,_,_,_)=>po h (l.drop i.toNat) (t.2.1.drop i.toNat) a
def aT.av:aT.D→Prop:=fun(t,_,n,a,s)=>nE t∧qo a∧n≤s.length∧s.length≤1000000
def aT.F:aT.D→aT.Y:=fun(t,h,n,a,s)=>if(ee t h a).2≠0 then .inl ((ee t h a).2,n,a,s) else .inr (0,n+1,gB t h a,s.take n++ [stepOf t a])
noncomputable def aT.G:ed:=fk (P:=Tryz.prog) [aC.sg,bQ.sg,aV.sg,cZ.sg]
noncomputable def aT.L0.E:=bU.cD aT.L0.st aT.L0.av aT.L0.add aT.L0.F aT.L0.out
noncomputable def aT.L0.call:aT.L0.D→Option aT.L0.X:=dw aT.L0.E aT.L0.st
noncomputable def aT.L1.E:=bU.cD aT.L1.st aT.L1.av aT.L1.add aT.L1.F aT.L1.out
noncomputable def aT.L1.call:aT.L1.D→Option aT.L1.X:=dw aT.L1.E aT.L1.st
noncomputable def aT.an:eQ:= {loops:=jB [(6,{bn:=[0,2,4,9,28,29,30],sites:=[9,45],iE:=[⟨9,[.fst],45,159⟩]}),(12,{bn:=[0,2,4,9,54,55,56],sites:=[9,45]})],outs:=jA [(6,{bn:=[0,2,4,9],sites:=[9,45]},{bn:=[6]}),(12,{bn:=[0,9],sites:=[9,45]},{bn:=[6]})],fC:=kf [(6,aT.L0.E),(12,aT.L1.E)]}
noncomputable def aT.A:= @cY Tryz.prog aT.G aT.an 0 Tryz.f30 _ aT.st
abbrev aT.Ok:=dd @aT.A aT.av aT.add aT.F aT.out
noncomputable def aT.L0.R:= @cj Tryz.prog aT.G aT.an 0 Tryz.f30 0 _ aT.L0.st
abbrev aT.L0.Ok:=ew Tryz.prog aT.G aT.an 0 Tryz.f30 0 aT.L0.st aT.L0.av aT.L0.add aT.L0.F aT.L0.out
noncomputable def aT.L1.R:= @cj Tryz.prog aT.G aT.an 0 Tryz.f30 1 _ aT.L1.st
abbrev aT.L1.Ok:=ew Tryz.prog aT.G aT.an 0 Tryz.f30 1 aT.L1.st aT.L1.av aT.L1.add aT.L1.F aT.L1.out
theorem aT.L0.run:bM aT.L0.call aT.L0.av aT.L0.add aT.L0.F:=eM (eL [.d ti,.d gI,.d (.slice ck),.d ti,.d ti,.n,.d (.slice (.pair ck gl)),.d (.slice dZ),.n,.d (.pair (.slice ck) .unit),.d (.slice eN)] fun _=>by kernel_rfl)
theorem aT.L0.aB:fQ @aT.L0.R aT.L0.st aT.L0.av aT.L0.add aT.L0.F aT.L0.bp aT.L0.Ok:=fU
theorem aT.L0.step{R:Type}(height_2:Int)(t_2:fv)(t28:(List cK))(t29:Int)(t30:Int)(o0L:Nat)(o1_2:(List (cK×fa)))(o2_2:(List dQ))(n9L:Nat)(n9:((List cK)×Unit))(n45:(List dM))(kn:AS→Option R)(kx:Exit→AS→Option R):aT.L0.R (height_2,t_2,t28,t29,t30,o0L,o1_2,o2_2,n9L,n9,n45) kn kx=
  aG ((fM t30 t29)) (
   aG (eI t30 (((List.length t28):Nat):Int)) (
   aG (decide (n9L≤(List.length n45))) (
   aG (db (n9L+1) 80) (
   kn (aT.L0.st (height_2,t_2,t28,t29,(bN .i64 t30 (1:Int)),o0L,(gG ck (nth ck t28 (Int.toNat t30)) o1_2),o2_2,(n9L+1),n9,((List.take n9L n45)++ [((nth ck t28 (Int.toNat t30)),(((cz ck (nth ck t28 (Int.toNat t30)) o1_2).getD (((0:Int),((([]:List ik),()),())),((0:Int),()))),()))])))) none) none) none) (
   kx (aT.L0.bp ((height_2,t_2,o0L,o2_2,n9),(o1_2,n9L,n45))).1 (aT.L0.bp ((height_2,t_2,o0L,o2_2,n9),(o1_2,n9L,n45))).2):=by kernel_rfl
theorem aT.L1.run:bM aT.L1.call aT.L1.av aT.L1.add aT.L1.F:=eM (eL [.d ti,.d gI,.d (.slice ck),.d ti,.d ti,.n,.d (.slice (.pair ck gl)),.d (.slice dZ),.n,.d (.pair (.slice ck) .unit),.d (.slice eN)] fun _=>by kernel_rfl)
theorem aT.L1.aB:fQ @aT.L1.R aT.L1.st aT.L1.av aT.L1.add aT.L1.F aT.L1.bp aT.L1.Ok:=fU
theorem aT.L1.step{R:Type}(height_3:Int)(t_3:fv)(t54:(List cK))(t55:Int)(t56:Int)(o0L_2:Nat)(o1_3:(List (cK×fa)))(o2_3:(List dQ))(n9L_2:Nat)(n9_2:((List cK)×Unit))(n45_2:(List dM))(kn:AS→Option R)(kx:Exit→AS→Option R):aT.L1.R (height_3,t_3,t54,t55,t56,o0L_2,o1_3,o2_3,n9L_2,n9_2,n45_2) kn kx=
  aG ((fM t56 t55)) (
   aG (eI t56 (((List.length t54):Nat):Int)) (
   aG (eI t56 (((List.length t_3.2.1):Nat):Int)) (
   ah (cZ.call (nth fe t_3.2.1 (Int.toNat t56))) fun x1=>
   kn (aT.L1.st (height_3,t_3,t54,t55,(bN .i64 t56 (1:Int)),o0L_2,(fH ck (nth ck t54 (Int.toNat t56)) (x1,(height_3,())) o1_3),o2_3,n9L_2,n9_2,n45_2))) none) none) (
   kx (aT.L1.bp ((o0L_2,o2_3,n9L_2,n9_2,n45_2),o1_3)).1 (aT.L1.bp ((o0L_2,o2_3,n9L_2,n9_2,n45_2),o1_3)).2):=by kernel_rfl
theorem aT.eq{R:Type}(t:fv)(height:Int)(o0baL:Nat)(o1:(List (cK×fa)))(o2:(List dQ))(k:ba→Option R):aT.A (t,height,o0baL,o1,o2) k=
  ah (aC.call (t,height,o0baL,o1,o2)) fun x1=>
  aG ((mM x1.2.1 (0:Int))) (
   k (aT.out (.inl (x1.2.1,x1.2.2.1,x1.2.2.2.1,x1.2.2.2.2)))) (
   ah (bQ.call t) fun x2=>
   ah (aV.call t) fun x3=>
   ah (aT.L0.call (height,t,x3,(((List.length x3):Nat):Int),(0:Int),x1.2.2.1,x1.2.2.2.1,x1.2.2.2.2,0,(x2,()),([]:List dM))) fun x4=>
   ah (aT.L1.call (x4.1.1,x4.1.2.1,x4.1.2.2.2.2.1,(((List.length x4.1.2.2.2.2.1):Nat):Int),(0:Int),x4.1.2.2.1,x4.2.1,x4.1.2.2.2.1,x4.2.2.1,x4.1.2.2.2.2,x4.2.2.2)) fun x6=>
   aG (decide (0=0∧(0+x6.1.2.2.1)≤(List.length x6.1.2.2.2.2))) (
   aG (decide (x6.1.1≤(List.length x6.1.2.1))) (
   aG (db (x6.1.1+1) 48) (
   k (aT.out (.inr ((0:Int),(x6.1.1+1),x6.2,((List.take x6.1.1 x6.1.2.1)++ [((cut x6.1.2.2.2.2 0 x6.1.2.2.1),x6.1.2.2.2.1)]))))) none) none) none):=by kernel_rfl
theorem aT.L0.ok:aT.L0.Ok:=by
 refine aT.L0.aB (fun(_,_,l,_,i,_,_,_,_,_,_)=>l.length - i.toNat) ?_
 rintro⟨h,t,l,n,i,o,a,s,gL,u,g⟩ ⟨hl,k,hk,rfl,rfl,rfl,hg⟩
 have hl:l.length≤1000:=hl
 have hk:k≤l.length:=hk
 have hg:g.length=k:=hg
 by_cases hlt:k < l.length
 ·left
  have n1:nth ck l k=l[k]:=cn (t:=ck) hlt
  have hd:l.drop k=l[k]::l.drop (k+1):=List.drop_eq_getElem_cons hlt
  refine⟨(h,t,l,(l.length:Int),((k+1:Nat):Int),o,gG ck l[k] a,s,g.length+1,u,g++ [(l[k],((cz ck l[k] a).getD uY,()))]),⟨hl,k+1,by omega,rfl,rfl,by simp,by simp[hg]⟩,by simp only[Int.toNat_natCast];omega,?_,fun kn kx=> ?_⟩
  ·simp only[aT.L0.add,aT.L0.F,Int.toNat_natCast,hd,ln,List.foldl_cons,mK,List.append_assoc,List.singleton_append,List.length_cons]
   rw[show g.length+1+(l.drop (k+1)).length=g.length+((l.drop (k+1)).length+1) by omega]
  ·rw[aT.L0.step,aW (by omega),ae,bm (by omega) (by omega),ae,aZ (Nat.le_refl _),ae,cS (by omega) (by omega),ae,Int.toNat_natCast,n1,N.j5 (by omega),List.take_length]
   rfl
 ·right
  obtain rfl:k=l.length:=by omega
  intro R kn kx
  rw[aT.L0.step,aO (by omega),ag]
  simp only[aT.L0.add,aT.L0.F,Int.toNat_natCast,List.drop_length,ln,List.foldl_nil,mK,List.append_nil,List.length_nil,Nat.add_zero]
theorem aT.L1.ok:aT.L1.Ok:=by
 refine aT.L1.aB (fun(_,_,l,_,i,_,_,_,_,_,_)=>l.length - i.toNat) ?_
 rintro⟨h,t,l,n,i,o,a,s,gL,u,g⟩ ⟨hl,he,hb,k,hk,rfl,rfl⟩
 have hl:l.length≤1000:=hl
 have he:l.length=t.2.1.length:=he
 have hk:k≤l.length:=hk
 by_cases hlt:k < l.length
 ·left
  have hlt2:k < t.2.1.length:=by omega
  have n1:nth ck l k=l[k]:=cn (t:=ck) hlt
  have n2:nth fe t.2.1 k=t.2.1[k]:=cn (t:=fe) hlt2
  have hd:l.drop k=l[k]::l.drop (k+1):=List.drop_eq_getElem_cons hlt
  have hd2:t.2.1.drop k=t.2.1[k]::t.2.1.drop (k+1):=List.drop_eq_getElem_cons hlt2
  refine⟨(h,t,l,(l.length:Int),((k+1:Nat):Int),o,fH ck l[k] (t.2.1[k],(h,())) a,s,gL,u,g),⟨hl,he,hb,k+1,by omega,rfl,rfl⟩,by simp only[Int.toNat_natCast];omega,?_,fun kn kx=> ?_⟩
  ·simp only[aT.L1.add,aT.L1.F,Int.toNat_natCast,hd,hd2,po]
  ·rw[aT.L1.step,aW (by omega),ae,bm (by omega) (by omega),ae,bm (by omega) (by omega),ae,Int.toNat_natCast,n1,n2,cZ.run (d:=t.2.1[k]) (hb _ (List.getElem_mem hlt2))]
   simp only[aa,cZ.add,cZ.F]
   rw[N.j5 (by omega)]
 ·right
  obtain rfl:k=l.length:=by omega
  intro R kn kx
  rw[aT.L1.step,aO (by omega),ag]
  simp only[aT.L1.add,aT.L1.F,Int.toNat_natCast,List.drop_length,po]
theorem vK{t:fv}{h:Int}{a:List (cK×fa)}(e:(ee t h a).2=0):gU t=true∧1≤h∧h≤1048576∧∃fR,jb h (lS t) a t.1 0= .inr fR∧(fo t).any (gW a)=false∧0≤fR - fw t.2.1∧ee t h a=(fR - fw t.2.1,0):=by
 unfold ee at e ⊢
 by_cases h0:gU t=true∧1≤h∧h≤1048576
 ·rw[if_pos h0]at e
  rw[if_pos h0]
  refine⟨h0.1,h0.2.1,h0.2.2,?_⟩
  cases hi:jb h (lS t) a t.1 0 with
  |inl x=>
   exfalso
   rw[hi]at e
   simp only at e
   subst e
   have key:∀(l:List ia) (f:Int),jb h (lS t) a l f≠ .inl 0:=by
    intro l
    induction l with
    |nil=>intro f hf;cases hf
    |cons x l ih=>
     intro f hf
     simp only[jb]at hf
     cases hg:cz ck x.1 a with
     |none=>rw[hg]at hf;simp at hf
     |some c=>
      rw[hg]at hf
      simp only at hf
      split at hf
      ·rename_i hne;exact hne (by injection hf)
      ·exact ih _ hf
   exact key _ _ hi
  |inr fR=>
   rw[hi]at e
   simp only at e ⊢
   by_cases hm:(fo t).any (gW a)=true
   ·rw[if_pos hm]at e;cases e
   ·rw[if_neg hm]at e
    rw[if_neg hm]
    by_cases hf:fR - fw t.2.1 < 0
    ·rw[if_pos hf]at e;cases e
    ·rw[if_neg hf]
     exact⟨fR,rfl,by simpa using hm,by omega,rfl⟩
 ·rw[if_neg h0]at e;cases e
theorem tV{t:fv}(h:gU t=true):(dN t).length=t.1.length:=by
 unfold dN
 rw[if_pos h,List.length_map]
theorem aT.ok:aT.Ok:=by
 rintro⟨t,h,n,a,s⟩ ⟨hv,ha,hn,hs⟩
 have hv:nE t:=hv
 have ha:qo a:=ha
 have hn:n≤s.length:=hn
 have hs:s.length≤1000000:=hs
 rw[aT.eq,aC.run (d:=(t,h,n,a,s)) ⟨hv,ha⟩]
 simp only[aa,aC.add,aC.F,aT.add,aT.F]
 by_cases he:(ee t h a).2=0
 ·rw[ct he,ag,if_neg (fun e=>e he)]
  obtain⟨hok,_,_,_⟩:=vK he
  obtain⟨⟨_,a2,a3,_⟩,b1,b2⟩:=iF hok
  rw[bQ.run (d:=t) hv]
  simp only[aa,bQ.add,bQ.F]
  rw[aV.run (d:=t) hv.1]
  simp only[aa,aV.add,aV.F]
  rw[aT.L0.run (d:=(h,t,dN t,((dN t).length:Int),0,n,a,s,0,(fo t,()),[])) ⟨by rw[tV hok];omega,0,Nat.zero_le _,rfl,rfl,rfl,rfl⟩]
  simp only[aa,aT.L0.add,aT.L0.F,Int.toNat_zero,List.drop_zero,List.nil_append,Nat.zero_add]
  rw[aT.L1.run (d:=(h,t,fo t,((fo t).length:Int),0,n,ln (dN t) a,s,(dN t).length,(fo t,()),mK a (dN t))) ⟨by rw[ka hok];omega,ka hok,fun o ho=>by
   have:=oM (iD _ _ b2 o ho).2
   exact⟨by omega,fun b hb=>by have:=this.2 b hb;omega⟩,0,Nat.zero_le _,rfl,rfl⟩]
  simp only[aa,aT.L1.add,aT.L1.F,Int.toNat_zero,List.drop_zero]
  have hgl:∀(l:List cK) (a:List (cK×fa)),(mK a l).length=l.length:=by
   intro l
   induction l with
   |nil=>intro a;rfl
   |cons o l ih=>intro a;simp[mK,ih]
  rw[aZ (by rw[hgl];exact⟨trivial,by omega⟩),ae,aZ hn,ae,cS (by omega) (by omega),ae,fb (hgl _ _)]
  rfl
 ·rw[fg he,ae,if_pos he]
noncomputable def aT.E:=Entry.BU [none,some gI,some ti] aT.st aT.av aT.add aT.F aT.out
noncomputable def aT.call:aT.D→Option aT.X:=bS aT.E aT.st
theorem aT.run:bM aT.call aT.av aT.add aT.F:=Bc (df [.d gI,.d ti,.n,.d (.slice (.pair ck gl)),.d (.slice dZ)] fun _=>by kernel_rfl)
noncomputable def aT.sg:SG Tryz.prog:=⟨30,aR,aT.E,.HE (.fn 2 (by kernel_rfl) aT.ok (And.intro (.cD aT.L0.ok (by kernel_rfl)) (And.intro (.cD aT.L1.ok (by kernel_rfl)) trivial)))⟩
set_option synthInstance.maxSize 5000
theorem DJ(k:Int)(m:List Int):E9 (iH k m):=by
 unfold iH
 split
 ·exact⟨(EZ _).u,(AJ _ _).u⟩
 ·exact⟨⟨Int.le_refl 0,by decide⟩,Int.le_refl 0,by decide⟩
theorem yn:∀(l l':List ia) (b:List Int),l.map (·.1)=l'.map (·.1)→l.foldl pE b=l'.foldl pE b
 |[],[],_,_=>rfl
 |[],_::_,_,h=>by cases h
 |_::_,[],_,h=>by cases h
 |x::l,y::l',b,h=>by
  rw[List.map_cons,List.map_cons,List.cons.injEq]at h
  have e:pE b x=pE b y:=by unfold pE;rw[h.1]
  rw[List.foldl_cons,List.foldl_cons,e,yn l l' _ h.2]
theorem B6{l l':List ia}(t:List gm×Int×Unit)(h:l.map (·.1)=l'.map (·.1)):nb (l,t)=nb (l',t):=by
 have hl:l.length=l'.length:=by have:=congrArg List.length h;simpa using this
 unfold nb
 simp only[hl]
 rw[yn l l' _ h]
theorem yw:∀(l l':List ia) (m:List (cK×Bool)),l.map (·.1)=l'.map (·.1)→pv m l=true→(∀x∈l',lT x.2.1=true)→pv m l'=true
 |[],[],_,_,_,_=>rfl
 |[],_::_,_,h,_,_=>by cases h
 |_::_,[],_,h,_,_=>by cases h
 |x::l,y::l',m,h,hi,hw=>by
  rw[List.map_cons,List.map_cons,List.cons.injEq]at h
  rw[pv,Bool.and_eq_true,Bool.and_eq_true]at hi ⊢
  have hx:=hi.1.2
  unfold oo at hx
  rw[Bool.and_eq_true]at hx
  refine⟨⟨?_,?_⟩,?_⟩
  ·have:=hi.1.1
   unfold qF at this ⊢
   rw[←h.1]
   exact this
  ·unfold oo
   rw[←h.1,hx.1,hw y List.mem_cons_self]
   rfl
  ·rw[←h.1]
   exact yw l l' _ h.2 hi.2 fun z hz=>hw z (List.mem_cons_of_mem _ hz)
theorem DY{l l':List ia}{t:List gm×Int×Unit}(h:l.map (·.1)=l'.map (·.1))(hok:gU (l,t)=true)(hw:∀x∈l',lT x.2.1=true):gU (l',t)=true:=by
 have hl:l.length=l'.length:=by have:=congrArg List.length h;simpa using this
 unfold gU uT at hok ⊢
 rw[Bool.and_eq_true,Bool.and_eq_true]at hok ⊢
 simp only[hl]at hok
 exact⟨hok.1,yw l l' _ h hok.2.1 hw,hok.2.2⟩
theorem Bf{l l':List ia}{t:List gm×Int×Unit}(h:l.map (·.1)=l'.map (·.1))(h1:gU (l,t)=true)(h2:gU (l',t)=true):lS (l',t)=lS (l,t):=by
 unfold lS
 rw[h1,h2,B6 t h]
theorem Aw{l l':List ia}{t:List gm×Int×Unit}(h:l.map (·.1)=l'.map (·.1))(h1:gU (l,t)=true)(h2:gU (l',t)=true):dN (l',t)=dN (l,t):=by
 unfold dN
 rw[h1,h2]
 exact h.symm
theorem Di{l l':List ia}{t:List gm×Int×Unit}(h:l.map (·.1)=l'.map (·.1))(h1:gU (l,t)=true)(h2:gU (l',t)=true):fo (l',t)=fo (l,t):=by
 unfold fo
 rw[h1,h2,Bf h h1 h2]
def sV(t:fv)(k:Nat)(w:so):fv:=(t.1.set k ((nth gz t.1 k).1,w,()),t.2)
theorem rk(l:List ia)(k:Nat)(w:so)(h:k < l.length):l.map (·.1)=(l.set k ((nth gz l k).1,w,())).map (·.1):=by
 have n1:nth gz l k=l[k]:=cn (t:=gz) h
 rw[n1,List.map_set]
 have e:(l[k].1:cK)=(l.map (·.1))[k]'(by rw[List.length_map];exact h):=by rw[List.getElem_map]
 show _=(l.map (·.1)).set k l[k].1
 rw[e,List.set_getElem_self]
theorem y5{l:List ia}{k:Nat}{w:so}{x:ia}(h:k < l.length)(hx:x∈l.set k ((nth gz l k).1,w,())):x∈l∨(x.1=l[k].1∧x.2.1=w):=by
 have n1:nth gz l k=l[k]:=cn (t:=gz) h
 rw[n1]at hx
 rcases List.mem_or_eq_of_mem_set hx with h1 | h1
 ·exact .inl h1
 ·exact .inr ⟨by rw[h1],by rw[h1]⟩
theorem tm{t:fv}{k:Nat}{w:so}(h:k < t.1.length)(hok:gU t=true)(hw:lT w=true):gU (sV t k w)=true:=by
 obtain⟨_,b1,_⟩:=iF hok
 refine DY (l:=t.1) (rk t.1 k w h) hok fun x hx=> ?_
 rcases y5 h hx with h1 | h1
 ·have:=nw _ _ b1 x h1
  unfold oo at this
  rw[Bool.and_eq_true]at this
  exact this.2
 ·rw[h1.2];exact hw
theorem Gh{t:fv}{k:Nat}{w:so}(h:k < t.1.length)(hv:nE t)(hu:vb w)(hl:w.2.1.length≤9223372036854775807):nE (sV t k w):=by
 refine⟨⟨hv.1.1,by show(t.1.set k _).length≤_;rw[List.length_set];exact hv.1.2.1,hv.1.2.2⟩,fun x hx=> ?_,hv.2.2⟩
 rcases y5 h hx with h1 | h1
 ·exact hv.2.1 x h1
 ·refine⟨?_,by rw[h1.2];exact hu,by rw[h1.2];exact hl⟩
  rw[h1.1]
  exact(hv.2.1 _ (List.getElem_mem h)).1
theorem ET{t:fv}{k:Nat}{w:so}(h:k < t.1.length)(hok:gU t=true)(hw:lT w=true):lS (sV t k w)=lS t∧dN (sV t k w)=dN t∧fo (sV t k w)=fo t:=
 ⟨Bf (l:=t.1) (rk t.1 k w h) hok (tm h hok hw),Aw (l:=t.1) (rk t.1 k w h) hok (tm h hok hw),Di (l:=t.1) (rk t.1 k w h) hok (tm h hok hw)⟩
def vA(t:fv)(br:Int)(ks:List Int)(sc:Int):so:=(br,ks.map (fun k=>iH k (lS t)),sc,())
theorem DL(t:fv)(i br:Int)(ks:List Int)(sc:Int):DK t i br ks sc=if oW t i br ks then(sV t i.toNat (vA t br ks sc),0) else(([],[],0,()),1):=rfl
theorem uH{t:fv}{i br:Int}{ks:List Int}(h:oW t i br ks=true):gU t=true∧(0≤i∧i < t.1.length∧0≤br∧br < 4∧ks.length≤12)∧∀k∈ks,k < 2305843009213688669∧k≠0:=by
 unfold oW at h
 simp only[Bool.and_eq_true,decide_eq_true_eq,Bool.not_eq_true']at h
 refine⟨h.1,h.2.1,fun k hk=> ?_⟩
 have:=h.2.2
 rw[List.any_eq_false]at this
 have:=this k hk
 unfold qw at this
 simpa using this
theorem EU{t:fv}{i br:Int}{ks:List Int}(sc:Int)(h:oW t i br ks=true):lT (vA t br ks sc)=true:=by
 have e:=(uH h).2.1
 unfold lT vA
 rw[aZ ⟨e.2.2.1,e.2.2.2.1⟩,aZ (by rw[List.length_map];exact e.2.2.2.2)]
 rfl
theorem Gl(t:fv)(br:Int)(ks:List Int){sc:Int}(h:gY sc):vb (vA t br ks sc):=⟨fun s hs=>by
  obtain⟨k,_,rfl⟩:=List.mem_map.1 (show s∈ks.map fun k=>iH k (lS t) from hs)
  exact DJ k _,h⟩
theorem DM{t:fv}{i br sc:Int}{ks:List Int}(hv:nE t)(h:oW t i br ks=true)(hs:gY sc):
  gU (sV t i.toNat (vA t br ks sc))=true∧nE (sV t i.toNat (vA t br ks sc))∧lS (sV t i.toNat (vA t br ks sc))=lS t∧dN (sV t i.toNat (vA t br ks sc))=dN t∧fo (sV t i.toNat (vA t br ks sc))=fo t:=by
 obtain⟨hok,e,_⟩:=uH h
 have hk:i.toNat < t.1.length:=by omega
 have hw:=EU sc h
 exact⟨tm hk hok hw,Gh hk hv (Gl t br ks hs) (by show(ks.map _).length≤_;rw[List.length_map];omega),ET hk hok hw⟩
set_option synthInstance.maxSize 5000
def GR(r:GF):Prop:=HJ r∧(r.2.1=true→r.1=[])
def Ov(r r':GF)(e:List Int):Prop:=GR r'∧(r'.2.1=false→r.2.1=false∧r.1=e++r'.1)
theorem Ov.trans{r r1 r2:GF}{e1 e2:List Int}(h1:Ov r r1 e1)(h2:Ov r1 r2 e2):Ov r r2 (e1++e2):=
 ⟨h2.1,fun h=>⟨(h1.2 (h2.2 h).1).1,by rw[(h1.2 (h2.2 h).1).2,(h2.2 h).2,List.append_assoc]⟩⟩
theorem Ov.of{r r':GF}{e e':List Int}(h:Ov r r' e)(he:r'.2.1=false→e=e'):Ov r r' e':=⟨h.1,fun h'=>by rw[←he h'];exact h.2 h'⟩
theorem Ov.refl{r:GF}(h:GR r):Ov r r []:=⟨h,fun h'=>⟨h',rfl⟩⟩
set_option synthInstance.maxSize 5000
set_option synthInstance.maxSize 5000
set_option synthInstance.maxSize 5000
section
variable {β:Type} {kt:Ty}
theorem qE(hc:kt.comp=true)(o o':kt.den)(v:β):∀l:List (kt.den×β),cz kt o (fH kt o' v l)=if kt.beq o o'=true then some v else cz kt o l
 |[]=>by rw[BW,fV,nA]
 |p::l=>by
  rw[qd]
  by_cases h:kt.beq o' p.1=true
  ·rw[if_pos h,fV,fV]
   have e:=beq_eq kt _ _ hc h
   by_cases h2:kt.beq o o'=true
   ·rw[if_pos h2,if_pos h2]
   ·rw[if_neg h2,if_neg h2,if_neg (by rw[←e];exact h2)]
  ·rw[if_neg h,fV,fV,qE hc o o' v l]
   by_cases h3:kt.beq o p.1=true
   ·rw[if_pos h3,if_pos h3,if_neg]
    intro h4
    apply h
    rw[←beq_eq kt _ _ hc h4]
    exact h3
   ·rw[if_neg h3,if_neg h3]
theorem AW(hc:kt.comp=true)(o o':kt.den):∀ {l:List (kt.den×β)},(l.map (·.1)).Nodup→cz kt o (gG kt o' l)=if kt.beq o o'=true then none else cz kt o l
 |[],_=>by rw[BV,nA];split <;> rfl
 |p::l,hn=>by
  rw[List.map_cons,List.nodup_cons]at hn
  rw[mm]
  by_cases h:kt.beq o' p.1=true
  ·rw[if_pos h,fV]
   have e:=beq_eq kt _ _ hc h
   by_cases h2:kt.beq o o'=true
   ·rw[if_pos h2]
    have e2:=beq_eq kt _ _ hc h2
    cases hg:cz kt o l with
    |none=>rfl
    |some v=>exact absurd (List.mem_map.2 ⟨_,(gO hc hn.2).1 hg,rfl⟩) (by rw[e2,e];exact hn.1)
   ·rw[if_neg h2,if_neg (by rw[←e];exact h2)]
  ·rw[if_neg h,fV,fV,AW hc o o' hn.2]
   by_cases h3:kt.beq o p.1=true
   ·rw[if_pos h3,if_pos h3,if_neg]
    intro h4
    apply h
    rw[←beq_eq kt _ _ hc h4]
    exact h3
   ·rw[if_neg h3,if_neg h3]
theorem get_none(hc:kt.comp=true){o:kt.den}{l:List (kt.den×β)}(hn:(l.map (·.1)).Nodup):cz kt o l=none↔o ∉ l.map (·.1):=by
 constructor
 ·intro h hm
  obtain⟨p,hp,e⟩:=List.mem_map.1 hm
  have e:p.1=o:=e
  have:=(gO hc hn (x:=o) (v:=p.2)).2 (by rw[←e];exact hp)
  rw[h]at this;cases this
 ·intro h
  cases hg:cz kt o l with
  |none=>rfl
  |some v=>exact absurd (List.mem_map.2 ⟨_,(gO hc hn).1 hg,rfl⟩) h
theorem pF{l:List (kt.den×β)}(hn:(l.map (·.1)).Nodup):l.Nodup:=by
 induction l with
 |nil=>exact List.nodup_nil
 |cons p l ih=>
  rw[List.map_cons,List.nodup_cons]at hn
  exact List.nodup_cons.2 ⟨fun h=>hn.1 (List.mem_map.2 ⟨p,h,rfl⟩),ih hn.2⟩
theorem yU(hc:kt.comp=true){l l':List (kt.den×β)}(hn:(l.map (·.1)).Nodup)(hn':(l'.map (·.1)).Nodup)(h:∀o,cz kt o l=cz kt o l'):l.Perm l':=by
 rw[List.perm_ext_iff_of_nodup (pF hn) (pF hn')]
 rintro⟨o,v⟩
 rw[←gO hc hn,←gO hc hn',h]
end
theorem mc(a b:cK):(Ty.beq ck a b=true)↔a=b:=⟨beq_eq ck a b rfl,fun h=>by rw[h];exact beq_refl ck b rfl⟩
abbrev At:=List (cK×fa)
abbrev eV(a:At):List cK:=a.map (·.1)
theorem zX(o o':cK)(v:fa)(a:At):cz ck o (fH ck o' v a)=if o=o' then some v else cz ck o a:=by
 rw[qE fI]
 by_cases h:o=o'
 ·rw[if_pos ((mc _ _).2 h),if_pos h]
 ·rw[if_neg (fun e=>h ((mc _ _).1 e)),if_neg h]
theorem zW(o o':cK){a:At}(hn:(eV a).Nodup):cz ck o (gG ck o' a)=if o=o' then none else cz ck o a:=by
 rw[AW fI _ _ hn]
 by_cases h:o=o'
 ·rw[if_pos ((mc _ _).2 h),if_pos h]
 ·rw[if_neg (fun e=>h ((mc _ _).1 e)),if_neg h]
theorem pX{o:cK}{v:fa}{a:At}(hn:(eV a).Nodup):(eV (fH ck o v a)).Nodup:=sF fI hn
theorem jV{o:cK}{a:At}(hn:(eV a).Nodup):(eV (gG ck o a)).Nodup:=oP fI hn
theorem Ff{a a':At}(hn:(eV a).Nodup)(hn':(eV a').Nodup)(h:∀o,cz ck o a=cz ck o a'):a.Perm a':=yU fI hn hn' h
theorem Dy{a a':At}(hn:(eV a).Nodup)(h:a'.Perm a)(o:cK):cz ck o a'=cz ck o a:=uh fI hn h
theorem AA{o:cK}{c:fa}{a:At}(hn:(eV a).Nodup)(hg:cz ck o a=some c):a.Perm ((o,c)::gG ck o a):=by
 refine Ff hn ?_ fun x=> ?_
 ·show(o::eV (gG ck o a)).Nodup
  refine List.nodup_cons.2 ⟨?_,jV hn⟩
  have:=(get_none fI (jV (o:=o) hn)).1 (by rw[zW o o hn,if_pos rfl])
  exact this
 ·rw[fV,zW x o hn]
  by_cases h:x=o
  ·subst h;rw[if_pos ((mc _ _).2 rfl),hg]
  ·rw[if_neg (fun e=>h ((mc _ _).1 e)),if_neg h]
theorem o9(o:cK)(l:List cK)(a:At):ln (o::l) a=ln l (gG ck o a):=rfl
theorem mg:∀(l:List cK) {a:At},(eV a).Nodup→(eV (ln l a)).Nodup
 |[],_,h=>h
 |o::l,a,h=>by rw[o9];exact mg l (jV h)
theorem sr(x:cK):∀(l:List cK) {a:At},(eV a).Nodup→cz ck x (ln l a)=if x∈l then none else cz ck x a
 |[],a,_=>by rw[if_neg (by simp)];rfl
 |o::l,a,h=>by
  rw[o9,sr x l (jV h),zW x o h]
  by_cases h1:x∈l
  ·rw[if_pos h1,if_pos (List.mem_cons_of_mem _ h1)]
  ·rw[if_neg h1]
   by_cases h2:x=o
   ·rw[if_pos h2,if_pos (by rw[h2];exact List.mem_cons_self ..)]
   ·rw[if_neg h2,if_neg (by simp[h1,h2])]
theorem kK(h:Int)(o:cK)(l:List cK)(x:gm)(xs:List gm)(a:At):po h (o::l) (x::xs) a=po h l xs (fH ck o (x,(h,())) a):=rfl
theorem tq(h:Int):∀(l:List cK) (xs:List gm) {a:At},(eV a).Nodup→(eV (po h l xs a)).Nodup
 |[],[],_,hn=>hn
 |[],_::_,_,hn=>hn
 |_::_,[],_,hn=>hn
 |o::l,x::xs,a,hn=>by rw[kK];exact tq h l xs (pX hn)
theorem AU(h:Int)(x:cK):∀(l:List cK) (xs:List gm) (a:At),x ∉ l→cz ck x (po h l xs a)=cz ck x a
 |[],[],_,_=>rfl
 |[],_::_,_,_=>rfl
 |_::_,[],_,_=>rfl
 |o::l,y::xs,a,hx=>by
  rw[kK,AU h x l xs _ (fun e=>hx (List.mem_cons_of_mem _ e)),zX,if_neg (fun e=>hx (by rw[e];exact List.mem_cons_self ..))]
theorem yq(h:Int):∀(l:List cK) (xs:List gm) (a:At),l.Nodup→∀(k:Nat) (hk:k < l.length) (hk2:k < xs.length),cz ck l[k] (po h l xs a)=some (xs[k],(h,()))
 |[],_,_,_,k,hk,_=>by simp at hk
 |_::_,[],_,_,k,_,hk=>by simp at hk
 |o::l,y::xs,a,hn,k,hk,hk2=>by
  rw[List.nodup_cons]at hn
  rw[kK]
  cases k with
  |zero=>
   show cz ck o _=some (y,(h,()))
   rw[AU h o l xs _ hn.1,zX,if_pos rfl]
  |succ k=>
   simp only[List.getElem_cons_succ]
   exact yq h l xs _ hn.2 k (by simpa using hk) (by simpa using hk2)
def lO(a:At)(l:List cK):Int:=(l.map fun o=>((cz ck o a).getD uY).1.1).sum
theorem yg:∀(l:List cK) {a:At},(eV a).Nodup→l.Nodup→(∀o∈l,(cz ck o a).isSome=true)→gw (ln l a)=gw a - lO a l∧(ln l a).length+l.length=a.length
 |[],a,_,_,_=>by simp[ln,lO]
 |o::l,a,hn,hl,ht=>by
  rw[List.nodup_cons]at hl
  obtain⟨c,hc⟩:=Option.isSome_iff_exists.1 (ht o (List.mem_cons_self ..))
  have hg:∀x∈l,cz ck x (gG ck o a)=cz ck x a:=fun x hx=>by
   rw[zW x o hn,if_neg (fun e=>hl.1 (by rw[←e];exact hx))]
  obtain⟨h1,h2⟩:=yg l (jV (o:=o) hn) hl.2 fun x hx=>by rw[hg x hx];exact ht x (List.mem_cons_of_mem _ hx)
  have hp:=AA hn hc
  have h3:=l7 hp
  have h4:=hp.length_eq
  have h5:lO (gG ck o a) l=lO a l:=by
   unfold lO
   congr 1
   exact List.map_congr_left fun x hx=>by rw[hg x hx]
  rw[gX]at h3
  rw[List.length_cons]at h4
  rw[o9,h1,h5,List.length_cons]
  have h6:lO a (o::l)=c.1.1+lO a l:=by simp[lO,hc]
  rw[h6]
  exact⟨by have h3:gw a=c.1.1+gw (gG ck o a):=h3;omega,by omega⟩
theorem jf(x:gm)(xs:List gm):fw (x::xs)=x.1+fw xs:=by simp[fw]
theorem xH(h:Int):∀(l:List cK) (xs:List gm) {a:At},(eV a).Nodup→l.Nodup→l.length=xs.length→(∀o∈l,cz ck o a=none)→gw (po h l xs a)=gw a+fw xs∧(po h l xs a).length=a.length+l.length
 |[],[],a,_,_,_,_=>by simp[po,fw]
 |[],_::_,_,_,_,he,_=>by simp at he
 |_::_,[],_,_,_,he,_=>by simp at he
 |o::l,x::xs,a,hn,hl,he,ht=>by
  rw[List.nodup_cons]at hl
  have h0:=(get_none fI hn).1 (ht o (List.mem_cons_self ..))
  have e:fH ck o (x,(h,())) a=a++ [(o,(x,(h,())))]:=lr fI h0
  obtain⟨h1,h2⟩:=xH h l xs (pX (o:=o) (v:=(x,(h,()))) hn) hl.2 (by simpa using he) fun y hy=>by
   rw[zX,if_neg (fun e=>hl.1 (by rw[←e];exact hy))];exact ht y (List.mem_cons_of_mem _ hy)
  rw[kK,h1,h2,e,xM,jf,List.length_append]
  simp only[gw,List.map_cons,List.map_nil,List.sum_cons,List.sum_nil,List.length_cons,List.length_nil]
  omega
theorem tW:∀(l:List ia) (m:List (cK×Bool)),pv m l=true→(l.map (·.1)).Nodup∧∀x∈l,cz ck x.1 m≠some true
 |[],_,_=>⟨List.nodup_nil,fun _ h=>by cases h⟩
 |x::l,m,h=>by
  rw[pv,Bool.and_eq_true,Bool.and_eq_true]at h
  obtain⟨⟨h1,_⟩,h2⟩:=h
  obtain⟨h3,h4⟩:=tW l _ h2
  have hs:∀y∈l,cz ck y.1 (fH ck x.1 true m)≠some true:=h4
  have hne:∀y∈l,y.1≠x.1:=fun y hy e=>hs y hy (by rw[qE fI,if_pos ((mc _ _).2 e)])
  refine⟨?_,fun y hy=> ?_⟩
  ·rw[List.map_cons,List.nodup_cons]
   refine⟨fun hm=> ?_,h3⟩
   obtain⟨y,hy,e⟩:=List.mem_map.1 hm
   exact hne y hy e
  ·rcases List.mem_cons.1 hy with rfl | hy
   ·intro e
    unfold qF at h1
    rw[e]at h1
    cases h1
   ·have:=hs y hy
    rw[qE fI,if_neg (fun e=>hne y hy ((mc _ _).1 e))]at this
    exact this
theorem nY(t:fv):(dN t).Nodup:=by
 unfold dN
 split
 ·rename_i h
  exact(tW _ _ (iF h).2.1).1
 ·exact List.nodup_nil
theorem qc(t:fv):(fo t).Nodup:=by
 unfold fo
 split
 ·unfold kj
  refine List.Pairwise.map _ (fun a b hne e=> ?_) (List.nodup_range' (s:=0) (n:=t.2.1.length) (step:=1))
  have:(a:Int)=b:=congrArg (fun o:cK=>o.2.1) e
  exact hne (by omega)
 ·exact List.nodup_nil
theorem tT{h:Int}{id:List Int}{a:At}:∀(l:List ia) (f0 f:Int),jb h id a l f0= .inr f→(∀o∈l.map (·.1),(cz ck o a).isSome=true)∧f=f0+lO a (l.map (·.1))
 |[],f0,f,e=>by simp only[jb,Sum.inr.injEq]at e;subst e;simp[lO]
 |x::l,f0,f,e=>by
  simp only[jb]at e
  cases hg:cz ck x.1 a with
  |none=>rw[hg]at e;cases e
  |some c=>
   rw[hg]at e
   simp only at e
   split at e
   ·cases e
   ·obtain⟨h1,h2⟩:=tT l _ _ e
    refine⟨fun o ho=> ?_,?_⟩
    ·rw[List.map_cons]at ho
     rcases List.mem_cons.1 ho with rfl | ho
     ·rw[hg];rfl
     ·exact h1 o ho
    ·rw[h2]
     simp only[lO,List.map_cons,List.sum_cons,hg,Option.getD_some]
     omega
structure iO(t:fv)(h:Int)(a:At)(fR:Int):Prop where
 ok:gU t=true
 h1:1≤h
 h2:h≤1048576
 ins:∃f,jb h (lS t) a t.1 0= .inr f∧fR=f - fw t.2.1
 there:∀o∈dN t,(cz ck o a).isSome=true
 made:∀o∈fo t,cz ck o a=none
 G6:fR=lO a (dN t) - fw t.2.1
 pos:0≤fR
theorem s5{t:fv}{h:Int}{a:At}(e:(ee t h a).2=0):iO t h a (ee t h a).1:=by
 obtain⟨hok,h1,h2,f,hi,hm,hp,hc⟩:=vK e
 obtain⟨i1,i2⟩:=tT _ _ _ hi
 have hs:dN t=t.1.map (·.1):=by unfold dN;rw[if_pos hok]
 rw[hc]
 refine⟨hok,h1,h2,⟨f,hi,rfl⟩,by rw[hs];exact i1,fun o ho=> ?_,by rw[hs,i2];show 0+_ - _=_;omega,hp⟩
 have:=List.any_eq_false.1 hm o ho
 unfold gW at this
 cases hg:cz ck o a with
 |none=>rfl
 |some c=>rw[hg]at this;simp at this
section
variable {t:fv} {h fR:Int} {a:At}
theorem iO.Fy(hc:iO t h a fR)(ha:(eV a).Nodup){o:cK}(ho:o∈dN t):cz ck o (gB t h a)=none:=by
 have hm:o ∉ fo t:=fun e=>by
  have:=hc.there o ho
  rw[hc.made o e]at this;cases this
 unfold gB
 rw[AU h o _ _ _ hm,sr o _ ha,if_pos ho]
theorem iO.new(hc:iO t h a fR){k:Nat}(hk:k < (fo t).length)(hk2:k < t.2.1.length):cz ck (fo t)[k] (gB t h a)=some (t.2.1[k],(h,())):=by
 unfold gB
 exact yq h _ _ _ (qc t) k hk hk2
theorem qt(ha:(eV a).Nodup){o:cK}(h1:o ∉ dN t)(h2:o ∉ fo t):cz ck o (gB t h a)=cz ck o a:=by
 unfold gB
 rw[AU h o _ _ _ h2,sr o _ ha,if_neg h1]
theorem lW(ha:(eV a).Nodup):(eV (gB t h a)).Nodup:=tq h _ _ (mg _ ha)
theorem iO.sum(hc:iO t h a fR)(ha:(eV a).Nodup):gw (gB t h a)=gw a - fR∧(gB t h a).length+t.1.length=a.length+t.2.1.length:=by
 obtain⟨d1,d2⟩:=yg (dN t) ha (nY t) hc.there
 obtain⟨e1,e2⟩:=xH h (fo t) t.2.1 (mg (dN t) ha) (qc t) (ka hc.ok) fun o ho=>by
  rw[sr o _ ha];split
  ·rfl
  ·exact hc.made o ho
 have hf:=hc.G6
 have hl:=tV hc.ok
 have hm:=ka hc.ok
 unfold gB
 rw[e1,e2,d1]
 exact⟨by omega,by omega⟩
theorem iO.jG(hc:iO t h a fR)(ha:qo a)(hv:nE t):qo (gB t h a):=by
 refine⟨lW ha.1,fun p hp=> ?_⟩
 have hg:=(gO fI (lW (t:=t) (h:=h) ha.1) (x:=p.1) (v:=p.2)).2 hp
 by_cases h2:p.1∈fo t
 ·obtain⟨k,hk,e⟩:=List.getElem_of_mem h2
  have hk2:k < t.2.1.length:=by rw[←ka hc.ok];exact hk
  rw[←e,hc.new hk hk2]at hg
  have hg:=(Option.some.inj hg).symm
  have ho:=iD _ _ (iF hc.ok).2.2 _ (List.getElem_mem hk2)
  have hu:=hv.1.1 _ (List.getElem_mem hk2)
  have h1:=hc.h1
  have h3:=hc.h2
  refine⟨?_,?_⟩
  ·rw[←e]
   have hm:fo t=kj (lS t) 0 t.2.1.length:=by unfold fo;rw[if_pos hc.ok]
   simp only[hm,kj,List.getElem_map]
   have:=(uS (t:=t))
   exact⟨this.1,fun x hx=>this.2 x hx⟩
  ·rw[hg]
   exact⟨ho.2,hu.1,ho.1.1,ho.1.2,by show 0≤h;omega,h3⟩
 ·by_cases h1:p.1∈dN t
  ·rw[hc.Fy ha.1 h1]at hg;cases hg
  ·rw[qt ha.1 h1 h2]at hg
   exact ha.2 p ((gO fI ha.1).1 hg)
theorem iO.again(hc:iO t h a fR)(ha:(eV a).Nodup)(h':Int)(h1:1≤h')(h2:h'≤1048576):ee t h' (gB t h a)=(0,5):=by
 unfold ee
 rw[if_pos ⟨hc.ok,h1,h2⟩]
 have hl:=(iF hc.ok).1.1
 have hs:dN t=t.1.map (·.1):=by unfold dN;rw[if_pos hc.ok]
 cases ht:t.1 with
 |nil=>rw[ht]at hl;simp at hl
 |cons x l=>
  have hg:=hc.Fy ha (o:=x.1) (by rw[hs,ht];simp)
  simp only[jb,hg]
end
end Go.Ab
namespace Go.Ab
open Go.Proofs
set_option maxRecDepth 100000
set_option linter.unusedVariables false
set_option linter.unusedSimpArgs false
set_option synthInstance.maxSize 5000
abbrev bz.L0.D:=Bs×Nat×Int×(List Int)
def bz.L0.st:bz.L0.D→AS:=fun(h_2,outL,i,n7)=>⟨([.undef,.undef,.undef,.ej tH h_2,.undef,.bH (.new 7 0) 0 [] 0 0 outL,.d ti i]++bl 14 []),[],(ch 7 ([[.obj 0 false (.vec 5 tb n7)]]++ch 13 []))⟩
abbrev bz.L0.Y0:=Nat×(List Int)
abbrev bz.L0.X0:=Nat×(List Int)
def bz.L0.bp:bz.L0.X0→Exit×AS:=fun x=>(.exit 0,⟨(bl 5 ([.bH (.new 7 0) 0 [] 0 0 x.1]++bl 15 [])),[],(ch 7 ([[.obj 0 false (.vec 5 tb x.2)]]++ch 13 []))⟩)
abbrev bz.L0.X:=bz.L0.X0
abbrev bz.L0.Y:=bz.L0.Y0
def bz.L0.out:bz.L0.X→Out (Exit×AS):=fun x=> .ok (bz.L0.bp x)
def bz.L0.add:bz.L0.D→bz.L0.Y→bz.L0.X:=fun(h_2,outL,i,n7) y=>y
abbrev bz.D:=Bs×Bs
def bz.st:bz.D→SA:=fun(b,h)=>([.d tB b,.d tH h],[])
abbrev bz.Y:=Bs
abbrev bz.X:=Bs
def bz.out:bz.X→ba:=fun x=>⟨.d tB x,[],[]⟩
def bz.add:bz.D→bz.Y→bz.X:=fun(b,h) y=>y
def bz.L0.av:bz.L0.D→Prop:=fun(h,m,i,l)=>h.length=32∧m=l.length∧∃k:Nat,k≤32∧i=k∧l.length≤100000000+k
def bz.L0.F:bz.L0.D→bz.L0.Y:=fun(h,m,i,l)=>((l++h.drop i.toNat).length,l++h.drop i.toNat)
def bz.av:bz.D→Prop:=fun(b,h)=>b.length≤90000000∧h.length=32
def bz.F:bz.D→bz.Y:=fun(b,h)=>b++h
noncomputable def bz.G:ed:=fk (P:=Tryz.prog) []
noncomputable def bz.L0.E:=bU.cD bz.L0.st bz.L0.av bz.L0.add bz.L0.F bz.L0.out
noncomputable def bz.L0.call:bz.L0.D→Option bz.L0.X:=dw bz.L0.E bz.L0.st
noncomputable def bz.an:eQ:= {bX:=[7],loops:=jB [(3,{bn:=[3,5,6],sites:=[7],iE:=[⟨5,[],7,140⟩]})],outs:=jA [(3,{bn:=[5],sites:=[7]},{bn:=[4]})],fC:=kf [(3,bz.L0.E)],res:=[some tB]}
noncomputable def bz.A:= @cY Tryz.prog bz.G bz.an 0 Tryz.f221 _ bz.st
abbrev bz.Ok:=dd @bz.A bz.av bz.add bz.F bz.out
noncomputable def bz.L0.R:= @cj Tryz.prog bz.G bz.an 0 Tryz.f221 0 _ bz.L0.st
abbrev bz.L0.Ok:=ew Tryz.prog bz.G bz.an 0 Tryz.f221 0 bz.L0.st bz.L0.av bz.L0.add bz.L0.F bz.L0.out
theorem bz.L0.run:bM bz.L0.call bz.L0.av bz.L0.add bz.L0.F:=eM (eL [.d tH,.n,.d ti,.d tB] fun _=>by kernel_rfl)
theorem bz.L0.aB:fQ @bz.L0.R bz.L0.st bz.L0.av bz.L0.add bz.L0.F bz.L0.bp bz.L0.Ok:=fU
theorem bz.L0.step{R:Type}(h_2:Bs)(outL:Nat)(i:Int)(n7:(List Int))(kn:AS→Option R)(kx:Exit→AS→Option R):bz.L0.R (h_2,outL,i,n7) kn kx=
  aG ((fM i (32:Int))) (
   aG (eI i (32:Int)) (
   aG (decide (outL≤(List.length n7))) (
   aG (db (outL+1) 1) (
   kn (bz.L0.st (h_2,(outL+1),(bN .i64 i (1:Int)),((List.take outL n7)++ [(nth tb h_2 (Int.toNat i))])))) none) none) none) (
   kx (bz.L0.bp (outL,n7)).1 (bz.L0.bp (outL,n7)).2):=by kernel_rfl
theorem bz.eq{R:Type}(b:Bs)(h:Bs)(k:ba→Option R):bz.A (b,h) k=
 aG (db (0+(List.length b)) 1) (
 ah (bz.L0.call (h,(0+(List.length b)),(0:Int),((List.take 0 (List.replicate 0 (0:Int)))++b))) fun x1=>
 aG (decide (0=0∧(0+x1.1)≤(List.length x1.2))) (
 k (bz.out (cut x1.2 0 x1.1))) none) none:=by kernel_rfl
theorem bz.L0.ok:bz.L0.Ok:=by
 refine bz.L0.aB (fun(_,_,i,_)=>(32 - i).toNat) ?_
 rintro⟨h,m,i,l⟩ ⟨h32,rfl,k,hk,rfl,hl⟩
 have h32:h.length=32:=h32
 have hl:l.length≤100000000+k:=hl
 by_cases hlt:k < 32
 ·left
  have n1:nth tb h k=h[k]:=cn (t:=tb) (by omega)
  have el:(l++ [h[k]]).length=l.length+1:=by rw[List.length_append];rfl
  refine⟨(h,l.length+1,((k+1:Nat):Int),l++ [h[k]]),⟨h32,el.symm,k+1,by omega,rfl,by show(l++ [h[k]]).length≤_;omega⟩,by show(32 - ((k+1:Nat):Int)).toNat < (32 - (k:Int)).toNat;omega,?_,fun kn kx=> ?_⟩
  ·simp only[bz.L0.add,bz.L0.F,Int.toNat_natCast]
   rw[List.drop_eq_getElem_cons (show k < h.length by omega),List.append_assoc,List.singleton_append]
  ·rw[bz.L0.step,aW (by omega),ae,bm (by omega) (by omega),ae,aZ (Nat.le_refl _),ae,cS (by omega) (by omega),ae,N.j5 (by omega),Int.toNat_natCast,n1,List.take_length]
 ·right
  obtain rfl:k=32:=by omega
  intro T kn kx
  rw[bz.L0.step,aO (by omega),ag]
  simp only[bz.L0.add,bz.L0.F,Int.toNat_natCast]
  rw[List.drop_of_length_le (by omega),List.append_nil]
theorem bz.ok:bz.Ok:=by
 rintro⟨b,h⟩ ⟨hb,h32⟩
 have hb:b.length≤90000000:=hb
 have h32:h.length=32:=h32
 rw[bz.eq]
 simp only[Nat.zero_add,List.take_zero,List.nil_append]
 rw[cS (by omega) (by omega),ae,bz.L0.run (d:=(h,b.length,0,b)) ⟨h32,rfl,0,by omega,rfl,by omega⟩]
 simp only[aa,bz.L0.add,bz.L0.F,Int.toNat_zero,List.drop_zero,Nat.le_refl,and_self,decide_true,ae,fb,bz.add,bz.F]
noncomputable def bz.E:=Entry.cD [some tB,some tH] bz.st bz.av bz.add bz.F bz.out
noncomputable def bz.call:bz.D→Option bz.X:=bS bz.E bz.st
theorem bz.run:bM bz.call bz.av bz.add bz.F:=dq (df [.d tB,.d tB] fun _=>by kernel_rfl)
noncomputable def bz.sg:SG Tryz.prog:=⟨221,aR,bz.E,.fn 1 (by kernel_rfl) bz.ok (And.intro (.cD bz.L0.ok (by kernel_rfl)) trivial)⟩
abbrev dK.D:=Bs×Int
def dK.st:dK.D→SA:=fun(b,n)=>([.d tB b,.d ti n],[])
abbrev dK.Y:=Nat×(List Int)
abbrev dK.X:=Nat×(List Int)
def dK.out:dK.X→ba:=fun x=>⟨.bH (.new 0 0) 0 [] 0 0 x.1,[],[.obj 0 false (.vec 5 tb x.2)]⟩
def dK.add:dK.D→dK.Y→dK.X:=fun(b,n) y=>y
def dK.av:dK.D→Prop:=fun(b,n)=>b.length≤90000000∧n≤9223372036854775807
def dK.F:dK.D→dK.Y:=fun(b,n)=>((dS b n).length,dS b n)
noncomputable def dK.G:ed:=fk (P:=Tryz.prog) [cT.sg]
noncomputable def dK.an:eQ:= {bX:=[6],iE:=[⟨4,[],6,140⟩]}
noncomputable def dK.A:= @cY Tryz.prog dK.G dK.an 0 Tryz.f220 _ dK.st
abbrev dK.Ok:=dd @dK.A dK.av dK.add dK.F dK.out
theorem dK.eq{R:Type}(b:Bs)(n:Int)(k:ba→Option R):dK.A (b,n) k=
  aG (db (0+(List.length b)) 1) (
  aG ((nv n (0:Int))) (
   ah (cT.call n) fun x1=>
   aG (decide ((0+(List.length b))≤(List.length ((List.take 0 (List.replicate 0 (0:Int)))++b)))) (
   aG (db ((0+(List.length b))+(List.length x1)) 1) (
   k (dK.out (((0+(List.length b))+(List.length x1)),((List.take (0+(List.length b)) ((List.take 0 (List.replicate 0 (0:Int)))++b))++x1)))) none) none) (
   k (dK.out ((0+(List.length b)),((List.take 0 (List.replicate 0 (0:Int)))++b))))) none:=by kernel_rfl
theorem dK.ok:dK.Ok:=by
 rintro⟨b,n⟩ ⟨hb,hn⟩
 have hb:b.length≤90000000:=hb
 have hn:n≤9223372036854775807:=hn
 rw[dK.eq]
 simp only[Nat.zero_add,List.take_zero,List.nil_append,dK.add,dK.F,dS,Nat.le_refl,decide_true,ae,List.take_length]
 rw[cS (by omega) (by omega),ae]
 by_cases h:n≥0
 ·have hl:=my n
  rw[fF h,ae,if_neg (by omega),cT.run (d:=n) ⟨h,hn,by have e:(128:Int)^(8+1)=9223372036854775808:=rfl;rw[e];show n < _;omega⟩]
  simp only[aa,cT.add,cT.F]
  rw[cS (by omega) (by omega),List.length_append]
  rfl
 ·rw[eZ h,if_pos (by omega)];rfl
noncomputable def dK.E:=Entry.cD [some tB,some ti] dK.st dK.av dK.add dK.F dK.out
noncomputable def dK.call:dK.D→Option dK.X:=bS dK.E dK.st
theorem dK.run:bM dK.call dK.av dK.add dK.F:=dq (df [.d tB,.d ti] fun _=>by kernel_rfl)
noncomputable def dK.sg:SG Tryz.prog:=⟨220,aR,dK.E,.fn 0 (by kernel_rfl) dK.ok trivial⟩
abbrev dL.D:=Bs×Bs
def dL.st:dL.D→SA:=fun(b,c)=>([.d tB b,.d tB c],[])
abbrev dL.Y:=Bs
abbrev dL.X:=Bs
def dL.out:dL.X→ba:=fun x=>⟨.d tB x,[],[]⟩
def dL.add:dL.D→dL.Y→dL.X:=fun(b,c) y=>y
def dL.av:dL.D→Prop:=fun(b,c)=>b.length+c.length≤80000000
def dL.F:dL.D→dL.Y:=fun(b,c)=>b++(mw c.length++c)
noncomputable def dL.G:ed:=fk (P:=Tryz.prog) [dK.sg]
noncomputable def dL.an:eQ:= {res:=[some tB]}
noncomputable def dL.A:= @cY Tryz.prog dL.G dL.an 0 Tryz.f222 _ dL.st
abbrev dL.Ok:=dd @dL.A dL.av dL.add dL.F dL.out
theorem dL.eq{R:Type}(b:Bs)(c:Bs)(k:ba→Option R):dL.A (b,c) k=
 ah (dK.call (b,(((List.length c):Nat):Int))) fun x1=>
 aG (decide (x1.1≤(List.length x1.2))) (
 aG (db (x1.1+(List.length c)) 1) (
 aG (decide (0=0∧(0+(x1.1+(List.length c)))≤(List.length ((List.take x1.1 x1.2)++c)))) (
 k (dL.out (cut ((List.take x1.1 x1.2)++c) 0 (x1.1+(List.length c))))) none) none) none:=by kernel_rfl
theorem dL.ok:dL.Ok:=by
 rintro⟨b,c⟩ h
 have h:b.length+c.length≤80000000:=h
 have hl:=fm b c.length
 have e:dS b c.length=b++mw c.length:=by unfold dS;rw[if_neg (by omega)]
 have el:(b++mw c.length++c).length=(b++mw c.length).length+c.length:=List.length_append
 rw[dL.eq,dK.run (d:=(b,(c.length:Int))) ⟨by show b.length≤_;omega,by show(c.length:Int)≤_;omega⟩]
 simp only[aa,dK.add,dK.F,Nat.le_refl,decide_true,ae,List.take_length,Nat.zero_add,true_and]
 rw[e]at hl ⊢
 rw[cS (by omega) (by omega),ae,aZ (by omega),ae,fb el]
 simp only[dL.add,dL.F,List.append_assoc]
noncomputable def dL.E:=Entry.cD [some tB,some tB] dL.st dL.av dL.add dL.F dL.out
noncomputable def dL.call:dL.D→Option dL.X:=bS dL.E dL.st
theorem dL.run:bM dL.call dL.av dL.add dL.F:=dq (df [.d tB,.d tB] fun _=>by kernel_rfl)
noncomputable def dL.sg:SG Tryz.prog:=⟨222,aR,dL.E,.fn 0 (by kernel_rfl) dL.ok trivial⟩
abbrev eD.D:=so
def eD.st:eD.D→SA:=fun wv=>([.d xE wv],[])
abbrev eD.Y:=Bool
abbrev eD.X:=Bool
def eD.out:eD.X→ba:=fun x=>⟨.d .bool x,[],[]⟩
def eD.add:eD.D→eD.Y→eD.X:=fun wv y=>y
def eD.av:eD.D→Prop:=fun _=>True
def eD.F:eD.D→eD.Y:=fun w=>lT w
noncomputable def eD.G:ed:=fk (P:=Tryz.prog) []
noncomputable def eD.an:eQ:= {}
noncomputable def eD.A:= @cY Tryz.prog eD.G eD.an 0 Tryz.f160 _ eD.st
abbrev eD.Ok:=dd @eD.A eD.av eD.add eD.F eD.out
theorem eD.eq{R:Type}(wv:so)(k:ba→Option R):eD.A wv k=
  aG ((nv wv.1 (0:Int))) (
   aG ((zr wv.1 (3:Int))) (
    k (eD.out (zr (((List.length wv.2.1):Nat):Int) (12:Int)))) (
    k (eD.out false))) (
   k (eD.out false)):=by kernel_rfl
theorem eD.ok:eD.Ok:=by
 rintro⟨b,ss,sc,u⟩ _
 rw[eD.eq]
 simp only[eD.add,eD.F,lT]
 by_cases h:0≤b
 ·rw[fF h,ae]
  by_cases h2:b < 4
  ·rw[kh (by omega),ae,aZ ⟨h,h2⟩,Bool.true_and]
   by_cases h3:ss.length≤12
   ·rw[kh (by omega),aZ h3]
   ·rw[iM (by omega),bo h3]
  ·rw[iM (by omega),ag,bo (fun x=>h2 x.2),Bool.false_and]
 ·rw[eZ h,ag,bo (fun x=>h x.1),Bool.false_and]
noncomputable def eD.E:=Entry.cD [some xE] eD.st eD.av eD.add eD.F eD.out
noncomputable def eD.call:eD.D→Option eD.X:=bS eD.E eD.st
theorem eD.run:bM eD.call eD.av eD.add eD.F:=dq (df [.d xE] fun _=>by kernel_rfl)
noncomputable def eD.sg:SG Tryz.prog:=⟨160,aR,eD.E,.fn 0 (by kernel_rfl) eD.ok trivial⟩
def tQ(pre:List ia)(o:cK):Bool:=pre.any fun y=>Ty.beq ck y.1 o
def yx:List ia→List ia→Bool
 |_,[]=>true
 |pre,x::l=>(oo x && !(tQ pre x.1)) && yx (pre++ [x]) l
theorem C4:∀(l:List ia) (m:List (cK×Bool)) (pre:List ia),(∀o,(cz ck o m).getD false=tQ pre o)→pv m l=yx pre l
 |[],_,_,_=>rfl
 |x::l,m,pre,h=>by
  have e:qF m x=tQ pre x.1:=h x.1
  rw[pv,yx,e,C4 l (fH ck x.1 true m) (pre++ [x]) fun o=> ?_,Bool.and_comm (oo x)]
  rw[qE fI]
  unfold tQ
  rw[List.any_append]
  simp only[List.any_cons,List.any_nil,Bool.or_false]
  by_cases h1:o=x.1
  ·rw[if_pos ((mc _ _).2 h1),(mc x.1 o).2 h1.symm,Bool.or_true];rfl
  ·rw[if_neg (fun e=>h1 ((mc _ _).1 e)),h o]
   have:Ty.beq ck x.1 o=false:=by
    cases hb:Ty.beq ck x.1 o with
    |false=>rfl
    |true=>exact absurd ((mc _ _).1 hb).symm h1
   rw[this,Bool.or_false]
   rfl
def mo(o:gm):Bool:=kN o.1 && iT o.2.1
theorem yS:∀(l:List gm) (s:Int),0≤s→s≤1125899906842624→mq s l=(l.all mo && decide (s+fw l≤1125899906842624))
 |[],s,h0,h1=>by
  rw[aZ (show s+fw []≤1125899906842624 by show s+0≤_;omega)]
  rfl
 |o::l,s,h0,h1=>by
  have hc:kN s=true:=aZ ⟨h0,h1⟩
  rw[mq,List.all_cons,jf]
  unfold pz
  rw[hc,Bool.true_and,show mo o=(kN o.1 && iT o.2.1) from rfl]
  cases c1:kN o.1 with
  |false=>rfl
  |true=>
   have c2:0≤o.1∧o.1≤1125899906842624:=of_decide_eq_true c1
   rw[Bool.true_and,Bool.true_and]
   by_cases hs:s+o.1≤1125899906842624
   ·rw[aZ hs,Bool.true_and,yS l (s+o.1) (by omega) hs,Int.add_assoc,Bool.and_assoc]
   ·rw[bo hs,Bool.false_and,Bool.false_and]
    cases hl:l.all mo with
    |false=>cases iT o.2.1 <;> rfl
    |true=>
     have key:∀l:List gm,l.all mo=true→0≤fw l:=by
      intro l
      induction l with
      |nil=>intro _;exact Int.le_refl 0
      |cons x l ih=>
       intro h
       rw[List.all_cons,Bool.and_eq_true]at h
       have h1:=h.1
       unfold mo at h1
       rw[Bool.and_eq_true]at h1
       have h2:0≤x.1∧x.1≤1125899906842624:=of_decide_eq_true h1.1
       have:=ih h.2
       rw[jf]
       omega
     have:=key l hl
     rw[bo (show ¬s+(o.1+fw l)≤1125899906842624 by omega)]
     cases iT o.2.1 <;> rfl
abbrev ab.L0.D:=fv×Int
def ab.L0.st:ab.L0.D→AS:=fun(t_2,i)=>⟨([.undef,.ej gI t_2,.undef,.d ti i]++bl 100 []),[],(List.replicate 104 [])⟩
abbrev ab.L0.Y0:=Unit
abbrev ab.L0.X0:=Unit
def ab.L0.bp:ab.L0.X0→Exit×AS:=fun x=>(.ret,⟨([.undef,.undef,.d .bool false]++bl 101 []),[],(List.replicate 104 [])⟩)
abbrev ab.L0.Y1:=fv
abbrev ab.L0.X1:=fv
def ab.L0.fA:ab.L0.X1→Exit×AS:=fun x=>(.exit 0,⟨([.undef,.ej gI x]++bl 102 []),[],(List.replicate 104 [])⟩)
abbrev ab.L0.X:=(ab.L0.X0)⊕(ab.L0.X1)
abbrev ab.L0.Y:=(ab.L0.Y0)⊕(ab.L0.Y1)
def ab.L0.out:ab.L0.X→Out (Exit×AS):=fun x=> .br x.isLeft (.get x.getLeft? fun a=> .ok (ab.L0.bp a)) (.get x.getRight? fun b=> .ok (ab.L0.fA b))
def ab.L0.add:ab.L0.D→ab.L0.Y→ab.L0.X:=fun(t_2,i) y=>match y with | .inl y=> .inl y | .inr z=> .inr (z)
abbrev ab.L1.D:=fv×Int×Int×ia
def ab.L1.st:ab.L1.D→AS:=fun(t_3,i_2,kv,n4)=>⟨([.undef,.ej gI t_3,.undef,.d ti i_2,.ptr (.new 4 0) 0 [] 0,.d ti kv]++bl 98 []),[],(ch 4 ([[.obj 0 false (.d gz n4)]]++ch 99 []))⟩
abbrev ab.L1.Y0:=Unit
abbrev ab.L1.X0:=Unit
def ab.L1.bp:ab.L1.X0→Exit×AS:=fun x=>(.ret,⟨([.undef,.undef,.d .bool false]++bl 101 []),[],(List.replicate 104 [])⟩)
abbrev ab.L1.Y1:=Unit
abbrev ab.L1.X1:=fv×Int
def ab.L1.fA:ab.L1.X1→Exit×AS:=fun x=>(.exit 2,⟨([.undef,.ej gI x.1,.undef,.d ti x.2]++bl 100 []),[],(List.replicate 104 [])⟩)
abbrev ab.L1.X:=(ab.L1.X0)⊕(ab.L1.X1)
abbrev ab.L1.Y:=(ab.L1.Y0)⊕(ab.L1.Y1)
def ab.L1.out:ab.L1.X→Out (Exit×AS):=fun x=> .br x.isLeft (.get x.getLeft? fun a=> .ok (ab.L1.bp a)) (.get x.getRight? fun b=> .ok (ab.L1.fA b))
def ab.L1.add:ab.L1.D→ab.L1.Y→ab.L1.X:=fun(t_3,i_2,kv,n4) y=>match y with | .inl y=> .inl y | .inr z=> .inr ((t_3,i_2))
abbrev ab.L2.D:=fv×Int×Int
def ab.L2.st:ab.L2.D→AS:=fun(t_4,sum,i_3)=>⟨([.undef,.ej gI t_4]++bl 4 ([.d ti sum,.d ti i_3]++bl 96 [])),[],(List.replicate 104 [])⟩
abbrev ab.L2.Y0:=Unit
abbrev ab.L2.X0:=Unit
def ab.L2.bp:ab.L2.X0→Exit×AS:=fun x=>(.ret,⟨([.undef,.undef,.d .bool false]++bl 101 []),[],(List.replicate 104 [])⟩)
abbrev ab.L2.Y1:=Int
abbrev ab.L2.X1:=Int
def ab.L2.fA:ab.L2.X1→Exit×AS:=fun x=>(.exit 4,⟨(bl 6 ([.d ti x]++bl 97 [])),[],(List.replicate 104 [])⟩)
abbrev ab.L2.X:=(ab.L2.X0)⊕(ab.L2.X1)
abbrev ab.L2.Y:=(ab.L2.Y0)⊕(ab.L2.Y1)
def ab.L2.out:ab.L2.X→Out (Exit×AS):=fun x=> .br x.isLeft (.get x.getLeft? fun a=> .ok (ab.L2.bp a)) (.get x.getRight? fun b=> .ok (ab.L2.fA b))
def ab.L2.add:ab.L2.D→ab.L2.Y→ab.L2.X:=fun(t_4,sum,i_3) y=>match y with | .inl y=> .inl y | .inr z=> .inr (z)
abbrev ab.D:=fv
def ab.st:ab.D→SA:=fun t=>([.d gI t],[])
abbrev ab.Y:=Bool
abbrev ab.X:=Bool
def ab.out:ab.X→ba:=fun x=>⟨.d .bool x,[],[]⟩
def ab.add:ab.D→ab.Y→ab.X:=fun t y=>y
def ab.L1.av:ab.L1.D→Prop:=fun(t,i,j,x)=>∃(n k:Nat),n≤t.1.length∧k≤n∧n≤1000∧i=n∧j=k
def ab.L1.F:ab.L1.D→ab.L1.Y:=fun(t,i,j,x)=>if tQ ((t.1.take i.toNat).drop j.toNat) x.1 then .inl () else .inr ()
def ab.L0.av:ab.L0.D→Prop:=fun(t,i)=>t.1.length≤64∧∃k:Nat,k≤t.1.length∧i=k
def ab.L0.F:ab.L0.D→ab.L0.Y:=fun(t,i)=>if yx (t.1.take i.toNat) (t.1.drop i.toNat) then .inr t else .inl ()
def ab.L2.av:ab.L2.D→Prop:=fun(t,s,i)=>t.2.1.length≤64∧(∀o∈t.2.1,u9 o.2.1)∧∃k:Nat,k≤t.2.1.length∧i=k∧0≤s∧s≤(k:Int)*1125899906842624
def ab.L2.F:ab.L2.D→ab.L2.Y:=fun(t,s,i)=>if(t.2.1.drop i.toNat).all mo then .inr (s+fw (t.2.1.drop i.toNat)) else .inl ()
def ab.av:ab.D→Prop:=fun t=>GG t
def ab.F:ab.D→ab.Y:=fun t=>gU t
noncomputable def ab.G:ed:=fk (P:=Tryz.prog) [eD.sg,aD.sg]
noncomputable def ab.L0.E:=bU.cD ab.L0.st ab.L0.av ab.L0.add ab.L0.F ab.L0.out
noncomputable def ab.L0.call:ab.L0.D→Option ab.L0.X:=dw ab.L0.E ab.L0.st
noncomputable def ab.L1.E:=bU.cD ab.L1.st ab.L1.av ab.L1.add ab.L1.F ab.L1.out
noncomputable def ab.L1.call:ab.L1.D→Option ab.L1.X:=dw ab.L1.E ab.L1.st
noncomputable def ab.L2.E:=bU.cD ab.L2.st ab.L2.av ab.L2.add ab.L2.F ab.L2.out
noncomputable def ab.L2.call:ab.L2.D→Option ab.L2.X:=dw ab.L2.E ab.L2.st
noncomputable def ab.an:eQ:= {loops:=jB [(4,{bn:=[1,3]}),(10,{bn:=[1,3,4,5],sites:=[4]}),(16,{bn:=[1,6,7]})],outs:=jA [(4,{bn:=[1]},{bn:=[2]}),(10,{bn:=[1,3]},{bn:=[2]}),(16,{bn:=[6]},{bn:=[2]})],fC:=kf [(4,ab.L0.E),(10,ab.L1.E),(16,ab.L2.E)]}
noncomputable def ab.A:= @cY Tryz.prog ab.G ab.an 0 Tryz.f86 _ ab.st
abbrev ab.Ok:=dd @ab.A ab.av ab.add ab.F ab.out
noncomputable def ab.L0.R:= @cj Tryz.prog ab.G ab.an 0 Tryz.f86 0 _ ab.L0.st
abbrev ab.L0.Ok:=ew Tryz.prog ab.G ab.an 0 Tryz.f86 0 ab.L0.st ab.L0.av ab.L0.add ab.L0.F ab.L0.out
noncomputable def ab.L1.R:= @cj Tryz.prog ab.G ab.an 0 Tryz.f86 1 _ ab.L1.st
abbrev ab.L1.Ok:=ew Tryz.prog ab.G ab.an 0 Tryz.f86 1 ab.L1.st ab.L1.av ab.L1.add ab.L1.F ab.L1.out
noncomputable def ab.L2.R:= @cj Tryz.prog ab.G ab.an 0 Tryz.f86 2 _ ab.L2.st
abbrev ab.L2.Ok:=ew Tryz.prog ab.G ab.an 0 Tryz.f86 2 ab.L2.st ab.L2.av ab.L2.add ab.L2.F ab.L2.out
theorem ab.L0.run:bM ab.L0.call ab.L0.av ab.L0.add ab.L0.F:=eM (eL [.d gI,.d ti] fun _=>by kernel_rfl)
theorem ab.L0.aB:kC @ab.L0.R ab.L0.st ab.L0.av ab.L0.add ab.L0.F ab.L0.out ab.L0.Ok:=kL
theorem ab.L0.step{R:Type}(t_2:fv)(i:Int)(kn:AS→Option R)(kx:Exit→AS→Option R):ab.L0.R (t_2,i) kn kx=
  aG ((fM i (((List.length t_2.1):Nat):Int))) (
   aG (eI i (((List.length t_2.1):Nat):Int)) (
   aG ((fM (nth gz t_2.1 (Int.toNat i)).1.2.1 (0:Int))) (
    kx (ab.L0.bp ()).1 (ab.L0.bp ()).2) (
    aG ((nN (nth gz t_2.1 (Int.toNat i)).1.2.1 (63:Int))) (
     kx (ab.L0.bp ()).1 (ab.L0.bp ()).2) (
     ah (eD.call (nth gz t_2.1 (Int.toNat i)).2.1) fun x1=>
     aG ((!x1)) (
      kx (ab.L0.bp ()).1 (ab.L0.bp ()).2) (
      ah (ab.L1.call (t_2,i,(0:Int),(nth gz t_2.1 (Int.toNat i)))) fun x2=>
      aG (x2.isLeft) (
       ah (x2.getLeft?) fun a3=>
       kx (ab.L0.bp ()).1 (ab.L0.bp ()).2) (
       ah (x2.getRight?) fun b4=>
       kn (ab.L0.st (b4.1,(bN .i64 b4.2 (1:Int))))))))) none) (
   kx (ab.L0.fA t_2).1 (ab.L0.fA t_2).2):=by kernel_rfl
theorem ab.L1.run:bM ab.L1.call ab.L1.av ab.L1.add ab.L1.F:=eM (eL [.d gI,.d ti,.d ti,.d gz] fun _=>by kernel_rfl)
theorem ab.L1.aB:kC @ab.L1.R ab.L1.st ab.L1.av ab.L1.add ab.L1.F ab.L1.out ab.L1.Ok:=kL
theorem ab.L1.step{R:Type}(t_3:fv)(i_2:Int)(kv:Int)(n4:ia)(kn:AS→Option R)(kx:Exit→AS→Option R):ab.L1.R (t_3,i_2,kv,n4) kn kx=
  aG ((fM kv i_2)) (
   aG (eI kv (((List.length t_3.1):Nat):Int)) (
   aG ((Ty.beq ck (nth gz t_3.1 (Int.toNat kv)).1 n4.1)) (
    kx (ab.L1.bp ()).1 (ab.L1.bp ()).2) (
    kn (ab.L1.st (t_3,i_2,(bN .i64 kv (1:Int)),n4)))) none) (
   kx (ab.L1.fA (t_3,i_2)).1 (ab.L1.fA (t_3,i_2)).2):=by kernel_rfl
theorem ab.L2.run:bM ab.L2.call ab.L2.av ab.L2.add ab.L2.F:=eM (eL [.d gI,.d ti,.d ti] fun _=>by kernel_rfl)
theorem ab.L2.aB:kC @ab.L2.R ab.L2.st ab.L2.av ab.L2.add ab.L2.F ab.L2.out ab.L2.Ok:=kL
theorem ab.L2.step{R:Type}(t_4:fv)(sum:Int)(i_3:Int)(kn:AS→Option R)(kx:Exit→AS→Option R):ab.L2.R (t_4,sum,i_3) kn kx=
  aG ((fM i_3 (((List.length t_4.2.1):Nat):Int))) (
   aG (eI i_3 (((List.length t_4.2.1):Nat):Int)) (
   aG ((fM (nth fe t_4.2.1 (Int.toNat i_3)).1 (0:Int))) (
    kx (ab.L2.bp ()).1 (ab.L2.bp ()).2) (
    aG ((nN (nth fe t_4.2.1 (Int.toNat i_3)).1 (1125899906842624:Int))) (
     kx (ab.L2.bp ()).1 (ab.L2.bp ()).2) (
     ah (aD.call (nth fe t_4.2.1 (Int.toNat i_3)).2.1) fun x1=>
     aG ((!x1)) (
      kx (ab.L2.bp ()).1 (ab.L2.bp ()).2) (
      kn (ab.L2.st (t_4,(bN .i64 sum (nth fe t_4.2.1 (Int.toNat i_3)).1),(bN .i64 i_3 (1:Int)))))))) none) (
   kx (ab.L2.fA sum).1 (ab.L2.fA sum).2):=by kernel_rfl
theorem ab.eq{R:Type}(t:fv)(k:ba→Option R):ab.A t k=
  aG ((fM (((List.length t.1):Nat):Int) (1:Int))) (
   k (ab.out false)) (
   aG ((nN (((List.length t.1):Nat):Int) (64:Int))) (
    k (ab.out false)) (
    aG ((nN (((List.length t.2.1):Nat):Int) (64:Int))) (
     k (ab.out false)) (
     aG ((fM t.2.2.1 (0:Int))) (
      k (ab.out false)) (
      ah (ab.L0.call (t,(0:Int))) fun x5=>
      aG (x5.isLeft) (
       ah (x5.getLeft?) fun a6=>
       k (ab.out false)) (
       ah (x5.getRight?) fun b7=>
       ah (ab.L2.call (b7,(0:Int),(0:Int))) fun x9=>
       aG (x9.isLeft) (
        ah (x9.getLeft?) fun a10=>
        k (ab.out false)) (
        ah (x9.getRight?) fun b11=>
        k (ab.out (zr b11 (1125899906842624:Int))))))))):=by kernel_rfl
theorem ab.L1.ok:ab.L1.Ok:=by
 refine ab.L1.aB (fun(_,i,j,_)=>(i - j).toNat) ?_
 rintro⟨t,i,j,x⟩ ⟨n,k,hn,hk,hm,rfl,rfl⟩
 by_cases hlt:k < n
 ·have hk2:k < (t.1.take n).length:=by rw[List.length_take];omega
  have n1:nth gz t.1 k=t.1[k]:=cn (t:=gz) (by omega)
  have hd:(t.1.take n).drop k=t.1[k]::(t.1.take n).drop (k+1):=by rw[List.drop_eq_getElem_cons hk2,List.getElem_take]
  have hh:tQ ((t.1.take n).drop k) x.1=(Ty.beq ck t.1[k].1 x.1 || tQ ((t.1.take n).drop (k+1)) x.1):=by rw[hd];rfl
  have step:∀ {R:Type} (kn:AS→Option R) (kx:Exit→AS→Option R),ab.L1.R (t,(n:Int),(k:Int),x) kn kx=aG (Ty.beq ck t.1[k].1 x.1) (kx (ab.L1.bp ()).1 (ab.L1.bp ()).2) (kn (ab.L1.st (t,(n:Int),((k+1:Nat):Int),x))):=by
   intro R kn kx
   rw[ab.L1.step,aW (by omega),ae,bm (by omega) (by omega),ae,Int.toNat_natCast,n1,N.j5 (by omega)]
  cases hb:Ty.beq ck t.1[k].1 x.1 with
  |true=>
   right
   refine⟨ab.L1.bp (),?_,fun kn kx=> ?_⟩
   ·simp only[ab.L1.add,ab.L1.F,Int.toNat_natCast,hh,hb,Bool.true_or,if_true]
    rfl
   ·rw[step,hb,ae]
  |false=>
   left
   refine⟨(t,(n:Int),((k+1:Nat):Int),x),⟨n,k+1,hn,by omega,hm,rfl,rfl⟩,by show((n:Int) - ((k+1:Nat):Int)).toNat < ((n:Int) - (k:Int)).toNat;omega,?_,fun kn kx=> ?_⟩
   ·simp only[ab.L1.add,ab.L1.F,Int.toNat_natCast,hh,hb,Bool.false_or]
   ·rw[step,hb,ag]
 ·right
  obtain rfl:k=n:=by omega
  have e:(t.1.take k).drop k=[]:=List.drop_of_length_le (by rw[List.length_take];omega)
  refine⟨ab.L1.fA (t,(k:Int)),?_,fun kn kx=> ?_⟩
  ·simp only[ab.L1.add,ab.L1.F,Int.toNat_natCast,e]
   rfl
  ·rw[ab.L1.step,aO (by omega),ag]
theorem ab.L0.ok:ab.L0.Ok:=by
 refine ab.L0.aB (fun(t,i)=>t.1.length - i.toNat) ?_
 rintro⟨t,i⟩ ⟨h64,k,hk,rfl⟩
 have h64:t.1.length≤64:=h64
 have hk:k≤t.1.length:=hk
 by_cases hlt:k < t.1.length
 ·have n1:nth gz t.1 k=t.1[k]:=cn (t:=gz) hlt
  have hd:yx (t.1.take k) (t.1.drop k)=((oo t.1[k] && !(tQ (t.1.take k) t.1[k].1)) && yx (t.1.take (k+1)) (t.1.drop (k+1))):=by
   rw[List.drop_eq_getElem_cons hlt,yx,List.take_succ_eq_append_getElem hlt]
  have step:∀ {R:Type} (kn:AS→Option R) (kx:Exit→AS→Option R),ab.L0.R (t,(k:Int)) kn kx=aG (oo t.1[k] && !(tQ (t.1.take k) t.1[k].1)) (kn (ab.L0.st (t,((k+1:Nat):Int)))) (kx (ab.L0.bp ()).1 (ab.L0.bp ()).2):=by
   intro R kn kx
   rw[ab.L0.step,aW (by omega),ae,bm (by omega) (by omega),ae,Int.toNat_natCast,n1]
   unfold oo
   by_cases h1:t.1[k].1.2.1 < 0
   ·rw[aW h1,ae,bo (by omega)];rfl
   rw[aO h1,ag]
   by_cases h2:t.1[k].1.2.1 > 63
   ·rw[dY h2,ae,bo (by omega)];rfl
   rw[dI h2,ag,aZ (by omega),eD.run (d:=t.1[k].2.1) trivial]
   simp only[aa,eD.add,eD.F,Bool.true_and]
   cases lT t.1[k].2.1 with
   |false=>rfl
   |true=>
    rw[Bool.not_true,ag,Bool.true_and,ab.L1.run (d:=(t,(k:Int),0,t.1[k])) ⟨k,0,hk,Nat.zero_le _,by omega,rfl,rfl⟩]
    simp only[aa,ab.L1.add,ab.L1.F,Int.toNat_natCast,Int.toNat_zero,List.drop_zero]
    cases tQ (t.1.take k) t.1[k].1 with
    |true=>rfl
    |false=>
     simp only[Bool.false_eq_true,if_false,Sum.isLeft_inr,ag,Sum.getRight?_inr,aa,Bool.not_false,ae]
     rw[N.j5 (by omega)]
  cases hp:oo t.1[k] && !(tQ (t.1.take k) t.1[k].1)
  ·right
   refine⟨ab.L0.bp (),?_,fun kn kx=> ?_⟩
   ·simp only[ab.L0.add,ab.L0.F,Int.toNat_natCast,hd,hp,Bool.false_and,Bool.false_eq_true,if_false]
    rfl
   ·rw[step,hp,ag]
  ·left
   refine⟨(t,((k+1:Nat):Int)),⟨h64,k+1,by omega,rfl⟩,by simp only[Int.toNat_natCast];omega,?_,fun kn kx=> ?_⟩
   ·simp only[ab.L0.add,ab.L0.F,Int.toNat_natCast,hd,hp,Bool.true_and]
   ·rw[step,hp,ae]
 ·right
  obtain rfl:k=t.1.length:=by omega
  refine⟨ab.L0.fA t,?_,fun kn kx=> ?_⟩
  ·simp only[ab.L0.add,ab.L0.F,Int.toNat_natCast,List.drop_length]
   rfl
  ·rw[ab.L0.step,aO (by omega),ag]
theorem ab.L2.ok:ab.L2.Ok:=by
 refine ab.L2.aB (fun(t,_,i)=>t.2.1.length - i.toNat) ?_
 rintro⟨t,s,i⟩ ⟨h64,hu,k,hk,rfl,h0,h1⟩
 have h64:t.2.1.length≤64:=h64
 have hk:k≤t.2.1.length:=hk
 have h0:0≤s:=h0
 have h1:s≤(k:Int)*1125899906842624:=h1
 by_cases hlt:k < t.2.1.length
 ·have n1:nth fe t.2.1 k=t.2.1[k]:=cn (t:=fe) hlt
  have hd:t.2.1.drop k=t.2.1[k]::t.2.1.drop (k+1):=List.drop_eq_getElem_cons hlt
  have step:∀ {R:Type} (kn:AS→Option R) (kx:Exit→AS→Option R),ab.L2.R (t,s,(k:Int)) kn kx=aG (mo t.2.1[k]) (kn (ab.L2.st (t,s+t.2.1[k].1,((k+1:Nat):Int)))) (kx (ab.L2.bp ()).1 (ab.L2.bp ()).2):=by
   intro R kn kx
   rw[ab.L2.step,aW (by omega),ae,bm (by omega) (by omega),ae,Int.toNat_natCast,n1]
   unfold mo kN
   by_cases c1:t.2.1[k].1 < 0
   ·rw[aW c1,ae,bo (by omega)];rfl
   rw[aO c1,ag]
   by_cases c2:t.2.1[k].1 > 1125899906842624
   ·rw[dY c2,ae,bo (by omega)];rfl
   rw[dI c2,ag,aZ (by omega),aD.run (d:=t.2.1[k].2.1) (hu _ (List.getElem_mem hlt))]
   simp only[aa,aD.add,aD.F,Bool.true_and]
   rw[gF (by omega) (by omega),N.j5 (by omega)]
   cases iT t.2.1[k].2.1 <;> rfl
  cases hp:mo t.2.1[k]
  ·right
   refine⟨ab.L2.bp (),?_,fun kn kx=> ?_⟩
   ·simp only[ab.L2.add,ab.L2.F,Int.toNat_natCast,hd,List.all_cons,hp,Bool.false_and,Bool.false_eq_true,if_false]
    rfl
   ·rw[step,hp,ag]
  ·left
   have hp':=hp
   unfold mo at hp'
   rw[Bool.and_eq_true]at hp'
   have c:0≤t.2.1[k].1∧t.2.1[k].1≤1125899906842624:=of_decide_eq_true hp'.1
   refine⟨(t,s+t.2.1[k].1,((k+1:Nat):Int)),⟨h64,hu,k+1,by omega,rfl,by show 0≤s+t.2.1[k].1;omega,by show s+t.2.1[k].1≤((k+1:Nat):Int)*1125899906842624;omega⟩,by simp only[Int.toNat_natCast];omega,?_,fun kn kx=> ?_⟩
   ·simp only[ab.L2.add,ab.L2.F,Int.toNat_natCast,hd,List.all_cons,hp,Bool.true_and,jf,Int.add_assoc]
   ·rw[step,hp,ae]
 ·right
  obtain rfl:k=t.2.1.length:=by omega
  refine⟨ab.L2.fA s,?_,fun kn kx=> ?_⟩
  ·simp only[ab.L2.add,ab.L2.F,Int.toNat_natCast,List.drop_length]
   rw[show s+fw ([]:List gm)=s+0 from rfl,Int.add_zero]
   rfl
  ·rw[ab.L2.step,aO (by omega),ag]
theorem ab.ok:ab.Ok:=by
 intro t hv
 have hv:GG t:=hv
 rw[ab.eq]
 simp only[ab.add,ab.F,gU,uT]
 by_cases h1:t.1.length < 1
 ·rw[aW (by omega),bo (by omega)];rfl
 by_cases h2:t.1.length > 64
 ·rw[aO (by omega),ag,dY (by omega),bo (by omega)];rfl
 by_cases h3:t.2.1.length > 64
 ·rw[aO (by omega),ag,dI (by omega),ag,dY (by omega),bo (by omega)];rfl
 rw[aO (by omega),ag,dI (by omega),ag,dI (by omega),ag]
 by_cases h4:t.2.2.1 < 0
 ·rw[aW h4,bo (by omega)];rfl
 rw[aO h4,ag,aZ (by omega),Bool.true_and,ab.L0.run (d:=(t,0)) ⟨by show t.1.length≤64;omega,0,Nat.zero_le _,rfl⟩]
 simp only[aa,ab.L0.add,ab.L0.F,Int.toNat_zero,List.drop_zero,List.take_zero]
 rw[C4 t.1 [] [] (fun o=>by rw[nA];rfl),yS t.2.1 0 (by decide) (by decide)]
 cases yx [] t.1 with
 |false=>rfl
 |true=>
  simp only[if_true,Sum.isLeft_inr,ag,Sum.getRight?_inr,aa,Bool.true_and]
  rw[ab.L2.run (d:=(t,0,0)) ⟨by show t.2.1.length≤64;omega,fun o ho=>(hv.1 o ho).1,0,Nat.zero_le _,rfl,Int.le_refl 0,by omega⟩]
  simp only[aa,ab.L2.add,ab.L2.F,Int.toNat_zero,List.drop_zero]
  cases t.2.1.all mo with
  |false=>rfl
  |true=>
   simp only[if_true,Sum.isLeft_inr,ag,Sum.getRight?_inr,aa,Bool.true_and]
   by_cases hs:0+fw t.2.1≤1125899906842624
   ·rw[kh hs,aZ hs]
   ·rw[iM hs,bo hs]
noncomputable def ab.E:=Entry.cD [some gI] ab.st ab.av ab.add ab.F ab.out
noncomputable def ab.call:ab.D→Option ab.X:=bS ab.E ab.st
theorem ab.run:bM ab.call ab.av ab.add ab.F:=dq (df [.d gI] fun _=>by kernel_rfl)
noncomputable def ab.sg:SG Tryz.prog:=⟨86,aR,ab.E,.fn 3 (by kernel_rfl) ab.ok (And.intro (.cD ab.L0.ok (by kernel_rfl)) (And.intro (.cD ab.L1.ok (by kernel_rfl)) (And.intro (.cD ab.L2.ok (by kernel_rfl)) trivial)))⟩
abbrev aq.L0.D:=fv×Bs×Int
def aq.L0.st:aq.L0.D→AS:=fun(t_2,b,i)=>⟨([.undef,.ej gI t_2,.undef,.d tB b,.d ti i]++bl 63 []),[],(List.replicate 68 [])⟩
abbrev aq.L0.Y0:=Bs
abbrev aq.L0.X0:=(fv)×(Bs)
def aq.L0.bp:aq.L0.X0→Exit×AS:=fun x=>(.exit 0,⟨([.undef,.ej gI x.1,.undef,.d tB x.2]++bl 64 []),[],(List.replicate 68 [])⟩)
abbrev aq.L0.X:=aq.L0.X0
abbrev aq.L0.Y:=aq.L0.Y0
def aq.L0.out:aq.L0.X→Out (Exit×AS):=fun x=> .ok (aq.L0.bp x)
def aq.L0.add:aq.L0.D→aq.L0.Y→aq.L0.X:=fun(t_2,b,i) y=>(t_2,y)
abbrev aq.L1.D:=fv×Bs×Int
def aq.L1.st:aq.L1.D→AS:=fun(t_3,b_2,i_2)=>⟨([.undef,.ej gI t_3,.undef,.d tB b_2,.undef,.d ti i_2]++bl 62 []),[],(List.replicate 68 [])⟩
abbrev aq.L1.Y0:=Bs
abbrev aq.L1.X0:=(fv)×(Bs)
def aq.L1.bp:aq.L1.X0→Exit×AS:=fun x=>(.exit 2,⟨([.undef,.ej gI x.1,.undef,.d tB x.2]++bl 64 []),[],(List.replicate 68 [])⟩)
abbrev aq.L1.X:=aq.L1.X0
abbrev aq.L1.Y:=aq.L1.Y0
def aq.L1.out:aq.L1.X→Out (Exit×AS):=fun x=> .ok (aq.L1.bp x)
def aq.L1.add:aq.L1.D→aq.L1.Y→aq.L1.X:=fun(t_3,b_2,i_2) y=>(t_3,y)
abbrev aq.D:=fv
def aq.st:aq.D→SA:=fun t=>([.d gI t],[])
abbrev aq.Y:=Bs
abbrev aq.X:=Bs
def aq.out:aq.X→ba:=fun x=>⟨.d tB x,[],[]⟩
def aq.add:aq.D→aq.Y→aq.X:=fun t y=>y
def aq.L0.av:aq.L0.D→Prop:=fun(t,b,i)=>(t.1).length≤1000000000∧∃k:Nat,k≤(t.1).length∧i=k∧(t.1.length≤64)∧(∀x∈t.1,x.1.1.length=32∧x.1.2.1≤9223372036854775807)∧(b.length≤100+50*k)
def aq.L0.F:aq.L0.D→aq.L0.Y:=fun(t,b,i)=>(List.drop (Int.toNat i) t.1).foldl pE b
def aq.L1.av:aq.L1.D→Prop:=fun(t,b,i)=>(t.2.1).length≤1000000000∧∃k:Nat,k≤(t.2.1).length∧i=k∧(t.2.1.length≤64)∧(∀o∈t.2.1,o.1≤9223372036854775807∧u9 o.2.1)∧(b.length≤4000+1100*k)
def aq.L1.F:aq.L1.D→aq.L1.Y:=fun(t,b,i)=>(List.drop (Int.toNat i) t.2.1).foldl qR b
def aq.av:aq.D→Prop:=fun t=>gU t=true∧nE t
def aq.F:aq.D→aq.Y:=fun t=>nb t
noncomputable def aq.G:ed:=fk (P:=Tryz.prog) [du.sg,bz.sg,ao.sg,dL.sg]
noncomputable def aq.L0.E:=bU.cD aq.L0.st aq.L0.av aq.L0.add aq.L0.F aq.L0.out
noncomputable def aq.L0.call:aq.L0.D→Option aq.L0.X:=dw aq.L0.E aq.L0.st
noncomputable def aq.L1.E:=bU.cD aq.L1.st aq.L1.av aq.L1.add aq.L1.F aq.L1.out
noncomputable def aq.L1.call:aq.L1.D→Option aq.L1.X:=dw aq.L1.E aq.L1.st
noncomputable def aq.an:eQ:= {loops:=jB [(3,{bn:=[1,3,4]}),(9,{bn:=[1,3,5]})],outs:=jA [(3,{bn:=[1,3]},{bn:=[2]}),(9,{bn:=[1,3]},{bn:=[2]})],fC:=kf [(3,aq.L0.E),(9,aq.L1.E)],res:=[some tB]}
noncomputable def aq.A:= @cY Tryz.prog aq.G aq.an 0 Tryz.f162 _ aq.st
abbrev aq.Ok:=dd @aq.A aq.av aq.add aq.F aq.out
noncomputable def aq.L0.R:= @cj Tryz.prog aq.G aq.an 0 Tryz.f162 0 _ aq.L0.st
abbrev aq.L0.Ok:=ew Tryz.prog aq.G aq.an 0 Tryz.f162 0 aq.L0.st aq.L0.av aq.L0.add aq.L0.F aq.L0.out
noncomputable def aq.L1.R:= @cj Tryz.prog aq.G aq.an 0 Tryz.f162 1 _ aq.L1.st
abbrev aq.L1.Ok:=ew Tryz.prog aq.G aq.an 0 Tryz.f162 1 aq.L1.st aq.L1.av aq.L1.add aq.L1.F aq.L1.out
theorem aq.L0.run:bM aq.L0.call aq.L0.av aq.L0.add aq.L0.F:=eM (eL [.d gI,.d tB,.d ti] fun _=>by kernel_rfl)
theorem aq.L0.aB:fQ @aq.L0.R aq.L0.st aq.L0.av aq.L0.add aq.L0.F aq.L0.bp aq.L0.Ok:=fU
theorem aq.L0.step{R:Type}(t_2:fv)(b:Bs)(i:Int)(kn:AS→Option R)(kx:Exit→AS→Option R):aq.L0.R (t_2,b,i) kn kx=
  aG ((fM i (((List.length t_2.1):Nat):Int))) (
   aG (eI i (((List.length t_2.1):Nat):Int)) (
   ah (bz.call (b,(nth gz t_2.1 (Int.toNat i)).1.1)) fun x1=>
   aG (eI i (((List.length t_2.1):Nat):Int)) (
   ah (du.call (x1,(nth gz t_2.1 (Int.toNat i)).1.2.1)) fun x2=>
   kn (aq.L0.st (t_2,x2,(bN .i64 i (1:Int))))) none) none) (
   kx (aq.L0.bp (t_2,b)).1 (aq.L0.bp (t_2,b)).2):=by kernel_rfl
theorem aq.L1.run:bM aq.L1.call aq.L1.av aq.L1.add aq.L1.F:=eM (eL [.d gI,.d tB,.d ti] fun _=>by kernel_rfl)
theorem aq.L1.aB:fQ @aq.L1.R aq.L1.st aq.L1.av aq.L1.add aq.L1.F aq.L1.bp aq.L1.Ok:=fU
theorem aq.L1.step{R:Type}(t_3:fv)(b_2:Bs)(i_2:Int)(kn:AS→Option R)(kx:Exit→AS→Option R):aq.L1.R (t_3,b_2,i_2) kn kx=
  aG ((fM i_2 (((List.length t_3.2.1):Nat):Int))) (
   aG (eI i_2 (((List.length t_3.2.1):Nat):Int)) (
   ah (du.call (b_2,(nth fe t_3.2.1 (Int.toNat i_2)).1)) fun x1=>
   aG (eI i_2 (((List.length t_3.2.1):Nat):Int)) (
   ah (ao.call (nth fe t_3.2.1 (Int.toNat i_2)).2.1) fun x2=>
   ah (dL.call (x1,x2)) fun x3=>
   kn (aq.L1.st (t_3,x3,(bN .i64 i_2 (1:Int))))) none) none) (
   kx (aq.L1.bp (t_3,b_2)).1 (aq.L1.bp (t_3,b_2)).2):=by kernel_rfl
theorem aq.eq{R:Type}(t:fv)(k:ba→Option R):aq.A t k=
 ah (du.call (([]:List Int),(((List.length t.1):Nat):Int))) fun x1=>
 ah (aq.L0.call (t,x1,(0:Int))) fun x4=>
 ah (du.call (x4.2,(((List.length x4.1.2.1):Nat):Int))) fun x5=>
 ah (aq.L1.call (x4.1,x5,(0:Int))) fun x9=>
 ah (du.call (x9.2,x9.1.2.2.1)) fun x10=>
 k (aq.out x10):=by kernel_rfl
theorem aq.L0.ok:aq.L0.Ok:=by
 refine aq.L0.aB (fun(t,b,i)=>(t.1).length - Int.toNat i) ?_
 rintro⟨t,b,i⟩ ⟨hlen,k,hk,rfl,h64,hx,hb⟩
 have hlen:(t.1).length≤1000000000:=hlen
 have hk:k≤(t.1).length:=hk
 have h64:t.1.length≤64:=h64
 have hx:∀x∈t.1,x.1.1.length=32∧x.1.2.1≤9223372036854775807:=hx
 have hb:b.length≤100+50*k:=hb
 by_cases h:k < (t.1).length
 ·left
  have n1:nth gz t.1 k=t.1[k]:=cn (t:=gz) h
  have hd:List.drop k t.1=t.1[k]::List.drop (k+1) t.1:=List.drop_eq_getElem_cons h
  refine⟨(t,(pE b t.1[k]),((k+1:Nat):Int)),⟨hlen,k+1,by omega,rfl,h64,hx,by have:=w9 b t.1[k];have:=(hx _ (List.getElem_mem h)).1;omega⟩,by simp only[Int.toNat_natCast];omega,?_,fun kn kx=> ?_⟩
  ·simp only[aq.L0.add,aq.L0.F,Int.toNat_natCast,hd,List.foldl_cons]
  ·rw[aq.L0.step,aW (by omega),bm (by omega) (by omega),Int.toNat_natCast,n1]
   simp only[ae]
   have e:=hx _ (List.getElem_mem h)
   have e2:(b++t.1[k].1.1).length=b.length+t.1[k].1.1.length:=List.length_append
   rw[bz.run (d:=(b,t.1[k].1.1)) ⟨by show b.length≤_;omega,e.1⟩]
   simp only[aa,bz.add,bz.F]
   rw[du.run (d:=(b++t.1[k].1.1,t.1[k].1.2.1)) ⟨by show(b++t.1[k].1.1).length≤_;omega,e.2⟩]
   simp only[aa,du.add,du.F]
   rw[N.j5 (by omega)]
   rfl
 ·right
  obtain rfl:k=(t.1).length:=by omega
  intro R kn kx
  rw[aq.L0.step,aO (by omega),ag]
  simp only[aq.L0.add,aq.L0.F,Int.toNat_natCast,List.drop_length,List.foldl_nil]
theorem aq.L1.ok:aq.L1.Ok:=by
 refine aq.L1.aB (fun(t,b,i)=>(t.2.1).length - Int.toNat i) ?_
 rintro⟨t,b,i⟩ ⟨hlen,k,hk,rfl,h64,hx,hb⟩
 have hlen:(t.2.1).length≤1000000000:=hlen
 have hk:k≤(t.2.1).length:=hk
 have h64:t.2.1.length≤64:=h64
 have hx:∀o∈t.2.1,o.1≤9223372036854775807∧u9 o.2.1:=hx
 have hb:b.length≤4000+1100*k:=hb
 by_cases h:k < (t.2.1).length
 ·left
  have n1:nth fe t.2.1 k=t.2.1[k]:=cn (t:=fe) h
  have hd:List.drop k t.2.1=t.2.1[k]::List.drop (k+1) t.2.1:=List.drop_eq_getElem_cons h
  refine⟨(t,(qR b t.2.1[k]),((k+1:Nat):Int)),⟨hlen,k+1,by omega,rfl,h64,hx,by have:=um b t.2.1[k];omega⟩,by simp only[Int.toNat_natCast];omega,?_,fun kn kx=> ?_⟩
  ·simp only[aq.L1.add,aq.L1.F,Int.toNat_natCast,hd,List.foldl_cons]
  ·rw[aq.L1.step,aW (by omega),bm (by omega) (by omega),Int.toNat_natCast,n1]
   simp only[ae]
   have e:=hx _ (List.getElem_mem h)
   have e1:=fm b t.2.1[k].1
   have e2:=xe t.2.1[k].2.1
   rw[du.run (d:=(b,t.2.1[k].1)) ⟨by show b.length≤_;omega,e.1⟩]
   simp only[aa,du.add,du.F]
   rw[ao.run (d:=t.2.1[k].2.1) e.2]
   simp only[aa,ao.add,ao.F]
   rw[dL.run (d:=(dS b t.2.1[k].1,BP t.2.1[k].2.1)) (by show(dS b t.2.1[k].1).length+(BP t.2.1[k].2.1).length≤_;omega)]
   simp only[aa,dL.add,dL.F]
   rw[N.j5 (by omega)]
   rfl
 ·right
  obtain rfl:k=(t.2.1).length:=by omega
  intro R kn kx
  rw[aq.L1.step,aO (by omega),ag]
  simp only[aq.L1.add,aq.L1.F,Int.toNat_natCast,List.drop_length,List.foldl_nil]
theorem aq.ok:aq.Ok:=by
 rintro t ⟨hok,hv⟩
 have hv:nE t:=hv
 obtain⟨⟨_,a2,a3,_⟩,b1,b2⟩:=iF hok
 have h0:([]:List Int).length=0:=rfl
 have l0:=fm [] t.1.length
 have l1:=s8 t.1 (dS [] t.1.length) fun x hx=>(hv.2.1 x hx).1.1
 have l2:=fm (t.1.foldl pE (dS [] t.1.length)) t.2.1.length
 have l3:=qS t.2.1 (dS (t.1.foldl pE (dS [] t.1.length)) t.2.1.length)
 rw[aq.eq,du.run (d:=([],(t.1.length:Int))) ⟨by show([]:List Int).length≤_;omega,by show(t.1.length:Int)≤_;omega⟩]
 simp only[aa,du.add,du.F]
 rw[aq.L0.run (d:=(t,dS [] t.1.length,0)) ⟨by show t.1.length≤_;omega,0,Nat.zero_le _,rfl,a2,fun x hx=>⟨(hv.2.1 x hx).1.1,by have:=zZ (nw _ _ b1 x hx);omega⟩,by show(dS [] t.1.length).length≤_;omega⟩]
 simp only[aa,aq.L0.add,aq.L0.F,Int.toNat_zero,List.drop_zero]
 rw[du.run (d:=(t.1.foldl pE (dS [] t.1.length),(t.2.1.length:Int))) ⟨by show(t.1.foldl pE (dS [] t.1.length)).length≤_;omega,by show(t.2.1.length:Int)≤_;omega⟩]
 simp only[aa,du.add,du.F]
 rw[aq.L1.run (d:=(t,dS (t.1.foldl pE (dS [] t.1.length)) t.2.1.length,0)) ⟨by show t.2.1.length≤_;omega,0,Nat.zero_le _,rfl,a3,fun o ho=>⟨by have:=(iD _ _ b2 o ho).1;omega,(hv.1.1 o ho).1⟩,by show(dS (t.1.foldl pE (dS [] t.1.length)) t.2.1.length).length≤_;omega⟩]
 simp only[aa,aq.L1.add,aq.L1.F,Int.toNat_zero,List.drop_zero]
 rw[du.run (d:=(t.2.1.foldl qR (dS (t.1.foldl pE (dS [] t.1.length)) t.2.1.length),t.2.2.1)) ⟨by show(t.2.1.foldl qR (dS (t.1.foldl pE (dS [] t.1.length)) t.2.1.length)).length≤_;omega,hv.2.2⟩]
 rfl
noncomputable def aq.E:=Entry.cD [some gI] aq.st aq.av aq.add aq.F aq.out
noncomputable def aq.call:aq.D→Option aq.X:=bS aq.E aq.st
theorem aq.run:bM aq.call aq.av aq.add aq.F:=dq (df [.d gI] fun _=>by kernel_rfl)
noncomputable def aq.sg:SG Tryz.prog:=⟨162,aR,aq.E,.fn 2 (by kernel_rfl) aq.ok (And.intro (.cD aq.L0.ok (by kernel_rfl)) (And.intro (.cD aq.L1.ok (by kernel_rfl)) trivial))⟩
abbrev eh.D:=fv
def eh.st:eh.D→SA:=fun t=>([.d gI t],[])
abbrev eh.Y:=Bs
abbrev eh.X:=Bs
def eh.out:eh.X→ba:=fun x=>⟨.d tH x,[],[]⟩
def eh.add:eh.D→eh.Y→eh.X:=fun t y=>y
def eh.av:eh.D→Prop:=fun t=>nE t
def eh.F:eh.D→eh.Y:=fun t=>lS t
noncomputable def eh.G:ed:=fk (P:=Tryz.prog) [ab.sg,aq.sg,di.sg]
noncomputable def eh.an:eQ:= {}
noncomputable def eh.A:= @cY Tryz.prog eh.G eh.an 0 Tryz.f87 _ eh.st
abbrev eh.Ok:=dd @eh.A eh.av eh.add eh.F eh.out
theorem eh.eq{R:Type}(t:fv)(k:ba→Option R):eh.A t k=
  ah (ab.call t) fun x1=>
  aG ((!x1)) (
   k (eh.out (List.replicate 32 (0:Int)))) (
   ah (aq.call t) fun x2=>
   ah (di.call ((⟨#[116,120]⟩:ByteArray),[x2])) fun x3=>
   k (eh.out x3)):=by kernel_rfl
theorem eh.ok:eh.Ok:=by
 intro t hv
 have hv:nE t:=hv
 rw[eh.eq,ab.run (d:=t) hv.1]
 simp only[aa,ab.add,ab.F,eh.add,eh.F,lS]
 cases hok:gU t
 ·rfl
 ·have hl:=uq hok hv
  rw[aq.run (d:=t) ⟨hok,hv⟩]
  simp only[Bool.not_true,ag,if_true,aa,aq.add,aq.F]
  rw[di.run (d:=((⟨#[116,120]⟩:ByteArray),[nb t])) (zg (by decide) (by omega))]
  rfl
noncomputable def eh.E:=Entry.cD [some gI] eh.st eh.av eh.add eh.F eh.out
noncomputable def eh.call:eh.D→Option eh.X:=bS eh.E eh.st
theorem eh.run:bM eh.call eh.av eh.add eh.F:=dq (df [.d gI] fun _=>by kernel_rfl)
noncomputable def eh.sg:SG Tryz.prog:=⟨87,aR,eh.E,.fn 0 (by kernel_rfl) eh.ok trivial⟩
set_option synthInstance.maxSize 5000
theorem D9(k:Int):gY (e7 k):=(uz _ _).u
def mT:List Int:=[152,45,158,62,185,150,245,89,230,51,244,209,148,222,243,118,29,144,159,90,59,100,125,26,133,31,234,214,124,50,201,209]
theorem s3:iH 3 mT=(2066670005889522986,1913675330412042729,()):=by decide+kernel
set_option synthInstance.maxSize 5000
theorem u0:gY 0:=⟨Int.le_refl 0,by decide⟩
theorem Aa{x:Int}{l:List Int}(h:gY x)(hl:nj l):nj (x::l):=fun p hp=>by
 rcases List.mem_cons.1 hp with rfl | hp
 ·exact h
 ·exact hl p hp
theorem BM:nj []:=fun p hp=>by cases hp
theorem EF{ks:List Int}(h:nj ks):u9 (Bk ks):=fun b hb=>by
 have hb:b∈ [(ks,(0:Int),(0:Int),(0:Int),())]:=hb
 rw[List.mem_singleton]at hb
 subst hb
 exact⟨h,u0⟩
theorem HA:rM 0=true:=rfl
theorem Ed(ks:List Int)(a d:Int)(h:ks.length≤12):lj (ks,a,d,0,())=(ks.all ju && (rM a && rM d)):=by
 have e:lj (ks,a,d,0,())=(decide (ks.length≤12) && (ks.all ju && (rM a && (rM d && true)))):=rfl
 rw[e,aZ h,Bool.true_and,Bool.and_true]
theorem Dc(ks:List Int)(h:ks.length≤12):iT (Bk ks)=ks.all ju:=by
 have e:iT (Bk ks)=((lj (ks,0,0,0,()) && true) && true):=rfl
 rw[e,Ed _ _ _ h,HA,Bool.and_true,Bool.and_true,Bool.and_true,Bool.and_true]
def Dw(b:ik)(sg:List Sg)(s:Int)(m:List Int)(height age:Int):Int:=
 if height < b.2.1∨age < b.2.2.1 then 11
 else if b.2.2.2.1≠0∧e7 s≠b.2.2.2.1 then 23
 else if sg.length≠b.1.length then 7
 else if j4 m b.1 sg then 0 else 7
theorem EL{l:Lk}{i:Nat}{b:ik}(hok:iT l=true)(hi:i < l.1.length)(hb:l.1[i]=b)(sg:List Sg)(s:Int)(m:List Int)(h a:Int):kb l ((i:Int),sg,s,()) m h a=Dw b sg s m h a:=by
 have n1:nth (.pair (.slice (.int .u64)) (.pair (.int .i64) (.pair (.int .i64) (.pair (.int .u64) .unit)))) l.1 i=l.1[i]:=cn (t:=(.pair (.slice (.int .u64)) (.pair (.int .i64) (.pair (.int .i64) (.pair (.int .u64) .unit))))) hi
 unfold kb
 rw[if_neg (by
  intro hh
  rcases hh with hh | hh | hh
  ·rw[hok]at hh;cases hh
  ·have hh:(i:Int) < 0:=hh
   omega
  ·have hh:(i:Int)≥l.1.length:=hh
   omega)]
 show(if h < (nth (.pair (.slice (.int .u64)) (.pair (.int .i64) (.pair (.int .i64) (.pair (.int .u64) .unit)))) l.1 i).2.1∨a < (nth (.pair (.slice (.int .u64)) (.pair (.int .i64) (.pair (.int .i64) (.pair (.int .u64) .unit)))) l.1 i).2.2.1 then 11 else if(nth (.pair (.slice (.int .u64)) (.pair (.int .i64) (.pair (.int .i64) (.pair (.int .u64) .unit)))) l.1 i).2.2.2.1≠0∧e7 s≠(nth (.pair (.slice (.int .u64)) (.pair (.int .i64) (.pair (.int .i64) (.pair (.int .u64) .unit)))) l.1 i).2.2.2.1 then 23 else if sg.length≠(nth (.pair (.slice (.int .u64)) (.pair (.int .i64) (.pair (.int .i64) (.pair (.int .u64) .unit)))) l.1 i).1.length then 7 else if j4 m (nth (.pair (.slice (.int .u64)) (.pair (.int .i64) (.pair (.int .i64) (.pair (.int .u64) .unit)))) l.1 i).1 sg then 0 else 7)=_
 rw[n1,hb]
 rfl
theorem uX(m:List Int):∀ks:List Int,(∀k∈ks,0 < k∧k < 2305843009213688669)→j4 m (ks.map e7) (ks.map fun k=>iH k m)=true
 |[],_=>rfl
 |k::ks,h=>by
  have hk:=h k List.mem_cons_self
  show(iX (e7 k) m 1 (iH k m) && j4 m (ks.map e7) (ks.map fun k=>iH k m))=true
  rw[EV k m hk.1 hk.2,uX m ks fun x hx=>h x (List.mem_cons_of_mem _ hx)]
  rfl
theorem xp(ks:List Int)(hk:∀k∈ks,0 < k∧k < 2305843009213688669)(af dl sc s:Int)(m:List Int)(h a:Int)(hs:sc=0∨e7 s=sc):
  Dw (ks.map e7,af,dl,sc,()) (ks.map fun k=>iH k m) s m h a=if h < af∨a < dl then 11 else 0:=by
 have e:Dw (ks.map e7,af,dl,sc,()) (ks.map fun k=>iH k m) s m h a=if h < af∨a < dl then 11 else if sc≠0∧e7 s≠sc then 23 else if(ks.map fun k=>iH k m).length≠(ks.map e7).length then 7 else if j4 m (ks.map e7) (ks.map fun k=>iH k m) then 0 else 7:=rfl
 rw[e,uX m ks hk,if_neg (c:=sc≠0∧e7 s≠sc) (by rintro⟨h1,h2⟩;exact hs.elim h1 h2),if_neg (c:=(ks.map fun k=>iH k m).length≠(ks.map e7).length) (by rw[List.length_map,List.length_map];exact fun x=>x rfl)]
 rfl
theorem Hk{k:Int}(h:0 < k∧k < 2305843009213688669):∀x∈ [k],0 < x∧x < 2305843009213688669:=fun x hx=>by rw[List.mem_singleton]at hx;subst hx;exact h
set_option synthInstance.maxSize 5000
def z32:List Int:=List.replicate 32 0
def u7:Lk:=Bk [e7 7]
def va:fv:=([((z32,((0:Int),())),(((0:Int),(([]:List Sg),((0:Int),()))),()))],([((90:Int),(u7,()))],((0:Int),())))
def ni:fv:=sV va (Int.toNat 0) (vA va 0 [7] 0)
def kX:At:=[mf 0 ((100:Int),(u7,()))]
theorem Gq:oW va 0 0 [7]=true:=by decide+kernel
theorem HU:¬lS va=z32:=by decide+kernel
theorem b7:gY (e7 7):=D9 7
theorem F5:u9 u7:=EF (Aa b7 BM)
theorem De:iT u7=true:=by
 unfold u7
 rw[Dc [e7 7] (by decide)]
 simp only[List.all_cons,List.all_nil,oK,Bool.and_true]
theorem Iv:nE va:=by
 refine⟨⟨fun o ho=> ?_,by decide,by decide⟩,fun x hx=> ?_,by decide⟩
 ·have ho:o∈ [((90:Int),(u7,()))]:=ho
  rw[List.mem_singleton]at ho
  subst ho
  exact⟨F5,by show 1≤_;decide⟩
 ·have hx:x∈ [((z32,((0:Int),())),(((0:Int),(([]:List Sg),((0:Int),()))),()))]:=hx
  rw[List.mem_singleton]at hx
  subst hx
  refine⟨⟨by show z32.length=32;unfold z32;rw[List.length_replicate],fun y hy=> ?_⟩,⟨fun s hs=>(by cases hs),by show(0:Int)≤0;decide,by show(0:Int) < 18446744073709551616;decide⟩,Nat.zero_le _⟩
  have hy:y∈List.replicate 32 (0:Int):=hy
  obtain rfl:=(List.mem_replicate.1 hy).2
  exact⟨by decide,by decide⟩
theorem Ht:gY 0:=⟨by decide,by decide⟩
theorem pA:gU ni=true∧nE ni∧lS ni=lS va∧dN ni=dN va∧fo ni=fo va:=DM Iv Gq Ht
theorem Hj:gU va=true:=(uH Gq).1
theorem Hr:dN ni=[(z32,((0:Int),()))]:=by
 rw[pA.2.2.2.1]
 unfold dN
 rw[if_pos Hj]
 rfl
theorem F8:fo ni=[(lS va,((0:Int),()))]:=by
 rw[pA.2.2.2.2]
 unfold fo
 rw[if_pos Hj]
 rfl
theorem HS:ni.1=[((z32,((0:Int),())),(((((0:Nat):Int),([7].map (fun k=>iH k (lS va)),((0:Int),())))),()))]:=rfl
theorem HV(m:List Int)(h a:Int)(hh:0≤h)(ha:0≤a):kb u7 (((0:Nat):Int),([7].map (fun k=>iH k m),((0:Int),()))) m h a=0:=by
 have s1:=xp [7] (Hk (k:=7) (by decide)) 0 0 0 0 m h a (.inl rfl)
 rw[if_neg (by omega)]at s1
 exact(EL (l:=u7) (i:=0) (b:=([7].map e7,0,0,0,())) De (by show 0 < 1;decide) rfl _ _ _ _ _).trans s1
theorem g14:cz ck (z32,((0:Int),())) kX=some (((100:Int),(u7,())),((0:Int),())):=by
 unfold kX mf
 rw[fV]
 exact if_pos ((mc _ _).2 rfl)
theorem n14(m:List Int)(hm:¬m=z32):cz ck (m,((0:Int),())) kX=none:=by
 unfold kX mf
 rw[fV,if_neg,nA]
 intro e
 have:=(mc _ _).1 e
 exact hm (congrArg (fun o:cK=>o.1) this)
theorem C3{h:Int}{m:List Int}{a:At}{x:ia}{c:fa}{f:Int}(hg:cz ck x.1 a=some c)(ho:kb c.1.2.1 x.2.1 m h (h - c.2.1)=0)(hf:c.1.1=f):jb h m a [x] 0= .inr f:=by
 subst hf
 simp only[jb,hg,ho,ne_eq,not_true_eq_false,if_false,Int.zero_add]
theorem yh{o:cK}{c:fa}:ln [o] [(o,c)]=[]:=by
 show gG ck o [(o,c)]=[]
 rw[mm]
 exact if_pos ((mc _ _).2 rfl)
theorem BG{o:cK}{c:fa}{a:At}(hg:cz ck o a=some c):mK a [o]=[(o,(c,()))]:=by
 simp only[mK,hg,Option.getD_some]
theorem Es{o:cK}{c:fa}:cz ck o [(o,c)]=some c:=by
 rw[fV]
 exact if_pos ((mc _ _).2 rfl)
theorem Eg(h:Int)(h1:1≤h)(h2:h≤1048576):ee ni h kX=(10,0):=by
 have hne:=HU
 have hmd:=F8
 have hin:=HS
 have hid:=pA.2.2.1
 generalize lS va=m at hne hmd hin hid
 unfold ee
 rw[if_pos ⟨pA.1,h1,h2⟩,hin,hid]
 have e:jb h m kX [((z32,((0:Int),())),(((((0:Nat):Int),([7].map (fun k=>iH k m),((0:Int),())))),()))] 0= .inr 100:=by
  simp only[jb,g14]
  exact C3 (x:=((z32,((0:Int),())),(((((0:Nat):Int),([7].map (fun k=>iH k m),((0:Int),())))),()))) (c:=(((100:Int),(u7,())),((0:Int),()))) g14 (HV m h (h - 0) (by omega) (by omega)) rfl
 rw[e,hmd]
 have n1:([(m,((0:Int),()))]:List cK).any (gW kX)=false:=by
  simp only[List.any_cons,List.any_nil,gW,n14 m hne,Option.isSome_none,Bool.or_false]
 simp only[n1,Bool.false_eq_true,if_false]
 rfl
def u5(h:Int):At:=[((lS va,((0:Int),())),(((90:Int),(u7,())),(h,())))]
theorem FC(h:Int):gB ni h kX=u5 h:=by
 unfold gB u5
 rw[Hr,F8]
 generalize lS va=m
 have e:ln [(z32,((0:Int),()))] kX=[]:=by
  exact yh
 rw[e]
 rfl
theorem Gv:stepOf ni kX=([((z32,((0:Int),())),((((100:Int),(u7,())),((0:Int),())),()))],([(lS va,((0:Int),()))],())):=by
 unfold stepOf
 rw[Hr,F8]
 rw[BG g14]
theorem Il(h:Int):kI (u5 h) (stepOf ni kX)=kX:=by
 rw[Gv]
 unfold kI u5
 generalize lS va=m
 have e:ln [(m,((0:Int),()))] [((m,((0:Int),())),(((90:Int),(u7,())),(h,())))]=[]:=by
  exact yh
 rw[e]
 rfl
theorem HR(h:Int):cz ck (lS va,((0:Int),())) (u5 h)=some (((90:Int),(u7,())),(h,())):=by
 unfold u5
 generalize lS va=m
 exact Es
theorem zx:qo kX:=by
 refine⟨by decide,fun p hp=> ?_⟩
 have hp:p∈ [mf 0 ((100:Int),(u7,()))]:=hp
 rw[List.mem_singleton]at hp
 subst hp
 refine⟨⟨by show(List.replicate 32 (0:Int)).length=32;rw[List.length_replicate],fun x hx=> ?_⟩,De,F5,by show(0:Int)≤100;decide,by show(100:Int)≤_;decide,by show(0:Int)≤0;decide,by show(0:Int)≤_;decide⟩
 have hx:x∈List.replicate 32 (0:Int):=hx
 obtain rfl:=(List.mem_replicate.1 hx).2
 exact⟨by decide,by decide⟩
theorem G0(h:Int)(h1:1≤h)(h2:h≤1048576):iO ni h kX 10:=by
 have:=s5 (t:=ni) (h:=h) (a:=kX) (by rw[Eg h h1 h2])
 rw[Eg h h1 h2]at this
 exact this
theorem HM(h:Int)(h1:1≤h)(h2:h≤1048576):qo (u5 h):=by
 rw[←FC];exact(G0 h h1 h2).jG zx pA.2.1
theorem Hh:bE.call [((100:Int),(u7,()))]=some (.inr (kX,[])):=by
 rw[bE.run (d:=[((100:Int),(u7,()))]) (fun o ho=>by
  rw[List.mem_singleton]at ho
  subst ho
  exact⟨F5,by show 1≤_;decide,by show(100:Int)≤_;decide⟩)]
 have e:qe [((100:Int),(u7,()))]=some kX:=by
  unfold qe
  rw[if_pos (by decide)]
  have e0:j2 0 ((100:Int),(u7,()))=true:=by
   unfold j2
   rw[De]
   rfl
  simp only[na,e0,Option.map_some]
  rfl
 simp only[bE.add,bE.F,e]
theorem Gm:bP.call (va,0,0,[7],0)=some (ni,0):=by
 rw[bP.run (d:=(va,0,0,[7],0)) ⟨Iv,fun x hx=>by rw[List.mem_singleton]at hx;subst hx;exact⟨by decide,by decide⟩,by decide⟩]
 simp only[bP.add,bP.F,DL,Gq,if_true]
 rfl
def GO:fv:=(([]:List ia),(([]:List gm),((0:Int),())))
theorem HP:nE GO:=⟨⟨fun o ho=>(by cases ho),by decide,by decide⟩,fun x hx=>(by cases hx),by decide⟩
theorem HO(h:Int)(a:At):ee GO h a=(0,1):=by
 have:gU GO=false:=by decide+kernel
 unfold ee
 rw[if_neg (fun e=>by rw[this]at e;cases e.1)]
abbrev bq.D:=Unit
def bq.st:bq.D→SA:=fun _=>([],[])
abbrev bq.Y:=Bool
abbrev bq.X:=Bool
def bq.out:bq.X→ba:=fun x=>⟨.d .bool x,[],[]⟩
def bq.add:bq.D→bq.Y→bq.X:=fun _ y=>y
def bq.av:bq.D→Prop:=fun _=>True
def bq.F:bq.D→bq.Y:=fun _=>true
noncomputable def bq.G:ed:=fk (P:=Tryz.prog) [dP.sg,gk.sg,bE.sg,bP.sg,aC.sg,aT.sg,tid.sg,ea.sg,bK.sg,aU.sg,bV.sg]
noncomputable def bq.an:eQ:= {}
noncomputable def bq.A:= @cY Tryz.prog bq.G bq.an 0 Tryz.f25 _ bq.st
abbrev bq.Ok:=dd @bq.A bq.av bq.add bq.F bq.out
theorem bq.eq{R:Type}(k:ba→Option R):bq.A () k=
  ah (dP.call (7:Int)) fun x7=>
  ah (gk.call x7) fun x8=>
  ah (bE.call [((100:Int),(x8,()))]) fun x12=>
  aG (x12.isLeft) (
   ah (x12.getLeft?) fun x12l=>
   k (bq.out false)) (
   ah (x12.getRight?) fun x12r=>
   ah (bP.call (([(((List.replicate 32 (0:Int)),((0:Int),())),(((0:Int),(([]:List Sg),((0:Int),()))),()))],([((90:Int),(x8,()))],((0:Int),()))),(0:Int),(0:Int),[(7:Int)],(0:Int))) fun x16=>
   ah (aC.call (x16.1,(1:Int),0,x12r.1,x12r.2)) fun x20=>
   ah (aC.call ((([]:List ia),(([]:List gm),((0:Int),()))),(1:Int),x20.2.2.1,x20.2.2.2.1,x20.2.2.2.2)) fun x24=>
   ah (aT.call (x16.1,(5:Int),x24.2.2.1,x24.2.2.2.1,x24.2.2.2.2)) fun x25=>
   aG (x25.isLeft) (
    ah (x25.getLeft?) fun x25l=>
    ah (tid.call x16.1) fun x32=>
    ah (ea.call ((x32,((0:Int),())),x25l.2.1,x25l.2.2.1,x25l.2.2.2)) fun x33=>
    ah (aT.call (x16.1,(5:Int),x33.1.1,x33.1.2.1,x33.1.2.2)) fun x34=>
    aG (x34.isLeft) (
     ah (x34.getLeft?) fun x34l=>
     ah (bK.call (x34l.2.1,x34l.2.2.1,x34l.2.2.2)) fun x38=>
     aG ((jz x16.2 (0:Int))) (
      aG ((jz x20.2.1 (0:Int))) (
       aG ((jz x20.1 (10:Int))) (
        aG ((jz x24.2.1 (1:Int))) (
         aG ((jz x25l.1 (0:Int))) (
          aG (x33.2.2) (
           aG ((jz x33.2.1.2.1 (5:Int))) (
            aG ((jz x33.2.1.1.1 (90:Int))) (
             aG ((jz x34l.1 (5:Int))) (
              aG ((jz x38.1 (90:Int))) (
               ah (aU.call (x38.2.1,x38.2.2.1,x38.2.2.2)) fun x43=>
               aG (x43.1) (
                ah (bK.call (x43.2.1,x43.2.2.1,x43.2.2.2)) fun x44=>
                aG ((jz x44.1 (100:Int))) (
                 ah (aU.call (x44.2.1,x44.2.2.1,x44.2.2.2)) fun x45=>
                 aG ((!x45.1)) (
                  ah (bV.call (x45.2.1,x45.2.2.1,x45.2.2.2)) fun x46=>
                  k (bq.out (jz ((x46.1:Nat):Int) (1:Int)))) (
                  k (bq.out false))) (
                 k (bq.out false))) (
                k (bq.out false))) (
               k (bq.out false))) (
              k (bq.out false))) (
             k (bq.out false))) (
            k (bq.out false))) (
           k (bq.out false))) (
          k (bq.out false))) (
         k (bq.out false))) (
        k (bq.out false))) (
       k (bq.out false))) (
      k (bq.out false))) (
     ah (x34.getRight?) fun x34r=>
     ah (bK.call (x34r.2.1,x34r.2.2.1,x34r.2.2.2)) fun x50=>
     aG ((jz x16.2 (0:Int))) (
      aG ((jz x20.2.1 (0:Int))) (
       aG ((jz x20.1 (10:Int))) (
        aG ((jz x24.2.1 (1:Int))) (
         aG ((jz x25l.1 (0:Int))) (
          aG (x33.2.2) (
           aG ((jz x33.2.1.2.1 (5:Int))) (
            aG ((jz x33.2.1.1.1 (90:Int))) (
             aG ((jz x34r.1 (5:Int))) (
              aG ((jz x50.1 (90:Int))) (
               ah (aU.call (x50.2.1,x50.2.2.1,x50.2.2.2)) fun x55=>
               aG (x55.1) (
                ah (bK.call (x55.2.1,x55.2.2.1,x55.2.2.2)) fun x56=>
                aG ((jz x56.1 (100:Int))) (
                 ah (aU.call (x56.2.1,x56.2.2.1,x56.2.2.2)) fun x57=>
                 aG ((!x57.1)) (
                  ah (bV.call (x57.2.1,x57.2.2.1,x57.2.2.2)) fun x58=>
                  k (bq.out (jz ((x58.1:Nat):Int) (1:Int)))) (
                  k (bq.out false))) (
                 k (bq.out false))) (
                k (bq.out false))) (
               k (bq.out false))) (
              k (bq.out false))) (
             k (bq.out false))) (
            k (bq.out false))) (
           k (bq.out false))) (
          k (bq.out false))) (
         k (bq.out false))) (
        k (bq.out false))) (
       k (bq.out false))) (
      k (bq.out false)))) (
    ah (x25.getRight?) fun x25r=>
    ah (tid.call x16.1) fun x65=>
    ah (ea.call ((x65,((0:Int),())),x25r.2.1,x25r.2.2.1,x25r.2.2.2)) fun x66=>
    ah (aT.call (x16.1,(5:Int),x66.1.1,x66.1.2.1,x66.1.2.2)) fun x67=>
    aG (x67.isLeft) (
     ah (x67.getLeft?) fun x67l=>
     ah (bK.call (x67l.2.1,x67l.2.2.1,x67l.2.2.2)) fun x71=>
     aG ((jz x16.2 (0:Int))) (
      aG ((jz x20.2.1 (0:Int))) (
       aG ((jz x20.1 (10:Int))) (
        aG ((jz x24.2.1 (1:Int))) (
         aG ((jz x25r.1 (0:Int))) (
          aG (x66.2.2) (
           aG ((jz x66.2.1.2.1 (5:Int))) (
            aG ((jz x66.2.1.1.1 (90:Int))) (
             aG ((jz x67l.1 (5:Int))) (
              aG ((jz x71.1 (90:Int))) (
               ah (aU.call (x71.2.1,x71.2.2.1,x71.2.2.2)) fun x76=>
               aG (x76.1) (
                ah (bK.call (x76.2.1,x76.2.2.1,x76.2.2.2)) fun x77=>
                aG ((jz x77.1 (100:Int))) (
                 ah (aU.call (x77.2.1,x77.2.2.1,x77.2.2.2)) fun x78=>
                 aG ((!x78.1)) (
                  ah (bV.call (x78.2.1,x78.2.2.1,x78.2.2.2)) fun x79=>
                  k (bq.out (jz ((x79.1:Nat):Int) (1:Int)))) (
                  k (bq.out false))) (
                 k (bq.out false))) (
                k (bq.out false))) (
               k (bq.out false))) (
              k (bq.out false))) (
             k (bq.out false))) (
            k (bq.out false))) (
           k (bq.out false))) (
          k (bq.out false))) (
         k (bq.out false))) (
        k (bq.out false))) (
       k (bq.out false))) (
      k (bq.out false))) (
     ah (x67.getRight?) fun x67r=>
     ah (bK.call (x67r.2.1,x67r.2.2.1,x67r.2.2.2)) fun x83=>
     aG ((jz x16.2 (0:Int))) (
      aG ((jz x20.2.1 (0:Int))) (
       aG ((jz x20.1 (10:Int))) (
        aG ((jz x24.2.1 (1:Int))) (
         aG ((jz x25r.1 (0:Int))) (
          aG (x66.2.2) (
           aG ((jz x66.2.1.2.1 (5:Int))) (
            aG ((jz x66.2.1.1.1 (90:Int))) (
             aG ((jz x67r.1 (5:Int))) (
              aG ((jz x83.1 (90:Int))) (
               ah (aU.call (x83.2.1,x83.2.2.1,x83.2.2.2)) fun x88=>
               aG (x88.1) (
                ah (bK.call (x88.2.1,x88.2.2.1,x88.2.2.2)) fun x89=>
                aG ((jz x89.1 (100:Int))) (
                 ah (aU.call (x89.2.1,x89.2.2.1,x89.2.2.2)) fun x90=>
                 aG ((!x90.1)) (
                  ah (bV.call (x90.2.1,x90.2.2.1,x90.2.2.2)) fun x91=>
                  k (bq.out (jz ((x91.1:Nat):Int) (1:Int)))) (
                  k (bq.out false))) (
                 k (bq.out false))) (
                k (bq.out false))) (
               k (bq.out false))) (
              k (bq.out false))) (
             k (bq.out false))) (
            k (bq.out false))) (
           k (bq.out false))) (
          k (bq.out false))) (
         k (bq.out false))) (
        k (bq.out false))) (
       k (bq.out false))) (
      k (bq.out false))))):=by kernel_rfl
theorem Cu:gw kX=100:=rfl
theorem Cv(h:Int):gw (u5 h)=90:=by
 unfold u5 gw
 simp
theorem bq.ok:bq.Ok:=by
 rintro⟨⟩ _
 have c1:dP.call 7=some (e7 7):=dP.run (d:=7) ⟨by decide,by decide⟩
 have c2:gk.call (e7 7)=some u7:=gk.run (d:=e7 7) trivial
 have c3:=Hh
 have c4:=Gm
 have c5:aC.call (ni,1,0,kX,[])=some (10,0,0,kX,[]):=by
  rw[aC.run (d:=(ni,1,0,kX,[])) ⟨pA.2.1,zx⟩]
  simp only[aC.add,aC.F,Eg 1 (by decide) (by decide)]
 have c6:aC.call (GO,1,0,kX,[])=some (0,1,0,kX,[]):=by
  rw[aC.run (d:=(GO,1,0,kX,[])) ⟨HP,zx⟩]
  simp only[aC.add,aC.F,HO]
 have c7:aT.call (ni,5,0,kX,[])=some (.inr (0,1,u5 5,[stepOf ni kX])):=by
  rw[aT.run (d:=(ni,5,0,kX,[])) ⟨pA.2.1,zx,Nat.zero_le _,Nat.zero_le _⟩]
  simp only[aT.add,aT.F,Eg 5 (by decide) (by decide),FC]
  rfl
 obtain⟨m,hm⟩:∃m,lS va=m:=⟨_,rfl⟩
 have c8:tid.call ni=some m:=by
  rw[tid.run (d:=ni) pA.2.1]
  simp only[tid.add,tid.F,pA.2.2.1,hm]
 have hbg:=HM 5 (by decide) (by decide)
 have c9:ea.call ((m,((0:Int),())),1,u5 5,[stepOf ni kX])=some ((1,u5 5,[stepOf ni kX]),((((90:Int),(u7,())),((5:Int),())),true)):=by
  rw[ea.run (d:=((m,((0:Int),())),1,u5 5,[stepOf ni kX])) hbg]
  have g:=HR 5
  rw[hm]at g
  exact congrArg some (congrArg (fun z=>((1,u5 5,[stepOf ni kX]),z)) (congrArg (fun z:Option fa=>(z.getD uY,z.isSome)) g))
 have c10:aT.call (ni,5,1,u5 5,[stepOf ni kX])=some (.inl (5,1,u5 5,[stepOf ni kX])):=by
  rw[aT.run (d:=(ni,5,1,u5 5,[stepOf ni kX])) ⟨pA.2.1,hbg,Nat.le_refl _,by show 1≤_;decide⟩]
  have e:=(G0 5 (by decide) (by decide)).again zx.1 5 (by decide) (by decide)
  rw[FC]at e
  simp only[aT.add,aT.F,e]
  rfl
 have c11:∀n s,bK.call (n,u5 5,s)=some (90,n,u5 5,s):=fun n s=>by
  rw[bK.run (d:=(n,u5 5,s)) ⟨fun p hp=>(hbg.2 p hp).2.2.2.1,by rw[Cv];decide⟩]
  simp only[bK.add,bK.F,Cv]
 have c12:aU.call (1,u5 5,[stepOf ni kX])=some (true,0,kX,[stepOf ni kX]):=by
  rw[aU.run (d:=(1,u5 5,[stepOf ni kX])) ⟨Nat.le_refl _,by show 1≤_;decide,fun st hst=>by
   rw[List.mem_singleton]at hst
   subst hst
   rw[Gv]
   exact⟨by show 1≤_;decide,by show 1≤_;decide⟩⟩]
  have e:nth dZ [stepOf ni kX] (1 - 1)=stepOf ni kX:=rfl
  simp only[aU.add,aU.F,e,Il]
  rfl
 have c13:∀n s,bK.call (n,kX,s)=some (100,n,kX,s):=fun n s=>by
  rw[bK.run (d:=(n,kX,s)) ⟨fun p hp=>(zx.2 p hp).2.2.2.1,by rw[Cu];decide⟩]
  simp only[bK.add,bK.F,Cu]
 have c14:aU.call (0,kX,[stepOf ni kX])=some (false,0,kX,[stepOf ni kX]):=by
  rw[aU.run (d:=(0,kX,[stepOf ni kX])) ⟨Nat.zero_le _,by show 1≤_;decide,fun st hst=>by
   rw[List.mem_singleton]at hst
   subst hst
   rw[Gv]
   exact⟨by show 1≤_;decide,by show 1≤_;decide⟩⟩]
  simp only[aU.add,aU.F,if_true]
 have c15:∃x,bV.call (0,kX,[stepOf ni kX])=some (1,x):=by
  refine⟨_,bV.run (d:=(0,kX,[stepOf ni kX])) ⟨by show 1≤_;decide,fun p hp=>(zx.2 p hp).1⟩⟩
 obtain⟨x15,c15⟩:=c15
 generalize hS:stepOf ni kX=S at c7 c9 c10 c12 c14 c15
 rw[bq.eq]
 refine(congrArg (fun z=>ah z _) c1).trans ?_
 rw[aa,c2,aa]
 refine(congrArg (fun z=>ah z _) c3).trans ?_
 rw[aa]
 simp only[Sum.isLeft_inr,ag,Sum.getRight?_inr,aa]
 refine(congrArg (fun z=>ah z _) c4).trans ?_
 rw[aa]
 refine(congrArg (fun z=>ah z _) c5).trans ?_
 rw[aa]
 refine(congrArg (fun z=>ah z _) c6).trans ?_
 rw[aa]
 refine(congrArg (fun z=>ah z _) c7).trans ?_
 rw[aa]
 simp only[Sum.isLeft_inr,ag,Sum.getRight?_inr,aa]
 refine(congrArg (fun z=>ah z _) c8).trans ?_
 rw[aa]
 refine(congrArg (fun z=>ah z _) c9).trans ?_
 rw[aa]
 refine(congrArg (fun z=>ah z _) c10).trans ?_
 rw[aa]
 simp only[Sum.isLeft_inl,ae,Sum.getLeft?_inl,aa]
 refine(congrArg (fun z=>ah z _) (c11 1 [S])).trans ?_
 rw[aa]
 repeat (first | rw[ae] | rw[hP rfl])
 refine(congrArg (fun z=>ah z _) c12).trans ?_
 rw[aa,ae]
 refine(congrArg (fun z=>ah z _) (c13 0 [S])).trans ?_
 rw[aa,hP rfl,ae]
 refine(congrArg (fun z=>ah z _) c14).trans ?_
 rw[aa,Bool.not_false,ae]
 refine(congrArg (fun z=>ah z _) c15).trans ?_
 rfl
noncomputable def bq.E:=Entry.cD [] bq.st bq.av bq.add bq.F bq.out
noncomputable def bq.call:bq.D→Option bq.X:=bS bq.E bq.st
theorem bq.run:bM bq.call bq.av bq.add bq.F:=dq (df [] fun _=>by kernel_rfl)
noncomputable def bq.sg:SG Tryz.prog:=⟨25,aR,bq.E,.fn 0 (by kernel_rfl) bq.ok trivial⟩
set_option synthInstance.maxSize 5000
abbrev bI.L0.D:=(List gm)×(List sN)×Int
def bI.L0.st:bI.L0.D→AS:=fun(outs_2,acts_2,i)=>⟨([.d (.slice fe) outs_2,.d (.slice kA) acts_2,.undef,.undef,.undef,.d ti i]++bl 32 []),[],(List.replicate 38 [])⟩
abbrev bI.L0.Y0:=Unit
abbrev bI.L0.X0:=Unit
def bI.L0.bp:bI.L0.X0→Exit×AS:=fun x=>(.ret,⟨(bl 4 ([.d .bool false]++bl 33 [])),[],(List.replicate 38 [])⟩)
abbrev bI.L0.Y1:=Unit
abbrev bI.L0.X1:=(List gm)×(List sN)
def bI.L0.fA:bI.L0.X1→Exit×AS:=fun x=>(.exit 0,⟨([.d (.slice fe) x.1,.d (.slice kA) x.2]++bl 36 []),[],(List.replicate 38 [])⟩)
abbrev bI.L0.X:=(bI.L0.X0)⊕(bI.L0.X1)
abbrev bI.L0.Y:=(bI.L0.Y0)⊕(bI.L0.Y1)
def bI.L0.out:bI.L0.X→Out (Exit×AS):=fun x=> .br x.isLeft (.get x.getLeft? fun a=> .ok (bI.L0.bp a)) (.get x.getRight? fun b=> .ok (bI.L0.fA b))
def bI.L0.add:bI.L0.D→bI.L0.Y→bI.L0.X:=fun(outs_2,acts_2,i) y=>match y with | .inl y=> .inl y | .inr z=> .inr ((outs_2,acts_2))
abbrev bI.D:=(List gm)×(List sN)
def bI.st:bI.D→SA:=fun(outs,acts)=>([.d (.slice fe) outs,.d (.slice kA) acts],[])
abbrev bI.Y:=Bool
abbrev bI.X:=Bool
def bI.out:bI.X→ba:=fun x=>⟨.d .bool x,[],[]⟩
def bI.add:bI.D→bI.Y→bI.X:=fun(outs,acts) y=>y
def py(a:sN):Bool:=decide (a.2.1.1.length≤8) && decide (a.2.1.2.1.length≤8)
def CW(outs:List gm)(acts:List sN):Bool:=acts.all py && (decide (outs.length≤20) && decide (acts.length≤20))
def bI.L0.av:bI.L0.D→Prop:=fun(outs,acts,i)=>acts.length≤9223372036854775807∧∃k:Nat,k≤acts.length∧i=k
def bI.L0.F:bI.L0.D→bI.L0.Y:=fun(_,acts,i)=>if(acts.drop i.toNat).all py then .inr () else .inl ()
def bI.av:bI.D→Prop:=fun(outs,acts)=>acts.length≤9223372036854775807
def bI.F:bI.D→bI.Y:=fun(outs,acts)=>CW outs acts
noncomputable def bI.G:ed:=fk (P:=Tryz.prog) []
noncomputable def bI.L0.E:=bU.cD bI.L0.st bI.L0.av bI.L0.add bI.L0.F bI.L0.out
noncomputable def bI.L0.call:bI.L0.D→Option bI.L0.X:=dw bI.L0.E bI.L0.st
noncomputable def bI.an:eQ:= {loops:=jB [(2,{bn:=[0,1,5]})],outs:=jA [(2,{bn:=[0,1]},{bn:=[4]})],fC:=kf [(2,bI.L0.E)]}
noncomputable def bI.A:= @cY Tryz.prog bI.G bI.an 0 Tryz.f26 _ bI.st
abbrev bI.Ok:=dd @bI.A bI.av bI.add bI.F bI.out
noncomputable def bI.L0.R:= @cj Tryz.prog bI.G bI.an 0 Tryz.f26 0 _ bI.L0.st
abbrev bI.L0.Ok:=ew Tryz.prog bI.G bI.an 0 Tryz.f26 0 bI.L0.st bI.L0.av bI.L0.add bI.L0.F bI.L0.out
theorem bI.L0.run:bM bI.L0.call bI.L0.av bI.L0.add bI.L0.F:=eM (eL [.d (.slice fe),.d (.slice kA),.d ti] fun _=>by kernel_rfl)
theorem bI.L0.aB:kC @bI.L0.R bI.L0.st bI.L0.av bI.L0.add bI.L0.F bI.L0.out bI.L0.Ok:=kL
theorem bI.L0.step{R:Type}(outs_2:(List gm))(acts_2:(List sN))(i:Int)(kn:AS→Option R)(kx:Exit→AS→Option R):bI.L0.R (outs_2,acts_2,i) kn kx=
  aG ((fM i (((List.length acts_2):Nat):Int))) (
   aG (eI i (((List.length acts_2):Nat):Int)) (
   aG ((nN (((List.length (nth kA acts_2 (Int.toNat i)).2.1.1):Nat):Int) (8:Int))) (
    kx (bI.L0.bp ()).1 (bI.L0.bp ()).2) (
    aG (eI i (((List.length acts_2):Nat):Int)) (
    aG ((nN (((List.length (nth kA acts_2 (Int.toNat i)).2.1.2.1):Nat):Int) (8:Int))) (
     kx (bI.L0.bp ()).1 (bI.L0.bp ()).2) (
     kn (bI.L0.st (outs_2,acts_2,(bN .i64 i (1:Int)))))) none)) none) (
   kx (bI.L0.fA (outs_2,acts_2)).1 (bI.L0.fA (outs_2,acts_2)).2):=by kernel_rfl
theorem bI.eq{R:Type}(outs:(List gm))(acts:(List sN))(k:ba→Option R):bI.A (outs,acts) k=
  ah (bI.L0.call (outs,acts,(0:Int))) fun x1=>
  aG (x1.isLeft) (
   ah (x1.getLeft?) fun a2=>
   k (bI.out false)) (
   ah (x1.getRight?) fun b3=>
   aG ((zr (((List.length b3.1):Nat):Int) (20:Int))) (
    k (bI.out (zr (((List.length b3.2):Nat):Int) (20:Int)))) (
    k (bI.out false))):=by kernel_rfl
theorem bI.L0.ok:bI.L0.Ok:=by
 refine bI.L0.aB (fun(_,acts,i)=>acts.length - i.toNat) ?_
 rintro⟨outs,acts,i⟩ ⟨hl,k,hk,rfl⟩
 have hl:acts.length≤9223372036854775807:=hl
 have hk:k≤acts.length:=hk
 by_cases h:k < acts.length
 ·have n1:nth kA acts k=acts[k]:=cn (t:=kA) h
  have hd:(acts.drop k).all py=(py acts[k] && (acts.drop (k+1)).all py):=by rw[List.drop_eq_getElem_cons h,List.all_cons]
  have step:∀ {R:Type} (kn:AS→Option R) (kx:Exit→AS→Option R),bI.L0.R (outs,acts,(k:Int)) kn kx=aG (py acts[k]) (kn (bI.L0.st (outs,acts,((k+1:Nat):Int)))) (kx (bI.L0.bp ()).1 (bI.L0.bp ()).2):=by
   intro R kn kx
   rw[bI.L0.step,aW (by omega),bm (by omega) (by omega),Int.toNat_natCast,n1,N.j5 (by omega)]
   unfold py
   by_cases h1:acts[k].2.1.1.length≤8
   ·by_cases h2:acts[k].2.1.2.1.length≤8
    ·rw[dI (by omega),dI (by omega),aZ h1,aZ h2];rfl
    ·rw[dI (by omega),dY (by omega),aZ h1,bo h2];rfl
   ·rw[dY (by omega),bo h1];rfl
  cases hp:py acts[k]
  ·right
   refine⟨bI.L0.bp (),?_,fun kn kx=> ?_⟩
   ·simp only[bI.L0.add,bI.L0.F,Int.toNat_natCast,hd,hp,Bool.false_and,Bool.false_eq_true,if_false]
    rfl
   ·rw[step,hp,ag]
  ·left
   refine⟨(outs,acts,((k+1:Nat):Int)),⟨hl,k+1,by omega,rfl⟩,by simp only[Int.toNat_natCast];omega,?_,fun kn kx=> ?_⟩
   ·simp only[bI.L0.add,bI.L0.F,Int.toNat_natCast,hd,hp,Bool.true_and]
   ·rw[step,hp,ae]
 ·right
  obtain rfl:k=acts.length:=by omega
  refine⟨bI.L0.fA (outs,acts),?_,fun kn kx=> ?_⟩
  ·simp only[bI.L0.add,bI.L0.F,Int.toNat_natCast,List.drop_length]
   rfl
  ·rw[bI.L0.step,aO (by omega),ag]
theorem bI.ok:bI.Ok:=by
 rintro⟨outs,acts⟩ hl
 rw[bI.eq,bI.L0.run (d:=(outs,acts,0)) ⟨hl,0,Nat.zero_le _,rfl⟩]
 simp only[aa,bI.L0.add,bI.L0.F,Int.toNat_zero,List.drop_zero,bI.add,bI.F,CW]
 cases acts.all py with
 |false=>simp only[Bool.false_eq_true,if_false,Sum.isLeft_inl,ae,Sum.getLeft?_inl,aa,Bool.false_and]
 |true=>
  simp only[if_true,Sum.isLeft_inr,ag,Sum.getRight?_inr,aa,Bool.true_and]
  by_cases h1:outs.length≤20
  ·rw[kh (by omega),ae,aZ h1,Bool.true_and]
   by_cases h2:acts.length≤20
   ·rw[kh (by omega),aZ h2]
   ·rw[iM (by omega),bo h2]
  ·rw[iM (by omega),ag,bo h1,Bool.false_and]
noncomputable def bI.E:=Entry.cD [some (.slice fe),some (.slice kA)] bI.st bI.av bI.add bI.F bI.out
noncomputable def bI.call:bI.D→Option bI.X:=bS bI.E bI.st
theorem bI.run:bM bI.call bI.av bI.add bI.F:=dq (df [.d (.slice fe),.d (.slice kA)] fun _=>by kernel_rfl)
noncomputable def bI.sg:SG Tryz.prog:=⟨26,aR,bI.E,.fn 1 (by kernel_rfl) bI.ok (And.intro (.cD bI.L0.ok (by kernel_rfl)) trivial)⟩
abbrev cE.L0.D:=(List cK)×(List cK)×Int
def cE.L0.st:cE.L0.D→AS:=fun(a_2,b_2,i)=>⟨([.d (.slice ck) a_2,.d (.slice ck) b_2,.undef,.undef,.undef,.d ti i]++bl 20 []),[],(List.replicate 26 [])⟩
abbrev cE.L0.Y0:=Unit
abbrev cE.L0.X0:=Unit
def cE.L0.bp:cE.L0.X0→Exit×AS:=fun x=>(.ret,⟨(bl 4 ([.d .bool false]++bl 21 [])),[],(List.replicate 26 [])⟩)
abbrev cE.L0.Y1:=Unit
abbrev cE.L0.X1:=Unit
def cE.L0.fA:cE.L0.X1→Exit×AS:=fun x=>(.exit 0,⟨(bl 26 []),[],(List.replicate 26 [])⟩)
abbrev cE.L0.X:=(cE.L0.X0)⊕(cE.L0.X1)
abbrev cE.L0.Y:=(cE.L0.Y0)⊕(cE.L0.Y1)
def cE.L0.out:cE.L0.X→Out (Exit×AS):=fun x=> .br x.isLeft (.get x.getLeft? fun a=> .ok (cE.L0.bp a)) (.get x.getRight? fun b=> .ok (cE.L0.fA b))
def cE.L0.add:cE.L0.D→cE.L0.Y→cE.L0.X:=fun(a_2,b_2,i) y=>match y with | .inl y=> .inl y | .inr z=> .inr (z)
abbrev cE.D:=(List cK)×(List cK)
def cE.st:cE.D→SA:=fun(a,b)=>([.d (.slice ck) a,.d (.slice ck) b],[])
abbrev cE.Y:=Bool
abbrev cE.X:=Bool
def cE.out:cE.X→ba:=fun x=>⟨.d .bool x,[],[]⟩
def cE.add:cE.D→cE.Y→cE.X:=fun(a,b) y=>y
def cE.L0.av:cE.L0.D→Prop:=fun(a,b,i)=>a.length≤1000000000∧a.length=b.length∧∃k:Nat,k≤a.length∧i=k
def cE.L0.F:cE.L0.D→cE.L0.Y:=fun(a,b,i)=>if List.drop (Int.toNat i) a=List.drop (Int.toNat i) b then .inr () else .inl ()
def cE.av:cE.D→Prop:=fun(a,_)=>a.length≤1000000000
def cE.F:cE.D→cE.Y:=fun(a,b)=>decide (a=b)
noncomputable def cE.G:ed:=fk (P:=Tryz.prog) []
noncomputable def cE.L0.E:=bU.cD cE.L0.st cE.L0.av cE.L0.add cE.L0.F cE.L0.out
noncomputable def cE.L0.call:cE.L0.D→Option cE.L0.X:=dw cE.L0.E cE.L0.st
noncomputable def cE.an:eQ:= {loops:=jB [(4,{bn:=[0,1,5]})],outs:=jA [(4,{},{bn:=[4]})],fC:=kf [(4,cE.L0.E)]}
noncomputable def cE.A:= @cY Tryz.prog cE.G cE.an 0 Tryz.f31 _ cE.st
abbrev cE.Ok:=dd @cE.A cE.av cE.add cE.F cE.out
noncomputable def cE.L0.R:= @cj Tryz.prog cE.G cE.an 0 Tryz.f31 0 _ cE.L0.st
abbrev cE.L0.Ok:=ew Tryz.prog cE.G cE.an 0 Tryz.f31 0 cE.L0.st cE.L0.av cE.L0.add cE.L0.F cE.L0.out
theorem cE.L0.run:bM cE.L0.call cE.L0.av cE.L0.add cE.L0.F:=eM (eL [.d (.slice ck),.d (.slice ck),.d ti] fun _=>by kernel_rfl)
theorem cE.L0.aB:kC @cE.L0.R cE.L0.st cE.L0.av cE.L0.add cE.L0.F cE.L0.out cE.L0.Ok:=kL
theorem cE.L0.step{R:Type}(a_2:(List cK))(b_2:(List cK))(i:Int)(kn:AS→Option R)(kx:Exit→AS→Option R):cE.L0.R (a_2,b_2,i) kn kx=
  aG ((fM i (((List.length a_2):Nat):Int))) (
   aG (eI i (((List.length a_2):Nat):Int)) (
   aG (eI i (((List.length b_2):Nat):Int)) (
   aG ((!(Ty.beq ck (nth ck a_2 (Int.toNat i)) (nth ck b_2 (Int.toNat i))))) (
    kx (cE.L0.bp ()).1 (cE.L0.bp ()).2) (
    kn (cE.L0.st (a_2,b_2,(bN .i64 i (1:Int)))))) none) none) (
   kx (cE.L0.fA ()).1 (cE.L0.fA ()).2):=by kernel_rfl
theorem cE.eq{R:Type}(a:(List cK))(b:(List cK))(k:ba→Option R):cE.A (a,b) k=
  aG ((mM (((List.length a):Nat):Int) (((List.length b):Nat):Int))) (
   k (cE.out false)) (
   ah (cE.L0.call (a,b,(0:Int))) fun x1=>
   aG (x1.isLeft) (
    ah (x1.getLeft?) fun a2=>
    k (cE.out false)) (
    ah (x1.getRight?) fun b3=>
    k (cE.out true))):=by kernel_rfl
theorem cE.L0.ok:cE.L0.Ok:=by
 refine cE.L0.aB (fun(a,b,i)=>a.length - Int.toNat i) ?_
 rintro⟨a,b,i⟩ ⟨hlen,hab,k,hk,rfl⟩
 have hlen:a.length≤1000000000:=hlen
 have hab:a.length=b.length:=hab
 have hk:k≤a.length:=hk
 by_cases h:k < a.length
 ·have h2:k < b.length:=by omega
  have n1:nth ck a k=a[k]:=cn (t:=ck) h
  have n2:nth ck b k=b[k]:=cn (t:=ck) h2
  have hd:(List.drop k a=List.drop k b)=(a[k]=b[k]∧List.drop (k+1) a=List.drop (k+1) b):=by rw[List.drop_eq_getElem_cons h,List.drop_eq_getElem_cons h2,List.cons.injEq]
  have step:∀ {R:Type} (kn:AS→Option R) (kx:Exit→AS→Option R),cE.L0.R (a,b,(k:Int)) kn kx=if a[k]=b[k] then kn (cE.L0.st (a,b,((k+1:Nat):Int))) else kx (cE.L0.bp ()).1 (cE.L0.bp ()).2:=by
   intro R kn kx
   rw[cE.L0.step,aW (by omega),bm (by omega) (by omega),bm (by omega) (by omega),Int.toNat_natCast,n1,n2]
   simp only[ae]
   rw[N.j5 (by omega)]
   by_cases hx:a[k]=b[k]
   ·rw[(mc _ _).2 hx,if_pos hx];rfl
   ·rw[if_neg hx,show Ty.beq ck a[k] b[k]=false by cases hb:Ty.beq ck a[k] b[k]with | false=>rfl | true=>exact absurd ((mc _ _).1 hb) hx];rfl
  by_cases hx:a[k]=b[k]
  ·left
   refine⟨(a,b,((k+1:Nat):Int)),⟨hlen,hab,k+1,by omega,rfl⟩,by simp only[Int.toNat_natCast];omega,?_,fun kn kx=> ?_⟩
   ·simp only[cE.L0.add,cE.L0.F,Int.toNat_natCast,hd,hx,true_and]
   ·rw[step,if_pos hx]
  ·right
   refine⟨cE.L0.bp (),?_,fun kn kx=> ?_⟩
   ·simp only[cE.L0.add,cE.L0.F,Int.toNat_natCast,hd,hx,false_and,if_false]
    rfl
   ·rw[step,if_neg hx]
 ·right
  obtain rfl:k=a.length:=by omega
  refine⟨cE.L0.fA (),?_,fun kn kx=> ?_⟩
  ·simp only[cE.L0.add,cE.L0.F,Int.toNat_natCast,List.drop_length]
   rw[hab,List.drop_length,if_pos rfl]
   rfl
  ·rw[cE.L0.step,aO (by omega),ag]
theorem cE.ok:cE.Ok:=by
 rintro⟨a,b⟩ hl
 have hl:a.length≤1000000000:=hl
 rw[cE.eq]
 by_cases h:a.length=b.length
 ·rw[ct (by omega),ag,cE.L0.run (d:=(a,b,0)) ⟨hl,h,0,Nat.zero_le _,rfl⟩]
  simp only[aa,cE.L0.add,cE.L0.F,Int.toNat_zero,List.drop_zero,cE.add,cE.F]
  by_cases e:a=b
  ·rw[if_pos e,aZ e];rfl
  ·rw[if_neg e,bo e];rfl
 ·rw[fg (by omega),ae]
  simp only[cE.add,cE.F,bo (fun e:a=b=>h (by rw[e]))]
noncomputable def cE.E:=Entry.cD [some (.slice ck),some (.slice ck)] cE.st cE.av cE.add cE.F cE.out
noncomputable def cE.call:cE.D→Option cE.X:=bS cE.E cE.st
theorem cE.run:bM cE.call cE.av cE.add cE.F:=dq (df [.d (.slice ck),.d (.slice ck)] fun _=>by kernel_rfl)
noncomputable def cE.sg:SG Tryz.prog:=⟨31,aR,cE.E,.fn 1 (by kernel_rfl) cE.ok (And.intro (.cD cE.L0.ok (by kernel_rfl)) trivial)⟩
structure qp(m n:Nat)(a:At)(s:List dQ):Prop where
 jG:qo a
 le:n≤s.length
 len:s.length≤m
 Hs:∀st∈s,Co st
 sum:gw a≤1125899906842624
 Ei:a.length≤256+64*m
theorem qp.mono{m m' n:Nat}{a:At}{s:List dQ}(h:qp m n a s)(hm:m≤m'):qp m' n a s:=⟨h.jG,h.le,Nat.le_trans h.len hm,h.Hs,h.sum,by have:=h.Ei;omega⟩
theorem xO{a:At}(h:∀p∈a,0≤p.2.1.1):0≤gw a:=by
 induction a with
 |nil=>exact Int.le_refl 0
 |cons p a ih=>
  rw[gX]
  have:=h p List.mem_cons_self
  have:=ih fun q hq=>h q (List.mem_cons_of_mem _ hq)
  omega
theorem qo.pos{a:At}(h:qo a):0≤gw a:=xO fun p hp=>(h.2 p hp).2.2.2.1
theorem rW:∀(l:List gm) (sum:Int) (k:Nat) {a:At},0≤sum→sum≤1125899906842624→(∀o∈l,sO o)→na sum k l=some a→
  a.length=l.length∧gw a=fw l∧sum+fw l≤1125899906842624∧(∀o∈l,0≤o.1)∧(∀p∈a,rA p.1∧GN p.2∧(k:Int)≤p.1.2.1)∧(eV a).Nodup
 |[],sum,k,a,h0,h1,_,e=>by
  obtain rfl:=Option.some.inj e
  exact⟨rfl,rfl,by show sum+0≤_;omega,fun o ho=>(by cases ho),fun p hp=>(by cases hp),List.nodup_nil⟩
 |o::l,sum,k,a,h0,h1,hg,e=>by
  rw[na]at e
  cases ho:j2 sum o with
  |false=>rw[ho]at e;cases e
  |true=>
   rw[ho]at e
   simp only at e
   cases hr:na (sum+o.1) (k+1) l with
   |none=>rw[hr]at e;cases e
   |some r=>
    rw[hr]at e
    obtain rfl:=Option.some.inj e
    have ho':=ho
    unfold j2 at ho'
    simp only[Bool.and_eq_true,decide_eq_true_eq]at ho'
    obtain⟨k1,k2,k3⟩:=ho'
    obtain⟨i1,i2,i3,i4,i5,i6⟩:=rW l (sum+o.1) (k+1) (by omega) (by omega) (fun x hx=>hg x (List.mem_cons_of_mem _ hx)) hr
    have hu:=hg o List.mem_cons_self
    refine⟨by rw[List.length_cons,List.length_cons,i1],?_,by rw[jf];omega,fun x hx=> ?_,fun p hp=> ?_,?_⟩
    ·rw[gX,jf,i2];rfl
    ·rcases List.mem_cons.1 hx with rfl | hx
     ·exact k2
     ·exact i4 x hx
    ·rcases List.mem_cons.1 hp with rfl | hp
     ·refine⟨⟨by show(List.replicate 32 (0:Int)).length=32;rw[List.length_replicate],fun x hx=> ?_⟩,⟨k1,hu.1,k2,by show o.1≤_;omega,Int.le_refl 0,by show(0:Int)≤_;decide⟩,by show(k:Int)≤k;omega⟩
      have hx:x∈List.replicate 32 (0:Int):=hx
      obtain rfl:=(List.mem_replicate.1 hx).2
      exact⟨by decide,by decide⟩
     ·have:=i5 p hp
      exact⟨this.1,this.2.1,by omega⟩
    ·show((mf k o).1::eV r).Nodup
     refine List.nodup_cons.2 ⟨fun hm=> ?_,i6⟩
     obtain⟨p,hp,he⟩:=List.mem_map.1 hm
     have:=(i5 p hp).2.2
     have he:p.1=(mf k o).1:=he
     rw[he]at this
     have this:((k+1:Nat):Int)≤(k:Int):=this
     omega
theorem wc{outs:List gm}{a:At}(hg:∀o∈outs,sO o)(e:qe outs=some a):qp 0 0 a []∧gw a=fw outs∧a.length=outs.length∧outs.length≤256∧(∀o∈outs,0≤o.1)∧fw outs≤1125899906842624:=by
 unfold qe at e
 by_cases hl:outs.length≤256
 ·rw[if_pos hl]at e
  obtain⟨i1,i2,i3,i4,i5,i6⟩:=rW outs 0 0 (by decide) (by decide) hg e
  exact⟨⟨⟨i6,fun p hp=>⟨(i5 p hp).1,(i5 p hp).2.1⟩⟩,Nat.le_refl _,Nat.le_refl _,fun st hst=>(by cases hst),by omega,by omega⟩,i2,i1,hl,i4,by omega⟩
 ·rw[if_neg hl]at e;cases e
theorem EJ{outs:List gm}(hg:∀o∈outs,sO o):bE.call outs=some (match qe outs with | none=> .inl () | some r=> .inr (r,[])):=by
 rw[bE.run (d:=outs) hg]
 simp only[bE.add,bE.F]
 cases qe outs <;> rfl
theorem vV:∀(l:List cK) (a:At),(mK a l).length=l.length
 |[],_=>rfl
 |o::l,a=>by rw[mK,List.length_cons,List.length_cons,vV l]
theorem DR{t:fv}{h fR:Int}{a:At}(hc:iO t h a fR):Co (stepOf t a):=by
 have h1:=(iF hc.ok).1
 have h2:=ka hc.ok
 have h3:=tV hc.ok
 unfold Co stepOf
 rw[vV]
 exact⟨by omega,by show(fo t).length≤1000;omega⟩
section
variable {m n:Nat} {t:fv} {h:Int} {a:At} {s:List dQ}
theorem qp.app(hg:qp m n a s)(hc:iO t h a (ee t h a).1)(hv:nE t):qp (m+1) (n+1) (gB t h a) (s.take n++ [stepOf t a]):=by
 have hl:=hg.le
 have hm:=hg.len
 have hs:=hc.sum hg.jG.1
 have hp:=hc.pos
 have h1:=(iF hc.ok).1
 have e:(s.take n).length=n:=by rw[List.length_take];omega
 refine⟨hc.jG hg.jG hv,by rw[List.length_append,e];exact Nat.le_refl _,by rw[List.length_append,e];show n+1≤_;omega,fun st hst=> ?_,?_,?_⟩
 ·rcases List.mem_append.1 hst with hst | hst
  ·exact hg.Hs st (List.mem_of_mem_take hst)
  ·rw[List.mem_singleton.1 hst];exact DR hc
 ·have:=hg.sum;omega
 ·have:=hg.Ei;omega
theorem qp.apply(hg:qp m n a s)(hm:m≤1000)(hv:nE t):((ee t h a).2≠0∧aT.call (t,h,n,a,s)=some (.inl ((ee t h a).2,n,a,s)))∨
  (iO t h a (ee t h a).1∧(ee t h a).2=0∧aT.call (t,h,n,a,s)=some (.inr (0,n+1,gB t h a,s.take n++ [stepOf t a]))∧qp (m+1) (n+1) (gB t h a) (s.take n++ [stepOf t a])):=by
 have hr:=aT.run (d:=(t,h,n,a,s)) ⟨hv,hg.jG,hg.le,by have:=hg.len;show s.length≤_;omega⟩
 by_cases he:(ee t h a).2=0
 ·right
  refine⟨s5 he,he,?_,hg.app (s5 he) hv⟩
  rw[hr]
  simp only[aT.add,aT.F,he,ne_eq,not_true_eq_false,if_false]
 ·left
  refine⟨he,?_⟩
  rw[hr]
  simp only[aT.add,aT.F,ne_eq,he,not_false_eq_true,if_true]
theorem qp.check(hg:qp m n a s)(hv:nE t):aC.call (t,h,n,a,s)=some ((ee t h a).1,(ee t h a).2,n,a,s):=aC.run (d:=(t,h,n,a,s)) ⟨hv,hg.jG⟩
noncomputable def Cs(a:At):List cK:=qi (t:=ck) mU (eV a)
theorem qp.all(hg:qp m n a s)(hm:m≤1000):bV.call (n,a,s)=some (a.length,n,a,s,Cs a):=bV.run (d:=(n,a,s)) ⟨by have:=hg.Ei;show a.length≤_;omega,fun p hp=>(hg.jG.2 p hp).1⟩
theorem qp.total(hg:qp m n a s):bK.call (n,a,s)=some (gw a,n,a,s):=bK.run (d:=(n,a,s)) ⟨fun p hp=>(hg.jG.2 p hp).2.2.2.1,by have:=hg.sum;show gw a≤_;omega⟩
theorem qp.get(hg:qp m n a s)(o:cK):ea.call (o,n,a,s)=some ((n,a,s),((cz ck o a).getD uY,(cz ck o a).isSome)):=ea.run (d:=(o,n,a,s)) hg.jG
theorem qp.copy(hg:qp m n a s)(hm:m≤1000):bA.call (n,a,s)=some (n,a,s,(s.take n).length,jQ a,s.take n):=bA.run (d:=(n,a,s)) ⟨hg.le,by have:=hg.len;show s.length≤_;omega,hg.jG.1⟩
theorem qp.Ci(hg:qp m n a s)(hm:m≤1000):aU.call (n,a,s)=some (if n=0 then(false,n,a,s) else(true,n - 1,kI a (nth dZ s (n - 1)),s)):=aU.run (d:=(n,a,s)) ⟨hg.le,by have:=hg.len;show s.length≤_;omega,hg.Hs⟩
theorem qo.perm{a':At}(h:qo a)(hp:a.Perm a'):qo a':=⟨(hp.map _).nodup_iff.1 h.1,fun p hm=>h.2 p (hp.mem_iff.2 hm)⟩
theorem qp.canon(hg:qp m n a s):qp m n (jQ a) (s.take n)∧(s.take n).length=n:=by
 have hp:=mJ a
 have e:(s.take n).length=n:=by rw[List.length_take];have:=hg.le;omega
 exact⟨⟨hg.jG.perm hp.symm,by omega,by have:=hg.le;have:=hg.len;omega,fun st hst=>hg.Hs st (List.mem_of_mem_take hst),by rw[l7 hp];exact hg.sum,by rw[hp.length_eq];exact hg.Ei⟩,e⟩
end
theorem xK{a:At}(h:qo a):(Cs a).Perm (eV a):=(xx nq fun x hx=>by
 obtain⟨p,hp,rfl⟩:=List.mem_map.1 hx
 exact(h.2 p hp).1).1
end Go.Ab
namespace Go.Ab
open Go.Proofs
set_option maxRecDepth 100000
set_option linter.unusedVariables false
set_option linter.unusedSimpArgs false
set_option synthInstance.maxSize 5000
theorem FZ{outs:List gm}{acts:List sN}(h:CW outs acts=true):outs.length≤20∧acts.length≤20∧∀x∈acts,x.2.1.1.length≤8∧x.2.1.2.1.length≤8:=by
 unfold CW at h
 simp only[Bool.and_eq_true,decide_eq_true_eq,List.all_eq_true]at h
 refine⟨h.2.1,h.2.2,fun x hx=> ?_⟩
 have:=h.1 x hx
 unfold py at this
 simpa only[Bool.and_eq_true,decide_eq_true_eq]using this
set_option synthInstance.maxSize 5000
theorem EP{a b:List cK}(h:a.length≤1000000000):cE.call (a,b)=some (decide (a=b)):=cE.run (d:=(a,b)) h
theorem Ct{a:At}(h:qo a):(Cs a).length=a.length:=by rw[(xK h).length_eq,List.length_map]
theorem CK{l:List cK}{n:Nat}(h:l.length=n):cut l 0 n=l:=by
 subst h
 simp[cut]
set_option synthInstance.maxSize 5000
def lG(a a':At):Prop:=∀o,cz ck o a=cz ck o a'
theorem lG.refl(a:At):lG a a:=fun _=>rfl
theorem lG.symm{a b:At}(h:lG a b):lG b a:=fun o=>(h o).symm
theorem lG.trans{a b c:At}(h:lG a b)(h':lG b c):lG a c:=fun o=>(h o).trans (h' o)
theorem lG.perm{a b:At}(h:lG a b)(ha:(eV a).Nodup)(hb:(eV b).Nodup):a.Perm b:=Ff ha hb h
theorem yl{a b:At}(hb:(eV b).Nodup)(h:a.Perm b):lG a b:=fun o=>Dy hb h o
theorem lG.del{a b:At}(h:lG a b)(ha:(eV a).Nodup)(hb:(eV b).Nodup)(l:List cK):lG (ln l a) (ln l b):=fun o=>by
 rw[sr o l ha,sr o l hb,h o]
theorem pk(e:dM)(l:List dM)(a:At):ur (e::l) a=ur l (fH ck e.1 e.2.1 a):=rfl
theorem lG.set{a b:At}(h:lG a b)(o:cK)(c:fa):lG (fH ck o c a) (fH ck o c b):=fun x=>by rw[zX,zX,h x]
theorem lG.put:∀(l:List dM) {a b:At},lG a b→lG (ur l a) (ur l b)
 |[],_,_,h=>h
 |e::l,a,b,h=>by rw[pk,pk];exact lG.put l (h.set _ _)
theorem uu:∀(l:List dM) {a:At},(eV a).Nodup→(eV (ur l a)).Nodup
 |[],_,h=>h
 |e::l,a,h=>by rw[pk];exact uu l (pX h)
theorem o5{a:At}(h:(eV a).Nodup)(st:dQ):(eV (kI a st)).Nodup:=uu _ (mg _ h)
theorem lG.Ci{a b:At}(h:lG a b)(ha:(eV a).Nodup)(hb:(eV b).Nodup)(st:dQ):lG (kI a st) (kI b st):=lG.put _ (h.del ha hb _)
theorem lG.add(h:Int):∀(l:List cK) (xs:List gm) {a b:At},lG a b→lG (po h l xs a) (po h l xs b)
 |[],[],_,_,e=>e
 |[],_::_,_,_,e=>e
 |_::_,[],_,_,e=>e
 |o::l,x::xs,a,b,e=>by rw[kK,kK];exact lG.add h l xs (e.set _ _)
theorem lG.apply{a b:At}(e:lG a b)(ha:(eV a).Nodup)(hb:(eV b).Nodup)(t:fv)(h:Int):lG (gB t h a) (gB t h b):=lG.add h _ _ (e.del ha hb _)
theorem lG.ins{a b:At}(e:lG a b)(h:Int)(id:List Int):∀(l:List ia) (f:Int),jb h id a l f=jb h id b l f
 |[],_=>rfl
 |x::l,f=>by
  simp only[jb,e x.1]
  cases cz ck x.1 b with
  |none=>rfl
  |some c=>simp only[lG.ins e h id l]
theorem lG.check{a b:At}(e:lG a b)(t:fv)(h:Int):ee t h a=ee t h b:=by
 have e2:gW a=gW b:=funext fun o=>by unfold gW;rw[e o]
 unfold ee
 rw[e.ins,e2]
theorem Fg(x:cK):∀(l:List cK) {a:At} (b:At),(eV a).Nodup→l.Nodup→(∀o∈l,(cz ck o a).isSome=true)→cz ck x (ur (mK a l) b)=if x∈l then cz ck x a else cz ck x b
 |[],a,b,_,_,_=>by rw[if_neg (by simp)];rfl
 |o::l,a,b,hn,hl,ht=>by
  rw[List.nodup_cons]at hl
  obtain⟨c,hc⟩:=Option.isSome_iff_exists.1 (ht o List.mem_cons_self)
  have ht':∀y∈l,(cz ck y (gG ck o a)).isSome=true:=fun y hy=>by
   rw[zW y o hn,if_neg (fun e=>hl.1 (by rw[←e];exact hy))]
   exact ht y (List.mem_cons_of_mem _ hy)
  rw[mK,pk,Fg x l _ (jV hn) hl.2 ht',zW x o hn,hc]
  by_cases h1:x∈l
  ·have h2:¬x=o:=fun e=>hl.1 (by rw[←e];exact h1)
   rw[if_pos h1,if_neg h2,if_pos (List.mem_cons_of_mem _ h1)]
  ·rw[if_neg h1]
   show cz ck x (fH ck o c b)=_
   rw[zX]
   by_cases h2:x=o
   ·subst h2
    rw[if_pos rfl,if_pos List.mem_cons_self,hc]
   ·rw[if_neg h2,if_neg (by simp[h1,h2])]
theorem AD{t:fv}{h fR:Int}{a:At}(hc:iO t h a fR)(ha:(eV a).Nodup):lG (kI (gB t h a) (stepOf t a)) a:=fun o=>by
 unfold kI stepOf
 rw[Fg o (dN t) _ ha (nY t) hc.there]
 by_cases h1:o∈dN t
 ·rw[if_pos h1]
 ·rw[if_neg h1]
  show cz ck o (ln (fo t) (gB t h a))=_
  rw[sr o _ (lW ha)]
  by_cases h2:o∈fo t
  ·rw[if_pos h2,hc.made o h2]
  ·rw[if_neg h2,qt ha h1 h2]
theorem Dq{s:List dQ}{x:dQ}{n k:Nat}(hn:n≤s.length)(hk:k < n):nth dZ (s.take n++ [x]) k=nth dZ s k:=by
 have h1:k < (s.take n++ [x]).length:=by rw[List.length_append,List.length_take];omega
 rw[cn (t:=dZ) h1,cn (t:=dZ) (show k < s.length by omega)]
 show(List.take n s++ [x])[k]=s[k]
 rw[List.getElem_append_left (by rw[List.length_take];omega),List.getElem_take]
theorem Dp{s:List dQ}{x:dQ}{n:Nat}(hn:n≤s.length):nth dZ (s.take n++ [x]) n=x:=by
 have e:(s.take n).length=n:=by rw[List.length_take];omega
 have h1:n < (s.take n++ [x]).length:=by rw[List.length_append,e];exact Nat.lt_succ_self n
 rw[cn (t:=dZ) h1]
 show(List.take n s++ [x])[n]=x
 rw[List.getElem_append_right (by omega)]
 simp[e]
set_option synthInstance.maxSize 5000
def ij(l:List dM):At:=l.map fun e=>(e.1,e.2.1)
def D4(a b:cK):Bool:=decide (lx a.1 b.1 < 0∨lx a.1 b.1=0∧a.2.1 < b.2.1)
def j3:List dM→cK→Int→Int
 |[],_,_=> -1
 |e::l,o,i=>if Ty.beq ck e.1 o=true then i else j3 l o (i+1)
def lJ:List dM→cK→List dM
 |[],_=> []
 |e::l,o=>if Ty.beq ck e.1 o=true then l else e::lJ l o
def kJ:List dM→dM→List dM
 |[],c=> [c]
 |e::l,c=>if D4 e.1 c.1=true then e::kJ l c else c::e::l
theorem vI(a b:cK):Ty.beq ck a b=Ty.beq ck b a:=by
 cases h:Ty.beq ck a b with
 |true=>rw[(mc b a).2 ((mc a b).1 h).symm]
 |false=>
  cases h2:Ty.beq ck b a with
  |false=>rfl
  |true=>rw[(mc a b).2 ((mc b a).1 h2).symm]at h;cases h
theorem qf:∀(l:List dM) (o:cK) (i:Int),0≤i→(j3 l o i= -1∧cz ck o (ij l)=none∧lJ l o=l)∨
  ∃(k:Nat) (h:k < l.length),j3 l o i=i+k∧cz ck o (ij l)=some l[k].2.1∧lJ l o=l.take k++l.drop (k+1)∧l[k].1=o
 |[],o,i,_=> .inl ⟨rfl,rfl,rfl⟩
 |e::l,o,i,h0=>by
  have hg:cz ck o (ij (e::l))=if Ty.beq ck o e.1=true then some e.2.1 else cz ck o (ij l):=fV
  rw[hg,j3,lJ,vI o e.1]
  by_cases h:Ty.beq ck e.1 o=true
  ·right
   refine⟨0,Nat.zero_lt_succ _,?_,?_,?_,(mc _ _).1 h⟩
   ·rw[if_pos h];show i=i+0;omega
   ·rw[if_pos h];rfl
   ·rw[if_pos h];rfl
  ·rw[if_neg h,if_neg h,if_neg h]
   rcases qf l o (i+1) (by omega) with⟨h1,h2,h3⟩ | ⟨k,hk,h1,h2,h3,h4⟩
   ·left
    exact⟨h1,h2,by rw[h3]⟩
   ·right
    refine⟨k+1,Nat.succ_lt_succ hk,by rw[h1];omega,h2,by rw[h3];rfl,h4⟩
theorem An{l:List dM}{o:cK}{i:Int}(h0:0≤i):j3 l o i= -1∨i≤j3 l o i∧j3 l o i < i+l.length:=by
 rcases qf l o i h0 with⟨h,_⟩ | ⟨k,hk,h,_⟩
 ·exact .inl h
 ·right;rw[h];omega
theorem tn:∀(l:List dM) (o:cK),ij (lJ l o)=gG ck o (ij l)
 |[],o=>by rw[lJ];rfl
 |e::l,o=>by
  have hg:gG ck o (ij (e::l))=if Ty.beq ck o e.1=true then ij l else(e.1,e.2.1)::gG ck o (ij l):=mm
  rw[hg,lJ,vI o e.1]
  by_cases h:Ty.beq ck e.1 o=true
  ·rw[if_pos h,if_pos h]
  ·rw[if_neg h,if_neg h,←tn l o];rfl
theorem kV:∀(l:List dM) (c:dM),(kJ l c).Perm (c::l)
 |[],c=>List.Perm.refl _
 |e::l,c=>by
  rw[kJ]
  split
  ·exact((kV l c).cons e).trans (List.Perm.swap c e l)
  ·exact List.Perm.refl _
theorem DX(l:List dM):eV (ij l)=l.map (·.1):=by
 unfold ij eV
 rw[List.map_map]
 rfl
theorem CL(l:List dM)(o:cK):(lJ l o).length≤l.length:=by
 induction l with
 |nil=>exact Nat.le_refl _
 |cons e l ih=>
  rw[lJ]
  split
  ·exact Nat.le_succ _
  ·exact Nat.succ_le_succ ih
theorem CM(l:List dM)(o:cK):(lJ l o).Sublist l:=by
 induction l with
 |nil=>exact List.Sublist.refl _
 |cons e l ih=>
  rw[lJ]
  split
  ·exact List.sublist_cons_self e l
  ·exact ih.cons_cons e
def FA(l:List dM):Prop:=l.Pairwise fun x y=>¬mU y.1 x.1 < 0
theorem Eb{a b:cK}(ha:rA a)(hb:rA b):D4 a b=decide (mU a b < 0):=by
 unfold D4
 rw[jl ha hb]
 unfold lM
 rw[tf _ _ (ha.1.trans hb.1.symm)]
 unfold GL
 by_cases h:lx a.1 b.1=0
 ·rw[if_pos h]
  unfold wS
  by_cases h2:a.2.1 < b.2.1
  ·rw[if_pos h2,aZ (.inr ⟨h,h2⟩),aZ (by decide)]
  ·rw[if_neg h2,bo (by omega)]
   split
   ·rw[bo (by decide)]
   ·rw[bo (by decide)]
 ·rw[if_neg h]
  by_cases h2:lx a.1 b.1 < 0
  ·rw[aZ (.inl h2),aZ h2]
  ·rw[bo (by omega),bo h2]
theorem vN{a b:cK}(ha:rA a)(hb:rA b)(h:mU a b < 0):¬mU b a < 0:=fun h2=>by
 rw[jl ha hb]at h
 rw[jl hb ha,rR]at h2
 omega
theorem wF:∀(l:List dM) (c:dM),(∀e∈l,rA e.1)→rA c.1→FA l→FA (kJ l c)
 |[],c,_,_,_=>List.pairwise_singleton _ _
 |e::l,c,hq,hc,hs=>by
  have he:=hq e List.mem_cons_self
  have hs':=List.pairwise_cons.1 hs
  rw[kJ,Eb he hc]
  by_cases h:mU e.1 c.1 < 0
  ·rw[aZ h,if_pos rfl]
   refine List.pairwise_cons.2 ⟨fun y hy=> ?_,wF l c (fun x hx=>hq x (List.mem_cons_of_mem _ hx)) hc hs'.2⟩
   rcases List.mem_cons.1 ((kV l c).mem_iff.1 hy) with rfl | hy
   ·exact vN he hc h
   ·exact hs'.1 y hy
  ·rw[bo h,if_neg (by simp)]
   refine List.pairwise_cons.2 ⟨fun y hy=> ?_,hs⟩
   rcases List.mem_cons.1 hy with rfl | hy
   ·exact h
   ·exact nq.ntrans _ _ _ (hq y (List.mem_cons_of_mem _ hy)) he hc (hs'.1 y hy) h
structure Rl(a:At)(l:List dM):Prop where
 jG:qo a
 Ij:FA l
 nd:(eV (ij l)).Nodup
 eqv:lG (ij l) a
section
variable {a:At} {l:List dM}
theorem Rl.perm(h:Rl a l):(ij l).Perm a:=h.eqv.perm h.nd h.jG.1
theorem Rl.Hy(h:Rl a l):qo (ij l):=h.jG.perm h.perm.symm
theorem Rl.q(h:Rl a l):∀e∈l,rA e.1:=fun e he=>(h.Hy.2 (e.1,e.2.1) (List.mem_map.2 ⟨e,he,rfl⟩)).1
theorem Rl.len(h:Rl a l):l.length=a.length:=by
 have:=h.perm.length_eq
 unfold ij at this
 rwa[List.length_map]at this
theorem Rl.all(h:Rl a l):l.map (·.1)=Cs a:=by
 have hq:∀x∈eV a,rA x:=fun x hx=>by
  obtain⟨p,hp,rfl⟩:=List.mem_map.1 hx
  exact(h.jG.2 p hp).1
 refine qj nq hq (fun x hx y hy a b=>pN (hq x hx) (hq y hy) a b) ⟨?_,?_⟩
 ·rw[←DX]
  exact h.perm.map _
 ·exact List.pairwise_map.2 h.Ij
theorem Rl.Io(h:Rl a l):gw (ij l)=gw a:=l7 h.perm
theorem Rl.FL{b:At}(h:Rl a l)(hb:qo b)(e:lG a b):Rl b l:=⟨hb,h.Ij,h.nd,h.eqv.trans e⟩
end
abbrev cH.L0.D:=cK×cK×Int
def cH.L0.st:cH.L0.D→AS:=fun(a_2,b_2,i)=>⟨([.undef,.undef,.ej ck a_2,.ej ck b_2,.undef,.d ti i]++bl 27 []),[],(List.replicate 33 [])⟩
abbrev cH.L0.Y0:=Bool
abbrev cH.L0.X0:=Bool
def cH.L0.bp:cH.L0.X0→Exit×AS:=fun x=>(.ret,⟨(bl 4 ([.d .bool x]++bl 28 [])),[],(List.replicate 33 [])⟩)
abbrev cH.L0.Y1:=Unit
abbrev cH.L0.X1:=cK×cK
def cH.L0.fA:cH.L0.X1→Exit×AS:=fun x=>(.exit 0,⟨([.undef,.undef,.ej ck x.1,.ej ck x.2]++bl 29 []),[],(List.replicate 33 [])⟩)
abbrev cH.L0.X:=(cH.L0.X0)⊕(cH.L0.X1)
abbrev cH.L0.Y:=(cH.L0.Y0)⊕(cH.L0.Y1)
def cH.L0.out:cH.L0.X→Out (Exit×AS):=fun x=> .br x.isLeft (.get x.getLeft? fun a=> .ok (cH.L0.bp a)) (.get x.getRight? fun b=> .ok (cH.L0.fA b))
def cH.L0.add:cH.L0.D→cH.L0.Y→cH.L0.X:=fun(a_2,b_2,i) y=>match y with | .inl y=> .inl y | .inr z=> .inr ((a_2,b_2))
abbrev cH.D:=cK×cK
def cH.st:cH.D→SA:=fun(a,b)=>([.d ck a,.d ck b],[])
abbrev cH.Y:=Bool
abbrev cH.X:=Bool
def cH.out:cH.X→ba:=fun x=>⟨.d .bool x,[],[]⟩
def cH.add:cH.D→cH.Y→cH.X:=fun(a,b) y=>y
def cH.L0.av:cH.L0.D→Prop:=fun(a,b,i)=>a.1.length=32∧b.1.length=32∧∃k:Nat,k≤32∧i=k
def cH.L0.F:cH.L0.D→cH.L0.Y:=fun(a,b,i)=>if lx (a.1.drop i.toNat) (b.1.drop i.toNat)=0 then .inr () else .inl (decide (lx (a.1.drop i.toNat) (b.1.drop i.toNat) < 0))
def cH.av:cH.D→Prop:=fun(a,b)=>a.1.length=32∧b.1.length=32
def cH.F:cH.D→cH.Y:=fun(a,b)=>D4 a b
noncomputable def cH.G:ed:=fk (P:=Tryz.prog) []
noncomputable def cH.L0.E:=bU.cD cH.L0.st cH.L0.av cH.L0.add cH.L0.F cH.L0.out
noncomputable def cH.L0.call:cH.L0.D→Option cH.L0.X:=dw cH.L0.E cH.L0.st
noncomputable def cH.an:eQ:= {loops:=jB [(2,{bn:=[2,3,5]})],outs:=jA [(2,{bn:=[2,3]},{bn:=[4]})],fC:=kf [(2,cH.L0.E)]}
noncomputable def cH.A:= @cY Tryz.prog cH.G cH.an 0 Tryz.f165 _ cH.st
abbrev cH.Ok:=dd @cH.A cH.av cH.add cH.F cH.out
noncomputable def cH.L0.R:= @cj Tryz.prog cH.G cH.an 0 Tryz.f165 0 _ cH.L0.st
abbrev cH.L0.Ok:=ew Tryz.prog cH.G cH.an 0 Tryz.f165 0 cH.L0.st cH.L0.av cH.L0.add cH.L0.F cH.L0.out
theorem cH.L0.run:bM cH.L0.call cH.L0.av cH.L0.add cH.L0.F:=eM (eL [.d ck,.d ck,.d ti] fun _=>by kernel_rfl)
theorem cH.L0.aB:kC @cH.L0.R cH.L0.st cH.L0.av cH.L0.add cH.L0.F cH.L0.out cH.L0.Ok:=kL
theorem cH.L0.step{R:Type}(a_2:cK)(b_2:cK)(i:Int)(kn:AS→Option R)(kx:Exit→AS→Option R):cH.L0.R (a_2,b_2,i) kn kx=
  aG ((fM i (32:Int))) (
   aG (eI i (32:Int)) (
   aG (eI i (32:Int)) (
   aG ((mM (nth tb a_2.1 (Int.toNat i)) (nth tb b_2.1 (Int.toNat i)))) (
    aG (eI i (32:Int)) (
    aG (eI i (32:Int)) (
    kx (cH.L0.bp (fM (nth tb a_2.1 (Int.toNat i)) (nth tb b_2.1 (Int.toNat i)))).1 (cH.L0.bp (fM (nth tb a_2.1 (Int.toNat i)) (nth tb b_2.1 (Int.toNat i)))).2) none) none) (
    kn (cH.L0.st (a_2,b_2,(bN .i64 i (1:Int)))))) none) none) (
   kx (cH.L0.fA (a_2,b_2)).1 (cH.L0.fA (a_2,b_2)).2):=by kernel_rfl
theorem cH.eq{R:Type}(a:cK)(b:cK)(k:ba→Option R):cH.A (a,b) k=
  ah (cH.L0.call (a,b,(0:Int))) fun x1=>
  aG (x1.isLeft) (
   ah (x1.getLeft?) fun a2=>
   k (cH.out a2)) (
   ah (x1.getRight?) fun b3=>
   k (cH.out (fM b3.1.2.1 b3.2.2.1))):=by kernel_rfl
theorem cH.L0.ok:cH.L0.Ok:=by
 refine cH.L0.aB (fun(_,_,i)=>(32 - i).toNat) ?_
 rintro⟨a,b,i⟩ ⟨ha,hb,k,hk,rfl⟩
 have ha:a.1.length=32:=ha
 have hb:b.1.length=32:=hb
 by_cases hlt:k < 32
 ·have n1:nth tb a.1 k=a.1[k]:=cn (t:=tb) (by omega)
  have n2:nth tb b.1 k=b.1[k]:=cn (t:=tb) (by omega)
  have hd:lx (a.1.drop k) (b.1.drop k)=if a.1[k]≠b.1[k] then(if a.1[k] < b.1[k] then -1 else 1) else lx (a.1.drop (k+1)) (b.1.drop (k+1)):=by
   rw[List.drop_eq_getElem_cons (show k < a.1.length by omega),List.drop_eq_getElem_cons (show k < b.1.length by omega),lx]
  by_cases h:a.1[k]=b.1[k]
  ·left
   refine⟨(a,b,((k+1:Nat):Int)),⟨ha,hb,k+1,by omega,rfl⟩,by show(32 - ((k+1:Nat):Int)).toNat < (32 - (k:Int)).toNat;omega,?_,fun kn kx=> ?_⟩
   ·rw[if_neg (fun e=>e h)]at hd
    simp only[cH.L0.add,cH.L0.F,Int.toNat_natCast,hd]
   ·rw[cH.L0.step,aW (by omega),ae,bm (by omega) (by omega),ae,ae,Int.toNat_natCast,n1,n2,ct h,ag,N.j5 (by omega)]
  ·right
   rw[if_pos h]at hd
   refine⟨cH.L0.bp (decide (a.1[k] < b.1[k])),?_,fun kn kx=> ?_⟩
   ·simp only[cH.L0.add,cH.L0.F,Int.toNat_natCast,hd]
    by_cases h2:a.1[k] < b.1[k]
    ·simp only[h2,if_true]
     rfl
    ·simp only[h2,if_false]
     rfl
   ·rw[cH.L0.step,aW (by omega),ae,bm (by omega) (by omega),ae,ae,Int.toNat_natCast,n1,n2,fg h,ae,ae,ae]
    by_cases h2:a.1[k] < b.1[k]
    ·rw[aW h2,aZ h2]
    ·rw[aO h2,bo h2]
 ·right
  obtain rfl:k=32:=by omega
  refine⟨cH.L0.fA (a,b),?_,fun kn kx=> ?_⟩
  ·have e:lx (a.1.drop 32) (b.1.drop 32)=0:=by rw[List.drop_of_length_le (by omega),List.drop_of_length_le (by omega)];rfl
   simp only[cH.L0.add,cH.L0.F,Int.toNat_natCast,e]
   rfl
  ·rw[cH.L0.step,aO (by omega),ag]
theorem cH.ok:cH.Ok:=by
 rintro⟨a,b⟩ ⟨ha,hb⟩
 rw[cH.eq,cH.L0.run (d:=(a,b,0)) ⟨ha,hb,0,by omega,rfl⟩]
 simp only[aa,cH.L0.add,cH.L0.F,Int.toNat_zero,List.drop_zero,cH.add,cH.F,D4]
 by_cases h:lx a.1 b.1=0
 ·simp only[h,if_true,Sum.isLeft_inr,ag,Sum.getRight?_inr,aa]
  by_cases h2:a.2.1 < b.2.1
  ·rw[aW h2,aZ (.inr ⟨by trivial,h2⟩)]
  ·rw[aO h2,bo (by rintro(h3 | h3);exact absurd h3 (by decide);exact h2 h3.2)]
 ·simp only[h,if_false,Sum.isLeft_inl,ae,Sum.getLeft?_inl,aa]
  by_cases h2:lx a.1 b.1 < 0
  ·rw[aZ h2,aZ (.inl h2)]
  ·rw[bo h2,bo (by rintro(h3 | h3);exact h2 h3;exact h3.1)]
noncomputable def cH.E:=Entry.cD [some ck,some ck] cH.st cH.av cH.add cH.F cH.out
noncomputable def cH.call:cH.D→Option cH.X:=bS cH.E cH.st
theorem cH.run:bM cH.call cH.av cH.add cH.F:=dq (df [.d ck,.d ck] fun _=>by kernel_rfl)
noncomputable def cH.sg:SG Tryz.prog:=⟨165,aR,cH.E,.fn 1 (by kernel_rfl) cH.ok (And.intro (.cD cH.L0.ok (by kernel_rfl)) trivial)⟩
abbrev bT.L0.D:=(List dM)×dM×Int
def bT.L0.st:bT.L0.D→AS:=fun(l_2,c_2,kv)=>⟨([.d (.slice eN) l_2,.undef,.undef,.ej eN c_2,.undef,.d ti kv]++bl 32 []),[],(List.replicate 38 [])⟩
abbrev bT.L0.Y0:=Int
abbrev bT.L0.X0:=((List dM)×dM)×(Int)
def bT.L0.bp:bT.L0.X0→Exit×AS:=fun x=>(.exit 0,⟨([.d (.slice eN) x.1.1,.undef,.undef,.ej eN x.1.2,.undef,.d ti x.2]++bl 32 []),[],(List.replicate 38 [])⟩)
abbrev bT.L0.X:=bT.L0.X0
abbrev bT.L0.Y:=bT.L0.Y0
def bT.L0.out:bT.L0.X→Out (Exit×AS):=fun x=> .ok (bT.L0.bp x)
def bT.L0.add:bT.L0.D→bT.L0.Y→bT.L0.X:=fun(l_2,c_2,kv) y=>((l_2,c_2),y)
abbrev bT.D:=(List dM)×dM
def bT.st:bT.D→SA:=fun(l,c)=>([.d (.slice eN) l,.d eN c],[])
abbrev bT.Y:=(List dM)
abbrev bT.X:=(List dM)
def bT.out:bT.X→ba:=fun x=>⟨.d (.slice eN) x,[],[]⟩
def bT.add:bT.D→bT.Y→bT.X:=fun(l,c) y=>y
theorem pQ{l:List dM}{n:Nat}(h:l.length=n):cut l 0 n=l:=by
 subst h
 simp[cut]
def sR(l:List dM)(o:cK):Nat:=(l.takeWhile fun e=>D4 e.1 o).length
theorem wE:∀(l:List dM) (c:dM),kJ l c=l.take (sR l c.1)++(c::l.drop (sR l c.1))
 |[],c=>rfl
 |e::l,c=>by
  unfold sR
  rw[kJ,List.takeWhile_cons]
  by_cases h:D4 e.1 c.1=true
  ·rw[if_pos h,if_pos h,wE l c]
   rfl
  ·rw[if_neg h,if_neg h]
   rfl
theorem Ej(l:List dM)(o:cK):sR l o≤l.length:=(List.takeWhile_sublist _).length_le
def bT.L0.av:bT.L0.D→Prop:=fun(l,c,i)=>l.length≤1000000∧(∀e∈l,e.1.1.length=32)∧c.1.1.length=32∧∃k:Nat,k≤l.length∧i=k
def bT.L0.F:bT.L0.D→bT.L0.Y:=fun(l,c,i)=>i+(sR (l.drop i.toNat) c.1:Int)
def bT.av:bT.D→Prop:=fun(l,c)=>l.length≤1000000∧(∀e∈l,e.1.1.length=32)∧c.1.1.length=32
def bT.F:bT.D→bT.Y:=fun(l,c)=>kJ l c
noncomputable def bT.G:ed:=fk (P:=Tryz.prog) [cH.sg]
noncomputable def bT.L0.E:=bU.cD bT.L0.st bT.L0.av bT.L0.add bT.L0.F bT.L0.out
noncomputable def bT.L0.call:bT.L0.D→Option bT.L0.X:=dw bT.L0.E bT.L0.st
noncomputable def bT.an:eQ:= {bX:=[23],loops:=jB [(2,{bn:=[0,3,5]})],outs:=jA [(2,{bn:=[0,3,5]},{bn:=[4]})],fC:=kf [(2,bT.L0.E)],res:=[some (.slice eN)]}
noncomputable def bT.A:= @cY Tryz.prog bT.G bT.an 0 Tryz.f92 _ bT.st
abbrev bT.Ok:=dd @bT.A bT.av bT.add bT.F bT.out
noncomputable def bT.L0.R:= @cj Tryz.prog bT.G bT.an 0 Tryz.f92 0 _ bT.L0.st
abbrev bT.L0.Ok:=ew Tryz.prog bT.G bT.an 0 Tryz.f92 0 bT.L0.st bT.L0.av bT.L0.add bT.L0.F bT.L0.out
theorem bT.L0.run:bM bT.L0.call bT.L0.av bT.L0.add bT.L0.F:=eM (eL [.d (.slice eN),.d eN,.d ti] fun _=>by kernel_rfl)
theorem bT.L0.aB:fQ @bT.L0.R bT.L0.st bT.L0.av bT.L0.add bT.L0.F bT.L0.bp bT.L0.Ok:=fU
theorem bT.L0.step{R:Type}(l_2:(List dM))(c_2:dM)(kv:Int)(kn:AS→Option R)(kx:Exit→AS→Option R):bT.L0.R (l_2,c_2,kv) kn kx=
  aG ((fM kv (((List.length l_2):Nat):Int))) (
   aG (eI kv (((List.length l_2):Nat):Int)) (
   ah (cH.call ((nth eN l_2 (Int.toNat kv)).1,c_2.1)) fun x1=>
   aG (x1) (
    kn (bT.L0.st (l_2,c_2,(bN .i64 kv (1:Int))))) (
    kx (bT.L0.bp ((l_2,c_2),kv)).1 (bT.L0.bp ((l_2,c_2),kv)).2)) none) (
   kx (bT.L0.bp ((l_2,c_2),kv)).1 (bT.L0.bp ((l_2,c_2),kv)).2):=by kernel_rfl
theorem bT.eq{R:Type}(l:(List dM))(c:dM)(k:ba→Option R):bT.A (l,c) k=
 ah (bT.L0.call (l,c,(0:Int))) fun x2=>
 aG (inc x2.2 (((List.length x2.1.1):Nat):Int)) (
 aG (db (0+(List.length (cut x2.1.1 0 ((Int.toNat x2.2) - 0)))) 80) (
 aG (decide ((0+(List.length (cut x2.1.1 0 ((Int.toNat x2.2) - 0))))≤(List.length ((List.take 0 (List.replicate 0 (((List.replicate 32 (0:Int)),((0:Int),())),((((0:Int),((([]:List ik),()),())),((0:Int),())),()))))++(cut x2.1.1 0 ((Int.toNat x2.2) - 0)))))) (
 aG (db ((0+(List.length (cut x2.1.1 0 ((Int.toNat x2.2) - 0))))+1) 80) (
 aG (inc x2.2 (((List.length x2.1.1):Nat):Int)) (
 aG (decide (((0+(List.length (cut x2.1.1 0 ((Int.toNat x2.2) - 0))))+1)≤(List.length ((List.take (0+(List.length (cut x2.1.1 0 ((Int.toNat x2.2) - 0)))) ((List.take 0 (List.replicate 0 (((List.replicate 32 (0:Int)),((0:Int),())),((((0:Int),((([]:List ik),()),())),((0:Int),())),()))))++(cut x2.1.1 0 ((Int.toNat x2.2) - 0))))++ [x2.1.2])))) (
 aG (db (((0+(List.length (cut x2.1.1 0 ((Int.toNat x2.2) - 0))))+1)+(List.length (cut x2.1.1 (Int.toNat x2.2) ((List.length x2.1.1) - (Int.toNat x2.2))))) 80) (
 aG (decide (0=0∧(0+(((0+(List.length (cut x2.1.1 0 ((Int.toNat x2.2) - 0))))+1)+(List.length (cut x2.1.1 (Int.toNat x2.2) ((List.length x2.1.1) - (Int.toNat x2.2))))))≤(List.length ((List.take ((0+(List.length (cut x2.1.1 0 ((Int.toNat x2.2) - 0))))+1) ((List.take (0+(List.length (cut x2.1.1 0 ((Int.toNat x2.2) - 0)))) ((List.take 0 (List.replicate 0 (((List.replicate 32 (0:Int)),((0:Int),())),((((0:Int),((([]:List ik),()),())),((0:Int),())),()))))++(cut x2.1.1 0 ((Int.toNat x2.2) - 0))))++ [x2.1.2]))++(cut x2.1.1 (Int.toNat x2.2) ((List.length x2.1.1) - (Int.toNat x2.2))))))) (
 k (bT.out (cut ((List.take ((0+(List.length (cut x2.1.1 0 ((Int.toNat x2.2) - 0))))+1) ((List.take (0+(List.length (cut x2.1.1 0 ((Int.toNat x2.2) - 0)))) ((List.take 0 (List.replicate 0 (((List.replicate 32 (0:Int)),((0:Int),())),((((0:Int),((([]:List ik),()),())),((0:Int),())),()))))++(cut x2.1.1 0 ((Int.toNat x2.2) - 0))))++ [x2.1.2]))++(cut x2.1.1 (Int.toNat x2.2) ((List.length x2.1.1) - (Int.toNat x2.2)))) 0 (((0+(List.length (cut x2.1.1 0 ((Int.toNat x2.2) - 0))))+1)+(List.length (cut x2.1.1 (Int.toNat x2.2) ((List.length x2.1.1) - (Int.toNat x2.2)))))))) none) none) none) none) none) none) none) none:=by kernel_rfl
theorem bT.L0.ok:bT.L0.Ok:=by
 refine bT.L0.aB (fun(l,_,i)=>l.length - i.toNat) ?_
 rintro⟨l,c,i⟩ ⟨hl,hq,hc,k,hk,rfl⟩
 have hl:l.length≤1000000:=hl
 have hk:k≤l.length:=hk
 by_cases hlt:k < l.length
 ·have n1:nth eN l k=l[k]:=cn (t:=eN) hlt
  have hb:cH.call (l[k].1,c.1)=some (D4 l[k].1 c.1):=cH.run (d:=(l[k].1,c.1)) ⟨hq _ (List.getElem_mem hlt),hc⟩
  have hd:sR (l.drop k) c.1=if D4 l[k].1 c.1=true then sR (l.drop (k+1)) c.1+1 else 0:=by
   unfold sR
   rw[List.drop_eq_getElem_cons hlt,List.takeWhile_cons]
   split <;> rfl
  cases h:D4 l[k].1 c.1 with
  |true=>
   left
   rw[h,if_pos rfl]at hd
   refine⟨(l,c,((k+1:Nat):Int)),⟨hl,hq,hc,k+1,by omega,rfl⟩,by simp only[Int.toNat_natCast];omega,?_,fun kn kx=> ?_⟩
   ·simp only[bT.L0.add,bT.L0.F,Int.toNat_natCast,hd]
    rw[show((k+1:Nat):Int)+(sR (l.drop (k+1)) c.1:Int)=(k:Int)+((sR (l.drop (k+1)) c.1+1:Nat):Int) by omega]
   ·rw[bT.L0.step,aW (by omega),ae,bm (by omega) (by omega),ae,Int.toNat_natCast,n1,hb,aa,h,ae,N.j5 (by omega)]
  |false=>
   right
   rw[h,if_neg (by simp)]at hd
   intro T kn kx
   rw[bT.L0.step,aW (by omega),ae,bm (by omega) (by omega),ae,Int.toNat_natCast,n1,hb,aa,h,ag]
   simp only[bT.L0.add,bT.L0.F,Int.toNat_natCast,hd]
   rw[show(k:Int)+((0:Nat):Int)=k by omega]
 ·right
  obtain rfl:k=l.length:=by omega
  intro T kn kx
  rw[bT.L0.step,aO (by omega),ag]
  simp only[bT.L0.add,bT.L0.F,Int.toNat_natCast,List.drop_length]
  rw[show(l.length:Int)+((sR [] c.1:Nat):Int)=l.length by show(l.length:Int)+0=_;omega]
theorem bT.ok:bT.Ok:=by
 rintro⟨l,c⟩ ⟨hl,hq,hc⟩
 have hl:l.length≤1000000:=hl
 have hm:=Ej l c.1
 rw[bT.eq,bT.L0.run (d:=(l,c,0)) ⟨hl,hq,hc,0,Nat.zero_le _,rfl⟩]
 simp only[aa,bT.L0.add,bT.L0.F,Int.toNat_zero,List.drop_zero,bT.add,bT.F,Int.zero_add,Int.toNat_natCast,Nat.sub_zero,Nat.zero_add,List.take_zero,List.nil_append]
 rw[wE]
 generalize sR l c.1=m at hm ⊢
 have e1:cut l 0 m=l.take m:=by simp[cut]
 have e2:cut l m (l.length - m)=l.drop m:=by unfold cut;rw[List.take_of_length_le (by rw[List.length_drop];omega)]
 have l1:(l.take m).length=m:=by rw[List.length_take];omega
 have l2:(l.drop m).length=l.length - m:=List.length_drop
 have t1:List.take m (l.take m)=l.take m:=List.take_of_length_le (by omega)
 have l3:(l.take m++ [c]).length=m+1:=by rw[List.length_append,l1];rfl
 have t2:List.take (m+1) (l.take m++ [c])=l.take m++ [c]:=List.take_of_length_le (by omega)
 have l4:(l.take m++ [c]++l.drop m).length=m+1+(l.length - m):=by rw[List.length_append,l3,l2]
 simp only[e1,e2,l1,l2,t1,l3,t2,l4,Nat.le_refl,decide_true,ae,and_self]
 rw[jH (by omega) (by omega),ae,cS (by omega) (by omega),ae,cS (by omega) (by omega),ae,ae,cS (by omega) (by omega),ae,pQ l4]
 simp only[List.append_assoc,List.singleton_append]
noncomputable def bT.E:=Entry.cD [some (.slice eN),some eN] bT.st bT.av bT.add bT.F bT.out
noncomputable def bT.call:bT.D→Option bT.X:=bS bT.E bT.st
theorem bT.run:bM bT.call bT.av bT.add bT.F:=dq (df [.d (.slice eN),.d eN] fun _=>by kernel_rfl)
noncomputable def bT.sg:SG Tryz.prog:=⟨92,aR,bT.E,.fn 1 (by kernel_rfl) bT.ok (And.intro (.cD bT.L0.ok (by kernel_rfl)) trivial)⟩
abbrev bf.L0.D:=(List dM)×cK×Int
def bf.L0.st:bf.L0.D→AS:=fun(l_2,o_2,i)=>⟨([.d (.slice eN) l_2,.undef,.undef,.ej ck o_2,.undef,.d ti i]++bl 14 []),[],(List.replicate 20 [])⟩
abbrev bf.L0.Y0:=Int
abbrev bf.L0.X0:=Int
def bf.L0.bp:bf.L0.X0→Exit×AS:=fun x=>(.ret,⟨(bl 4 ([.d ti x]++bl 15 [])),[],(List.replicate 20 [])⟩)
abbrev bf.L0.Y1:=Unit
abbrev bf.L0.X1:=Unit
def bf.L0.fA:bf.L0.X1→Exit×AS:=fun x=>(.exit 0,⟨(bl 20 []),[],(List.replicate 20 [])⟩)
abbrev bf.L0.X:=(bf.L0.X0)⊕(bf.L0.X1)
abbrev bf.L0.Y:=(bf.L0.Y0)⊕(bf.L0.Y1)
def bf.L0.out:bf.L0.X→Out (Exit×AS):=fun x=> .br x.isLeft (.get x.getLeft? fun a=> .ok (bf.L0.bp a)) (.get x.getRight? fun b=> .ok (bf.L0.fA b))
def bf.L0.add:bf.L0.D→bf.L0.Y→bf.L0.X:=fun(l_2,o_2,i) y=>match y with | .inl y=> .inl y | .inr z=> .inr (z)
abbrev bf.D:=(List dM)×cK
def bf.st:bf.D→SA:=fun(l,o)=>([.d (.slice eN) l,.d ck o],[])
abbrev bf.Y:=Int
abbrev bf.X:=Int
def bf.out:bf.X→ba:=fun x=>⟨.d ti x,[],[]⟩
def bf.add:bf.D→bf.Y→bf.X:=fun(l,o) y=>y
def bf.L0.av:bf.L0.D→Prop:=fun(l,o,i)=>l.length≤1000000∧∃k:Nat,k≤l.length∧i=k
def bf.L0.F:bf.L0.D→bf.L0.Y:=fun(l,o,i)=>if j3 (l.drop i.toNat) o i < 0 then .inr () else .inl (j3 (l.drop i.toNat) o i)
def bf.av:bf.D→Prop:=fun(l,o)=>l.length≤1000000
def bf.F:bf.D→bf.Y:=fun(l,o)=>j3 l o 0
noncomputable def bf.G:ed:=fk (P:=Tryz.prog) []
noncomputable def bf.L0.E:=bU.cD bf.L0.st bf.L0.av bf.L0.add bf.L0.F bf.L0.out
noncomputable def bf.L0.call:bf.L0.D→Option bf.L0.X:=dw bf.L0.E bf.L0.st
noncomputable def bf.an:eQ:= {loops:=jB [(2,{bn:=[0,3,5]})],outs:=jA [(2,{},{bn:=[4]})],fC:=kf [(2,bf.L0.E)]}
noncomputable def bf.A:= @cY Tryz.prog bf.G bf.an 0 Tryz.f88 _ bf.st
abbrev bf.Ok:=dd @bf.A bf.av bf.add bf.F bf.out
noncomputable def bf.L0.R:= @cj Tryz.prog bf.G bf.an 0 Tryz.f88 0 _ bf.L0.st
abbrev bf.L0.Ok:=ew Tryz.prog bf.G bf.an 0 Tryz.f88 0 bf.L0.st bf.L0.av bf.L0.add bf.L0.F bf.L0.out
theorem bf.L0.run:bM bf.L0.call bf.L0.av bf.L0.add bf.L0.F:=eM (eL [.d (.slice eN),.d ck,.d ti] fun _=>by kernel_rfl)
theorem bf.L0.aB:kC @bf.L0.R bf.L0.st bf.L0.av bf.L0.add bf.L0.F bf.L0.out bf.L0.Ok:=kL
theorem bf.L0.step{R:Type}(l_2:(List dM))(o_2:cK)(i:Int)(kn:AS→Option R)(kx:Exit→AS→Option R):bf.L0.R (l_2,o_2,i) kn kx=
  aG ((fM i (((List.length l_2):Nat):Int))) (
   aG (eI i (((List.length l_2):Nat):Int)) (
   aG ((Ty.beq ck (nth eN l_2 (Int.toNat i)).1 o_2)) (
    kx (bf.L0.bp i).1 (bf.L0.bp i).2) (
    kn (bf.L0.st (l_2,o_2,(bN .i64 i (1:Int)))))) none) (
   kx (bf.L0.fA ()).1 (bf.L0.fA ()).2):=by kernel_rfl
theorem bf.eq{R:Type}(l:(List dM))(o:cK)(k:ba→Option R):bf.A (l,o) k=
  ah (bf.L0.call (l,o,(0:Int))) fun x1=>
  aG (x1.isLeft) (
   ah (x1.getLeft?) fun a2=>
   k (bf.out a2)) (
   ah (x1.getRight?) fun b3=>
   k (bf.out (-1:Int))):=by kernel_rfl
theorem bf.L0.ok:bf.L0.Ok:=by
 refine bf.L0.aB (fun(l,_,i)=>l.length - i.toNat) ?_
 rintro⟨l,o,i⟩ ⟨hl,k,hk,rfl⟩
 have hl:l.length≤1000000:=hl
 have hk:k≤l.length:=hk
 by_cases hlt:k < l.length
 ·have n1:nth eN l k=l[k]:=cn (t:=eN) hlt
  have hd:j3 (l.drop k) o k=if Ty.beq ck l[k].1 o=true then(k:Int) else j3 (l.drop (k+1)) o ((k+1:Nat):Int):=by
   rw[List.drop_eq_getElem_cons hlt,j3]
   rfl
  cases h:Ty.beq ck l[k].1 o with
  |true=>
   right
   rw[h,if_pos rfl]at hd
   refine⟨bf.L0.bp (k:Int),?_,fun kn kx=> ?_⟩
   ·simp only[bf.L0.add,bf.L0.F,Int.toNat_natCast,hd]
    simp only[show ¬(k:Int) < 0 by omega,if_false]
    rfl
   ·rw[bf.L0.step,aW (by omega),ae,bm (by omega) (by omega),ae,Int.toNat_natCast,n1,h,ae]
  |false=>
   left
   rw[h,if_neg (by simp)]at hd
   refine⟨(l,o,((k+1:Nat):Int)),⟨hl,k+1,by omega,rfl⟩,by simp only[Int.toNat_natCast];omega,?_,fun kn kx=> ?_⟩
   ·simp only[bf.L0.add,bf.L0.F,Int.toNat_natCast,hd]
   ·rw[bf.L0.step,aW (by omega),ae,bm (by omega) (by omega),ae,Int.toNat_natCast,n1,h,ag,N.j5 (by omega)]
 ·right
  obtain rfl:k=l.length:=by omega
  refine⟨bf.L0.fA (),?_,fun kn kx=> ?_⟩
  ·simp only[bf.L0.add,bf.L0.F,Int.toNat_natCast,List.drop_length]
   rfl
  ·rw[bf.L0.step,aO (by omega),ag]
theorem bf.ok:bf.Ok:=by
 rintro⟨l,o⟩ hl
 rw[bf.eq,bf.L0.run (d:=(l,o,0)) ⟨hl,0,Nat.zero_le _,rfl⟩]
 simp only[aa,bf.L0.add,bf.L0.F,Int.toNat_zero,List.drop_zero,bf.add,bf.F]
 rcases An (l:=l) (o:=o) (Int.le_refl 0) with h | ⟨h,_⟩
 ·simp only[h]
  rfl
 ·simp only[show ¬j3 l o 0 < 0 by omega,if_false]
  rfl
noncomputable def bf.E:=Entry.cD [some (.slice eN),some ck] bf.st bf.av bf.add bf.F bf.out
noncomputable def bf.call:bf.D→Option bf.X:=bS bf.E bf.st
theorem bf.run:bM bf.call bf.av bf.add bf.F:=dq (df [.d (.slice eN),.d ck] fun _=>by kernel_rfl)
noncomputable def bf.sg:SG Tryz.prog:=⟨88,aR,bf.E,.fn 1 (by kernel_rfl) bf.ok (And.intro (.cD bf.L0.ok (by kernel_rfl)) trivial)⟩
theorem pj{l:List dM}(hl:l.length≤1000000)(o:cK):(bf.call (l,o)=some (-1)∧cz ck o (ij l)=none)∨
  ∃(k:Nat) (h:k < l.length),bf.call (l,o)=some (k:Int)∧cz ck o (ij l)=some l[k].2.1∧lJ l o=l.take k++l.drop (k+1)∧nth eN l k=l[k]:=by
 have hr:bf.call (l,o)=some (j3 l o 0):=bf.run (d:=(l,o)) hl
 rw[hr]
 rcases qf l o 0 (Int.le_refl 0) with⟨h1,h2,_⟩ | ⟨k,hk,h1,h2,h3,_⟩
 ·exact .inl ⟨by rw[h1],h2⟩
 ·exact .inr ⟨k,hk,by rw[h1,Int.zero_add],h2,h3,cn (t:=eN) hk⟩
abbrev fS.D:=cK×(List dM)×Nat×(List (List dM))
def fS.st:fS.D→SA:=fun(o,o0a,o0baL,o1)=>([.ptr (.dx 0) 0 [] 0,.d ck o],[.obj 0 false (.pr (.d (.slice eN) o0a) (.pr (.bH (.dx 1) 0 [] 0 0 o0baL) (.d .unit ()))),.obj 0 false (.vec 164 (.slice eN) o1)])
abbrev fS.Y:=fa×Bool
abbrev fS.X:=((List dM)×Nat×(List (List dM)))×(fa×Bool)
def fS.out:fS.X→ba:=fun x=>⟨.cons (.d gl x.2.1) (.cons (.d .bool x.2.2) (.nil)),[.obj 0 false (.pr (.d (.slice eN) x.1.1) (.pr (.bH (.dx 1) 0 [] 0 0 x.1.2.1) (.d .unit ()))),.obj 0 false (.vec 164 (.slice eN) x.1.2.2)],[]⟩
def fS.add:fS.D→fS.Y→fS.X:=fun(o,o0a,o0baL,o1) y=>((o0a,o0baL,o1),y)
def fS.av:fS.D→Prop:=fun(o,l,n,w)=>l.length≤1000000
def fS.F:fS.D→fS.Y:=fun(o,l,n,w)=>((cz ck o (ij l)).getD uY,(cz ck o (ij l)).isSome)
noncomputable def fS.G:ed:=fk (P:=Tryz.prog) [bf.sg]
noncomputable def fS.an:eQ:= {res:=[some gl,none]}
noncomputable def fS.A:= @cY Tryz.prog fS.G fS.an 0 Tryz.f95 _ fS.st
abbrev fS.Ok:=dd @fS.A fS.av fS.add fS.F fS.out
theorem fS.eq{R:Type}(o:cK)(o0a:(List dM))(o0baL:Nat)(o1:(List (List dM)))(k:ba→Option R):fS.A (o,o0a,o0baL,o1) k=
  ah (bf.call (o0a,o)) fun x1=>
  aG ((fM x1 (0:Int))) (
   k (fS.out ((o0a,o0baL,o1),((((0:Int),((([]:List ik),()),())),((0:Int),())),false)))) (
   aG (eI x1 (((List.length o0a):Nat):Int)) (
   k (fS.out ((o0a,o0baL,o1),((nth eN o0a (Int.toNat x1)).2.1,true)))) none):=by kernel_rfl
theorem fS.ok:fS.Ok:=by
 rintro⟨o,l,n,w⟩ hl
 rw[fS.eq]
 simp only[fS.add,fS.F]
 rcases pj hl o with⟨h1,h2⟩ | ⟨k,hk,h1,h2,_,h4⟩
 ·rw[h1,aa,aW (by decide),ae,h2]
  rfl
 ·rw[h1,aa,aO (by omega),ag,bm (by omega) (by omega),ae,h2,Int.toNat_natCast,h4]
  rfl
noncomputable def fS.E:=Entry.cD [none,some ck] fS.st fS.av fS.add fS.F fS.out
noncomputable def fS.call:fS.D→Option fS.X:=bS fS.E fS.st
theorem fS.run:bM fS.call fS.av fS.add fS.F:=dq (df [.d ck,.d (.slice eN),.n,.d (.slice (.slice eN))] fun _=>by kernel_rfl)
noncomputable def fS.sg:SG Tryz.prog:=⟨95,aR,fS.E,.fn 0 (by kernel_rfl) fS.ok trivial⟩
abbrev dn.L0.D:=Nat×Int×(List dM)×Nat×(List (List dM))×(List cK)
def dn.L0.st:dn.L0.D→AS:=fun(outL,i,o0,o0L,o1_2,n24)=>⟨([.ptr (.dx 0) 0 [] 0,.undef,.undef,.bH (.new 24 0) 0 [] 0 0 outL,.d ti i]++bl 21 []),[.obj 0 false (.pr (.d (.slice eN) o0) (.pr (.bH (.dx 1) 0 [] 0 0 o0L) (.d .unit ()))),.obj 0 false (.vec 164 (.slice eN) o1_2)],(ch 24 [[.obj 0 false (.vec 47 ck n24)],[]])⟩
abbrev dn.L0.Y0:=Nat×(List cK)
abbrev dn.L0.X0:=((List dM)×Nat×(List (List dM)))×(Nat×(List cK))
def dn.L0.bp:dn.L0.X0→Exit×AS:=fun x=>(.exit 0,⟨([.undef,.undef,.undef,.bH (.new 24 0) 0 [] 0 0 x.2.1]++bl 22 []),[.obj 0 false (.pr (.d (.slice eN) x.1.1) (.pr (.bH (.dx 1) 0 [] 0 0 x.1.2.1) (.d .unit ()))),.obj 0 false (.vec 164 (.slice eN) x.1.2.2)],(ch 24 [[.obj 0 false (.vec 47 ck x.2.2)],[]])⟩)
abbrev dn.L0.X:=dn.L0.X0
abbrev dn.L0.Y:=dn.L0.Y0
def dn.L0.out:dn.L0.X→Out (Exit×AS):=fun x=> .ok (dn.L0.bp x)
def dn.L0.add:dn.L0.D→dn.L0.Y→dn.L0.X:=fun(outL,i,o0,o0L,o1_2,n24) y=>((o0,o0L,o1_2),y)
abbrev dn.D:=(List dM)×Nat×(List (List dM))
def dn.st:dn.D→SA:=fun(o0a,o0baL,o1)=>([.ptr (.dx 0) 0 [] 0],[.obj 0 false (.pr (.d (.slice eN) o0a) (.pr (.bH (.dx 1) 0 [] 0 0 o0baL) (.d .unit ()))),.obj 0 false (.vec 164 (.slice eN) o1)])
abbrev dn.Y:=(List cK)×(List dM)×Nat×(List (List dM))
abbrev dn.X:=(List cK)×(List dM)×Nat×(List (List dM))
def dn.out:dn.X→ba:=fun x=>⟨.d (.slice ck) x.1,[.obj 0 false (.pr (.d (.slice eN) x.2.1) (.pr (.bH (.dx 1) 0 [] 0 0 x.2.2.1) (.d .unit ()))),.obj 0 false (.vec 164 (.slice eN) x.2.2.2)],[]⟩
def dn.add:dn.D→dn.Y→dn.X:=fun(o0a,o0baL,o1) y=>y
def dn.L0.av:dn.L0.D→Prop:=fun(n,i,l,_,_,r)=>l.length≤1000000∧n=r.length∧∃k:Nat,k≤l.length∧i=k∧r.length=k
def dn.L0.F:dn.L0.D→dn.L0.Y:=fun(n,i,l,_,_,r)=>((r++(l.drop i.toNat).map (·.1)).length,r++(l.drop i.toNat).map (·.1))
def dn.av:dn.D→Prop:=fun(l,_,_)=>l.length≤1000000
def dn.F:dn.D→dn.Y:=fun(l,n,w)=>(l.map (·.1),l,n,w)
noncomputable def dn.G:ed:=fk (P:=Tryz.prog) []
noncomputable def dn.L0.E:=bU.cD dn.L0.st dn.L0.av dn.L0.add dn.L0.F dn.L0.out
noncomputable def dn.L0.call:dn.L0.D→Option dn.L0.X:=dw dn.L0.E dn.L0.st
noncomputable def dn.an:eQ:= {loops:=jB [(3,{bn:=[0,3,4],sites:=[24],iE:=[⟨3,[],24,58⟩]})],outs:=jA [(3,{bn:=[3],sites:=[24]},{bn:=[2]})],fC:=kf [(3,dn.L0.E)],res:=[some (.slice ck)]}
noncomputable def dn.A:= @cY Tryz.prog dn.G dn.an 0 Tryz.f93 _ dn.st
abbrev dn.Ok:=dd @dn.A dn.av dn.add dn.F dn.out
noncomputable def dn.L0.R:= @cj Tryz.prog dn.G dn.an 0 Tryz.f93 0 _ dn.L0.st
abbrev dn.L0.Ok:=ew Tryz.prog dn.G dn.an 0 Tryz.f93 0 dn.L0.st dn.L0.av dn.L0.add dn.L0.F dn.L0.out
theorem dn.L0.run:bM dn.L0.call dn.L0.av dn.L0.add dn.L0.F:=eM (eL [.n,.d ti,.d (.slice eN),.n,.d (.slice (.slice eN)),.d (.slice ck)] fun _=>by kernel_rfl)
theorem dn.L0.aB:fQ @dn.L0.R dn.L0.st dn.L0.av dn.L0.add dn.L0.F dn.L0.bp dn.L0.Ok:=fU
theorem dn.L0.step{R:Type}(outL:Nat)(i:Int)(o0:(List dM))(o0L:Nat)(o1_2:(List (List dM)))(n24:(List cK))(kn:AS→Option R)(kx:Exit→AS→Option R):dn.L0.R (outL,i,o0,o0L,o1_2,n24) kn kx=
  aG ((fM i (((List.length o0):Nat):Int))) (
   aG (eI i (((List.length o0):Nat):Int)) (
   aG (decide (outL≤(List.length n24))) (
   aG (db (outL+1) 40) (
   kn (dn.L0.st ((outL+1),(bN .i64 i (1:Int)),o0,o0L,o1_2,((List.take outL n24)++ [(nth eN o0 (Int.toNat i)).1])))) none) none) none) (
   kx (dn.L0.bp ((o0,o0L,o1_2),(outL,n24))).1 (dn.L0.bp ((o0,o0L,o1_2),(outL,n24))).2):=by kernel_rfl
theorem dn.eq{R:Type}(o0a:(List dM))(o0baL:Nat)(o1:(List (List dM)))(k:ba→Option R):dn.A (o0a,o0baL,o1) k=
 ah (dn.L0.call (0,(0:Int),o0a,o0baL,o1,([]:List cK))) fun x1=>
 aG (decide (0=0∧(0+x1.2.1)≤(List.length x1.2.2))) (
 k (dn.out ((cut x1.2.2 0 x1.2.1),x1.1.1,x1.1.2.1,x1.1.2.2))) none:=by kernel_rfl
theorem dn.L0.ok:dn.L0.Ok:=by
 refine dn.L0.aB (fun(_,i,l,_,_,_)=>l.length - i.toNat) ?_
 rintro⟨n,i,l,n2,w,r⟩ ⟨hl,rfl,k,hk,rfl,hr⟩
 have hl:l.length≤1000000:=hl
 have hk:k≤l.length:=hk
 have hr:r.length=k:=hr
 by_cases hlt:k < l.length
 ·left
  have n1:nth eN l k=l[k]:=cn (t:=eN) hlt
  have el:(r++ [l[k].1]).length=r.length+1:=by rw[List.length_append];rfl
  refine⟨(r.length+1,((k+1:Nat):Int),l,n2,w,r++ [l[k].1]),⟨hl,el.symm,k+1,by omega,rfl,by show(r++ [l[k].1]).length=_;omega⟩,by simp only[Int.toNat_natCast];omega,?_,fun kn kx=> ?_⟩
  ·simp only[dn.L0.add,dn.L0.F,Int.toNat_natCast]
   rw[List.drop_eq_getElem_cons hlt,List.map_cons,List.append_assoc,List.singleton_append]
  ·rw[dn.L0.step,aW (by omega),ae,bm (by omega) (by omega),ae,aZ (Nat.le_refl _),ae,cS (by omega) (by omega),ae,N.j5 (by omega),Int.toNat_natCast,n1,List.take_length]
 ·right
  obtain rfl:k=l.length:=by omega
  intro T kn kx
  rw[dn.L0.step,aO (by omega),ag]
  simp only[dn.L0.add,dn.L0.F,Int.toNat_natCast,List.drop_length,List.map_nil,List.append_nil]
theorem dn.ok:dn.Ok:=by
 rintro⟨l,n,w⟩ hl
 rw[dn.eq,dn.L0.run (d:=(0,0,l,n,w,[])) ⟨hl,rfl,0,Nat.zero_le _,rfl,rfl⟩]
 simp only[aa,dn.L0.add,dn.L0.F,Int.toNat_zero,List.drop_zero,List.nil_append,Nat.zero_add,Nat.le_refl,and_self,decide_true,ae,fb,dn.add,dn.F]
noncomputable def dn.E:=Entry.cD [none] dn.st dn.av dn.add dn.F dn.out
noncomputable def dn.call:dn.D→Option dn.X:=bS dn.E dn.st
theorem dn.run:bM dn.call dn.av dn.add dn.F:=dq (df [.d (.slice eN),.n,.d (.slice (.slice eN))] fun _=>by kernel_rfl)
noncomputable def dn.sg:SG Tryz.prog:=⟨93,aR,dn.E,.fn 1 (by kernel_rfl) dn.ok (And.intro (.cD dn.L0.ok (by kernel_rfl)) trivial)⟩
abbrev dp.L0.D:=Int×Int×(List dM)×Nat×(List (List dM))
def dp.L0.st:dp.L0.D→AS:=fun(sum,i,o0,o0L,o1_2)=>⟨([.ptr (.dx 0) 0 [] 0,.undef,.undef,.d ti sum,.d ti i]++bl 22 []),[.obj 0 false (.pr (.d (.slice eN) o0) (.pr (.bH (.dx 1) 0 [] 0 0 o0L) (.d .unit ()))),.obj 0 false (.vec 164 (.slice eN) o1_2)],(List.replicate 27 [])⟩
abbrev dp.L0.Y0:=Int
abbrev dp.L0.X0:=((List dM)×Nat×(List (List dM)))×(Int)
def dp.L0.bp:dp.L0.X0→Exit×AS:=fun x=>(.exit 0,⟨([.undef,.undef,.undef,.d ti x.2]++bl 23 []),[.obj 0 false (.pr (.d (.slice eN) x.1.1) (.pr (.bH (.dx 1) 0 [] 0 0 x.1.2.1) (.d .unit ()))),.obj 0 false (.vec 164 (.slice eN) x.1.2.2)],(List.replicate 27 [])⟩)
abbrev dp.L0.X:=dp.L0.X0
abbrev dp.L0.Y:=dp.L0.Y0
def dp.L0.out:dp.L0.X→Out (Exit×AS):=fun x=> .ok (dp.L0.bp x)
def dp.L0.add:dp.L0.D→dp.L0.Y→dp.L0.X:=fun(sum,i,o0,o0L,o1_2) y=>((o0,o0L,o1_2),y)
abbrev dp.D:=(List dM)×Nat×(List (List dM))
def dp.st:dp.D→SA:=fun(o0a,o0baL,o1)=>([.ptr (.dx 0) 0 [] 0],[.obj 0 false (.pr (.d (.slice eN) o0a) (.pr (.bH (.dx 1) 0 [] 0 0 o0baL) (.d .unit ()))),.obj 0 false (.vec 164 (.slice eN) o1)])
abbrev dp.Y:=Int×(List dM)×Nat×(List (List dM))
abbrev dp.X:=Int×(List dM)×Nat×(List (List dM))
def dp.out:dp.X→ba:=fun x=>⟨.d ti x.1,[.obj 0 false (.pr (.d (.slice eN) x.2.1) (.pr (.bH (.dx 1) 0 [] 0 0 x.2.2.1) (.d .unit ()))),.obj 0 false (.vec 164 (.slice eN) x.2.2.2)],[]⟩
def dp.add:dp.D→dp.Y→dp.X:=fun(o0a,o0baL,o1) y=>y
def dp.L0.av:dp.L0.D→Prop:=fun(sum,i,l,_,_)=>l.length≤1000000∧(∀p∈ij l,0≤p.2.1.1)∧0≤sum∧∃k:Nat,k≤l.length∧i=k∧sum+gw (ij (l.drop k))≤1000000000000000000
def dp.L0.F:dp.L0.D→dp.L0.Y:=fun(sum,i,l,_,_)=>sum+gw (ij (l.drop i.toNat))
def dp.av:dp.D→Prop:=fun(l,_,_)=>l.length≤1000000∧(∀p∈ij l,0≤p.2.1.1)∧gw (ij l)≤1000000000000000000
def dp.F:dp.D→dp.Y:=fun(l,n,w)=>(gw (ij l),l,n,w)
noncomputable def dp.G:ed:=fk (P:=Tryz.prog) []
noncomputable def dp.L0.E:=bU.cD dp.L0.st dp.L0.av dp.L0.add dp.L0.F dp.L0.out
noncomputable def dp.L0.call:dp.L0.D→Option dp.L0.X:=dw dp.L0.E dp.L0.st
noncomputable def dp.an:eQ:= {loops:=jB [(3,{bn:=[0,3,4]})],outs:=jA [(3,{bn:=[3]},{bn:=[2]})],fC:=kf [(3,dp.L0.E)]}
noncomputable def dp.A:= @cY Tryz.prog dp.G dp.an 0 Tryz.f94 _ dp.st
abbrev dp.Ok:=dd @dp.A dp.av dp.add dp.F dp.out
noncomputable def dp.L0.R:= @cj Tryz.prog dp.G dp.an 0 Tryz.f94 0 _ dp.L0.st
abbrev dp.L0.Ok:=ew Tryz.prog dp.G dp.an 0 Tryz.f94 0 dp.L0.st dp.L0.av dp.L0.add dp.L0.F dp.L0.out
theorem dp.L0.run:bM dp.L0.call dp.L0.av dp.L0.add dp.L0.F:=eM (eL [.d ti,.d ti,.d (.slice eN),.n,.d (.slice (.slice eN))] fun _=>by kernel_rfl)
theorem dp.L0.aB:fQ @dp.L0.R dp.L0.st dp.L0.av dp.L0.add dp.L0.F dp.L0.bp dp.L0.Ok:=fU
theorem dp.L0.step{R:Type}(sum:Int)(i:Int)(o0:(List dM))(o0L:Nat)(o1_2:(List (List dM)))(kn:AS→Option R)(kx:Exit→AS→Option R):dp.L0.R (sum,i,o0,o0L,o1_2) kn kx=
  aG ((fM i (((List.length o0):Nat):Int))) (
   aG (eI i (((List.length o0):Nat):Int)) (
   kn (dp.L0.st ((bN .i64 sum (nth eN o0 (Int.toNat i)).2.1.1.1),(bN .i64 i (1:Int)),o0,o0L,o1_2))) none) (
   kx (dp.L0.bp ((o0,o0L,o1_2),sum)).1 (dp.L0.bp ((o0,o0L,o1_2),sum)).2):=by kernel_rfl
theorem dp.eq{R:Type}(o0a:(List dM))(o0baL:Nat)(o1:(List (List dM)))(k:ba→Option R):dp.A (o0a,o0baL,o1) k=
 ah (dp.L0.call ((0:Int),(0:Int),o0a,o0baL,o1)) fun x1=>
 k (dp.out (x1.2,x1.1.1,x1.1.2.1,x1.1.2.2)):=by kernel_rfl
theorem dp.L0.ok:dp.L0.Ok:=by
 refine dp.L0.aB (fun(_,i,l,_,_)=>l.length - i.toNat) ?_
 rintro⟨sum,i,l,n,w⟩ ⟨hl,hp,h0,k,hk,rfl,hs⟩
 have hl:l.length≤1000000:=hl
 have hk:k≤l.length:=hk
 have h0:0≤sum:=h0
 by_cases hlt:k < l.length
 ·left
  have n1:nth eN l k=l[k]:=cn (t:=eN) hlt
  have hd:gw (ij (l.drop k))=l[k].2.1.1.1+gw (ij (l.drop (k+1))):=by
   rw[List.drop_eq_getElem_cons hlt]
   show gw ((l[k].1,l[k].2.1)::ij (l.drop (k+1)))=_
   rw[gX]
  have hx:0≤l[k].2.1.1.1:=hp (l[k].1,l[k].2.1) (List.mem_map.2 ⟨l[k],List.getElem_mem hlt,rfl⟩)
  have hr:0≤gw (ij (l.drop (k+1))):=xO fun p hm=>by
   obtain⟨e,he,rfl⟩:=List.mem_map.1 hm
   exact hp (e.1,e.2.1) (List.mem_map.2 ⟨e,List.mem_of_mem_drop he,rfl⟩)
  rw[hd]at hs
  refine⟨(sum+l[k].2.1.1.1,((k+1:Nat):Int),l,n,w),⟨hl,hp,by show 0≤sum+l[k].2.1.1.1;omega,k+1,by omega,rfl,by omega⟩,by simp only[Int.toNat_natCast];omega,?_,fun kn kx=> ?_⟩
  ·simp only[dp.L0.add,dp.L0.F,Int.toNat_natCast,hd,Int.add_assoc]
  ·rw[dp.L0.step,aW (by omega),ae,bm (by omega) (by omega),ae,Int.toNat_natCast,n1,gF (by omega) (by omega),N.j5 (by omega)]
 ·right
  obtain rfl:k=l.length:=by omega
  intro T kn kx
  rw[dp.L0.step,aO (by omega),ag]
  simp only[dp.L0.add,dp.L0.F,Int.toNat_natCast,List.drop_length]
  rw[show sum+gw (ij [])=sum by show sum+0=_;omega]
theorem dp.ok:dp.Ok:=by
 rintro⟨l,n,w⟩ ⟨hl,hp,hs⟩
 have hs:gw (ij l)≤1000000000000000000:=hs
 rw[dp.eq,dp.L0.run (d:=(0,0,l,n,w)) ⟨hl,hp,Int.le_refl 0,0,Nat.zero_le _,rfl,by rw[List.drop_zero];omega⟩]
 simp only[aa,dp.L0.add,dp.L0.F,Int.toNat_zero,List.drop_zero,Int.zero_add,dp.add,dp.F]
noncomputable def dp.E:=Entry.cD [none] dp.st dp.av dp.add dp.F dp.out
noncomputable def dp.call:dp.D→Option dp.X:=bS dp.E dp.st
theorem dp.run:bM dp.call dp.av dp.add dp.F:=dq (df [.d (.slice eN),.n,.d (.slice (.slice eN))] fun _=>by kernel_rfl)
noncomputable def dp.sg:SG Tryz.prog:=⟨94,aR,dp.E,.fn 1 (by kernel_rfl) dp.ok (And.intro (.cD dp.L0.ok (by kernel_rfl)) trivial)⟩
abbrev fW.D:=(List dM)×Nat×(List (List dM))
def fW.st:fW.D→SA:=fun(o0a,o0baL,o1)=>([.ptr (.dx 0) 0 [] 0],[.obj 0 false (.pr (.d (.slice eN) o0a) (.pr (.bH (.dx 1) 0 [] 0 0 o0baL) (.d .unit ()))),.obj 0 false (.vec 164 (.slice eN) o1)])
abbrev fW.Y:=Bool×(List dM)×Nat
abbrev fW.X:=((List (List dM)))×(Bool×(List dM)×Nat)
def fW.out:fW.X→ba:=fun x=>⟨.d .bool x.2.1,[.obj 0 false (.pr (.d (.slice eN) x.2.2.1) (.pr (.bH (.dx 1) 0 [] 0 0 x.2.2.2) (.d .unit ()))),.obj 0 false (.vec 164 (.slice eN) x.1)],[]⟩
def fW.add:fW.D→fW.Y→fW.X:=fun(o0a,o0baL,o1) y=>(o1,y)
def fW.av:fW.D→Prop:=fun(l,n,w)=>n≤w.length∧w.length≤1000000
def fW.F:fW.D→fW.Y:=fun(l,n,w)=>if n=0 then(false,l,n) else(true,nth (.slice eN) w (n - 1),n - 1)
noncomputable def fW.G:ed:=fk (P:=Tryz.prog) []
noncomputable def fW.an:eQ:= {}
noncomputable def fW.A:= @cY Tryz.prog fW.G fW.an 0 Tryz.f38 _ fW.st
abbrev fW.Ok:=dd @fW.A fW.av fW.add fW.F fW.out
theorem fW.eq{R:Type}(o0a:(List dM))(o0baL:Nat)(o1:(List (List dM)))(k:ba→Option R):fW.A (o0a,o0baL,o1) k=
  aG ((fM (da .i64 ((o0baL:Nat):Int) (1:Int)) (0:Int))) (
   k (fW.out (o1,(false,o0a,o0baL)))) (
   aG (eI (da .i64 ((o0baL:Nat):Int) (1:Int)) ((o0baL:Nat):Int)) (
   aG (decide ((0+(Int.toNat (da .i64 ((o0baL:Nat):Int) (1:Int)))) < (List.length o1))) (
   aG (decide ((((0+(Int.toNat (da .i64 ((o0baL:Nat):Int) (1:Int))))*1)+0)=(0+((Int.toNat (da .i64 ((o0baL:Nat):Int) (1:Int)))*1)))) (
   aG (inc (da .i64 ((o0baL:Nat):Int) (1:Int)) ((o0baL:Nat):Int)) (
   k (fW.out (o1,(true,(nth (.slice eN) o1 (0+(Int.toNat (da .i64 ((o0baL:Nat):Int) (1:Int))))),((Int.toNat (da .i64 ((o0baL:Nat):Int) (1:Int))) - 0))))) none) none) none) none):=by kernel_rfl
theorem fW.ok:fW.Ok:=by
 rintro⟨l,n,w⟩ ⟨hn,hw⟩
 have hn:n≤w.length:=hn
 have hw:w.length≤1000000:=hw
 rw[fW.eq,eS (by omega) (by omega)]
 simp only[fW.add,fW.F]
 cases n with
 |zero=>rw[aW (by omega),ae];rfl
 |succ n=>
  have e:(((n+1:Nat):Int) - 1).toNat=n:=by omega
  rw[aO (by omega),ag,bm (by omega) (by omega),ae,jH (by omega) (by omega)]
  simp only[e,Nat.zero_add,Nat.add_zero,decide_true,ae,Nat.sub_zero,Nat.add_sub_cancel,Nat.add_one_ne_zero,if_false]
  rw[aZ (show n < w.length by omega),ae]
noncomputable def fW.E:=Entry.cD [none] fW.st fW.av fW.add fW.F fW.out
noncomputable def fW.call:fW.D→Option fW.X:=bS fW.E fW.st
theorem fW.run:bM fW.call fW.av fW.add fW.F:=dq (df [.d (.slice eN),.n,.d (.slice (.slice eN))] fun _=>by kernel_rfl)
noncomputable def fW.sg:SG Tryz.prog:=⟨38,aR,fW.E,.fn 0 (by kernel_rfl) fW.ok trivial⟩
end Go.Ab
namespace Go.Ab
open Go.Proofs
set_option maxRecDepth 100000
set_option linter.unusedVariables false
set_option linter.unusedSimpArgs false
set_option synthInstance.maxSize 5000
abbrev aM.L0.D:=fa×fa×Int
def aM.L0.st:aM.L0.D→AS:=fun(a_2,b_2,i)=>⟨([.undef,.undef,.ej gl a_2,.ej gl b_2,.undef,.d ti i]++bl 99 []),[],(List.replicate 105 [])⟩
abbrev aM.L0.Y0:=Unit
abbrev aM.L0.X0:=Unit
def aM.L0.bp:aM.L0.X0→Exit×AS:=fun x=>(.ret,⟨(bl 4 ([.d .bool false]++bl 100 [])),[],(List.replicate 105 [])⟩)
abbrev aM.L0.Y1:=Unit
abbrev aM.L0.X1:=Unit
def aM.L0.fA:aM.L0.X1→Exit×AS:=fun x=>(.exit 0,⟨(bl 105 []),[],(List.replicate 105 [])⟩)
abbrev aM.L0.X:=(aM.L0.X0)⊕(aM.L0.X1)
abbrev aM.L0.Y:=(aM.L0.Y0)⊕(aM.L0.Y1)
def aM.L0.out:aM.L0.X→Out (Exit×AS):=fun x=> .br x.isLeft (.get x.getLeft? fun a=> .ok (aM.L0.bp a)) (.get x.getRight? fun b=> .ok (aM.L0.fA b))
def aM.L0.add:aM.L0.D→aM.L0.Y→aM.L0.X:=fun(a_2,b_2,i) y=>match y with | .inl y=> .inl y | .inr z=> .inr (z)
abbrev aM.L1.D:=fa×fa×Int×Int×ik×ik
def aM.L1.st:aM.L1.D→AS:=fun(a_3,b_3,i_2,kv,n6,n7)=>⟨([.undef,.undef,.ej gl a_3,.ej gl b_3,.undef,.d ti i_2,.ptr (.new 6 0) 0 [] 0,.ptr (.new 7 0) 0 [] 0,.d ti kv]++bl 96 []),[],(ch 6 ([[.obj 0 false (.d fX n6)],[.obj 0 false (.d fX n7)]]++ch 97 []))⟩
abbrev aM.L1.Y0:=Unit
abbrev aM.L1.X0:=Unit
def aM.L1.bp:aM.L1.X0→Exit×AS:=fun x=>(.ret,⟨(bl 4 ([.d .bool false]++bl 100 [])),[],(List.replicate 105 [])⟩)
abbrev aM.L1.Y1:=Unit
abbrev aM.L1.X1:=fa×fa×Int
def aM.L1.fA:aM.L1.X1→Exit×AS:=fun x=>(.exit 2,⟨([.undef,.undef,.ej gl x.1,.ej gl x.2.1,.undef,.d ti x.2.2]++bl 99 []),[],(List.replicate 105 [])⟩)
abbrev aM.L1.X:=(aM.L1.X0)⊕(aM.L1.X1)
abbrev aM.L1.Y:=(aM.L1.Y0)⊕(aM.L1.Y1)
def aM.L1.out:aM.L1.X→Out (Exit×AS):=fun x=> .br x.isLeft (.get x.getLeft? fun a=> .ok (aM.L1.bp a)) (.get x.getRight? fun b=> .ok (aM.L1.fA b))
def aM.L1.add:aM.L1.D→aM.L1.Y→aM.L1.X:=fun(a_3,b_3,i_2,kv,n6,n7) y=>match y with | .inl y=> .inl y | .inr z=> .inr ((a_3,b_3,i_2))
abbrev aM.D:=fa×fa
def aM.st:aM.D→SA:=fun(a,b)=>([.d gl a,.d gl b],[])
abbrev aM.Y:=Bool
abbrev aM.X:=Bool
def aM.out:aM.X→ba:=fun x=>⟨.d .bool x,[],[]⟩
def aM.add:aM.D→aM.Y→aM.X:=fun(a,b) y=>y
def aM.L1.av:aM.L1.D→Prop:=fun(a,b,j,i,x,y)=>x.1.length≤1000000000∧x.1.length=y.1.length∧∃k:Nat,k≤x.1.length∧i=k
def aM.L1.F:aM.L1.D→aM.L1.Y:=fun(a,b,j,i,x,y)=>if List.drop (Int.toNat i) x.1=List.drop (Int.toNat i) y.1 then .inr () else .inl ()
def aM.L0.av:aM.L0.D→Prop:=fun(a,b,i)=>a.1.2.1.1.length≤1000000000∧a.1.2.1.1.length=b.1.2.1.1.length∧(∀x∈a.1.2.1.1,x.1.length≤1000000000)∧∃k:Nat,k≤a.1.2.1.1.length∧i=k
def aM.L0.F:aM.L0.D→aM.L0.Y:=fun(a,b,i)=>if List.drop (Int.toNat i) a.1.2.1.1=List.drop (Int.toNat i) b.1.2.1.1 then .inr () else .inl ()
def aM.av:aM.D→Prop:=fun(a,b)=>a.1.2.1.1.length≤1000000000∧∀x∈a.1.2.1.1,x.1.length≤1000000000
def aM.F:aM.D→aM.Y:=fun(a,b)=>decide (a=b)
noncomputable def aM.G:ed:=fk (P:=Tryz.prog) []
noncomputable def aM.L0.E:=bU.cD aM.L0.st aM.L0.av aM.L0.add aM.L0.F aM.L0.out
noncomputable def aM.L0.call:aM.L0.D→Option aM.L0.X:=dw aM.L0.E aM.L0.st
noncomputable def aM.L1.E:=bU.cD aM.L1.st aM.L1.av aM.L1.add aM.L1.F aM.L1.out
noncomputable def aM.L1.call:aM.L1.D→Option aM.L1.X:=dw aM.L1.E aM.L1.st
noncomputable def aM.an:eQ:= {loops:=jB [(4,{bn:=[2,3,5]}),(11,{bn:=[2,3,5,6,7,8],sites:=[6,7]})],outs:=jA [(4,{},{bn:=[4]}),(11,{bn:=[2,3,5]},{bn:=[4]})],fC:=kf [(4,aM.L0.E),(11,aM.L1.E)]}
noncomputable def aM.A:= @cY Tryz.prog aM.G aM.an 0 Tryz.f96 _ aM.st
abbrev aM.Ok:=dd @aM.A aM.av aM.add aM.F aM.out
noncomputable def aM.L0.R:= @cj Tryz.prog aM.G aM.an 0 Tryz.f96 0 _ aM.L0.st
abbrev aM.L0.Ok:=ew Tryz.prog aM.G aM.an 0 Tryz.f96 0 aM.L0.st aM.L0.av aM.L0.add aM.L0.F aM.L0.out
noncomputable def aM.L1.R:= @cj Tryz.prog aM.G aM.an 0 Tryz.f96 1 _ aM.L1.st
abbrev aM.L1.Ok:=ew Tryz.prog aM.G aM.an 0 Tryz.f96 1 aM.L1.st aM.L1.av aM.L1.add aM.L1.F aM.L1.out
theorem aM.L0.run:bM aM.L0.call aM.L0.av aM.L0.add aM.L0.F:=eM (eL [.d gl,.d gl,.d ti] fun _=>by kernel_rfl)
theorem aM.L0.aB:kC @aM.L0.R aM.L0.st aM.L0.av aM.L0.add aM.L0.F aM.L0.out aM.L0.Ok:=kL
theorem aM.L0.step{R:Type}(a_2:fa)(b_2:fa)(i:Int)(kn:AS→Option R)(kx:Exit→AS→Option R):aM.L0.R (a_2,b_2,i) kn kx=
  aG ((fM i (((List.length a_2.1.2.1.1):Nat):Int))) (
   aG (eI i (((List.length a_2.1.2.1.1):Nat):Int)) (
   aG (eI i (((List.length b_2.1.2.1.1):Nat):Int)) (
   aG ((mM (nth fX a_2.1.2.1.1 (Int.toNat i)).2.1 (nth fX b_2.1.2.1.1 (Int.toNat i)).2.1)) (
    kx (aM.L0.bp ()).1 (aM.L0.bp ()).2) (
    aG ((mM (nth fX a_2.1.2.1.1 (Int.toNat i)).2.2.1 (nth fX b_2.1.2.1.1 (Int.toNat i)).2.2.1)) (
     kx (aM.L0.bp ()).1 (aM.L0.bp ()).2) (
     aG ((mM (nth fX a_2.1.2.1.1 (Int.toNat i)).2.2.2.1 (nth fX b_2.1.2.1.1 (Int.toNat i)).2.2.2.1)) (
      kx (aM.L0.bp ()).1 (aM.L0.bp ()).2) (
      aG ((mM (((List.length (nth fX a_2.1.2.1.1 (Int.toNat i)).1):Nat):Int) (((List.length (nth fX b_2.1.2.1.1 (Int.toNat i)).1):Nat):Int))) (
       kx (aM.L0.bp ()).1 (aM.L0.bp ()).2) (
       ah (aM.L1.call (a_2,b_2,i,(0:Int),(nth fX a_2.1.2.1.1 (Int.toNat i)),(nth fX b_2.1.2.1.1 (Int.toNat i)))) fun x1=>
       aG (x1.isLeft) (
        ah (x1.getLeft?) fun a2=>
        kx (aM.L0.bp ()).1 (aM.L0.bp ()).2) (
        ah (x1.getRight?) fun b3=>
        kn (aM.L0.st (b3.1,b3.2.1,(bN .i64 b3.2.2 (1:Int)))))))))) none) none) (
   kx (aM.L0.fA ()).1 (aM.L0.fA ()).2):=by kernel_rfl
theorem aM.L1.run:bM aM.L1.call aM.L1.av aM.L1.add aM.L1.F:=eM (eL [.d gl,.d gl,.d ti,.d ti,.d fX,.d fX] fun _=>by kernel_rfl)
theorem aM.L1.aB:kC @aM.L1.R aM.L1.st aM.L1.av aM.L1.add aM.L1.F aM.L1.out aM.L1.Ok:=kL
theorem aM.L1.step{R:Type}(a_3:fa)(b_3:fa)(i_2:Int)(kv:Int)(n6:ik)(n7:ik)(kn:AS→Option R)(kx:Exit→AS→Option R):aM.L1.R (a_3,b_3,i_2,kv,n6,n7) kn kx=
  aG ((fM kv (((List.length n6.1):Nat):Int))) (
   aG (eI kv (((List.length n6.1):Nat):Int)) (
   aG (eI kv (((List.length n7.1):Nat):Int)) (
   aG ((mM (nth tu n6.1 (Int.toNat kv)) (nth tu n7.1 (Int.toNat kv)))) (
    kx (aM.L1.bp ()).1 (aM.L1.bp ()).2) (
    kn (aM.L1.st (a_3,b_3,i_2,(bN .i64 kv (1:Int)),n6,n7)))) none) none) (
   kx (aM.L1.fA (a_3,b_3,i_2)).1 (aM.L1.fA (a_3,b_3,i_2)).2):=by kernel_rfl
theorem aM.eq{R:Type}(a:fa)(b:fa)(k:ba→Option R):aM.A (a,b) k=
  aG ((mM a.2.1 b.2.1)) (
   k (aM.out false)) (
   aG ((mM a.1.1 b.1.1)) (
    k (aM.out false)) (
    aG ((mM (((List.length a.1.2.1.1):Nat):Int) (((List.length b.1.2.1.1):Nat):Int))) (
     k (aM.out false)) (
     ah (aM.L0.call (a,b,(0:Int))) fun x4=>
     aG (x4.isLeft) (
      ah (x4.getLeft?) fun a5=>
      k (aM.out false)) (
      ah (x4.getRight?) fun b6=>
      k (aM.out true))))):=by kernel_rfl
theorem aM.L1.ok:aM.L1.Ok:=by
 refine aM.L1.aB (fun(a,b,j,i,x,y)=>x.1.length - Int.toNat i) ?_
 rintro⟨a,b,j,i,x,y⟩ ⟨hlen,hab,k,hk,rfl⟩
 have hlen:x.1.length≤1000000000:=hlen
 have hab:x.1.length=y.1.length:=hab
 have hk:k≤x.1.length:=hk
 by_cases h:k < x.1.length
 ·have h2:k < y.1.length:=by omega
  have n1:nth tu x.1 k=x.1[k]:=cn (t:=tu) h
  have n2:nth tu y.1 k=y.1[k]:=cn (t:=tu) h2
  have hd:(List.drop k x.1=List.drop k y.1)=(x.1[k]=y.1[k]∧List.drop (k+1) x.1=List.drop (k+1) y.1):=by rw[List.drop_eq_getElem_cons h,List.drop_eq_getElem_cons h2,List.cons.injEq]
  have step:∀ {R:Type} (kn:AS→Option R) (kx:Exit→AS→Option R),aM.L1.R (a,b,j,(k:Int),x,y) kn kx=if x.1[k]=y.1[k] then kn (aM.L1.st (a,b,j,((k+1:Nat):Int),x,y)) else kx (aM.L1.bp ()).1 (aM.L1.bp ()).2:=by
   intro R kn kx
   rw[aM.L1.step,aW (by omega),bm (by omega) (by omega),bm (by omega) (by omega),Int.toNat_natCast,n1,n2]
   simp only[ae]
   rw[N.j5 (by omega)]
   by_cases hx:x.1[k]=y.1[k]
   ·rw[ct hx,if_pos hx];rfl
   ·rw[fg hx,if_neg hx];rfl
  by_cases hx:x.1[k]=y.1[k]
  ·left
   refine⟨(a,b,j,((k+1:Nat):Int),x,y),⟨hlen,hab,k+1,by omega,rfl⟩,by simp only[Int.toNat_natCast];omega,?_,fun kn kx=> ?_⟩
   ·simp only[aM.L1.add,aM.L1.F,Int.toNat_natCast,hd,hx,true_and]
   ·rw[step,if_pos hx]
  ·right
   refine⟨aM.L1.bp (),?_,fun kn kx=> ?_⟩
   ·simp only[aM.L1.add,aM.L1.F,Int.toNat_natCast,hd,hx,false_and,if_false]
    rfl
   ·rw[step,if_neg hx]
 ·right
  obtain rfl:k=x.1.length:=by omega
  refine⟨aM.L1.fA (a,b,j),?_,fun kn kx=> ?_⟩
  ·simp only[aM.L1.add,aM.L1.F,Int.toNat_natCast,List.drop_length]
   rw[hab,List.drop_length,if_pos rfl]
   rfl
  ·rw[aM.L1.step,aO (by omega),ag]
theorem aM.L0.ok:aM.L0.Ok:=by
 refine aM.L0.aB (fun(a,b,i)=>a.1.2.1.1.length - Int.toNat i) ?_
 rintro⟨a,b,i⟩ ⟨hlen,hab,hs,k,hk,rfl⟩
 have hlen:a.1.2.1.1.length≤1000000000:=hlen
 have hab:a.1.2.1.1.length=b.1.2.1.1.length:=hab
 have hk:k≤a.1.2.1.1.length:=hk
 have hs:∀x∈a.1.2.1.1,x.1.length≤1000000000:=hs
 by_cases h:k < a.1.2.1.1.length
 ·have h2:k < b.1.2.1.1.length:=by omega
  have n1:nth fX a.1.2.1.1 k=a.1.2.1.1[k]:=cn (t:=fX) h
  have n2:nth fX b.1.2.1.1 k=b.1.2.1.1[k]:=cn (t:=fX) h2
  have hd:(List.drop k a.1.2.1.1=List.drop k b.1.2.1.1)=(a.1.2.1.1[k]=b.1.2.1.1[k]∧List.drop (k+1) a.1.2.1.1=List.drop (k+1) b.1.2.1.1):=by rw[List.drop_eq_getElem_cons h,List.drop_eq_getElem_cons h2,List.cons.injEq]
  have step:∀ {R:Type} (kn:AS→Option R) (kx:Exit→AS→Option R),aM.L0.R (a,b,(k:Int)) kn kx=if a.1.2.1.1[k]=b.1.2.1.1[k] then kn (aM.L0.st (a,b,((k+1:Nat):Int))) else kx (aM.L0.bp ()).1 (aM.L0.bp ()).2:=by
   intro R kn kx
   rw[aM.L0.step,aW (by omega),bm (by omega) (by omega),bm (by omega) (by omega),Int.toNat_natCast,n1,n2]
   simp only[ae]
   have hsk:=hs _ (List.getElem_mem h)
   obtain⟨⟨k1,a1,d1,s1,u1⟩,e1⟩:∃x,a.1.2.1.1[k]=x:=⟨_,rfl⟩
   obtain⟨⟨k2,a2,d2,s2,u2⟩,e2⟩:∃x,b.1.2.1.1[k]=x:=⟨_,rfl⟩
   rw[e1]at hsk ⊢
   rw[e2]
   dsimp only
   have hsk:k1.length≤1000000000:=hsk
   by_cases q2:a1=a2
   ·by_cases q3:d1=d2
    ·by_cases q4:s1=s2
     ·by_cases q1:k1.length=k2.length
      ·rw[ct q2,ct q3,ct q4,ct (by omega),aM.L1.run (d:=(a,b,(k:Int),0,(k1,a1,d1,s1,u1),(k2,a2,d2,s2,u2))) ⟨hsk,q1,0,Nat.zero_le _,rfl⟩]
       simp only[ag,aa,aM.L1.add,aM.L1.F,Int.toNat_zero,List.drop_zero]
       by_cases q5:k1=k2
       ·rw[if_pos q5,if_pos (by rw[q5,q2,q3,q4])]
        simp only[Sum.isLeft_inr,Sum.getRight?_inr,ag,aa]
        rw[N.j5 (by omega)]
       ·rw[if_neg q5,if_neg (by rintro⟨⟩;exact q5 rfl)]
        rfl
      ·rw[ct q2,ct q3,ct q4,fg (by omega),if_neg (by rintro⟨⟩;exact q1 rfl)];rfl
     ·rw[ct q2,ct q3,fg q4,if_neg (by rintro⟨⟩;exact q4 rfl)];rfl
    ·rw[ct q2,fg q3,if_neg (by rintro⟨⟩;exact q3 rfl)];rfl
   ·rw[fg q2,if_neg (by rintro⟨⟩;exact q2 rfl)];rfl
  by_cases hx:a.1.2.1.1[k]=b.1.2.1.1[k]
  ·left
   refine⟨(a,b,((k+1:Nat):Int)),⟨hlen,hab,hs,k+1,by omega,rfl⟩,by simp only[Int.toNat_natCast];omega,?_,fun kn kx=> ?_⟩
   ·simp only[aM.L0.add,aM.L0.F,Int.toNat_natCast,hd,hx,true_and]
   ·rw[step,if_pos hx]
  ·right
   refine⟨aM.L0.bp (),?_,fun kn kx=> ?_⟩
   ·simp only[aM.L0.add,aM.L0.F,Int.toNat_natCast,hd,hx,false_and,if_false]
    rfl
   ·rw[step,if_neg hx]
 ·right
  obtain rfl:k=a.1.2.1.1.length:=by omega
  refine⟨aM.L0.fA (),?_,fun kn kx=> ?_⟩
  ·simp only[aM.L0.add,aM.L0.F,Int.toNat_natCast,List.drop_length]
   rw[hab,List.drop_length,if_pos rfl]
   rfl
  ·rw[aM.L0.step,aO (by omega),ag]
theorem aM.ok:aM.Ok:=by
 rintro⟨⟨⟨a,⟨l,u1⟩,u2⟩,h,u3⟩,⟨⟨b,⟨m,v1⟩,v2⟩,g,v3⟩⟩ ⟨hl,hs⟩
 have hl:l.length≤1000000000:=hl
 rw[aM.eq]
 simp only[aM.add,aM.F]
 by_cases e1:h=g
 ·by_cases e2:a=b
  ·by_cases e3:l.length=m.length
   ·rw[ct e1,ct e2,ct (by omega),aM.L0.run (d:=(((a,((l,u1),u2)),(h,u3)),((b,((m,v1),v2)),(g,v3)),0)) ⟨hl,e3,hs,0,Nat.zero_le _,rfl⟩]
    simp only[aa,aM.L0.add,aM.L0.F,Int.toNat_zero,List.drop_zero,ag]
    by_cases e4:l=m
    ·rw[if_pos e4,aZ (by rw[e1,e2,e4])];rfl
    ·rw[if_neg e4,bo (by rintro⟨⟩;exact e4 rfl)];rfl
   ·rw[ct e1,ct e2,fg (by omega),bo (by rintro⟨⟩;exact e3 rfl)];rfl
  ·rw[ct e1,fg e2,bo (by rintro⟨⟩;exact e2 rfl)];rfl
 ·rw[fg e1,bo (by rintro⟨⟩;exact e1 rfl)];rfl
noncomputable def aM.E:=Entry.cD [some gl,some gl] aM.st aM.av aM.add aM.F aM.out
noncomputable def aM.call:aM.D→Option aM.X:=bS aM.E aM.st
theorem aM.run:bM aM.call aM.av aM.add aM.F:=dq (df [.d gl,.d gl] fun _=>by kernel_rfl)
noncomputable def aM.sg:SG Tryz.prog:=⟨96,aR,aM.E,.fn 2 (by kernel_rfl) aM.ok (And.intro (.cD aM.L0.ok (by kernel_rfl)) (And.intro (.cD aM.L1.ok (by kernel_rfl)) trivial))⟩
abbrev bC.L0.D:=Int×fv×Int×Int×(List dM)×Nat×(List (List dM))×Bs
def bC.L0.st:bC.L0.D→AS:=fun(height_2,t_2,fR,i,o0,o0L,o1_2,n9)=>⟨([.ptr (.dx 0) 0 [] 0,.undef,.d ti height_2,.undef,.ej gI t_2]++bl 4 ([.ptr (.new 9 0) 0 [] 0,.d ti fR,.d ti i]++bl 97 [])),[.obj 0 false (.pr (.d (.slice eN) o0) (.pr (.bH (.dx 1) 0 [] 0 0 o0L) (.d .unit ()))),.obj 0 false (.vec 164 (.slice eN) o1_2)],(ch 9 ([[.obj 0 false (.d tH n9)]]++ch 99 []))⟩
abbrev bC.L0.Y0:=Int
abbrev bC.L0.X0:=((List dM)×Nat×(List (List dM)))×(Int)
def bC.L0.bp:bC.L0.X0→Exit×AS:=fun x=>(.ret,⟨(bl 6 ([.d ti (0:Int),.d ti x.2]++bl 101 [])),[.obj 0 false (.pr (.d (.slice eN) x.1.1) (.pr (.bH (.dx 1) 0 [] 0 0 x.1.2.1) (.d .unit ()))),.obj 0 false (.vec 164 (.slice eN) x.1.2.2)],(List.replicate 109 [])⟩)
abbrev bC.L0.Y1:=Int
abbrev bC.L0.X1:=(fv×(List dM)×Nat×(List (List dM))×Bs)×(Int)
def bC.L0.fA:bC.L0.X1→Exit×AS:=fun x=>(.exit 0,⟨([.ptr (.dx 0) 0 [] 0,.undef,.undef,.undef,.ej gI x.1.1]++bl 4 ([.ptr (.new 9 0) 0 [] 0,.d ti x.2]++bl 98 [])),[.obj 0 false (.pr (.d (.slice eN) x.1.2.1) (.pr (.bH (.dx 1) 0 [] 0 0 x.1.2.2.1) (.d .unit ()))),.obj 0 false (.vec 164 (.slice eN) x.1.2.2.2.1)],(ch 9 ([[.obj 0 false (.d tH x.1.2.2.2.2)]]++ch 99 []))⟩)
abbrev bC.L0.X:=(bC.L0.X0)⊕(bC.L0.X1)
abbrev bC.L0.Y:=(bC.L0.Y0)⊕(bC.L0.Y1)
def bC.L0.out:bC.L0.X→Out (Exit×AS):=fun x=> .br x.isLeft (.get x.getLeft? fun a=> .ok (bC.L0.bp a)) (.get x.getRight? fun b=> .ok (bC.L0.fA b))
def bC.L0.add:bC.L0.D→bC.L0.Y→bC.L0.X:=fun(height_2,t_2,fR,i,o0,o0L,o1_2,n9) y=>match y with | .inl y=> .inl ((o0,o0L,o1_2),y) | .inr z=> .inr (((t_2,o0,o0L,o1_2,n9),z))
abbrev bC.L1.D:=fv×Int×Int×(List dM)×Nat×(List (List dM))×Bs
def bC.L1.st:bC.L1.D→AS:=fun(t_3,fee_2,i_2,o0_2,o0L_2,o1_3,n9_2)=>⟨([.ptr (.dx 0) 0 [] 0,.undef,.undef,.undef,.ej gI t_3]++bl 4 ([.ptr (.new 9 0) 0 [] 0,.d ti fee_2]++bl 4 ([.d ti i_2]++bl 93 []))),[.obj 0 false (.pr (.d (.slice eN) o0_2) (.pr (.bH (.dx 1) 0 [] 0 0 o0L_2) (.d .unit ()))),.obj 0 false (.vec 164 (.slice eN) o1_3)],(ch 9 ([[.obj 0 false (.d tH n9_2)]]++ch 99 []))⟩
abbrev bC.L1.Y0:=Unit
abbrev bC.L1.X0:=(List dM)×Nat×(List (List dM))
def bC.L1.bp:bC.L1.X0→Exit×AS:=fun x=>(.ret,⟨(bl 6 ([.d ti (0:Int),.d ti (4:Int)]++bl 101 [])),[.obj 0 false (.pr (.d (.slice eN) x.1) (.pr (.bH (.dx 1) 0 [] 0 0 x.2.1) (.d .unit ()))),.obj 0 false (.vec 164 (.slice eN) x.2.2)],(List.replicate 109 [])⟩)
abbrev bC.L1.Y1:=Int
abbrev bC.L1.X1:=((List dM)×Nat×(List (List dM)))×(Int)
def bC.L1.fA:bC.L1.X1→Exit×AS:=fun x=>(.exit 2,⟨(bl 10 ([.d ti x.2]++bl 98 [])),[.obj 0 false (.pr (.d (.slice eN) x.1.1) (.pr (.bH (.dx 1) 0 [] 0 0 x.1.2.1) (.d .unit ()))),.obj 0 false (.vec 164 (.slice eN) x.1.2.2)],(List.replicate 109 [])⟩)
abbrev bC.L1.X:=(bC.L1.X0)⊕(bC.L1.X1)
abbrev bC.L1.Y:=(bC.L1.Y0)⊕(bC.L1.Y1)
def bC.L1.out:bC.L1.X→Out (Exit×AS):=fun x=> .br x.isLeft (.get x.getLeft? fun a=> .ok (bC.L1.bp a)) (.get x.getRight? fun b=> .ok (bC.L1.fA b))
def bC.L1.add:bC.L1.D→bC.L1.Y→bC.L1.X:=fun(t_3,fee_2,i_2,o0_2,o0L_2,o1_3,n9_2) y=>match y with | .inl y=> .inl (o0_2,o0L_2,o1_3) | .inr z=> .inr (((o0_2,o0L_2,o1_3),z))
abbrev bC.D:=fv×Int×(List dM)×Nat×(List (List dM))
def bC.st:bC.D→SA:=fun(t,height,o0a,o0baL,o1)=>([.ptr (.dx 0) 0 [] 0,.d gI t,.d ti height],[.obj 0 false (.pr (.d (.slice eN) o0a) (.pr (.bH (.dx 1) 0 [] 0 0 o0baL) (.d .unit ()))),.obj 0 false (.vec 164 (.slice eN) o1)])
abbrev bC.Y:=Int×Int×(List dM)×Nat×(List (List dM))
abbrev bC.X:=Int×Int×(List dM)×Nat×(List (List dM))
def bC.out:bC.X→ba:=fun x=>⟨.cons (.d ti x.1) (.cons (.d ti x.2.1) (.nil)),[.obj 0 false (.pr (.d (.slice eN) x.2.2.1) (.pr (.bH (.dx 1) 0 [] 0 0 x.2.2.2.1) (.d .unit ()))),.obj 0 false (.vec 164 (.slice eN) x.2.2.2.2)],[]⟩
def bC.add:bC.D→bC.Y→bC.X:=fun(t,height,o0a,o0baL,o1) y=>y
def bC.L0.av:bC.L0.D→Prop:=fun(h,t,fR,i,l,_,_,id)=>(0≤h∧h≤1048576)∧Sm id∧t.1.length≤64∧(∀x∈t.1,HG x)∧qo (ij l)∧l.length≤1000000∧∃k:Nat,k≤t.1.length∧i=k∧0≤fR∧fR≤(k:Int)*1125899906842624
def bC.L0.F:bC.L0.D→bC.L0.Y:=fun(h,t,fR,i,l,_,_,id)=>jb h id (ij l) (t.1.drop i.toNat) fR
def bC.L1.av:bC.L1.D→Prop:=fun(t,fR,i,l,_,_,_)=>l.length≤1000000∧t.2.1.length≤64∧(∀o∈t.2.1,0≤o.1∧o.1≤1125899906842624)∧∃k:Nat,k≤t.2.1.length∧i=k∧ -((k:Int)*1125899906842624)≤fR∧fR≤1000000000000000000
def bC.L1.F:bC.L1.D→bC.L1.Y:=fun(t,fR,i,l,_,_,id)=>if(kj id i.toNat (t.2.1.length - i.toNat)).any (gW (ij l))=true then .inl () else .inr (fR - fw (t.2.1.drop i.toNat))
def bC.av:bC.D→Prop:=fun(t,_,l,_,_)=>nE t∧qo (ij l)∧l.length≤1000000
def bC.F:bC.D→bC.Y:=fun(t,h,l,n,w)=>((ee t h (ij l)).1,(ee t h (ij l)).2,l,n,w)
noncomputable def bC.G:ed:=fk (P:=Tryz.prog) [ab.sg,eh.sg,bf.sg,aK.sg]
noncomputable def bC.L0.E:=bU.cD bC.L0.st bC.L0.av bC.L0.add bC.L0.F bC.L0.out
noncomputable def bC.L0.call:bC.L0.D→Option bC.L0.X:=dw bC.L0.E bC.L0.st
noncomputable def bC.L1.E:=bU.cD bC.L1.st bC.L1.av bC.L1.add bC.L1.F bC.L1.out
noncomputable def bC.L1.call:bC.L1.D→Option bC.L1.X:=dw bC.L1.E bC.L1.st
noncomputable def bC.an:eQ:= {loops:=jB [(7,{bn:=[0,2,4,9,10,11],sites:=[9]}),(18,{bn:=[0,4,9,10,15],sites:=[9]})],outs:=jA [(7,{bn:=[0,4,9,10],sites:=[9]},{bn:=[6,7]}),(18,{bn:=[10]},{bn:=[6,7]})],fC:=kf [(7,bC.L0.E),(18,bC.L1.E)]}
noncomputable def bC.A:= @cY Tryz.prog bC.G bC.an 0 Tryz.f36 _ bC.st
abbrev bC.Ok:=dd @bC.A bC.av bC.add bC.F bC.out
noncomputable def bC.L0.R:= @cj Tryz.prog bC.G bC.an 0 Tryz.f36 0 _ bC.L0.st
abbrev bC.L0.Ok:=ew Tryz.prog bC.G bC.an 0 Tryz.f36 0 bC.L0.st bC.L0.av bC.L0.add bC.L0.F bC.L0.out
noncomputable def bC.L1.R:= @cj Tryz.prog bC.G bC.an 0 Tryz.f36 1 _ bC.L1.st
abbrev bC.L1.Ok:=ew Tryz.prog bC.G bC.an 0 Tryz.f36 1 bC.L1.st bC.L1.av bC.L1.add bC.L1.F bC.L1.out
theorem bC.L0.run:bM bC.L0.call bC.L0.av bC.L0.add bC.L0.F:=eM (eL [.d ti,.d gI,.d ti,.d ti,.d (.slice eN),.n,.d (.slice (.slice eN)),.d tB] fun _=>by kernel_rfl)
theorem bC.L0.aB:kC @bC.L0.R bC.L0.st bC.L0.av bC.L0.add bC.L0.F bC.L0.out bC.L0.Ok:=kL
theorem bC.L0.step{R:Type}(height_2:Int)(t_2:fv)(fR:Int)(i:Int)(o0:(List dM))(o0L:Nat)(o1_2:(List (List dM)))(n9:Bs)(kn:AS→Option R)(kx:Exit→AS→Option R):bC.L0.R (height_2,t_2,fR,i,o0,o0L,o1_2,n9) kn kx=
  aG ((fM i (((List.length t_2.1):Nat):Int))) (
   aG (eI i (((List.length t_2.1):Nat):Int)) (
   ah (bf.call (o0,(nth gz t_2.1 (Int.toNat i)).1)) fun x1=>
   aG ((fM x1 (0:Int))) (
    kx (bC.L0.bp ((o0,o0L,o1_2),(5:Int))).1 (bC.L0.bp ((o0,o0L,o1_2),(5:Int))).2) (
    aG (eI x1 (((List.length o0):Nat):Int)) (
    aG (eI i (((List.length t_2.1):Nat):Int)) (
    ah (aK.call ((nth eN o0 (Int.toNat x1)).2.1.1.2.1,(nth gz t_2.1 (Int.toNat i)).2.1,n9,height_2,(da .i64 height_2 (nth eN o0 (Int.toNat x1)).2.1.2.1))) fun x2=>
    aG ((mM x2 (0:Int))) (
     kx (bC.L0.bp ((o0,o0L,o1_2),x2)).1 (bC.L0.bp ((o0,o0L,o1_2),x2)).2) (
     kn (bC.L0.st (height_2,t_2,(bN .i64 fR (nth eN o0 (Int.toNat x1)).2.1.1.1),(bN .i64 i (1:Int)),o0,o0L,o1_2,n9)))) none) none)) none) (
   kx (bC.L0.fA ((t_2,o0,o0L,o1_2,n9),fR)).1 (bC.L0.fA ((t_2,o0,o0L,o1_2,n9),fR)).2):=by kernel_rfl
theorem bC.L1.run:bM bC.L1.call bC.L1.av bC.L1.add bC.L1.F:=eM (eL [.d gI,.d ti,.d ti,.d (.slice eN),.n,.d (.slice (.slice eN)),.d tB] fun _=>by kernel_rfl)
theorem bC.L1.aB:kC @bC.L1.R bC.L1.st bC.L1.av bC.L1.add bC.L1.F bC.L1.out bC.L1.Ok:=kL
theorem bC.L1.step{R:Type}(t_3:fv)(fee_2:Int)(i_2:Int)(o0_2:(List dM))(o0L_2:Nat)(o1_3:(List (List dM)))(n9_2:Bs)(kn:AS→Option R)(kx:Exit→AS→Option R):bC.L1.R (t_3,fee_2,i_2,o0_2,o0L_2,o1_3,n9_2) kn kx=
  aG ((fM i_2 (((List.length t_3.2.1):Nat):Int))) (
   ah (bf.call (o0_2,(n9_2,(i_2,())))) fun x1=>
   aG ((nv x1 (0:Int))) (
    kx (bC.L1.bp (o0_2,o0L_2,o1_3)).1 (bC.L1.bp (o0_2,o0L_2,o1_3)).2) (
    aG (eI i_2 (((List.length t_3.2.1):Nat):Int)) (
    kn (bC.L1.st (t_3,(da .i64 fee_2 (nth fe t_3.2.1 (Int.toNat i_2)).1),(bN .i64 i_2 (1:Int)),o0_2,o0L_2,o1_3,n9_2))) none)) (
   kx (bC.L1.fA ((o0_2,o0L_2,o1_3),fee_2)).1 (bC.L1.fA ((o0_2,o0L_2,o1_3),fee_2)).2):=by kernel_rfl
theorem bC.eq{R:Type}(t:fv)(height:Int)(o0a:(List dM))(o0baL:Nat)(o1:(List (List dM)))(k:ba→Option R):bC.A (t,height,o0a,o0baL,o1) k=
  ah (ab.call t) fun x1=>
  aG ((!x1)) (
   k (bC.out ((0:Int),(1:Int),o0a,o0baL,o1))) (
   aG ((fM height (1:Int))) (
    k (bC.out ((0:Int),(1:Int),o0a,o0baL,o1))) (
    aG ((nN height (1048576:Int))) (
     k (bC.out ((0:Int),(1:Int),o0a,o0baL,o1))) (
     ah (eh.call t) fun x2=>
     ah (bC.L0.call (height,t,(0:Int),(0:Int),o0a,o0baL,o1,x2)) fun x5=>
     aG (x5.isLeft) (
      ah (x5.getLeft?) fun a6=>
      k (bC.out ((0:Int),a6.2,a6.1.1,a6.1.2.1,a6.1.2.2))) (
      ah (x5.getRight?) fun b7=>
      ah (bC.L1.call (b7.1.1,b7.2,(0:Int),b7.1.2.1,b7.1.2.2.1,b7.1.2.2.2.1,b7.1.2.2.2.2)) fun x9=>
      aG (x9.isLeft) (
       ah (x9.getLeft?) fun a10=>
       k (bC.out ((0:Int),(4:Int),a10.1,a10.2.1,a10.2.2))) (
       ah (x9.getRight?) fun b11=>
       aG ((fM b11.2 (0:Int))) (
        k (bC.out ((0:Int),(8:Int),b11.1.1,b11.1.2.1,b11.1.2.2))) (
        k (bC.out (b11.2,(0:Int),b11.1.1,b11.1.2.1,b11.1.2.2)))))))):=by kernel_rfl
theorem bC.L0.ok:bC.L0.Ok:=by
 refine bC.L0.aB (fun(_,t,_,i,_,_,_,_)=>t.1.length - i.toNat) ?_
 rintro⟨h,t,fR,i,l,n,w,id⟩ ⟨⟨hh1,hh2⟩,hid,h64,hu,ha,hl,k,hk,rfl,hf1,hf2⟩
 have hh1:0≤h:=hh1
 have hh2:h≤1048576:=hh2
 have h64:t.1.length≤64:=h64
 have hl:l.length≤1000000:=hl
 have hf1:0≤fR:=hf1
 have hf2:fR≤(k:Int)*1125899906842624:=hf2
 have hk:k≤t.1.length:=hk
 by_cases hlt:k < t.1.length
 ·have hx:=hu _ (List.getElem_mem hlt)
  have n1:nth gz t.1 k=t.1[k]:=cn (t:=gz) hlt
  have hd:t.1.drop k=t.1[k]::t.1.drop (k+1):=List.drop_eq_getElem_cons hlt
  rcases pj hl t.1[k].1 with⟨h1,h2⟩ | ⟨m,hm,h1,hg,_,h4⟩
  ·right
   refine⟨bC.L0.bp ((l,n,w),5),?_,fun kn kx=> ?_⟩
   rotate_left
   ·rw[bC.L0.step,aW (by omega),ae,bm (by omega) (by omega),ae,Int.toNat_natCast,n1,h1,aa,aW (by decide),ae]
   ·simp only[bC.L0.add,bC.L0.F,Int.toNat_natCast,hd,jb,h2]
    rfl
  ·generalize l[m]=c at hg h4
   have hc:=ha.get hg
   obtain⟨c1,c2,c3,c4,c5,c6⟩:=hc
   have hst:∀ {R:Type} (kn:AS→Option R) (kx:Exit→AS→Option R),bC.L0.R (h,t,fR,(k:Int),l,n,w,id) kn kx=
     aG (mM (kb c.2.1.1.2.1 t.1[k].2.1 id h (h - c.2.1.2.1)) 0) (kx (bC.L0.bp ((l,n,w),kb c.2.1.1.2.1 t.1[k].2.1 id h (h - c.2.1.2.1))).1 (bC.L0.bp ((l,n,w),kb c.2.1.1.2.1 t.1[k].2.1 id h (h - c.2.1.2.1))).2)
      (kn (bC.L0.st (h,t,fR+c.2.1.1.1,((k+1:Nat):Int),l,n,w,id))):=fun kn kx=>by
    rw[bC.L0.step,aW (by omega),ae,bm (by omega) (by omega),ae,Int.toNat_natCast,n1,h1,aa,aO (by omega),ag,bm (by omega) (by omega),ae,ae,Int.toNat_natCast,h4]
    rw[eS (by omega) (by omega),aK.run (d:=(c.2.1.1.2.1,t.1[k].2.1,id,h,h - c.2.1.2.1)) ⟨c2,hx.2.1,hid⟩]
    simp only[aa,aK.add,aK.F]
    rw[gF (by omega) (by omega),N.j5 (by omega)]
   by_cases he:kb c.2.1.1.2.1 t.1[k].2.1 id h (h - c.2.1.2.1)=0
   ·left
    refine⟨(h,t,fR+c.2.1.1.1,((k+1:Nat):Int),l,n,w,id),⟨⟨hh1,hh2⟩,hid,h64,hu,ha,hl,k+1,by omega,rfl,by show 0≤fR+c.2.1.1.1;omega,by show fR+c.2.1.1.1≤_;omega⟩,by simp only[Int.toNat_natCast];omega,?_,fun kn kx=> ?_⟩
    ·simp only[bC.L0.add,bC.L0.F,Int.toNat_natCast,hd,jb,hg,he,ne_eq,not_true_eq_false,if_false]
    ·rw[hst,ct he,ag]
   ·right
    refine⟨bC.L0.bp ((l,n,w),kb c.2.1.1.2.1 t.1[k].2.1 id h (h - c.2.1.2.1)),?_,fun kn kx=> ?_⟩
    rotate_left
    ·rw[hst,fg he,ae]
    ·simp only[bC.L0.add,bC.L0.F,Int.toNat_natCast,hd,jb,hg]
     rw[if_pos he]
     rfl
 ·right
  obtain rfl:k=t.1.length:=by omega
  refine⟨bC.L0.fA ((t,l,n,w,id),fR),?_,fun kn kx=> ?_⟩
  rotate_left
  ·rw[bC.L0.step,aO (by omega),ag]
  ·simp only[bC.L0.add,bC.L0.F,Int.toNat_natCast,List.drop_length,jb]
   rfl
theorem bC.L1.ok:bC.L1.Ok:=by
 refine bC.L1.aB (fun(t,_,i,_,_,_,_)=>t.2.1.length - i.toNat) ?_
 rintro⟨t,fR,i,l,n,w,id⟩ ⟨hl,h64,hp,k,hk,rfl,hf1,hf2⟩
 have hl:l.length≤1000000:=hl
 have h64:t.2.1.length≤64:=h64
 have hk:k≤t.2.1.length:=hk
 have hf1: -((k:Int)*1125899906842624)≤fR:=hf1
 have hf2:fR≤1000000000000000000:=hf2
 by_cases hlt:k < t.2.1.length
 ·have n1:nth fe t.2.1 k=t.2.1[k]:=cn (t:=fe) hlt
  have hx:=hp _ (List.getElem_mem hlt)
  have hd:t.2.1.drop k=t.2.1[k]::t.2.1.drop (k+1):=List.drop_eq_getElem_cons hlt
  have hm:(kj id k (t.2.1.length - k)).any (gW (ij l))=((cz ck (id,((k:Int),())) (ij l)).isSome || (kj id (k+1) (t.2.1.length - (k+1))).any (gW (ij l))):=by
   rw[show t.2.1.length - k=(t.2.1.length - (k+1))+1 by omega,qb,List.any_cons]
   rfl
  rcases pj hl (id,((k:Int),())) with⟨h1,h2⟩ | ⟨m,hm2,h1,h2,_,_⟩
  ·left
   rw[h2,Option.isSome_none,Bool.false_or]at hm
   refine⟨(t,fR - t.2.1[k].1,((k+1:Nat):Int),l,n,w,id),⟨hl,h64,hp,k+1,by omega,rfl,by show -(((k+1:Nat):Int)*1125899906842624)≤fR - t.2.1[k].1;omega,by show fR - t.2.1[k].1≤_;omega⟩,by simp only[Int.toNat_natCast];omega,?_,fun kn kx=> ?_⟩
   ·simp only[bC.L1.add,bC.L1.F,Int.toNat_natCast,hm,hd,jf]
    rw[show fR - t.2.1[k].1 - fw (t.2.1.drop (k+1))=fR - (t.2.1[k].1+fw (t.2.1.drop (k+1))) by omega]
   ·rw[bC.L1.step,aW (by omega),ae,h1,aa,eZ (by decide),ag,bm (by omega) (by omega),ae,Int.toNat_natCast,n1,eS (by omega) (by omega),N.j5 (by omega)]
  ·right
   rw[h2,Option.isSome_some,Bool.true_or]at hm
   refine⟨bC.L1.bp (l,n,w),?_,fun kn kx=> ?_⟩
   ·simp only[bC.L1.add,bC.L1.F,Int.toNat_natCast,hm,if_true]
    rfl
   ·rw[bC.L1.step,aW (by omega),ae,h1,aa,fF (by omega),ae]
 ·right
  obtain rfl:k=t.2.1.length:=by omega
  refine⟨bC.L1.fA ((l,n,w),fR),?_,fun kn kx=> ?_⟩
  ·simp only[bC.L1.add,bC.L1.F,Int.toNat_natCast,List.drop_length,Nat.sub_self]
   rw[show fR - fw ([]:List gm)=fR by show fR - 0=fR;omega]
   rfl
  ·rw[bC.L1.step,aO (by omega),ag]
theorem bC.ok:bC.Ok:=by
 rintro⟨t,h,l,n,w⟩ ⟨hv,ha,hl⟩
 have hv:nE t:=hv
 have ha:qo (ij l):=ha
 have hl:l.length≤1000000:=hl
 rw[bC.eq,ab.run (d:=t) hv.1]
 simp only[aa,ab.add,ab.F,bC.add,bC.F]
 by_cases hok:gU t=true
 rotate_left
 ·have hok':gU t=false:=by simpa using hok
  have e:ee t h (ij l)=(0,1):=by unfold ee;rw[if_neg (fun x=>hok x.1)]
  rw[hok',e,Bool.not_false,ae]
 ·rw[hok,Bool.not_true,ag]
  by_cases h1:h < 1
  ·have e:ee t h (ij l)=(0,1):=by unfold ee;rw[if_neg (by omega)]
   rw[aW h1,ae,e]
  by_cases h2:h > 1048576
  ·have e:ee t h (ij l)=(0,1):=by unfold ee;rw[if_neg (by omega)]
   rw[aO h1,ag,dY h2,ae,e]
  have hcF:ee t h (ij l)=match jb h (lS t) (ij l) t.1 0 with
    | .inl e=>(0,e)
    | .inr fR=>if(fo t).any (gW (ij l))=true then(0,4) else if fR - fw t.2.1 < 0 then(0,8) else(fR - fw t.2.1,0):=by
   unfold ee
   refine(if_pos ⟨hok,by omega,by omega⟩).trans ?_
   cases jb h (lS t) (ij l) t.1 0 <;> rfl
  rw[hcF,aO h1,ag,dI h2,ag,eh.run (d:=t) hv]
  simp only[aa,eh.add,eh.F]
  have hlens:=(iF hok).1
  rw[bC.L0.run (d:=(h,t,0,0,l,n,w,lS t)) ⟨⟨by show 0≤h;omega,by show h≤1048576;omega⟩,uS,hlens.2.1,hv.2.1,ha,hl,0,Nat.zero_le _,rfl,Int.le_refl 0,by show(0:Int)≤((0:Nat):Int)*_;omega⟩]
  simp only[aa,bC.L0.add,bC.L0.F,Int.toNat_zero,List.drop_zero]
  cases hi:jb h (lS t) (ij l) t.1 0 with
  |inl e=>rfl
  |inr f=>
   simp only[Sum.isLeft_inr,ag,Sum.getRight?_inr,aa]
   have hb:=pZ ha t.1 0 f hi
   have hos:=iD _ _ (iF hok).2.2
   rw[bC.L1.run (d:=(t,f,0,l,n,w,lS t)) ⟨hl,hlens.2.2.1,fun o ho=>⟨(hos o ho).1.1,(hos o ho).1.2⟩,0,Nat.zero_le _,rfl,by show -(((0:Nat):Int)*_)≤f;omega,by show f≤_;omega⟩]
   have hmd:fo t=kj (lS t) 0 t.2.1.length:=by unfold fo;rw[if_pos hok]
   simp only[aa,bC.L1.add,bC.L1.F,Int.toNat_zero,List.drop_zero,Nat.sub_zero,hmd]
   cases(kj (lS t) 0 t.2.1.length).any (gW (ij l)) with
   |true=>rfl
   |false=>
    simp only[Bool.false_eq_true,if_false,Sum.isLeft_inr,ag,Sum.getRight?_inr,aa]
    by_cases h3:f - fw t.2.1 < 0
    ·rw[aW h3,ae,if_pos h3]
    ·rw[aO h3,ag,if_neg h3]
noncomputable def bC.E:=Entry.cD [none,some gI,some ti] bC.st bC.av bC.add bC.F bC.out
noncomputable def bC.call:bC.D→Option bC.X:=bS bC.E bC.st
theorem bC.run:bM bC.call bC.av bC.add bC.F:=dq (df [.d gI,.d ti,.d (.slice eN),.n,.d (.slice (.slice eN))] fun _=>by kernel_rfl)
noncomputable def bC.sg:SG Tryz.prog:=⟨36,aR,bC.E,.fn 2 (by kernel_rfl) bC.ok (And.intro (.cD bC.L0.ok (by kernel_rfl)) (And.intro (.cD bC.L1.ok (by kernel_rfl)) trivial))⟩
abbrev bO.L0.D:=Int×fv×Nat×Int×(List dM)×Nat×(List (List dM))×(List dM)
def bO.L0.st:bO.L0.D→AS:=fun(height_2,t_2,lL,i,o0,o0L,o1_2,n39)=>⟨([.ptr (.dx 0) 0 [] 0,.undef,.d ti height_2,.undef,.ej gI t_2]++bl 4 ([.bH (.new 39 0) 0 [] 0 0 lL,.d ti i]++bl 88 [])),[.obj 0 false (.pr (.d (.slice eN) o0) (.pr (.bH (.dx 1) 1 [] 0 0 o0L) (.d .unit ()))),.obj 1 false (.vec 164 (.slice eN) o1_2)],(ch 39 ([[.obj 0 false (.vec 169 eN n39)]]++ch 59 []))⟩
abbrev bO.L0.Y0:=Nat×(List dM)
abbrev bO.L0.X0:=(Int×fv×(List dM)×Nat×(List (List dM)))×(Nat×(List dM))
def bO.L0.bp:bO.L0.X0→Exit×AS:=fun x=>(.exit 0,⟨([.ptr (.dx 0) 0 [] 0,.undef,.d ti x.1.1,.undef,.ej gI x.1.2.1]++bl 4 ([.bH (.new 39 0) 0 [] 0 0 x.2.1]++bl 89 [])),[.obj 0 false (.pr (.d (.slice eN) x.1.2.2.1) (.pr (.bH (.dx 1) 1 [] 0 0 x.1.2.2.2.1) (.d .unit ()))),.obj 1 false (.vec 164 (.slice eN) x.1.2.2.2.2)],(ch 39 ([[.obj 0 false (.vec 169 eN x.2.2)]]++ch 59 []))⟩)
abbrev bO.L0.X:=bO.L0.X0
abbrev bO.L0.Y:=bO.L0.Y0
def bO.L0.out:bO.L0.X→Out (Exit×AS):=fun x=> .ok (bO.L0.bp x)
def bO.L0.add:bO.L0.D→bO.L0.Y→bO.L0.X:=fun(height_2,t_2,lL,i,o0,o0L,o1_2,n39) y=>((height_2,t_2,o0,o0L,o1_2),y)
abbrev bO.L1.D:=Int×(List dM)×Nat×Int×(List dM)×Nat×(List (List dM))×Bs×(List ia)×(List gm)
def bO.L1.st:bO.L1.D→AS:=fun(height_3,l,ownL,i_2,o0_2,o0L_2,o1_3,n13,n75,n75_2)=>⟨([.ptr (.dx 0) 0 [] 0,.undef,.d ti height_3]++bl 6 ([.d (.slice eN) l,.undef,.undef,.undef,.ptr (.new 13 0) 0 [] 0,.bH (.new 75 1) 0 [] 0 0 ownL,.d ti i_2]++bl 83 [])),[.obj 0 false (.pr (.d (.slice eN) o0_2) (.pr (.bH (.dx 1) 1 [] 0 0 o0L_2) (.d .unit ()))),.obj 1 false (.vec 164 (.slice eN) o1_3)],(ch 13 ([[.obj 0 false (.d tH n13)]]++ch 61 ([[.obj 0 false (.vec 52 gz n75),.obj 0 false (.vec 36 fe n75_2)]]++ch 23 [])))⟩
abbrev bO.L1.Y0:=(List dM)
abbrev bO.L1.X0:=((List dM)×Nat×(List (List dM)))×((List dM))
def bO.L1.bp:bO.L1.X0→Exit×AS:=fun x=>(.exit 2,⟨([.ptr (.dx 0) 0 [] 0]++bl 8 ([.d (.slice eN) x.2]++bl 89 [])),[.obj 0 false (.pr (.d (.slice eN) x.1.1) (.pr (.bH (.dx 1) 1 [] 0 0 x.1.2.1) (.d .unit ()))),.obj 1 false (.vec 164 (.slice eN) x.1.2.2)],(List.replicate 99 [])⟩)
abbrev bO.L1.X:=bO.L1.X0
abbrev bO.L1.Y:=bO.L1.Y0
def bO.L1.out:bO.L1.X→Out (Exit×AS):=fun x=> .ok (bO.L1.bp x)
def bO.L1.add:bO.L1.D→bO.L1.Y→bO.L1.X:=fun(height_3,l,ownL,i_2,o0_2,o0L_2,o1_3,n13,n75,n75_2) y=>((o0_2,o0L_2,o1_3),y)
abbrev bO.D:=fv×Int×(List dM)×Nat×(List (List dM))
def bO.st:bO.D→SA:=fun(t,height,o0a,o0baL,o1)=>([.ptr (.dx 0) 0 [] 0,.d gI t,.d ti height],[.obj 0 false (.pr (.d (.slice eN) o0a) (.pr (.bH (.dx 1) 0 [] 0 0 o0baL) (.d .unit ()))),.obj 0 false (.vec 164 (.slice eN) o1)])
abbrev bO.Y:=(Int×(List dM)×Nat×(List (List dM)))⊕(Int×(List dM)×Nat×(List (List dM)))
abbrev bO.X:=(Int×(List dM)×Nat×(List (List dM)))⊕(Int×(List dM)×Nat×(List (List dM)))
def bO.out:bO.X→ba:=fun x=>match x with | .inl x=>⟨.d ti x.1,[.obj 0 false (.pr (.d (.slice eN) x.2.1) (.pr (.bH (.dx 1) 0 [] 0 0 x.2.2.1) (.d .unit ()))),.obj 0 false (.vec 164 (.slice eN) x.2.2.2)],[]⟩ | .inr x=>⟨.d ti x.1,[.obj 0 false (.pr (.d (.slice eN) x.2.1) (.pr (.bH (.dx 1) 1 [] 0 0 x.2.2.1) (.d .unit ()))),.obj 1 false (.vec 164 (.slice eN) x.2.2.2)],[]⟩
def bO.add:bO.D→bO.Y→bO.X:=fun(t,height,o0a,o0baL,o1) y=>match y with | .inl y=> .inl y | .inr y=> .inr y
def xI(h:Int):List cK→List gm→List dM→List dM
 |o::os,x::xs,l=>xI h os xs (kJ l (o,((x,(h,())),())))
 |_,_,l=>l
def zz(t:fv)(h:Int)(l:List dM):List dM:=xI h (fo t) t.2.1 ((dN t).foldl lJ l)
def bO.L0.av:bO.L0.D→Prop:=fun(_,t,m,i,_,_,_,r)=>t.1.length≤64∧m=r.length∧r.length≤1000000∧(eV (ij r)).Nodup∧∃k:Nat,k≤t.1.length∧i=k∧((t.1.drop k).map (·.1)).Nodup∧∀o∈(t.1.drop k).map (·.1),(cz ck o (ij r)).isSome=true
def bO.L0.F:bO.L0.D→bO.L0.Y:=fun(_,t,_,i,_,_,_,r)=>((((t.1.drop i.toNat).map (·.1)).foldl lJ r).length,((t.1.drop i.toNat).map (·.1)).foldl lJ r)
def bO.L1.av:bO.L1.D→Prop:=fun(_,l,m,i,_,_,_,id,_,outs)=>m=outs.length∧outs.length≤64∧id.length=32∧(∀e∈l,e.1.1.length=32)∧∃k:Nat,k≤outs.length∧i=k∧l.length≤500000+k
def bO.L1.F:bO.L1.D→bO.L1.Y:=fun(h,l,_,i,_,_,_,id,_,outs)=>xI h (kj id i.toNat (outs.length - i.toNat)) (outs.drop i.toNat) l
def bO.av:bO.D→Prop:=fun(t,_,l,n,w)=>nE t∧qo (ij l)∧l.length≤500000∧n≤w.length∧w.length≤1000000
def bO.F:bO.D→bO.Y:=fun(t,h,l,n,w)=>if(ee t h (ij l)).2≠0 then .inl ((ee t h (ij l)).2,l,n,w) else .inr (0,zz t h l,n+1,w.take n++ [l])
noncomputable def bO.G:ed:=fk (P:=Tryz.prog) [bC.sg,bf.sg,eh.sg,ai.sg,bT.sg]
noncomputable def bO.L0.E:=bU.cD bO.L0.st bO.L0.av bO.L0.add bO.L0.F bO.L0.out
noncomputable def bO.L0.call:bO.L0.D→Option bO.L0.X:=dw bO.L0.E bO.L0.st
noncomputable def bO.L1.E:=bU.cD bO.L1.st bO.L1.av bO.L1.add bO.L1.F bO.L1.out
noncomputable def bO.L1.call:bO.L1.D→Option bO.L1.X:=dw bO.L1.E bO.L1.st
noncomputable def bO.an:eQ:= {bX:=[39,60],loops:=jB [(7,{bn:=[0,2,4,9,10],sites:=[39,60],iE:=[⟨9,[],39,0⟩]}),(16,{bn:=[0,2,9,13,14,15],sites:=[13,75],data:=[(9,(.slice eN))]})],outs:=jA [(7,{bn:=[0,2,4,9],sites:=[39]},{bn:=[6]}),(16,{bn:=[0,9]},{bn:=[6]})],fC:=kf [(7,bO.L0.E),(16,bO.L1.E)]}
noncomputable def bO.A:= @cY Tryz.prog bO.G bO.an 0 Tryz.f40 _ bO.st
abbrev bO.Ok:=dd @bO.A bO.av bO.add bO.F bO.out
noncomputable def bO.L0.R:= @cj Tryz.prog bO.G bO.an 0 Tryz.f40 0 _ bO.L0.st
abbrev bO.L0.Ok:=ew Tryz.prog bO.G bO.an 0 Tryz.f40 0 bO.L0.st bO.L0.av bO.L0.add bO.L0.F bO.L0.out
noncomputable def bO.L1.R:= @cj Tryz.prog bO.G bO.an 0 Tryz.f40 1 _ bO.L1.st
abbrev bO.L1.Ok:=ew Tryz.prog bO.G bO.an 0 Tryz.f40 1 bO.L1.st bO.L1.av bO.L1.add bO.L1.F bO.L1.out
theorem bO.L0.run:bM bO.L0.call bO.L0.av bO.L0.add bO.L0.F:=eM (eL [.d ti,.d gI,.n,.d ti,.d (.slice eN),.n,.d (.slice (.slice eN)),.d (.slice eN)] fun _=>by kernel_rfl)
theorem bO.L0.aB:fQ @bO.L0.R bO.L0.st bO.L0.av bO.L0.add bO.L0.F bO.L0.bp bO.L0.Ok:=fU
theorem bO.L0.step{R:Type}(height_2:Int)(t_2:fv)(lL:Nat)(i:Int)(o0:(List dM))(o0L:Nat)(o1_2:(List (List dM)))(n39:(List dM))(kn:AS→Option R)(kx:Exit→AS→Option R):bO.L0.R (height_2,t_2,lL,i,o0,o0L,o1_2,n39) kn kx=
  aG ((fM i (((List.length t_2.1):Nat):Int))) (
   aG (eI i (((List.length t_2.1):Nat):Int)) (
   aG (decide (0=0∧(0+lL)≤(List.length n39))) (
   ah (bf.call ((cut n39 0 lL),(nth gz t_2.1 (Int.toNat i)).1)) fun x1=>
   aG (inc x1 ((lL:Nat):Int)) (
   aG (decide (0=0∧(0+((Int.toNat x1) - 0))≤(List.length n39))) (
   aG (db (0+(List.length (cut n39 0 ((Int.toNat x1) - 0)))) 80) (
   aG (inc (bN .i64 x1 (1:Int)) ((lL:Nat):Int)) (
   aG (decide ((0+((0+(Int.toNat (bN .i64 x1 (1:Int))))*36))=(0+((Int.toNat (bN .i64 x1 (1:Int)))*36))∧((0+(Int.toNat (bN .i64 x1 (1:Int))))+(lL - (Int.toNat (bN .i64 x1 (1:Int)))))≤(List.length n39))) (
   aG (decide ((0+(List.length (cut n39 0 ((Int.toNat x1) - 0))))≤(List.length ((List.take 0 (List.replicate 0 (((List.replicate 32 (0:Int)),((0:Int),())),((((0:Int),((([]:List ik),()),())),((0:Int),())),()))))++(cut n39 0 ((Int.toNat x1) - 0)))))) (
   aG (db ((0+(List.length (cut n39 0 ((Int.toNat x1) - 0))))+(List.length (cut n39 (0+(Int.toNat (bN .i64 x1 (1:Int)))) (lL - (Int.toNat (bN .i64 x1 (1:Int))))))) 80) (
   kn (bO.L0.st (height_2,t_2,((0+(List.length (cut n39 0 ((Int.toNat x1) - 0))))+(List.length (cut n39 (0+(Int.toNat (bN .i64 x1 (1:Int)))) (lL - (Int.toNat (bN .i64 x1 (1:Int))))))),(bN .i64 i (1:Int)),o0,o0L,o1_2,((List.take (0+(List.length (cut n39 0 ((Int.toNat x1) - 0)))) ((List.take 0 (List.replicate 0 (((List.replicate 32 (0:Int)),((0:Int),())),((((0:Int),((([]:List ik),()),())),((0:Int),())),()))))++(cut n39 0 ((Int.toNat x1) - 0))))++(cut n39 (0+(Int.toNat (bN .i64 x1 (1:Int)))) (lL - (Int.toNat (bN .i64 x1 (1:Int))))))))) none) none) none) none) none) none) none) none) none) (
   kx (bO.L0.bp ((height_2,t_2,o0,o0L,o1_2),(lL,n39))).1 (bO.L0.bp ((height_2,t_2,o0,o0L,o1_2),(lL,n39))).2):=by kernel_rfl
theorem bO.L1.run:bM bO.L1.call bO.L1.av bO.L1.add bO.L1.F:=eM (eL [.d ti,.d (.slice eN),.n,.d ti,.d (.slice eN),.n,.d (.slice (.slice eN)),.d tB,.d (.slice gz),.d (.slice fe)] fun _=>by kernel_rfl)
theorem bO.L1.aB:fQ @bO.L1.R bO.L1.st bO.L1.av bO.L1.add bO.L1.F bO.L1.bp bO.L1.Ok:=fU
theorem bO.L1.step{R:Type}(height_3:Int)(l:(List dM))(ownL:Nat)(i_2:Int)(o0_2:(List dM))(o0L_2:Nat)(o1_3:(List (List dM)))(n13:Bs)(n75:(List ia))(n75_2:(List gm))(kn:AS→Option R)(kx:Exit→AS→Option R):bO.L1.R (height_3,l,ownL,i_2,o0_2,o0L_2,o1_3,n13,n75,n75_2) kn kx=
  aG ((fM i_2 ((ownL:Nat):Int))) (
   aG (eI i_2 ((ownL:Nat):Int)) (
   aG (decide ((0+(Int.toNat i_2)) < (List.length n75_2))) (
   aG (decide ((((0+(Int.toNat i_2))*2)+0)=(0+((Int.toNat i_2)*2)))) (
   ah (bT.call (l,((n13,(i_2,())),(((nth fe n75_2 (0+(Int.toNat i_2))),(height_3,())),())))) fun x1=>
   kn (bO.L1.st (height_3,x1,ownL,(bN .i64 i_2 (1:Int)),o0_2,o0L_2,o1_3,n13,n75,n75_2))) none) none) none) (
   kx (bO.L1.bp ((o0_2,o0L_2,o1_3),l)).1 (bO.L1.bp ((o0_2,o0L_2,o1_3),l)).2):=by kernel_rfl
theorem bO.eq{R:Type}(t:fv)(height:Int)(o0a:(List dM))(o0baL:Nat)(o1:(List (List dM)))(k:ba→Option R):bO.A (t,height,o0a,o0baL,o1) k=
  ah (bC.call (t,height,o0a,o0baL,o1)) fun x1=>
  aG ((mM x1.2.1 (0:Int))) (
   k (bO.out (.inl (x1.2.1,x1.2.2.1,x1.2.2.2.1,x1.2.2.2.2)))) (
   aG (decide (x1.2.2.2.1≤(List.length x1.2.2.2.2))) (
   aG (db (x1.2.2.2.1+1) 24) (
   aG (db (0+(List.length x1.2.2.1)) 80) (
   ah (bO.L0.call (height,t,(0+(List.length x1.2.2.1)),(0:Int),x1.2.2.1,(x1.2.2.2.1+1),((List.take x1.2.2.2.1 x1.2.2.2.2)++ [x1.2.2.1]),((List.take 0 (List.replicate 0 (((List.replicate 32 (0:Int)),((0:Int),())),((((0:Int),((([]:List ik),()),())),((0:Int),())),()))))++x1.2.2.1))) fun x4=>
   ah (eh.call x4.1.2.1) fun x5=>
   ah (ai.call x4.1.2.1) fun x6=>
   aG (decide (0=0∧(0+x4.2.1)≤(List.length x4.2.2))) (
   ah (bO.L1.call (x4.1.1,(cut x4.2.2 0 x4.2.1),x6.2.1,(0:Int),x4.1.2.2.1,x4.1.2.2.2.1,x4.1.2.2.2.2,x5,x6.2.2.2.1,x6.2.2.2.2)) fun x9=>
   k (bO.out (.inr ((0:Int),x9.2,x9.1.2.1,x9.1.2.2)))) none) none) none) none):=by kernel_rfl
theorem bO.L0.ok:bO.L0.Ok:=by
 refine bO.L0.aB (fun(_,t,_,i,_,_,_,_)=>t.1.length - i.toNat) ?_
 rintro⟨h,t,m,i,l,n,w,r⟩ ⟨h64,rfl,hr,hn,k,hk,rfl,hd,ht⟩
 have h64:t.1.length≤64:=h64
 have hr:r.length≤1000000:=hr
 have hk:k≤t.1.length:=hk
 by_cases hlt:k < t.1.length
 ·left
  have n1:nth gz t.1 k=t.1[k]:=cn (t:=gz) hlt
  have hdk:(t.1.drop k).map (·.1)=t.1[k].1::(t.1.drop (k+1)).map (·.1):=by rw[List.drop_eq_getElem_cons hlt,List.map_cons]
  rw[hdk]at hd ht
  have hd':=List.nodup_cons.1 hd
  have hth:=ht _ List.mem_cons_self
  rcases pj hr t.1[k].1 with⟨h1,h2⟩ | ⟨j,hj,h1,h2,h3,_⟩
  ·rw[h2]at hth;cases hth
  have e1:cut r 0 r.length=r:=pQ rfl
  have e2:cut r 0 j=r.take j:=by simp[cut]
  have e3:cut r (j+1) (r.length - (j+1))=r.drop (j+1):=by unfold cut;rw[List.take_of_length_le (by rw[List.length_drop];omega)]
  have l1:(r.take j).length=j:=by rw[List.length_take];omega
  have l2:(r.drop (j+1)).length=r.length - (j+1):=List.length_drop
  have l3:(r.take j++r.drop (j+1)).length=j+(r.length - (j+1)):=by rw[List.length_append,l1,l2]
  have t1:List.take j (r.take j)=r.take j:=List.take_of_length_le (by omega)
  refine⟨(h,t,(lJ r t.1[k].1).length,((k+1:Nat):Int),l,n,w,lJ r t.1[k].1),⟨h64,rfl,by show(lJ r t.1[k].1).length≤_;have:=CL r t.1[k].1;omega,by rw[tn];exact jV hn,k+1,by omega,rfl,hd'.2,fun o ho=> ?_⟩,by simp only[Int.toNat_natCast];omega,?_,fun kn kx=> ?_⟩
  ·rw[tn,zW o _ hn,if_neg (fun e=>hd'.1 (by rw[←e];exact ho))]
   exact ht o (List.mem_cons_of_mem _ ho)
  ·simp only[bO.L0.add,bO.L0.F,Int.toNat_natCast,hdk,List.foldl_cons]
  ·rw[bO.L0.step,aW (by omega),ae,bm (by omega) (by omega),ae]
   simp only[Nat.zero_add,true_and,Nat.le_refl,decide_true,ae,Int.toNat_natCast,n1,e1]
   rw[h1,aa,N.j5 (by omega)]
   simp only[Int.toNat_natCast,Nat.sub_zero,e2,e3,l1,l2,List.take_zero,List.nil_append,t1,true_and,Nat.le_refl,decide_true,ae]
   rw[jH (by omega) (by omega),ae,aZ (show j≤r.length by omega),ae,cS (by omega) (by omega),ae,jH (by omega) (by omega),ae,aZ (show j+1+(r.length - (j+1))≤r.length by omega),ae,cS (by omega) (by omega),ae,N.j5 (by omega),h3,l3]
 ·right
  obtain rfl:k=t.1.length:=by omega
  intro T kn kx
  rw[bO.L0.step,aO (by omega),ag]
  simp only[bO.L0.add,bO.L0.F,Int.toNat_natCast,List.drop_length,List.map_nil,List.foldl_nil]
theorem Cj(l:List dM)(c:dM):(kJ l c).length=l.length+1:=(kV l c).length_eq
theorem bO.L1.ok:bO.L1.Ok:=by
 refine bO.L1.aB (fun(_,_,_,i,_,_,_,_,_,outs)=>outs.length - i.toNat) ?_
 rintro⟨h,l,m,i,o,n,w,id,ins,outs⟩ ⟨rfl,h64,hid,hq,k,hk,rfl,hl⟩
 have h64:outs.length≤64:=h64
 have hk:k≤outs.length:=hk
 have hl:l.length≤500000+k:=hl
 by_cases hlt:k < outs.length
 ·left
  have n1:nth fe outs k=outs[k]:=cn (t:=fe) hlt
  have hw:bT.call (l,((id,((k:Int),())),((outs[k],(h,())),())))=some (kJ l ((id,((k:Int),())),((outs[k],(h,())),()))):=bT.run (d:=(l,((id,((k:Int),())),((outs[k],(h,())),())))) ⟨by show l.length≤1000000;omega,hq,hid⟩
  refine⟨(h,kJ l ((id,((k:Int),())),((outs[k],(h,())),())),outs.length,((k+1:Nat):Int),o,n,w,id,ins,outs),⟨rfl,h64,hid,fun e he=> ?_,k+1,by omega,rfl,by show(kJ l _).length≤_;rw[Cj];omega⟩,by simp only[Int.toNat_natCast];omega,?_,fun kn kx=> ?_⟩
  ·rcases List.mem_cons.1 ((kV l _).mem_iff.1 he) with rfl | he
   ·exact hid
   ·exact hq e he
  ·simp only[bO.L1.add,bO.L1.F,Int.toNat_natCast]
   rw[List.drop_eq_getElem_cons hlt,show outs.length - k=(outs.length - (k+1))+1 by omega,qb,xI]
  ·rw[bO.L1.step,aW (by omega),ae,bm (by omega) (by omega),ae,Int.toNat_natCast]
   simp only[Nat.zero_add,Nat.add_zero,decide_true,ae,n1]
   rw[aZ hlt,ae,hw,aa,N.j5 (by omega)]
 ·right
  obtain rfl:k=outs.length:=by omega
  intro T kn kx
  rw[bO.L1.step,aO (by omega),ag]
  simp only[bO.L1.add,bO.L1.F,Int.toNat_natCast,List.drop_length,Nat.sub_self]
  rfl
theorem CJ{t:fv}(hok:gU t=true):E8 t:=by
 obtain⟨⟨_,a2,a3,_⟩,b1,b2⟩:=iF hok
 refine⟨⟨by omega,fun x hx=> ?_⟩,by omega,fun x hx=> ?_⟩
 ·have:=nw _ _ b1 x hx
  unfold oo lT at this
  simp only[Bool.and_eq_true,decide_eq_true_eq]at this
  omega
 ·have:=oM (iD _ _ b2 x hx).2
  exact⟨by omega,fun b hb=>by have:=this.2 b hb;omega⟩
theorem oG:∀(os:List cK) (l:List dM),(os.foldl lJ l).Sublist l
 |[],l=>List.Sublist.refl _
 |o::os,l=>(oG os (lJ l o)).trans (CM l o)
theorem bO.ok:bO.Ok:=by
 rintro⟨t,h,l,n,w⟩ ⟨hv,ha,hl,hn,hw⟩
 have hv:nE t:=hv
 have ha:qo (ij l):=ha
 have hl:l.length≤500000:=hl
 have hn:n≤w.length:=hn
 have hw:w.length≤1000000:=hw
 rw[bO.eq,bC.run (d:=(t,h,l,n,w)) ⟨hv,ha,by show l.length≤1000000;omega⟩]
 simp only[aa,bC.add,bC.F,bO.add,bO.F]
 by_cases he:(ee t h (ij l)).2=0
 ·have hc:=s5 he
  have hlens:=(iF hc.ok).1
  have hs:dN t=t.1.map (·.1):=by unfold dN;rw[if_pos hc.ok]
  have hq:∀e∈l,e.1.1.length=32:=fun e hm=>((ha.2 (e.1,e.2.1) (List.mem_map.2 ⟨e,hm,rfl⟩)).1).1
  rw[ct he,ag,aZ hn,ae,cS (by omega) (by omega),ae,cS (by omega) (by omega),ae]
  simp only[Nat.zero_add,List.take_zero,List.nil_append]
  rw[bO.L0.run (d:=(h,t,l.length,0,l,n+1,w.take n++ [l],l)) ⟨hlens.2.1,rfl,by show l.length≤1000000;omega,ha.1,0,Nat.zero_le _,rfl,by rw[List.drop_zero,←hs];exact nY t,by rw[List.drop_zero,←hs];exact hc.there⟩]
  have hsub:=oG (t.1.map (·.1)) l
  simp only[aa,bO.L0.add,bO.L0.F,Int.toNat_zero,List.drop_zero]
  rw[eh.run (d:=t) hv,ai.run (d:=t) (CJ hc.ok)]
  simp only[aa,eh.add,eh.F,ai.add,ai.F,Nat.zero_add,true_and,Nat.le_refl,decide_true,ae]
  rw[pQ rfl,bO.L1.run (d:=(h,(t.1.map (·.1)).foldl lJ l,t.2.1.length,0,l,n+1,w.take n++ [l],lS t,t.1,t.2.1)) ⟨rfl,hlens.2.2.1,(uS (t:=t)).1,fun e hm=>hq e (hsub.mem hm),0,Nat.zero_le _,rfl,by have:=hsub.length_le;show((t.1.map (·.1)).foldl lJ l).length≤_;omega⟩]
  have hmd:fo t=kj (lS t) 0 t.2.1.length:=by unfold fo;rw[if_pos hc.ok]
  simp only[aa,bO.L1.add,bO.L1.F,Int.toNat_zero,List.drop_zero,Nat.sub_zero,he,ne_eq,not_true_eq_false,if_false,zz,hmd,hs]
 ·rw[fg he,ae]
  simp only[ne_eq,he,not_false_eq_true,if_true]
noncomputable def bO.E:=Entry.BU [none,some gI,some ti] bO.st bO.av bO.add bO.F bO.out
noncomputable def bO.call:bO.D→Option bO.X:=bS bO.E bO.st
theorem bO.run:bM bO.call bO.av bO.add bO.F:=Bc (df [.d gI,.d ti,.d (.slice eN),.n,.d (.slice (.slice eN))] fun _=>by kernel_rfl)
noncomputable def bO.sg:SG Tryz.prog:=⟨40,aR,bO.E,.HE (.fn 2 (by kernel_rfl) bO.ok (And.intro (.cD bO.L0.ok (by kernel_rfl)) (And.intro (.cD bO.L1.ok (by kernel_rfl)) trivial)))⟩
abbrev bJ.L0.D:=(List gm)×Int×Int×Nat×(List dM)
def bJ.L0.st:bJ.L0.D→AS:=fun(outs_2,sum,i,n14L,n109)=>⟨([.d (.slice fe) outs_2,.undef,.jd,.d ti sum,.ptr (.new 14 0) 0 [] 0,.d ti i]++bl 107 []),[],(ch 14 ([[.obj 0 false (.pr (.bH (.new 109 0) 0 [] 0 0 n14L) (.pr (.dV) (.d .unit ())))]]++ch 94 [[.obj 0 false (.vec 169 eN n109)],[],[],[]]))⟩
abbrev bJ.L0.Y0:=Unit
abbrev bJ.L0.X0:=Unit
def bJ.L0.bp:bJ.L0.X0→Exit×AS:=fun x=>(.ret,⟨([.undef,.undef,.jd]++bl 110 []),[],(List.replicate 113 [])⟩)
abbrev bJ.L0.Y1:=Nat×(List dM)
abbrev bJ.L0.X1:=Nat×(List dM)
def bJ.L0.fA:bJ.L0.X1→Exit×AS:=fun x=>(.exit 0,⟨([.undef,.undef,.jd,.undef,.ptr (.new 14 0) 0 [] 0]++bl 108 []),[],(ch 14 ([[.obj 0 false (.pr (.bH (.new 109 0) 0 [] 0 0 x.1) (.pr (.dV) (.d .unit ())))]]++ch 94 [[.obj 0 false (.vec 169 eN x.2)],[],[],[]]))⟩)
abbrev bJ.L0.X:=(bJ.L0.X0)⊕(bJ.L0.X1)
abbrev bJ.L0.Y:=(bJ.L0.Y0)⊕(bJ.L0.Y1)
def bJ.L0.out:bJ.L0.X→Out (Exit×AS):=fun x=> .br x.isLeft (.get x.getLeft? fun a=> .ok (bJ.L0.bp a)) (.get x.getRight? fun b=> .ok (bJ.L0.fA b))
def bJ.L0.add:bJ.L0.D→bJ.L0.Y→bJ.L0.X:=fun(outs_2,sum,i,n14L,n109) y=>match y with | .inl y=> .inl y | .inr z=> .inr (z)
abbrev bJ.L1.D:=(List gm)×Int×Int×Int×Int×Nat×Nat×(List ik)×(List dM)
def bJ.L1.st:bJ.L1.D→AS:=fun(outs_3,sum_2,i_2,kv,n7,n7L,n14L_2,n95,n109_2)=>⟨([.d (.slice fe) outs_3,.undef,.jd,.d ti sum_2,.ptr (.new 14 0) 0 [] 0,.d ti i_2,.undef,.ptr (.new 7 0) 0 [] 0,.d ti kv]++bl 104 []),[],(ch 7 ([[.obj 0 false (.pr (.d ti n7) (.pr (.pr (.bH (.new 95 0) 0 [] 0 0 n7L) (.d .unit ())) (.d .unit ())))]]++ch 6 ([[.obj 0 false (.pr (.bH (.new 109 0) 0 [] 0 0 n14L_2) (.pr (.dV) (.d .unit ())))]]++ch 80 ([[.obj 0 false (.vec 29 fX n95)]]++ch 13 [[.obj 0 false (.vec 169 eN n109_2)],[],[],[]]))))⟩
abbrev bJ.L1.Y0:=Nat×(List ik)
abbrev bJ.L1.X0:=((List gm)×Int×Int×Int×Nat×(List dM))×(Nat×(List ik))
def bJ.L1.bp:bJ.L1.X0→Exit×AS:=fun x=>(.exit 2,⟨([.d (.slice fe) x.1.1,.undef,.jd,.d ti x.1.2.1,.ptr (.new 14 0) 0 [] 0,.d ti x.1.2.2.1,.undef,.ptr (.new 7 0) 0 [] 0]++bl 105 []),[],(ch 7 ([[.obj 0 false (.pr (.d ti x.1.2.2.2.1) (.pr (.pr (.bH (.new 95 0) 0 [] 0 0 x.2.1) (.d .unit ())) (.d .unit ())))]]++ch 6 ([[.obj 0 false (.pr (.bH (.new 109 0) 0 [] 0 0 x.1.2.2.2.2.1) (.pr (.dV) (.d .unit ())))]]++ch 80 ([[.obj 0 false (.vec 29 fX x.2.2)]]++ch 13 [[.obj 0 false (.vec 169 eN x.1.2.2.2.2.2)],[],[],[]]))))⟩)
abbrev bJ.L1.X:=bJ.L1.X0
abbrev bJ.L1.Y:=bJ.L1.Y0
def bJ.L1.out:bJ.L1.X→Out (Exit×AS):=fun x=> .ok (bJ.L1.bp x)
def bJ.L1.add:bJ.L1.D→bJ.L1.Y→bJ.L1.X:=fun(outs_3,sum_2,i_2,kv,n7,n7L,n14L_2,n95,n109_2) y=>((outs_3,sum_2,i_2,n7,n14L_2,n109_2),y)
abbrev bJ.D:=(List gm)
def bJ.st:bJ.D→SA:=fun outs=>([.d (.slice fe) outs],[])
abbrev bJ.Y:=(Unit)⊕((List dM)×(List (List dM)))
abbrev bJ.X:=(Unit)⊕((List dM)×(List (List dM)))
def bJ.out:bJ.X→ba:=fun x=>match x with | .inl x=>⟨.jd,[],[]⟩ | .inr x=>⟨.ptr (.new 0 0) 0 [] 0,[],[.obj 0 false (.pr (.d (.slice eN) x.1) (.pr (.bH (.new 0 1) 0 [] 0 0 0) (.d .unit ()))),.obj 0 false (.vec 164 (.slice eN) x.2)]⟩
def bJ.add:bJ.D→bJ.Y→bJ.X:=fun outs y=>match y with | .inl y=> .inl y | .inr y=> .inr y
def sW(p:cK×fa):dM:=(p.1,(p.2,()))
def bJ.L1.av:bJ.L1.D→Prop:=fun(outs,_,i,j,_,m,_,r,_)=>m=r.length∧∃(n k:Nat) (h:n < outs.length),i=n∧j=k∧k≤outs[n].2.1.1.length∧outs[n].2.1.1.length≤4∧(∀b∈outs[n].2.1.1,b.1.length≤12)∧r.length=k
def bJ.L1.F:bJ.L1.D→bJ.L1.Y:=fun(outs,_,i,j,_,m,_,r,_)=>((r++(nth fe outs i.toNat).2.1.1.drop j.toNat).length,r++(nth fe outs i.toNat).2.1.1.drop j.toNat)
def bJ.L0.av:bJ.L0.D→Prop:=fun(outs,sum,i,m,r)=>(∀o∈outs,sO o)∧outs.length≤256∧0≤sum∧sum≤1125899906842624∧m=r.length∧∃k:Nat,k≤outs.length∧i=k∧r.length=k
def bJ.L0.F:bJ.L0.D→bJ.L0.Y:=fun(outs,sum,i,m,r)=>match na sum i.toNat (outs.drop i.toNat) with | none=> .inl () | some a=> .inr ((r++a.map sW).length,r++a.map sW)
def bJ.av:bJ.D→Prop:=fun outs=>∀o∈outs,sO o
def bJ.F:bJ.D→bJ.Y:=fun outs=>match qe outs with | none=> .inl () | some a=> .inr (a.map sW,[])
noncomputable def bJ.G:ed:=fk (P:=Tryz.prog) [aD.sg]
noncomputable def bJ.L0.E:=bU.cD bJ.L0.st bJ.L0.av bJ.L0.add bJ.L0.F bJ.L0.out
noncomputable def bJ.L0.call:bJ.L0.D→Option bJ.L0.X:=dw bJ.L0.E bJ.L0.st
noncomputable def bJ.L1.E:=bU.cD bJ.L1.st bJ.L1.av bJ.L1.add bJ.L1.F bJ.L1.out
noncomputable def bJ.L1.call:bJ.L1.D→Option bJ.L1.X:=dw bJ.L1.E bJ.L1.st
noncomputable def bJ.an:eQ:= {bX:=[14,83],loops:=jB [(6,{bn:=[0,2,3,4,5],sites:=[14,109],iE:=[⟨4,[.fst],109,164⟩]}),(14,{bn:=[0,2,3,4,5,7,8],sites:=[7,14,95,109],iE:=[⟨7,[.snd,.fst,.fst],95,32⟩]})],outs:=jA [(6,{bn:=[2,4],sites:=[14,109]},{bn:=[2]}),(14,{bn:=[0,2,3,4,5,7],sites:=[7,14,95,109]},{bn:=[2]})],fC:=kf [(6,bJ.L0.E),(14,bJ.L1.E)],iE:=[⟨2,[.snd,.fst],10,165⟩],BB:=[⟨2,[.fst],(.slice eN)⟩]}
noncomputable def bJ.A:= @cY Tryz.prog bJ.G bJ.an 0 Tryz.f35 _ bJ.st
abbrev bJ.Ok:=dd @bJ.A bJ.av bJ.add bJ.F bJ.out
noncomputable def bJ.L0.R:= @cj Tryz.prog bJ.G bJ.an 0 Tryz.f35 0 _ bJ.L0.st
abbrev bJ.L0.Ok:=ew Tryz.prog bJ.G bJ.an 0 Tryz.f35 0 bJ.L0.st bJ.L0.av bJ.L0.add bJ.L0.F bJ.L0.out
noncomputable def bJ.L1.R:= @cj Tryz.prog bJ.G bJ.an 0 Tryz.f35 1 _ bJ.L1.st
abbrev bJ.L1.Ok:=ew Tryz.prog bJ.G bJ.an 0 Tryz.f35 1 bJ.L1.st bJ.L1.av bJ.L1.add bJ.L1.F bJ.L1.out
theorem bJ.L0.run:bM bJ.L0.call bJ.L0.av bJ.L0.add bJ.L0.F:=eM (eL [.d (.slice fe),.d ti,.d ti,.n,.d (.slice eN)] fun _=>by kernel_rfl)
theorem bJ.L0.aB:kC @bJ.L0.R bJ.L0.st bJ.L0.av bJ.L0.add bJ.L0.F bJ.L0.out bJ.L0.Ok:=kL
theorem bJ.L0.step{R:Type}(outs_2:(List gm))(sum:Int)(i:Int)(n14L:Nat)(n109:(List dM))(kn:AS→Option R)(kx:Exit→AS→Option R):bJ.L0.R (outs_2,sum,i,n14L,n109) kn kx=
  aG ((fM i (((List.length outs_2):Nat):Int))) (
   aG (eI i (((List.length outs_2):Nat):Int)) (
   ah (aD.call (nth fe outs_2 (Int.toNat i)).2.1) fun x1=>
   aG ((!x1)) (
    kx (bJ.L0.bp ()).1 (bJ.L0.bp ()).2) (
    aG (eI i (((List.length outs_2):Nat):Int)) (
    aG ((fM (nth fe outs_2 (Int.toNat i)).1 (0:Int))) (
     kx (bJ.L0.bp ()).1 (bJ.L0.bp ()).2) (
     aG (eI i (((List.length outs_2):Nat):Int)) (
     aG ((nN (nth fe outs_2 (Int.toNat i)).1 (da .i64 (1125899906842624:Int) sum))) (
      kx (bJ.L0.bp ()).1 (bJ.L0.bp ()).2) (
      aG (eI i (((List.length outs_2):Nat):Int)) (
      aG (eI i (((List.length outs_2):Nat):Int)) (
      ah (bJ.L1.call (outs_2,(bN .i64 sum (nth fe outs_2 (Int.toNat i)).1),i,(0:Int),(nth fe outs_2 (Int.toNat i)).1,0,n14L,([]:List ik),n109)) fun x2=>
      aG (decide (0=0∧(0+x2.2.1)≤(List.length x2.2.2))) (
      aG (decide (x2.1.2.2.2.2.1≤(List.length x2.1.2.2.2.2.2))) (
      aG (db (x2.1.2.2.2.2.1+1) 80) (
      kn (bJ.L0.st (x2.1.1,x2.1.2.1,(bN .i64 x2.1.2.2.1 (1:Int)),(x2.1.2.2.2.2.1+1),((List.take x2.1.2.2.2.2.1 x2.1.2.2.2.2.2)++ [(((List.replicate 32 (0:Int)),(x2.1.2.2.1,())),(((x2.1.2.2.2.1,(((cut x2.2.2 0 x2.2.1),()),())),((0:Int),())),()))])))) none) none) none) none) none)) none)) none)) none) (
   kx (bJ.L0.fA (n14L,n109)).1 (bJ.L0.fA (n14L,n109)).2):=by kernel_rfl
theorem bJ.L1.run:bM bJ.L1.call bJ.L1.av bJ.L1.add bJ.L1.F:=eM (eL [.d (.slice fe),.d ti,.d ti,.d ti,.d ti,.n,.n,.d (.slice fX),.d (.slice eN)] fun _=>by kernel_rfl)
theorem bJ.L1.aB:fQ @bJ.L1.R bJ.L1.st bJ.L1.av bJ.L1.add bJ.L1.F bJ.L1.bp bJ.L1.Ok:=fU
theorem bJ.L1.step{R:Type}(outs_3:(List gm))(sum_2:Int)(i_2:Int)(kv:Int)(n7:Int)(n7L:Nat)(n14L_2:Nat)(n95:(List ik))(n109_2:(List dM))(kn:AS→Option R)(kx:Exit→AS→Option R):bJ.L1.R (outs_3,sum_2,i_2,kv,n7,n7L,n14L_2,n95,n109_2) kn kx=
  aG (eI i_2 (((List.length outs_3):Nat):Int)) (
  aG ((fM kv (((List.length (nth fe outs_3 (Int.toNat i_2)).2.1.1):Nat):Int))) (
   aG (eI i_2 (((List.length outs_3):Nat):Int)) (
   aG (eI kv (((List.length (nth fe outs_3 (Int.toNat i_2)).2.1.1):Nat):Int)) (
   aG (db (0+(List.length (nth fX (nth fe outs_3 (Int.toNat i_2)).2.1.1 (Int.toNat kv)).1)) 8) (
   aG (decide (0=0∧(0+(0+(List.length (nth fX (nth fe outs_3 (Int.toNat i_2)).2.1.1 (Int.toNat kv)).1)))≤(List.length ((List.take 0 (List.replicate 0 (0:Int)))++(nth fX (nth fe outs_3 (Int.toNat i_2)).2.1.1 (Int.toNat kv)).1)))) (
   aG (decide (n7L≤(List.length n95))) (
   aG (db (n7L+1) 48) (
   kn (bJ.L1.st (outs_3,sum_2,i_2,(bN .i64 kv (1:Int)),n7,(n7L+1),n14L_2,((List.take n7L n95)++ [((cut ((List.take 0 (List.replicate 0 (0:Int)))++(nth fX (nth fe outs_3 (Int.toNat i_2)).2.1.1 (Int.toNat kv)).1) 0 (0+(List.length (nth fX (nth fe outs_3 (Int.toNat i_2)).2.1.1 (Int.toNat kv)).1))),((nth fX (nth fe outs_3 (Int.toNat i_2)).2.1.1 (Int.toNat kv)).2.1,((nth fX (nth fe outs_3 (Int.toNat i_2)).2.1.1 (Int.toNat kv)).2.2.1,((nth fX (nth fe outs_3 (Int.toNat i_2)).2.1.1 (Int.toNat kv)).2.2.2.1,()))))]),n109_2))) none) none) none) none) none) none) (
   kx (bJ.L1.bp ((outs_3,sum_2,i_2,n7,n14L_2,n109_2),(n7L,n95))).1 (bJ.L1.bp ((outs_3,sum_2,i_2,n7,n14L_2,n109_2),(n7L,n95))).2)) none:=by kernel_rfl
theorem bJ.eq{R:Type}(outs:(List gm))(k:ba→Option R):bJ.A outs k=
  aG ((nN (((List.length outs):Nat):Int) (256:Int))) (
   k (bJ.out (.inl ()))) (
   ah (bJ.L0.call (outs,(0:Int),(0:Int),0,([]:List dM))) fun x5=>
   aG (x5.isLeft) (
    ah (x5.getLeft?) fun a6=>
    k (bJ.out (.inl ()))) (
    ah (x5.getRight?) fun b7=>
    aG (decide (0=0∧(0+b7.1)≤(List.length b7.2))) (
    k (bJ.out (.inr ((cut b7.2 0 b7.1),([]:List (List dM)))))) none)):=by kernel_rfl
theorem bJ.L1.ok:bJ.L1.Ok:=by
 refine bJ.L1.aB (fun(outs,_,i,j,_,_,_,_,_)=>(nth fe outs i.toNat).2.1.1.length - j.toNat) ?_
 rintro⟨outs,sum,i,j,u,m,m2,r,r2⟩ ⟨rfl,n,k,hn,rfl,rfl,hk,h4,h12,hr⟩
 have hr:r.length=k:=hr
 have n1:nth fe outs n=outs[n]:=cn (t:=fe) hn
 generalize hB:outs[n].2.1.1=B at hk h4 h12
 have n2:(nth fe outs n).2.1.1=B:=by rw[n1,hB]
 by_cases hlt:k < B.length
 ·left
  have n3:nth fX B k=B[k]:=cn (t:=fX) hlt
  have hb:=h12 _ (List.getElem_mem hlt)
  have el:(r++ [B[k]]).length=r.length+1:=by rw[List.length_append];rfl
  refine⟨(outs,sum,(n:Int),((k+1:Nat):Int),u,r.length+1,m2,r++ [B[k]],r2),⟨el.symm,n,k+1,hn,rfl,rfl,by rw[hB];omega,by rw[hB];exact h4,by rw[hB];exact h12,by show(r++ [B[k]]).length=_;omega⟩,by simp only[Int.toNat_natCast,n2];omega,?_,fun kn kx=> ?_⟩
  ·simp only[bJ.L1.add,bJ.L1.F,Int.toNat_natCast,n2]
   rw[List.drop_eq_getElem_cons hlt,List.append_assoc,List.singleton_append]
  ·rw[bJ.L1.step,bm (by omega) (by omega),ae]
   simp only[Int.toNat_natCast,n2,n3]
   rw[aW (by omega),ae,ae,bm (by omega) (by omega),ae]
   simp only[Nat.zero_add,List.take_zero,List.nil_append,true_and,Nat.le_refl,decide_true,ae,List.take_length,fb]
   rw[cS (by omega) (by omega),ae,cS (by omega) (by omega),ae,N.j5 (by omega)]
 ·right
  obtain rfl:k=B.length:=by omega
  intro T kn kx
  rw[bJ.L1.step,bm (by omega) (by omega),ae]
  simp only[Int.toNat_natCast,n2]
  rw[aO (by omega),ag]
  simp only[bJ.L1.add,bJ.L1.F,Int.toNat_natCast,n2,List.drop_length,List.append_nil]
theorem bJ.L0.ok:bJ.L0.Ok:=by
 refine bJ.L0.aB (fun(outs,_,i,_,_)=>outs.length - i.toNat) ?_
 rintro⟨outs,sum,i,m,r⟩ ⟨hg,hl,h0,h1,rfl,k,hk,rfl,hr⟩
 have h0:0≤sum:=h0
 have h1:sum≤1125899906842624:=h1
 have hl:outs.length≤256:=hl
 have hk:k≤outs.length:=hk
 have hr:r.length=k:=hr
 by_cases h:k < outs.length
 ·obtain⟨g1,g2,g3⟩:=hg _ (List.getElem_mem h)
  have n1:nth fe outs k=outs[k]:=cn (t:=fe) h
  have hd:outs.drop k=outs[k]::outs.drop (k+1):=List.drop_eq_getElem_cons h
  by_cases hok:j2 sum outs[k]=true
  ·left
   have hok':=hok
   unfold j2 at hok'
   simp only[Bool.and_eq_true,decide_eq_true_eq]at hok'
   obtain⟨k1,k2,k3⟩:=hok'
   have hlk:=oM k1
   have el:(r++ [sW (mf k outs[k])]).length=r.length+1:=by rw[List.length_append];rfl
   refine⟨(outs,sum+outs[k].1,((k+1:Nat):Int),r.length+1,r++ [sW (mf k outs[k])]),⟨hg,hl,by show 0≤sum+outs[k].1;omega,by show sum+outs[k].1≤_;omega,el.symm,k+1,by omega,rfl,by show(r++ [sW (mf k outs[k])]).length=_;omega⟩,by simp only[Int.toNat_natCast];omega,?_,fun kn kx=> ?_⟩
   ·simp only[bJ.L0.add,bJ.L0.F,Int.toNat_natCast,hd,na,hok]
    cases na (sum+outs[k].1) (k+1) (outs.drop (k+1)) with
    |none=>rfl
    |some a=>simp only[Option.map_some,List.map_cons,List.append_assoc,List.singleton_append]
   ·rw[bJ.L0.step,aW (by omega),ae,bm (by omega) (by omega),ae,Int.toNat_natCast,n1,aD.run (d:=outs[k].2.1) g1]
    simp only[aa,aD.add,aD.F,k1,Bool.not_true,ag,ae]
    rw[aO (by omega),ag,eS (by omega) (by omega),dI (by omega),ag,gF (by omega) (by omega),bJ.L1.run (d:=(outs,sum+outs[k].1,(k:Int),0,outs[k].1,0,r.length,[],r)) ⟨rfl,k,0,h,rfl,rfl,Nat.zero_le _,hlk.1,hlk.2,rfl⟩]
    simp only[aa,bJ.L1.add,bJ.L1.F,Int.toNat_natCast,Int.toNat_zero,List.drop_zero,List.nil_append,n1,Nat.zero_add,true_and,Nat.le_refl,decide_true,ae,List.take_length,fb]
    rw[cS (by omega) (by omega),ae,N.j5 (by omega)]
    rfl
  ·right
   have hok2:j2 sum outs[k]=false:=by simpa using hok
   refine⟨bJ.L0.bp (),?_,fun kn kx=> ?_⟩
   rotate_left
   ·rw[bJ.L0.step,aW (by omega),ae,bm (by omega) (by omega),ae,Int.toNat_natCast,n1,aD.run (d:=outs[k].2.1) g1,eS (by omega) (by omega)]
    simp only[aa,aD.add,aD.F,ae]
    unfold j2 at hok2
    cases k1:iT outs[k].2.1 with
    |false=>rw[Bool.not_false,ae]
    |true=>
     rw[k1]at hok2
     simp only[Bool.true_and,decide_eq_false_iff_not]at hok2
     rw[Bool.not_true,ag]
     by_cases k2:outs[k].1 < 0
     ·rw[aW k2,ae]
     ·rw[aO k2,ag,dY (by omega),ae]
   ·simp only[bJ.L0.add,bJ.L0.F,Int.toNat_natCast,hd,na,hok2]
    rfl
 ·right
  obtain rfl:k=outs.length:=by omega
  refine⟨bJ.L0.fA (r.length,r),?_,fun kn kx=> ?_⟩
  ·simp only[bJ.L0.add,bJ.L0.F,Int.toNat_natCast,List.drop_length,na,List.map_nil,List.append_nil]
   rfl
  ·rw[bJ.L0.step,aO (by omega),ag]
theorem bJ.ok:bJ.Ok:=by
 intro outs hg
 rw[bJ.eq]
 simp only[bJ.add,bJ.F,qe]
 by_cases hl:outs.length≤256
 ·rw[dI (by omega),ag,bJ.L0.run (d:=(outs,0,0,0,[])) ⟨hg,hl,Int.le_refl 0,by show(0:Int)≤_;decide,rfl,0,Nat.zero_le _,rfl,rfl⟩]
  simp only[aa,bJ.L0.add,bJ.L0.F,Int.toNat_zero,List.drop_zero,List.nil_append,hl,if_true]
  cases na 0 0 outs with
  |none=>rfl
  |some a=>
   simp only[Sum.isLeft_inr,ag,Sum.getRight?_inr,aa,Nat.zero_add,true_and,Nat.le_refl,decide_true,ae,fb]
 ·rw[dY (by omega),ae]
  simp only[hl,if_false]
noncomputable def bJ.E:=Entry.BU [some (.slice fe)] bJ.st bJ.av bJ.add bJ.F bJ.out
noncomputable def bJ.call:bJ.D→Option bJ.X:=bS bJ.E bJ.st
theorem bJ.run:bM bJ.call bJ.av bJ.add bJ.F:=Bc (df [.d (.slice fe)] fun _=>by kernel_rfl)
noncomputable def bJ.sg:SG Tryz.prog:=⟨35,aR,bJ.E,.HE (.fn 2 (by kernel_rfl) bJ.ok (And.intro (.cD bJ.L0.ok (by kernel_rfl)) (And.intro (.cD bJ.L1.ok (by kernel_rfl)) trivial)))⟩
end Go.Ab
