/-
  Made short by a program of mine (wip/tools/mini.py).
-/
import Derived.Test.YtlpebgkekjfhaaaGreatS14x4
import Derived.Shelf.SlSortCmp.NoneTotal
import Derived.Test.YtlpebgkekjfhaaaGreatProg
set_option linter.unusedVariables false
set_option linter.unusedSimpArgs false
namespace Go.Ab
open Go.Proofs
set_option maxRecDepth 100000
set_option linter.unusedVariables false
set_option linter.unusedSimpArgs false
set_option synthInstance.maxSize 5000
abbrev ee.D:=(List gW)
def ee.st:ee.D→SA:=fun sv=>([.d (.slice ik) sv],[])
abbrev ee.Y:=Nat×(List gW)
abbrev ee.X:=Nat×(List gW)
def ee.out:ee.X→aX:=fun x=>⟨.bp (.new 0 0) 0 [] 0 0 x.1,[],[.obj 0 false (.vec 52 ik x.2)]⟩
def ee.add:ee.D→ee.Y→ee.X:=fun sv y=>y
def ee.az:ee.D→Prop:=fun l=>l.length≤1000000
def ee.F:ee.D→ee.Y:=fun l=>(l.length,l)
noncomputable def ee.G:dG:=eT (P:=Tryz.prog) []
noncomputable def ee.an:dX:= {bk:=[5],kk:=[⟨2,[],5,38⟩]}
noncomputable def ee.A:= @cR Tryz.prog ee.G ee.an 0 Tryz.f138 _ ee.st
abbrev ee.Ok:=cS @ee.A ee.az ee.add ee.F ee.out
theorem ee.eq{R:Type}(sv:(List gW))(k:aX→Option R):ee.A sv k=
  aP (decide (0 < (List.length sv))) (
   aP (dw (0+(List.length sv)) 80) (
   k (ee.out ((0+(List.length sv)),((List.take 0 (List.replicate 0 (((List.replicate 32 (0:Int)),((0:Int),())),(((0:Int),(([]:List Sg),((0:Int),()))),()))))++sv)))) none) (
   nd (
    k (ee.out (0,([]:List gW)))) (
    aP (dw (0+(List.length sv)) 80) (
    k (ee.out ((0+(List.length sv)),((List.take 0 (List.replicate 0 (((List.replicate 32 (0:Int)),((0:Int),())),(((0:Int),(([]:List Sg),((0:Int),()))),()))))++sv)))) none)):=by kernel_rfl
theorem ee.ok:ee.Ok:=by
 intro l hl
 have hl:l.length≤1000000:=hl
 have hr:dw l.length 80=true:=eG (by omega) (by omega)
 rw[ee.eq]
 simp only[Nat.zero_add,hr,ak,List.take_zero,List.nil_append,ee.add,ee.F]
 by_cases h:0 < l.length
 ·simp only[aW h,ak]
 ·have:l=[]:=List.eq_nil_of_length_eq_zero (by omega)
  subst this
  simp only[List.length_nil,lQ,bw (Nat.lt_irrefl 0),aw]
noncomputable def ee.E:=Entry.cM [some (.slice ik)] ee.st ee.az ee.add ee.F ee.out
noncomputable def ee.call:ee.D→Option ee.X:=bP ee.E ee.st
theorem ee.run:bK ee.call ee.az ee.add ee.F:=de (cW [.d (.slice ik)] fun _=>by kernel_rfl)
noncomputable def ee.sg:SG Tryz.prog:=⟨138,aV,ee.E,.fn 0 (by kernel_rfl) ee.ok trivial⟩
abbrev cZ.D:=(List fc)
def cZ.st:cZ.D→SA:=fun sv=>([.d (.slice fA) sv],[])
abbrev cZ.Y:=Nat×(List fc)
abbrev cZ.X:=Nat×(List fc)
def cZ.out:cZ.X→aX:=fun x=>⟨.bp (.new 0 0) 0 [] 0 0 x.1,[],[.obj 0 false (.vec 36 fA x.2)]⟩
def cZ.add:cZ.D→cZ.Y→cZ.X:=fun sv y=>y
def cZ.az:cZ.D→Prop:=fun l=>l.length≤1000000
def cZ.F:cZ.D→cZ.Y:=fun l=>(l.length,l)
noncomputable def cZ.G:dG:=eT (P:=Tryz.prog) []
noncomputable def cZ.an:dX:= {bk:=[5],kk:=[⟨2,[],5,37⟩]}
noncomputable def cZ.A:= @cR Tryz.prog cZ.G cZ.an 0 Tryz.f139 _ cZ.st
abbrev cZ.Ok:=cS @cZ.A cZ.az cZ.add cZ.F cZ.out
theorem cZ.eq{R:Type}(sv:(List fc))(k:aX→Option R):cZ.A sv k=
  aP (decide (0 < (List.length sv))) (
   aP (dw (0+(List.length sv)) 32) (
   k (cZ.out ((0+(List.length sv)),((List.take 0 (List.replicate 0 ((0:Int),((([]:List jN),()),()))))++sv)))) none) (
   nd (
    k (cZ.out (0,([]:List fc)))) (
    aP (dw (0+(List.length sv)) 32) (
    k (cZ.out ((0+(List.length sv)),((List.take 0 (List.replicate 0 ((0:Int),((([]:List jN),()),()))))++sv)))) none)):=by kernel_rfl
theorem cZ.ok:cZ.Ok:=by
 intro l hl
 have hl:l.length≤1000000:=hl
 have hr:dw l.length 32=true:=eG (by omega) (by omega)
 rw[cZ.eq]
 simp only[Nat.zero_add,hr,ak,List.take_zero,List.nil_append,cZ.add,cZ.F]
 by_cases h:0 < l.length
 ·simp only[aW h,ak]
 ·have:l=[]:=List.eq_nil_of_length_eq_zero (by omega)
  subst this
  simp only[List.length_nil,lQ,bw (Nat.lt_irrefl 0),aw]
noncomputable def cZ.E:=Entry.cM [some (.slice fA)] cZ.st cZ.az cZ.add cZ.F cZ.out
noncomputable def cZ.call:cZ.D→Option cZ.X:=bP cZ.E cZ.st
theorem cZ.run:bK cZ.call cZ.az cZ.add cZ.F:=de (cW [.d (.slice fA)] fun _=>by kernel_rfl)
noncomputable def cZ.sg:SG Tryz.prog:=⟨139,aV,cZ.E,.fn 0 (by kernel_rfl) cZ.ok trivial⟩
abbrev dP.D:=(List jN)
def dP.st:dP.D→SA:=fun sv=>([.d (.slice jy) sv],[])
abbrev dP.Y:=Nat×(List jN)
abbrev dP.X:=Nat×(List jN)
def dP.out:dP.X→aX:=fun x=>⟨.bp (.new 0 0) 0 [] 0 0 x.1,[],[.obj 0 false (.vec 29 jy x.2)]⟩
def dP.add:dP.D→dP.Y→dP.X:=fun sv y=>y
def dP.az:dP.D→Prop:=fun l=>l.length≤1000000
def dP.F:dP.D→dP.Y:=fun l=>(l.length,l)
noncomputable def dP.G:dG:=eT (P:=Tryz.prog) []
noncomputable def dP.an:dX:= {bk:=[5],kk:=[⟨2,[],5,32⟩]}
noncomputable def dP.A:= @cR Tryz.prog dP.G dP.an 0 Tryz.f141 _ dP.st
abbrev dP.Ok:=cS @dP.A dP.az dP.add dP.F dP.out
theorem dP.eq{R:Type}(sv:(List jN))(k:aX→Option R):dP.A sv k=
  aP (decide (0 < (List.length sv))) (
   aP (dw (0+(List.length sv)) 48) (
   k (dP.out ((0+(List.length sv)),((List.take 0 (List.replicate 0 (([]:List Int),((0:Int),((0:Int),((0:Int),()))))))++sv)))) none) (
   nd (
    k (dP.out (0,([]:List jN)))) (
    aP (dw (0+(List.length sv)) 48) (
    k (dP.out ((0+(List.length sv)),((List.take 0 (List.replicate 0 (([]:List Int),((0:Int),((0:Int),((0:Int),()))))))++sv)))) none)):=by kernel_rfl
theorem dP.ok:dP.Ok:=by
 intro l hl
 have hl:l.length≤1000000:=hl
 have hr:dw l.length 48=true:=eG (by omega) (by omega)
 rw[dP.eq]
 simp only[Nat.zero_add,hr,ak,List.take_zero,List.nil_append,dP.add,dP.F]
 by_cases h:0 < l.length
 ·simp only[aW h,ak]
 ·have:l=[]:=List.eq_nil_of_length_eq_zero (by omega)
  subst this
  simp only[List.length_nil,lQ,bw (Nat.lt_irrefl 0),aw]
noncomputable def dP.E:=Entry.cM [some (.slice jy)] dP.st dP.az dP.add dP.F dP.out
noncomputable def dP.call:dP.D→Option dP.X:=bP dP.E dP.st
theorem dP.run:bK dP.call dP.az dP.add dP.F:=de (cW [.d (.slice jy)] fun _=>by kernel_rfl)
noncomputable def dP.sg:SG Tryz.prog:=⟨141,aV,dP.E,.fn 0 (by kernel_rfl) dP.ok trivial⟩
abbrev da.D:=(List Sg)
def da.st:da.D→SA:=fun sv=>([.d (.slice u9) sv],[])
abbrev da.Y:=(List Sg)
abbrev da.X:=(List Sg)
def da.out:da.X→aX:=fun x=>⟨.d (.slice u9) x,[],[]⟩
def da.add:da.D→da.Y→da.X:=fun sv y=>y
def da.az:da.D→Prop:=fun l=>l.length≤1000000
def da.F:da.D→da.Y:=fun l=>l
noncomputable def da.G:dG:=eT (P:=Tryz.prog) []
noncomputable def da.an:dX:= {bk:=[5],res:=[some (.slice u9)]}
noncomputable def da.A:= @cR Tryz.prog da.G da.an 0 Tryz.f140 _ da.st
abbrev da.Ok:=cS @da.A da.az da.add da.F da.out
theorem da.eq{R:Type}(sv:(List Sg))(k:aX→Option R):da.A sv k=
  aP (decide (0 < (List.length sv))) (
   aP (dw (0+(List.length sv)) 16) (
   aP (decide (0=0∧(0+(0+(List.length sv)))≤(List.length ((List.take 0 (List.replicate 0 ((0:Int),((0:Int),()))))++sv)))) (
   k (da.out (cut ((List.take 0 (List.replicate 0 ((0:Int),((0:Int),()))))++sv) 0 (0+(List.length sv))))) none) none) (
   nd (
    k (da.out ([]:List Sg))) (
    aP (dw (0+(List.length sv)) 16) (
    aP (decide (0=0∧(0+(0+(List.length sv)))≤(List.length ((List.take 0 (List.replicate 0 ((0:Int),((0:Int),()))))++sv)))) (
    k (da.out (cut ((List.take 0 (List.replicate 0 ((0:Int),((0:Int),()))))++sv) 0 (0+(List.length sv))))) none) none)):=by kernel_rfl
theorem da.ok:da.Ok:=by
 intro l hl
 have hl:l.length≤1000000:=hl
 have hr:dw l.length 16=true:=eG (by omega) (by omega)
 rw[da.eq]
 simp only[Nat.zero_add,hr,ak,List.take_zero,List.nil_append,Nat.le_refl,and_self,decide_true,fm,da.add,da.F]
 by_cases h:0 < l.length
 ·simp only[aW h,ak]
 ·have:l=[]:=List.eq_nil_of_length_eq_zero (by omega)
  subst this
  simp only[List.length_nil,lQ,bw (Nat.lt_irrefl 0),aw]
noncomputable def da.E:=Entry.cM [some (.slice u9)] da.st da.az da.add da.F da.out
noncomputable def da.call:da.D→Option da.X:=bP da.E da.st
theorem da.run:bK da.call da.az da.add da.F:=de (cW [.d (.slice u9)] fun _=>by kernel_rfl)
noncomputable def da.sg:SG Tryz.prog:=⟨140,aV,da.E,.fn 0 (by kernel_rfl) da.ok trivial⟩
abbrev ae.L0.D:=Int×Int×Nat×Nat×(Int×Unit)×(Int×Unit)×(List gW)×(List fc)
def ae.L0.st:ae.L0.D→AS:=fun(t17,t18,n1L,n1L_2,n1,n2,n9,n12)=>⟨([.undef,.ptr (.new 1 0) 0 [] 0,.ptr (.new 2 0) 0 [] 0]++bl 14 ([.d ti t17,.d ti t18]++bl 56 [])),[],([[],[.obj 0 false (.pr (.bp (.new 9 0) 0 [] 0 0 n1L) (.pr (.bp (.new 12 0) 0 [] 0 0 n1L_2) (.d (.pair ti .unit) n1)))],[.obj 0 false (.pr (.dv) (.pr (.dv) (.d (.pair ti .unit) n2)))]]++cj 6 ([[.obj 0 false (.vec 52 ik n9)],[],[],[.obj 0 false (.vec 36 fA n12)]]++cj 62 []))⟩
abbrev ae.L0.Y0:=(List gW)
abbrev ae.L0.X0:=(Nat×Nat×(Int×Unit)×(Int×Unit)×(List fc))×((List gW))
def ae.L0.bE:ae.L0.X0→Exit×AS:=fun x=>(.exit 0,⟨([.undef,.ptr (.new 1 0) 0 [] 0,.ptr (.new 2 0) 0 [] 0]++bl 72 []),[],([[],[.obj 0 false (.pr (.bp (.new 9 0) 0 [] 0 0 x.1.1) (.pr (.bp (.new 12 0) 0 [] 0 0 x.1.2.1) (.d (.pair ti .unit) x.1.2.2.1)))],[.obj 0 false (.pr (.dv) (.pr (.dv) (.d (.pair ti .unit) x.1.2.2.2.1)))]]++cj 6 ([[.obj 0 false (.vec 52 ik x.2)],[],[],[.obj 0 false (.vec 36 fA x.1.2.2.2.2)]]++cj 62 []))⟩)
abbrev ae.L0.X:=ae.L0.X0
abbrev ae.L0.Y:=ae.L0.Y0
def ae.L0.out:ae.L0.X→Out (Exit×AS):=fun x=> .ok (ae.L0.bE x)
def ae.L0.add:ae.L0.D→ae.L0.Y→ae.L0.X:=fun(t17,t18,n1L,n1L_2,n1,n2,n9,n12) y=>((n1L,n1L_2,n1,n2,n12),y)
abbrev ae.L1.D:=Int×Int×Nat×Nat×(Int×Unit)×(Int×Unit)×(List gW)×(List fc)
def ae.L1.st:ae.L1.D→AS:=fun(t38,t39,n1L_3,n1L_4,n1_2,n2_2,n9_2,n12_2)=>⟨([.undef,.ptr (.new 1 0) 0 [] 0,.ptr (.new 2 0) 0 [] 0]++bl 35 ([.d ti t38,.d ti t39]++bl 35 [])),[],([[],[.obj 0 false (.pr (.bp (.new 9 0) 0 [] 0 0 n1L_3) (.pr (.bp (.new 12 0) 0 [] 0 0 n1L_4) (.d (.pair ti .unit) n1_2)))],[.obj 0 false (.pr (.dv) (.pr (.dv) (.d (.pair ti .unit) n2_2)))]]++cj 6 ([[.obj 0 false (.vec 52 ik n9_2)],[],[],[.obj 0 false (.vec 36 fA n12_2)]]++cj 62 []))⟩
abbrev ae.L1.Y0:=Nat×Nat×(Int×Unit)×(Int×Unit)×(List gW)×(List fc)
abbrev ae.L1.X0:=Nat×Nat×(Int×Unit)×(Int×Unit)×(List gW)×(List fc)
def ae.L1.bE:ae.L1.X0→Exit×AS:=fun x=>(.exit 2,⟨([.undef,.ptr (.new 1 0) 0 [] 0,.ptr (.new 2 0) 0 [] 0]++bl 72 []),[],([[],[.obj 0 false (.pr (.bp (.new 9 0) 0 [] 0 0 x.1) (.pr (.bp (.new 12 0) 0 [] 0 0 x.2.1) (.d (.pair ti .unit) x.2.2.1)))],[.obj 0 false (.pr (.dv) (.pr (.dv) (.d (.pair ti .unit) x.2.2.2.1)))]]++cj 6 ([[.obj 0 false (.vec 52 ik x.2.2.2.2.1)],[],[],[.obj 0 false (.vec 36 fA x.2.2.2.2.2)]]++cj 62 []))⟩)
abbrev ae.L1.X:=ae.L1.X0
abbrev ae.L1.Y:=ae.L1.Y0
def ae.L1.out:ae.L1.X→Out (Exit×AS):=fun x=> .ok (ae.L1.bE x)
def ae.L1.add:ae.L1.D→ae.L1.Y→ae.L1.X:=fun(t38,t39,n1L_3,n1L_4,n1_2,n2_2,n9_2,n12_2) y=>y
abbrev ae.L2.D:=Int×Nat×Int×Int×Int×Int×Nat×Nat×(Int×Unit)×(Int×Unit)×(List gW)×(List fc)×(List jN)
def ae.L2.st:ae.L2.D→AS:=fun(kv,lL,t38_2,t39_2,t51,t52,n1L_5,n1L_6,n1_3,n2_3,n9_3,n12_3,n49)=>⟨([.undef,.ptr (.new 1 0) 0 [] 0,.ptr (.new 2 0) 0 [] 0,.undef,.d ti kv,.bp (.new 49 0) 0 [] 0 0 lL]++bl 32 ([.d ti t38_2,.d ti t39_2]++bl 11 ([.d ti t51,.d ti t52]++bl 22 []))),[],([[],[.obj 0 false (.pr (.bp (.new 9 0) 0 [] 0 0 n1L_5) (.pr (.bp (.new 12 0) 0 [] 0 0 n1L_6) (.d (.pair ti .unit) n1_3)))],[.obj 0 false (.pr (.dv) (.pr (.dv) (.d (.pair ti .unit) n2_3)))]]++cj 6 ([[.obj 0 false (.vec 52 ik n9_3)],[],[],[.obj 0 false (.vec 36 fA n12_3)]]++cj 36 ([[.obj 0 false (.vec 29 jy n49)]]++cj 25 [])))⟩
abbrev ae.L2.Y0:=(List jN)×(List jN)
abbrev ae.L2.X0:=(Int×Int×Int×Nat×Nat×(Int×Unit)×(Int×Unit)×(List gW)×(List fc))×((List jN)×(List jN))
def ae.L2.bE:ae.L2.X0→Exit×AS:=fun x=>(.exit 4,⟨([.undef,.ptr (.new 1 0) 0 [] 0,.ptr (.new 2 0) 0 [] 0,.undef,.d ti x.1.1,.d (.slice jy) x.2.1]++bl 32 ([.d ti x.1.2.1,.d ti x.1.2.2.1]++bl 35 [])),[],([[],[.obj 0 false (.pr (.bp (.new 9 0) 0 [] 0 0 x.1.2.2.2.1) (.pr (.bp (.new 12 0) 0 [] 0 0 x.1.2.2.2.2.1) (.d (.pair ti .unit) x.1.2.2.2.2.2.1)))],[.obj 0 false (.pr (.dv) (.pr (.dv) (.d (.pair ti .unit) x.1.2.2.2.2.2.2.1)))]]++cj 6 ([[.obj 0 false (.vec 52 ik x.1.2.2.2.2.2.2.2.1)],[],[],[.obj 0 false (.vec 36 fA x.1.2.2.2.2.2.2.2.2)]]++cj 36 ([[.obj 0 true (.vec 29 jy x.2.2)]]++cj 25 [])))⟩)
abbrev ae.L2.X:=ae.L2.X0
abbrev ae.L2.Y:=ae.L2.Y0
def ae.L2.out:ae.L2.X→Out (Exit×AS):=fun x=> .ok (ae.L2.bE x)
def ae.L2.add:ae.L2.D→ae.L2.Y→ae.L2.X:=fun(kv,lL,t38_2,t39_2,t51,t52,n1L_5,n1L_6,n1_3,n2_3,n9_3,n12_3,n49) y=>((kv,t38_2,t39_2,n1L_5,n1L_6,n1_3,n2_3,n9_3,n12_3),y)
abbrev ae.D:=fg
def ae.st:ae.D→SA:=fun t=>([.d jz t],[])
abbrev ae.Y:=Nat×((List fc)×(Int×Unit))×(List gW)
abbrev ae.X:=Nat×((List fc)×(Int×Unit))×(List gW)
def ae.out:ae.X→aX:=fun x=>⟨.pr (.bp (.new 0 0) 0 [] 0 0 x.1) (.d (.pair (.slice fA) (.pair ti .unit)) x.2.1),[],[.obj 0 false (.vec 52 ik x.2.2)]⟩
def ae.add:ae.D→ae.Y→ae.X:=fun t y=>y
def ae.L0.az:ae.L0.D→Prop:=fun(m,i,L,L2,u,v,l,os)=>(l.length≤1000∧∀x∈l,x.2.1.2.1.length≤1000000)∧∃k:Nat,k≤l.length∧i=k∧m=l.length∧L=l.length
def ae.L0.F:ae.L0.D→ae.L0.Y:=fun(m,i,L,L2,u,v,l,os)=>l
def ae.L2.az:ae.L2.D→Prop:=fun(kv,L,m1,i1,m,i,L5,L6,u,v,ls,os,bs)=>(bs.length≤1000∧∀x∈bs,x.1.length≤1000000)∧∃k:Nat,k≤bs.length∧i=k∧m=bs.length∧L=bs.length
def ae.L2.F:ae.L2.D→ae.L2.Y:=fun(kv,L,m1,i1,m,i,L5,L6,u,v,ls,os,bs)=>(bs,bs)
def ae.L1.az:ae.L1.D→Prop:=fun(m,i,L3,L,u,v,ls,os)=>(os.length≤1000∧∀x∈os,x.2.1.1.length≤1000∧∀b∈x.2.1.1,b.1.length≤1000000)∧∃k:Nat,k≤os.length∧i=k∧m=os.length∧L=os.length
def ae.L1.F:ae.L1.D→ae.L1.Y:=fun(m,i,L3,L,u,v,ls,os)=>(L3,L,u,v,ls,os)
def ae.az:ae.D→Prop:=fun t=>fB t=true
def ae.F:ae.D→ae.Y:=fun t=>(t.1.length,(t.2.1,t.2.2),t.1)
noncomputable def ae.G:dG:=eT (P:=Tryz.prog) [ee.sg,cZ.sg,da.sg,dP.sg,bT.sg]
noncomputable def ae.L0.E:=bW.cM ae.L0.st ae.L0.az ae.L0.add ae.L0.F ae.L0.out
noncomputable def ae.L0.call:ae.L0.D→Option ae.L0.X:=dF ae.L0.E ae.L0.st
noncomputable def ae.L1.E:=bW.cM ae.L1.st ae.L1.az ae.L1.add ae.L1.F ae.L1.out
noncomputable def ae.L1.call:ae.L1.D→Option ae.L1.X:=dF ae.L1.E ae.L1.st
noncomputable def ae.L2.E:=bW.cM ae.L2.st ae.L2.az ae.L2.add ae.L2.F ae.L2.out
noncomputable def ae.L2.call:ae.L2.D→Option ae.L2.X:=dF ae.L2.E ae.L2.st
noncomputable def ae.an:dX:= {bk:=[1],loops:=l7 [(3,{bn:=[1,2,17,18],sites:=[1,2,9,12]}),(8,{bn:=[1,2,38,39],sites:=[1,2,9,12]}),(12,{bn:=[1,2,4,5,38,39,51,52],sites:=[1,2,9,12,49]})],outs:=l6 [(3,{bn:=[1,2],sites:=[1,2,9,12]},{bn:=[2]}),(8,{bn:=[1,2],sites:=[1,2,9,12]},{bn:=[2]}),(12,{bn:=[1,2,4,5,38,39],sites:=[1,2,9,12,49],data:=[(5,(.slice jy))]},{bn:=[2]})],fK:=mU [(3,ae.L0.E),(8,ae.L1.E),(12,ae.L2.E)],AM:=[⟨2,[.snd,.fst],(.slice fA)⟩]}
noncomputable def ae.A:= @cR Tryz.prog ae.G ae.an 0 Tryz.f70 _ ae.st
abbrev ae.Ok:=cS @ae.A ae.az ae.add ae.F ae.out
noncomputable def ae.L0.R:= @cz Tryz.prog ae.G ae.an 0 Tryz.f70 0 _ ae.L0.st
abbrev ae.L0.Ok:=eK Tryz.prog ae.G ae.an 0 Tryz.f70 0 ae.L0.st ae.L0.az ae.L0.add ae.L0.F ae.L0.out
noncomputable def ae.L1.R:= @cz Tryz.prog ae.G ae.an 0 Tryz.f70 1 _ ae.L1.st
abbrev ae.L1.Ok:=eK Tryz.prog ae.G ae.an 0 Tryz.f70 1 ae.L1.st ae.L1.az ae.L1.add ae.L1.F ae.L1.out
noncomputable def ae.L2.R:= @cz Tryz.prog ae.G ae.an 0 Tryz.f70 2 _ ae.L2.st
abbrev ae.L2.Ok:=eK Tryz.prog ae.G ae.an 0 Tryz.f70 2 ae.L2.st ae.L2.az ae.L2.add ae.L2.F ae.L2.out
theorem ae.L0.run:bK ae.L0.call ae.L0.az ae.L0.add ae.L0.F:=eU (eQ [.d ti,.d ti,.n,.n,.d (.pair ti .unit),.d (.pair ti .unit),.d (.slice ik),.d (.slice fA)] fun _=>by kernel_rfl)
theorem ae.L0.aK:fZ @ae.L0.R ae.L0.st ae.L0.az ae.L0.add ae.L0.F ae.L0.bE ae.L0.Ok:=gv
theorem ae.L0.step{R:Type}(t17:Int)(t18:Int)(n1L:Nat)(n1L_2:Nat)(n1:(Int×Unit))(n2:(Int×Unit))(n9:(List gW))(n12:(List fc))(kn:AS→Option R)(kx:Exit→AS→Option R):ae.L0.R (t17,t18,n1L,n1L_2,n1,n2,n9,n12) kn kx=
  aP ((gE t18 t17)) (
   aP (fo t18 ((n1L:Nat):Int)) (
   aP (decide ((0+(Int.toNat t18)) < (List.length n9))) (
   aP (decide ((((0+(Int.toNat t18))*36)+34)=(((0+((Int.toNat t18)*36))+33)+1))) (
   au (da.call (nth ik n9 (0+(Int.toNat t18))).2.1.2.1) fun x1=>
   aP (fo t18 ((n1L:Nat):Int)) (
   aP (decide ((0+(Int.toNat t18)) < (List.length n9))) (
   aP (decide ((((0+(Int.toNat t18))*36)+34)=(((0+((Int.toNat t18)*36))+33)+1))) (
   aP (decide ((0+(Int.toNat t18)) < (List.length n9))) (
   kn (ae.L0.st (t17,(b8 .i64 t18 (1:Int)),n1L,n1L_2,n1,n2,(List.set n9 (0+(Int.toNat t18)) ((nth ik n9 (0+(Int.toNat t18))).1,(((nth ik n9 (0+(Int.toNat t18))).2.1.1,(x1,(nth ik n9 (0+(Int.toNat t18))).2.1.2.2)),(nth ik n9 (0+(Int.toNat t18))).2.2))),n12))) none) none) none) none) none) none) none) (
   kx (ae.L0.bE ((n1L,n1L_2,n1,n2,n12),n9)).1 (ae.L0.bE ((n1L,n1L_2,n1,n2,n12),n9)).2):=by kernel_rfl
theorem ae.L1.run:bK ae.L1.call ae.L1.az ae.L1.add ae.L1.F:=eU (eQ [.d ti,.d ti,.n,.n,.d (.pair ti .unit),.d (.pair ti .unit),.d (.slice ik),.d (.slice fA)] fun _=>by kernel_rfl)
theorem ae.L1.aK:fZ @ae.L1.R ae.L1.st ae.L1.az ae.L1.add ae.L1.F ae.L1.bE ae.L1.Ok:=gv
theorem ae.L1.step{R:Type}(t38:Int)(t39:Int)(n1L_3:Nat)(n1L_4:Nat)(n1_2:(Int×Unit))(n2_2:(Int×Unit))(n9_2:(List gW))(n12_2:(List fc))(kn:AS→Option R)(kx:Exit→AS→Option R):ae.L1.R (t38,t39,n1L_3,n1L_4,n1_2,n2_2,n9_2,n12_2) kn kx=
  aP ((gE t39 t38)) (
   aP (fo t39 ((n1L_4:Nat):Int)) (
   aP (decide ((0+(Int.toNat t39)) < (List.length n12_2))) (
   aP (decide ((((0+(Int.toNat t39))*2)+1)=(((0+((Int.toNat t39)*2))+1)+0))) (
   au (dP.call (nth fA n12_2 (0+(Int.toNat t39))).2.1.1) fun x1=>
   au (ae.L2.call (t39,x1.1,t38,t39,((x1.1:Nat):Int),(0:Int),n1L_3,n1L_4,n1_2,n2_2,n9_2,n12_2,x1.2)) fun x2=>
   aP (fo x2.1.1 ((x2.1.2.2.2.2.1:Nat):Int)) (
   aP (decide ((0+(Int.toNat x2.1.1)) < (List.length x2.1.2.2.2.2.2.2.2.2))) (
   aP (decide ((((0+(Int.toNat x2.1.1))*2)+1)=(((0+((Int.toNat x2.1.1)*2))+1)+0))) (
   aP (decide ((0+(Int.toNat x2.1.1)) < (List.length x2.1.2.2.2.2.2.2.2.2))) (
   kn (ae.L1.st (x2.1.2.1,(b8 .i64 x2.1.2.2.1 (1:Int)),x2.1.2.2.2.1,x2.1.2.2.2.2.1,x2.1.2.2.2.2.2.1,x2.1.2.2.2.2.2.2.1,x2.1.2.2.2.2.2.2.2.1,(List.set x2.1.2.2.2.2.2.2.2.2 (0+(Int.toNat x2.1.1)) ((nth fA x2.1.2.2.2.2.2.2.2.2 (0+(Int.toNat x2.1.1))).1,((x2.2.1,(nth fA x2.1.2.2.2.2.2.2.2.2 (0+(Int.toNat x2.1.1))).2.1.2),(nth fA x2.1.2.2.2.2.2.2.2.2 (0+(Int.toNat x2.1.1))).2.2)))))) none) none) none) none) none) none) none) (
   kx (ae.L1.bE (n1L_3,n1L_4,n1_2,n2_2,n9_2,n12_2)).1 (ae.L1.bE (n1L_3,n1L_4,n1_2,n2_2,n9_2,n12_2)).2):=by kernel_rfl
theorem ae.L2.run:bK ae.L2.call ae.L2.az ae.L2.add ae.L2.F:=eU (eQ [.d ti,.n,.d ti,.d ti,.d ti,.d ti,.n,.n,.d (.pair ti .unit),.d (.pair ti .unit),.d (.slice ik),.d (.slice fA),.d (.slice jy)] fun _=>by kernel_rfl)
theorem ae.L2.aK:fZ @ae.L2.R ae.L2.st ae.L2.az ae.L2.add ae.L2.F ae.L2.bE ae.L2.Ok:=gv
theorem ae.L2.step{R:Type}(kv:Int)(lL:Nat)(t38_2:Int)(t39_2:Int)(t51:Int)(t52:Int)(n1L_5:Nat)(n1L_6:Nat)(n1_3:(Int×Unit))(n2_3:(Int×Unit))(n9_3:(List gW))(n12_3:(List fc))(n49:(List jN))(kn:AS→Option R)(kx:Exit→AS→Option R):ae.L2.R (kv,lL,t38_2,t39_2,t51,t52,n1L_5,n1L_6,n1_3,n2_3,n9_3,n12_3,n49) kn kx=
  aP ((gE t52 t51)) (
   aP (fo t52 ((lL:Nat):Int)) (
   aP (decide ((0+(Int.toNat t52)) < (List.length n49))) (
   aP (decide ((((0+(Int.toNat t52))*4)+0)=((0+((Int.toNat t52)*4))+0))) (
   au (bT.call (nth jy n49 (0+(Int.toNat t52))).1) fun x1=>
   aP (fo t52 ((lL:Nat):Int)) (
   aP (decide ((0+(Int.toNat t52)) < (List.length n49))) (
   aP (decide ((((0+(Int.toNat t52))*4)+0)=((0+((Int.toNat t52)*4))+0))) (
   aP (decide ((0+(Int.toNat t52)) < (List.length n49))) (
   kn (ae.L2.st (kv,lL,t38_2,t39_2,t51,(b8 .i64 t52 (1:Int)),n1L_5,n1L_6,n1_3,n2_3,n9_3,n12_3,(List.set n49 (0+(Int.toNat t52)) (x1,(nth jy n49 (0+(Int.toNat t52))).2))))) none) none) none) none) none) none) none) (
   aP (decide (0=0∧(0+lL)≤(List.length n49))) (
   kx (ae.L2.bE ((kv,t38_2,t39_2,n1L_5,n1L_6,n1_3,n2_3,n9_3,n12_3),((cut n49 0 lL),n49))).1 (ae.L2.bE ((kv,t38_2,t39_2,n1L_5,n1L_6,n1_3,n2_3,n9_3,n12_3),((cut n49 0 lL),n49))).2) none):=by kernel_rfl
theorem ae.eq{R:Type}(t:fg)(k:aX→Option R):ae.A t k=
 au (ee.call t.1) fun x1=>
 au (cZ.call t.2.1) fun x2=>
 au (ae.L0.call (((x1.1:Nat):Int),(0:Int),x1.1,x2.1,t.2.2,((0:Int),()),x1.2,x2.2)) fun x4=>
 au (ae.L1.call (((x4.1.2.1:Nat):Int),(0:Int),x4.1.1,x4.1.2.1,x4.1.2.2.1,x4.1.2.2.2.1,x4.2,x4.1.2.2.2.2)) fun x8=>
 aP (decide (0=0∧(0+x8.2.1)≤(List.length x8.2.2.2.2.2))) (
 k (ae.out (x8.1,((cut x8.2.2.2.2.2 0 x8.2.1),x8.2.2.1),x8.2.2.2.2.1))) none:=by kernel_rfl
theorem ae.L0.ok:ae.L0.Ok:=by
 refine ae.L0.aK (fun(m,i,L,L2,u,v,l,os)=>l.length - Int.toNat i) ?_
 rintro⟨m,i,L,L2,u,v,l,os⟩ ⟨⟨hlen,hx⟩,k,hk,rfl,rfl,rfl⟩
 have hlen:l.length≤1000:=hlen
 have hk:k≤l.length:=hk
 by_cases h:k < l.length
 ·left
  have n1:nth ik l k=l[k]:=cX (t:=ik) h
  have hs:l.set k l[k]=l:=List.set_getElem_self h
  have e:=hx _ (List.getElem_mem h)
  refine⟨((l.length:Int),((k+1:Nat):Int),l.length,L2,u,v,l,os),⟨⟨hlen,hx⟩,k+1,by omega,rfl,rfl,rfl⟩,by simp only[Int.toNat_natCast];omega,rfl,fun kn kx=> ?_⟩
  rw[ae.L0.step,bq (by omega),bu (by omega) (by omega)]
  simp only[Int.toNat_natCast,Nat.zero_add,Nat.add_zero,Nat.add_assoc,Nat.reduceAdd,ak,aW h,decide_true,n1]
  rw[da.run (d:=l[k].2.1.2.1) e]
  simp only[aa,da.add,da.F]
  rw[N.nj (by omega)]
  exact congrArg (fun z=>kn (ae.L0.st (_,_,_,_,_,_,z,_))) hs
 ·right
  obtain rfl:k=l.length:=by omega
  intro R kn kx
  rw[ae.L0.step,bm (by omega),aw]
  rfl
theorem ae.L2.ok:ae.L2.Ok:=by
 refine ae.L2.aK (fun(kv,L,m1,i1,m,i,L5,L6,u,v,ls,os,bs)=>bs.length - Int.toNat i) ?_
 rintro⟨kv,L,m1,i1,m,i,L5,L6,u,v,ls,os,bs⟩ ⟨⟨hlen,hx⟩,k,hk,rfl,rfl,rfl⟩
 have hlen:bs.length≤1000:=hlen
 have hk:k≤bs.length:=hk
 by_cases h:k < bs.length
 ·left
  have n1:nth jy bs k=bs[k]:=cX (t:=jy) h
  have hs:bs.set k bs[k]=bs:=List.set_getElem_self h
  have e:=hx _ (List.getElem_mem h)
  refine⟨(kv,bs.length,m1,i1,(bs.length:Int),((k+1:Nat):Int),L5,L6,u,v,ls,os,bs),⟨⟨hlen,hx⟩,k+1,by omega,rfl,rfl,rfl⟩,by simp only[Int.toNat_natCast];omega,rfl,fun kn kx=> ?_⟩
  rw[ae.L2.step,bq (by omega),bu (by omega) (by omega)]
  simp only[Int.toNat_natCast,Nat.zero_add,Nat.add_zero,Nat.add_assoc,Nat.reduceAdd,ak,aW h,decide_true,n1]
  rw[bT.run (d:=bs[k].1) e]
  simp only[aa,bT.add,bT.F]
  rw[N.nj (by omega)]
  exact congrArg (fun z=>kn (ae.L2.st (_,_,_,_,_,_,_,_,_,_,_,_,z))) hs
 ·right
  obtain rfl:k=bs.length:=by omega
  intro R kn kx
  rw[ae.L2.step,bm (by omega),aw]
  simp only[Nat.zero_add,Nat.le_refl,and_self,decide_true,ak,fm]
  rfl
theorem ae.L1.ok:ae.L1.Ok:=by
 refine ae.L1.aK (fun(m,i,L3,L,u,v,ls,os)=>os.length - Int.toNat i) ?_
 rintro⟨m,i,L3,L,u,v,ls,os⟩ ⟨⟨hlen,hx⟩,k,hk,rfl,rfl,rfl⟩
 have hlen:os.length≤1000:=hlen
 have hk:k≤os.length:=hk
 by_cases h:k < os.length
 ·left
  have n1:nth fA os k=os[k]:=cX (t:=fA) h
  have hs:os.set k os[k]=os:=List.set_getElem_self h
  have e:=hx _ (List.getElem_mem h)
  refine⟨((os.length:Int),((k+1:Nat):Int),L3,os.length,u,v,ls,os),⟨⟨hlen,hx⟩,k+1,by omega,rfl,rfl,rfl⟩,by simp only[Int.toNat_natCast];omega,rfl,fun kn kx=> ?_⟩
  rw[ae.L1.step,bq (by omega),bu (by omega) (by omega)]
  simp only[Int.toNat_natCast,Nat.zero_add,Nat.add_zero,Nat.add_assoc,Nat.reduceAdd,ak,aW h,decide_true,n1]
  rw[dP.run (d:=os[k].2.1.1) (by show os[k].2.1.1.length≤_;have:=e.1;omega)]
  simp only[aa,dP.add,dP.F]
  rw[ae.L2.run (d:=((k:Int),os[k].2.1.1.length,(os.length:Int),(k:Int),(os[k].2.1.1.length:Int),0,L3,os.length,u,v,ls,os,os[k].2.1.1)) ⟨e,0,Nat.zero_le _,rfl,rfl,rfl⟩]
  simp only[aa,ae.L2.add,ae.L2.F,Int.toNat_natCast,n1,ak,aW h,bu (show(0:Int)≤(k:Int) by omega) (show(k:Int) < (os.length:Int) by omega)]
  rw[N.nj (by omega)]
  exact congrArg (fun z=>kn (ae.L1.st (_,_,_,_,_,_,_,z))) hs
 ·right
  obtain rfl:k=os.length:=by omega
  intro R kn kx
  rw[ae.L1.step,bm (by omega),aw]
  rfl
theorem rK{l:Lk}(h:jn l=true):l.1.length≤4∧∀b∈l.1,b.1.length≤12:=by
 unfold jn at h
 simp only[Bool.and_eq_true,List.all_eq_true,decide_eq_true_eq]at h
 refine⟨h.2.2,fun b hb=> ?_⟩
 have:=h.1 b hb
 unfold nb at this
 simp only[Bool.and_eq_true,decide_eq_true_eq]at this
 exact this.1
theorem ae.ok:ae.Ok:=by
 rintro⟨is,os,nt,u⟩ hok
 obtain⟨⟨_,a2,a3,_⟩,b1,b2⟩:=iJ hok
 have a2:is.length≤64:=a2
 have a3:os.length≤64:=a3
 rw[ae.eq,ee.run (d:=is) (by show is.length≤_;omega),cZ.run (d:=os) (by show os.length≤_;omega)]
 simp only[aa,ee.add,ee.F,cZ.add,cZ.F]
 rw[ae.L0.run (d:=(is.length,0,is.length,os.length,(nt,u),(0,()),is,os)) ⟨⟨by show is.length≤_;omega,fun x hx=>by have:=(A4 (oG _ _ b1 x hx)).2.2.2.2;omega⟩,0,Nat.zero_le _,rfl,rfl,rfl⟩]
 simp only[aa,ae.L0.add,ae.L0.F]
 rw[ae.L1.run (d:=(os.length,0,is.length,os.length,(nt,u),(0,()),is,os)) ⟨⟨by show os.length≤_;omega,fun x hx=>by
  have:=rK (iZ _ _ b2 x hx).2
  exact⟨by omega,fun b hb=>by have:=this.2 b hb;omega⟩⟩,0,Nat.zero_le _,rfl,rfl,rfl⟩]
 simp only[aa,ae.L1.add,ae.L1.F,Nat.zero_add,Nat.le_refl,and_self,decide_true,ak,fm]
 rfl
noncomputable def ae.E:=Entry.cM [some jz] ae.st ae.az ae.add ae.F ae.out
noncomputable def ae.call:ae.D→Option ae.X:=bP ae.E ae.st
theorem ae.run:bK ae.call ae.az ae.add ae.F:=de (cW [.d jz] fun _=>by kernel_rfl)
noncomputable def ae.sg:SG Tryz.prog:=⟨70,aV,ae.E,.fn 3 (by kernel_rfl) ae.ok (And.intro (.cM ae.L0.ok (by kernel_rfl)) (And.intro (.cM ae.L1.ok (by kernel_rfl)) (And.intro (.cM ae.L2.ok (by kernel_rfl)) trivial)))⟩
set_option synthInstance.maxSize 5000
theorem oU(x:Int)(m:Int):∀k:Nat,(x%m)^k%m=x^k%m
 | 0=>by rw[Int.pow_zero,Int.pow_zero]
 |k+1=>by rw[Int.pow_succ,Int.pow_succ,Int.mul_emod,oU x m k,Int.emod_emod_of_dvd _ (Int.dvd_refl m),←Int.mul_emod]
theorem Ee(a:Int)(k:Nat):(a*a)^k=a^(2*k):=by
 rw[Int.pow_mul,Int.pow_succ,Int.pow_succ,Int.pow_zero,Int.one_mul]
theorem BF:∀(f:Nat) (a:Int) (n:Nat) (out:Int),n < 2^f→Pn out→yW f a n out=out*a^n%4611686018427377339
 | 0,a,n,out,h,ho=>by
  obtain rfl:n=0:=by omega
  rw[lu,Int.pow_zero,Int.mul_one,Int.emod_eq_of_lt ho.1 ho.2]
 |f+1,a,n,out,h,ho=>by
  have e:(2:Nat)^(f+1)=2^f*2:=Nat.pow_succ 2 f
  rw[yW]
  split
  ·rename_i h0
   subst h0
   rw[Int.pow_zero,Int.mul_one,Int.emod_eq_of_lt ho.1 ho.2]
  ·have hp:Pn (if n%2=1 then iN out a else out):=by
    split
    ·exact kI _ _
    ·exact ho
   rw[BF f _ _ _ (by omega) hp,Int.mul_emod]
   have e1:(iN a a)^(n / 2)%4611686018427377339=a^(2*(n / 2))%4611686018427377339:=by
    unfold iN
    rw[oU,Ee]
   have e2:(if n%2=1 then iN out a else out)%4611686018427377339=(out*a^(n%2))%4611686018427377339:=by
    split
    ·rename_i h1
     rw[h1,Int.pow_succ,Int.pow_zero,Int.one_mul]
     exact Int.emod_emod_of_dvd _ (Int.dvd_refl _)
    ·have h1:n%2=0:=by omega
     rw[h1,Int.pow_zero,Int.mul_one]
   rw[e1,e2,←Int.mul_emod,Int.mul_assoc,←Int.pow_add]
   have e3:n%2+2*(n / 2)=n:=by omega
   rw[e3]
theorem rY(a:Int)(n:Nat)(h:n < 18446744073709551616):pw a n=a^n%4611686018427377339:=by
 unfold pw
 rw[BF 64 a n 1 h ⟨by omega,by omega⟩,Int.one_mul]
theorem one_pow(k:Nat):(1:Int)^k=1:=Int.one_pow
theorem BH(a:Int)(k q:Nat)(hk:k < 18446744073709551616)(hq:q < 18446744073709551616)(h:pw a q=1):pw (pw a k) q=1:=by
 rw[rY _ _ hq]at h
 rw[rY _ _ hq,rY _ _ hk,oU,←Int.pow_mul,Nat.mul_comm,Int.pow_mul,←oU,h,one_pow]
 rfl
theorem tD:pw 4 2305843009213688669=1:=by decide+kernel
theorem zX:pw 1 2305843009213688669=1:=by decide+kernel
theorem Cz:kU 4=true:=by rw[kU,tD];rfl
theorem oH:kU 1=true:=by rw[kU,zX];rfl
theorem CG:wz 1=1:=by
 have e:pw 1 2305843009213688668=1:=by decide+kernel
 rw[wz,tk,oH]
 exact e
theorem uW{a:Int}(h:Pn a)(q:Nat)(hq:0 < q)(hq2:q < 18446744073709551616)(hp:pw a q=1):0 < a:=by
 rcases Int.lt_or_eq_of_le h.1 with h0 | h0
 ·exact h0
 ·subst h0
  rw[rY _ _ hq2,Int.zero_pow (by omega)]at hp
  cases hp
theorem DR{a:Int}(h:Pn a)(hp:pw a 2305843009213688669=1):kU a=true:=by
 have h0:=uW h 2305843009213688669 (by decide) (by decide) hp
 rw[kU,hp,decide_eq_true ⟨h0,h.2⟩];rfl
theorem zD{a:Int}(h:kU a=true):pw a 2305843009213688669=1∧Pn a:=by
 rw[kU,Bool.and_eq_true,decide_eq_true_eq,decide_eq_true_eq]at h
 exact⟨h.2,by omega,h.1.2⟩
theorem DS{a:Int}(h:kU a=true)(k:Nat)(hk:k < 18446744073709551616):kU (pw a k)=true:=
 DR (wM _ _) (BH a k _ hk (by decide) (zD h).1)
theorem DT(a:Int):kU (tk a)=true:=by
 unfold tk
 cases h:kU a
 ·exact oH
 ·exact h
theorem zF(p k:Int):kU (lV p k)=true:=DS (DT p) _ (by omega)
theorem sz{a:Int}(h:kU a=true):tk a=a:=by rw[tk,h];rfl
theorem rE(k:Int):kU (dN k)=true:=zF 4 k
theorem wy{a:Int}(h:Pn a):iN a 1=a:=by rw[iN,Int.mul_one,Int.emod_eq_of_lt h.1 h.2]
set_option synthInstance.maxSize 5000
def pm(m:Nat):Nat→Nat→Nat→Nat→Nat
 | 0,_,_,out=>out%m
 |f+1,a,n,out=>if n=0 then out%m else pm m f (a*a%m) (n / 2) (if n%2=1 then out*a%m else out)
theorem Dm(m:Nat):∀(f a n out:Nat),n < 2^f→pm m f a n out=out*a^n%m
 | 0,a,n,out,h=>by
  obtain rfl:n=0:=by omega
  rw[pm,Nat.pow_zero,Nat.mul_one]
 |f+1,a,n,out,h=>by
  have e:(2:Nat)^(f+1)=2^f*2:=Nat.pow_succ (n:=2) (m:=f)
  rw[pm]
  split
  ·rename_i h0
   subst h0
   rw[Nat.pow_zero,Nat.mul_one]
  ·rw[Dm m f _ _ _ (by omega),Nat.mul_mod]
   have e1:(a*a%m)^(n / 2)%m=a^(2*(n / 2))%m:=by
    rw[←Nat.pow_mod,Nat.pow_mul,Nat.pow_two]
   have e2:(if n%2=1 then out*a%m else out)%m=(out*a^(n%2))%m:=by
    split
    ·rename_i h1
     rw[h1,Nat.pow_one,Nat.mod_mod]
    ·have h1:n%2=0:=by omega
     rw[h1,Nat.pow_zero,Nat.mul_one]
   rw[e1,e2,←Nat.mul_mod,Nat.mul_assoc,←Nat.pow_add]
   have e3:n%2+2*(n / 2)=n:=by omega
   rw[e3]
theorem A0:∀(r q:Nat) (f:Nat→Nat),(∀i,i < q→f i < r)→(∀i j,i < j→j < q→f i≠f j)→q≤r
 | 0,q,f,h,_=>by
  rcases Nat.eq_zero_or_pos q with h0 | h0
  ·omega
  ·exact absurd (h 0 h0) (Nat.not_lt_zero _)
 |r+1,q,f,h,g=>by
  by_cases hx:∃i,i < q∧f i=r
  ·obtain⟨i,hi,hr⟩:=hx
   have e:=A0 r (q - 1) (fun j=>if j < i then f j else f (j+1)) (fun j hj=>by
    by_cases h1:j < i
    ·have a:=h j (by omega)
     have b:=g j i h1 hi
     simp only[h1,if_true]
     omega
    ·have a:=h (j+1) (by omega)
     have b:=g i (j+1) (by omega) (by omega)
     simp only[h1,if_false]
     omega) (fun j k hjk hk=>by
    by_cases h1:j < i
    ·by_cases h2:k < i
     ·simp only[h1,h2,if_true]
      exact g j k hjk (by omega)
     ·simp only[h1,h2,if_true,if_false]
      exact g j (k+1) (by omega) (by omega)
    ·have h2:¬k < i:=by omega
     simp only[h1,h2,if_false]
     exact g (j+1) (k+1) (by omega) (by omega))
   omega
  ·have e:=A0 r q f (fun i hi=>by
    have a:=h i hi
    have b:f i≠r:=fun x=>hx ⟨i,hi,x⟩
    omega) g
   omega
theorem yT(a m:Nat)(h1:1%m=1):∀i j:Nat,a^i%m=1→a^j%m=1→a^(Nat.gcd i j)%m=1:=by
 intro i
 induction i using Nat.strongRecOn with
 |ind i ih=>
  intro j hi hj
  rcases Nat.eq_zero_or_pos i with h0 | h0
  ·subst h0;rw[Nat.gcd_zero_left];exact hj
  ·rw[Nat.gcd_rec]
   refine ih (j%i) (Nat.mod_lt _ h0) i ?_ hi
   have e:a^j=(a^i)^(j / i)*a^(j%i):=by rw[←Nat.pow_mul,←Nat.pow_add,Nat.div_add_mod]
   rw[e,Nat.mul_mod,Nat.pow_mod,hi,Nat.one_pow,h1,Nat.one_mul,Nat.mod_mod]at hj
   exact hj
def Aq(n:Nat):Prop:=∀d,d∣n→d=1∨d=n
theorem yU{n k:Nat}(h:Aq n)(h0:0 < k)(hk:k < n):Nat.gcd k n=1:=by
 rcases h _ (Nat.gcd_dvd_right k n) with h1 | h1
 ·exact h1
 ·have:=Nat.le_of_dvd h0 (Nat.gcd_dvd_left k n);omega
theorem wC{n:Nat}(hn:1 < n)(h:∀r,1 < r→r*r≤n→¬r∣n):Aq n:=by
 intro d hd
 obtain⟨e,he⟩:=hd
 have hd0:0 < d:=Nat.pos_of_ne_zero (by intro x;rw[x,Nat.zero_mul]at he;omega)
 have he0:0 < e:=Nat.pos_of_ne_zero (by intro x;rw[x,Nat.mul_zero]at he;omega)
 by_cases h1:d=1
 ·exact .inl h1
 by_cases h2:e=1
 ·right;rw[he,h2,Nat.mul_one]
 exfalso
 rcases Nat.le_total d e with hle | hle
 ·exact h d (by omega) (by rw[he];exact Nat.mul_le_mul_left d hle) ⟨e,he⟩
 ·exact h e (by omega) (by rw[he];exact Nat.mul_le_mul_right e hle) ⟨d,by rw[he,Nat.mul_comm]⟩
theorem D1{n q b:Nat}(hn:1 < n)(hq:Aq q)(hq1:1 < q)(hqq:n < q*q)(hb:b^q%n=1)(hg:Nat.gcd (b - 1) n=1)(hb0:0 < b):Aq n:=by
 refine wC hn fun r hr hrr hrn=> ?_
 have h1r:1%r=1:=Nat.mod_eq_of_lt hr
 have hbr:b^q%r=1:=by
  have:=Nat.mod_mod_of_dvd (b^q) hrn
  rw[←this,hb,h1r]
 have hne:b%r≠1:=by
  intro hx
  have hd:r∣b - 1:=by have e:=Nat.dvd_sub_mod (n:=r) b;rw[hx]at e;exact e
  have:=Nat.dvd_gcd hd hrn
  rw[hg]at this
  have:=Nat.le_of_dvd (by omega) this
  omega
 have key:q≤r:=by
  refine A0 r q (fun i=>b^i%r) (fun i _=>Nat.mod_lt _ (by omega)) fun i j hij hj he=> ?_
  have e1:b^(j - i)%r=1:=by
   have x1:b^(q - i)*b^i%r=b^(q - i)*b^j%r:=by rw[Nat.mul_mod,he,←Nat.mul_mod]
   rw[←Nat.pow_add,←Nat.pow_add,show q - i+i=q by omega,show q - i+j=q+(j - i) by omega,Nat.pow_add,Nat.mul_mod,hbr,Nat.one_mul,Nat.mod_mod]at x1
   exact x1.symm
  have e2:=yT b r h1r (j - i) q e1 hbr
  rw[yU hq (by omega) (by omega),Nat.pow_one]at e2
  exact hne e2
 have:q*q≤r*r:=Nat.mul_le_mul key key
 omega
def Bq(n:Nat):Nat→Bool
 | 0=>true
 |k+1=>n%(k+2) !=0 && Bq n k
theorem wB(n:Nat):∀k,Bq n k=true→∀d,1 < d→d≤k+1→¬d∣n
 | 0,_,d,h1,h2=>by omega
 |k+1,h,d,h1,h2=>by
  rw[Bq,Bool.and_eq_true]at h
  by_cases hd:d=k+2
  ·intro hx
   have:=Nat.mod_eq_zero_of_dvd hx
   rw[hd]at this
   rw[this]at h
   exact absurd h.1 (by decide)
  ·exact wB n k h.2 d h1 (by omega)
theorem FP:Aq 7930907:=by
 refine wC (by decide) fun r hr hrr=>wB 7930907 2820 (by decide+kernel) r hr ?_
 apply Nat.le_of_not_lt
 intro h
 have:2822*2822≤r*r:=Nat.mul_le_mul (by omega) (by omega)
 omega
theorem oV{n q:Nat}(a e:Nat)(hq:Aq q)(hq1:1 < q)(hn:1 < n)(hqq:n < q*q)(he:e < 2^64)(hq2:q < 2^64)(h1:pm n 64 (pm n 64 a e 1) q 1=1)(h2:Nat.gcd (pm n 64 a e 1 - 1) n=1)(h3:0 < pm n 64 a e 1):Aq n:=by
 generalize pm n 64 a e 1=b at*
 rw[Dm _ _ _ _ _ hq2,Nat.one_mul]at h1
 exact D1 hn hq hq1 hqq h1 h2 h3
theorem FO:Aq 11864636873:=oV (q:=7930907) 2 1496 FP (by decide) (by decide) (by decide) (by decide) (by decide) (by decide+kernel) (by decide+kernel) (by decide+kernel)
theorem FN:Aq 1732236983459:=oV (q:=11864636873) 2 146 FO (by decide) (by decide) (by decide) (by decide) (by decide) (by decide+kernel) (by decide+kernel) (by decide+kernel)
theorem FM:Aq 249442125618097:=oV (q:=1732236983459) 2 144 FN (by decide) (by decide) (by decide) (by decide) (by decide) (by decide+kernel) (by decide+kernel) (by decide+kernel)
theorem FQ:Aq 2305843009213688669:=oV (q:=249442125618097) 2 9244 FM (by decide) (by decide) (by decide) (by decide) (by decide) (by decide+kernel) (by decide+kernel) (by decide+kernel)
def gP(n:Nat):Int:=((4^n%4611686018427377339:Nat):Int)
theorem s5(a m q:Nat)(h1:1%m=1)(h:a^q%m=1)(n:Nat):a^(n%q)%m=a^n%m:=by
 have e:a^n=(a^q)^(n / q)*a^(n%q):=by rw[←Nat.pow_mul,←Nat.pow_add,Nat.div_add_mod]
 rw[e,Nat.mul_mod,Nat.pow_mod (a^q),h,Nat.one_pow,h1,Nat.one_mul,Nat.mod_mod]
theorem C8:∀q:Nat,q=2305843009213688669→4^q%4611686018427377339=1:=by
 intro q hq
 have h:=tD
 rw[rY _ _ (by decide)]at h
 rw[←hq]at h
 have e:(((4^q%4611686018427377339:Nat)):Int)=1:=by
  rw[Int.natCast_emod,Int.natCast_pow]
  exact h
 omega
theorem uG(n:Nat):gP (n%2305843009213688669)=gP n:=by
 unfold gP
 obtain⟨q,hq⟩:∃q:Nat,q=2305843009213688669:=⟨_,rfl⟩
 rw[←hq,s5 4 4611686018427377339 q (by decide) (C8 q hq)]
theorem ES(n:Nat)(h:n < 18446744073709551616):pw 4 n=gP n:=by
 rw[rY _ _ h]
 unfold gP
 rw[Int.natCast_emod,Int.natCast_pow]
 rfl
theorem AX(k:Int)(h:0≤k):(k%2305843009213688669).toNat=k.toNat%2305843009213688669:=by omega
theorem qw(k:Int)(h:0≤k):dN k=gP k.toNat:=by
 show pw (tk 4) _=_
 rw[sz Cz,ES _ (by omega),AX k h,uG]
theorem Cn(n:Nat):gP n=dN n:=by rw[qw _ (by omega),Int.toNat_natCast]
theorem rk(n:Nat):kU (gP n)=true:=by rw[Cn];exact rE _
theorem xG(a b:Nat):iN (gP a) (gP b)=gP (a+b):=by
 unfold iN gP
 rw[←Int.natCast_mul,Nat.pow_add]
 have e:(4611686018427377339:Int)=((4611686018427377339:Nat):Int):=rfl
 rw[e,←Int.natCast_emod,←Nat.mul_mod]
theorem AY(a:Nat)(c:Int)(h:0≤c):lV (gP a) c=gP (a*c.toNat):=by
 show pw (tk (gP a)) _=_
 rw[sz (rk a),rY _ _ (by omega),AX c h]
 obtain⟨b,hb⟩:∃b:Nat,b=c.toNat:=⟨_,rfl⟩
 rw[←hb]
 obtain⟨d,hd⟩:∃d:Nat,d=b%2305843009213688669:=⟨_,rfl⟩
 have hx:gP (a*b)=gP (a*d):=by rw[←uG (a*b),←uG (a*d),Nat.mul_mod a b,Nat.mul_mod a d,hd,Nat.mod_mod]
 rw[hx,←hd]
 unfold gP
 have e:(4611686018427377339:Int)=((4611686018427377339:Nat):Int):=rfl
 rw[e,←Int.natCast_pow,←Int.natCast_emod,←Nat.pow_mod,←Nat.pow_mul]
theorem yE:gP 0=1:=by decide
theorem ER{n:Nat}(h:0 < n)(hn:n < 2305843009213688669):gP n≠1:=by
 intro he
 unfold gP at he
 have he:4^n%4611686018427377339=1:=by omega
 obtain⟨q,hq⟩:∃q:Nat,q=2305843009213688669:=⟨_,rfl⟩
 have e:=yT 4 4611686018427377339 (by decide) n q he (C8 q hq)
 rw[yU (by rw[hq];exact FQ) h (by omega)]at e
 exact absurd e (by decide)
theorem CT(k:Int)(m:List Int)(h0:0 < k)(hq:k < 2305843009213688669):kb (dN k) m 1 (fN k m)=true:=by
 obtain⟨kn,hk⟩:∃kn:Nat,kn=k.toNat:=⟨_,rfl⟩
 have hb:dN k=gP kn:=by rw[hk];exact qw k (by omega)
 have hn:=ri (BW xP [kB k,m])
 unfold fN Br
 rw[if_pos ⟨hq,by omega⟩]
 obtain⟨n,hne⟩:∃n,oD (BW xP [kB k,m])=n:=⟨_,rfl⟩
 rw[hne]at hn ⊢
 unfold uo
 have hr:qv [dN n,1]=gP n.toNat:=by
  show iN (iN 1 (tk (dN n))) (tk 1)=_
  rw[sz (rE n),sz oH,wy (kI _ _),qw n (by omega),←yE,xG,Nat.zero_add]
 rw[hr,hb]
 have hc:=qV (gP n.toNat) (gP kn) m
 obtain⟨c,hce⟩:∃c,lZ (gP n.toNat) (gP kn) m=c:=⟨_,rfl⟩
 rw[hce]at hc ⊢
 have ha:=yt n (uQ c k)
 have h1:=hc.1
 have h2:=ha.1
 have h3:=ha.2
 unfold kb
 rw[if_neg (by
  intro h
  rcases h with h | h | h | h | h
  ·exact ER (by omega) (by omega) h
  ·rw[rk]at h;cases h
  ·rw[oH]at h;cases h
  ·have h:kU (gP n.toNat)=false:=h
   rw[rk]at h;cases h
  ·exact h h3)]
 have e:dN (xh n (uQ c k))=qv [gP n.toNat,lV (gP kn) c,wz 1]:=by
  show _=iN (iN (iN 1 (tk (gP n.toNat))) (tk (lV (gP kn) c))) (tk (wz 1))
  rw[CG,sz oH,wy (kI _ _),sz (rk _),AY _ _ h1,sz (rk _)]
  rw[show(iN 1 (gP n.toNat))=gP n.toNat by rw[←yE,xG,Nat.zero_add]]
  rw[xG,qw _ h2]
  have hx:(xh n (uQ c k)).toNat=(n.toNat+kn*c.toNat)%2305843009213688669:=by
   unfold xh uQ Bv
   have g1:c%2305843009213688669=c:=Int.emod_eq_of_lt h1 hc.2
   have g2:k%2305843009213688669=k:=Int.emod_eq_of_lt (by omega) hq
   have g3:n%2305843009213688669=n:=Int.emod_eq_of_lt (by omega) hn.2
   rw[g1,g2,g3,Int.emod_emod_of_dvd _ (Int.dvd_refl _)]
   have g4:((kn*c.toNat:Nat):Int)=c*k:=by
    rw[Int.natCast_mul,hk,Int.toNat_of_nonneg (by omega),Int.toNat_of_nonneg h1,Int.mul_comm]
   have g5:0≤c*k:=by rw[←g4];exact Int.natCast_nonneg _
   obtain⟨z,hz⟩:∃z,c*k=z:=⟨_,rfl⟩
   rw[hz]at g4 g5 ⊢
   obtain⟨zn,hzn⟩:∃zn,kn*c.toNat=zn:=⟨_,rfl⟩
   rw[hzn]at g4 ⊢
   omega
  rw[hx,uG]
 show decide (dN (xh n (uQ c k))=qv [gP n.toNat,lV (gP kn) (lZ (gP n.toNat) (gP kn) m),wz 1])=true
 rw[hce]
 exact decide_eq_true e
set_option synthInstance.maxSize 5000
def uI{α:Type}(p:α→Bool):List α→Int→Int⊕Unit
 |[],_=> .inr ()
 |x::xs,i=>if p x then .inl i else uI p xs (i+1)
def Cw{α:Type}(p:α→Bool)(l:List α):Int:=match uI p l 0 with | .inl i=>i | .inr _=> -1
theorem vZ{α:Type}(p:α→Bool):∀(l:List α) (i:Int),0≤i→(match uI p l i with | .inl i=>decide (i≥0) | .inr _=>false)=l.any p
 |[],_,_=>rfl
 |x::l,i,h=>by
  rw[uI,List.any_cons]
  cases hp:p x
  ·simp only[Bool.false_eq_true,if_false,Bool.false_or]
   exact vZ p l (i+1) (by omega)
  ·simp[h]
theorem A3{α:Type}(p:α→Bool)(l:List α):nf (Cw p l) 0=l.any p:=by
 have:=vZ p l 0 (by omega)
 unfold Cw nf
 cases h:uI p l 0
 ·rw[h]at this;exact this
 ·rw[h]at this;rw[←this];rfl
def ou(k:Int):Bool:=decide (¬(k < 2305843009213688669∧k≠0))
def mF(t:fg)(i br:Int)(ks:List Int):Bool:=fB t && (decide (0≤i∧i < t.1.length∧0≤br∧br < 4∧ks.length≤12) && !(ks.any ou))
def BN(t:fg)(i br:Int)(ks:List Int)(sc:Int):fg×Int:=
 if mF t i br ks then((t.1.set i.toNat ((nth ik t.1 i.toNat).1,(br,ks.map (fun k=>fN k (lW t)),sc,()),()),t.2),0) else(([],[],0,()),1)
theorem ym{t:fg}:Sm (lW t):=by
 unfold lW
 split
 ·exact yd _ _
 ·exact⟨by rw[List.length_replicate],fun x hx=>by obtain rfl:=(List.mem_replicate.1 hx).2;exact⟨by decide,by decide⟩⟩
abbrev dq.D:=Int
def dq.st:dq.D→SA:=fun kv=>([.d tu kv],[])
abbrev dq.Y:=Bool
abbrev dq.X:=Bool
def dq.out:dq.X→aX:=fun x=>⟨.d .bool x,[],[]⟩
def dq.add:dq.D→dq.Y→dq.X:=fun kv y=>y
def dq.az:dq.D→Prop:=fun _=>True
def dq.F:dq.D→dq.Y:=fun k=>ou k
noncomputable def dq.G:dG:=eT (P:=Tryz.prog) [bX.sg]
noncomputable def dq.an:dX:= {}
noncomputable def dq.A:= @cR Tryz.prog dq.G dq.an 0 Tryz.f64 _ dq.st
abbrev dq.Ok:=cS @dq.A dq.az dq.add dq.F dq.out
theorem dq.eq{R:Type}(kv:Int)(k:aX→Option R):dq.A kv k=
  aP ((iw kv (0:Int))) (
   k (dq.out true)) (
   au (bX.call kv) fun x1=>
   k (dq.out (!x1))):=by kernel_rfl
theorem dq.ok:dq.Ok:=by
 intro(k:Int) _
 rw[dq.eq,bX.run (d:=k) trivial]
 simp only[dq.add,dq.F,ou,aa,bX.add,bX.F]
 by_cases h:k=0
 ·rw[gO h,ak,aW (by omega)]
 ·rw[iU h,aw]
  by_cases h2:k < 2305843009213688669
  ·rw[bq h2,bw (by omega)];rfl
  ·rw[bm h2,aW (by omega)];rfl
noncomputable def dq.E:=Entry.cM [some tu] dq.st dq.az dq.add dq.F dq.out
noncomputable def dq.call:dq.D→Option dq.X:=bP dq.E dq.st
theorem dq.run:bK dq.call dq.az dq.add dq.F:=de (cW [.d tu] fun _=>by kernel_rfl)
noncomputable def dq.sg:SG Tryz.prog:=⟨64,aV,dq.E,.fn 0 (by kernel_rfl) dq.ok trivial⟩
abbrev aI.L0.D:=Bs×Int×Int
def aI.L0.st:aI.L0.D→AS:=fun(sv_2,t7,t8)=>⟨([.d tU sv_2,.fn 64 (.nil)]++bl 5 ([.d ti t7,.d ti t8]++bl 10 [])),[],(List.replicate 19 [])⟩
abbrev aI.L0.Y0:=Int
abbrev aI.L0.X0:=Int
def aI.L0.bE:aI.L0.X0→Exit×AS:=fun x=>(.ret,⟨(bl 4 ([.d ti x]++bl 14 [])),[],(List.replicate 19 [])⟩)
abbrev aI.L0.Y1:=Unit
abbrev aI.L0.X1:=Unit
def aI.L0.gT:aI.L0.X1→Exit×AS:=fun x=>(.exit 0,⟨(bl 19 []),[],(List.replicate 19 [])⟩)
abbrev aI.L0.X:=(aI.L0.X0)⊕(aI.L0.X1)
abbrev aI.L0.Y:=(aI.L0.Y0)⊕(aI.L0.Y1)
def aI.L0.out:aI.L0.X→Out (Exit×AS):=fun x=> .br x.isLeft (.get x.getLeft? fun a=> .ok (aI.L0.bE a)) (.get x.getRight? fun b=> .ok (aI.L0.gT b))
def aI.L0.add:aI.L0.D→aI.L0.Y→aI.L0.X:=fun(sv_2,t7,t8) y=>match y with | .inl y=> .inl y | .inr z=> .inr (z)
abbrev aI.D:=Bs
def aI.st:aI.D→SA:=fun sv=>([.d tU sv,.fn 64 (.nil)],[])
abbrev aI.Y:=Int
abbrev aI.X:=Int
def aI.out:aI.X→aX:=fun x=>⟨.d ti x,[],[]⟩
def aI.add:aI.D→aI.Y→aI.X:=fun sv y=>y
def aI.L0.az:aI.L0.D→Prop:=fun(l,n,i)=>(∀x∈l,True)∧l.length≤1000000000∧n=l.length∧∃k:Nat,k≤l.length∧i=k
def aI.L0.F:aI.L0.D→aI.L0.Y:=fun(l,n,i)=>uI ou (l.drop i.toNat) i
def aI.az:aI.D→Prop:=fun l=>(∀x∈l,True)∧l.length≤1000000000
def aI.F:aI.D→aI.Y:=fun l=>Cw ou l
noncomputable def aI.G:dG:=eT (P:=Tryz.prog) [dq.sg]
noncomputable def aI.L0.E:=bW.cM aI.L0.st aI.L0.az aI.L0.add aI.L0.F aI.L0.out
noncomputable def aI.L0.call:aI.L0.D→Option aI.L0.X:=dF aI.L0.E aI.L0.st
noncomputable def aI.an:dX:= {loops:=l7 [(2,{bn:=[0,1,7,8]})],outs:=l6 [(2,{},{bn:=[4]})],fK:=mU [(2,aI.L0.E)]}
noncomputable def aI.A:= @cR Tryz.prog aI.G aI.an 0 Tryz.f133 _ aI.st
abbrev aI.Ok:=cS @aI.A aI.az aI.add aI.F aI.out
noncomputable def aI.L0.R:= @cz Tryz.prog aI.G aI.an 0 Tryz.f133 0 _ aI.L0.st
abbrev aI.L0.Ok:=eK Tryz.prog aI.G aI.an 0 Tryz.f133 0 aI.L0.st aI.L0.az aI.L0.add aI.L0.F aI.L0.out
theorem aI.L0.run:bK aI.L0.call aI.L0.az aI.L0.add aI.L0.F:=eU (eQ [.d tU,.d ti,.d ti] fun _=>by kernel_rfl)
theorem aI.L0.aK:oe @aI.L0.R aI.L0.st aI.L0.az aI.L0.add aI.L0.F aI.L0.out aI.L0.Ok:=py
theorem aI.L0.step{R:Type}(sv_2:Bs)(t7:Int)(t8:Int)(kn:AS→Option R)(kx:Exit→AS→Option R):aI.L0.R (sv_2,t7,t8) kn kx=
  aP ((gE t8 t7)) (
   aP (fo t8 (((List.length sv_2):Nat):Int)) (
   au (dq.call (nth tu sv_2 (Int.toNat t8))) fun x1=>
   aP (x1) (
    kx (aI.L0.bE t8).1 (aI.L0.bE t8).2) (
    kn (aI.L0.st (sv_2,t7,(b8 .i64 t8 (1:Int)))))) none) (
   kx (aI.L0.gT ()).1 (aI.L0.gT ()).2):=by kernel_rfl
theorem aI.eq{R:Type}(sv:Bs)(k:aX→Option R):aI.A sv k=
  au (aI.L0.call (sv,(((List.length sv):Nat):Int),(0:Int))) fun x2=>
  aP (x2.isLeft) (
   au (x2.getLeft?) fun a3=>
   k (aI.out a3)) (
   au (x2.getRight?) fun b4=>
   k (aI.out (-1:Int))):=by kernel_rfl
theorem aI.L0.ok:aI.L0.Ok:=by
 refine aI.L0.aK (fun(l,n,i)=>l.length - i.toNat) ?_
 rintro⟨l,n,i⟩ ⟨hl,hb,rfl,k,hk,rfl⟩
 have hb:l.length≤1000000000:=hb
 have hk:k≤l.length:=hk
 by_cases h:k < l.length
 ·have hx:=hl _ (List.getElem_mem h)
  have n1:nth tu l k=l[k]:=cX (t:=tu) h
  have hd:uI ou (l.drop k) k=if ou l[k] then .inl (k:Int) else uI ou (l.drop (k+1)) ((k+1:Nat):Int):=by rw[List.drop_eq_getElem_cons h];rfl
  have step:∀ {R:Type} (kn:AS→Option R) (kx:Exit→AS→Option R),aI.L0.R (l,(l.length:Int),(k:Int)) kn kx=aP (ou l[k]) (kx (aI.L0.bE (k:Int)).1 (aI.L0.bE (k:Int)).2) (kn (aI.L0.st (l,(l.length:Int),((k+1:Nat):Int)))):=by
   intro R kn kx
   rw[aI.L0.step,bq (by omega),bu (by omega) (by omega),Int.toNat_natCast,n1,dq.run (d:=l[k]) hx,N.nj (by omega)]
   rfl
  cases hp:ou l[k]
  ·left
   refine⟨(l,l.length,((k+1:Nat):Int)),⟨hl,hb,rfl,k+1,by omega,rfl⟩,by simp only[Int.toNat_natCast];omega,?_,fun kn kx=> ?_⟩
   ·simp only[aI.L0.add,aI.L0.F,Int.toNat_natCast,hd,hp,Bool.false_eq_true,if_false]
   ·rw[step,hp,aw]
  ·right
   refine⟨aI.L0.bE (k:Int),?_,fun kn kx=> ?_⟩
   ·simp only[aI.L0.add,aI.L0.F,Int.toNat_natCast,hd,hp,if_true]
    rfl
   ·rw[step,hp,ak]
 ·right
  obtain rfl:k=l.length:=by omega
  refine⟨aI.L0.gT (),?_,fun kn kx=> ?_⟩
  ·simp only[aI.L0.add,aI.L0.F,Int.toNat_natCast,List.drop_length]
   rfl
  ·rw[aI.L0.step,bm (by omega),aw]
theorem aI.ok:aI.Ok:=by
 rintro l ⟨hl,hb⟩
 rw[aI.eq,aI.L0.run (d:=(l,l.length,0)) ⟨hl,hb,rfl,0,by omega,rfl⟩]
 simp only[aa,aI.L0.add,aI.L0.F,Int.toNat_zero,List.drop_zero,aI.add,aI.F,Cw]
 cases uI ou l 0 <;> rfl
noncomputable def aI.E:=Entry.cM [some tU,none] aI.st aI.az aI.add aI.F aI.out
noncomputable def aI.call:aI.D→Option aI.X:=bP aI.E aI.st
theorem aI.run:bK aI.call aI.az aI.add aI.F:=de (cW [.d tU] fun _=>by kernel_rfl)
noncomputable def aI.sg:SG Tryz.prog:=⟨133,aV,aI.E,.fn 1 (by kernel_rfl) aI.ok (And.intro (.cM aI.L0.ok (by kernel_rfl)) trivial)⟩
abbrev bj.D:=Bs
def bj.st:bj.D→SA:=fun sv=>([.d tU sv,.fn 64 (.nil)],[])
abbrev bj.Y:=Bool
abbrev bj.X:=Bool
def bj.out:bj.X→aX:=fun x=>⟨.d .bool x,[],[]⟩
def bj.add:bj.D→bj.Y→bj.X:=fun sv y=>y
def bj.az:bj.D→Prop:=fun l=>(∀x∈l,True)∧l.length≤1000000000
def bj.F:bj.D→bj.Y:=fun l=>l.any ou
noncomputable def bj.G:dG:=eT (P:=Tryz.prog) [aI.sg]
noncomputable def bj.an:dX:= {}
noncomputable def bj.A:= @cR Tryz.prog bj.G bj.an 0 Tryz.f68 _ bj.st
abbrev bj.Ok:=cS @bj.A bj.az bj.add bj.F bj.out
theorem bj.eq{R:Type}(sv:Bs)(k:aX→Option R):bj.A sv k=
 au (aI.call sv) fun x1=>
 k (bj.out (nf x1 (0:Int))):=by kernel_rfl
theorem bj.ok:bj.Ok:=by
 rintro l ⟨hl,hb⟩
 rw[bj.eq,aI.run (d:=l) ⟨hl,hb⟩]
 simp only[aa,aI.add,aI.F,A3]
 rfl
noncomputable def bj.E:=Entry.cM [some tU,none] bj.st bj.az bj.add bj.F bj.out
noncomputable def bj.call:bj.D→Option bj.X:=bP bj.E bj.st
theorem bj.run:bK bj.call bj.az bj.add bj.F:=de (cW [.d tU] fun _=>by kernel_rfl)
noncomputable def bj.sg:SG Tryz.prog:=⟨68,aV,bj.E,.fn 0 (by kernel_rfl) bj.ok trivial⟩
abbrev aZ.L0.D:=Int×Bs×Int×Int×fg×(Int×Unit)×Int×Nat×(Int×Unit)×Bs×(List Sg)
def aZ.L0.st:aZ.L0.D→AS:=fun(inv_2,t52,t53,t54,n5,n10,n13,n13L,n13_2,n14,n64)=>⟨([.undef,.d ti inv_2,.undef,.undef,.undef,.ptr (.new 5 0) 0 [] 0]++bl 4 ([.ptr (.new 10 0) 0 [] 0,.undef,.undef,.ptr (.new 13 0) 0 [] 0,.ptr (.new 14 0) 0 [] 0]++bl 37 ([.d tU t52,.d ti t53,.d ti t54]++bl 21 []))),[],(cj 5 ([[.obj 0 false (.d jz n5)]]++cj 4 ([[.obj 0 false (.pr (.dv) (.pr (.dv) (.d (.pair ti .unit) n10)))],[],[],[.obj 0 false (.pr (.d ti n13) (.pr (.bp (.new 64 0) 0 [] 0 0 n13L) (.d (.pair tu .unit) n13_2)))],[.obj 0 false (.d tH n14)]]++cj 49 ([[.obj 0 false (.vec 135 u9 n64)]]++cj 11 []))))⟩
abbrev aZ.L0.Y0:=tf×(List Sg)
abbrev aZ.L0.X0:=(Int×fg×(Int×Unit))×(tf×(List Sg))
def aZ.L0.bE:aZ.L0.X0→Exit×AS:=fun x=>(.exit 0,⟨([.undef,.d ti x.1.1,.undef,.undef,.undef,.ptr (.new 5 0) 0 [] 0]++bl 4 ([.ptr (.new 10 0) 0 [] 0,.undef,.undef,.ptr (.new 13 0) 0 [] 0]++bl 62 [])),[],(cj 5 ([[.obj 0 false (.d jz x.1.2.1)]]++cj 4 ([[.obj 0 false (.pr (.dv) (.pr (.dv) (.d (.pair ti .unit) x.1.2.2)))],[],[],[.obj 0 false (.d B6 x.2.1)]]++cj 50 ([[.obj 0 true (.vec 135 u9 x.2.2)]]++cj 11 []))))⟩)
abbrev aZ.L0.X:=aZ.L0.X0
abbrev aZ.L0.Y:=aZ.L0.Y0
def aZ.L0.out:aZ.L0.X→Out (Exit×AS):=fun x=> .ok (aZ.L0.bE x)
def aZ.L0.add:aZ.L0.D→aZ.L0.Y→aZ.L0.X:=fun(inv_2,t52,t53,t54,n5,n10,n13,n13L,n13_2,n14,n64) y=>((inv_2,n5,n10),y)
abbrev aZ.D:=fg×Int×Int×Bs×Int
def aZ.st:aZ.D→SA:=fun(t,inv,branch,keys,secret)=>([.d jz t,.d ti inv,.d ti branch,.d tU keys,.d tu secret],[])
abbrev aZ.Y:=fg×Int
abbrev aZ.X:=fg×Int
def aZ.out:aZ.X→aX:=fun x=>⟨.cons (.d jz x.1) (.cons (.d ti x.2) (.nil)),[],[]⟩
def aZ.add:aZ.D→aZ.Y→aZ.X:=fun(t,inv,branch,keys,secret) y=>y
def aZ.L0.az:aZ.L0.D→Prop:=fun(i0,l,n,i,t,e,br,L,sc,id,r)=>l.length≤1000∧(∀x∈l,gX x)∧Sm id∧∃k:Nat,k≤l.length∧i=k∧n=l.length∧L=r.length∧r.length≤1000+k
def aZ.L0.F:aZ.L0.D→aZ.L0.Y:=fun(i0,l,n,i,t,e,br,L,sc,id,r)=>((br,r++(l.drop i.toNat).map (fun k=>fN k id),sc),r++(l.drop i.toNat).map (fun k=>fN k id))
def aZ.az:aZ.D→Prop:=fun(t,i,br,ks,sc)=>ni t∧(∀x∈ks,gX x)∧ks.length≤1000000000
def aZ.F:aZ.D→aZ.Y:=fun(t,i,br,ks,sc)=>BN t i br ks sc
noncomputable def aZ.G:dG:=eT (P:=Tryz.prog) [ai.sg,dQ.sg,bj.sg,tid.sg,dh.sg,ae.sg]
noncomputable def aZ.L0.E:=bW.cM aZ.L0.st aZ.L0.az aZ.L0.add aZ.L0.F aZ.L0.out
noncomputable def aZ.L0.call:aZ.L0.D→Option aZ.L0.X:=dF aZ.L0.E aZ.L0.st
noncomputable def aZ.an:dX:= {bk:=[5],loops:=l7 [(7,{bn:=[1,5,10,13,14,52,53,54],sites:=[5,10,13,14,64],kk:=[⟨13,[.snd,.fst],64,48⟩]})],outs:=l6 [(7,{bn:=[1,5,10,13],sites:=[5,10,13,64],AM:=[⟨13,[.snd,.fst],(.slice u9)⟩]},{bn:=[10,11]})],fK:=mU [(7,aZ.L0.E)],res:=[some jz,none]}
noncomputable def aZ.A:= @cR Tryz.prog aZ.G aZ.an 0 Tryz.f16 _ aZ.st
abbrev aZ.Ok:=cS @aZ.A aZ.az aZ.add aZ.F aZ.out
noncomputable def aZ.L0.R:= @cz Tryz.prog aZ.G aZ.an 0 Tryz.f16 0 _ aZ.L0.st
abbrev aZ.L0.Ok:=eK Tryz.prog aZ.G aZ.an 0 Tryz.f16 0 aZ.L0.st aZ.L0.az aZ.L0.add aZ.L0.F aZ.L0.out
theorem aZ.L0.run:bK aZ.L0.call aZ.L0.az aZ.L0.add aZ.L0.F:=eU (eQ [.d ti,.d tU,.d ti,.d ti,.d jz,.d (.pair ti .unit),.d ti,.n,.d (.pair tu .unit),.d tB,.d (.slice u9)] fun _=>by kernel_rfl)
theorem aZ.L0.aK:fZ @aZ.L0.R aZ.L0.st aZ.L0.az aZ.L0.add aZ.L0.F aZ.L0.bE aZ.L0.Ok:=gv
theorem aZ.L0.step{R:Type}(inv_2:Int)(t52:Bs)(t53:Int)(t54:Int)(n5:fg)(n10:(Int×Unit))(n13:Int)(n13L:Nat)(n13_2:(Int×Unit))(n14:Bs)(n64:(List Sg))(kn:AS→Option R)(kx:Exit→AS→Option R):aZ.L0.R (inv_2,t52,t53,t54,n5,n10,n13,n13L,n13_2,n14,n64) kn kx=
  aP ((gE t54 t53)) (
   aP (fo t54 (((List.length t52):Nat):Int)) (
   au (dh.call ((nth tu t52 (Int.toNat t54)),n14)) fun x4=>
   aP (decide (n13L≤(List.length n64))) (
   aP (dw (n13L+1) 16) (
   kn (aZ.L0.st (inv_2,t52,t53,(b8 .i64 t54 (1:Int)),n5,n10,n13,(n13L+1),n13_2,n14,((List.take n13L n64)++ [x4])))) none) none) none) (
   aP (decide (0=0∧(0+n13L)≤(List.length n64))) (
   kx (aZ.L0.bE ((inv_2,n5,n10),((n13,((cut n64 0 n13L),n13_2)),n64))).1 (aZ.L0.bE ((inv_2,n5,n10),((n13,((cut n64 0 n13L),n13_2)),n64))).2) none):=by kernel_rfl
theorem aZ.eq{R:Type}(t:fg)(inv:Int)(branch:Int)(keys:Bs)(secret:Int)(k:aX→Option R):aZ.A (t,inv,branch,keys,secret) k=
  au (ai.call t) fun x10=>
  aP ((!x10)) (
   k (aZ.out ((([]:List gW),(([]:List fc),((0:Int),()))),(1:Int)))) (
   aP ((gE inv (0:Int))) (
    k (aZ.out ((([]:List gW),(([]:List fc),((0:Int),()))),(1:Int)))) (
    aP ((nf inv (((List.length t.1):Nat):Int))) (
     k (aZ.out ((([]:List gW),(([]:List fc),((0:Int),()))),(1:Int)))) (
     au (dQ.call (branch,(([]:List Sg),(secret,())))) fun x11=>
     aP ((!x11)) (
      k (aZ.out ((([]:List gW),(([]:List fc),((0:Int),()))),(1:Int)))) (
      aP ((pZ (((List.length keys):Nat):Int) (12:Int))) (
       k (aZ.out ((([]:List gW),(([]:List fc),((0:Int),()))),(1:Int)))) (
       au (bj.call keys) fun x12=>
       aP (x12) (
        k (aZ.out ((([]:List gW),(([]:List fc),((0:Int),()))),(1:Int)))) (
        au (tid.call t) fun x16=>
        au (aZ.L0.call (inv,keys,(((List.length keys):Nat):Int),(0:Int),t,((0:Int),()),branch,0,(secret,()),x16,([]:List Sg))) fun x26=>
        au (ae.call x26.1.2.1) fun x30=>
        aP (fo x26.1.1 ((x30.1:Nat):Int)) (
        aP (decide ((0+(Int.toNat x26.1.1)) < (List.length x30.2.2))) (
        aP (decide ((((0+(Int.toNat x26.1.1))*36)+33)=((0+((Int.toNat x26.1.1)*36))+33))) (
        aP (decide ((0+(Int.toNat x26.1.1)) < (List.length x30.2.2))) (
        aP (decide (0=0∧(0+x30.1)≤(List.length (List.set x30.2.2 (0+(Int.toNat x26.1.1)) ((nth ik x30.2.2 (0+(Int.toNat x26.1.1))).1,(x26.2.1,(nth ik x30.2.2 (0+(Int.toNat x26.1.1))).2.2)))))) (
        k (aZ.out (((cut (List.set x30.2.2 (0+(Int.toNat x26.1.1)) ((nth ik x30.2.2 (0+(Int.toNat x26.1.1))).1,(x26.2.1,(nth ik x30.2.2 (0+(Int.toNat x26.1.1))).2.2))) 0 x30.1),x30.2.1),(0:Int)))) none) none) none) none) none)))))):=by kernel_rfl
theorem aZ.L0.ok:aZ.L0.Ok:=by
 refine aZ.L0.aK (fun(i0,l,n,i,t,e,br,L,sc,id,r)=>l.length - i.toNat) ?_
 rintro⟨i0,l,n,i,t,e,br,L,sc,id,r⟩ ⟨hlen,hu,hm,k,hk,rfl,rfl,rfl,hr⟩
 have hlen:l.length≤1000:=hlen
 have hk:k≤l.length:=hk
 have hr:r.length≤1000+k:=hr
 by_cases h:k < l.length
 ·left
  have n1:nth tu l k=l[k]:=cX (t:=tu) h
  have hd:List.drop k l=l[k]::List.drop (k+1) l:=List.drop_eq_getElem_cons h
  refine⟨(i0,l,l.length,((k+1:Nat):Int),t,e,br,r.length+1,sc,id,r++ [fN l[k] id]),⟨hlen,hu,hm,k+1,by omega,rfl,rfl,by rw[List.length_append];rfl,by rw[List.length_append];show r.length+1≤_;omega⟩,by simp only[Int.toNat_natCast];omega,?_,fun kn kx=> ?_⟩
  ·simp only[aZ.L0.add,aZ.L0.F,Int.toNat_natCast,hd,List.map_cons,List.append_assoc,List.singleton_append]
  ·rw[aZ.L0.step,bq (by omega),bu (by omega) (by omega),Int.toNat_natCast,n1,dh.run (d:=(l[k],id)) ⟨hu _ (List.getElem_mem h),hm⟩]
   simp only[ak,aa,dh.add,dh.F]
   rw[aW (Nat.le_refl _),eG (by omega) (by omega),N.nj (by omega),List.take_length]
   rfl
 ·right
  obtain rfl:k=l.length:=by omega
  intro R kn kx
  rw[aZ.L0.step,bm (by omega),aw]
  simp only[aZ.L0.add,aZ.L0.F,Int.toNat_natCast,List.drop_length,List.map_nil,List.append_nil,Nat.zero_add,Nat.le_refl,and_self,decide_true,ak,fm]
theorem aZ.ok:aZ.Ok:=by
 rintro⟨⟨is,os,nt,u⟩,i,br,ks,sc⟩ ⟨hv,hu,hl⟩
 have hv:ni (is,os,nt,u):=hv
 have hl:ks.length≤1000000000:=hl
 rw[aZ.eq,ai.run (d:=(is,os,nt,u)) hv.1]
 simp only[aa,ai.add,ai.F,aZ.add,aZ.F,BN,mF]
 rcases Bool.eq_false_or_eq_true (fB (is,os,nt,u)) with hok | hok
 rotate_left
 ·simp only[hok];rfl
 obtain⟨⟨_,a2,a3,_⟩,b1,b2⟩:=iJ hok
 have a2:is.length≤64:=a2
 simp only[hok,Bool.not_true,aw,Bool.true_and]
 by_cases h1:i < 0
 ·rw[bq h1,ak,bw (by omega)];rfl
 rw[bm h1,aw]
 by_cases h2:i≥(is.length:Int)
 ·rw[fi h2,ak,bw (by omega)];rfl
 rw[eh h2,aw,dQ.run (d:=(br,([],(sc,())))) trivial]
 simp only[aa,dQ.add,dQ.F,me]
 by_cases h3:0≤br∧br < 4
 ·rw[aW h3]
  by_cases h4:ks.length > 12
  ·rw[dZ (by omega),bw (p:=0≤i∧i < (is.length:Int)∧0≤br∧br < 4∧ks.length≤12) (by omega)];rfl
  ·rw[dS (by omega),aW (p:=0≤i∧i < (is.length:Int)∧0≤br∧br < 4∧ks.length≤12) (by omega),bj.run (d:=ks) ⟨fun _ _=>trivial,hl⟩]
   simp only[aa,bj.add,bj.F]
   rcases Bool.eq_false_or_eq_true (ks.any ou) with hb | hb
   rotate_left
   ·simp only[hb]
    obtain⟨k,rfl⟩:∃k:Nat,i=k:=⟨i.toNat,by omega⟩
    have hk:k < is.length:=by omega
    simp only[show(([]:List Sg).length≤12)=True from eq_true (Nat.zero_le _),decide_true,Bool.and_self,Bool.not_true,Bool.not_false,aw,Bool.true_and,if_true]
    rw[tid.run (d:=(is,os,nt,u)) hv]
    simp only[aa,tid.add,tid.F]
    rw[aZ.L0.run (d:=((k:Int),ks,ks.length,0,(is,os,nt,u),(0,()),br,0,(sc,()),lW (is,os,nt,u),[])) ⟨by show ks.length≤_;omega,hu,ym,0,Nat.zero_le _,rfl,rfl,rfl,Nat.zero_le _⟩]
    simp only[aa,aZ.L0.add,aZ.L0.F,Int.toNat_zero,List.drop_zero,List.nil_append]
    rw[ae.run (d:=(is,os,nt,u)) hok]
    simp only[aa,ae.add,ae.F,Int.toNat_natCast,Nat.zero_add,Nat.add_zero,bu (show(0:Int)≤(k:Int) by omega) (show(k:Int) < (is.length:Int) by omega),ak,aW hk,decide_true,List.length_set,Nat.le_refl,and_self]
    rw[fm (by rw[List.length_set])]
   ·simp only[hb];rfl
 ·rw[bw h3,bw (p:=0≤i∧i < (is.length:Int)∧0≤br∧br < 4∧ks.length≤12) (by omega)];rfl
noncomputable def aZ.E:=Entry.cM [some jz,some ti,some ti,some tU,some tu] aZ.st aZ.az aZ.add aZ.F aZ.out
noncomputable def aZ.call:aZ.D→Option aZ.X:=bP aZ.E aZ.st
theorem aZ.run:bK aZ.call aZ.az aZ.add aZ.F:=de (cW [.d jz,.d ti,.d ti,.d tU,.d tu] fun _=>by kernel_rfl)
noncomputable def aZ.sg:SG Tryz.prog:=⟨16,aV,aZ.E,.fn 1 (by kernel_rfl) aZ.ok (And.intro (.cM aZ.L0.ok (by kernel_rfl)) trivial)⟩
set_option synthInstance.maxSize 5000
abbrev eJ:Ty:=(.pair fA (.pair ti .unit))
abbrev dB:=(fc×(Int×Unit))
abbrev Af:Ty:=(.pair bD (.pair eJ .unit))
abbrev ug:=(bY×(dB×Unit))
abbrev cD:Ty:=(.pair (.slice Af) (.pair (.slice bD) .unit))
abbrev cr:=((List ug)×((List bY)×Unit))
abbrev iI:Ty:=(.pair ti (.pair jz (.pair ti .unit)))
abbrev jO:=(Int×(fg×(Int×Unit)))
abbrev ej.D:=Bs×Bs
def ej.st:ej.D→SA:=fun(a,b)=>([.d tB a,.d tB b],[])
abbrev ej.Y:=Int
abbrev ej.X:=Int
def ej.out:ej.X→aX:=fun x=>⟨.d ti x,[],[]⟩
def ej.add:ej.D→ej.Y→ej.X:=fun(a,b) y=>y
def ej.az:ej.D→Prop:=fun _=>True
def ej.F:ej.D→ej.Y:=fun(a,b)=>sP a b
noncomputable def ej.G:dG:=eT (P:=Tryz.prog) [⟨156,aV,yx.E,yx.of (fn:=Tryz.f156) (by kernel_rfl) (by kernel_rfl) (by kernel_rfl) (by kernel_rfl) (by kernel_rfl)⟩]
noncomputable def ej.an:dX:= {}
noncomputable def ej.A:= @cR Tryz.prog ej.G ej.an 0 Tryz.f82 _ ej.st
abbrev ej.Ok:=cS @ej.A ej.az ej.add ej.F ej.out
theorem ej.eq{R:Type}(a:Bs)(b:Bs)(k:aX→Option R):ej.A (a,b) k=
 au (yx.call (a,b)) fun x1=>
 k (ej.out x1):=by kernel_rfl
theorem ej.ok:ej.Ok:=by
 rintro⟨a,b⟩ _
 rw[ej.eq,yx.run]
 rfl
noncomputable def ej.E:=Entry.cM [some tB,some tB] ej.st ej.az ej.add ej.F ej.out
noncomputable def ej.call:ej.D→Option ej.X:=bP ej.E ej.st
theorem ej.run:bK ej.call ej.az ej.add ej.F:=de (cW [.d tB,.d tB] fun _=>by kernel_rfl)
noncomputable def ej.sg:SG Tryz.prog:=⟨82,aV,ej.E,.fn 0 (by kernel_rfl) ej.ok trivial⟩
abbrev dW.D:=Int
def dW.st:dW.D→SA:=fun x=>([.d ti x],[])
abbrev dW.Y:=Bool
abbrev dW.X:=Bool
def dW.out:dW.X→aX:=fun x=>⟨.d .bool x,[],[]⟩
def dW.add:dW.D→dW.Y→dW.X:=fun x y=>y
def dW.az:dW.D→Prop:=fun _=>True
def dW.F:dW.D→dW.Y:=fun _=>false
noncomputable def dW.G:dG:=eT (P:=Tryz.prog) []
noncomputable def dW.an:dX:= {}
noncomputable def dW.A:= @cR Tryz.prog dW.G dW.an 0 Tryz.f157 _ dW.st
abbrev dW.Ok:=cS @dW.A dW.az dW.add dW.F dW.out
theorem dW.eq{R:Type}(x:Int)(k:aX→Option R):dW.A x k=
 k (dW.out (tJ x x)):=by kernel_rfl
theorem dW.ok:dW.Ok:=by
 intro x _
 rw[dW.eq]
 simp only[dW.add,dW.F,eY rfl]
noncomputable def dW.E:=Entry.cM [some ti] dW.st dW.az dW.add dW.F dW.out
noncomputable def dW.call:dW.D→Option dW.X:=bP dW.E dW.st
theorem dW.run:bK dW.call dW.az dW.add dW.F:=de (cW [.d ti] fun _=>by kernel_rfl)
noncomputable def dW.sg:SG Tryz.prog:=⟨157,aV,dW.E,.fn 0 (by kernel_rfl) dW.ok trivial⟩
def xt(x y:Int):Int:=if x < y then -1 else if x > y then 1 else 0
abbrev dV.D:=Int×Int
def dV.st:dV.D→SA:=fun(x,yv)=>([.d ti x,.d ti yv],[])
abbrev dV.Y:=Int
abbrev dV.X:=Int
def dV.out:dV.X→aX:=fun x=>⟨.d ti x,[],[]⟩
def dV.add:dV.D→dV.Y→dV.X:=fun(x,yv) y=>y
def dV.az:dV.D→Prop:=fun _=>True
def dV.F:dV.D→dV.Y:=fun(x,y)=>xt x y
noncomputable def dV.G:dG:=eT (P:=Tryz.prog) [dW.sg]
noncomputable def dV.an:dX:= {}
noncomputable def dV.A:= @cR Tryz.prog dV.G dV.an 0 Tryz.f83 _ dV.st
abbrev dV.Ok:=cS @dV.A dV.az dV.add dV.F dV.out
theorem dV.eq{R:Type}(x:Int)(yv:Int)(k:aX→Option R):dV.A (x,yv) k=
  au (dW.call x) fun x1=>
  au (dW.call yv) fun x2=>
  aP (x1) (
   aP (x2) (
    k (dV.out (0:Int))) (
    k (dV.out (-1:Int)))) (
   aP (x2) (
    k (dV.out (1:Int))) (
    aP ((gE x yv)) (
     k (dV.out (-1:Int))) (
     aP ((pZ x yv)) (
      k (dV.out (1:Int))) (
      k (dV.out (0:Int)))))):=by kernel_rfl
theorem dV.ok:dV.Ok:=by
 rintro⟨x,y⟩ _
 rw[dV.eq,dW.run (d:=x) trivial]
 simp only[aa,dW.add,dW.F]
 rw[dW.run (d:=y) trivial]
 simp only[aa,dW.add,dW.F,aw,dV.add,dV.F,xt]
 by_cases h:x < y
 ·rw[bq h,ak,if_pos h]
 ·rw[bm h,aw,if_neg h]
  by_cases h2:x > y
  ·rw[dZ h2,ak,if_pos h2]
  ·rw[dS h2,aw,if_neg h2]
noncomputable def dV.E:=Entry.cM [some ti,some ti] dV.st dV.az dV.add dV.F dV.out
noncomputable def dV.call:dV.D→Option dV.X:=bP dV.E dV.st
theorem dV.run:bK dV.call dV.az dV.add dV.F:=de (cW [.d ti,.d ti] fun _=>by kernel_rfl)
noncomputable def dV.sg:SG Tryz.prog:=⟨83,aV,dV.E,.fn 0 (by kernel_rfl) dV.ok trivial⟩
abbrev dD.L0.D:=Int×(List Int)×Int×Int
def dD.L0.st:dD.L0.D→AS:=fun(zero,t6,t7,t8)=>⟨([.undef,.undef,.undef,.d ti zero,.undef,.undef,.d (.slice ti) t6,.d ti t7,.d ti t8]++bl 9 []),[],(List.replicate 18 [])⟩
abbrev dD.L0.Y0:=Int
abbrev dD.L0.X0:=Int
def dD.L0.bE:dD.L0.X0→Exit×AS:=fun x=>(.ret,⟨([.undef,.undef,.d ti x]++bl 15 []),[],(List.replicate 18 [])⟩)
abbrev dD.L0.Y1:=Unit
abbrev dD.L0.X1:=Int
def dD.L0.gT:dD.L0.X1→Exit×AS:=fun x=>(.exit 0,⟨([.undef,.undef,.undef,.d ti x]++bl 14 []),[],(List.replicate 18 [])⟩)
abbrev dD.L0.X:=(dD.L0.X0)⊕(dD.L0.X1)
abbrev dD.L0.Y:=(dD.L0.Y0)⊕(dD.L0.Y1)
def dD.L0.out:dD.L0.X→Out (Exit×AS):=fun x=> .br x.isLeft (.get x.getLeft? fun a=> .ok (dD.L0.bE a)) (.get x.getRight? fun b=> .ok (dD.L0.gT b))
def dD.L0.add:dD.L0.D→dD.L0.Y→dD.L0.X:=fun(zero,t6,t7,t8) y=>match y with | .inl y=> .inl y | .inr z=> .inr (zero)
abbrev dD.D:=(List Int)
def dD.st:dD.D→SA:=fun fP=>([.d (.slice ti) fP],[])
abbrev dD.Y:=Int
abbrev dD.X:=Int
def dD.out:dD.X→aX:=fun x=>⟨.d ti x,[],[]⟩
def dD.add:dD.D→dD.Y→dD.X:=fun fP y=>y
def Ew:List Int→Int
 |[]=>0
 |x::l=>if x≠0 then x else Ew l
def Dk:List Int→Int⊕Unit
 |[]=> .inr ()
 |x::l=>if x≠0 then .inl x else Dk l
theorem Dl:∀l:List Int,Ew l=match Dk l with | .inl x=>x | .inr _=>0
 |[]=>rfl
 |x::l=>by
  simp only[Ew,Dk]
  split
  ·rfl
  ·exact Dl l
def dD.L0.az:dD.L0.D→Prop:=fun(z,l,n,i)=>z=0∧l.length≤1000000000∧n=l.length∧∃k:Nat,k≤l.length∧i=k
def dD.L0.F:dD.L0.D→dD.L0.Y:=fun(z,l,n,i)=>Dk (l.drop i.toNat)
def dD.az:dD.D→Prop:=fun l=>l.length≤1000000000
def dD.F:dD.D→dD.Y:=fun l=>Ew l
noncomputable def dD.G:dG:=eT (P:=Tryz.prog) []
noncomputable def dD.L0.E:=bW.cM dD.L0.st dD.L0.az dD.L0.add dD.L0.F dD.L0.out
noncomputable def dD.L0.call:dD.L0.D→Option dD.L0.X:=dF dD.L0.E dD.L0.st
noncomputable def dD.an:dX:= {loops:=l7 [(3,{bn:=[3,6,7,8]})],outs:=l6 [(3,{bn:=[3]},{bn:=[2]})],fK:=mU [(3,dD.L0.E)]}
noncomputable def dD.A:= @cR Tryz.prog dD.G dD.an 0 Tryz.f81 _ dD.st
abbrev dD.Ok:=cS @dD.A dD.az dD.add dD.F dD.out
noncomputable def dD.L0.R:= @cz Tryz.prog dD.G dD.an 0 Tryz.f81 0 _ dD.L0.st
abbrev dD.L0.Ok:=eK Tryz.prog dD.G dD.an 0 Tryz.f81 0 dD.L0.st dD.L0.az dD.L0.add dD.L0.F dD.L0.out
theorem dD.L0.run:bK dD.L0.call dD.L0.az dD.L0.add dD.L0.F:=eU (eQ [.d ti,.d (.slice ti),.d ti,.d ti] fun _=>by kernel_rfl)
theorem dD.L0.aK:oe @dD.L0.R dD.L0.st dD.L0.az dD.L0.add dD.L0.F dD.L0.out dD.L0.Ok:=py
theorem dD.L0.step{R:Type}(zero:Int)(t6:(List Int))(t7:Int)(t8:Int)(kn:AS→Option R)(kx:Exit→AS→Option R):dD.L0.R (zero,t6,t7,t8) kn kx=
  aP ((gE t8 t7)) (
   aP (fo t8 (((List.length t6):Nat):Int)) (
   aP ((tJ (nth ti t6 (Int.toNat t8)) zero)) (
    kx (dD.L0.bE (nth ti t6 (Int.toNat t8))).1 (dD.L0.bE (nth ti t6 (Int.toNat t8))).2) (
    kn (dD.L0.st (zero,t6,t7,(b8 .i64 t8 (1:Int)))))) none) (
   kx (dD.L0.gT zero).1 (dD.L0.gT zero).2):=by kernel_rfl
theorem dD.eq{R:Type}(fP:(List Int))(k:aX→Option R):dD.A fP k=
  au (dD.L0.call ((0:Int),fP,(((List.length fP):Nat):Int),(0:Int))) fun x1=>
  aP (x1.isLeft) (
   au (x1.getLeft?) fun a2=>
   k (dD.out a2)) (
   au (x1.getRight?) fun b3=>
   k (dD.out b3)):=by kernel_rfl
theorem dD.L0.ok:dD.L0.Ok:=by
 refine dD.L0.aK (fun(z,l,n,i)=>l.length - i.toNat) ?_
 rintro⟨z,l,n,i⟩ ⟨rfl,hl,rfl,k,hk,rfl⟩
 by_cases h:k < l.length
 ·have hd:l.drop k=l[k]::l.drop (k+1):=List.drop_eq_getElem_cons h
  have n1:nth ti l k=l[k]:=cX (t:=ti) h
  by_cases h2:l[k]≠0
  ·right
   refine⟨dD.L0.bE l[k],?_,fun kn kx=> ?_⟩
   rotate_left
   ·rw[dD.L0.step,bq (by omega),ak,bu (by omega) (by omega),ak,Int.toNat_natCast,n1,gh h2,ak]
   ·simp only[dD.L0.add,dD.L0.F,Int.toNat_natCast,hd,Dk,if_pos h2]
    rfl
  ·left
   refine⟨(0,l,(l.length:Int),((k+1:Nat):Int)),⟨rfl,hl,rfl,k+1,by omega,rfl⟩,by simp only[Int.toNat_natCast];omega,?_,fun kn kx=> ?_⟩
   ·simp only[dD.L0.add,dD.L0.F,Int.toNat_natCast,hd,Dk,if_neg h2]
   ·rw[dD.L0.step,bq (by omega),ak,bu (by omega) (by omega),ak,Int.toNat_natCast,n1,eY (by omega),aw,N.nj (by omega)]
 ·right
  obtain rfl:k=l.length:=by omega
  refine⟨dD.L0.gT 0,?_,fun kn kx=> ?_⟩
  rotate_left
  ·rw[dD.L0.step,bm (by omega),aw]
  ·simp only[dD.L0.add,dD.L0.F,Int.toNat_natCast,List.drop_length,Dk]
   rfl
theorem dD.ok:dD.Ok:=by
 intro l hl
 rw[dD.eq,dD.L0.run (d:=(0,l,(l.length:Int),0)) ⟨rfl,hl,rfl,0,Nat.zero_le _,rfl⟩]
 simp only[aa,dD.L0.add,dD.L0.F,Int.toNat_zero,List.drop_zero,dD.add,dD.F]
 rw[Dl]
 cases Dk l <;> rfl
noncomputable def dD.E:=Entry.cM [some (.slice ti)] dD.st dD.az dD.add dD.F dD.out
noncomputable def dD.call:dD.D→Option dD.X:=bP dD.E dD.st
theorem dD.run:bK dD.call dD.az dD.add dD.F:=de (cW [.d (.slice ti)] fun _=>by kernel_rfl)
noncomputable def dD.sg:SG Tryz.prog:=⟨81,aV,dD.E,.fn 1 (by kernel_rfl) dD.ok (And.intro (.cM dD.L0.ok (by kernel_rfl)) trivial)⟩
end Go.Ab
namespace Go.Ab
open Go.Sort (grow)
structure Em(P:Program)(t:Ty)(g:FuncId)(Q:t.den→Prop)(cf:t.den→t.den→Int):Prop where
 bo:∃en,jB P g en∧∀x y,Q x→Q y→∃X,en.run [.d t x,.d t y] []=some X∧en.out [.d t x,.d t y] [] X=⟨.d (.int .i64) (cf x y),[],[]⟩
 enters:∀args w,(callFunc g args).run P w= .ok (.enter g args) w
 irrefl:∀x,Q x→¬cf x x < 0
 trans:∀x y z,Q x→Q y→Q z→cf x y < 0→cf y z < 0→cf x z < 0
 ntrans:∀x y z,Q x→Q y→Q z→¬cf x y < 0→¬cf y z < 0→¬cf x z < 0
theorem Cr{w w':World}(hos:w'.os=w.os)(htp:w'.tape=w.tape)(hout:w'.output=w.output∧w.drawn≤w'.drawn)(hsz:w.heap.size≤w'.heap.size)(hb:∀b:Nat,b < w.heap.size→w'.heap[b]? =w.heap[b]?):
  ∃q os,w'=grow (w.drewN q) os:=by
 obtain⟨h1,t1,d1,o1,p1⟩:=w
 obtain⟨h2,t2,d2,o2,p2⟩:=w'
 simp only at*
 obtain⟨hout,hd⟩:=hout
 subst hos htp hout
 obtain⟨q,rfl⟩:∃q,d2=d1+q:=⟨d2 - d1,by omega⟩
 refine⟨q,h2.extract h1.size h2.size,?_⟩
 have hh:h2=h1++h2.extract h1.size h2.size:=by
  apply Array.ext_getElem?
  intro i
  rw[Array.getElem?_append]
  by_cases hi:i < h1.size
  ·rw[if_pos hi,hb i hi]
  ·rw[if_neg hi,Array.getElem?_extract]
   by_cases h3:i < h2.size
   ·rw[if_pos (by omega)]
    congr 1;omega
   ·rw[if_neg (by omega),Array.getElem?_eq_none (by omega)]
 show({heap:=h2,tape:=_,drawn:=_,os:=_,output:=_}:World)= {heap:=h1++h2.extract h1.size h2.size,tape:=_,drawn:=_,os:=_,output:=_}
 rw[←hh]
 rfl
section
variable {P:Program} {t:Ty} {g:FuncId} {Q:t.den→Prop} {cf:t.den→t.den→Int}
theorem Em.EU(h:Em P t g Q cf)(ha:t.agg=true){W:World}{cx cy:List Value}{x y:t.den}(hx:bZ ((eP []).env W (fun _=> .free) (fun _=>none)) t cx x)
  (hy:bZ ((eP []).env W (fun _=> .free) (fun _=>none)) t cy y) (qx:Q x) (qy:Q y):
  Calls P g #[.agg cx.toArray,.agg cy.toArray] W fun e w'=>e= .returned (.int .i64 (cf x y))∧∃q os,w'=grow (W.drewN q) os:=by
 obtain⟨en,hd,hrun⟩:=h.bo
 obtain⟨X,hX1,hX2⟩:=hrun x y qx qy
 have one:∀ {c:List Value} {z:t.den},bZ ((eP []).env W (fun _=> .free) (fun _=>none)) t c z→VS ((eP []).env W (fun _=> .free) (fun _=>none)) (.d t z) (.agg c.toArray):=fun hz=>
  ⟨_,by simpa only[V]using hz,by show dM t.agg _ _;rw[ha];rfl⟩
 have ho:e7 ((eP []).env W (fun _=> .free) (fun _=>none)):=fun id ver fr c h=>by
  exfalso
  cases id with
  |cG k=>simp[AS.env,AS.bo,eP]at h
  |new i j=>simp[AS.env,AS.bo,eP]at h
 rcases hd W (fun _=> .free) (fun _=>none) [.d t x,.d t y] [] [.agg cx.toArray,.agg cy.toArray] X ⟨one hx,one hy,trivial⟩ ho hX1 with⟨_,hc⟩ | ⟨v,w',hc,_⟩
 ·refine hc.mono fun e w' he=> ?_
  obtain⟨v,rfl,g',β',hv,_,ht,_⟩:=he
  rw[hX2]at hv
  obtain⟨cs,k1,k2⟩:=hv
  have k1:cs=[.int .i64 (cf x y)]:=k1
  subst k1
  have k2: [Value.int .i64 (cf x y)]=[v]:=k2
  have hv:v= .int .i64 (cf x y):=by simpa using k2.symm
  exact⟨by rw[hv],Cr ht.os ht.tape ht.output ht.size fun b hb=>(ht.qm b hb).2⟩
 ·rw[h.enters]at hc;cases hc
def Ar(cf:t.den→t.den→Int)(l l':List t.den):Prop:=l'.Perm l∧l'.Pairwise fun x y=>¬cf y x < 0
open Classical in
noncomputable def nX(cf:t.den→t.den→Int)(l:List t.den):List t.den:=if h:∃l',Ar cf l l' then h.choose else l
theorem u6(h:Em P t g Q cf){l:List t.den}(hQ:∀x∈l,Q x):Ar cf l (nX cf l):=by
 have hx:∃l',Ar cf l l':=by
  let le: {x // Q x}→ {x // Q x}→Bool:=fun x y=> !decide (cf y.1 x.1 < 0)
  refine⟨((l.attachWith Q hQ).mergeSort le).map (·.1),?_,?_⟩
  ·have h1:=(List.mergeSort_perm (l.attachWith Q hQ) le).map (·.1)
   rwa[List.attachWith_map_subtype_val]at h1
  ·have h2:=List.pairwise_mergeSort (le:=le) (fun a b c h1 h2=>by
    simp only[le,Bool.not_eq_true',decide_eq_false_iff_not]at*
    exact h.ntrans _ _ _ c.2 b.2 a.2 h2 h1) (fun a b=>by
    simp only[le,Bool.or_eq_true,Bool.not_eq_true',decide_eq_false_iff_not]
    by_cases h1:cf b.1 a.1 < 0
    ·exact .inr fun h2=>h.irrefl _ a.2 (h.trans _ _ _ a.2 b.2 a.2 h2 h1)
    ·exact .inl h1) (l.attachWith Q hQ)
   rw[List.pairwise_map]
   exact h2.imp fun {a b} h3=>by simpa[le]using h3
 unfold nX
 rw[dif_pos hx]
 exact hx.choose_spec
theorem sx(h:Em P t g Q cf){l l':List t.den}(hQ:∀x∈l,Q x)(hT:∀x∈l,∀y∈l,¬cf x y < 0→¬cf y x < 0→x=y)(hs:Ar cf l l'):l'=nX cf l:=by
 have h2:=u6 h hQ
 exact List.Perm.eq_of_pairwise (fun a b ha hb h3 h4=>hT a (hs.1.mem_iff.1 ha) b (h2.1.mem_iff.1 hb) h4 h3) hs.2 h2.2 (hs.1.trans h2.1.symm)
def pg(g:FuncId)(e:TypeId)(t:Ty):Nat×List t.den→List al×List cY:=fun d=>([.bp (.cG 0) 0 [] 0 0 d.1,.fn g .nil],[.obj 0 false (.vec e t d.2)])
def sw(Q:t.den→Prop)(cf:t.den→t.den→Int):Nat×List t.den→Prop:=fun d=>d.1=d.2.length∧d.2.length < 4611686018427387904∧(∀x∈d.2,Q x)∧∀x∈d.2,∀y∈d.2,¬cf x y < 0→¬cf y x < 0→x=y
def Ef(e:TypeId)(t:Ty):Nat×List t.den→aX:=fun x=>⟨.nil,[.obj 0 false (.vec e t x.2)],[]⟩
noncomputable def CU(g:FuncId)(e:TypeId)(t:Ty)(Q:t.den→Prop)(cf:t.den→t.den→Int):Entry:=
 Entry.of [none,none] (pg g e t) (sw Q cf) (fun d=>(d.1,nX cf d.2)) (Ef e t)
theorem CV{g:FuncId}{e:TypeId}{t:Ty}(d d':Nat×List t.den)(h:pg g e t d=pg g e t d'):d=d':=by
 obtain⟨n,l⟩:=d
 obtain⟨n',l'⟩:=d'
 simp only[pg,Prod.mk.injEq,List.cons.injEq,al.bp.injEq,cY.obj.injEq,true_and,and_true]at h
 obtain⟨rfl,h2⟩:=h
 rw[C1 h2]
noncomputable def u5(g:FuncId)(e:TypeId)(t:Ty)(Q:t.den→Prop)(cf:t.den→t.den→Int):Nat×List t.den→Option (Nat×List t.den):=fun d=>(CU g e t Q cf).run (pg g e t d).1 (pg g e t d).2
theorem y3{g:FuncId}{e:TypeId}{t:Ty}{Q:t.den→Prop}{cf:t.den→t.den→Int}{d:Nat×List t.den}(h:sw Q cf d):u5 g e t Q cf d=some (d.1,nX cf d.2):=Entry.nU CV h
theorem oz{R:List Value→t.den→Prop}:∀ {cs:List Value} {l:List t.den},aN R cs l→(∀x∈l,Q x)→∃ps:List {p:List Value×t.den // R p.1 p.2∧Q p.2},ps.map (·.1.2)=l∧(ps.map (·.1.1)).flatten=cs
 |cs,[],h,_=>⟨[],rfl,by have h:cs=[]:=h;rw[h];rfl⟩
 |cs,x::l,⟨c,cs',h1,h2,h3⟩,hq=>by
  obtain⟨ps,h4,h5⟩:=oz h3 fun y hy=>hq y (List.mem_cons_of_mem _ hy)
  exact⟨⟨(c,x),h2,hq x (List.mem_cons_self ..)⟩::ps,by simp[h4],by simp[h5,h1]⟩
theorem oS{R R':List Value→t.den→Prop}(hR:∀c x,R c x→R' c x):∀ps:List {p:List Value×t.den // R p.1 p.2∧Q p.2},aN R' (ps.map (·.1.1)).flatten (ps.map (·.1.2))
 |[]=>rfl
 |p::ps=>⟨p.1.1,(ps.map (·.1.1)).flatten,by simp,hR _ _ p.2.1,oS hR ps⟩
theorem vQ{α:Type} [Inhabited α] (enc:α→List Value) {k:Nat} (hk:∀x,(enc x).length=k):∀(ps:List α) (j:Nat),j < ps.length*k→((ps.map enc).flatten)[j]? =(enc (ps.toArray[j / k]!))[j%k]?
 |[],j,h=>by simp at h
 |p::ps,j,h=>by
  have k0:0 < k:=by
   rcases Nat.eq_zero_or_pos k with h0 | h0
   ·subst h0;simp at h
   ·exact h0
  simp only[List.map_cons,List.flatten_cons]
  by_cases hj:j < k
  ·rw[List.getElem?_append_left (by rw[hk];exact hj),Nat.div_eq_of_lt hj,Nat.mod_eq_of_lt hj]
   rfl
  ·have e1:j / k=(j - k) / k+1:=by
    rw[Nat.div_eq_sub_div k0 (by omega)]
   have e2:j%k=(j - k)%k:=by rw[Nat.mod_eq_sub_mod (by omega)]
   rw[List.getElem?_append_right (by rw[hk];omega),hk,vQ enc hk ps (j - k) (by simp only[List.length_cons,Nat.add_mul,Nat.one_mul]at h;omega),e1,e2]
   congr 2
   simp
theorem nO{α:Type} [Inhabited α] (enc:α→List Value) {k:Nat} (hk:∀x,(enc x).length=k) (d:Array α):(Go.Sort.flatK enc k d).toList=(d.toList.map enc).flatten:=by
 have hl:((d.toList.map enc).flatten).length=d.size*k:=by
  rw[List.length_flatten,List.map_map]
  have:(d.toList.map (List.length∘enc))=List.replicate d.size k:=by
   rw[List.eq_replicate_iff]
   exact⟨by simp,fun x hx=>by obtain⟨y,_,rfl⟩:=List.mem_map.1 hx;exact hk y⟩
  rw[this,List.sum_replicate_nat]
 apply List.ext_getElem?
 intro j
 by_cases hj:j < d.size*k
 ·rw[vQ enc hk d.toList j (by simpa using hj)]
  have h2:(Go.Sort.flatK enc k d).toList[j]? =some ((Go.Sort.flatK enc k d)[j]!):=by
   rw[Array.getElem?_toList,getElem!_pos _ j (by rw[Go.Sort.size_flatK];exact hj)]
   simp[hj]
  rw[h2,Go.Sort.get_flatK _ _ _ _ hj]
  have hk0:0 < k:=by
   rcases Nat.eq_zero_or_pos k with h0 | h0
   ·subst h0;simp at hj
   ·exact h0
  have hm:j%k < k:=Nat.mod_lt _ hk0
  simp only[Array.toArray_toList]
  rw[List.getElem?_eq_getElem (by rw[hk];exact hm),getElem!_pos _ _ (by rw[hk];exact hm)]
 ·rw[List.getElem?_eq_none (by simpa using hj),List.getElem?_eq_none (by rw[hl];omega)]
theorem BD{F cur:Array Value}(h:F.size≤cur.size):(Go.Sort.putCells id 0 F cur).toList=F.toList++cur.toList.drop F.size:=by
 apply List.ext_getElem?
 intro j
 simp only[Go.Sort.putCells,Array.getElem?_toList,Array.getElem?_mapIdx,Nat.zero_le,true_and,Nat.zero_add,Nat.sub_zero,id]
 by_cases hj:j < F.size
 ·rw[List.getElem?_append_left (by simpa using hj),Array.getElem?_toList,Array.getElem?_eq_getElem hj,Array.getElem?_eq_getElem (by omega),Option.map_some,if_pos hj,getElem!_pos F j hj]
 ·rw[List.getElem?_append_right (by simpa using hj),List.getElem?_drop,Array.getElem?_toList,Array.length_toList,show F.size+(j - F.size)=j by omega]
  cases cur[j]? with
  |none=>rfl
  |some y=>rw[Option.map_some,if_neg hj]
end
section
open Go.Proofs Go.Shelf Go.Lib Go.Sort
variable {P:Program} {ρ:Go.Shelf.Ren} {t:Ty} {g:FuncId} {Q:t.den→Prop} {cf:t.den→t.den→Int}
theorem sy{α:Type} [Inhabited α] (enc:α→List Value) (k:Nat) (w:World) (qm m:Nat) (dk:Array α) (os:Array Obj) {b:Nat} (hb:b < w.heap.size) (hne:b≠qm):(sortWorldK enc k w qm 0 m dk os).heap[b]? =w.heap[b]? :=by
 show((w.heap.modify qm _)++os)[b]? =_
 rw[Array.getElem?_append,if_pos (by simpa using hb),Array.getElem?_modify,if_neg (fun e=>hne e.symm)]
theorem CY{α:Type} [Inhabited α] (enc:α→List Value) (k:Nat) (w:World) (qm m:Nat) (dk:Array α) (os:Array Obj) {cur:Array Value} {e:TypeId} {fr:Nat×Nat} (hb:w.heap[qm]? =some (.cells cur e fr)):
  (sortWorldK enc k w qm 0 m dk os).heap[qm]? =some (.cells (putCells id 0 (flatK enc k dk) cur) e fr):=by
 have hlt:qm < w.heap.size:=(Array.getElem?_eq_some_iff.1 hb).1
 show((w.heap.modify qm _)++os)[qm]? =_
 rw[Array.getElem?_append,if_pos (by simpa using hlt),Array.getElem?_modify,if_pos rfl,hb]
 rfl
set_option maxHeartbeats 1000000 in
theorem BT(L:SlLaysF0.n6 P ρ){e:TypeId}(ha:t.agg=true)(aE:∀w,(isAgg (ρ.t 24)).run P w= .ok true w)(zE:∀w,(Go.sizeOf (ρ.t 24)).run P w= .ok t.size w)(hc:Em P t g Q cf):
  jB P (ρ.f 6) (CU g e t Q cf):=by
 intro w γ β args ck fP x hv ho hx
 obtain⟨d0,hd0,hpre⟩:∃d,pg g e t d=(args,ck)∧sw Q cf d:=by
  by_cases hh:∃d,pg g e t d=(args,ck)∧sw Q cf d
  ·exact hh
  ·exfalso
   have hn:(CU g e t Q cf).run args ck=none:=dif_neg hh
   rw[hn]at hx
   cases hx
 have hr:=y3 (g:=g) (e:=e) hpre
 unfold u5 at hr
 rw[hd0]at hr
 obtain rfl:x=(d0.1,nX cf d0.2):=Option.some.inj (hx.symm.trans hr)
 obtain⟨n,l⟩:=d0
 simp only[pg,Prod.mk.injEq]at hd0
 obtain⟨rfl,rfl⟩:=hd0
 obtain⟨hn,hsz,hQ,hT⟩:=hpre
 have hn:n=l.length:=hn
 subst hn
 match fP,hv with
 |[y1,y2],⟨hv1,hv2,_⟩=>
 obtain⟨vs,rfl,hvs⟩:=yC hv2
 have hvs:vs=[]:=by simpa only[VC]using hvs
 subst hvs
 have h1:=hv1.single rfl rfl
 simp only[V]at h1
 obtain⟨a,cap,h1,hcap,hsome,_,hcur⟩:=h1
 have h1:y1= .slice a l.length cap:=by simpa using h1
 subst h1
 have hent:(eP [cY.obj 0 false (.vec e t l)]).bo (.cG 0)=some (.obj 0 false (.vec e t l)):=rfl
 obtain⟨hz,hO⟩:EG ((eP [cY.obj 0 false (.vec e t l)]).env w γ β) (.cG 0) false e t l:=ho (.cG 0) 0 false _ hent
 have hcur:=hcur ⟨false,_,hent⟩
 refine .inl ⟨L.f6.enters rfl _ _,?_⟩
 have hnil:∀v:Value,v= .tuple #[]→VS ((aX.st ⟨.nil,[.obj 0 false (.vec e t (nX cf l))],[]⟩).env w γ β) .nil v:=fun v hv=>by rw[hv];exact rfl
 have hS:=u6 hc hQ
 by_cases hl:l=[]
 ·subst hl
  have hs:nX cf ([]:List t.den)=[]:=List.eq_nil_of_length_eq_zero hS.1.length_eq
  refine(AnyF.slices_SortFunc_none L a cap _ w).mono fun e' w' he=> ?_
  obtain⟨rfl,rfl⟩:=he
  refine⟨_,rfl,?_⟩
  show kC _ (⟨.nil,[.obj 0 false (.vec e t (nX cf []))],[]⟩:aX) _ _
  rw[hs]
  exact kC.same rfl ho
 ·have hpos:0 < l.length:=List.length_pos_iff.2 hl
  change (match β (.cG 0) with | none=>l=[] | some pl=>∃cur k,w.heap[pl.b]? =some (.cells cur e (0,0))∧cur.size=pl.cap*t.size∧l.length≤pl.cap∧pl.cap≤maxLen∧γ pl.b= .own (.id (.cG 0)) k∧
   k≤l.length*t.size∧(false=false→k=0)∧aN (bZ ((eP [cY.obj 0 false (.vec e t l)]).env w γ β) t) (cur.toList.take (l.length*t.size)) l) at hO
  change (match β (.cG 0) with | some pl=>(0 < l.length∨True→a=some ⟨pl.b,0,none⟩)∧(True→True→cap=pl.cap) | none=>a=none∧l.length=0∧cap=0) at hcur
  cases hβ:β (.cG 0) with
  |none=>rw[hβ]at hO;exact absurd hO hl
  |some pl=>
  rw[hβ]at hO hcur
  obtain⟨cur,k0,q1,q2,q3,q4,q5,_,q7,q8⟩:=hO
  obtain rfl:=q7 rfl
  obtain rfl:=hcur.1 (.inl hpos)
  have hblk:pl.b < w.heap.size:=(Array.getElem?_eq_some_iff.1 q1).1
  obtain⟨R,hR⟩:∃R:List Value→t.den→Prop,R=bZ ((eP [cY.obj 0 false (.vec e t l)]).env w γ β) t:=⟨_,rfl⟩
  have hRm:∀c x,R c x→bZ ((eP [cY.obj 0 false (.vec e t l)]).env w γ β) t c x:=by rw[hR];exact fun _ _ h=>h
  rw[←hR]at q8
  obtain⟨ps,p1,p2⟩:=oz (Q:=Q) q8 hQ
  have hps:ps.length=l.length:=by rw[←p1,List.length_map]
  let α:= {p:List Value×t.den // R p.1 p.2∧Q p.2}
  have:0 < ps.length:=by omega
  letI:Inhabited α:=⟨ps[0]⟩
  let enc:α→List Value:=fun p=>p.1.1
  let cf':α→α→Int:=fun p q=>cf p.1.2 q.1.2
  have hk:∀x,(enc x).length=t.size:=fun x=>(hRm _ _ x.2.1).size
  have hO:SWO (ltOf cf'):=⟨fun x=>by simpa[ltOf,cf']using hc.irrefl _ x.2.2,fun x y z h1 h2=>by
   simp only[ltOf,decide_eq_true_eq,cf']at*
   exact hc.trans _ _ _ x.2.2 y.2.2 z.2.2 h1 h2,fun x y z h1 h2=>by
   simp only[ltOf,decide_eq_false_iff_not,cf']at*
   exact hc.ntrans _ _ _ x.2.2 y.2.2 z.2.2 h1 h2⟩
  have hcell:∀j,j < l.length*t.size→cur[j]? =((ps.map enc).flatten)[j]? :=fun j hj=>by
   have:(ps.map enc).flatten=cur.toList.take (l.length*t.size):=p2
   rw[this,List.getElem?_take,if_pos hj,Array.getElem?_toList]
  have hH:HoldsK enc t.size w pl.b 0 ps.toArray:=fun j hj=>by
   rw[size_flatK]at hj
   have hj:j < ps.length*t.size:=by simpa using hj
   have h2:=hcell j (by rw[←hps];exact hj)
   have h3:((flatK enc t.size ps.toArray).toList)[j]? =((ps.map enc).flatten)[j]? :=by rw[nO enc hk]
   rw[Array.getElem?_toList,Array.getElem?_eq_getElem (by rw[size_flatK];simpa using hj)]at h3
   refine⟨?_,?_⟩
   ·show(match w.heap[pl.b]? with | some (.cells c _ _)=>if(none:Option _).isSome then none else c[0+j]? | _=>none)=_
    rw[q1]
    simp only[Option.isSome_none,Bool.false_eq_true,if_false,Nat.zero_add]
    rw[h2,←h3,getElem!_pos _ j (by rw[size_flatK];simpa using hj)]
    rfl
   ·show(match w.heap[pl.b]? with | some (.cells _ _ (lo,hi))=>decide (lo≤0+j) && decide (0+j < hi) | _=>false)=false
    rw[q1]
    simp
  have hmem:∀(m:Nat) (dk:Array α) (os:Array Obj),iP ((eP [cY.obj 0 false (.vec e t l)]).env w γ β) ((eP []).env (sortWorldK enc t.size w pl.b 0 m dk os) (fun _=> .free) (fun _=>none)):=fun m dk os=>by
   refine⟨fun b off v hh=>⟨?_,trivial⟩,fun b ob hf hob=>⟨rfl,?_⟩⟩
   ·obtain⟨h1,h2⟩:=hh
    have hb:b < w.heap.size:=World.block_lt_of_cell? _ _ h1
    have hne:b≠pl.b:=fun e=>by
     have h2:iO γ b off:=h2
     unfold iO at h2
     rw[e,q5]at h2
     exact Nat.not_lt_zero _ h2
    have h1:w.cell? ⟨b,off,none⟩=some v:=h1
    show(sortWorldK enc t.size w pl.b 0 m dk os).cell? ⟨b,off,none⟩=some v
    simpa only[World.cell?,sy enc t.size w pl.b m dk os hb hne]using h1
   ·have hob:w.heap[b]? =some ob:=hob
    have hb:b < w.heap.size:=(Array.getElem?_eq_some_iff.1 hob).1
    have hne:b≠pl.b:=fun e=>by
     have hf:γ b= .free:=hf
     rw[e,q5]at hf;cases hf
    exact(sy enc t.size w pl.b m dk os hb hne).trans hob
  have hcmp:CmpLays P g #[] enc t.size cf' pl.b 0 ps.toArray.size w:=fun m os dk _ p q=>
   hc.EU ha ((hRm _ _ p.2.1).mono (hmem m dk os)) ((hRm _ _ q.2.1).mono (hmem m dk os)) p.2.2 q.2.2
  have hcon:=AnyQ.slices_SortFunc L t.size aE zE enc hk (fun p=>(hRm _ _ p.2.1).one) cf' hO g #[] pl.b 0 cap ps.toArray w hc.enters hcmp hH hblk (by simpa[hps]using hsz)
  rw[show ps.toArray.size=l.length by simpa using hps]at hcon
  refine hcon.mono fun e' w' he=> ?_
  obtain⟨rfl,d',m,os,hp,hs,rfl⟩:=he
  refine⟨_,rfl,?_⟩
  obtain⟨s1,_,s2⟩:=hp
  have hd:d'.size=l.length:=by rw[s1];simpa using hps
  have hperm:d'.toList.Perm ps:=by
   have e1:(d'.extract 0 l.length)=d':=by rw[←hd];simp
   have e2:(ps.toArray.extract 0 l.length)=ps.toArray:=by rw[←hps];simp
   rw[e1,e2]at s2
   exact s2
  have hl':Ar cf l (d'.toList.map (·.1.2)):=by
   refine⟨by rw[←p1];exact hperm.map _,?_⟩
   rw[List.pairwise_map,List.pairwise_iff_getElem]
   intro i j hi hj hij
   have:=hs i j (Nat.zero_le _) hij (by rw[←hd];simpa using hj)
   rw[getElem!_pos d' i (by simpa using hi),getElem!_pos d' j (by simpa using hj)]at this
   simpa[ltOf,cf']using this
  have heq:=sx hc hQ hT hl'
  show kC _ (⟨.nil,[.obj 0 false (.vec e t (nX cf l))],[]⟩:aX) _ _
  rw[←heq]
  have hself:=CY enc t.size w pl.b m d' os q1
  have hFs:(flatK enc t.size d').size≤cur.size:=by
   rw[size_flatK,hd,q2]
   exact Nat.mul_le_mul_right _ q3
  have hoth:∀b,b < w.heap.size→b≠pl.b→(sortWorldK enc t.size w pl.b 0 m d' os).heap[b]? =w.heap[b]? :=fun b hb hne=>sy enc t.size w pl.b m d' os hb hne
  have hsize:w.heap.size≤(sortWorldK enc t.size w pl.b 0 m d' os).heap.size:=size_sortWorldK_c enc t.size w pl.b 0 m d' os
  have hw:(sortWorldK enc t.size w pl.b 0 m d' os).os=w.os∧(sortWorldK enc t.size w pl.b 0 m d' os).tape=w.tape∧((sortWorldK enc t.size w pl.b 0 m d' os).output=w.output∧w.drawn≤(sortWorldK enc t.size w pl.b 0 m d' os).drawn):=⟨rfl,rfl,rfl,Nat.le_add_right _ _⟩
  generalize sortWorldK enc t.size w pl.b 0 m d' os=w' at hself hoth hsize hw
  have ht:Trans w w' γ γ:=by
   refine⟨hw.1,hw.2.1,hw.2.2,hsize,fun b hb=> ?_⟩
   by_cases hbb:b=pl.b
   ·subst hbb
    rw[q5]
    exact⟨.inr ⟨_,0,rfl,Nat.le_refl _⟩,fun _ _ hh=>by omega⟩
   ·rw[hoth b hb hbb]
    cases hgb:γ b with
    |free=>exact⟨rfl,rfl⟩
    |own o' k=>cases o' with
     |dC=>exact⟨rfl,rfl⟩
     |id i'=>exact⟨.inr ⟨i',k,rfl,Nat.le_refl _⟩,fun off v _ hv=>by simpa only[World.cell?,hoth b hb hbb]using hv⟩
  have hle:bI ((eP [cY.obj 0 false (.vec e t l)]).env w γ β) ((aX.st ⟨.nil,[.obj 0 false (.vec e t (d'.toList.map (·.1.2)))],[]⟩).env w' γ β):=by
   have e0:∀id,(∃c,(eP [cY.obj 0 false (.vec e t l)]).bo id=some (.obj 0 false c)∧id= .cG 0)∨((eP [cY.obj 0 false (.vec e t l)]).bo id=none∧(aX.st ⟨.nil,[.obj 0 false (.vec e t (d'.toList.map (·.1.2)))],[]⟩).bo id=none):=fun id=>by
    cases id with
    |cG k=>cases k with
     |zero=>exact .inl ⟨_,rfl,rfl⟩
     |succ k=>exact .inr ⟨rfl,rfl⟩
    |new i j=>refine .inr ⟨?_,?_⟩ <;> cases i <;> rfl
   refine⟨Trans.mem (E:=(eP [cY.obj 0 false (.vec e t l)]).env w γ β) (E':=(aX.st ⟨.nil,[.obj 0 false (.vec e t (d'.toList.map (·.1.2)))],[]⟩).env w' γ β) ht,fun id ver hb=> ?_,fun id ver hb hcu=> ?_⟩
   ·rcases e0 id with⟨c,_,rfl⟩ | ⟨h1,_⟩
    ·refine⟨by show(some _:Option cY)≠none;simp,fun v fr c h=> ?_⟩
     have h:some (cY.obj 0 false (.vec e t (d'.toList.map (·.1.2))))=some (.obj v fr c):=h
     simp only[Option.some.injEq,cY.obj.injEq]at h
     have:=hb.2 0 false _ rfl
     omega
    ·exact absurd h1 hb.1
   ·rcases e0 id with⟨c,_,rfl⟩ | ⟨h1,_⟩
    ·obtain⟨fr,c,h⟩:=hcu
     have h:some (cY.obj 0 false (.vec e t (d'.toList.map (·.1.2))))=some (.obj ver fr c):=h
     simp only[Option.some.injEq,cY.obj.injEq]at h
     obtain⟨rfl,rfl,_⟩:=h
     exact⟨⟨false,_,rfl⟩,rfl⟩
    ·exact absurd h1 hb.1
  refine⟨γ,β,rfl,fun id ver fr c h=> ?_,ht,hle⟩
  have hid:id= .cG 0∧ver=0∧fr=false∧c= .vec e t (d'.toList.map (·.1.2)):=by
   cases id with
   |cG k=>cases k with
    |zero=>
     have h:some (cY.obj 0 false (.vec e t (d'.toList.map (·.1.2))))=some (.obj ver fr c):=h
     simp only[Option.some.injEq,cY.obj.injEq]at h
     obtain⟨rfl,rfl,rfl⟩:=h
     exact⟨rfl,rfl,rfl,rfl⟩
    |succ k=>cases h
   |new i j=>cases i <;> cases h
  obtain⟨rfl,rfl,rfl,rfl⟩:=hid
  refine⟨hz,?_⟩
  show(match β (.cG 0) with | none=>(d'.toList.map (·.1.2))=[] | some pl=>_)
  rw[hβ]
  have hlen:(d'.toList.map (fun p:α=>p.1.2)).length=l.length:=by simpa using hd
  refine⟨_,0,hself,?_,by rw[hlen];exact q3,q4,q5,Nat.zero_le _,fun _=>rfl,?_⟩
  ·rw[←q2];simp[putCells]
  ·have e3:(putCells id 0 (flatK enc t.size d') cur).toList.take ((d'.toList.map (fun p:α=>p.1.2)).length*t.size)=(d'.toList.map enc).flatten:=by
    rw[BD hFs,nO enc hk,hlen]
    have e4:((d'.toList.map enc).flatten).length=l.length*t.size:=by
     rw[←nO enc hk,Array.length_toList,size_flatK,hd]
    rw[←e4,List.take_left]
   rw[e3]
   exact oS (Q:=Q) (fun c x h=>(hRm c x h).mono hle.mem) d'.toList
end
end Go.Ab
namespace Go.Ab
open Go.Proofs
set_option maxRecDepth 100000
set_option linter.unusedVariables false
set_option linter.unusedSimpArgs false
set_option synthInstance.maxSize 5000
set_option synthInstance.maxSize 5000
set_option synthInstance.maxSize 5000
set_option synthInstance.maxSize 5000
set_option synthInstance.maxSize 5000
abbrev ek.D:=bY×bY
def ek.st:ek.D→SA:=fun(a,b)=>([.d bD a,.d bD b],[])
abbrev ek.Y:=Int
abbrev ek.X:=Int
def ek.out:ek.X→aX:=fun x=>⟨.d ti x,[],[]⟩
def ek.add:ek.D→ek.Y→ek.X:=fun(a,b) y=>y
def nG(a b:bY):Int:=Ew [sP a.1 b.1,xt a.2.1 b.2.1]
def ek.az:ek.D→Prop:=fun(a,b)=>a.1.length=32∧b.1.length=32
def ek.F:ek.D→ek.Y:=fun(a,b)=>nG a b
noncomputable def ek.G:dG:=eT (P:=Tryz.prog) [ej.sg,dV.sg,dD.sg]
noncomputable def ek.an:dX:= {}
noncomputable def ek.A:= @cR Tryz.prog ek.G ek.an 0 Tryz.f80 _ ek.st
abbrev ek.Ok:=cS @ek.A ek.az ek.add ek.F ek.out
theorem ek.eq{R:Type}(a:bY)(b:bY)(k:aX→Option R):ek.A (a,b) k=
 au (ej.call ((cut a.1 0 32),(cut b.1 0 32))) fun x1=>
 au (dV.call (a.2.1,b.2.1)) fun x2=>
 au (dD.call [x1,x2]) fun x3=>
 k (ek.out x3):=by kernel_rfl
theorem ek.ok:ek.Ok:=by
 rintro⟨a,b⟩ ⟨ha,hb⟩
 have ha:a.1.length=32:=ha
 have hb:b.1.length=32:=hb
 have c1:cut a.1 0 32=a.1:=fm ha
 have c2:cut b.1 0 32=b.1:=fm hb
 rw[ek.eq,c1,c2,ej.run (d:=(a.1,b.1)) trivial]
 simp only[aa,ej.add,ej.F]
 rw[dV.run (d:=(a.2.1,b.2.1)) trivial]
 simp only[aa,dV.add,dV.F]
 rw[dD.run (d:=[sP a.1 b.1,xt a.2.1 b.2.1]) (by show 2≤_;decide)]
 simp only[aa,dD.add,dD.F,ek.add,ek.F,nG]
noncomputable def ek.E:=Entry.cM [some bD,some bD] ek.st ek.az ek.add ek.F ek.out
noncomputable def ek.call:ek.D→Option ek.X:=bP ek.E ek.st
theorem ek.run:bK ek.call ek.az ek.add ek.F:=de (cW [.d bD,.d bD] fun _=>by kernel_rfl)
noncomputable def ek.sg:SG Tryz.prog:=⟨80,aV,ek.E,.fn 0 (by kernel_rfl) ek.ok trivial⟩
def lx:List Int→List Int→Int
 |x::xs,y::ys=>if x≠y then(if x < y then -1 else 1) else lx xs ys
 |_,_=>0
theorem yP:∀a,lx a a=0
 |[]=>rfl
 |x::a=>by simp[lx,yP a]
theorem Dg:∀ {a b:List Int},a.length=b.length→lx a b=0→a=b
 |[],[],_,_=>rfl
 |[],_::_,h,_=>by simp at h
 |_::_,[],h,_=>by simp at h
 |x::a,y::b,h,h2=>by
  simp only[lx]at h2
  split at h2
  ·split at h2 <;> omega
  ·rename_i e
   have e:x=y:=by omega
   rw[e,Dg (by simpa using h) h2]
theorem rN:∀a b:List Int,lx b a= - lx a b
 |[],[]=>rfl
 |[],_::_=>rfl
 |_::_,[]=>rfl
 |x::a,y::b=>by
  simp only[lx]
  by_cases h:x=y
  ·rw[if_neg (by omega),if_neg (by omega),rN a b]
  ·rw[if_pos (by omega),if_pos h]
   by_cases h2:x < y
   ·rw[if_neg (by omega),if_pos h2];rfl
   ·rw[if_pos (by omega),if_neg h2]
theorem rO:∀ {a b c:List Int},a.length=b.length→b.length=c.length→lx a b≤0→lx b c≤0→lx a c≤0∧(lx a c=0→lx a b=0∧lx b c=0)
 |[],[],[],_,_,_,_=>by simp[lx]
 |x::a,y::b,z::c,h1,h2,h3,h4=>by
  have ih:=rO (a:=a) (b:=b) (c:=c) (by simpa using h1) (by simpa using h2)
  simp only[lx]at h3 h4 ⊢
  by_cases e1:x=y
  ·by_cases e2:y=z
   ·rw[if_neg (by omega)]at h3 h4
    rw[if_neg (by omega),if_neg (by omega),if_neg (by omega)]
    exact ih h3 h4
   ·rw[if_neg (by omega)]at h3
    rw[if_pos e2]at h4
    rw[if_pos (by omega)]
    by_cases e3:y < z
    ·rw[if_pos (by omega)]
     exact⟨by omega,fun h=>by omega⟩
    ·rw[if_neg e3]at h4;omega
  ·rw[if_pos e1]at h3
   by_cases e3:x < y
   ·by_cases e2:y=z
    ·rw[if_pos (by omega),if_pos (by omega)]
     exact⟨by omega,fun h=>by omega⟩
    ·rw[if_pos e2]at h4
     by_cases e4:y < z
     ·rw[if_pos (by omega),if_pos (by omega)]
      exact⟨by omega,fun h=>by omega⟩
     ·rw[if_neg e4]at h4;omega
   ·rw[if_neg e3]at h3;omega
 |[],_::_,_,h,_,_,_=>by simp at h
 |_::_,[],_,h,_,_,_=>by simp at h
 |_,[],_::_,_,h,_,_=>by simp at h
 |_,_::_,[],_,h,_,_=>by simp at h
def Ft(a b:Int):Int:=if a=0 then b else a
theorem uN{p:Int}{a b:List Int}:lx (p::a) (p::b)=lx a b:=by simp[lx]
theorem pJ{p q:Int}{a b:List Int}(h:¬p=q):lx (p::a) (q::b)=if p < q then -1 else 1:=by simp[lx,h]
theorem yO:∀ {a b:List Int} (x y:Int),a.length=b.length→lx (a++ [x]) (b++ [y])=Ft (lx a b) (xt x y)
 |[],[],x,y,_=>by
  show lx [x] [y]=Ft 0 (xt x y)
  simp only[Ft,if_true]
  unfold xt
  by_cases h:x=y
  ·subst h
   rw[uN,if_neg (by omega),if_neg (by omega)]
   rfl
  ·rw[pJ h]
   by_cases h2:x < y
   ·rw[if_pos h2,if_pos h2]
   ·rw[if_neg h2,if_neg h2,if_pos (by omega)]
 |[],_::_,_,_,h=>by simp at h
 |_::_,[],_,_,h=>by simp at h
 |p::a,q::b,x,y,h=>by
  show lx (p::(a++ [x])) (q::(b++ [y]))=_
  by_cases h2:p=q
  ·subst h2
   rw[uN,uN]
   exact yO x y (by simpa using h)
  ·rw[pJ h2,pJ h2]
   by_cases h3:p < q
   ·rw[if_pos h3];rfl
   ·rw[if_neg h3];rfl
def AJ:List UInt8→List UInt8→Int
 |x::xs,y::ys=>if x !=y then(if x < y then -1 else 1) else AJ xs ys
 |_,_=>0
theorem vH:∀(xs ys:List UInt8),xs.length=ys.length→(match(List.range xs.length).find? fun i=>xs[i]! !=ys[i]! with | some i=>if xs[i]! < ys[i]! then(-1:Int) else 1 | none=>0)=AJ xs ys
 |[],[],_=>rfl
 |[],_::_,h=>by simp at h
 |_::_,[],h=>by simp at h
 |x::xs,y::ys,h=>by
  have ih:=vH xs ys (by simpa using h)
  rw[List.length_cons,List.range_succ_eq_map,List.find?_cons]
  simp only[List.getElem!_cons_zero,AJ]
  cases hb:(x !=y) with
  |true=>simp
  |false=>
   simp only[Bool.false_eq_true,if_false]
   rw[List.find?_map,←ih]
   have e:((fun i=>(x::xs)[i]! !=(y::ys)[i]!)∘Nat.succ)=fun i=>xs[i]! !=ys[i]! :=by
    funext i;simp
   rw[e]
   cases(List.range xs.length).find? fun i=>xs[i]! !=ys[i]! <;> simp
theorem yA:∀ {a b:List Int},(∀x∈a,0≤x∧x < 256)→(∀x∈b,0≤x∧x < 256)→AJ (a.map fun n=>UInt8.ofNat n.toNat) (b.map fun n=>UInt8.ofNat n.toNat)=lx a b
 |[],_,_,_=>by cases ‹List Int› <;> rfl
 |_::_,[],_,_=>rfl
 |x::a,y::b,ha,hb=>by
  have hx:=ha x (List.mem_cons_self ..)
  have hy:=hb y (List.mem_cons_self ..)
  have ih:=yA (a:=a) (b:=b) (fun z hz=>ha z (List.mem_cons_of_mem _ hz)) (fun z hz=>hb z (List.mem_cons_of_mem _ hz))
  simp only[List.map_cons,AJ,lx,ih]
  have e1:(UInt8.ofNat x.toNat).toNat=x.toNat:=by simp[UInt8.toNat_ofNat];omega
  have e2:(UInt8.ofNat y.toNat).toNat=y.toNat:=by simp[UInt8.toNat_ofNat];omega
  by_cases h:x=y
  ·subst h;simp
  ·have hne:(UInt8.ofNat x.toNat !=UInt8.ofNat y.toNat)=true:=by
    rw[bne_iff_ne]
    intro e
    have:=congrArg UInt8.toNat e
    rw[e1,e2]at this
    omega
   rw[hne,if_pos rfl,if_pos h]
   have hlt:UInt8.ofNat x.toNat < UInt8.ofNat y.toNat↔x < y:=by
    rw[UInt8.lt_iff_toNat_lt,e1,e2];omega
   by_cases h2:x < y
   ·rw[if_pos (hlt.2 h2),if_pos h2]
   ·rw[if_neg (fun e=>h2 (hlt.1 e)),if_neg h2]
theorem Cg{a b:List Int}(hl:a.length=b.length)(ha:∀x∈a,0≤x∧x < 256)(hb:∀x∈b,0≤x∧x < 256):sP a b=lx a b:=by
 rw[←yA ha hb,←vH _ _ (by simpa using hl)]
 unfold sP Extern.BytealgCompare.cmp
 have s1:∀l:List Int,(dA l).size=l.length:=fun l=>by simp[dA,ByteArray.size]
 have g1:∀(l:List Int) (i:Nat),(dA l)[i]! =(l.map fun n=>UInt8.ofNat n.toNat)[i]! :=fun l i=>by
  by_cases h:i < (dA l).size
  ·rw[getElem!_pos _ i h]
   have h2:i < (l.map fun n=>UInt8.ofNat n.toNat).length:=by simpa[dA,ByteArray.size]using h
   rw[getElem!_pos _ i h2]
   rfl
  ·rw[getElem!_neg _ i h]
   have h2:¬i < (l.map fun n=>UInt8.ofNat n.toNat).length:=by simpa[dA,ByteArray.size]using h
   rw[getElem!_neg _ i h2]
 simp only[s1,g1,hl,Nat.min_self,List.length_map]
 cases(List.range b.length).find? fun i=>(a.map fun n=>UInt8.ofNat n.toNat)[i]! !=(b.map fun n=>UInt8.ofNat n.toNat)[i]! <;> simp
def vg(o:bY):Prop:=o.1.length=32∧∀x∈o.1,0≤x∧x < 256
def kj(o:bY):List Int:=o.1++ [o.2.1]
theorem gR{o:bY}(h:vg o):(kj o).length=33:=by simp[kj,h.1]
theorem By{a b:bY}(ha:vg a)(hb:vg b)(h:kj a=kj b):a=b:=by
 obtain⟨a1,a2,_⟩:=a
 obtain⟨b1,b2,_⟩:=b
 have h:a1++ [a2]=b1++ [b2]:=h
 have:=List.append_inj' h rfl
 rw[this.1,show a2=b2 by simpa using this.2]
theorem jT{a b:bY}(ha:vg a)(hb:vg b):nG a b=lx (kj a) (kj b):=by
 unfold kj nG
 rw[yO _ _ (ha.1.trans hb.1.symm),Cg (ha.1.trans hb.1.symm) ha.2 hb.2]
 simp only[Ew,Ft]
 by_cases h:lx a.1 b.1=0
 ·rw[if_pos h,if_neg (fun e=>e h)]
  split
  ·rfl
  ·omega
 ·rw[if_neg h,if_pos h]
theorem oA:Em Tryz.prog bD 80 vg nG:= {
 bo:=⟨ek.E,ek.sg.h,fun x y hx hy=>⟨_,ek.run (d:=(x,y)) ⟨hx.1,hy.1⟩,rfl⟩⟩
 enters:=enters_of Tryz.func80 (by kernel_rfl) rfl
 irrefl:=fun x hx=>by rw[jT hx hx,yP];decide
 trans:=fun x y z hx hy hz h1 h2=>by
  rw[jT hx hy]at h1
  rw[jT hy hz]at h2
  rw[jT hx hz]
  have:=rO (by rw[gR hx,gR hy]) (by rw[gR hy,gR hz]) (by omega:lx (kj x) (kj y)≤0) (by omega:lx (kj y) (kj z)≤0)
  have h3:=this.1
  by_cases h4:lx (kj x) (kj z)=0
  ·have:=(this.2 h4).1;omega
  ·omega
 ntrans:=fun x y z hx hy hz h1 h2=>by
  rw[jT hx hy]at h1
  rw[jT hy hz]at h2
  rw[jT hx hz]
  have e1:=rN (kj x) (kj y)
  have e2:=rN (kj y) (kj z)
  have e3:=rN (kj x) (kj z)
  have:=(rO (by rw[gR hz,gR hy]) (by rw[gR hy,gR hx]) (by omega:lx (kj z) (kj y)≤0) (by omega:lx (kj y) (kj x)≤0)).1
  omega}
theorem qW{x y:bY}(hx:vg x)(hy:vg y)(h1:¬nG x y < 0)(h2:¬nG y x < 0):x=y:=by
 rw[jT hx hy]at h1
 rw[jT hy hx,rN]at h2
 exact By hx hy (Dg (by rw[gR hx,gR hy]) (by omega))
end Go.Ab
namespace Go.Proofs
open Go.Shelf
def Tryz.ye:Go.Shelf.Ren:=⟨fun | 6=>79 | 15=>155 | 14=>154 | 28=>214 | 29=>215 | 20=>206 | 21=>207 | 22=>208 | 23=>209 | 24=>210 | 25=>211 | 26=>212 | 27=>213 | 46=>255 | 47=>256 | 48=>257 | 49=>258 | 50=>259 | 57=>279 | n=>n,fun | 22=>58 | 24=>47 | 25=>157 | 3=>3 | 39=>224 | 0=>0 | 53=>255 | 55=>22 | 4=>4 | 46=>265 | 45=>264 | 50=>66 | 5=>5 | 9=>9 | 66=>298 | 70=>301 | 76=>313 | 77=>314 | n=>n,fun | n=>n⟩
theorem Tryz.Ec:Go.Proofs.SlLaysF0.n6 Tryz.prog Tryz.ye:= {
 mixed:=by kernel_rfl
 f6:=⟨Tryz.f79.name,by decide,Tryz.func79.trans (congrArg some (by kernel_rfl))⟩
 f14:=⟨Tryz.f154.name,by decide,Tryz.func154.trans (congrArg some (by kernel_rfl))⟩
 f15:=Tryz.func155.trans (congrArg some (by kernel_rfl))
 f20:=⟨Tryz.f206.name,by decide,Tryz.func206.trans (congrArg some (by kernel_rfl))⟩
 f21:=⟨Tryz.f207.name,by decide,Tryz.func207.trans (congrArg some (by kernel_rfl))⟩
 f22:=⟨Tryz.f208.name,by decide,Tryz.func208.trans (congrArg some (by kernel_rfl))⟩
 f23:=⟨Tryz.f209.name,by decide,Tryz.func209.trans (congrArg some (by kernel_rfl))⟩
 f24:=⟨Tryz.f210.name,by decide,Tryz.func210.trans (congrArg some (by kernel_rfl))⟩
 f25:=⟨Tryz.f211.name,by decide,Tryz.func211.trans (congrArg some (by kernel_rfl))⟩
 f26:=⟨Tryz.f212.name,by decide,Tryz.func212.trans (congrArg some (by kernel_rfl))⟩
 f27:=⟨Tryz.f213.name,by decide,Tryz.func213.trans (congrArg some (by kernel_rfl))⟩
 f28:=Tryz.func214.trans (congrArg some (by kernel_rfl))
 f29:=Tryz.func215.trans (congrArg some (by kernel_rfl))
 f46:=⟨Tryz.f255.name,by decide,Tryz.func255.trans (congrArg some (by kernel_rfl))⟩
 f47:=Tryz.func256.trans (congrArg some (by kernel_rfl))
 f48:=Tryz.func257.trans (congrArg some (by kernel_rfl))
 f49:=⟨Tryz.f258.name,by decide,Tryz.func258.trans (congrArg some (by kernel_rfl))⟩
 f50:=⟨Tryz.f259.name,by decide,Tryz.func259.trans (congrArg some (by kernel_rfl))⟩
 f57:=⟨Tryz.f279.name,by decide,Tryz.func279.trans (congrArg some (by kernel_rfl))⟩
 t0:=Tryz.underlying0
 a0:=Tryz.isAgg0
 z0:=Tryz.sizeOf0
 v0:=Tryz.zeroValue0
 t3:=Tryz.underlying3
 a3:=Tryz.isAgg3
 z3:=Tryz.sizeOf3
 v3:=Tryz.zeroValue3
 t4:=Tryz.underlying4
 a4:=Tryz.isAgg4
 z4:=Tryz.sizeOf4
 v4:=Tryz.zeroValue4
 t5:=Tryz.underlying5
 a5:=Tryz.isAgg5
 z5:=Tryz.sizeOf5
 v5:=Tryz.zeroValue5
 t9:=Tryz.underlying9
 a9:=Tryz.isAgg9
 z9:=Tryz.sizeOf9
 v9:=Tryz.zeroValue9
 t22:=Tryz.underlying58
 a22:=Tryz.isAgg58
 z22:=Tryz.sizeOf58
 v22:=Tryz.zeroValue58
 t25:=Tryz.underlying157
 a25:=Tryz.isAgg157
 z25:=Tryz.sizeOf157
 v25:=Tryz.zeroValue157
 t39:=Tryz.underlying224
 a39:=Tryz.isAgg224
 z39:=Tryz.sizeOf224
 v39:=Tryz.zeroValue224
 t45:=Tryz.underlying264
 a45:=Tryz.isAgg264
 z45:=Tryz.sizeOf264
 v45:=Tryz.zeroValue264
 t46:=Tryz.underlying265
 a46:=Tryz.isAgg265
 z46:=Tryz.sizeOf265
 v46:=Tryz.zeroValue265
 t50:=Tryz.underlying66
 a50:=Tryz.isAgg66
 z50:=Tryz.sizeOf66
 v50:=Tryz.zeroValue66
 t53:=Tryz.underlying255
 a53:=Tryz.isAgg255
 z53:=Tryz.sizeOf255
 v53:=Tryz.zeroValue255
 t55:=Tryz.underlying22
 a55:=Tryz.isAgg22
 z55:=Tryz.sizeOf22
 v55:=Tryz.zeroValue22
 t66:=Tryz.underlying298
 a66:=Tryz.isAgg298
 z66:=Tryz.sizeOf298
 v66:=Tryz.zeroValue298
 t70:=Tryz.underlying301
 a70:=Tryz.isAgg301
 z70:=Tryz.sizeOf301
 v70:=Tryz.zeroValue301
 t76:=Tryz.underlying313
 a76:=Tryz.isAgg313
 z76:=Tryz.sizeOf313
 v76:=Tryz.zeroValue313
 t77:=Tryz.underlying314
 a77:=Tryz.isAgg314
 z77:=Tryz.sizeOf314
 v77:=Tryz.zeroValue314}
end Go.Proofs
namespace Go.Ab
open Go.Proofs
set_option maxRecDepth 100000
set_option linter.unusedVariables false
set_option linter.unusedSimpArgs false
set_option synthInstance.maxSize 5000
noncomputable def wW.E:Entry:=CU 80 47 bD vg nG
noncomputable def wW.call:Nat×List bY→Option (Nat×List bY):=u5 80 47 bD vg nG
theorem wW.run{d:Nat×List bY}(h:sw (t:=bD) vg nG d):wW.call d=some (d.1,nX (t:=bD) nG d.2):=y3 h
noncomputable def wW.sg:SG Tryz.prog:=⟨79,aV,wW.E,BT Tryz.Ec (by rfl) (fun w=>Tryz.isAgg47 w) (fun w=>Tryz.sizeOf47 w) oA⟩
abbrev aY.L0.D:=Nat×Nat×(List (bY×dB))×(List cr)×(List (bY×dB))×(List bY)
def aY.L0.st:aY.L0.D→AS:=fun(outL,o0L,o1_2,o2_2,n9,n17)=>⟨([.undef,.undef,.undef,.bp (.new 17 0) 0 [] 0 0 outL]++bl 5 ([.ptr (.new 9 0) 0 [] 0]++bl 11 [])),[.obj 0 false (.pr (.dn (.cG 1) 0) (.pr (.bp (.cG 2) 0 [] 0 0 o0L) (.d .unit ()))),.obj 0 true (.mp bD eJ o1_2),.obj 0 false (.vec 161 cD o2_2)],(cj 9 ([[.obj 0 false (.iq (.cG 1) 1 bD eJ n9 none)]]++cj 7 [[.obj 0 false (.vec 47 bD n17)],[],[],[]]))⟩
abbrev aY.L0.Y0:=Nat×(List bY)
abbrev aY.L0.X0:=(Nat×(List (bY×dB))×(List cr))×(Nat×(List bY))
def aY.L0.bE:aY.L0.X0→Exit×AS:=fun x=>(.exit 0,⟨([.undef,.undef,.undef,.bp (.new 17 0) 0 [] 0 0 x.2.1]++bl 17 []),[.obj 0 false (.pr (.dn (.cG 1) 0) (.pr (.bp (.cG 2) 0 [] 0 0 x.1.1) (.d .unit ()))),.obj 0 false (.mp bD eJ x.1.2.1),.obj 0 false (.vec 161 cD x.1.2.2)],(cj 17 [[.obj 0 false (.vec 47 bD x.2.2)],[],[],[]])⟩)
abbrev aY.L0.X:=aY.L0.X0
abbrev aY.L0.Y:=aY.L0.Y0
def aY.L0.out:aY.L0.X→Out (Exit×AS):=fun x=> .ok (aY.L0.bE x)
def aY.L0.add:aY.L0.D→aY.L0.Y→aY.L0.X:=fun(outL,o0L,o1_2,o2_2,n9,n17) y=>((o0L,o1_2,o2_2),y)
abbrev aY.D:=Nat×(List (bY×dB))×(List cr)
def aY.st:aY.D→SA:=fun(o0baL,o1,o2)=>([.ptr (.cG 0) 0 [] 0],[.obj 0 false (.pr (.dn (.cG 1) 0) (.pr (.bp (.cG 2) 0 [] 0 0 o0baL) (.d .unit ()))),.obj 0 false (.mp bD eJ o1),.obj 0 false (.vec 161 cD o2)])
abbrev aY.Y:=Nat×Nat×(List (bY×dB))×(List cr)×(List bY)
abbrev aY.X:=Nat×Nat×(List (bY×dB))×(List cr)×(List bY)
def aY.out:aY.X→aX:=fun x=>⟨.bp (.new 0 0) 0 [] 0 0 x.1,[.obj 0 false (.pr (.dn (.cG 1) 0) (.pr (.bp (.cG 2) 0 [] 0 0 x.2.1) (.d .unit ()))),.obj 0 false (.mp bD eJ x.2.2.1),.obj 0 false (.vec 161 cD x.2.2.2.1)],[.obj 0 false (.vec 47 bD x.2.2.2.2)]⟩
def aY.add:aY.D→aY.Y→aY.X:=fun(o0baL,o1,o2) y=>y
def fq(l:List (bY×dB)):Int:=(l.map fun p=>p.2.1.1).sum
theorem fu(p:bY×dB)(l:List (bY×dB)):fq (p::l)=p.2.1.1+fq l:=by simp[fq]
theorem vo(l l':List (bY×dB)):fq (l++l')=fq l+fq l':=by simp[fq]
theorem j7{l l':List (bY×dB)}(h:l.Perm l'):fq l=fq l':=by
 induction h with
 |nil=>rfl
 |cons x _ ih=>rw[fu,fu,ih]
 |swap x y l=>rw[fu,fu,fu,fu];omega
 |trans _ _ h1 h2=>rw[h1,h2]
theorem nK{α:Type}{l:List α}{j:Nat}(h:j < l.length):l.Perm (l[j]::l.eraseIdx j):=by
 induction l generalizing j with
 |nil=>simp at h
 |cons x l ih=>
  cases j with
  |zero=>exact List.Perm.refl _
  |succ j=>
   have h:j < l.length:=by simpa using h
   simp only[List.getElem_cons_succ,List.eraseIdx_cons_succ]
   exact((ih h).cons x).trans (List.Perm.swap _ _ _)
theorem qK{kt vt:Ty}{l:List (kt.den×vt.den)}{j:Nat}(h:j < l.length):jq kt vt l j=l[j]:=by
 simp[jq,List.getD_eq_getElem?_getD,List.getElem?_eq_getElem h]
theorem vp{l:List (bY×dB)}(h:∀p∈l,0≤p.2.1.1):0≤fq l:=by
 induction l with
 |nil=>simp[fq]
 |cons p l ih=>
  rw[fu]
  have:=h p (List.mem_cons_self ..)
  have:=ih fun q hq=>h q (List.mem_cons_of_mem _ hq)
  omega
def aY.L0.az:aY.L0.D→Prop:=fun(n,_,_,_,rest,out)=>n=out.length∧out.length+rest.length≤1000000
def aY.L0.gr:aY.L0.D→aY.L0.Y→Prop:=fun(_,_,_,_,rest,out) (m,out')=>m=out'.length∧out'.Perm (out++rest.map (·.1))
def aY.az:aY.D→Prop:=fun(_,a,_)=>a.length≤1000000∧∀p∈a,vg p.1
noncomputable def aY.F:aY.D→aY.Y:=fun(n,a,s)=>(a.length,n,a,s,nX (t:=bD) nG (a.map (·.1)))
noncomputable def aY.G:dG:=eT (P:=Tryz.prog) [wW.sg]
noncomputable def aY.L0.E:=bW.CD aY.L0.st aY.L0.az aY.L0.add aY.L0.gr aY.L0.out
def aY.L0.set:aY.L0.D→aY.L0.X→Prop:=Fa aY.L0.st aY.L0.az aY.L0.add aY.L0.gr
noncomputable def aY.an:dX:= {loops:=l7 [(3,{bn:=[3,9],sites:=[9,17],kk:=[⟨3,[],17,58⟩],EX:=[9]})],outs:=l6 [(3,{bn:=[3],sites:=[17]},{bn:=[2]})],fK:=mU [(3,aY.L0.E)]}
noncomputable def aY.A:= @cR Tryz.prog aY.G aY.an 0 Tryz.f28 _ aY.st
abbrev aY.Ok:=cS @aY.A aY.az aY.add aY.F aY.out
noncomputable def aY.L0.R:= @cz Tryz.prog aY.G aY.an 0 Tryz.f28 0 _ aY.L0.st
abbrev aY.L0.Ok:=yq Tryz.prog aY.G aY.an 0 Tryz.f28 0 aY.L0.st aY.L0.az aY.L0.add aY.L0.gr aY.L0.out
theorem aY.L0.run:EE aY.L0.set aY.L0.az aY.L0.add aY.L0.gr:=FZ (eQ [.n,.n,.d (.slice (.pair bD eJ)),.d (.slice cD),.d (.slice (.pair bD eJ)),.d (.slice bD)] fun _=>by kernel_rfl)
theorem aY.L0.aK:C4 @aY.L0.R aY.L0.st aY.L0.az aY.L0.add aY.L0.gr aY.L0.bE aY.L0.Ok:=EJ
theorem aY.L0.step{R:Type}(outL:Nat)(o0L:Nat)(o1_2:(List (bY×dB)))(o2_2:(List cr))(n9:(List (bY×dB)))(n17:(List bY))(kn:AS→Option R)(kx:Exit→AS→Option R):aY.L0.R (outL,o0L,o1_2,o2_2,n9,n17) kn kx=
  aP (decide (0 < (List.length n9))) (
   An (List.length n9) fun j1=>
   aP (decide (outL≤(List.length n17))) (
   aP (dw (outL+1) 40) (
   kn (aY.L0.st ((outL+1),o0L,o1_2,o2_2,(List.eraseIdx n9 j1),((List.take outL n17)++ [(jq bD eJ n9 j1).1])))) none) none) (
   kx (aY.L0.bE ((o0L,o1_2,o2_2),(outL,n17))).1 (aY.L0.bE ((o0L,o1_2,o2_2),(outL,n17))).2):=by kernel_rfl
theorem aY.eq{R:Type}(o0baL:Nat)(o1:(List (bY×dB)))(o2:(List cr))(k:aX→Option R):aY.A (o0baL,o1,o2) k=
 xx (aY.L0.set (0,o0baL,o1,o2,o1,([]:List bY))) fun x3=>
 au (wW.call (x3.2.1,x3.2.2)) fun x4=>
 k (aY.out (x3.2.1,x3.1.1,x3.1.2.1,x3.1.2.2,x4.2)):=by kernel_rfl
theorem aY.L0.ok:aY.L0.Ok:=by
 refine aY.L0.aK (fun(n,_,_,_,rest,out)=>rest.length) ?_
 rintro⟨n,o,a,s,rest,out⟩ ⟨rfl,hl⟩
 have hl:out.length+rest.length≤1000000:=hl
 by_cases h:0 < rest.length
 ·left
  refine⟨rest.length,fun j=>(out.length+1,o,a,s,rest.eraseIdx j,out++ [(jq bD eJ rest j).1]),h,fun j hj=>⟨⟨by simp,?_⟩,?_,fun y hy=>⟨y,?_,rfl⟩⟩,fun kn kx=> ?_⟩
  ·show(out++ [_]).length+(rest.eraseIdx j).length≤1000000
   rw[List.length_append,List.length_eraseIdx,if_pos hj]
   simp only[List.length_cons,List.length_nil]
   omega
  ·show(rest.eraseIdx j).length < rest.length
   rw[List.length_eraseIdx,if_pos hj]
   omega
  ·obtain⟨m,out'⟩:=y
   obtain⟨h1,h2⟩:=hy
   refine⟨h1,h2.trans ?_⟩
   rw[qK hj,List.append_assoc]
   refine List.Perm.append_left _ ?_
   have:=((nK hj).map (·.1)).symm
   exact this
  ·rw[aY.L0.step,aW h,ak]
   congr 1
   funext j
   rw[aW (Nat.le_refl _),ak,eG (by omega) (by omega),ak,List.take_length]
 ·right
  obtain rfl:rest=[]:=List.eq_nil_of_length_eq_zero (by omega)
  refine⟨(out.length,out),⟨rfl,by simp⟩,fun kn kx=> ?_⟩
  rw[aY.L0.step,bw h,aw]
  rfl
theorem tZ{l l':List bY}(h:l.Perm l')(hq:∀x∈l',vg x):nX (t:=bD) nG l=nX (t:=bD) nG l':=by
 have hq':∀x∈l,vg x:=fun x hx=>hq x (h.mem_iff.1 hx)
 have h1:=u6 oA hq'
 exact sx oA hq (fun x hx y hy a b=>qW (hq x hx) (hq y hy) a b) ⟨h1.1.trans h,h1.2⟩
theorem aY.ok:aY.Ok:=by
 rintro⟨n,a,s⟩ ⟨hl,hq⟩
 have hl:a.length≤1000000:=hl
 rw[aY.eq]
 refine aY.L0.run (d:=(0,n,a,s,a,[])) ⟨rfl,by show 0+a.length≤_;omega⟩ ⟨(a.length,a.map (·.1)),by show a.length=(a.map (·.1)).length;simp,by simp⟩ fun y hy=> ?_
 obtain⟨m,out⟩:=y
 obtain⟨h1,hp⟩:=hy
 have h1:m=out.length:=h1
 subst h1
 have hp:out.Perm (a.map (·.1)):=by simpa using hp
 have hq':∀x∈a.map (·.1),vg x:=fun x hx=>by obtain⟨p,hp,rfl⟩:=List.mem_map.1 hx;exact hq p hp
 have hlen:out.length=a.length:=by rw[hp.length_eq,List.length_map]
 simp only[aY.L0.add]
 rw[wW.run (d:=(out.length,out)) ⟨rfl,by show out.length < _;omega,fun x hx=>hq' x (hp.mem_iff.1 hx),fun x hx y hy h1 h2=>qW (hq' x (hp.mem_iff.1 hx)) (hq' y (hp.mem_iff.1 hy)) h1 h2⟩]
 simp only[aa,aY.add,aY.F]
 rw[tZ hp hq',hlen]
noncomputable def aY.E:=Entry.cM [none] aY.st aY.az aY.add aY.F aY.out
noncomputable def aY.call:aY.D→Option aY.X:=bP aY.E aY.st
theorem aY.run:bK aY.call aY.az aY.add aY.F:=de (cW [.n,.d (.slice (.pair bD eJ)),.d (.slice cD)] fun _=>by kernel_rfl)
noncomputable def aY.sg:SG Tryz.prog:=⟨28,aV,aY.E,.fn 1 (by kernel_rfl) aY.ok (And.intro (.CD aY.L0.ok (by kernel_rfl)) trivial)⟩
abbrev aU.L0.D:=Int×Nat×(List (bY×dB))×(List cr)×(List (bY×dB))
def aU.L0.st:aU.L0.D→AS:=fun(sum,o0L,o1_2,o2_2,n10)=>⟨([.undef,.undef,.undef,.d ti sum]++bl 6 ([.ptr (.new 10 0) 0 [] 0]++bl 10 [])),[.obj 0 false (.pr (.dn (.cG 1) 0) (.pr (.bp (.cG 2) 0 [] 0 0 o0L) (.d .unit ()))),.obj 0 true (.mp bD eJ o1_2),.obj 0 false (.vec 161 cD o2_2)],(cj 10 ([[.obj 0 false (.iq (.cG 1) 1 bD eJ n10 none)]]++cj 10 []))⟩
abbrev aU.L0.Y0:=Int
abbrev aU.L0.X0:=(Nat×(List (bY×dB))×(List cr))×(Int)
def aU.L0.bE:aU.L0.X0→Exit×AS:=fun x=>(.exit 0,⟨([.undef,.undef,.undef,.d ti x.2]++bl 17 []),[.obj 0 false (.pr (.dn (.cG 1) 0) (.pr (.bp (.cG 2) 0 [] 0 0 x.1.1) (.d .unit ()))),.obj 0 false (.mp bD eJ x.1.2.1),.obj 0 false (.vec 161 cD x.1.2.2)],(List.replicate 21 [])⟩)
abbrev aU.L0.X:=aU.L0.X0
abbrev aU.L0.Y:=aU.L0.Y0
def aU.L0.out:aU.L0.X→Out (Exit×AS):=fun x=> .ok (aU.L0.bE x)
def aU.L0.add:aU.L0.D→aU.L0.Y→aU.L0.X:=fun(sum,o0L,o1_2,o2_2,n10) y=>((o0L,o1_2,o2_2),y)
abbrev aU.D:=Nat×(List (bY×dB))×(List cr)
def aU.st:aU.D→SA:=fun(o0baL,o1,o2)=>([.ptr (.cG 0) 0 [] 0],[.obj 0 false (.pr (.dn (.cG 1) 0) (.pr (.bp (.cG 2) 0 [] 0 0 o0baL) (.d .unit ()))),.obj 0 false (.mp bD eJ o1),.obj 0 false (.vec 161 cD o2)])
abbrev aU.Y:=Int×Nat×(List (bY×dB))×(List cr)
abbrev aU.X:=Int×Nat×(List (bY×dB))×(List cr)
def aU.out:aU.X→aX:=fun x=>⟨.d ti x.1,[.obj 0 false (.pr (.dn (.cG 1) 0) (.pr (.bp (.cG 2) 0 [] 0 0 x.2.1) (.d .unit ()))),.obj 0 false (.mp bD eJ x.2.2.1),.obj 0 false (.vec 161 cD x.2.2.2)],[]⟩
def aU.add:aU.D→aU.Y→aU.X:=fun(o0baL,o1,o2) y=>y
def aU.L0.az:aU.L0.D→Prop:=fun(sum,_,_,_,rest)=>0≤sum∧(∀p∈rest,0≤p.2.1.1)∧sum+fq rest≤1000000000000000000
def aU.L0.F:aU.L0.D→aU.L0.Y:=fun(sum,_,_,_,rest)=>sum+fq rest
def aU.az:aU.D→Prop:=fun(_,a,_)=>(∀p∈a,0≤p.2.1.1)∧fq a≤1000000000000000000
def aU.F:aU.D→aU.Y:=fun(n,a,s)=>(fq a,n,a,s)
noncomputable def aU.G:dG:=eT (P:=Tryz.prog) []
noncomputable def aU.L0.E:=bW.cM aU.L0.st aU.L0.az aU.L0.add aU.L0.F aU.L0.out
noncomputable def aU.L0.call:aU.L0.D→Option aU.L0.X:=dF aU.L0.E aU.L0.st
noncomputable def aU.an:dX:= {loops:=l7 [(3,{bn:=[3,10],sites:=[10],EX:=[10]})],outs:=l6 [(3,{bn:=[3]},{bn:=[2]})],fK:=mU [(3,aU.L0.E)]}
noncomputable def aU.A:= @cR Tryz.prog aU.G aU.an 0 Tryz.f24 _ aU.st
abbrev aU.Ok:=cS @aU.A aU.az aU.add aU.F aU.out
noncomputable def aU.L0.R:= @cz Tryz.prog aU.G aU.an 0 Tryz.f24 0 _ aU.L0.st
abbrev aU.L0.Ok:=eK Tryz.prog aU.G aU.an 0 Tryz.f24 0 aU.L0.st aU.L0.az aU.L0.add aU.L0.F aU.L0.out
theorem aU.L0.run:bK aU.L0.call aU.L0.az aU.L0.add aU.L0.F:=eU (eQ [.d ti,.n,.d (.slice (.pair bD eJ)),.d (.slice cD),.d (.slice (.pair bD eJ))] fun _=>by kernel_rfl)
theorem aU.L0.aK:Dr @aU.L0.R aU.L0.st aU.L0.az aU.L0.add aU.L0.F aU.L0.bE aU.L0.Ok:=EI
theorem aU.L0.step{R:Type}(sum:Int)(o0L:Nat)(o1_2:(List (bY×dB)))(o2_2:(List cr))(n10:(List (bY×dB)))(kn:AS→Option R)(kx:Exit→AS→Option R):aU.L0.R (sum,o0L,o1_2,o2_2,n10) kn kx=
  aP (decide (0 < (List.length n10))) (
   An (List.length n10) fun j1=>
   kn (aU.L0.st ((b8 .i64 sum (jq bD eJ n10 j1).2.1.1),o0L,o1_2,o2_2,(List.eraseIdx n10 j1)))) (
   kx (aU.L0.bE ((o0L,o1_2,o2_2),sum)).1 (aU.L0.bE ((o0L,o1_2,o2_2),sum)).2):=by kernel_rfl
theorem aU.eq{R:Type}(o0baL:Nat)(o1:(List (bY×dB)))(o2:(List cr))(k:aX→Option R):aU.A (o0baL,o1,o2) k=
 au (aU.L0.call ((0:Int),o0baL,o1,o2,o1)) fun x2=>
 k (aU.out (x2.2,x2.1.1,x2.1.2.1,x2.1.2.2)):=by kernel_rfl
theorem aU.L0.ok:aU.L0.Ok:=by
 refine aU.L0.aK (fun(_,_,_,_,rest)=>rest.length) ?_
 rintro⟨sum,o,a,s,rest⟩ ⟨h0,hn,hm⟩
 have h0:0≤sum:=h0
 have hm:sum+fq rest≤1000000000000000000:=hm
 by_cases h:0 < rest.length
 ·left
  have key:∀j,(hj:j < rest.length)→rest[j].2.1.1+fq (rest.eraseIdx j)=fq rest:=fun j hj=>by rw[←fu];exact j7 (nK hj).symm
  refine⟨rest.length,fun j=>(b8 .i64 sum (jq bD eJ rest j).2.1.1,o,a,s,rest.eraseIdx j),h,fun j hj=> ?_,fun kn kx=> ?_⟩
  ·have hk:=key j hj
   have hx:=hn _ (List.getElem_mem hj)
   have hr:∀p∈rest.eraseIdx j,0≤p.2.1.1:=fun p hp=>hn p ((List.eraseIdx_sublist rest j).subset hp)
   have:=vp hr
   have e1:b8 .i64 sum (jq bD eJ rest j).2.1.1=sum+rest[j].2.1.1:=by rw[qK hj];exact fM (by omega) (by omega)
   refine⟨⟨?_,hr,?_⟩,?_,?_⟩
   ·show 0≤b8 .i64 sum _;rw[e1];omega
   ·show b8 .i64 sum _+fq (rest.eraseIdx j)≤_;rw[e1];omega
   ·show(rest.eraseIdx j).length < rest.length
    rw[List.length_eraseIdx,if_pos hj];omega
   ·simp only[aU.L0.add,aU.L0.F,e1]
    rw[←hk,Int.add_assoc]
  ·rw[aU.L0.step,aW h,ak]
 ·right
  obtain rfl:rest=[]:=List.eq_nil_of_length_eq_zero (by omega)
  intro T kn kx
  rw[aU.L0.step,bw h,aw]
  simp only[aU.L0.add,aU.L0.F,fq,List.map_nil,List.sum_nil,Int.add_zero]
theorem aU.ok:aU.Ok:=by
 rintro⟨n,a,s⟩ ⟨hn,hm⟩
 have hm:fq a≤_:=hm
 rw[aU.eq,aU.L0.run (d:=(0,n,a,s,a)) ⟨Int.le_refl _,hn,by show 0+fq a≤_;omega⟩]
 simp only[aa,aU.L0.add,aU.L0.F,aU.add,aU.F,Int.zero_add]
noncomputable def aU.E:=Entry.cM [none] aU.st aU.az aU.add aU.F aU.out
noncomputable def aU.call:aU.D→Option aU.X:=bP aU.E aU.st
theorem aU.run:bK aU.call aU.az aU.add aU.F:=de (cW [.n,.d (.slice (.pair bD eJ)),.d (.slice cD)] fun _=>by kernel_rfl)
noncomputable def aU.sg:SG Tryz.prog:=⟨24,aV,aU.E,.fn 1 (by kernel_rfl) aU.ok (And.intro (.cM aU.L0.ok (by kernel_rfl)) trivial)⟩
abbrev db.D:=Nat×(List cr)
def db.st:db.D→SA:=fun(sL,o0)=>([.bp (.cG 0) 0 [] 0 0 sL],[.obj 0 false (.vec 161 cD o0)])
abbrev db.Y:=Nat×(List cr)
abbrev db.X:=((List cr))×(Nat×(List cr))
def db.out:db.X→aX:=fun x=>⟨.bp (.new 0 0) 0 [] 0 0 x.2.1,[.obj 0 false (.vec 161 cD x.1)],[.obj 0 false (.vec 161 cD x.2.2)]⟩
def db.add:db.D→db.Y→db.X:=fun(sL,o0) y=>(o0,y)
def db.az:db.D→Prop:=fun(n,l)=>n≤l.length∧l.length≤1000000
def db.F:db.D→db.Y:=fun(n,l)=>((l.take n).length,l.take n)
noncomputable def db.G:dG:=eT (P:=Tryz.prog) []
noncomputable def db.an:dX:= {bk:=[5],kk:=[⟨2,[],5,148⟩]}
noncomputable def db.A:= @cR Tryz.prog db.G db.an 0 Tryz.f90 _ db.st
abbrev db.Ok:=cS @db.A db.az db.add db.F db.out
theorem db.eq{R:Type}(sL:Nat)(o0:(List cr))(k:aX→Option R):db.A (sL,o0) k=
  aP (decide (0 < sL)) (
   aP (decide (0=0∧(0+sL)≤(List.length o0))) (
   aP (dw (0+(List.length (cut o0 0 sL))) 48) (
   k (db.out (o0,((0+(List.length (cut o0 0 sL))),((List.take 0 (List.replicate 0 (([]:List ug),(([]:List bY),()))))++(cut o0 0 sL)))))) none) none) (
   nd (
    k (db.out (o0,(0,([]:List cr))))) (
    aP (decide (0=0∧(0+sL)≤(List.length o0))) (
    aP (dw (0+(List.length (cut o0 0 sL))) 48) (
    k (db.out (o0,((0+(List.length (cut o0 0 sL))),((List.take 0 (List.replicate 0 (([]:List ug),(([]:List bY),()))))++(cut o0 0 sL)))))) none) none)):=by kernel_rfl
theorem db.ok:db.Ok:=by
 rintro⟨n,l⟩ ⟨h1,h2⟩
 have h1:n≤l.length:=h1
 have h2:l.length≤1000000:=h2
 have ec:cut l 0 n=l.take n:=by simp[cut]
 have ht:(l.take n).length≤1000000:=by rw[List.length_take];omega
 have hr:dw (l.take n).length 48=true:=eG (by omega) (by omega)
 rw[db.eq]
 simp only[Nat.zero_add,ec,hr,ak,List.take_zero,List.nil_append,true_and,aW h1,db.add,db.F]
 by_cases h:0 < n
 ·simp only[aW h,ak]
 ·have:n=0:=by omega
  subst this
  simp only[List.take_zero,List.length_nil,Nat.zero_le,decide_true,ak,lQ,bw (Nat.lt_irrefl 0),aw]
noncomputable def db.E:=Entry.cM [none] db.st db.az db.add db.F db.out
noncomputable def db.call:db.D→Option db.X:=bP db.E db.st
theorem db.run:bK db.call db.az db.add db.F:=de (cW [.n,.d (.slice cD)] fun _=>by kernel_rfl)
noncomputable def db.sg:SG Tryz.prog:=⟨90,tY,db.E,.fn 0 (by kernel_rfl) db.ok trivial⟩
abbrev aO.L0.D:=Nat×(List (bY×dB))×(List cr)×(List (bY×dB))×(List cr)×Nat×(List (bY×dB))
def aO.L0.st:aO.L0.D→AS:=fun(o0L,o1_2,o2_2,n6,n11,n13L,n18)=>⟨([.undef,.undef,.undef,.ptr (.new 13 0) 0 [] 0]++bl 14 ([.ptr (.new 18 0) 0 [] 0]++bl 12 [])),[.obj 0 false (.pr (.dn (.cG 1) 0) (.pr (.bp (.cG 2) 0 [] 0 0 o0L) (.d .unit ()))),.obj 0 true (.mp bD eJ o1_2),.obj 0 false (.vec 161 cD o2_2)],(cj 6 ([[.obj 0 false (.mp bD eJ n6)]]++cj 4 ([[.obj 0 false (.vec 161 cD n11)],[],[.obj 0 false (.pr (.dn (.new 6 0) 0) (.pr (.bp (.new 11 0) 0 [] 0 0 n13L) (.d .unit ())))]]++cj 4 ([[.obj 0 false (.iq (.cG 1) 1 bD eJ n18 none)]]++cj 12 []))))⟩
abbrev aO.L0.Y0:=(List (bY×dB))
abbrev aO.L0.X0:=(Nat×(List (bY×dB))×(List cr)×(List cr)×Nat)×((List (bY×dB)))
def aO.L0.bE:aO.L0.X0→Exit×AS:=fun x=>(.exit 0,⟨([.undef,.undef,.undef,.ptr (.new 13 0) 0 [] 0]++bl 27 []),[.obj 0 false (.pr (.dn (.cG 1) 0) (.pr (.bp (.cG 2) 0 [] 0 0 x.1.1) (.d .unit ()))),.obj 0 false (.mp bD eJ x.1.2.1),.obj 0 false (.vec 161 cD x.1.2.2.1)],(cj 6 ([[.obj 0 false (.mp bD eJ x.2)]]++cj 4 ([[.obj 0 false (.vec 161 cD x.1.2.2.2.1)],[],[.obj 0 false (.pr (.dn (.new 6 0) 0) (.pr (.bp (.new 11 0) 0 [] 0 0 x.1.2.2.2.2) (.d .unit ())))]]++cj 17 [])))⟩)
abbrev aO.L0.X:=aO.L0.X0
abbrev aO.L0.Y:=aO.L0.Y0
def aO.L0.out:aO.L0.X→Out (Exit×AS):=fun x=> .ok (aO.L0.bE x)
def aO.L0.add:aO.L0.D→aO.L0.Y→aO.L0.X:=fun(o0L,o1_2,o2_2,n6,n11,n13L,n18) y=>((o0L,o1_2,o2_2,n11,n13L),y)
abbrev aO.D:=Nat×(List (bY×dB))×(List cr)
def aO.st:aO.D→SA:=fun(o0baL,o1,o2)=>([.ptr (.cG 0) 0 [] 0],[.obj 0 false (.pr (.dn (.cG 1) 0) (.pr (.bp (.cG 2) 0 [] 0 0 o0baL) (.d .unit ()))),.obj 0 false (.mp bD eJ o1),.obj 0 false (.vec 161 cD o2)])
abbrev aO.Y:=Nat×(List (bY×dB))×(List cr)×Nat×(List (bY×dB))×(List cr)
abbrev aO.X:=Nat×(List (bY×dB))×(List cr)×Nat×(List (bY×dB))×(List cr)
def aO.out:aO.X→aX:=fun x=>⟨.ptr (.new 0 0) 0 [] 0,[.obj 0 false (.pr (.dn (.cG 1) 0) (.pr (.bp (.cG 2) 0 [] 0 0 x.1) (.d .unit ()))),.obj 0 false (.mp bD eJ x.2.1),.obj 0 false (.vec 161 cD x.2.2.1)],[.obj 0 false (.pr (.dn (.new 0 1) 0) (.pr (.bp (.new 0 2) 0 [] 0 0 x.2.2.2.1) (.d .unit ()))),.obj 0 false (.mp bD eJ x.2.2.2.2.1),.obj 0 false (.vec 161 cD x.2.2.2.2.2)]⟩
def aO.add:aO.D→aO.Y→aO.X:=fun(o0baL,o1,o2) y=>y
theorem kH{β:Type}{kt:Ty}(hc:kt.comp=true){x:kt.den}{v:β}:∀ {l:List (kt.den×β)},x ∉ l.map (·.1)→ef kt x v l=l++ [(x,v)]
 |[],_=>rfl
 |p::l,h=>by
  rw[nT]
  have h1:¬kt.beq x p.1=true:=fun e=>h (by rw[beq_eq kt _ _ hc e];simp)
  rw[if_neg h1,kH hc fun e=>h (by simp[e])]
  rfl
def aO.L0.az:aO.L0.D→Prop:=fun(_,_,_,m,_,_,rest)=>((m++rest).map (·.1)).Nodup
noncomputable def aO.L0.F:aO.L0.D→aO.L0.Y:=fun(_,_,_,m,_,_,rest)=>eo (m++rest)
def aO.az:aO.D→Prop:=fun(n,a,s)=>n≤s.length∧s.length≤1000000∧(a.map (·.1)).Nodup
noncomputable def aO.F:aO.D→aO.Y:=fun(n,a,s)=>(n,a,s,(s.take n).length,eo a,s.take n)
noncomputable def aO.G:dG:=eT (P:=Tryz.prog) [db.sg]
noncomputable def aO.L0.E:=bW.cM aO.L0.st aO.L0.az aO.L0.add aO.L0.F aO.L0.out
noncomputable def aO.L0.call:aO.L0.D→Option aO.L0.X:=dF aO.L0.E aO.L0.st
noncomputable def aO.an:dX:= {bk:=[13],loops:=l7 [(3,{bn:=[3,18],sites:=[6,11,13,18],EX:=[18]})],outs:=l6 [(3,{bn:=[3],sites:=[6,11,13],Dz:=[(.new 6 0)]},{bn:=[2]})],fK:=mU [(3,aO.L0.E)]}
noncomputable def aO.A:= @cR Tryz.prog aO.G aO.an 0 Tryz.f39 _ aO.st
abbrev aO.Ok:=cS @aO.A aO.az aO.add aO.F aO.out
noncomputable def aO.L0.R:= @cz Tryz.prog aO.G aO.an 0 Tryz.f39 0 _ aO.L0.st
abbrev aO.L0.Ok:=eK Tryz.prog aO.G aO.an 0 Tryz.f39 0 aO.L0.st aO.L0.az aO.L0.add aO.L0.F aO.L0.out
theorem aO.L0.run:bK aO.L0.call aO.L0.az aO.L0.add aO.L0.F:=eU (eQ [.n,.d (.slice (.pair bD eJ)),.d (.slice cD),.d (.slice (.pair bD eJ)),.d (.slice cD),.n,.d (.slice (.pair bD eJ))] fun _=>by kernel_rfl)
theorem aO.L0.aK:Dr @aO.L0.R aO.L0.st aO.L0.az aO.L0.add aO.L0.F aO.L0.bE aO.L0.Ok:=EI
theorem aO.L0.step{R:Type}(o0L:Nat)(o1_2:(List (bY×dB)))(o2_2:(List cr))(n6:(List (bY×dB)))(n11:(List cr))(n13L:Nat)(n18:(List (bY×dB)))(kn:AS→Option R)(kx:Exit→AS→Option R):aO.L0.R (o0L,o1_2,o2_2,n6,n11,n13L,n18) kn kx=
  aP (decide (0 < (List.length n18))) (
   An (List.length n18) fun j1=>
   kn (aO.L0.st (o0L,o1_2,o2_2,(ef bD (jq bD eJ n18 j1).1 (jq bD eJ n18 j1).2 n6),n11,n13L,(List.eraseIdx n18 j1)))) (
   kx (aO.L0.bE ((o0L,o1_2,o2_2,n11,n13L),(eo n6))).1 (aO.L0.bE ((o0L,o1_2,o2_2,n11,n13L),(eo n6))).2):=by kernel_rfl
theorem aO.eq{R:Type}(o0baL:Nat)(o1:(List (bY×dB)))(o2:(List cr))(k:aX→Option R):aO.A (o0baL,o1,o2) k=
 au (db.call (o0baL,o2)) fun x1=>
 au (aO.L0.call (o0baL,o1,x1.1,([]:List (bY×dB)),x1.2.2,x1.2.1,o1)) fun x3=>
 k (aO.out (x3.1.1,x3.1.2.1,x3.1.2.2.1,x3.1.2.2.2.2,x3.2,x3.1.2.2.2.1)):=by kernel_rfl
theorem fa:bD.comp=true:=rfl
theorem aO.L0.ok:aO.L0.Ok:=by
 refine aO.L0.aK (fun(_,_,_,_,_,_,rest)=>rest.length) ?_
 rintro⟨n,a,s,m,u,k0,rest⟩ hn
 have hn:((m++rest).map (·.1)).Nodup:=hn
 by_cases h:0 < rest.length
 ·left
  have e1:∀j,j < rest.length→ef bD (jq bD eJ rest j).1 (jq bD eJ rest j).2 m=m++ [jq bD eJ rest j]:=fun j hj=>by
   rw[kH fa]
   intro hm
   rw[List.map_append,List.nodup_append]at hn
   exact hn.2.2 _ hm _ (List.mem_map.2 ⟨_,List.getElem_mem hj,by rw[qK hj]⟩) rfl
  have e2:∀j,j < rest.length→(m++ [jq bD eJ rest j]++rest.eraseIdx j).Perm (m++rest):=fun j hj=>by
   rw[List.append_assoc,qK hj]
   exact List.Perm.append_left _ (nK hj).symm
  refine⟨rest.length,fun j=>(n,a,s,ef bD (jq bD eJ rest j).1 (jq bD eJ rest j).2 m,u,k0,rest.eraseIdx j),h,fun j hj=>⟨?_,?_,?_⟩,fun kn kx=> ?_⟩
  ·show((ef bD (jq bD eJ rest j).1 (jq bD eJ rest j).2 m++rest.eraseIdx j).map (·.1)).Nodup
   rw[e1 j hj]
   exact(((e2 j hj).map _).nodup_iff).2 hn
  ·show(rest.eraseIdx j).length < rest.length
   rw[List.length_eraseIdx,if_pos hj];omega
  ·simp only[aO.L0.add,aO.L0.F,e1 j hj]
   rw[zk (e2 j hj)]
  ·rw[aO.L0.step,aW h,ak]
 ·right
  obtain rfl:rest=[]:=List.eq_nil_of_length_eq_zero (by omega)
  intro T kn kx
  rw[aO.L0.step,bw h,aw]
  simp only[aO.L0.add,aO.L0.F,List.append_nil]
theorem aO.ok:aO.Ok:=by
 rintro⟨n,a,s⟩ ⟨h1,h2,h3⟩
 have h1:n≤s.length:=h1
 have h2:s.length≤1000000:=h2
 rw[aO.eq,db.run (d:=(n,s)) ⟨h1,h2⟩]
 simp only[aa,db.add,db.F]
 rw[aO.L0.run (d:=(n,a,s,[],s.take n,(s.take n).length,a)) h3]
 simp only[aa,aO.L0.add,aO.L0.F,aO.add,aO.F,List.nil_append]
noncomputable def aO.E:=Entry.cM [none] aO.st aO.az aO.add aO.F aO.out
noncomputable def aO.call:aO.D→Option aO.X:=bP aO.E aO.st
theorem aO.run:bK aO.call aO.az aO.add aO.F:=de (cW [.n,.d (.slice (.pair bD eJ)),.d (.slice cD)] fun _=>by kernel_rfl)
noncomputable def aO.sg:SG Tryz.prog:=⟨39,aV,aO.E,.fn 1 (by kernel_rfl) aO.ok (And.intro (.cM aO.L0.ok (by kernel_rfl)) trivial)⟩
set_option synthInstance.maxSize 5000
abbrev bN.L0.D:=fc×Nat×Nat×Int×Int×Int×(List jN)
def bN.L0.st:bN.L0.D→AS:=fun(o_2,lL,t10L,t11,t12,n2,n9)=>⟨([.undef,.eH fA o_2,.ptr (.new 2 0) 0 [] 0,.bp (.new 9 0) 0 [] 0 0 lL]++bl 6 ([.bp (.new 9 0) 0 [] 0 0 t10L,.d ti t11,.d ti t12]++bl 17 [])),[],([[],[],[.obj 0 false (.pr (.d ti n2) (.pr (.pr (.dv) (.d .unit ())) (.d .unit ())))]]++cj 6 ([[.obj 0 false (.vec 29 jy n9)]]++cj 20 []))⟩
abbrev bN.L0.Y0:=(List jN)×(List jN)
abbrev bN.L0.X0:=(fc×Int)×((List jN)×(List jN))
def bN.L0.bE:bN.L0.X0→Exit×AS:=fun x=>(.exit 0,⟨([.undef,.eH fA x.1.1,.ptr (.new 2 0) 0 [] 0,.d (.slice jy) x.2.1]++bl 26 []),[],([[],[],[.obj 0 false (.pr (.d ti x.1.2) (.pr (.pr (.dv) (.d .unit ())) (.d .unit ())))]]++cj 6 ([[.obj 0 true (.vec 29 jy x.2.2)]]++cj 20 []))⟩)
abbrev bN.L0.X:=bN.L0.X0
abbrev bN.L0.Y:=bN.L0.Y0
def bN.L0.out:bN.L0.X→Out (Exit×AS):=fun x=> .ok (bN.L0.bE x)
def bN.L0.add:bN.L0.D→bN.L0.Y→bN.L0.X:=fun(o_2,lL,t10L,t11,t12,n2,n9) y=>((o_2,n2),y)
abbrev bN.D:=fc
def bN.st:bN.D→SA:=fun o=>([.d fA o],[])
abbrev bN.Y:=fc
abbrev bN.X:=fc
def bN.out:bN.X→aX:=fun x=>⟨.d fA x,[],[]⟩
def bN.add:bN.D→bN.Y→bN.X:=fun o y=>y
def Fw(l:Lk):Prop:=l.1.length≤1000∧∀b∈l.1,b.1.length≤1000000
def bN.L0.az:bN.L0.D→Prop:=fun(_,n,m,t,i,_,l)=>(l.length≤1000∧∀b∈l,b.1.length≤1000000)∧∃k:Nat,k≤l.length∧i=k∧n=l.length∧m=l.length∧t=l.length
def bN.L0.F:bN.L0.D→bN.L0.Y:=fun(_,_,_,_,_,_,l)=>(l,l)
def bN.az:bN.D→Prop:=fun o=>Fw o.2.1
def bN.F:bN.D→bN.Y:=fun o=>o
noncomputable def bN.G:dG:=eT (P:=Tryz.prog) [dP.sg,bT.sg]
noncomputable def bN.L0.E:=bW.cM bN.L0.st bN.L0.az bN.L0.add bN.L0.F bN.L0.out
noncomputable def bN.L0.call:bN.L0.D→Option bN.L0.X:=dF bN.L0.E bN.L0.st
noncomputable def bN.an:dX:= {loops:=l7 [(3,{bn:=[1,2,3,10,11,12],sites:=[2,9]})],outs:=l6 [(3,{bn:=[1,2,3],sites:=[2,9],data:=[(3,(.slice jy))]},{bn:=[2]})],fK:=mU [(3,bN.L0.E)],res:=[some fA]}
noncomputable def bN.A:= @cR Tryz.prog bN.G bN.an 0 Tryz.f78 _ bN.st
abbrev bN.Ok:=cS @bN.A bN.az bN.add bN.F bN.out
noncomputable def bN.L0.R:= @cz Tryz.prog bN.G bN.an 0 Tryz.f78 0 _ bN.L0.st
abbrev bN.L0.Ok:=eK Tryz.prog bN.G bN.an 0 Tryz.f78 0 bN.L0.st bN.L0.az bN.L0.add bN.L0.F bN.L0.out
theorem bN.L0.run:bK bN.L0.call bN.L0.az bN.L0.add bN.L0.F:=eU (eQ [.d fA,.n,.n,.d ti,.d ti,.d ti,.d (.slice jy)] fun _=>by kernel_rfl)
theorem bN.L0.aK:fZ @bN.L0.R bN.L0.st bN.L0.az bN.L0.add bN.L0.F bN.L0.bE bN.L0.Ok:=gv
theorem bN.L0.step{R:Type}(o_2:fc)(lL:Nat)(t10L:Nat)(t11:Int)(t12:Int)(n2:Int)(n9:(List jN))(kn:AS→Option R)(kx:Exit→AS→Option R):bN.L0.R (o_2,lL,t10L,t11,t12,n2,n9) kn kx=
  aP ((gE t12 t11)) (
   aP (fo t12 ((t10L:Nat):Int)) (
   aP (decide ((0+(Int.toNat t12)) < (List.length n9))) (
   aP (decide ((((0+(Int.toNat t12))*4)+0)=(0+((Int.toNat t12)*4)))) (
   au (bT.call (nth jy n9 (0+(Int.toNat t12))).1) fun x1=>
   aP (fo t12 ((lL:Nat):Int)) (
   aP (decide ((0+(Int.toNat t12)) < (List.length n9))) (
   aP (decide ((((0+(Int.toNat t12))*4)+0)=((0+((Int.toNat t12)*4))+0))) (
   aP (decide ((0+(Int.toNat t12)) < (List.length n9))) (
   kn (bN.L0.st (o_2,lL,t10L,t11,(b8 .i64 t12 (1:Int)),n2,(List.set n9 (0+(Int.toNat t12)) (x1,(nth jy n9 (0+(Int.toNat t12))).2))))) none) none) none) none) none) none) none) (
   aP (decide (0=0∧(0+lL)≤(List.length n9))) (
   kx (bN.L0.bE ((o_2,n2),((cut n9 0 lL),n9))).1 (bN.L0.bE ((o_2,n2),((cut n9 0 lL),n9))).2) none):=by kernel_rfl
theorem bN.eq{R:Type}(o:fc)(k:aX→Option R):bN.A o k=
 au (dP.call o.2.1.1) fun x1=>
 au (bN.L0.call (o,x1.1,x1.1,((x1.1:Nat):Int),(0:Int),(0:Int),x1.2)) fun x3=>
 k (bN.out (x3.1.1.1,((x3.2.1,()),()))):=by kernel_rfl
theorem bN.L0.ok:bN.L0.Ok:=by
 refine bN.L0.aK (fun(_,_,_,_,i,_,l)=>l.length - i.toNat) ?_
 rintro⟨o,n,m,t,i,u,l⟩ ⟨⟨hlen,hx⟩,k,hk,rfl,rfl,rfl,rfl⟩
 have hlen:l.length≤1000:=hlen
 have hk:k≤l.length:=hk
 by_cases h:k < l.length
 ·left
  have n1:nth jy l k=l[k]:=cX (t:=jy) h
  have hs:l.set k l[k]=l:=List.set_getElem_self h
  have e:=hx _ (List.getElem_mem h)
  refine⟨(o,l.length,l.length,(l.length:Int),((k+1:Nat):Int),u,l),⟨⟨hlen,hx⟩,k+1,by omega,rfl,rfl,rfl,rfl⟩,by simp only[Int.toNat_natCast];omega,rfl,fun kn kx=> ?_⟩
  rw[bN.L0.step,bq (by omega),bu (by omega) (by omega)]
  simp only[Int.toNat_natCast,Nat.zero_add,Nat.add_zero,ak,aW h,decide_true,n1]
  rw[bT.run (d:=l[k].1) e]
  simp only[aa,bT.add,bT.F]
  rw[N.nj (by omega)]
  exact congrArg (fun z=>kn (bN.L0.st (_,_,_,_,_,_,z))) hs
 ·right
  obtain rfl:k=l.length:=by omega
  intro R kn kx
  rw[bN.L0.step,bm (by omega),aw,aW (by omega),ak,fm rfl]
  rfl
theorem bN.ok:bN.Ok:=by
 rintro⟨a,⟨l,u⟩,v⟩ ⟨h1,h2⟩
 have h1:l.length≤1000:=h1
 rw[bN.eq,dP.run (d:=l) (by show l.length≤_;omega)]
 simp only[aa,dP.add,dP.F]
 rw[bN.L0.run (d:=((a,(l,u),v),l.length,l.length,(l.length:Int),0,0,l)) ⟨⟨h1,h2⟩,0,Nat.zero_le _,rfl,rfl,rfl,rfl⟩]
 rfl
noncomputable def bN.E:=Entry.cM [some fA] bN.st bN.az bN.add bN.F bN.out
noncomputable def bN.call:bN.D→Option bN.X:=bP bN.E bN.st
theorem bN.run:bK bN.call bN.az bN.add bN.F:=de (cW [.d fA] fun _=>by kernel_rfl)
noncomputable def bN.sg:SG Tryz.prog:=⟨78,aV,bN.E,.fn 1 (by kernel_rfl) bN.ok (And.intro (.cM bN.L0.ok (by kernel_rfl)) trivial)⟩
abbrev aR.L0.D:=Int×(List fc)×Int×Int×(List (bY×dB))
def aR.L0.st:aR.L0.D→AS:=fun(sum,t13,t14,t15,n10)=>⟨([.undef,.undef,.undef,.ptr (.new 12 0) 0 [] 0,.d ti sum]++bl 8 ([.d (.slice fA) t13,.d ti t14,.d ti t15]++bl 35 [])),[],(cj 10 ([[.obj 0 false (.mp bD eJ n10)],[],[.obj 0 false (.pr (.dn (.new 10 0) 0) (.pr (.dv) (.d .unit ())))]]++cj 38 []))⟩
abbrev aR.L0.Y0:=Unit
abbrev aR.L0.X0:=Unit
def aR.L0.bE:aR.L0.X0→Exit×AS:=fun x=>(.ret,⟨([.undef,.undef,.iC]++bl 48 []),[],(List.replicate 51 [])⟩)
abbrev aR.L0.Y1:=(List (bY×dB))
abbrev aR.L0.X1:=(List (bY×dB))
def aR.L0.gT:aR.L0.X1→Exit×AS:=fun x=>(.exit 0,⟨([.undef,.undef,.undef,.ptr (.new 12 0) 0 [] 0]++bl 47 []),[],(cj 10 ([[.obj 0 false (.mp bD eJ x)],[],[.obj 0 false (.pr (.dn (.new 10 0) 0) (.pr (.dv) (.d .unit ())))]]++cj 38 []))⟩)
abbrev aR.L0.X:=(aR.L0.X0)⊕(aR.L0.X1)
abbrev aR.L0.Y:=(aR.L0.Y0)⊕(aR.L0.Y1)
def aR.L0.out:aR.L0.X→Out (Exit×AS):=fun x=> .br x.isLeft (.get x.getLeft? fun a=> .ok (aR.L0.bE a)) (.get x.getRight? fun b=> .ok (aR.L0.gT b))
def aR.L0.add:aR.L0.D→aR.L0.Y→aR.L0.X:=fun(sum,t13,t14,t15,n10) y=>match y with | .inl y=> .inl y | .inr z=> .inr (z)
abbrev aR.D:=(List fc)
def aR.st:aR.D→SA:=fun outs=>([.d (.slice fA) outs],[])
abbrev aR.Y:=(Unit)⊕((List (bY×dB))×(List cr))
abbrev aR.X:=(Unit)⊕((List (bY×dB))×(List cr))
def aR.out:aR.X→aX:=fun x=>match x with | .inl x=>⟨.iC,[],[]⟩ | .inr x=>⟨.ptr (.new 0 0) 0 [] 0,[],[.obj 0 false (.pr (.dn (.new 0 1) 0) (.pr (.bp (.new 0 2) 0 [] 0 0 0) (.d .unit ()))),.obj 0 false (.mp bD eJ x.1),.obj 0 false (.vec 161 cD x.2)]⟩
def aR.add:aR.D→aR.Y→aR.X:=fun outs y=>match y with | .inl y=> .inl y | .inr y=> .inr y
def pW(k:Nat)(o:fc):bY×dB:=((List.replicate 32 (0:Int),((k:Int),())),(o,((0:Int),())))
def lR(sum:Int)(o:fc):Bool:=jn o.2.1 && decide (0≤o.1∧o.1≤1125899906842624 - sum)
def qs(sum:Int)(k:Nat):List fc→Option (List (bY×dB))
 |[]=>some []
 |o::l=>match lR sum o with | true=>(qs (sum+o.1) (k+1) l).map (pW k o:: ·) | false=>none
def uR(outs:List fc):Option (List (bY×dB)):=if outs.length≤256 then qs 0 0 outs else none
def xd(o:fc):Prop:=Ap o.2.1∧o.2.1.1.length≤9223372036854775807∧o.1≤9223372036854775807
def aR.L0.az:aR.L0.D→Prop:=fun(sum,outs,n,i,a)=>(∀o∈outs,xd o)∧outs.length≤256∧0≤sum∧sum≤1125899906842624∧∃k:Nat,k≤outs.length∧i=k∧n=outs.length∧∀p∈a,p.1.2.1 < (k:Int)
def aR.L0.F:aR.L0.D→aR.L0.Y:=fun(sum,outs,_,i,a)=>match qs sum i.toNat (outs.drop i.toNat) with | none=> .inl () | some r=> .inr (a++r)
def aR.az:aR.D→Prop:=fun outs=>∀o∈outs,xd o
def aR.F:aR.D→aR.Y:=fun outs=>match uR outs with | none=> .inl () | some r=> .inr (r,[])
noncomputable def aR.G:dG:=eT (P:=Tryz.prog) [aD.sg,bN.sg]
noncomputable def aR.L0.E:=bW.cM aR.L0.st aR.L0.az aR.L0.add aR.L0.F aR.L0.out
noncomputable def aR.L0.call:aR.L0.D→Option aR.L0.X:=dF aR.L0.E aR.L0.st
noncomputable def aR.an:dX:= {bk:=[12],loops:=l7 [(5,{bn:=[3,4,13,14,15],sites:=[10,12]})],outs:=l6 [(5,{bn:=[3],sites:=[10,12]},{bn:=[2]})],fK:=mU [(5,aR.L0.E)],kk:=[⟨2,[.snd,.fst],0,148⟩]}
noncomputable def aR.A:= @cR Tryz.prog aR.G aR.an 0 Tryz.f27 _ aR.st
abbrev aR.Ok:=cS @aR.A aR.az aR.add aR.F aR.out
noncomputable def aR.L0.R:= @cz Tryz.prog aR.G aR.an 0 Tryz.f27 0 _ aR.L0.st
abbrev aR.L0.Ok:=eK Tryz.prog aR.G aR.an 0 Tryz.f27 0 aR.L0.st aR.L0.az aR.L0.add aR.L0.F aR.L0.out
theorem aR.L0.run:bK aR.L0.call aR.L0.az aR.L0.add aR.L0.F:=eU (eQ [.d ti,.d (.slice fA),.d ti,.d ti,.d (.slice (.pair bD eJ))] fun _=>by kernel_rfl)
theorem aR.L0.aK:oe @aR.L0.R aR.L0.st aR.L0.az aR.L0.add aR.L0.F aR.L0.out aR.L0.Ok:=py
theorem aR.L0.step{R:Type}(sum:Int)(t13:(List fc))(t14:Int)(t15:Int)(n10:(List (bY×dB)))(kn:AS→Option R)(kx:Exit→AS→Option R):aR.L0.R (sum,t13,t14,t15,n10) kn kx=
  aP ((gE t15 t14)) (
   aP (fo t15 (((List.length t13):Nat):Int)) (
   au (aD.call (nth fA t13 (Int.toNat t15)).2.1) fun x1=>
   aP ((!x1)) (
    kx (aR.L0.bE ()).1 (aR.L0.bE ()).2) (
    aP ((gE (nth fA t13 (Int.toNat t15)).1 (0:Int))) (
     kx (aR.L0.bE ()).1 (aR.L0.bE ()).2) (
     aP ((pZ (nth fA t13 (Int.toNat t15)).1 (cI .i64 (1125899906842624:Int) sum))) (
      kx (aR.L0.bE ()).1 (aR.L0.bE ()).2) (
      au (bN.call (nth fA t13 (Int.toNat t15))) fun x2=>
      kn (aR.L0.st ((b8 .i64 sum (nth fA t13 (Int.toNat t15)).1),t13,t14,(b8 .i64 t15 (1:Int)),(ef bD ((List.replicate 32 (0:Int)),(t15,())) (x2,((0:Int),())) n10))))))) none) (
   kx (aR.L0.gT n10).1 (aR.L0.gT n10).2):=by kernel_rfl
theorem aR.eq{R:Type}(outs:(List fc))(k:aX→Option R):aR.A outs k=
  aP ((pZ (((List.length outs):Nat):Int) (256:Int))) (
   k (aR.out (.inl ()))) (
   au (aR.L0.call ((0:Int),outs,(((List.length outs):Nat):Int),(0:Int),([]:List (bY×dB)))) fun x3=>
   aP (x3.isLeft) (
    au (x3.getLeft?) fun a4=>
    k (aR.out (.inl ()))) (
    au (x3.getRight?) fun b5=>
    k (aR.out (.inr (b5,([]:List cr)))))):=by kernel_rfl
theorem aR.L0.ok:aR.L0.Ok:=by
 refine aR.L0.aK (fun(_,outs,_,i,_)=>outs.length - i.toNat) ?_
 rintro⟨sum,outs,n,i,a⟩ ⟨hg,hl,h0,h1,k,hk,rfl,rfl,hf⟩
 have h0:0≤sum:=h0
 have h1:sum≤1125899906842624:=h1
 have hl:outs.length≤256:=hl
 have hk:k≤outs.length:=hk
 by_cases h:k < outs.length
 ·obtain⟨g1,g2,g3⟩:=hg _ (List.getElem_mem h)
  have n1:nth fA outs k=outs[k]:=cX (t:=fA) h
  have hd:outs.drop k=outs[k]::outs.drop (k+1):=List.drop_eq_getElem_cons h
  have hs:∀ {R:Type} (kn:AS→Option R) (kx:Exit→AS→Option R),aR.L0.R (sum,outs,(outs.length:Int),(k:Int),a) kn kx=
    aP (!(jn outs[k].2.1)) (kx (aR.L0.bE ()).1 (aR.L0.bE ()).2) (aP (gE outs[k].1 0) (kx (aR.L0.bE ()).1 (aR.L0.bE ()).2) (aP (pZ outs[k].1 (1125899906842624 - sum)) (kx (aR.L0.bE ()).1 (aR.L0.bE ()).2)
     (au (bN.call outs[k]) fun x2=>kn (aR.L0.st ((b8 .i64 sum outs[k].1),outs,(outs.length:Int),(b8 .i64 (k:Int) (1:Int)),(ef bD ((List.replicate 32 (0:Int)),((k:Int),())) (x2,((0:Int),())) a)))))):=fun kn kx=>by
   rw[aR.L0.step,bq (by omega),ak,bu (by omega) (by omega),ak,Int.toNat_natCast,n1,aD.run (d:=outs[k].2.1) ⟨g1,g2⟩,dT (by omega) (by omega)]
   rfl
  by_cases hok:lR sum outs[k]=true
  ·left
   have hok':=hok
   unfold lR at hok'
   simp only[Bool.and_eq_true,decide_eq_true_eq]at hok'
   obtain⟨k1,k2,k3⟩:=hok'
   have hlk:=rK k1
   refine⟨(sum+outs[k].1,outs,(outs.length:Int),((k+1:Nat):Int),a++ [pW k outs[k]]),⟨hg,hl,by show 0≤sum+outs[k].1;omega,by show sum+outs[k].1≤_;omega,k+1,by omega,rfl,rfl,fun p hp=> ?_⟩,by simp only[Int.toNat_natCast];omega,?_,fun kn kx=> ?_⟩
   ·rcases List.mem_append.1 hp with hp | hp
    ·have:=hf p hp;omega
    ·rw[List.mem_singleton.1 hp];show(k:Int) < _;omega
   ·simp only[aR.L0.add,aR.L0.F,Int.toNat_natCast,hd,qs,hok]
    cases qs (sum+outs[k].1) (k+1) (outs.drop (k+1)) with
    |none=>rfl
    |some r=>simp only[Option.map_some,List.append_assoc,List.singleton_append]
   ·rw[hs,k1,Bool.not_true,aw,bm (by omega),aw,dS (by omega),aw,bN.run (d:=outs[k]) ⟨by omega,fun b hb=>by have:=hlk.2 b hb;omega⟩]
    simp only[aa,bN.add,bN.F]
    rw[fM (by omega) (by omega),N.nj (by omega),kH fa]
    ·rfl
    ·intro hm
     obtain⟨p,hp,he⟩:=List.mem_map.1 hm
     have:=hf p hp
     have he:p.1=_:=he
     rw[he]at this
     have this:(k:Int) < k:=this
     omega
  ·right
   have hok2:lR sum outs[k]=false:=by simpa using hok
   refine⟨aR.L0.bE (),?_,fun kn kx=> ?_⟩
   rotate_left
   ·rw[hs]
    unfold lR at hok2
    cases k1:jn outs[k].2.1 with
    |false=>rw[Bool.not_false,ak]
    |true=>
     rw[k1]at hok2
     simp only[Bool.true_and,decide_eq_false_iff_not]at hok2
     rw[Bool.not_true,aw]
     by_cases k2:outs[k].1 < 0
     ·rw[bq k2,ak]
     ·rw[bm k2,aw,dZ (by omega),ak]
   ·simp only[aR.L0.add,aR.L0.F,Int.toNat_natCast,hd,qs,hok2]
    rfl
 ·right
  obtain rfl:k=outs.length:=by omega
  refine⟨aR.L0.gT a,?_,fun kn kx=> ?_⟩
  rotate_left
  ·rw[aR.L0.step,bm (by omega),aw]
  ·simp only[aR.L0.add,aR.L0.F,Int.toNat_natCast,List.drop_length,qs,List.append_nil]
   rfl
theorem aR.ok:aR.Ok:=by
 intro outs hg
 rw[aR.eq]
 simp only[aR.add,aR.F,uR]
 by_cases h:outs.length≤256
 ·rw[dS (by omega),aw,aR.L0.run (d:=(0,outs,(outs.length:Int),0,[])) ⟨hg,h,by decide,by decide,0,Nat.zero_le _,rfl,rfl,fun p hp=>by cases hp⟩,if_pos h]
  simp only[aa,aR.L0.add,aR.L0.F,Int.toNat_zero,List.drop_zero]
  cases qs 0 0 outs with
  |none=>rfl
  |some r=>rfl
 ·rw[dZ (by omega),ak,if_neg h]
noncomputable def aR.E:=Entry.CE [some (.slice fA)] aR.st aR.az aR.add aR.F aR.out
noncomputable def aR.call:aR.D→Option aR.X:=bP aR.E aR.st
theorem aR.run:bK aR.call aR.az aR.add aR.F:=Dn (cW [.d (.slice fA)] fun _=>by kernel_rfl)
noncomputable def aR.sg:SG Tryz.prog:=⟨27,aV,aR.E,.Gg (.fn 1 (by kernel_rfl) aR.ok (And.intro (.cM aR.L0.ok (by kernel_rfl)) trivial))⟩
set_option synthInstance.maxSize 5000
abbrev cP.D:=bY×Nat×(List (bY×dB))×(List cr)
def cP.st:cP.D→SA:=fun(o,o0baL,o1,o2)=>([.ptr (.cG 0) 0 [] 0,.d bD o],[.obj 0 false (.pr (.dn (.cG 1) 0) (.pr (.bp (.cG 2) 0 [] 0 0 o0baL) (.d .unit ()))),.obj 0 false (.mp bD eJ o1),.obj 0 false (.vec 161 cD o2)])
abbrev cP.Y:=dB×Bool
abbrev cP.X:=(Nat×(List (bY×dB))×(List cr))×(dB×Bool)
def cP.out:cP.X→aX:=fun x=>⟨.cons (.d eJ x.2.1) (.cons (.d .bool x.2.2) (.nil)),[.obj 0 false (.pr (.dn (.cG 1) 0) (.pr (.bp (.cG 2) 0 [] 0 0 x.1.1) (.d .unit ()))),.obj 0 false (.mp bD eJ x.1.2.1),.obj 0 false (.vec 161 cD x.1.2.2)],[]⟩
def cP.add:cP.D→cP.Y→cP.X:=fun(o,o0baL,o1,o2) y=>((o0baL,o1,o2),y)
def Ez(c:dB):Prop:=jn c.1.2.1=true∧Ap c.1.2.1∧0≤c.1.1∧c.1.1≤1125899906842624∧0≤c.2.1∧c.2.1≤1048576
def qN(a:List (bY×dB)):Prop:=(a.map (·.1)).Nodup∧∀p∈a,vg p.1∧Ez p.2
theorem qN.get{a:List (bY×dB)}(h:qN a){o:bY}{c:dB}(hg:bQ bD o a=some c):Ez c:=(h.2 _ ((fv fa h.1).1 hg)).2
def uf:dB:=((0,(([],()),())),(0,()))
def cP.az:cP.D→Prop:=fun(_,_,a,_)=>qN a
def cP.F:cP.D→cP.Y:=fun(o,_,a,_)=>((bQ bD o a).getD uf,(bQ bD o a).isSome)
noncomputable def cP.G:dG:=eT (P:=Tryz.prog) [bN.sg]
noncomputable def cP.an:dX:= {res:=[some eJ,none]}
noncomputable def cP.A:= @cR Tryz.prog cP.G cP.an 0 Tryz.f34 _ cP.st
abbrev cP.Ok:=cS @cP.A cP.az cP.add cP.F cP.out
theorem cP.eq{R:Type}(o:bY)(o0baL:Nat)(o1:(List (bY×dB)))(o2:(List cr))(k:aX→Option R):cP.A (o,o0baL,o1,o2) k=
  au (bN.call ((bQ bD o o1).getD (((0:Int),((([]:List jN),()),())),((0:Int),()))).1) fun x1=>
  aP ((!(bQ bD o o1).isSome)) (
   k (cP.out ((o0baL,o1,o2),((((0:Int),((([]:List jN),()),())),((0:Int),())),false)))) (
   k (cP.out ((o0baL,o1,o2),((x1,((bQ bD o o1).getD (((0:Int),((([]:List jN),()),())),((0:Int),()))).2),true)))):=by kernel_rfl
theorem Ez.own{c:dB}(h:Ez c):Fw c.1.2.1:=by
 have:=rK h.1
 exact⟨by omega,fun b hb=>by have:=this.2 b hb;omega⟩
theorem cP.ok:cP.Ok:=by
 rintro⟨o,n,a,s⟩ ha
 have ha:qN a:=ha
 rw[cP.eq]
 cases hg:bQ bD o a with
 |none=>
  simp only[Option.getD_none,Option.isSome_none,Bool.not_false,ak]
  rw[bN.run (d:=((0:Int),((([]:List jN),()),()))) ⟨by show 0≤1000;decide,fun b hb=>by cases hb⟩]
  simp only[aa,cP.add,cP.F,hg,Option.getD_none,Option.isSome_none]
  rfl
 |some c=>
  simp only[Option.getD_some,Option.isSome_some,Bool.not_true,aw]
  rw[bN.run (d:=c.1) (ha.get hg).own]
  simp only[aa,bN.add,bN.F,cP.add,cP.F,hg,Option.getD_some,Option.isSome_some]
noncomputable def cP.E:=Entry.cM [none,some bD] cP.st cP.az cP.add cP.F cP.out
noncomputable def cP.call:cP.D→Option cP.X:=bP cP.E cP.st
theorem cP.run:bK cP.call cP.az cP.add cP.F:=de (cW [.d bD,.n,.d (.slice (.pair bD eJ)),.d (.slice cD)] fun _=>by kernel_rfl)
noncomputable def cP.sg:SG Tryz.prog:=⟨34,aV,cP.E,.fn 0 (by kernel_rfl) cP.ok trivial⟩
abbrev ao.L0.D:=Int×fg×Int×(List gW)×Int×Int×Nat×(List (bY×dB))×(List cr)×Bs
def ao.L0.st:ao.L0.D→AS:=fun(height_2,t_2,fS,t35,t36,t37,o0L,o1_2,o2_2,n8)=>⟨([.ptr (.cG 0) 0 [] 0,.undef,.d ti height_2,.undef,.eH jz t_2,.undef,.undef,.undef,.ptr (.new 8 0) 0 [] 0,.d ti fS]++bl 25 ([.d (.slice ik) t35,.d ti t36,.d ti t37]++bl 69 [])),[.obj 0 false (.pr (.dn (.cG 1) 0) (.pr (.bp (.cG 2) 0 [] 0 0 o0L) (.d .unit ()))),.obj 0 false (.mp bD eJ o1_2),.obj 0 false (.vec 161 cD o2_2)],(cj 8 ([[.obj 0 false (.d tH n8)]]++cj 98 []))⟩
abbrev ao.L0.Y0:=Int
abbrev ao.L0.X0:=(Nat×(List (bY×dB))×(List cr))×(Int)
def ao.L0.bE:ao.L0.X0→Exit×AS:=fun x=>(.ret,⟨(bl 6 ([.d ti (0:Int),.d ti x.2]++bl 99 [])),[.obj 0 false (.pr (.dn (.cG 1) 0) (.pr (.bp (.cG 2) 0 [] 0 0 x.1.1) (.d .unit ()))),.obj 0 false (.mp bD eJ x.1.2.1),.obj 0 false (.vec 161 cD x.1.2.2)],(List.replicate 107 [])⟩)
abbrev ao.L0.Y1:=Int
abbrev ao.L0.X1:=(fg×Nat×(List (bY×dB))×(List cr))×(Int)
def ao.L0.gT:ao.L0.X1→Exit×AS:=fun x=>(.exit 0,⟨([.ptr (.cG 0) 0 [] 0,.undef,.undef,.undef,.eH jz x.1.1]++bl 4 ([.d ti x.2]++bl 97 [])),[.obj 0 false (.pr (.dn (.cG 1) 0) (.pr (.bp (.cG 2) 0 [] 0 0 x.1.2.1) (.d .unit ()))),.obj 0 false (.mp bD eJ x.1.2.2.1),.obj 0 false (.vec 161 cD x.1.2.2.2)],(List.replicate 107 [])⟩)
abbrev ao.L0.X:=(ao.L0.X0)⊕(ao.L0.X1)
abbrev ao.L0.Y:=(ao.L0.Y0)⊕(ao.L0.Y1)
def ao.L0.out:ao.L0.X→Out (Exit×AS):=fun x=> .br x.isLeft (.get x.getLeft? fun a=> .ok (ao.L0.bE a)) (.get x.getRight? fun b=> .ok (ao.L0.gT b))
def ao.L0.add:ao.L0.D→ao.L0.Y→ao.L0.X:=fun(height_2,t_2,fS,t35,t36,t37,o0L,o1_2,o2_2,n8) y=>match y with | .inl y=> .inl ((o0L,o1_2,o2_2),y) | .inr z=> .inr (((t_2,o0L,o1_2,o2_2),z))
abbrev ao.L1.D:=fg×Int×(List bY)×Int×Int×Nat×(List (bY×dB))×(List cr)
def ao.L1.st:ao.L1.D→AS:=fun(t_3,fee_2,t75,t76,t77,o0L_2,o1_3,o2_3)=>⟨([.ptr (.cG 0) 0 [] 0,.undef,.undef,.undef,.eH jz t_3]++bl 4 ([.d ti fee_2]++bl 65 ([.d (.slice bD) t75,.d ti t76,.d ti t77]++bl 29 []))),[.obj 0 false (.pr (.dn (.cG 1) 0) (.pr (.bp (.cG 2) 0 [] 0 0 o0L_2) (.d .unit ()))),.obj 0 false (.mp bD eJ o1_3),.obj 0 false (.vec 161 cD o2_3)],(List.replicate 107 [])⟩
abbrev ao.L1.Y0:=Unit
abbrev ao.L1.X0:=Nat×(List (bY×dB))×(List cr)
def ao.L1.bE:ao.L1.X0→Exit×AS:=fun x=>(.ret,⟨(bl 6 ([.d ti (0:Int),.d ti (4:Int)]++bl 99 [])),[.obj 0 false (.pr (.dn (.cG 1) 0) (.pr (.bp (.cG 2) 0 [] 0 0 x.1) (.d .unit ()))),.obj 0 false (.mp bD eJ x.2.1),.obj 0 false (.vec 161 cD x.2.2)],(List.replicate 107 [])⟩)
abbrev ao.L1.Y1:=Unit
abbrev ao.L1.X1:=fg×Int×Nat×(List (bY×dB))×(List cr)
def ao.L1.gT:ao.L1.X1→Exit×AS:=fun x=>(.exit 2,⟨(bl 4 ([.eH jz x.1]++bl 4 ([.d ti x.2.1]++bl 97 []))),[.obj 0 false (.pr (.dn (.cG 1) 0) (.pr (.bp (.cG 2) 0 [] 0 0 x.2.2.1) (.d .unit ()))),.obj 0 false (.mp bD eJ x.2.2.2.1),.obj 0 false (.vec 161 cD x.2.2.2.2)],(List.replicate 107 [])⟩)
abbrev ao.L1.X:=(ao.L1.X0)⊕(ao.L1.X1)
abbrev ao.L1.Y:=(ao.L1.Y0)⊕(ao.L1.Y1)
def ao.L1.out:ao.L1.X→Out (Exit×AS):=fun x=> .br x.isLeft (.get x.getLeft? fun a=> .ok (ao.L1.bE a)) (.get x.getRight? fun b=> .ok (ao.L1.gT b))
def ao.L1.add:ao.L1.D→ao.L1.Y→ao.L1.X:=fun(t_3,fee_2,t75,t76,t77,o0L_2,o1_3,o2_3) y=>match y with | .inl y=> .inl (o0L_2,o1_3,o2_3) | .inr z=> .inr ((t_3,fee_2,o0L_2,o1_3,o2_3))
abbrev ao.L2.D:=Int×(List fc)×Int×Int×Nat×(List (bY×dB))×(List cr)
def ao.L2.st:ao.L2.D→AS:=fun(fee_3,t93,t94,t95,o0L_3,o1_4,o2_4)=>⟨(bl 9 ([.d ti fee_3]++bl 83 ([.d (.slice fA) t93,.d ti t94,.d ti t95]++bl 11 []))),[.obj 0 false (.pr (.dn (.cG 1) 0) (.pr (.bp (.cG 2) 0 [] 0 0 o0L_3) (.d .unit ()))),.obj 0 false (.mp bD eJ o1_4),.obj 0 false (.vec 161 cD o2_4)],(List.replicate 107 [])⟩
abbrev ao.L2.Y0:=Int
abbrev ao.L2.X0:=(Nat×(List (bY×dB))×(List cr))×(Int)
def ao.L2.bE:ao.L2.X0→Exit×AS:=fun x=>(.exit 4,⟨(bl 9 ([.d ti x.2]++bl 97 [])),[.obj 0 false (.pr (.dn (.cG 1) 0) (.pr (.bp (.cG 2) 0 [] 0 0 x.1.1) (.d .unit ()))),.obj 0 false (.mp bD eJ x.1.2.1),.obj 0 false (.vec 161 cD x.1.2.2)],(List.replicate 107 [])⟩)
abbrev ao.L2.X:=ao.L2.X0
abbrev ao.L2.Y:=ao.L2.Y0
def ao.L2.out:ao.L2.X→Out (Exit×AS):=fun x=> .ok (ao.L2.bE x)
def ao.L2.add:ao.L2.D→ao.L2.Y→ao.L2.X:=fun(fee_3,t93,t94,t95,o0L_3,o1_4,o2_4) y=>((o0L_3,o1_4,o2_4),y)
abbrev ao.D:=fg×Int×Nat×(List (bY×dB))×(List cr)
def ao.st:ao.D→SA:=fun(t,height,o0baL,o1,o2)=>([.ptr (.cG 0) 0 [] 0,.d jz t,.d ti height],[.obj 0 false (.pr (.dn (.cG 1) 0) (.pr (.bp (.cG 2) 0 [] 0 0 o0baL) (.d .unit ()))),.obj 0 false (.mp bD eJ o1),.obj 0 false (.vec 161 cD o2)])
abbrev ao.Y:=Int×Int×Nat×(List (bY×dB))×(List cr)
abbrev ao.X:=Int×Int×Nat×(List (bY×dB))×(List cr)
def ao.out:ao.X→aX:=fun x=>⟨.cons (.d ti x.1) (.cons (.d ti x.2.1) (.nil)),[.obj 0 false (.pr (.dn (.cG 1) 0) (.pr (.bp (.cG 2) 0 [] 0 0 x.2.2.1) (.d .unit ()))),.obj 0 false (.mp bD eJ x.2.2.2.1),.obj 0 false (.vec 161 cD x.2.2.2.2)],[]⟩
def ao.add:ao.D→ao.Y→ao.X:=fun(t,height,o0baL,o1,o2) y=>y
def iW(h:Int)(id:List Int)(a:List (bY×dB)):List gW→Int→Int⊕Int
 |[],fS=> .inr fS
 |x::l,fS=>match bQ bD x.1 a with
  |none=> .inl 5
  |some c=>if lr c.1.2.1 x.2.1 id h (h - c.2.1)≠0 then .inl (lr c.1.2.1 x.2.1 id h (h - c.2.1)) else iW h id a l (fS+c.1.1)
def gw(a:List (bY×dB))(o:bY):Bool:=(bQ bD o a).isSome
def fw(l:List fc):Int:=(l.map (·.1)).sum
def dJ(t:fg)(h:Int)(a:List (bY×dB)):Int×Int:=
 if fB t=true∧1≤h∧h≤1048576 then
  match iW h (lW t) a t.1 0 with
  | .inl e=>(0,e)
  | .inr fS=>if(ea t).any (gw a)=true then(0,4) else if fS - fw t.2.1 < 0 then(0,8) else(fS - fw t.2.1,0)
 else(0,1)
def ao.L0.az:ao.L0.D→Prop:=fun(h,_,fS,l,n,i,_,a,_,id)=>(0≤h∧h≤1048576)∧Sm id∧l.length≤64∧(∀x∈l,F5 x)∧qN a∧∃k:Nat,k≤l.length∧i=k∧n=l.length∧0≤fS∧fS≤(k:Int)*1125899906842624
def ao.L0.F:ao.L0.D→ao.L0.Y:=fun(h,_,fS,l,_,i,_,a,_,id)=>iW h id a (l.drop i.toNat) fS
def ao.L1.az:ao.L1.D→Prop:=fun(_,_,l,n,i,_,_,_)=>l.length≤1000∧∃k:Nat,k≤l.length∧i=k∧n=l.length
def ao.L1.F:ao.L1.D→ao.L1.Y:=fun(_,_,l,_,i,_,a,_)=>if(l.drop i.toNat).any (gw a)=true then .inl () else .inr ()
def ao.L2.az:ao.L2.D→Prop:=fun(fS,l,n,i,_,_,_)=>l.length≤64∧(∀o∈l,0≤o.1∧o.1≤1125899906842624)∧∃k:Nat,k≤l.length∧i=k∧n=l.length∧ -((k:Int)*1125899906842624)≤fS∧fS≤1000000000000000000
def ao.L2.F:ao.L2.D→ao.L2.Y:=fun(fS,l,_,i,_,_,_)=>fS - fw (l.drop i.toNat)
def ao.az:ao.D→Prop:=fun(t,_,_,a,_)=>ni t∧qN a
def ao.F:ao.D→ao.Y:=fun(t,h,n,a,s)=>((dJ t h a).1,(dJ t h a).2,n,a,s)
noncomputable def ao.G:dG:=eT (P:=Tryz.prog) [ai.sg,tid.sg,aS.sg,ba.sg]
noncomputable def ao.L0.E:=bW.cM ao.L0.st ao.L0.az ao.L0.add ao.L0.F ao.L0.out
noncomputable def ao.L0.call:ao.L0.D→Option ao.L0.X:=dF ao.L0.E ao.L0.st
noncomputable def ao.L1.E:=bW.cM ao.L1.st ao.L1.az ao.L1.add ao.L1.F ao.L1.out
noncomputable def ao.L1.call:ao.L1.D→Option ao.L1.X:=dF ao.L1.E ao.L1.st
noncomputable def ao.L2.E:=bW.cM ao.L2.st ao.L2.az ao.L2.add ao.L2.F ao.L2.out
noncomputable def ao.L2.call:ao.L2.D→Option ao.L2.X:=dF ao.L2.E ao.L2.st
noncomputable def ao.an:dX:= {loops:=l7 [(5,{bn:=[0,2,4,8,9,35,36,37],sites:=[8]}),(16,{bn:=[0,4,9,75,76,77]}),(23,{bn:=[9,93,94,95]})],outs:=l6 [(5,{bn:=[0,4,9]},{bn:=[6,7]}),(16,{bn:=[4,9]},{bn:=[6,7]}),(23,{bn:=[9]},{bn:=[6,7]})],fK:=mU [(5,ao.L0.E),(16,ao.L1.E),(23,ao.L2.E)]}
noncomputable def ao.A:= @cR Tryz.prog ao.G ao.an 0 Tryz.f29 _ ao.st
abbrev ao.Ok:=cS @ao.A ao.az ao.add ao.F ao.out
noncomputable def ao.L0.R:= @cz Tryz.prog ao.G ao.an 0 Tryz.f29 0 _ ao.L0.st
abbrev ao.L0.Ok:=eK Tryz.prog ao.G ao.an 0 Tryz.f29 0 ao.L0.st ao.L0.az ao.L0.add ao.L0.F ao.L0.out
noncomputable def ao.L1.R:= @cz Tryz.prog ao.G ao.an 0 Tryz.f29 1 _ ao.L1.st
abbrev ao.L1.Ok:=eK Tryz.prog ao.G ao.an 0 Tryz.f29 1 ao.L1.st ao.L1.az ao.L1.add ao.L1.F ao.L1.out
noncomputable def ao.L2.R:= @cz Tryz.prog ao.G ao.an 0 Tryz.f29 2 _ ao.L2.st
abbrev ao.L2.Ok:=eK Tryz.prog ao.G ao.an 0 Tryz.f29 2 ao.L2.st ao.L2.az ao.L2.add ao.L2.F ao.L2.out
theorem ao.L0.run:bK ao.L0.call ao.L0.az ao.L0.add ao.L0.F:=eU (eQ [.d ti,.d jz,.d ti,.d (.slice ik),.d ti,.d ti,.n,.d (.slice (.pair bD eJ)),.d (.slice cD),.d tB] fun _=>by kernel_rfl)
theorem ao.L0.aK:oe @ao.L0.R ao.L0.st ao.L0.az ao.L0.add ao.L0.F ao.L0.out ao.L0.Ok:=py
theorem ao.L0.step{R:Type}(height_2:Int)(t_2:fg)(fS:Int)(t35:(List gW))(t36:Int)(t37:Int)(o0L:Nat)(o1_2:(List (bY×dB)))(o2_2:(List cr))(n8:Bs)(kn:AS→Option R)(kx:Exit→AS→Option R):ao.L0.R (height_2,t_2,fS,t35,t36,t37,o0L,o1_2,o2_2,n8) kn kx=
  aP ((gE t37 t36)) (
   aP (fo t37 (((List.length t35):Nat):Int)) (
   aP ((!(bQ bD (nth ik t35 (Int.toNat t37)).1 o1_2).isSome)) (
    kx (ao.L0.bE ((o0L,o1_2,o2_2),(5:Int))).1 (ao.L0.bE ((o0L,o1_2,o2_2),(5:Int))).2) (
    au (aS.call (((bQ bD (nth ik t35 (Int.toNat t37)).1 o1_2).getD (((0:Int),((([]:List jN),()),())),((0:Int),()))).1.2.1,(nth ik t35 (Int.toNat t37)).2.1,n8,height_2,(cI .i64 height_2 ((bQ bD (nth ik t35 (Int.toNat t37)).1 o1_2).getD (((0:Int),((([]:List jN),()),())),((0:Int),()))).2.1))) fun x1=>
    aP ((tJ x1 (0:Int))) (
     kx (ao.L0.bE ((o0L,o1_2,o2_2),x1)).1 (ao.L0.bE ((o0L,o1_2,o2_2),x1)).2) (
     kn (ao.L0.st (height_2,t_2,(b8 .i64 fS ((bQ bD (nth ik t35 (Int.toNat t37)).1 o1_2).getD (((0:Int),((([]:List jN),()),())),((0:Int),()))).1.1),t35,t36,(b8 .i64 t37 (1:Int)),o0L,o1_2,o2_2,n8))))) none) (
   kx (ao.L0.gT ((t_2,o0L,o1_2,o2_2),fS)).1 (ao.L0.gT ((t_2,o0L,o1_2,o2_2),fS)).2):=by kernel_rfl
theorem ao.L1.run:bK ao.L1.call ao.L1.az ao.L1.add ao.L1.F:=eU (eQ [.d jz,.d ti,.d (.slice bD),.d ti,.d ti,.n,.d (.slice (.pair bD eJ)),.d (.slice cD)] fun _=>by kernel_rfl)
theorem ao.L1.aK:oe @ao.L1.R ao.L1.st ao.L1.az ao.L1.add ao.L1.F ao.L1.out ao.L1.Ok:=py
theorem ao.L1.step{R:Type}(t_3:fg)(fee_2:Int)(t75:(List bY))(t76:Int)(t77:Int)(o0L_2:Nat)(o1_3:(List (bY×dB)))(o2_3:(List cr))(kn:AS→Option R)(kx:Exit→AS→Option R):ao.L1.R (t_3,fee_2,t75,t76,t77,o0L_2,o1_3,o2_3) kn kx=
  aP ((gE t77 t76)) (
   aP (fo t77 (((List.length t75):Nat):Int)) (
   aP ((bQ bD (nth bD t75 (Int.toNat t77)) o1_3).isSome) (
    kx (ao.L1.bE (o0L_2,o1_3,o2_3)).1 (ao.L1.bE (o0L_2,o1_3,o2_3)).2) (
    kn (ao.L1.st (t_3,fee_2,t75,t76,(b8 .i64 t77 (1:Int)),o0L_2,o1_3,o2_3)))) none) (
   kx (ao.L1.gT (t_3,fee_2,o0L_2,o1_3,o2_3)).1 (ao.L1.gT (t_3,fee_2,o0L_2,o1_3,o2_3)).2):=by kernel_rfl
theorem ao.L2.run:bK ao.L2.call ao.L2.az ao.L2.add ao.L2.F:=eU (eQ [.d ti,.d (.slice fA),.d ti,.d ti,.n,.d (.slice (.pair bD eJ)),.d (.slice cD)] fun _=>by kernel_rfl)
theorem ao.L2.aK:fZ @ao.L2.R ao.L2.st ao.L2.az ao.L2.add ao.L2.F ao.L2.bE ao.L2.Ok:=gv
theorem ao.L2.step{R:Type}(fee_3:Int)(t93:(List fc))(t94:Int)(t95:Int)(o0L_3:Nat)(o1_4:(List (bY×dB)))(o2_4:(List cr))(kn:AS→Option R)(kx:Exit→AS→Option R):ao.L2.R (fee_3,t93,t94,t95,o0L_3,o1_4,o2_4) kn kx=
  aP ((gE t95 t94)) (
   aP (fo t95 (((List.length t93):Nat):Int)) (
   kn (ao.L2.st ((cI .i64 fee_3 (nth fA t93 (Int.toNat t95)).1),t93,t94,(b8 .i64 t95 (1:Int)),o0L_3,o1_4,o2_4))) none) (
   kx (ao.L2.bE ((o0L_3,o1_4,o2_4),fee_3)).1 (ao.L2.bE ((o0L_3,o1_4,o2_4),fee_3)).2):=by kernel_rfl
theorem ao.eq{R:Type}(t:fg)(height:Int)(o0baL:Nat)(o1:(List (bY×dB)))(o2:(List cr))(k:aX→Option R):ao.A (t,height,o0baL,o1,o2) k=
  au (ai.call t) fun x1=>
  aP ((!x1)) (
   k (ao.out ((0:Int),(1:Int),o0baL,o1,o2))) (
   aP ((gE height (1:Int))) (
    k (ao.out ((0:Int),(1:Int),o0baL,o1,o2))) (
    aP ((pZ height (1048576:Int))) (
     k (ao.out ((0:Int),(1:Int),o0baL,o1,o2))) (
     au (tid.call t) fun x2=>
     au (ao.L0.call (height,t,(0:Int),t.1,(((List.length t.1):Nat):Int),(0:Int),o0baL,o1,o2,x2)) fun x4=>
     aP (x4.isLeft) (
      au (x4.getLeft?) fun a5=>
      k (ao.out ((0:Int),a5.2,a5.1.1,a5.1.2.1,a5.1.2.2))) (
      au (x4.getRight?) fun b6=>
      au (ba.call b6.1.1) fun x7=>
      au (ao.L1.call (b6.1.1,b6.2,x7,(((List.length x7):Nat):Int),(0:Int),b6.1.2.1,b6.1.2.2.1,b6.1.2.2.2)) fun x8=>
      aP (x8.isLeft) (
       au (x8.getLeft?) fun a9=>
       k (ao.out ((0:Int),(4:Int),a9.1,a9.2.1,a9.2.2))) (
       au (x8.getRight?) fun b10=>
       au (ao.L2.call (b10.2.1,b10.1.2.1,(((List.length b10.1.2.1):Nat):Int),(0:Int),b10.2.2.1,b10.2.2.2.1,b10.2.2.2.2)) fun x11=>
       aP ((gE x11.2 (0:Int))) (
        k (ao.out ((0:Int),(8:Int),x11.1.1,x11.1.2.1,x11.1.2.2))) (
        k (ao.out (x11.2,(0:Int),x11.1.1,x11.1.2.1,x11.1.2.2)))))))):=by kernel_rfl
theorem ao.L0.ok:ao.L0.Ok:=by
 refine ao.L0.aK (fun(_,_,_,l,_,i,_,_,_,_)=>l.length - i.toNat) ?_
 rintro⟨h,t,fS,l,n,i,o,a,s,id⟩ ⟨⟨hh1,hh2⟩,hid,hl,hu,ha,k,hk,rfl,rfl,hf1,hf2⟩
 have hh1:0≤h:=hh1
 have hh2:h≤1048576:=hh2
 have hl:l.length≤64:=hl
 have hf1:0≤fS:=hf1
 have hf2:fS≤(k:Int)*1125899906842624:=hf2
 have hk:k≤l.length:=hk
 by_cases hlt:k < l.length
 ·have hx:=hu _ (List.getElem_mem hlt)
  have n1:nth ik l k=l[k]:=cX (t:=ik) hlt
  have hd:l.drop k=l[k]::l.drop (k+1):=List.drop_eq_getElem_cons hlt
  cases hg:bQ bD l[k].1 a with
  |none=>
   right
   refine⟨ao.L0.bE ((o,a,s),5),?_,fun kn kx=> ?_⟩
   rotate_left
   ·rw[ao.L0.step,bq (by omega),ak,bu (by omega) (by omega),ak,Int.toNat_natCast,n1,hg]
    simp only[Option.isSome_none,Bool.not_false,ak]
   ·simp only[ao.L0.add,ao.L0.F,Int.toNat_natCast,hd,iW,hg]
    rfl
  |some c=>
   have hc:=ha.get hg
   obtain⟨c1,c2,c3,c4,c5,c6⟩:=hc
   have hst:∀ {R:Type} (kn:AS→Option R) (kx:Exit→AS→Option R),ao.L0.R (h,t,fS,l,(l.length:Int),(k:Int),o,a,s,id) kn kx=
     aP (tJ (lr c.1.2.1 l[k].2.1 id h (h - c.2.1)) 0) (kx (ao.L0.bE ((o,a,s),lr c.1.2.1 l[k].2.1 id h (h - c.2.1))).1 (ao.L0.bE ((o,a,s),lr c.1.2.1 l[k].2.1 id h (h - c.2.1))).2)
      (kn (ao.L0.st (h,t,fS+c.1.1,l,(l.length:Int),((k+1:Nat):Int),o,a,s,id))):=fun kn kx=>by
    rw[ao.L0.step,bq (by omega),ak,bu (by omega) (by omega),ak,Int.toNat_natCast,n1,hg]
    simp only[Option.isSome_some,Bool.not_true,aw,Option.getD_some]
    rw[dT (by omega) (by omega),aS.run (d:=(c.1.2.1,l[k].2.1,id,h,h - c.2.1)) ⟨c2,by have:=rK c1;omega,hx.2.1,hid⟩]
    simp only[aa,aS.add,aS.F]
    rw[fM (by omega) (by omega),N.nj (by omega)]
   by_cases he:lr c.1.2.1 l[k].2.1 id h (h - c.2.1)=0
   ·left
    refine⟨(h,t,fS+c.1.1,l,(l.length:Int),((k+1:Nat):Int),o,a,s,id),⟨⟨hh1,hh2⟩,hid,hl,hu,ha,k+1,by omega,rfl,rfl,by show 0≤fS+c.1.1;omega,by show fS+c.1.1≤_;omega⟩,by simp only[Int.toNat_natCast];omega,?_,fun kn kx=> ?_⟩
    ·simp only[ao.L0.add,ao.L0.F,Int.toNat_natCast,hd,iW,hg,he,ne_eq,not_true_eq_false,if_false]
    ·rw[hst,eY he,aw]
   ·right
    refine⟨ao.L0.bE ((o,a,s),lr c.1.2.1 l[k].2.1 id h (h - c.2.1)),?_,fun kn kx=> ?_⟩
    rotate_left
    ·rw[hst,gh he,ak]
    ·simp only[ao.L0.add,ao.L0.F,Int.toNat_natCast,hd,iW,hg]
     rw[if_pos he]
     rfl
 ·right
  obtain rfl:k=l.length:=by omega
  refine⟨ao.L0.gT ((t,o,a,s),fS),?_,fun kn kx=> ?_⟩
  rotate_left
  ·rw[ao.L0.step,bm (by omega),aw]
  ·simp only[ao.L0.add,ao.L0.F,Int.toNat_natCast,List.drop_length,iW]
   rfl
theorem ao.L1.ok:ao.L1.Ok:=by
 refine ao.L1.aK (fun(_,_,l,_,i,_,_,_)=>l.length - i.toNat) ?_
 rintro⟨t,fS,l,n,i,o,a,s⟩ ⟨hl,k,hk,rfl,rfl⟩
 have hl:l.length≤1000:=hl
 have hk:k≤l.length:=hk
 by_cases hlt:k < l.length
 ·have n1:nth bD l k=l[k]:=cX (t:=bD) hlt
  have hd:l.drop k=l[k]::l.drop (k+1):=List.drop_eq_getElem_cons hlt
  cases hg:(bQ bD l[k] a).isSome with
  |true=>
   right
   refine⟨ao.L1.bE (o,a,s),?_,fun kn kx=> ?_⟩
   rotate_left
   ·rw[ao.L1.step,bq (by omega),ak,bu (by omega) (by omega),ak,Int.toNat_natCast,n1,hg,ak]
   ·simp only[ao.L1.add,ao.L1.F,Int.toNat_natCast,hd,List.any_cons,gw,hg,Bool.true_or,if_true]
    rfl
  |false=>
   left
   refine⟨(t,fS,l,(l.length:Int),((k+1:Nat):Int),o,a,s),⟨hl,k+1,by omega,rfl,rfl⟩,by simp only[Int.toNat_natCast];omega,?_,fun kn kx=> ?_⟩
   ·simp only[ao.L1.add,ao.L1.F,Int.toNat_natCast,hd,List.any_cons,gw,hg,Bool.false_or]
   ·rw[ao.L1.step,bq (by omega),ak,bu (by omega) (by omega),ak,Int.toNat_natCast,n1,hg,aw,N.nj (by omega)]
 ·right
  obtain rfl:k=l.length:=by omega
  refine⟨ao.L1.gT (t,fS,o,a,s),?_,fun kn kx=> ?_⟩
  rotate_left
  ·rw[ao.L1.step,bm (by omega),aw]
  ·simp only[ao.L1.add,ao.L1.F,Int.toNat_natCast,List.drop_length,List.any_nil,Bool.false_eq_true,if_false]
   rfl
theorem ao.L2.ok:ao.L2.Ok:=by
 refine ao.L2.aK (fun(_,l,_,i,_,_,_)=>l.length - i.toNat) ?_
 rintro⟨fS,l,n,i,o,a,s⟩ ⟨hl,ho,k,hk,rfl,rfl,hf1,hf2⟩
 have hl:l.length≤64:=hl
 have hk:k≤l.length:=hk
 have hf1: -((k:Int)*1125899906842624)≤fS:=hf1
 have hf2:fS≤1000000000000000000:=hf2
 by_cases hlt:k < l.length
 ·left
  have n1:nth fA l k=l[k]:=cX (t:=fA) hlt
  have hd:l.drop k=l[k]::l.drop (k+1):=List.drop_eq_getElem_cons hlt
  have hx:=ho _ (List.getElem_mem hlt)
  refine⟨(fS - l[k].1,l,(l.length:Int),((k+1:Nat):Int),o,a,s),⟨hl,ho,k+1,by omega,rfl,rfl,by show _≤fS - l[k].1;omega,by show fS - l[k].1≤_;omega⟩,by simp only[Int.toNat_natCast];omega,?_,fun kn kx=> ?_⟩
  ·simp only[ao.L2.add,ao.L2.F,Int.toNat_natCast,hd,fw,List.map_cons,List.sum_cons]
   rw[Int.sub_sub]
  ·rw[ao.L2.step,bq (by omega),ak,bu (by omega) (by omega),ak,Int.toNat_natCast,n1,dT (by omega) (by omega),N.nj (by omega)]
 ·right
  obtain rfl:k=l.length:=by omega
  intro R kn kx
  rw[ao.L2.step,bm (by omega),aw]
  simp only[ao.L2.add,ao.L2.F,Int.toNat_natCast,List.drop_length,fw,List.map_nil,List.sum_nil,Int.sub_zero]
theorem iY{t:fg}(h:fB t=true):(ea t).length=t.2.1.length:=by
 unfold ea
 rw[if_pos h]
 simp[l8]
theorem rA{h:Int}{id:List Int}{a:List (bY×dB)}(ha:qN a):∀(l:List gW) (fS f:Int),iW h id a l fS= .inr f→fS≤f∧f≤fS+(l.length:Int)*1125899906842624
 |[],fS,f,e=>by simp only[iW,Sum.inr.injEq]at e;subst e;simp
 |x::l,fS,f,e=>by
  simp only[iW]at e
  cases hg:bQ bD x.1 a with
  |none=>rw[hg]at e;cases e
  |some c=>
   rw[hg]at e
   simp only at e
   split at e
   ·cases e
   ·have hc:=ha.get hg
    have:=rA ha l _ _ e
    obtain⟨_,_,c3,c4,_⟩:=hc
    rw[List.length_cons]
    omega
theorem ao.ok:ao.Ok:=by
 rintro⟨t,h,n,a,s⟩ ⟨hv,ha⟩
 have hv:ni t:=hv
 have ha:qN a:=ha
 rw[ao.eq,ai.run (d:=t) hv.1]
 simp only[aa,ai.add,ai.F,ao.add,ao.F,dJ]
 by_cases hok:fB t=true
 ·rw[hok,Bool.not_true,aw]
  obtain⟨⟨_,a2,a3,_⟩,b1,b2⟩:=iJ hok
  by_cases h1:1≤h
  ·rw[bm (by omega),aw]
   by_cases h2:h≤1048576
   ·rw[dS (by omega),aw,if_pos ⟨rfl,h1,h2⟩,tid.run (d:=t) hv]
    simp only[aa,tid.add,tid.F]
    rw[ao.L0.run (d:=(h,t,0,t.1,(t.1.length:Int),0,n,a,s,lW t)) ⟨⟨by show 0≤h;omega,h2⟩,ym,a2,hv.2.1,ha,0,Nat.zero_le _,rfl,rfl,by decide,by decide⟩]
    simp only[aa,ao.L0.add,ao.L0.F,Int.toNat_zero,List.drop_zero]
    cases hi:iW h (lW t) a t.1 0 with
    |inl e=>
     simp only[Sum.isLeft_inl,ak,Sum.getLeft?_inl,aa]
    |inr fS=>
     have hb:=rA ha _ _ _ hi
     simp only[Sum.isLeft_inr,aw,Sum.getRight?_inr,aa]
     rw[ba.run (d:=t) hv]
     simp only[aa,ba.add,ba.F]
     rw[ao.L1.run (d:=(t,fS,ea t,((ea t).length:Int),0,n,a,s)) ⟨by rw[iY hok];omega,0,Nat.zero_le _,rfl,rfl⟩]
     simp only[aa,ao.L1.add,ao.L1.F,Int.toNat_zero,List.drop_zero]
     by_cases hm:(ea t).any (gw a)=true
     ·rw[if_pos hm]
      simp only[Sum.isLeft_inl,ak,Sum.getLeft?_inl,aa,if_true,hm]
     ·rw[if_neg hm]
      simp only[Sum.isLeft_inr,aw,Sum.getRight?_inr,aa]
      rw[ao.L2.run (d:=(fS,t.2.1,(t.2.1.length:Int),0,n,a,s)) ⟨a3,fun o ho=>(iZ _ _ b2 o ho).1,0,Nat.zero_le _,rfl,rfl,by show -((0:Int)*_)≤fS;omega,by show fS≤_;omega⟩]
      simp only[aa,ao.L2.add,ao.L2.F,Int.toNat_zero,List.drop_zero]
      rw[if_neg hm]
      by_cases hf:fS - fw t.2.1 < 0
      ·rw[bq hf,ak,if_pos hf]
      ·rw[bm hf,aw,if_neg hf]
   ·rw[dZ (by omega),ak,if_neg (fun e=>h2 e.2.2)]
  ·rw[bq (by omega),ak,if_neg (fun e=>h1 e.2.1)]
 ·have hok':fB t=false:=by simpa using hok
  rw[hok',Bool.not_false,ak,if_neg (fun e=>by cases e.1)]
noncomputable def ao.E:=Entry.cM [none,some jz,some ti] ao.st ao.az ao.add ao.F ao.out
noncomputable def ao.call:ao.D→Option ao.X:=bP ao.E ao.st
theorem ao.run:bK ao.call ao.az ao.add ao.F:=de (cW [.d jz,.d ti,.n,.d (.slice (.pair bD eJ)),.d (.slice cD)] fun _=>by kernel_rfl)
noncomputable def ao.sg:SG Tryz.prog:=⟨29,aV,ao.E,.fn 3 (by kernel_rfl) ao.ok (And.intro (.cM ao.L0.ok (by kernel_rfl)) (And.intro (.cM ao.L1.ok (by kernel_rfl)) (And.intro (.cM ao.L2.ok (by kernel_rfl)) trivial)))⟩
set_option synthInstance.maxSize 5000
abbrev aC.L0.D:=Int×(List bY)×Int×Int×Nat×(List (bY×dB))×(List cr)
def aC.L0.st:aC.L0.D→AS:=fun(n,t23,t24,t25,o0L,o1_2,o2_2)=>⟨([.ptr (.cG 0) 0 [] 0,.undef,.undef,.d ti n]++bl 19 ([.d (.slice bD) t23,.d ti t24,.d ti t25]++bl 40 [])),[.obj 0 false (.pr (.dn (.cG 1) 0) (.pr (.bp (.cG 2) 0 [] 0 0 o0L) (.d .unit ()))),.obj 0 false (.mp bD eJ o1_2),.obj 0 false (.vec 161 cD o2_2)],(List.replicate 66 [])⟩
abbrev aC.L0.Y0:=(List (bY×dB))
abbrev aC.L0.X0:=(Int×Nat×(List cr))×((List (bY×dB)))
def aC.L0.bE:aC.L0.X0→Exit×AS:=fun x=>(.exit 0,⟨([.ptr (.cG 0) 0 [] 0,.undef,.undef,.d ti x.1.1]++bl 62 []),[.obj 0 false (.pr (.dn (.cG 1) 0) (.pr (.bp (.cG 2) 0 [] 0 0 x.1.2.1) (.d .unit ()))),.obj 0 false (.mp bD eJ x.2),.obj 0 false (.vec 161 cD x.1.2.2)],(List.replicate 66 [])⟩)
abbrev aC.L0.X:=aC.L0.X0
abbrev aC.L0.Y:=aC.L0.Y0
def aC.L0.out:aC.L0.X→Out (Exit×AS):=fun x=> .ok (aC.L0.bE x)
def aC.L0.add:aC.L0.D→aC.L0.Y→aC.L0.X:=fun(n,t23,t24,t25,o0L,o1_2,o2_2) y=>((n,o0L,o2_2),y)
abbrev aC.L1.D:=Int×(List ug)×Int×Int×Nat×(List (bY×dB))×(List cr)
def aC.L1.st:aC.L1.D→AS:=fun(n_2,t42,t43,t44,o0L_2,o1_3,o2_3)=>⟨([.ptr (.cG 0) 0 [] 0,.undef,.undef,.d ti n_2]++bl 38 ([.d (.slice Af) t42,.d ti t43,.d ti t44]++bl 21 [])),[.obj 0 false (.pr (.dn (.cG 1) 0) (.pr (.bp (.cG 2) 0 [] 0 0 o0L_2) (.d .unit ()))),.obj 0 false (.mp bD eJ o1_3),.obj 0 false (.vec 161 cD o2_3)],(List.replicate 66 [])⟩
abbrev aC.L1.Y0:=(List (bY×dB))
abbrev aC.L1.X0:=(Int×Nat×(List cr))×((List (bY×dB)))
def aC.L1.bE:aC.L1.X0→Exit×AS:=fun x=>(.exit 2,⟨([.ptr (.cG 0) 0 [] 0,.undef,.undef,.d ti x.1.1]++bl 62 []),[.obj 0 false (.pr (.dn (.cG 1) 0) (.pr (.bp (.cG 2) 0 [] 0 0 x.1.2.1) (.d .unit ()))),.obj 0 false (.mp bD eJ x.2),.obj 0 false (.vec 161 cD x.1.2.2)],(List.replicate 66 [])⟩)
abbrev aC.L1.X:=aC.L1.X0
abbrev aC.L1.Y:=aC.L1.Y0
def aC.L1.out:aC.L1.X→Out (Exit×AS):=fun x=> .ok (aC.L1.bE x)
def aC.L1.add:aC.L1.D→aC.L1.Y→aC.L1.X:=fun(n_2,t42,t43,t44,o0L_2,o1_3,o2_3) y=>((n_2,o0L_2,o2_3),y)
abbrev aC.D:=Nat×(List (bY×dB))×(List cr)
def aC.st:aC.D→SA:=fun(o0baL,o1,o2)=>([.ptr (.cG 0) 0 [] 0],[.obj 0 false (.pr (.dn (.cG 1) 0) (.pr (.bp (.cG 2) 0 [] 0 0 o0baL) (.d .unit ()))),.obj 0 false (.mp bD eJ o1),.obj 0 false (.vec 161 cD o2)])
abbrev aC.Y:=Bool×Nat×(List (bY×dB))×(List cr)
abbrev aC.X:=Bool×Nat×(List (bY×dB))×(List cr)
def aC.out:aC.X→aX:=fun x=>⟨.d .bool x.1,[.obj 0 false (.pr (.dn (.cG 1) 0) (.pr (.bp (.cG 2) 0 [] 0 0 x.2.1) (.d .unit ()))),.obj 0 false (.mp bD eJ x.2.2.1),.obj 0 false (.vec 161 cD x.2.2.2)],[]⟩
def aC.add:aC.D→aC.Y→aC.X:=fun(o0baL,o1,o2) y=>y
def jU(l:List bY)(a:List (bY×dB)):List (bY×dB):=l.foldl (fun m o=>fe bD o m) a
def rW(l:List ug)(a:List (bY×dB)):List (bY×dB):=l.foldl (fun m e=>ef bD e.1 e.2.1 m) a
def lz(a:List (bY×dB))(st:cr):List (bY×dB):=rW st.1 (jU st.2.1 a)
def aC.L0.az:aC.L0.D→Prop:=fun(_,l,n,i,_,_,_)=>l.length≤1000∧∃k:Nat,k≤l.length∧i=k∧n=l.length
def aC.L0.F:aC.L0.D→aC.L0.Y:=fun(_,l,_,i,_,a,_)=>jU (l.drop i.toNat) a
def aC.L1.az:aC.L1.D→Prop:=fun(_,l,n,i,_,_,_)=>l.length≤1000∧∃k:Nat,k≤l.length∧i=k∧n=l.length
def aC.L1.F:aC.L1.D→aC.L1.Y:=fun(_,l,_,i,_,a,_)=>rW (l.drop i.toNat) a
def y9(st:cr):Prop:=st.1.length≤1000∧st.2.1.length≤1000
def aC.az:aC.D→Prop:=fun(n,_,s)=>n≤s.length∧s.length≤1000000∧∀st∈s,y9 st
def aC.F:aC.D→aC.Y:=fun(n,a,s)=>if n=0 then(false,n,a,s) else(true,n - 1,lz a (nth cD s (n - 1)),s)
noncomputable def aC.G:dG:=eT (P:=Tryz.prog) []
noncomputable def aC.L0.E:=bW.cM aC.L0.st aC.L0.az aC.L0.add aC.L0.F aC.L0.out
noncomputable def aC.L0.call:aC.L0.D→Option aC.L0.X:=dF aC.L0.E aC.L0.st
noncomputable def aC.L1.E:=bW.cM aC.L1.st aC.L1.az aC.L1.add aC.L1.F aC.L1.out
noncomputable def aC.L1.call:aC.L1.D→Option aC.L1.X:=dF aC.L1.E aC.L1.st
noncomputable def aC.an:dX:= {loops:=l7 [(5,{bn:=[0,3,23,24,25]}),(10,{bn:=[0,3,42,43,44]})],outs:=l6 [(5,{bn:=[0,3]},{bn:=[2]}),(10,{bn:=[0,3]},{bn:=[2]})],fK:=mU [(5,aC.L0.E),(10,aC.L1.E)]}
noncomputable def aC.A:= @cR Tryz.prog aC.G aC.an 0 Tryz.f37 _ aC.st
abbrev aC.Ok:=cS @aC.A aC.az aC.add aC.F aC.out
noncomputable def aC.L0.R:= @cz Tryz.prog aC.G aC.an 0 Tryz.f37 0 _ aC.L0.st
abbrev aC.L0.Ok:=eK Tryz.prog aC.G aC.an 0 Tryz.f37 0 aC.L0.st aC.L0.az aC.L0.add aC.L0.F aC.L0.out
noncomputable def aC.L1.R:= @cz Tryz.prog aC.G aC.an 0 Tryz.f37 1 _ aC.L1.st
abbrev aC.L1.Ok:=eK Tryz.prog aC.G aC.an 0 Tryz.f37 1 aC.L1.st aC.L1.az aC.L1.add aC.L1.F aC.L1.out
theorem aC.L0.run:bK aC.L0.call aC.L0.az aC.L0.add aC.L0.F:=eU (eQ [.d ti,.d (.slice bD),.d ti,.d ti,.n,.d (.slice (.pair bD eJ)),.d (.slice cD)] fun _=>by kernel_rfl)
theorem aC.L0.aK:fZ @aC.L0.R aC.L0.st aC.L0.az aC.L0.add aC.L0.F aC.L0.bE aC.L0.Ok:=gv
theorem aC.L0.step{R:Type}(n:Int)(t23:(List bY))(t24:Int)(t25:Int)(o0L:Nat)(o1_2:(List (bY×dB)))(o2_2:(List cr))(kn:AS→Option R)(kx:Exit→AS→Option R):aC.L0.R (n,t23,t24,t25,o0L,o1_2,o2_2) kn kx=
  aP ((gE t25 t24)) (
   aP (fo t25 (((List.length t23):Nat):Int)) (
   kn (aC.L0.st (n,t23,t24,(b8 .i64 t25 (1:Int)),o0L,(fe bD (nth bD t23 (Int.toNat t25)) o1_2),o2_2))) none) (
   kx (aC.L0.bE ((n,o0L,o2_2),o1_2)).1 (aC.L0.bE ((n,o0L,o2_2),o1_2)).2):=by kernel_rfl
theorem aC.L1.run:bK aC.L1.call aC.L1.az aC.L1.add aC.L1.F:=eU (eQ [.d ti,.d (.slice Af),.d ti,.d ti,.n,.d (.slice (.pair bD eJ)),.d (.slice cD)] fun _=>by kernel_rfl)
theorem aC.L1.aK:fZ @aC.L1.R aC.L1.st aC.L1.az aC.L1.add aC.L1.F aC.L1.bE aC.L1.Ok:=gv
theorem aC.L1.step{R:Type}(n_2:Int)(t42:(List ug))(t43:Int)(t44:Int)(o0L_2:Nat)(o1_3:(List (bY×dB)))(o2_3:(List cr))(kn:AS→Option R)(kx:Exit→AS→Option R):aC.L1.R (n_2,t42,t43,t44,o0L_2,o1_3,o2_3) kn kx=
  aP ((gE t44 t43)) (
   aP (fo t44 (((List.length t42):Nat):Int)) (
   kn (aC.L1.st (n_2,t42,t43,(b8 .i64 t44 (1:Int)),o0L_2,(ef bD (nth Af t42 (Int.toNat t44)).1 (nth Af t42 (Int.toNat t44)).2.1 o1_3),o2_3))) none) (
   kx (aC.L1.bE ((n_2,o0L_2,o2_3),o1_3)).1 (aC.L1.bE ((n_2,o0L_2,o2_3),o1_3)).2):=by kernel_rfl
theorem aC.eq{R:Type}(o0baL:Nat)(o1:(List (bY×dB)))(o2:(List cr))(k:aX→Option R):aC.A (o0baL,o1,o2) k=
  aP ((gE (cI .i64 ((o0baL:Nat):Int) (1:Int)) (0:Int))) (
   k (aC.out (false,o0baL,o1,o2))) (
   aP (fo (cI .i64 ((o0baL:Nat):Int) (1:Int)) ((o0baL:Nat):Int)) (
   aP (decide ((0+(Int.toNat (cI .i64 ((o0baL:Nat):Int) (1:Int)))) < (List.length o2))) (
   aP (decide ((((0+(Int.toNat (cI .i64 ((o0baL:Nat):Int) (1:Int))))*2)+1)=((0+((Int.toNat (cI .i64 ((o0baL:Nat):Int) (1:Int)))*2))+1))) (
   au (aC.L0.call ((cI .i64 ((o0baL:Nat):Int) (1:Int)),(nth cD o2 (0+(Int.toNat (cI .i64 ((o0baL:Nat):Int) (1:Int))))).2.1,(((List.length (nth cD o2 (0+(Int.toNat (cI .i64 ((o0baL:Nat):Int) (1:Int))))).2.1):Nat):Int),(0:Int),o0baL,o1,o2)) fun x1=>
   aP (fo x1.1.1 ((x1.1.2.1:Nat):Int)) (
   aP (decide ((0+(Int.toNat x1.1.1)) < (List.length x1.1.2.2))) (
   aP (decide ((((0+(Int.toNat x1.1.1))*2)+0)=((0+((Int.toNat x1.1.1)*2))+0))) (
   au (aC.L1.call (x1.1.1,(nth cD x1.1.2.2 (0+(Int.toNat x1.1.1))).1,(((List.length (nth cD x1.1.2.2 (0+(Int.toNat x1.1.1))).1):Nat):Int),(0:Int),x1.1.2.1,x1.2,x1.1.2.2)) fun x2=>
   aP (inc x2.1.1 ((x2.1.2.1:Nat):Int)) (
   k (aC.out (true,((Int.toNat x2.1.1) - 0),x2.2,x2.1.2.2))) none) none) none) none) none) none) none):=by kernel_rfl
theorem aC.L0.ok:aC.L0.Ok:=by
 refine aC.L0.aK (fun(_,l,_,i,_,_,_)=>l.length - i.toNat) ?_
 rintro⟨u,l,n,i,o,a,s⟩ ⟨hl,k,hk,rfl,rfl⟩
 have hl:l.length≤1000:=hl
 have hk:k≤l.length:=hk
 by_cases hlt:k < l.length
 ·left
  have n1:nth bD l k=l[k]:=cX (t:=bD) hlt
  have hd:l.drop k=l[k]::l.drop (k+1):=List.drop_eq_getElem_cons hlt
  refine⟨(u,l,(l.length:Int),((k+1:Nat):Int),o,jU [l[k]] a,s),⟨hl,k+1,by omega,rfl,rfl⟩,by simp only[Int.toNat_natCast];omega,?_,fun kn kx=> ?_⟩
  ·simp only[aC.L0.add,aC.L0.F,Int.toNat_natCast,hd,jU,List.foldl_cons,List.foldl_nil]
  ·rw[aC.L0.step,bq (by omega),ak,bu (by omega) (by omega),ak,Int.toNat_natCast,n1,N.nj (by omega)]
   rfl
 ·right
  obtain rfl:k=l.length:=by omega
  intro R kn kx
  rw[aC.L0.step,bm (by omega),aw]
  simp only[aC.L0.add,aC.L0.F,Int.toNat_natCast,List.drop_length,jU,List.foldl_nil]
theorem aC.L1.ok:aC.L1.Ok:=by
 refine aC.L1.aK (fun(_,l,_,i,_,_,_)=>l.length - i.toNat) ?_
 rintro⟨u,l,n,i,o,a,s⟩ ⟨hl,k,hk,rfl,rfl⟩
 have hl:l.length≤1000:=hl
 have hk:k≤l.length:=hk
 by_cases hlt:k < l.length
 ·left
  have n1:nth Af l k=l[k]:=cX (t:=Af) hlt
  have hd:l.drop k=l[k]::l.drop (k+1):=List.drop_eq_getElem_cons hlt
  refine⟨(u,l,(l.length:Int),((k+1:Nat):Int),o,rW [l[k]] a,s),⟨hl,k+1,by omega,rfl,rfl⟩,by simp only[Int.toNat_natCast];omega,?_,fun kn kx=> ?_⟩
  ·simp only[aC.L1.add,aC.L1.F,Int.toNat_natCast,hd,rW,List.foldl_cons,List.foldl_nil]
  ·rw[aC.L1.step,bq (by omega),ak,bu (by omega) (by omega),ak,Int.toNat_natCast,n1,N.nj (by omega)]
   rfl
 ·right
  obtain rfl:k=l.length:=by omega
  intro R kn kx
  rw[aC.L1.step,bm (by omega),aw]
  simp only[aC.L1.add,aC.L1.F,Int.toNat_natCast,List.drop_length,rW,List.foldl_nil]
theorem aC.ok:aC.Ok:=by
 rintro⟨n,a,s⟩ ⟨h1,h2,h3⟩
 have h1:n≤s.length:=h1
 have h2:s.length≤1000000:=h2
 have h3:∀st∈s,y9 st:=h3
 rw[aC.eq]
 simp only[aC.add,aC.F]
 cases n with
 |zero=>
  rw[bq (by decide),ak]
  rfl
 |succ m=>
  have e1:cI .i64 (((m+1:Nat):Nat):Int) (1:Int)=(m:Int):=by rw[dT (by omega) (by omega)];omega
  have hm:m < s.length:=by omega
  have n1:nth cD s m=s[m]:=cX (t:=cD) hm
  have hs:=h3 _ (List.getElem_mem hm)
  rw[e1,bm (by omega),aw,bu (by omega) (by omega),ak]
  simp only[Int.toNat_natCast,Nat.zero_add,Nat.add_zero,aW hm,ak,decide_true,n1]
  rw[aC.L0.run (d:=((m:Int),s[m].2.1,(s[m].2.1.length:Int),0,m+1,a,s)) ⟨hs.2,0,Nat.zero_le _,rfl,rfl⟩]
  simp only[aa,aC.L0.add,aC.L0.F,Int.toNat_zero,List.drop_zero]
  rw[bu (by omega) (by omega),ak]
  simp only[Int.toNat_natCast,Nat.zero_add,Nat.add_zero,aW hm,ak,decide_true,n1]
  rw[aC.L1.run (d:=((m:Int),s[m].1,(s[m].1.length:Int),0,m+1,jU s[m].2.1 a,s)) ⟨hs.1,0,Nat.zero_le _,rfl,rfl⟩]
  simp only[aa,aC.L1.add,aC.L1.F,Int.toNat_zero,List.drop_zero]
  rw[lp (by omega) (by omega),ak,if_neg (by omega)]
  simp only[Int.toNat_natCast,Nat.sub_zero,Nat.add_sub_cancel,n1,lz]
noncomputable def aC.E:=Entry.cM [none] aC.st aC.az aC.add aC.F aC.out
noncomputable def aC.call:aC.D→Option aC.X:=bP aC.E aC.st
theorem aC.run:bK aC.call aC.az aC.add aC.F:=de (cW [.n,.d (.slice (.pair bD eJ)),.d (.slice cD)] fun _=>by kernel_rfl)
noncomputable def aC.sg:SG Tryz.prog:=⟨37,aV,aC.E,.fn 2 (by kernel_rfl) aC.ok (And.intro (.cM aC.L0.ok (by kernel_rfl)) (And.intro (.cM aC.L1.ok (by kernel_rfl)) trivial))⟩
abbrev aB.L0.D:=Int×fg×(List bY)×Int×Int×Nat×(List (bY×dB))×(List cr)×Nat×((List bY)×Unit)×(List ug)
def aB.L0.st:aB.L0.D→AS:=fun(height_2,t_2,t28,t29,t30,o0L,o1_2,o2_2,n9L,n9,n45)=>⟨([.ptr (.cG 0) 0 [] 0,.undef,.d ti height_2,.undef,.eH jz t_2]++bl 4 ([.ptr (.new 9 0) 0 [] 0]++bl 18 ([.d (.slice bD) t28,.d ti t29,.d ti t30]++bl 54 []))),[.obj 0 false (.pr (.dn (.cG 1) 0) (.pr (.bp (.cG 2) 0 [] 0 0 o0L) (.d .unit ()))),.obj 0 false (.mp bD eJ o1_2),.obj 0 false (.vec 161 cD o2_2)],(cj 9 ([[.obj 0 false (.pr (.bp (.new 45 0) 0 [] 0 0 n9L) (.d (.pair (.slice bD) .unit) n9))]]++cj 35 ([[.obj 0 false (.vec 163 Af n45)]]++cj 39 [])))⟩
abbrev aB.L0.Y0:=(List (bY×dB))×Nat×(List ug)
abbrev aB.L0.X0:=(Int×fg×Nat×(List cr)×((List bY)×Unit))×((List (bY×dB))×Nat×(List ug))
def aB.L0.bE:aB.L0.X0→Exit×AS:=fun x=>(.exit 0,⟨([.ptr (.cG 0) 0 [] 0,.undef,.d ti x.1.1,.undef,.eH jz x.1.2.1]++bl 4 ([.ptr (.new 9 0) 0 [] 0]++bl 75 [])),[.obj 0 false (.pr (.dn (.cG 1) 0) (.pr (.bp (.cG 2) 0 [] 0 0 x.1.2.2.1) (.d .unit ()))),.obj 0 false (.mp bD eJ x.2.1),.obj 0 false (.vec 161 cD x.1.2.2.2.1)],(cj 9 ([[.obj 0 false (.pr (.bp (.new 45 0) 0 [] 0 0 x.2.2.1) (.d (.pair (.slice bD) .unit) x.1.2.2.2.2))]]++cj 35 ([[.obj 0 false (.vec 163 Af x.2.2.2)]]++cj 39 [])))⟩)
abbrev aB.L0.X:=aB.L0.X0
abbrev aB.L0.Y:=aB.L0.Y0
def aB.L0.out:aB.L0.X→Out (Exit×AS):=fun x=> .ok (aB.L0.bE x)
def aB.L0.add:aB.L0.D→aB.L0.Y→aB.L0.X:=fun(height_2,t_2,t28,t29,t30,o0L,o1_2,o2_2,n9L,n9,n45) y=>((height_2,t_2,o0L,o2_2,n9),y)
abbrev aB.L1.D:=Int×fg×(List bY)×Int×Int×Nat×(List (bY×dB))×(List cr)×Nat×((List bY)×Unit)×(List ug)
def aB.L1.st:aB.L1.D→AS:=fun(height_3,t_3,t54,t55,t56,o0L_2,o1_3,o2_3,n9L_2,n9_2,n45_2)=>⟨([.ptr (.cG 0) 0 [] 0,.undef,.d ti height_3,.undef,.eH jz t_3]++bl 4 ([.ptr (.new 9 0) 0 [] 0]++bl 44 ([.d (.slice bD) t54,.d ti t55,.d ti t56]++bl 28 []))),[.obj 0 false (.pr (.dn (.cG 1) 0) (.pr (.bp (.cG 2) 0 [] 0 0 o0L_2) (.d .unit ()))),.obj 0 false (.mp bD eJ o1_3),.obj 0 false (.vec 161 cD o2_3)],(cj 9 ([[.obj 0 false (.pr (.bp (.new 45 0) 0 [] 0 0 n9L_2) (.d (.pair (.slice bD) .unit) n9_2))]]++cj 35 ([[.obj 0 false (.vec 163 Af n45_2)]]++cj 39 [])))⟩
abbrev aB.L1.Y0:=(List (bY×dB))
abbrev aB.L1.X0:=(Nat×(List cr)×Nat×((List bY)×Unit)×(List ug))×((List (bY×dB)))
def aB.L1.bE:aB.L1.X0→Exit×AS:=fun x=>(.exit 2,⟨([.ptr (.cG 0) 0 [] 0]++bl 8 ([.ptr (.new 9 0) 0 [] 0]++bl 75 [])),[.obj 0 false (.pr (.dn (.cG 1) 0) (.pr (.bp (.cG 2) 0 [] 0 0 x.1.1) (.d .unit ()))),.obj 0 false (.mp bD eJ x.2),.obj 0 false (.vec 161 cD x.1.2.1)],(cj 9 ([[.obj 0 false (.pr (.bp (.new 45 0) 0 [] 0 0 x.1.2.2.1) (.d (.pair (.slice bD) .unit) x.1.2.2.2.1))]]++cj 35 ([[.obj 0 false (.vec 163 Af x.1.2.2.2.2)]]++cj 39 [])))⟩)
abbrev aB.L1.X:=aB.L1.X0
abbrev aB.L1.Y:=aB.L1.Y0
def aB.L1.out:aB.L1.X→Out (Exit×AS):=fun x=> .ok (aB.L1.bE x)
def aB.L1.add:aB.L1.D→aB.L1.Y→aB.L1.X:=fun(height_3,t_3,t54,t55,t56,o0L_2,o1_3,o2_3,n9L_2,n9_2,n45_2) y=>((o0L_2,o2_3,n9L_2,n9_2,n45_2),y)
abbrev aB.D:=fg×Int×Nat×(List (bY×dB))×(List cr)
def aB.st:aB.D→SA:=fun(t,height,o0baL,o1,o2)=>([.ptr (.cG 0) 0 [] 0,.d jz t,.d ti height],[.obj 0 false (.pr (.dn (.cG 1) 0) (.pr (.bp (.cG 2) 0 [] 0 0 o0baL) (.d .unit ()))),.obj 0 false (.mp bD eJ o1),.obj 0 false (.vec 161 cD o2)])
abbrev aB.Y:=(Int×Nat×(List (bY×dB))×(List cr))⊕(Int×Nat×(List (bY×dB))×(List cr))
abbrev aB.X:=(Int×Nat×(List (bY×dB))×(List cr))⊕(Int×Nat×(List (bY×dB))×(List cr))
def aB.out:aB.X→aX:=fun x=>match x with | .inl x=>⟨.d ti x.1,[.obj 0 false (.pr (.dn (.cG 1) 0) (.pr (.bp (.cG 2) 0 [] 0 0 x.2.1) (.d .unit ()))),.obj 0 false (.mp bD eJ x.2.2.1),.obj 0 false (.vec 161 cD x.2.2.2)],[]⟩ | .inr x=>⟨.d ti x.1,[.obj 0 false (.pr (.dn (.cG 1) 0) (.pr (.bp (.cG 2) 1 [] 0 0 x.2.1) (.d .unit ()))),.obj 0 false (.mp bD eJ x.2.2.1),.obj 1 false (.vec 161 cD x.2.2.2)],[]⟩
def aB.add:aB.D→aB.Y→aB.X:=fun(t,height,o0baL,o1,o2) y=>match y with | .inl y=> .inl y | .inr y=> .inr y
def kE(a:List (bY×dB)):List bY→List ug
 |[]=> []
 |o::l=>(o,((bQ bD o a).getD uf,()))::kE (fe bD o a) l
def nC(h:Int):List bY→List fc→List (bY×dB)→List (bY×dB)
 |o::l,x::xs,a=>nC h l xs (ef bD o (x,(h,())) a)
 |_,_,a=>a
def stepOf(t:fg)(a:List (bY×dB)):cr:=(kE a (cT t),(ea t,()))
def eO(t:fg)(h:Int)(a:List (bY×dB)):List (bY×dB):=nC h (ea t) t.2.1 (jU (cT t) a)
def aB.L0.az:aB.L0.D→Prop:=fun(_,_,l,n,i,_,_,_,gL,_,g)=>l.length≤1000∧∃k:Nat,k≤l.length∧i=k∧n=l.length∧gL=g.length∧g.length=k
def aB.L0.F:aB.L0.D→aB.L0.Y:=fun(_,_,l,_,i,_,a,_,gL,_,g)=>(jU (l.drop i.toNat) a,gL+(l.drop i.toNat).length,g++kE a (l.drop i.toNat))
def aB.L1.az:aB.L1.D→Prop:=fun(_,t,l,n,i,_,_,_,_,_,_)=>l.length≤1000∧l.length=t.2.1.length∧(∀o∈t.2.1,Fw o.2.1)∧∃k:Nat,k≤l.length∧i=k∧n=l.length
def aB.L1.F:aB.L1.D→aB.L1.Y:=fun(h,t,l,_,i,_,a,_,_,_,_)=>nC h (l.drop i.toNat) (t.2.1.drop i.toNat) a
def aB.az:aB.D→Prop:=fun(t,_,n,a,s)=>ni t∧qN a∧n≤s.length∧s.length≤1000000
def aB.F:aB.D→aB.Y:=fun(t,h,n,a,s)=>if(dJ t h a).2≠0 then .inl ((dJ t h a).2,n,a,s) else .inr (0,n+1,eO t h a,s.take n++ [stepOf t a])
noncomputable def aB.G:dG:=eT (P:=Tryz.prog) [ao.sg,ba.sg,aF.sg,bN.sg]
noncomputable def aB.L0.E:=bW.cM aB.L0.st aB.L0.az aB.L0.add aB.L0.F aB.L0.out
noncomputable def aB.L0.call:aB.L0.D→Option aB.L0.X:=dF aB.L0.E aB.L0.st
noncomputable def aB.L1.E:=bW.cM aB.L1.st aB.L1.az aB.L1.add aB.L1.F aB.L1.out
noncomputable def aB.L1.call:aB.L1.D→Option aB.L1.X:=dF aB.L1.E aB.L1.st
noncomputable def aB.an:dX:= {loops:=l7 [(6,{bn:=[0,2,4,9,28,29,30],sites:=[9,45],kk:=[⟨9,[.fst],45,159⟩]}),(12,{bn:=[0,2,4,9,54,55,56],sites:=[9,45]})],outs:=l6 [(6,{bn:=[0,2,4,9],sites:=[9,45]},{bn:=[6]}),(12,{bn:=[0,9],sites:=[9,45]},{bn:=[6]})],fK:=mU [(6,aB.L0.E),(12,aB.L1.E)]}
noncomputable def aB.A:= @cR Tryz.prog aB.G aB.an 0 Tryz.f30 _ aB.st
abbrev aB.Ok:=cS @aB.A aB.az aB.add aB.F aB.out
noncomputable def aB.L0.R:= @cz Tryz.prog aB.G aB.an 0 Tryz.f30 0 _ aB.L0.st
abbrev aB.L0.Ok:=eK Tryz.prog aB.G aB.an 0 Tryz.f30 0 aB.L0.st aB.L0.az aB.L0.add aB.L0.F aB.L0.out
noncomputable def aB.L1.R:= @cz Tryz.prog aB.G aB.an 0 Tryz.f30 1 _ aB.L1.st
abbrev aB.L1.Ok:=eK Tryz.prog aB.G aB.an 0 Tryz.f30 1 aB.L1.st aB.L1.az aB.L1.add aB.L1.F aB.L1.out
theorem aB.L0.run:bK aB.L0.call aB.L0.az aB.L0.add aB.L0.F:=eU (eQ [.d ti,.d jz,.d (.slice bD),.d ti,.d ti,.n,.d (.slice (.pair bD eJ)),.d (.slice cD),.n,.d (.pair (.slice bD) .unit),.d (.slice Af)] fun _=>by kernel_rfl)
theorem aB.L0.aK:fZ @aB.L0.R aB.L0.st aB.L0.az aB.L0.add aB.L0.F aB.L0.bE aB.L0.Ok:=gv
theorem aB.L0.step{R:Type}(height_2:Int)(t_2:fg)(t28:(List bY))(t29:Int)(t30:Int)(o0L:Nat)(o1_2:(List (bY×dB)))(o2_2:(List cr))(n9L:Nat)(n9:((List bY)×Unit))(n45:(List ug))(kn:AS→Option R)(kx:Exit→AS→Option R):aB.L0.R (height_2,t_2,t28,t29,t30,o0L,o1_2,o2_2,n9L,n9,n45) kn kx=
  aP ((gE t30 t29)) (
   aP (fo t30 (((List.length t28):Nat):Int)) (
   aP (decide (n9L≤(List.length n45))) (
   aP (dw (n9L+1) 80) (
   kn (aB.L0.st (height_2,t_2,t28,t29,(b8 .i64 t30 (1:Int)),o0L,(fe bD (nth bD t28 (Int.toNat t30)) o1_2),o2_2,(n9L+1),n9,((List.take n9L n45)++ [((nth bD t28 (Int.toNat t30)),(((bQ bD (nth bD t28 (Int.toNat t30)) o1_2).getD (((0:Int),((([]:List jN),()),())),((0:Int),()))),()))])))) none) none) none) (
   kx (aB.L0.bE ((height_2,t_2,o0L,o2_2,n9),(o1_2,n9L,n45))).1 (aB.L0.bE ((height_2,t_2,o0L,o2_2,n9),(o1_2,n9L,n45))).2):=by kernel_rfl
theorem aB.L1.run:bK aB.L1.call aB.L1.az aB.L1.add aB.L1.F:=eU (eQ [.d ti,.d jz,.d (.slice bD),.d ti,.d ti,.n,.d (.slice (.pair bD eJ)),.d (.slice cD),.n,.d (.pair (.slice bD) .unit),.d (.slice Af)] fun _=>by kernel_rfl)
theorem aB.L1.aK:fZ @aB.L1.R aB.L1.st aB.L1.az aB.L1.add aB.L1.F aB.L1.bE aB.L1.Ok:=gv
theorem aB.L1.step{R:Type}(height_3:Int)(t_3:fg)(t54:(List bY))(t55:Int)(t56:Int)(o0L_2:Nat)(o1_3:(List (bY×dB)))(o2_3:(List cr))(n9L_2:Nat)(n9_2:((List bY)×Unit))(n45_2:(List ug))(kn:AS→Option R)(kx:Exit→AS→Option R):aB.L1.R (height_3,t_3,t54,t55,t56,o0L_2,o1_3,o2_3,n9L_2,n9_2,n45_2) kn kx=
  aP ((gE t56 t55)) (
   aP (fo t56 (((List.length t54):Nat):Int)) (
   aP (fo t56 (((List.length t_3.2.1):Nat):Int)) (
   au (bN.call (nth fA t_3.2.1 (Int.toNat t56))) fun x1=>
   kn (aB.L1.st (height_3,t_3,t54,t55,(b8 .i64 t56 (1:Int)),o0L_2,(ef bD (nth bD t54 (Int.toNat t56)) (x1,(height_3,())) o1_3),o2_3,n9L_2,n9_2,n45_2))) none) none) (
   kx (aB.L1.bE ((o0L_2,o2_3,n9L_2,n9_2,n45_2),o1_3)).1 (aB.L1.bE ((o0L_2,o2_3,n9L_2,n9_2,n45_2),o1_3)).2):=by kernel_rfl
theorem aB.eq{R:Type}(t:fg)(height:Int)(o0baL:Nat)(o1:(List (bY×dB)))(o2:(List cr))(k:aX→Option R):aB.A (t,height,o0baL,o1,o2) k=
  au (ao.call (t,height,o0baL,o1,o2)) fun x1=>
  aP ((tJ x1.2.1 (0:Int))) (
   k (aB.out (.inl (x1.2.1,x1.2.2.1,x1.2.2.2.1,x1.2.2.2.2)))) (
   au (ba.call t) fun x2=>
   au (aF.call t) fun x3=>
   au (aB.L0.call (height,t,x3,(((List.length x3):Nat):Int),(0:Int),x1.2.2.1,x1.2.2.2.1,x1.2.2.2.2,0,(x2,()),([]:List ug))) fun x4=>
   au (aB.L1.call (x4.1.1,x4.1.2.1,x4.1.2.2.2.2.1,(((List.length x4.1.2.2.2.2.1):Nat):Int),(0:Int),x4.1.2.2.1,x4.2.1,x4.1.2.2.2.1,x4.2.2.1,x4.1.2.2.2.2,x4.2.2.2)) fun x6=>
   aP (decide (0=0∧(0+x6.1.2.2.1)≤(List.length x6.1.2.2.2.2))) (
   aP (decide (x6.1.1≤(List.length x6.1.2.1))) (
   aP (dw (x6.1.1+1) 48) (
   k (aB.out (.inr ((0:Int),(x6.1.1+1),x6.2,((List.take x6.1.1 x6.1.2.1)++ [((cut x6.1.2.2.2.2 0 x6.1.2.2.1),x6.1.2.2.2.1)]))))) none) none) none):=by kernel_rfl
theorem aB.L0.ok:aB.L0.Ok:=by
 refine aB.L0.aK (fun(_,_,l,_,i,_,_,_,_,_,_)=>l.length - i.toNat) ?_
 rintro⟨h,t,l,n,i,o,a,s,gL,u,g⟩ ⟨hl,k,hk,rfl,rfl,rfl,hg⟩
 have hl:l.length≤1000:=hl
 have hk:k≤l.length:=hk
 have hg:g.length=k:=hg
 by_cases hlt:k < l.length
 ·left
  have n1:nth bD l k=l[k]:=cX (t:=bD) hlt
  have hd:l.drop k=l[k]::l.drop (k+1):=List.drop_eq_getElem_cons hlt
  refine⟨(h,t,l,(l.length:Int),((k+1:Nat):Int),o,fe bD l[k] a,s,g.length+1,u,g++ [(l[k],((bQ bD l[k] a).getD uf,()))]),⟨hl,k+1,by omega,rfl,rfl,by simp,by simp[hg]⟩,by simp only[Int.toNat_natCast];omega,?_,fun kn kx=> ?_⟩
  ·simp only[aB.L0.add,aB.L0.F,Int.toNat_natCast,hd,jU,List.foldl_cons,kE,List.append_assoc,List.singleton_append,List.length_cons]
   rw[show g.length+1+(l.drop (k+1)).length=g.length+((l.drop (k+1)).length+1) by omega]
  ·rw[aB.L0.step,bq (by omega),ak,bu (by omega) (by omega),ak,aW (Nat.le_refl _),ak,eG (by omega) (by omega),ak,Int.toNat_natCast,n1,N.nj (by omega),List.take_length]
   rfl
 ·right
  obtain rfl:k=l.length:=by omega
  intro R kn kx
  rw[aB.L0.step,bm (by omega),aw]
  simp only[aB.L0.add,aB.L0.F,Int.toNat_natCast,List.drop_length,jU,List.foldl_nil,kE,List.append_nil,List.length_nil,Nat.add_zero]
theorem aB.L1.ok:aB.L1.Ok:=by
 refine aB.L1.aK (fun(_,_,l,_,i,_,_,_,_,_,_)=>l.length - i.toNat) ?_
 rintro⟨h,t,l,n,i,o,a,s,gL,u,g⟩ ⟨hl,he,hb,k,hk,rfl,rfl⟩
 have hl:l.length≤1000:=hl
 have he:l.length=t.2.1.length:=he
 have hk:k≤l.length:=hk
 by_cases hlt:k < l.length
 ·left
  have hlt2:k < t.2.1.length:=by omega
  have n1:nth bD l k=l[k]:=cX (t:=bD) hlt
  have n2:nth fA t.2.1 k=t.2.1[k]:=cX (t:=fA) hlt2
  have hd:l.drop k=l[k]::l.drop (k+1):=List.drop_eq_getElem_cons hlt
  have hd2:t.2.1.drop k=t.2.1[k]::t.2.1.drop (k+1):=List.drop_eq_getElem_cons hlt2
  refine⟨(h,t,l,(l.length:Int),((k+1:Nat):Int),o,ef bD l[k] (t.2.1[k],(h,())) a,s,gL,u,g),⟨hl,he,hb,k+1,by omega,rfl,rfl⟩,by simp only[Int.toNat_natCast];omega,?_,fun kn kx=> ?_⟩
  ·simp only[aB.L1.add,aB.L1.F,Int.toNat_natCast,hd,hd2,nC]
  ·rw[aB.L1.step,bq (by omega),ak,bu (by omega) (by omega),ak,bu (by omega) (by omega),ak,Int.toNat_natCast,n1,n2,bN.run (d:=t.2.1[k]) (hb _ (List.getElem_mem hlt2))]
   simp only[aa,bN.add,bN.F]
   rw[N.nj (by omega)]
 ·right
  obtain rfl:k=l.length:=by omega
  intro R kn kx
  rw[aB.L1.step,bm (by omega),aw]
  simp only[aB.L1.add,aB.L1.F,Int.toNat_natCast,List.drop_length,nC]
theorem tq{t:fg}{h:Int}{a:List (bY×dB)}(e:(dJ t h a).2=0):fB t=true∧1≤h∧h≤1048576∧∃fS,iW h (lW t) a t.1 0= .inr fS∧(ea t).any (gw a)=false∧0≤fS - fw t.2.1∧dJ t h a=(fS - fw t.2.1,0):=by
 unfold dJ at e ⊢
 by_cases h0:fB t=true∧1≤h∧h≤1048576
 ·rw[if_pos h0]at e
  rw[if_pos h0]
  refine⟨h0.1,h0.2.1,h0.2.2,?_⟩
  cases hi:iW h (lW t) a t.1 0 with
  |inl x=>
   exfalso
   rw[hi]at e
   simp only at e
   subst e
   have key:∀(l:List gW) (f:Int),iW h (lW t) a l f≠ .inl 0:=by
    intro l
    induction l with
    |nil=>intro f hf;cases hf
    |cons x l ih=>
     intro f hf
     simp only[iW]at hf
     cases hg:bQ bD x.1 a with
     |none=>rw[hg]at hf;simp at hf
     |some c=>
      rw[hg]at hf
      simp only at hf
      split at hf
      ·rename_i hne;exact hne (by injection hf)
      ·exact ih _ hf
   exact key _ _ hi
  |inr fS=>
   rw[hi]at e
   simp only at e ⊢
   by_cases hm:(ea t).any (gw a)=true
   ·rw[if_pos hm]at e;cases e
   ·rw[if_neg hm]at e
    rw[if_neg hm]
    by_cases hf:fS - fw t.2.1 < 0
    ·rw[if_pos hf]at e;cases e
    ·rw[if_neg hf]
     exact⟨fS,rfl,by simpa using hm,by omega,rfl⟩
 ·rw[if_neg h0]at e;cases e
theorem rC{t:fg}(h:fB t=true):(cT t).length=t.1.length:=by
 unfold cT
 rw[if_pos h,List.length_map]
theorem aB.ok:aB.Ok:=by
 rintro⟨t,h,n,a,s⟩ ⟨hv,ha,hn,hs⟩
 have hv:ni t:=hv
 have ha:qN a:=ha
 have hn:n≤s.length:=hn
 have hs:s.length≤1000000:=hs
 rw[aB.eq,ao.run (d:=(t,h,n,a,s)) ⟨hv,ha⟩]
 simp only[aa,ao.add,ao.F,aB.add,aB.F]
 by_cases he:(dJ t h a).2=0
 ·rw[eY he,aw,if_neg (fun e=>e he)]
  obtain⟨hok,_,_,_⟩:=tq he
  obtain⟨⟨_,a2,a3,_⟩,b1,b2⟩:=iJ hok
  rw[ba.run (d:=t) hv]
  simp only[aa,ba.add,ba.F]
  rw[aF.run (d:=t) hv.1]
  simp only[aa,aF.add,aF.F]
  rw[aB.L0.run (d:=(h,t,cT t,((cT t).length:Int),0,n,a,s,0,(ea t,()),[])) ⟨by rw[rC hok];omega,0,Nat.zero_le _,rfl,rfl,rfl,rfl⟩]
  simp only[aa,aB.L0.add,aB.L0.F,Int.toNat_zero,List.drop_zero,List.nil_append,Nat.zero_add]
  rw[aB.L1.run (d:=(h,t,ea t,((ea t).length:Int),0,n,jU (cT t) a,s,(cT t).length,(ea t,()),kE a (cT t))) ⟨by rw[iY hok];omega,iY hok,fun o ho=>by
   have:=rK (iZ _ _ b2 o ho).2
   exact⟨by omega,fun b hb=>by have:=this.2 b hb;omega⟩,0,Nat.zero_le _,rfl,rfl⟩]
  simp only[aa,aB.L1.add,aB.L1.F,Int.toNat_zero,List.drop_zero]
  have hgl:∀(l:List bY) (a:List (bY×dB)),(kE a l).length=l.length:=by
   intro l
   induction l with
   |nil=>intro a;rfl
   |cons o l ih=>intro a;simp[kE,ih]
  rw[aW (by rw[hgl];exact⟨trivial,by omega⟩),ak,aW hn,ak,eG (by omega) (by omega),ak,fm (hgl _ _)]
  rfl
 ·rw[gh he,ak,if_pos he]
noncomputable def aB.E:=Entry.CE [none,some jz,some ti] aB.st aB.az aB.add aB.F aB.out
noncomputable def aB.call:aB.D→Option aB.X:=bP aB.E aB.st
theorem aB.run:bK aB.call aB.az aB.add aB.F:=Dn (cW [.d jz,.d ti,.n,.d (.slice (.pair bD eJ)),.d (.slice cD)] fun _=>by kernel_rfl)
noncomputable def aB.sg:SG Tryz.prog:=⟨30,aV,aB.E,.Gg (.fn 2 (by kernel_rfl) aB.ok (And.intro (.cM aB.L0.ok (by kernel_rfl)) (And.intro (.cM aB.L1.ok (by kernel_rfl)) trivial)))⟩
set_option synthInstance.maxSize 5000
theorem BM(k:Int)(m:List Int):EF (fN k m):=by
 unfold fN
 split
 ·exact⟨(CX _).u,(yt _ _).u⟩
 ·exact⟨⟨Int.le_refl 0,by decide⟩,Int.le_refl 0,by decide⟩
theorem vR:∀(l l':List gW) (b:List Int),l.map (·.1)=l'.map (·.1)→l.foldl sI b=l'.foldl sI b
 |[],[],_,_=>rfl
 |[],_::_,_,h=>by cases h
 |_::_,[],_,h=>by cases h
 |x::l,y::l',b,h=>by
  rw[List.map_cons,List.map_cons,List.cons.injEq]at h
  have e:sI b x=sI b y:=by unfold sI;rw[h.1]
  rw[List.foldl_cons,List.foldl_cons,e,vR l l' _ h.2]
theorem zZ{l l':List gW}(t:List fc×Int×Unit)(h:l.map (·.1)=l'.map (·.1)):mA (l,t)=mA (l',t):=by
 have hl:l.length=l'.length:=by have:=congrArg List.length h;simpa using this
 unfold mA
 simp only[hl]
 rw[vR l l' _ h]
theorem v7:∀(l l':List gW) (m:List (bY×Bool)),l.map (·.1)=l'.map (·.1)→oF m l=true→(∀x∈l',me x.2.1=true)→oF m l'=true
 |[],[],_,_,_,_=>rfl
 |[],_::_,_,h,_,_=>by cases h
 |_::_,[],_,h,_,_=>by cases h
 |x::l,y::l',m,h,hi,hw=>by
  rw[List.map_cons,List.map_cons,List.cons.injEq]at h
  rw[oF,Bool.and_eq_true,Bool.and_eq_true]at hi ⊢
  have hx:=hi.1.2
  unfold ru at hx
  rw[Bool.and_eq_true]at hx
  refine⟨⟨?_,?_⟩,?_⟩
  ·have:=hi.1.1
   unfold pY at this ⊢
   rw[←h.1]
   exact this
  ·unfold ru
   rw[←h.1,hx.1,hw y List.mem_cons_self]
   rfl
  ·rw[←h.1]
   exact v7 l l' _ h.2 hi.2 fun z hz=>hw z (List.mem_cons_of_mem _ hz)
theorem B2{l l':List gW}{t:List fc×Int×Unit}(h:l.map (·.1)=l'.map (·.1))(hok:fB (l,t)=true)(hw:∀x∈l',me x.2.1=true):fB (l',t)=true:=by
 have hl:l.length=l'.length:=by have:=congrArg List.length h;simpa using this
 unfold fB va at hok ⊢
 rw[Bool.and_eq_true,Bool.and_eq_true]at hok ⊢
 simp only[hl]at hok
 exact⟨hok.1,v7 l l' _ h hok.2.1 hw,hok.2.2⟩
theorem y4{l l':List gW}{t:List fc×Int×Unit}(h:l.map (·.1)=l'.map (·.1))(h1:fB (l,t)=true)(h2:fB (l',t)=true):lW (l',t)=lW (l,t):=by
 unfold lW
 rw[h1,h2,zZ t h]
theorem yf{l l':List gW}{t:List fc×Int×Unit}(h:l.map (·.1)=l'.map (·.1))(h1:fB (l,t)=true)(h2:fB (l',t)=true):cT (l',t)=cT (l,t):=by
 unfold cT
 rw[h1,h2]
 exact h.symm
theorem Bm{l l':List gW}{t:List fc×Int×Unit}(h:l.map (·.1)=l'.map (·.1))(h1:fB (l,t)=true)(h2:fB (l',t)=true):ea (l',t)=ea (l,t):=by
 unfold ea
 rw[h1,h2,y4 h h1 h2]
def qu(t:fg)(k:Nat)(w:tf):fg:=(t.1.set k ((nth ik t.1 k).1,w,()),t.2)
theorem pb(l:List gW)(k:Nat)(w:tf)(h:k < l.length):l.map (·.1)=(l.set k ((nth ik l k).1,w,())).map (·.1):=by
 have n1:nth ik l k=l[k]:=cX (t:=ik) h
 rw[n1,List.map_set]
 have e:(l[k].1:bY)=(l.map (·.1))[k]'(by rw[List.length_map];exact h):=by rw[List.getElem_map]
 show _=(l.map (·.1)).set k l[k].1
 rw[e,List.set_getElem_self]
theorem wP{l:List gW}{k:Nat}{w:tf}{x:gW}(h:k < l.length)(hx:x∈l.set k ((nth ik l k).1,w,())):x∈l∨(x.1=l[k].1∧x.2.1=w):=by
 have n1:nth ik l k=l[k]:=cX (t:=ik) h
 rw[n1]at hx
 rcases List.mem_or_eq_of_mem_set hx with h1 | h1
 ·exact .inl h1
 ·exact .inr ⟨by rw[h1],by rw[h1]⟩
theorem qM{t:fg}{k:Nat}{w:tf}(h:k < t.1.length)(hok:fB t=true)(hw:me w=true):fB (qu t k w)=true:=by
 obtain⟨_,b1,_⟩:=iJ hok
 refine B2 (l:=t.1) (pb t.1 k w h) hok fun x hx=> ?_
 rcases wP h hx with h1 | h1
 ·have:=oG _ _ b1 x h1
  unfold ru at this
  rw[Bool.and_eq_true]at this
  exact this.2
 ·rw[h1.2];exact hw
theorem D4{t:fg}{k:Nat}{w:tf}(h:k < t.1.length)(hv:ni t)(hu:xg w)(hl:w.2.1.length≤9223372036854775807):ni (qu t k w):=by
 refine⟨⟨hv.1.1,by show(t.1.set k _).length≤_;rw[List.length_set];exact hv.1.2.1,hv.1.2.2⟩,fun x hx=> ?_,hv.2.2⟩
 rcases wP h hx with h1 | h1
 ·exact hv.2.1 x h1
 ·refine⟨?_,by rw[h1.2];exact hu,by rw[h1.2];exact hl⟩
  rw[h1.1]
  exact(hv.2.1 _ (List.getElem_mem h)).1
theorem CR{t:fg}{k:Nat}{w:tf}(h:k < t.1.length)(hok:fB t=true)(hw:me w=true):lW (qu t k w)=lW t∧cT (qu t k w)=cT t∧ea (qu t k w)=ea t:=
 ⟨y4 (l:=t.1) (pb t.1 k w h) hok (qM h hok hw),yf (l:=t.1) (pb t.1 k w h) hok (qM h hok hw),Bm (l:=t.1) (pb t.1 k w h) hok (qM h hok hw)⟩
def s9(t:fg)(br:Int)(ks:List Int)(sc:Int):tf:=(br,ks.map (fun k=>fN k (lW t)),sc,())
theorem BO(t:fg)(i br:Int)(ks:List Int)(sc:Int):BN t i br ks sc=if mF t i br ks then(qu t i.toNat (s9 t br ks sc),0) else(([],[],0,()),1):=rfl
theorem sm{t:fg}{i br:Int}{ks:List Int}(h:mF t i br ks=true):fB t=true∧(0≤i∧i < t.1.length∧0≤br∧br < 4∧ks.length≤12)∧∀k∈ks,k < 2305843009213688669∧k≠0:=by
 unfold mF at h
 simp only[Bool.and_eq_true,decide_eq_true_eq,Bool.not_eq_true']at h
 refine⟨h.1,h.2.1,fun k hk=> ?_⟩
 have:=h.2.2
 rw[List.any_eq_false]at this
 have:=this k hk
 unfold ou at this
 simpa using this
theorem CS{t:fg}{i br:Int}{ks:List Int}(sc:Int)(h:mF t i br ks=true):me (s9 t br ks sc)=true:=by
 have e:=(sm h).2.1
 unfold me s9
 rw[aW ⟨e.2.2.1,e.2.2.2.1⟩,aW (by rw[List.length_map];exact e.2.2.2.2)]
 rfl
theorem D7(t:fg)(br:Int)(ks:List Int){sc:Int}(h:gX sc):xg (s9 t br ks sc):=⟨fun s hs=>by
  obtain⟨k,_,rfl⟩:=List.mem_map.1 (show s∈ks.map fun k=>fN k (lW t) from hs)
  exact BM k _,h⟩
theorem BP{t:fg}{i br sc:Int}{ks:List Int}(hv:ni t)(h:mF t i br ks=true)(hs:gX sc):
  fB (qu t i.toNat (s9 t br ks sc))=true∧ni (qu t i.toNat (s9 t br ks sc))∧lW (qu t i.toNat (s9 t br ks sc))=lW t∧cT (qu t i.toNat (s9 t br ks sc))=cT t∧ea (qu t i.toNat (s9 t br ks sc))=ea t:=by
 obtain⟨hok,e,_⟩:=sm h
 have hk:i.toNat < t.1.length:=by omega
 have hw:=CS sc h
 exact⟨qM hk hok hw,D4 hk hv (D7 t br ks hs) (by show(ks.map _).length≤_;rw[List.length_map];omega),CR hk hok hw⟩
set_option synthInstance.maxSize 5000
def Fy(r:Es):Prop:=r.1.length≤1000000000∧Bytes r.1
set_option synthInstance.maxSize 5000
set_option synthInstance.maxSize 5000
structure Gp(b:jN):Prop where
 len:b.1.length≤12
 af:xc b.2.1
 dl:xc b.2.2.1
set_option synthInstance.maxSize 5000
set_option synthInstance.maxSize 5000
set_option synthInstance.maxSize 5000
def ED(r:Es):Prop:=Fy r∧(r.2.1=true→r.1=[])
def Ov(r r':Es)(e:List Int):Prop:=ED r'∧(r'.2.1=false→r.2.1=false∧r.1=e++r'.1)
theorem Ov.trans{r r1 r2:Es}{e1 e2:List Int}(h1:Ov r r1 e1)(h2:Ov r1 r2 e2):Ov r r2 (e1++e2):=
 ⟨h2.1,fun h=>⟨(h1.2 (h2.2 h).1).1,by rw[(h1.2 (h2.2 h).1).2,(h2.2 h).2,List.append_assoc]⟩⟩
theorem Ov.of{r r':Es}{e e':List Int}(h:Ov r r' e)(he:r'.2.1=false→e=e'):Ov r r' e':=⟨h.1,fun h'=>by rw[←he h'];exact h.2 h'⟩
theorem Ov.refl{r:Es}(h:ED r):Ov r r []:=⟨h,fun h'=>⟨h',rfl⟩⟩
set_option synthInstance.maxSize 5000
set_option synthInstance.maxSize 5000
set_option synthInstance.maxSize 5000
section
variable {β:Type} {kt:Ty}
theorem qD(hc:kt.comp=true)(o o':kt.den)(v:β):∀l:List (kt.den×β),bQ kt o (ef kt o' v l)=if kt.beq o o'=true then some v else bQ kt o l
 |[]=>by rw[zQ,eF,mV]
 |p::l=>by
  rw[nT]
  by_cases h:kt.beq o' p.1=true
  ·rw[if_pos h,eF,eF]
   have e:=beq_eq kt _ _ hc h
   by_cases h2:kt.beq o o'=true
   ·rw[if_pos h2,if_pos h2]
   ·rw[if_neg h2,if_neg h2,if_neg (by rw[←e];exact h2)]
  ·rw[if_neg h,eF,eF,qD hc o o' v l]
   by_cases h3:kt.beq o p.1=true
   ·rw[if_pos h3,if_pos h3,if_neg]
    intro h4
    apply h
    rw[←beq_eq kt _ _ hc h4]
    exact h3
   ·rw[if_neg h3,if_neg h3]
theorem yG(hc:kt.comp=true)(o o':kt.den):∀ {l:List (kt.den×β)},(l.map (·.1)).Nodup→bQ kt o (fe kt o' l)=if kt.beq o o'=true then none else bQ kt o l
 |[],_=>by rw[zP,mV];split <;> rfl
 |p::l,hn=>by
  rw[List.map_cons,List.nodup_cons]at hn
  rw[lP]
  by_cases h:kt.beq o' p.1=true
  ·rw[if_pos h,eF]
   have e:=beq_eq kt _ _ hc h
   by_cases h2:kt.beq o o'=true
   ·rw[if_pos h2]
    have e2:=beq_eq kt _ _ hc h2
    cases hg:bQ kt o l with
    |none=>rfl
    |some v=>exact absurd (List.mem_map.2 ⟨_,(fv hc hn.2).1 hg,rfl⟩) (by rw[e2,e];exact hn.1)
   ·rw[if_neg h2,if_neg (by rw[←e];exact h2)]
  ·rw[if_neg h,eF,eF,yG hc o o' hn.2]
   by_cases h3:kt.beq o p.1=true
   ·rw[if_pos h3,if_pos h3,if_neg]
    intro h4
    apply h
    rw[←beq_eq kt _ _ hc h4]
    exact h3
   ·rw[if_neg h3,if_neg h3]
theorem get_none(hc:kt.comp=true){o:kt.den}{l:List (kt.den×β)}(hn:(l.map (·.1)).Nodup):bQ kt o l=none↔o ∉ l.map (·.1):=by
 constructor
 ·intro h hm
  obtain⟨p,hp,e⟩:=List.mem_map.1 hm
  have e:p.1=o:=e
  have:=(fv hc hn (x:=o) (v:=p.2)).2 (by rw[←e];exact hp)
  rw[h]at this;cases this
 ·intro h
  cases hg:bQ kt o l with
  |none=>rfl
  |some v=>exact absurd (List.mem_map.2 ⟨_,(fv hc hn).1 hg,rfl⟩) h
theorem nr{l:List (kt.den×β)}(hn:(l.map (·.1)).Nodup):l.Nodup:=by
 induction l with
 |nil=>exact List.nodup_nil
 |cons p l ih=>
  rw[List.map_cons,List.nodup_cons]at hn
  exact List.nodup_cons.2 ⟨fun h=>hn.1 (List.mem_map.2 ⟨p,h,rfl⟩),ih hn.2⟩
theorem wH(hc:kt.comp=true){l l':List (kt.den×β)}(hn:(l.map (·.1)).Nodup)(hn':(l'.map (·.1)).Nodup)(h:∀o,bQ kt o l=bQ kt o l'):l.Perm l':=by
 rw[List.perm_ext_iff_of_nodup (nr hn) (nr hn')]
 rintro⟨o,v⟩
 rw[←fv hc hn,←fv hc hn',h]
end
theorem ov(a b:bY):(Ty.beq bD a b=true)↔a=b:=⟨beq_eq bD a b rfl,fun h=>by rw[h];exact beq_refl bD b rfl⟩
abbrev At:=List (bY×dB)
abbrev dL(a:At):List bY:=a.map (·.1)
theorem zA(o o':bY)(v:dB)(a:At):bQ bD o (ef bD o' v a)=if o=o' then some v else bQ bD o a:=by
 rw[qD fa]
 by_cases h:o=o'
 ·rw[if_pos ((ov _ _).2 h),if_pos h]
 ·rw[if_neg (fun e=>h ((ov _ _).1 e)),if_neg h]
theorem zw(o o':bY){a:At}(hn:(dL a).Nodup):bQ bD o (fe bD o' a)=if o=o' then none else bQ bD o a:=by
 rw[yG fa _ _ hn]
 by_cases h:o=o'
 ·rw[if_pos ((ov _ _).2 h),if_pos h]
 ·rw[if_neg (fun e=>h ((ov _ _).1 e)),if_neg h]
theorem nP{o:bY}{v:dB}{a:At}(hn:(dL a).Nodup):(dL (ef bD o v a)).Nodup:=qg fa hn
theorem iS{o:bY}{a:At}(hn:(dL a).Nodup):(dL (fe bD o a)).Nodup:=my fa hn
theorem C9{a a':At}(hn:(dL a).Nodup)(hn':(dL a').Nodup)(h:∀o,bQ bD o a=bQ bD o a'):a.Perm a':=wH fa hn hn' h
theorem yk{o:bY}{c:dB}{a:At}(hn:(dL a).Nodup)(hg:bQ bD o a=some c):a.Perm ((o,c)::fe bD o a):=by
 refine C9 hn ?_ fun x=> ?_
 ·show(o::dL (fe bD o a)).Nodup
  refine List.nodup_cons.2 ⟨?_,iS hn⟩
  have:=(get_none fa (iS (o:=o) hn)).1 (by rw[zw o o hn,if_pos rfl])
  exact this
 ·rw[eF,zw x o hn]
  by_cases h:x=o
  ·subst h;rw[if_pos ((ov _ _).2 rfl),hg]
  ·rw[if_neg (fun e=>h ((ov _ _).1 e)),if_neg h]
theorem pz(o:bY)(l:List bY)(a:At):jU (o::l) a=jU l (fe bD o a):=rfl
theorem lF:∀(l:List bY) {a:At},(dL a).Nodup→(dL (jU l a)).Nodup
 |[],_,h=>h
 |o::l,a,h=>by rw[pz];exact lF l (iS h)
theorem rn(x:bY):∀(l:List bY) {a:At},(dL a).Nodup→bQ bD x (jU l a)=if x∈l then none else bQ bD x a
 |[],a,_=>by rw[if_neg (by simp)];rfl
 |o::l,a,h=>by
  rw[pz,rn x l (iS h),zw x o h]
  by_cases h1:x∈l
  ·rw[if_pos h1,if_pos (List.mem_cons_of_mem _ h1)]
  ·rw[if_neg h1]
   by_cases h2:x=o
   ·rw[if_pos h2,if_pos (by rw[h2];exact List.mem_cons_self ..)]
   ·rw[if_neg h2,if_neg (by simp[h1,h2])]
theorem j6(h:Int)(o:bY)(l:List bY)(x:fc)(xs:List fc)(a:At):nC h (o::l) (x::xs) a=nC h l xs (ef bD o (x,(h,())) a):=rfl
theorem qP(h:Int):∀(l:List bY) (xs:List fc) {a:At},(dL a).Nodup→(dL (nC h l xs a)).Nodup
 |[],[],_,hn=>hn
 |[],_::_,_,hn=>hn
 |_::_,[],_,hn=>hn
 |o::l,x::xs,a,hn=>by rw[j6];exact qP h l xs (nP hn)
theorem yF(h:Int)(x:bY):∀(l:List bY) (xs:List fc) (a:At),x ∉ l→bQ bD x (nC h l xs a)=bQ bD x a
 |[],[],_,_=>rfl
 |[],_::_,_,_=>rfl
 |_::_,[],_,_=>rfl
 |o::l,y::xs,a,hx=>by
  rw[j6,yF h x l xs _ (fun e=>hx (List.mem_cons_of_mem _ e)),zA,if_neg (fun e=>hx (by rw[e];exact List.mem_cons_self ..))]
theorem vW(h:Int):∀(l:List bY) (xs:List fc) (a:At),l.Nodup→∀(k:Nat) (hk:k < l.length) (hk2:k < xs.length),bQ bD l[k] (nC h l xs a)=some (xs[k],(h,()))
 |[],_,_,_,k,hk,_=>by simp at hk
 |_::_,[],_,_,k,_,hk=>by simp at hk
 |o::l,y::xs,a,hn,k,hk,hk2=>by
  rw[List.nodup_cons]at hn
  rw[j6]
  cases k with
  |zero=>
   show bQ bD o _=some (y,(h,()))
   rw[yF h o l xs _ hn.1,zA,if_pos rfl]
  |succ k=>
   simp only[List.getElem_cons_succ]
   exact vW h l xs _ hn.2 k (by simpa using hk) (by simpa using hk2)
def jG(a:At)(l:List bY):Int:=(l.map fun o=>((bQ bD o a).getD uf).1.1).sum
theorem vL:∀(l:List bY) {a:At},(dL a).Nodup→l.Nodup→(∀o∈l,(bQ bD o a).isSome=true)→fq (jU l a)=fq a - jG a l∧(jU l a).length+l.length=a.length
 |[],a,_,_,_=>by simp[jU,jG]
 |o::l,a,hn,hl,ht=>by
  rw[List.nodup_cons]at hl
  obtain⟨c,hc⟩:=Option.isSome_iff_exists.1 (ht o (List.mem_cons_self ..))
  have hg:∀x∈l,bQ bD x (fe bD o a)=bQ bD x a:=fun x hx=>by
   rw[zw x o hn,if_neg (fun e=>hl.1 (by rw[←e];exact hx))]
  obtain⟨h1,h2⟩:=vL l (iS (o:=o) hn) hl.2 fun x hx=>by rw[hg x hx];exact ht x (List.mem_cons_of_mem _ hx)
  have hp:=yk hn hc
  have h3:=j7 hp
  have h4:=hp.length_eq
  have h5:jG (fe bD o a) l=jG a l:=by
   unfold jG
   congr 1
   exact List.map_congr_left fun x hx=>by rw[hg x hx]
  rw[fu]at h3
  rw[List.length_cons]at h4
  rw[pz,h1,h5,List.length_cons]
  have h6:jG a (o::l)=c.1.1+jG a l:=by simp[jG,hc]
  rw[h6]
  exact⟨by have h3:fq a=c.1.1+fq (fe bD o a):=h3;omega,by omega⟩
theorem mz(x:fc)(xs:List fc):fw (x::xs)=x.1+fw xs:=by simp[fw]
theorem vl(h:Int):∀(l:List bY) (xs:List fc) {a:At},(dL a).Nodup→l.Nodup→l.length=xs.length→(∀o∈l,bQ bD o a=none)→fq (nC h l xs a)=fq a+fw xs∧(nC h l xs a).length=a.length+l.length
 |[],[],a,_,_,_,_=>by simp[nC,fw]
 |[],_::_,_,_,_,he,_=>by simp at he
 |_::_,[],_,_,_,he,_=>by simp at he
 |o::l,x::xs,a,hn,hl,he,ht=>by
  rw[List.nodup_cons]at hl
  have h0:=(get_none fa hn).1 (ht o (List.mem_cons_self ..))
  have e:ef bD o (x,(h,())) a=a++ [(o,(x,(h,())))]:=kH fa h0
  obtain⟨h1,h2⟩:=vl h l xs (nP (o:=o) (v:=(x,(h,()))) hn) hl.2 (by simpa using he) fun y hy=>by
   rw[zA,if_neg (fun e=>hl.1 (by rw[←e];exact hy))];exact ht y (List.mem_cons_of_mem _ hy)
  rw[j6,h1,h2,e,vo,mz,List.length_append]
  simp only[fq,List.map_cons,List.map_nil,List.sum_cons,List.sum_nil,List.length_cons,List.length_nil]
  omega
theorem rD:∀(l:List gW) (m:List (bY×Bool)),oF m l=true→(l.map (·.1)).Nodup∧∀x∈l,bQ bD x.1 m≠some true
 |[],_,_=>⟨List.nodup_nil,fun _ h=>by cases h⟩
 |x::l,m,h=>by
  rw[oF,Bool.and_eq_true,Bool.and_eq_true]at h
  obtain⟨⟨h1,_⟩,h2⟩:=h
  obtain⟨h3,h4⟩:=rD l _ h2
  have hs:∀y∈l,bQ bD y.1 (ef bD x.1 true m)≠some true:=h4
  have hne:∀y∈l,y.1≠x.1:=fun y hy e=>hs y hy (by rw[qD fa,if_pos ((ov _ _).2 e)])
  refine⟨?_,fun y hy=> ?_⟩
  ·rw[List.map_cons,List.nodup_cons]
   refine⟨fun hm=> ?_,h3⟩
   obtain⟨y,hy,e⟩:=List.mem_map.1 hm
   exact hne y hy e
  ·rcases List.mem_cons.1 hy with rfl | hy
   ·intro e
    unfold pY at h1
    rw[e]at h1
    cases h1
   ·have:=hs y hy
    rw[qD fa,if_neg (fun e=>hne y hy ((ov _ _).1 e))]at this
    exact this
theorem pe(t:fg):(cT t).Nodup:=by
 unfold cT
 split
 ·rename_i h
  exact(rD _ _ (iJ h).2.1).1
 ·exact List.nodup_nil
theorem rP(t:fg):(ea t).Nodup:=by
 unfold ea
 split
 ·unfold l8
  refine List.Pairwise.map _ (fun a b hne e=> ?_) (List.nodup_range' (s:=0) (n:=t.2.1.length) (step:=1))
  have:(a:Int)=b:=congrArg (fun o:bY=>o.2.1) e
  exact hne (by omega)
 ·exact List.nodup_nil
theorem rB{h:Int}{id:List Int}{a:At}:∀(l:List gW) (f0 f:Int),iW h id a l f0= .inr f→(∀o∈l.map (·.1),(bQ bD o a).isSome=true)∧f=f0+jG a (l.map (·.1))
 |[],f0,f,e=>by simp only[iW,Sum.inr.injEq]at e;subst e;simp[jG]
 |x::l,f0,f,e=>by
  simp only[iW]at e
  cases hg:bQ bD x.1 a with
  |none=>rw[hg]at e;cases e
  |some c=>
   rw[hg]at e
   simp only at e
   split at e
   ·cases e
   ·obtain⟨h1,h2⟩:=rB l _ _ e
    refine⟨fun o ho=> ?_,?_⟩
    ·rw[List.map_cons]at ho
     rcases List.mem_cons.1 ho with rfl | ho
     ·rw[hg];rfl
     ·exact h1 o ho
    ·rw[h2]
     simp only[jG,List.map_cons,List.sum_cons,hg,Option.getD_some]
     omega
structure gD(t:fg)(h:Int)(a:At)(fS:Int):Prop where
 ok:fB t=true
 h1:1≤h
 h2:h≤1048576
 ins:∃f,iW h (lW t) a t.1 0= .inr f∧fS=f - fw t.2.1
 there:∀o∈cT t,(bQ bD o a).isSome=true
 made:∀o∈ea t,bQ bD o a=none
 EO:fS=jG a (cT t) - fw t.2.1
 pos:0≤fS
theorem qB{t:fg}{h:Int}{a:At}(e:(dJ t h a).2=0):gD t h a (dJ t h a).1:=by
 obtain⟨hok,h1,h2,f,hi,hm,hp,hc⟩:=tq e
 obtain⟨i1,i2⟩:=rB _ _ _ hi
 have hs:cT t=t.1.map (·.1):=by unfold cT;rw[if_pos hok]
 rw[hc]
 refine⟨hok,h1,h2,⟨f,hi,rfl⟩,by rw[hs];exact i1,fun o ho=> ?_,by rw[hs,i2];show 0+_ - _=_;omega,hp⟩
 have:=List.any_eq_false.1 hm o ho
 unfold gw at this
 cases hg:bQ bD o a with
 |none=>rfl
 |some c=>rw[hg]at this;simp at this
section
variable {t:fg} {h fS:Int} {a:At}
theorem gD.Dp(hc:gD t h a fS)(ha:(dL a).Nodup){o:bY}(ho:o∈cT t):bQ bD o (eO t h a)=none:=by
 have hm:o ∉ ea t:=fun e=>by
  have:=hc.there o ho
  rw[hc.made o e]at this;cases this
 unfold eO
 rw[yF h o _ _ _ hm,rn o _ ha,if_pos ho]
theorem gD.new(hc:gD t h a fS){k:Nat}(hk:k < (ea t).length)(hk2:k < t.2.1.length):bQ bD (ea t)[k] (eO t h a)=some (t.2.1[k],(h,())):=by
 unfold eO
 exact vW h _ _ _ (rP t) k hk hk2
theorem oo(ha:(dL a).Nodup){o:bY}(h1:o ∉ cT t)(h2:o ∉ ea t):bQ bD o (eO t h a)=bQ bD o a:=by
 unfold eO
 rw[yF h o _ _ _ h2,rn o _ ha,if_neg h1]
theorem jR(ha:(dL a).Nodup):(dL (eO t h a)).Nodup:=qP h _ _ (lF _ ha)
theorem gD.sum(hc:gD t h a fS)(ha:(dL a).Nodup):fq (eO t h a)=fq a - fS∧(eO t h a).length+t.1.length=a.length+t.2.1.length:=by
 obtain⟨d1,d2⟩:=vL (cT t) ha (pe t) hc.there
 obtain⟨e1,e2⟩:=vl h (ea t) t.2.1 (lF (cT t) ha) (rP t) (iY hc.ok) fun o ho=>by
  rw[rn o _ ha];split
  ·rfl
  ·exact hc.made o ho
 have hf:=hc.EO
 have hl:=rC hc.ok
 have hm:=iY hc.ok
 unfold eO
 rw[e1,e2,d1]
 exact⟨by omega,by omega⟩
theorem gD.iT(hc:gD t h a fS)(ha:qN a)(hv:ni t):qN (eO t h a):=by
 refine⟨jR ha.1,fun p hp=> ?_⟩
 have hg:=(fv fa (jR (t:=t) (h:=h) ha.1) (x:=p.1) (v:=p.2)).2 hp
 by_cases h2:p.1∈ea t
 ·obtain⟨k,hk,e⟩:=List.getElem_of_mem h2
  have hk2:k < t.2.1.length:=by rw[←iY hc.ok];exact hk
  rw[←e,hc.new hk hk2]at hg
  have hg:=(Option.some.inj hg).symm
  have ho:=iZ _ _ (iJ hc.ok).2.2 _ (List.getElem_mem hk2)
  have hu:=hv.1.1 _ (List.getElem_mem hk2)
  have h1:=hc.h1
  have h3:=hc.h2
  refine⟨?_,?_⟩
  ·rw[←e]
   have hm:ea t=l8 (lW t) 0 t.2.1.length:=by unfold ea;rw[if_pos hc.ok]
   simp only[hm,l8,List.getElem_map]
   have:=(ym (t:=t))
   exact⟨this.1,fun x hx=>this.2 x hx⟩
  ·rw[hg]
   exact⟨ho.2,hu.1,ho.1.1,ho.1.2,by show 0≤h;omega,h3⟩
 ·by_cases h1:p.1∈cT t
  ·rw[hc.Dp ha.1 h1]at hg;cases hg
  ·rw[oo ha.1 h1 h2]at hg
   exact ha.2 p ((fv fa ha.1).1 hg)
theorem gD.again(hc:gD t h a fS)(ha:(dL a).Nodup)(h':Int)(h1:1≤h')(h2:h'≤1048576):dJ t h' (eO t h a)=(0,5):=by
 unfold dJ
 rw[if_pos ⟨hc.ok,h1,h2⟩]
 have hl:=(iJ hc.ok).1.1
 have hs:cT t=t.1.map (·.1):=by unfold cT;rw[if_pos hc.ok]
 cases ht:t.1 with
 |nil=>rw[ht]at hl;simp at hl
 |cons x l=>
  have hg:=hc.Dp ha (o:=x.1) (by rw[hs,ht];simp)
  simp only[iW,hg]
end
end Go.Ab
namespace Go.Ab
open Go.Proofs
set_option maxRecDepth 100000
set_option linter.unusedVariables false
set_option linter.unusedSimpArgs false
set_option synthInstance.maxSize 5000
theorem Ca(k:Int):gX (dN k):=(wM _ _).u
def mT:List Int:=[152,45,158,62,185,150,245,89,230,51,244,209,148,222,243,118,29,144,159,90,59,100,125,26,133,31,234,214,124,50,201,209]
theorem s3:fN 3 mT=(2066670005889522986,1913675330412042729,()):=by decide+kernel
set_option synthInstance.maxSize 5000
theorem u0:gX 0:=⟨Int.le_refl 0,by decide⟩
theorem xJ{x:Int}{l:List Int}(h:gX x)(hl:mg l):mg (x::l):=fun p hp=>by
 rcases List.mem_cons.1 hp with rfl | hp
 ·exact h
 ·exact hl p hp
theorem zG:mg []:=fun p hp=>by cases hp
theorem CC{ks:List Int}(h:mg ks):Ap (za ks):=fun b hb=>by
 have hb:b∈ [(ks,(0:Int),(0:Int),(0:Int),())]:=hb
 rw[List.mem_singleton]at hb
 subst hb
 exact⟨h,u0⟩
theorem Fp:qp 0=true:=rfl
theorem Cc(ks:List Int)(a d:Int)(h:ks.length≤12):nb (ks,a,d,0,())=(ks.all kU && (qp a && qp d)):=by
 have e:nb (ks,a,d,0,())=(decide (ks.length≤12) && (ks.all kU && (qp a && (qp d && true)))):=rfl
 rw[e,aW h,Bool.true_and,Bool.and_true]
theorem Bf(ks:List Int)(h:ks.length≤12):jn (za ks)=ks.all kU:=by
 have e:jn (za ks)=((nb (ks,0,0,0,()) && true) && true):=rfl
 rw[e,Cc _ _ _ h,Fp,Bool.and_true,Bool.and_true,Bool.and_true,Bool.and_true]
def BA(b:jN)(sg:List Sg)(s:Int)(m:List Int)(height age:Int):Int:=
 if height < b.2.1∨age < b.2.2.1 then 11
 else if b.2.2.2.1≠0∧dN s≠b.2.2.2.1 then 23
 else if sg.length≠b.1.length then 7
 else if jH m b.1 sg then 0 else 7
theorem CK{l:Lk}{i:Nat}{b:jN}(hok:jn l=true)(hi:i < l.1.length)(hb:l.1[i]=b)(sg:List Sg)(s:Int)(m:List Int)(h a:Int):lr l ((i:Int),sg,s,()) m h a=BA b sg s m h a:=by
 have n1:nth (.pair (.slice (.int .u64)) (.pair (.int .i64) (.pair (.int .i64) (.pair (.int .u64) .unit)))) l.1 i=l.1[i]:=cX (t:=(.pair (.slice (.int .u64)) (.pair (.int .i64) (.pair (.int .i64) (.pair (.int .u64) .unit))))) hi
 unfold lr
 rw[if_neg (by
  intro hh
  rcases hh with hh | hh | hh
  ·rw[hok]at hh;cases hh
  ·have hh:(i:Int) < 0:=hh
   omega
  ·have hh:(i:Int)≥l.1.length:=hh
   omega)]
 show(if h < (nth (.pair (.slice (.int .u64)) (.pair (.int .i64) (.pair (.int .i64) (.pair (.int .u64) .unit)))) l.1 i).2.1∨a < (nth (.pair (.slice (.int .u64)) (.pair (.int .i64) (.pair (.int .i64) (.pair (.int .u64) .unit)))) l.1 i).2.2.1 then 11 else if(nth (.pair (.slice (.int .u64)) (.pair (.int .i64) (.pair (.int .i64) (.pair (.int .u64) .unit)))) l.1 i).2.2.2.1≠0∧dN s≠(nth (.pair (.slice (.int .u64)) (.pair (.int .i64) (.pair (.int .i64) (.pair (.int .u64) .unit)))) l.1 i).2.2.2.1 then 23 else if sg.length≠(nth (.pair (.slice (.int .u64)) (.pair (.int .i64) (.pair (.int .i64) (.pair (.int .u64) .unit)))) l.1 i).1.length then 7 else if jH m (nth (.pair (.slice (.int .u64)) (.pair (.int .i64) (.pair (.int .i64) (.pair (.int .u64) .unit)))) l.1 i).1 sg then 0 else 7)=_
 rw[n1,hb]
 rfl
theorem sF(m:List Int):∀ks:List Int,(∀k∈ks,0 < k∧k < 2305843009213688669)→jH m (ks.map dN) (ks.map fun k=>fN k m)=true
 |[],_=>rfl
 |k::ks,h=>by
  have hk:=h k List.mem_cons_self
  show(kb (dN k) m 1 (fN k m) && jH m (ks.map dN) (ks.map fun k=>fN k m))=true
  rw[CT k m hk.1 hk.2,sF m ks fun x hx=>h x (List.mem_cons_of_mem _ hx)]
  rfl
theorem uV(ks:List Int)(hk:∀k∈ks,0 < k∧k < 2305843009213688669)(af dl sc s:Int)(m:List Int)(h a:Int)(hs:sc=0∨dN s=sc):
  BA (ks.map dN,af,dl,sc,()) (ks.map fun k=>fN k m) s m h a=if h < af∨a < dl then 11 else 0:=by
 have e:BA (ks.map dN,af,dl,sc,()) (ks.map fun k=>fN k m) s m h a=if h < af∨a < dl then 11 else if sc≠0∧dN s≠sc then 23 else if(ks.map fun k=>fN k m).length≠(ks.map dN).length then 7 else if jH m (ks.map dN) (ks.map fun k=>fN k m) then 0 else 7:=rfl
 rw[e,sF m ks hk,if_neg (c:=sc≠0∧dN s≠sc) (by rintro⟨h1,h2⟩;exact hs.elim h1 h2),if_neg (c:=(ks.map fun k=>fN k m).length≠(ks.map dN).length) (by rw[List.length_map,List.length_map];exact fun x=>x rfl)]
 rfl
theorem E4{k:Int}(h:0 < k∧k < 2305843009213688669):∀x∈ [k],0 < x∧x < 2305843009213688669:=fun x hx=>by rw[List.mem_singleton]at hx;subst hx;exact h
set_option synthInstance.maxSize 5000
def z32:List Int:=List.replicate 32 0
def sJ:Lk:=za [dN 7]
def sM:fg:=([((z32,((0:Int),())),(((0:Int),(([]:List Sg),((0:Int),()))),()))],([((90:Int),(sJ,()))],((0:Int),())))
def lb:fg:=qu sM (Int.toNat 0) (s9 sM 0 [7] 0)
def jf:At:=[pW 0 ((100:Int),(sJ,()))]
theorem Eb:mF sM 0 0 [7]=true:=by decide+kernel
theorem FK:¬lW sM=z32:=by decide+kernel
theorem b7:gX (dN 7):=Ca 7
theorem DU:Ap sJ:=CC (xJ b7 zG)
theorem Bi:jn sJ=true:=by
 unfold sJ
 rw[Bf [dN 7] (by decide)]
 simp only[List.all_cons,List.all_nil,rE,Bool.and_true]
theorem Gh:ni sM:=by
 refine⟨⟨fun o ho=> ?_,by decide,by decide⟩,fun x hx=> ?_,by decide⟩
 ·have ho:o∈ [((90:Int),(sJ,()))]:=ho
  rw[List.mem_singleton]at ho
  subst ho
  exact⟨DU,by show 1≤_;decide⟩
 ·have hx:x∈ [((z32,((0:Int),())),(((0:Int),(([]:List Sg),((0:Int),()))),()))]:=hx
  rw[List.mem_singleton]at hx
  subst hx
  refine⟨⟨by show z32.length=32;unfold z32;rw[List.length_replicate],fun y hy=> ?_⟩,⟨fun s hs=>(by cases hs),by show(0:Int)≤0;decide,by show(0:Int) < 18446744073709551616;decide⟩,Nat.zero_le _⟩
  have hy:y∈List.replicate 32 (0:Int):=hy
  obtain rfl:=(List.mem_replicate.1 hy).2
  exact⟨by decide,by decide⟩
theorem Fc:gX 0:=⟨by decide,by decide⟩
theorem nm:fB lb=true∧ni lb∧lW lb=lW sM∧cT lb=cT sM∧ea lb=ea sM:=BP Gh Eb Fc
theorem E3:fB sM=true:=(sm Eb).1
theorem Fb:cT lb=[(z32,((0:Int),()))]:=by
 rw[nm.2.2.2.1]
 unfold cT
 rw[if_pos E3]
 rfl
theorem DX:ea lb=[(lW sM,((0:Int),()))]:=by
 rw[nm.2.2.2.2]
 unfold ea
 rw[if_pos E3]
 rfl
theorem FI:lb.1=[((z32,((0:Int),())),(((((0:Nat):Int),([7].map (fun k=>fN k (lW sM)),((0:Int),())))),()))]:=rfl
theorem FL(m:List Int)(h a:Int)(hh:0≤h)(ha:0≤a):lr sJ (((0:Nat):Int),([7].map (fun k=>fN k m),((0:Int),()))) m h a=0:=by
 have s1:=uV [7] (E4 (k:=7) (by decide)) 0 0 0 0 m h a (.inl rfl)
 rw[if_neg (by omega)]at s1
 exact(CK (l:=sJ) (i:=0) (b:=([7].map dN,0,0,0,())) Bi (by show 0 < 1;decide) rfl _ _ _ _ _).trans s1
theorem g14:bQ bD (z32,((0:Int),())) jf=some (((100:Int),(sJ,())),((0:Int),())):=by
 unfold jf pW
 rw[eF]
 exact if_pos ((ov _ _).2 rfl)
theorem n14(m:List Int)(hm:¬m=z32):bQ bD (m,((0:Int),())) jf=none:=by
 unfold jf pW
 rw[eF,if_neg,mV]
 intro e
 have:=(ov _ _).1 e
 exact hm (congrArg (fun o:bY=>o.1) this)
theorem A5{h:Int}{m:List Int}{a:At}{x:gW}{c:dB}{f:Int}(hg:bQ bD x.1 a=some c)(ho:lr c.1.2.1 x.2.1 m h (h - c.2.1)=0)(hf:c.1.1=f):iW h m a [x] 0= .inr f:=by
 subst hf
 simp only[iW,hg,ho,ne_eq,not_true_eq_false,if_false,Int.zero_add]
theorem vM{o:bY}{c:dB}:jU [o] [(o,c)]=[]:=by
 show fe bD o [(o,c)]=[]
 rw[lP]
 exact if_pos ((ov _ _).2 rfl)
theorem zx{o:bY}{c:dB}{a:At}(hg:bQ bD o a=some c):kE a [o]=[(o,(c,()))]:=by
 simp only[kE,hg,Option.getD_some]
theorem Co{o:bY}{c:dB}:bQ bD o [(o,c)]=some c:=by
 rw[eF]
 exact if_pos ((ov _ _).2 rfl)
theorem Cf(h:Int)(h1:1≤h)(h2:h≤1048576):dJ lb h jf=(10,0):=by
 have hne:=FK
 have hmd:=DX
 have hin:=FI
 have hid:=nm.2.2.1
 generalize lW sM=m at hne hmd hin hid
 unfold dJ
 rw[if_pos ⟨nm.1,h1,h2⟩,hin,hid]
 have e:iW h m jf [((z32,((0:Int),())),(((((0:Nat):Int),([7].map (fun k=>fN k m),((0:Int),())))),()))] 0= .inr 100:=by
  simp only[iW,g14]
  exact A5 (x:=((z32,((0:Int),())),(((((0:Nat):Int),([7].map (fun k=>fN k m),((0:Int),())))),()))) (c:=(((100:Int),(sJ,())),((0:Int),()))) g14 (FL m h (h - 0) (by omega) (by omega)) rfl
 rw[e,hmd]
 have n1:([(m,((0:Int),()))]:List bY).any (gw jf)=false:=by
  simp only[List.any_cons,List.any_nil,gw,n14 m hne,Option.isSome_none,Bool.or_false]
 simp only[n1,Bool.false_eq_true,if_false]
 rfl
def sH(h:Int):At:=[((lW sM,((0:Int),())),(((90:Int),(sJ,())),(h,())))]
theorem Dt(h:Int):eO lb h jf=sH h:=by
 unfold eO sH
 rw[Fb,DX]
 generalize lW sM=m
 have e:jU [(z32,((0:Int),()))] jf=[]:=by
  exact vM
 rw[e]
 rfl
theorem Eg:stepOf lb jf=([((z32,((0:Int),())),((((100:Int),(sJ,())),((0:Int),())),()))],([(lW sM,((0:Int),()))],())):=by
 unfold stepOf
 rw[Fb,DX]
 rw[zx g14]
theorem F4(h:Int):lz (sH h) (stepOf lb jf)=jf:=by
 rw[Eg]
 unfold lz sH
 generalize lW sM=m
 have e:jU [(m,((0:Int),()))] [((m,((0:Int),())),(((90:Int),(sJ,())),(h,())))]=[]:=by
  exact vM
 rw[e]
 rfl
theorem FH(h:Int):bQ bD (lW sM,((0:Int),())) (sH h)=some (((90:Int),(sJ,())),(h,())):=by
 unfold sH
 generalize lW sM=m
 exact Co
theorem xi:qN jf:=by
 refine⟨by decide,fun p hp=> ?_⟩
 have hp:p∈ [pW 0 ((100:Int),(sJ,()))]:=hp
 rw[List.mem_singleton]at hp
 subst hp
 refine⟨⟨by show(List.replicate 32 (0:Int)).length=32;rw[List.length_replicate],fun x hx=> ?_⟩,Bi,DU,by show(0:Int)≤100;decide,by show(100:Int)≤_;decide,by show(0:Int)≤0;decide,by show(0:Int)≤_;decide⟩
 have hx:x∈List.replicate 32 (0:Int):=hx
 obtain rfl:=(List.mem_replicate.1 hx).2
 exact⟨by decide,by decide⟩
theorem EK(h:Int)(h1:1≤h)(h2:h≤1048576):gD lb h jf 10:=by
 have:=qB (t:=lb) (h:=h) (a:=jf) (by rw[Cf h h1 h2])
 rw[Cf h h1 h2]at this
 exact this
theorem FC(h:Int)(h1:1≤h)(h2:h≤1048576):qN (sH h):=by
 rw[←Dt];exact(EK h h1 h2).iT xi nm.2.1
theorem E1:aR.call [((100:Int),(sJ,()))]=some (.inr (jf,[])):=by
 rw[aR.run (d:=[((100:Int),(sJ,()))]) (fun o ho=>by
  rw[List.mem_singleton]at ho
  subst ho
  exact⟨DU,by show 1≤_;decide,by show(100:Int)≤_;decide⟩)]
 have e:uR [((100:Int),(sJ,()))]=some jf:=by
  unfold uR
  rw[if_pos (by decide)]
  have e0:lR 0 ((100:Int),(sJ,()))=true:=by
   unfold lR
   rw[Bi]
   rfl
  simp only[qs,e0,Option.map_some]
  rfl
 simp only[aR.add,aR.F,e]
theorem D8:aZ.call (sM,0,0,[7],0)=some (lb,0):=by
 rw[aZ.run (d:=(sM,0,0,[7],0)) ⟨Gh,fun x hx=>by rw[List.mem_singleton]at hx;subst hx;exact⟨by decide,by decide⟩,by decide⟩]
 simp only[aZ.add,aZ.F,BO,Eb,if_true]
 rfl
def EA:fg:=(([]:List gW),(([]:List fc),((0:Int),())))
theorem FF:ni EA:=⟨⟨fun o ho=>(by cases ho),by decide,by decide⟩,fun x hx=>(by cases hx),by decide⟩
theorem FE(h:Int)(a:At):dJ EA h a=(0,1):=by
 have:fB EA=false:=by decide+kernel
 unfold dJ
 rw[if_neg (fun e=>by rw[this]at e;cases e.1)]
abbrev aL.D:=Unit
def aL.st:aL.D→SA:=fun _=>([],[])
abbrev aL.Y:=Bool
abbrev aL.X:=Bool
def aL.out:aL.X→aX:=fun x=>⟨.d .bool x,[],[]⟩
def aL.add:aL.D→aL.Y→aL.X:=fun _ y=>y
def aL.az:aL.D→Prop:=fun _=>True
def aL.F:aL.D→aL.Y:=fun _=>true
noncomputable def aL.G:dG:=eT (P:=Tryz.prog) [cw.sg,eC.sg,aR.sg,aZ.sg,ao.sg,aB.sg,tid.sg,cP.sg,aU.sg,aC.sg,aY.sg]
noncomputable def aL.an:dX:= {}
noncomputable def aL.A:= @cR Tryz.prog aL.G aL.an 0 Tryz.f25 _ aL.st
abbrev aL.Ok:=cS @aL.A aL.az aL.add aL.F aL.out
theorem aL.eq{R:Type}(k:aX→Option R):aL.A () k=
  au (cw.call (7:Int)) fun x7=>
  au (eC.call x7) fun x8=>
  au (aR.call [((100:Int),(x8,()))]) fun x12=>
  aP (x12.isLeft) (
   au (x12.getLeft?) fun x12l=>
   k (aL.out false)) (
   au (x12.getRight?) fun x12r=>
   au (aZ.call (([(((List.replicate 32 (0:Int)),((0:Int),())),(((0:Int),(([]:List Sg),((0:Int),()))),()))],([((90:Int),(x8,()))],((0:Int),()))),(0:Int),(0:Int),[(7:Int)],(0:Int))) fun x16=>
   au (ao.call (x16.1,(1:Int),0,x12r.1,x12r.2)) fun x20=>
   au (ao.call ((([]:List gW),(([]:List fc),((0:Int),()))),(1:Int),x20.2.2.1,x20.2.2.2.1,x20.2.2.2.2)) fun x24=>
   au (aB.call (x16.1,(5:Int),x24.2.2.1,x24.2.2.2.1,x24.2.2.2.2)) fun x25=>
   aP (x25.isLeft) (
    au (x25.getLeft?) fun x25l=>
    au (tid.call x16.1) fun x32=>
    au (cP.call ((x32,((0:Int),())),x25l.2.1,x25l.2.2.1,x25l.2.2.2)) fun x33=>
    au (aB.call (x16.1,(5:Int),x33.1.1,x33.1.2.1,x33.1.2.2)) fun x34=>
    aP (x34.isLeft) (
     au (x34.getLeft?) fun x34l=>
     au (aU.call (x34l.2.1,x34l.2.2.1,x34l.2.2.2)) fun x38=>
     aP ((iw x16.2 (0:Int))) (
      aP ((iw x20.2.1 (0:Int))) (
       aP ((iw x20.1 (10:Int))) (
        aP ((iw x24.2.1 (1:Int))) (
         aP ((iw x25l.1 (0:Int))) (
          aP (x33.2.2) (
           aP ((iw x33.2.1.2.1 (5:Int))) (
            aP ((iw x33.2.1.1.1 (90:Int))) (
             aP ((iw x34l.1 (5:Int))) (
              aP ((iw x38.1 (90:Int))) (
               au (aC.call (x38.2.1,x38.2.2.1,x38.2.2.2)) fun x43=>
               aP (x43.1) (
                au (aU.call (x43.2.1,x43.2.2.1,x43.2.2.2)) fun x44=>
                aP ((iw x44.1 (100:Int))) (
                 au (aC.call (x44.2.1,x44.2.2.1,x44.2.2.2)) fun x45=>
                 aP ((!x45.1)) (
                  au (aY.call (x45.2.1,x45.2.2.1,x45.2.2.2)) fun x46=>
                  k (aL.out (iw ((x46.1:Nat):Int) (1:Int)))) (
                  k (aL.out false))) (
                 k (aL.out false))) (
                k (aL.out false))) (
               k (aL.out false))) (
              k (aL.out false))) (
             k (aL.out false))) (
            k (aL.out false))) (
           k (aL.out false))) (
          k (aL.out false))) (
         k (aL.out false))) (
        k (aL.out false))) (
       k (aL.out false))) (
      k (aL.out false))) (
     au (x34.getRight?) fun x34r=>
     au (aU.call (x34r.2.1,x34r.2.2.1,x34r.2.2.2)) fun x50=>
     aP ((iw x16.2 (0:Int))) (
      aP ((iw x20.2.1 (0:Int))) (
       aP ((iw x20.1 (10:Int))) (
        aP ((iw x24.2.1 (1:Int))) (
         aP ((iw x25l.1 (0:Int))) (
          aP (x33.2.2) (
           aP ((iw x33.2.1.2.1 (5:Int))) (
            aP ((iw x33.2.1.1.1 (90:Int))) (
             aP ((iw x34r.1 (5:Int))) (
              aP ((iw x50.1 (90:Int))) (
               au (aC.call (x50.2.1,x50.2.2.1,x50.2.2.2)) fun x55=>
               aP (x55.1) (
                au (aU.call (x55.2.1,x55.2.2.1,x55.2.2.2)) fun x56=>
                aP ((iw x56.1 (100:Int))) (
                 au (aC.call (x56.2.1,x56.2.2.1,x56.2.2.2)) fun x57=>
                 aP ((!x57.1)) (
                  au (aY.call (x57.2.1,x57.2.2.1,x57.2.2.2)) fun x58=>
                  k (aL.out (iw ((x58.1:Nat):Int) (1:Int)))) (
                  k (aL.out false))) (
                 k (aL.out false))) (
                k (aL.out false))) (
               k (aL.out false))) (
              k (aL.out false))) (
             k (aL.out false))) (
            k (aL.out false))) (
           k (aL.out false))) (
          k (aL.out false))) (
         k (aL.out false))) (
        k (aL.out false))) (
       k (aL.out false))) (
      k (aL.out false)))) (
    au (x25.getRight?) fun x25r=>
    au (tid.call x16.1) fun x65=>
    au (cP.call ((x65,((0:Int),())),x25r.2.1,x25r.2.2.1,x25r.2.2.2)) fun x66=>
    au (aB.call (x16.1,(5:Int),x66.1.1,x66.1.2.1,x66.1.2.2)) fun x67=>
    aP (x67.isLeft) (
     au (x67.getLeft?) fun x67l=>
     au (aU.call (x67l.2.1,x67l.2.2.1,x67l.2.2.2)) fun x71=>
     aP ((iw x16.2 (0:Int))) (
      aP ((iw x20.2.1 (0:Int))) (
       aP ((iw x20.1 (10:Int))) (
        aP ((iw x24.2.1 (1:Int))) (
         aP ((iw x25r.1 (0:Int))) (
          aP (x66.2.2) (
           aP ((iw x66.2.1.2.1 (5:Int))) (
            aP ((iw x66.2.1.1.1 (90:Int))) (
             aP ((iw x67l.1 (5:Int))) (
              aP ((iw x71.1 (90:Int))) (
               au (aC.call (x71.2.1,x71.2.2.1,x71.2.2.2)) fun x76=>
               aP (x76.1) (
                au (aU.call (x76.2.1,x76.2.2.1,x76.2.2.2)) fun x77=>
                aP ((iw x77.1 (100:Int))) (
                 au (aC.call (x77.2.1,x77.2.2.1,x77.2.2.2)) fun x78=>
                 aP ((!x78.1)) (
                  au (aY.call (x78.2.1,x78.2.2.1,x78.2.2.2)) fun x79=>
                  k (aL.out (iw ((x79.1:Nat):Int) (1:Int)))) (
                  k (aL.out false))) (
                 k (aL.out false))) (
                k (aL.out false))) (
               k (aL.out false))) (
              k (aL.out false))) (
             k (aL.out false))) (
            k (aL.out false))) (
           k (aL.out false))) (
          k (aL.out false))) (
         k (aL.out false))) (
        k (aL.out false))) (
       k (aL.out false))) (
      k (aL.out false))) (
     au (x67.getRight?) fun x67r=>
     au (aU.call (x67r.2.1,x67r.2.2.1,x67r.2.2.2)) fun x83=>
     aP ((iw x16.2 (0:Int))) (
      aP ((iw x20.2.1 (0:Int))) (
       aP ((iw x20.1 (10:Int))) (
        aP ((iw x24.2.1 (1:Int))) (
         aP ((iw x25r.1 (0:Int))) (
          aP (x66.2.2) (
           aP ((iw x66.2.1.2.1 (5:Int))) (
            aP ((iw x66.2.1.1.1 (90:Int))) (
             aP ((iw x67r.1 (5:Int))) (
              aP ((iw x83.1 (90:Int))) (
               au (aC.call (x83.2.1,x83.2.2.1,x83.2.2.2)) fun x88=>
               aP (x88.1) (
                au (aU.call (x88.2.1,x88.2.2.1,x88.2.2.2)) fun x89=>
                aP ((iw x89.1 (100:Int))) (
                 au (aC.call (x89.2.1,x89.2.2.1,x89.2.2.2)) fun x90=>
                 aP ((!x90.1)) (
                  au (aY.call (x90.2.1,x90.2.2.1,x90.2.2.2)) fun x91=>
                  k (aL.out (iw ((x91.1:Nat):Int) (1:Int)))) (
                  k (aL.out false))) (
                 k (aL.out false))) (
                k (aL.out false))) (
               k (aL.out false))) (
              k (aL.out false))) (
             k (aL.out false))) (
            k (aL.out false))) (
           k (aL.out false))) (
          k (aL.out false))) (
         k (aL.out false))) (
        k (aL.out false))) (
       k (aL.out false))) (
      k (aL.out false))))):=by kernel_rfl
theorem Ax:fq jf=100:=rfl
theorem Ay(h:Int):fq (sH h)=90:=by
 unfold sH fq
 simp
theorem aL.ok:aL.Ok:=by
 rintro⟨⟩ _
 have c1:cw.call 7=some (dN 7):=cw.run (d:=7) ⟨by decide,by decide⟩
 have c2:eC.call (dN 7)=some sJ:=eC.run (d:=dN 7) trivial
 have c3:=E1
 have c4:=D8
 have c5:ao.call (lb,1,0,jf,[])=some (10,0,0,jf,[]):=by
  rw[ao.run (d:=(lb,1,0,jf,[])) ⟨nm.2.1,xi⟩]
  simp only[ao.add,ao.F,Cf 1 (by decide) (by decide)]
 have c6:ao.call (EA,1,0,jf,[])=some (0,1,0,jf,[]):=by
  rw[ao.run (d:=(EA,1,0,jf,[])) ⟨FF,xi⟩]
  simp only[ao.add,ao.F,FE]
 have c7:aB.call (lb,5,0,jf,[])=some (.inr (0,1,sH 5,[stepOf lb jf])):=by
  rw[aB.run (d:=(lb,5,0,jf,[])) ⟨nm.2.1,xi,Nat.zero_le _,Nat.zero_le _⟩]
  simp only[aB.add,aB.F,Cf 5 (by decide) (by decide),Dt]
  rfl
 obtain⟨m,hm⟩:∃m,lW sM=m:=⟨_,rfl⟩
 have c8:tid.call lb=some m:=by
  rw[tid.run (d:=lb) nm.2.1]
  simp only[tid.add,tid.F,nm.2.2.1,hm]
 have hbg:=FC 5 (by decide) (by decide)
 have c9:cP.call ((m,((0:Int),())),1,sH 5,[stepOf lb jf])=some ((1,sH 5,[stepOf lb jf]),((((90:Int),(sJ,())),((5:Int),())),true)):=by
  rw[cP.run (d:=((m,((0:Int),())),1,sH 5,[stepOf lb jf])) hbg]
  have g:=FH 5
  rw[hm]at g
  exact congrArg some (congrArg (fun z=>((1,sH 5,[stepOf lb jf]),z)) (congrArg (fun z:Option dB=>(z.getD uf,z.isSome)) g))
 have c10:aB.call (lb,5,1,sH 5,[stepOf lb jf])=some (.inl (5,1,sH 5,[stepOf lb jf])):=by
  rw[aB.run (d:=(lb,5,1,sH 5,[stepOf lb jf])) ⟨nm.2.1,hbg,Nat.le_refl _,by show 1≤_;decide⟩]
  have e:=(EK 5 (by decide) (by decide)).again xi.1 5 (by decide) (by decide)
  rw[Dt]at e
  simp only[aB.add,aB.F,e]
  rfl
 have c11:∀n s,aU.call (n,sH 5,s)=some (90,n,sH 5,s):=fun n s=>by
  rw[aU.run (d:=(n,sH 5,s)) ⟨fun p hp=>(hbg.2 p hp).2.2.2.1,by rw[Ay];decide⟩]
  simp only[aU.add,aU.F,Ay]
 have c12:aC.call (1,sH 5,[stepOf lb jf])=some (true,0,jf,[stepOf lb jf]):=by
  rw[aC.run (d:=(1,sH 5,[stepOf lb jf])) ⟨Nat.le_refl _,by show 1≤_;decide,fun st hst=>by
   rw[List.mem_singleton]at hst
   subst hst
   rw[Eg]
   exact⟨by show 1≤_;decide,by show 1≤_;decide⟩⟩]
  have e:nth cD [stepOf lb jf] (1 - 1)=stepOf lb jf:=rfl
  simp only[aC.add,aC.F,e,F4]
  rfl
 have c13:∀n s,aU.call (n,jf,s)=some (100,n,jf,s):=fun n s=>by
  rw[aU.run (d:=(n,jf,s)) ⟨fun p hp=>(xi.2 p hp).2.2.2.1,by rw[Ax];decide⟩]
  simp only[aU.add,aU.F,Ax]
 have c14:aC.call (0,jf,[stepOf lb jf])=some (false,0,jf,[stepOf lb jf]):=by
  rw[aC.run (d:=(0,jf,[stepOf lb jf])) ⟨Nat.zero_le _,by show 1≤_;decide,fun st hst=>by
   rw[List.mem_singleton]at hst
   subst hst
   rw[Eg]
   exact⟨by show 1≤_;decide,by show 1≤_;decide⟩⟩]
  simp only[aC.add,aC.F,if_true]
 have c15:∃x,aY.call (0,jf,[stepOf lb jf])=some (1,x):=by
  refine⟨_,aY.run (d:=(0,jf,[stepOf lb jf])) ⟨by show 1≤_;decide,fun p hp=>(xi.2 p hp).1⟩⟩
 obtain⟨x15,c15⟩:=c15
 generalize hS:stepOf lb jf=S at c7 c9 c10 c12 c14 c15
 rw[aL.eq]
 refine(congrArg (fun z=>au z _) c1).trans ?_
 rw[aa,c2,aa]
 refine(congrArg (fun z=>au z _) c3).trans ?_
 rw[aa]
 simp only[Sum.isLeft_inr,aw,Sum.getRight?_inr,aa]
 refine(congrArg (fun z=>au z _) c4).trans ?_
 rw[aa]
 refine(congrArg (fun z=>au z _) c5).trans ?_
 rw[aa]
 refine(congrArg (fun z=>au z _) c6).trans ?_
 rw[aa]
 refine(congrArg (fun z=>au z _) c7).trans ?_
 rw[aa]
 simp only[Sum.isLeft_inr,aw,Sum.getRight?_inr,aa]
 refine(congrArg (fun z=>au z _) c8).trans ?_
 rw[aa]
 refine(congrArg (fun z=>au z _) c9).trans ?_
 rw[aa]
 refine(congrArg (fun z=>au z _) c10).trans ?_
 rw[aa]
 simp only[Sum.isLeft_inl,ak,Sum.getLeft?_inl,aa]
 refine(congrArg (fun z=>au z _) (c11 1 [S])).trans ?_
 rw[aa]
 repeat (first | rw[ak] | rw[gO rfl])
 refine(congrArg (fun z=>au z _) c12).trans ?_
 rw[aa,ak]
 refine(congrArg (fun z=>au z _) (c13 0 [S])).trans ?_
 rw[aa,gO rfl,ak]
 refine(congrArg (fun z=>au z _) c14).trans ?_
 rw[aa,Bool.not_false,ak]
 refine(congrArg (fun z=>au z _) c15).trans ?_
 rfl
noncomputable def aL.E:=Entry.cM [] aL.st aL.az aL.add aL.F aL.out
noncomputable def aL.call:aL.D→Option aL.X:=bP aL.E aL.st
theorem aL.run:bK aL.call aL.az aL.add aL.F:=de (cW [] fun _=>by kernel_rfl)
noncomputable def aL.sg:SG Tryz.prog:=⟨25,aV,aL.E,.fn 0 (by kernel_rfl) aL.ok trivial⟩
set_option synthInstance.maxSize 5000
abbrev aT.L0.D:=(List fc)×(List jO)×Int
def aT.L0.st:aT.L0.D→AS:=fun(outs_2,acts_2,i)=>⟨([.d (.slice fA) outs_2,.d (.slice iI) acts_2,.undef,.undef,.undef,.d ti i]++bl 32 []),[],(List.replicate 38 [])⟩
abbrev aT.L0.Y0:=Unit
abbrev aT.L0.X0:=Unit
def aT.L0.bE:aT.L0.X0→Exit×AS:=fun x=>(.ret,⟨(bl 4 ([.d .bool false]++bl 33 [])),[],(List.replicate 38 [])⟩)
abbrev aT.L0.Y1:=Unit
abbrev aT.L0.X1:=(List fc)×(List jO)
def aT.L0.gT:aT.L0.X1→Exit×AS:=fun x=>(.exit 0,⟨([.d (.slice fA) x.1,.d (.slice iI) x.2]++bl 36 []),[],(List.replicate 38 [])⟩)
abbrev aT.L0.X:=(aT.L0.X0)⊕(aT.L0.X1)
abbrev aT.L0.Y:=(aT.L0.Y0)⊕(aT.L0.Y1)
def aT.L0.out:aT.L0.X→Out (Exit×AS):=fun x=> .br x.isLeft (.get x.getLeft? fun a=> .ok (aT.L0.bE a)) (.get x.getRight? fun b=> .ok (aT.L0.gT b))
def aT.L0.add:aT.L0.D→aT.L0.Y→aT.L0.X:=fun(outs_2,acts_2,i) y=>match y with | .inl y=> .inl y | .inr z=> .inr ((outs_2,acts_2))
abbrev aT.D:=(List fc)×(List jO)
def aT.st:aT.D→SA:=fun(outs,acts)=>([.d (.slice fA) outs,.d (.slice iI) acts],[])
abbrev aT.Y:=Bool
abbrev aT.X:=Bool
def aT.out:aT.X→aX:=fun x=>⟨.d .bool x,[],[]⟩
def aT.add:aT.D→aT.Y→aT.X:=fun(outs,acts) y=>y
def nk(a:jO):Bool:=decide (a.2.1.1.length≤8) && decide (a.2.1.2.1.length≤8)
def zs(outs:List fc)(acts:List jO):Bool:=acts.all nk && (decide (outs.length≤20) && decide (acts.length≤20))
def aT.L0.az:aT.L0.D→Prop:=fun(outs,acts,i)=>acts.length≤9223372036854775807∧∃k:Nat,k≤acts.length∧i=k
def aT.L0.F:aT.L0.D→aT.L0.Y:=fun(_,acts,i)=>if(acts.drop i.toNat).all nk then .inr () else .inl ()
def aT.az:aT.D→Prop:=fun(outs,acts)=>acts.length≤9223372036854775807
def aT.F:aT.D→aT.Y:=fun(outs,acts)=>zs outs acts
noncomputable def aT.G:dG:=eT (P:=Tryz.prog) []
noncomputable def aT.L0.E:=bW.cM aT.L0.st aT.L0.az aT.L0.add aT.L0.F aT.L0.out
noncomputable def aT.L0.call:aT.L0.D→Option aT.L0.X:=dF aT.L0.E aT.L0.st
noncomputable def aT.an:dX:= {loops:=l7 [(2,{bn:=[0,1,5]})],outs:=l6 [(2,{bn:=[0,1]},{bn:=[4]})],fK:=mU [(2,aT.L0.E)]}
noncomputable def aT.A:= @cR Tryz.prog aT.G aT.an 0 Tryz.f26 _ aT.st
abbrev aT.Ok:=cS @aT.A aT.az aT.add aT.F aT.out
noncomputable def aT.L0.R:= @cz Tryz.prog aT.G aT.an 0 Tryz.f26 0 _ aT.L0.st
abbrev aT.L0.Ok:=eK Tryz.prog aT.G aT.an 0 Tryz.f26 0 aT.L0.st aT.L0.az aT.L0.add aT.L0.F aT.L0.out
theorem aT.L0.run:bK aT.L0.call aT.L0.az aT.L0.add aT.L0.F:=eU (eQ [.d (.slice fA),.d (.slice iI),.d ti] fun _=>by kernel_rfl)
theorem aT.L0.aK:oe @aT.L0.R aT.L0.st aT.L0.az aT.L0.add aT.L0.F aT.L0.out aT.L0.Ok:=py
theorem aT.L0.step{R:Type}(outs_2:(List fc))(acts_2:(List jO))(i:Int)(kn:AS→Option R)(kx:Exit→AS→Option R):aT.L0.R (outs_2,acts_2,i) kn kx=
  aP ((gE i (((List.length acts_2):Nat):Int))) (
   aP (fo i (((List.length acts_2):Nat):Int)) (
   aP ((pZ (((List.length (nth iI acts_2 (Int.toNat i)).2.1.1):Nat):Int) (8:Int))) (
    kx (aT.L0.bE ()).1 (aT.L0.bE ()).2) (
    aP (fo i (((List.length acts_2):Nat):Int)) (
    aP ((pZ (((List.length (nth iI acts_2 (Int.toNat i)).2.1.2.1):Nat):Int) (8:Int))) (
     kx (aT.L0.bE ()).1 (aT.L0.bE ()).2) (
     kn (aT.L0.st (outs_2,acts_2,(b8 .i64 i (1:Int)))))) none)) none) (
   kx (aT.L0.gT (outs_2,acts_2)).1 (aT.L0.gT (outs_2,acts_2)).2):=by kernel_rfl
theorem aT.eq{R:Type}(outs:(List fc))(acts:(List jO))(k:aX→Option R):aT.A (outs,acts) k=
  au (aT.L0.call (outs,acts,(0:Int))) fun x1=>
  aP (x1.isLeft) (
   au (x1.getLeft?) fun a2=>
   k (aT.out false)) (
   au (x1.getRight?) fun b3=>
   aP ((zB (((List.length b3.1):Nat):Int) (20:Int))) (
    k (aT.out (zB (((List.length b3.2):Nat):Int) (20:Int)))) (
    k (aT.out false))):=by kernel_rfl
theorem aT.L0.ok:aT.L0.Ok:=by
 refine aT.L0.aK (fun(_,acts,i)=>acts.length - i.toNat) ?_
 rintro⟨outs,acts,i⟩ ⟨hl,k,hk,rfl⟩
 have hl:acts.length≤9223372036854775807:=hl
 have hk:k≤acts.length:=hk
 by_cases h:k < acts.length
 ·have n1:nth iI acts k=acts[k]:=cX (t:=iI) h
  have hd:(acts.drop k).all nk=(nk acts[k] && (acts.drop (k+1)).all nk):=by rw[List.drop_eq_getElem_cons h,List.all_cons]
  have step:∀ {R:Type} (kn:AS→Option R) (kx:Exit→AS→Option R),aT.L0.R (outs,acts,(k:Int)) kn kx=aP (nk acts[k]) (kn (aT.L0.st (outs,acts,((k+1:Nat):Int)))) (kx (aT.L0.bE ()).1 (aT.L0.bE ()).2):=by
   intro R kn kx
   rw[aT.L0.step,bq (by omega),bu (by omega) (by omega),Int.toNat_natCast,n1,N.nj (by omega)]
   unfold nk
   by_cases h1:acts[k].2.1.1.length≤8
   ·by_cases h2:acts[k].2.1.2.1.length≤8
    ·rw[dS (by omega),dS (by omega),aW h1,aW h2];rfl
    ·rw[dS (by omega),dZ (by omega),aW h1,bw h2];rfl
   ·rw[dZ (by omega),bw h1];rfl
  cases hp:nk acts[k]
  ·right
   refine⟨aT.L0.bE (),?_,fun kn kx=> ?_⟩
   ·simp only[aT.L0.add,aT.L0.F,Int.toNat_natCast,hd,hp,Bool.false_and,Bool.false_eq_true,if_false]
    rfl
   ·rw[step,hp,aw]
  ·left
   refine⟨(outs,acts,((k+1:Nat):Int)),⟨hl,k+1,by omega,rfl⟩,by simp only[Int.toNat_natCast];omega,?_,fun kn kx=> ?_⟩
   ·simp only[aT.L0.add,aT.L0.F,Int.toNat_natCast,hd,hp,Bool.true_and]
   ·rw[step,hp,ak]
 ·right
  obtain rfl:k=acts.length:=by omega
  refine⟨aT.L0.gT (outs,acts),?_,fun kn kx=> ?_⟩
  ·simp only[aT.L0.add,aT.L0.F,Int.toNat_natCast,List.drop_length]
   rfl
  ·rw[aT.L0.step,bm (by omega),aw]
theorem aT.ok:aT.Ok:=by
 rintro⟨outs,acts⟩ hl
 rw[aT.eq,aT.L0.run (d:=(outs,acts,0)) ⟨hl,0,Nat.zero_le _,rfl⟩]
 simp only[aa,aT.L0.add,aT.L0.F,Int.toNat_zero,List.drop_zero,aT.add,aT.F,zs]
 cases acts.all nk with
 |false=>simp only[Bool.false_eq_true,if_false,Sum.isLeft_inl,ak,Sum.getLeft?_inl,aa,Bool.false_and]
 |true=>
  simp only[if_true,Sum.isLeft_inr,aw,Sum.getRight?_inr,aa,Bool.true_and]
  by_cases h1:outs.length≤20
  ·rw[ln (by omega),ak,aW h1,Bool.true_and]
   by_cases h2:acts.length≤20
   ·rw[ln (by omega),aW h2]
   ·rw[iV (by omega),bw h2]
  ·rw[iV (by omega),aw,bw h1,Bool.false_and]
noncomputable def aT.E:=Entry.cM [some (.slice fA),some (.slice iI)] aT.st aT.az aT.add aT.F aT.out
noncomputable def aT.call:aT.D→Option aT.X:=bP aT.E aT.st
theorem aT.run:bK aT.call aT.az aT.add aT.F:=de (cW [.d (.slice fA),.d (.slice iI)] fun _=>by kernel_rfl)
noncomputable def aT.sg:SG Tryz.prog:=⟨26,aV,aT.E,.fn 1 (by kernel_rfl) aT.ok (And.intro (.cM aT.L0.ok (by kernel_rfl)) trivial)⟩
abbrev bz.L0.D:=(List bY)×(List bY)×Int
def bz.L0.st:bz.L0.D→AS:=fun(a_2,b_2,i)=>⟨([.d (.slice bD) a_2,.d (.slice bD) b_2,.undef,.undef,.undef,.d ti i]++bl 20 []),[],(List.replicate 26 [])⟩
abbrev bz.L0.Y0:=Unit
abbrev bz.L0.X0:=Unit
def bz.L0.bE:bz.L0.X0→Exit×AS:=fun x=>(.ret,⟨(bl 4 ([.d .bool false]++bl 21 [])),[],(List.replicate 26 [])⟩)
abbrev bz.L0.Y1:=Unit
abbrev bz.L0.X1:=Unit
def bz.L0.gT:bz.L0.X1→Exit×AS:=fun x=>(.exit 0,⟨(bl 26 []),[],(List.replicate 26 [])⟩)
abbrev bz.L0.X:=(bz.L0.X0)⊕(bz.L0.X1)
abbrev bz.L0.Y:=(bz.L0.Y0)⊕(bz.L0.Y1)
def bz.L0.out:bz.L0.X→Out (Exit×AS):=fun x=> .br x.isLeft (.get x.getLeft? fun a=> .ok (bz.L0.bE a)) (.get x.getRight? fun b=> .ok (bz.L0.gT b))
def bz.L0.add:bz.L0.D→bz.L0.Y→bz.L0.X:=fun(a_2,b_2,i) y=>match y with | .inl y=> .inl y | .inr z=> .inr (z)
abbrev bz.D:=(List bY)×(List bY)
def bz.st:bz.D→SA:=fun(a,b)=>([.d (.slice bD) a,.d (.slice bD) b],[])
abbrev bz.Y:=Bool
abbrev bz.X:=Bool
def bz.out:bz.X→aX:=fun x=>⟨.d .bool x,[],[]⟩
def bz.add:bz.D→bz.Y→bz.X:=fun(a,b) y=>y
def bz.L0.az:bz.L0.D→Prop:=fun(a,b,i)=>a.length≤1000000000∧a.length=b.length∧∃k:Nat,k≤a.length∧i=k
def bz.L0.F:bz.L0.D→bz.L0.Y:=fun(a,b,i)=>if List.drop (Int.toNat i) a=List.drop (Int.toNat i) b then .inr () else .inl ()
def bz.az:bz.D→Prop:=fun(a,_)=>a.length≤1000000000
def bz.F:bz.D→bz.Y:=fun(a,b)=>decide (a=b)
noncomputable def bz.G:dG:=eT (P:=Tryz.prog) []
noncomputable def bz.L0.E:=bW.cM bz.L0.st bz.L0.az bz.L0.add bz.L0.F bz.L0.out
noncomputable def bz.L0.call:bz.L0.D→Option bz.L0.X:=dF bz.L0.E bz.L0.st
noncomputable def bz.an:dX:= {loops:=l7 [(4,{bn:=[0,1,5]})],outs:=l6 [(4,{},{bn:=[4]})],fK:=mU [(4,bz.L0.E)]}
noncomputable def bz.A:= @cR Tryz.prog bz.G bz.an 0 Tryz.f31 _ bz.st
abbrev bz.Ok:=cS @bz.A bz.az bz.add bz.F bz.out
noncomputable def bz.L0.R:= @cz Tryz.prog bz.G bz.an 0 Tryz.f31 0 _ bz.L0.st
abbrev bz.L0.Ok:=eK Tryz.prog bz.G bz.an 0 Tryz.f31 0 bz.L0.st bz.L0.az bz.L0.add bz.L0.F bz.L0.out
theorem bz.L0.run:bK bz.L0.call bz.L0.az bz.L0.add bz.L0.F:=eU (eQ [.d (.slice bD),.d (.slice bD),.d ti] fun _=>by kernel_rfl)
theorem bz.L0.aK:oe @bz.L0.R bz.L0.st bz.L0.az bz.L0.add bz.L0.F bz.L0.out bz.L0.Ok:=py
theorem bz.L0.step{R:Type}(a_2:(List bY))(b_2:(List bY))(i:Int)(kn:AS→Option R)(kx:Exit→AS→Option R):bz.L0.R (a_2,b_2,i) kn kx=
  aP ((gE i (((List.length a_2):Nat):Int))) (
   aP (fo i (((List.length a_2):Nat):Int)) (
   aP (fo i (((List.length b_2):Nat):Int)) (
   aP ((!(Ty.beq bD (nth bD a_2 (Int.toNat i)) (nth bD b_2 (Int.toNat i))))) (
    kx (bz.L0.bE ()).1 (bz.L0.bE ()).2) (
    kn (bz.L0.st (a_2,b_2,(b8 .i64 i (1:Int)))))) none) none) (
   kx (bz.L0.gT ()).1 (bz.L0.gT ()).2):=by kernel_rfl
theorem bz.eq{R:Type}(a:(List bY))(b:(List bY))(k:aX→Option R):bz.A (a,b) k=
  aP ((tJ (((List.length a):Nat):Int) (((List.length b):Nat):Int))) (
   k (bz.out false)) (
   au (bz.L0.call (a,b,(0:Int))) fun x1=>
   aP (x1.isLeft) (
    au (x1.getLeft?) fun a2=>
    k (bz.out false)) (
    au (x1.getRight?) fun b3=>
    k (bz.out true))):=by kernel_rfl
theorem bz.L0.ok:bz.L0.Ok:=by
 refine bz.L0.aK (fun(a,b,i)=>a.length - Int.toNat i) ?_
 rintro⟨a,b,i⟩ ⟨hlen,hab,k,hk,rfl⟩
 have hlen:a.length≤1000000000:=hlen
 have hab:a.length=b.length:=hab
 have hk:k≤a.length:=hk
 by_cases h:k < a.length
 ·have h2:k < b.length:=by omega
  have n1:nth bD a k=a[k]:=cX (t:=bD) h
  have n2:nth bD b k=b[k]:=cX (t:=bD) h2
  have hd:(List.drop k a=List.drop k b)=(a[k]=b[k]∧List.drop (k+1) a=List.drop (k+1) b):=by rw[List.drop_eq_getElem_cons h,List.drop_eq_getElem_cons h2,List.cons.injEq]
  have step:∀ {R:Type} (kn:AS→Option R) (kx:Exit→AS→Option R),bz.L0.R (a,b,(k:Int)) kn kx=if a[k]=b[k] then kn (bz.L0.st (a,b,((k+1:Nat):Int))) else kx (bz.L0.bE ()).1 (bz.L0.bE ()).2:=by
   intro R kn kx
   rw[bz.L0.step,bq (by omega),bu (by omega) (by omega),bu (by omega) (by omega),Int.toNat_natCast,n1,n2]
   simp only[ak]
   rw[N.nj (by omega)]
   by_cases hx:a[k]=b[k]
   ·rw[(ov _ _).2 hx,if_pos hx];rfl
   ·rw[if_neg hx,show Ty.beq bD a[k] b[k]=false by cases hb:Ty.beq bD a[k] b[k]with | false=>rfl | true=>exact absurd ((ov _ _).1 hb) hx];rfl
  by_cases hx:a[k]=b[k]
  ·left
   refine⟨(a,b,((k+1:Nat):Int)),⟨hlen,hab,k+1,by omega,rfl⟩,by simp only[Int.toNat_natCast];omega,?_,fun kn kx=> ?_⟩
   ·simp only[bz.L0.add,bz.L0.F,Int.toNat_natCast,hd,hx,true_and]
   ·rw[step,if_pos hx]
  ·right
   refine⟨bz.L0.bE (),?_,fun kn kx=> ?_⟩
   ·simp only[bz.L0.add,bz.L0.F,Int.toNat_natCast,hd,hx,false_and,if_false]
    rfl
   ·rw[step,if_neg hx]
 ·right
  obtain rfl:k=a.length:=by omega
  refine⟨bz.L0.gT (),?_,fun kn kx=> ?_⟩
  ·simp only[bz.L0.add,bz.L0.F,Int.toNat_natCast,List.drop_length]
   rw[hab,List.drop_length,if_pos rfl]
   rfl
  ·rw[bz.L0.step,bm (by omega),aw]
theorem bz.ok:bz.Ok:=by
 rintro⟨a,b⟩ hl
 have hl:a.length≤1000000000:=hl
 rw[bz.eq]
 by_cases h:a.length=b.length
 ·rw[eY (by omega),aw,bz.L0.run (d:=(a,b,0)) ⟨hl,h,0,Nat.zero_le _,rfl⟩]
  simp only[aa,bz.L0.add,bz.L0.F,Int.toNat_zero,List.drop_zero,bz.add,bz.F]
  by_cases e:a=b
  ·rw[if_pos e,aW e];rfl
  ·rw[if_neg e,bw e];rfl
 ·rw[gh (by omega),ak]
  simp only[bz.add,bz.F,bw (fun e:a=b=>h (by rw[e]))]
noncomputable def bz.E:=Entry.cM [some (.slice bD),some (.slice bD)] bz.st bz.az bz.add bz.F bz.out
noncomputable def bz.call:bz.D→Option bz.X:=bP bz.E bz.st
theorem bz.run:bK bz.call bz.az bz.add bz.F:=de (cW [.d (.slice bD),.d (.slice bD)] fun _=>by kernel_rfl)
noncomputable def bz.sg:SG Tryz.prog:=⟨31,aV,bz.E,.fn 1 (by kernel_rfl) bz.ok (And.intro (.cM bz.L0.ok (by kernel_rfl)) trivial)⟩
structure mK(m n:Nat)(a:At)(s:List cr):Prop where
 iT:qN a
 le:n≤s.length
 len:s.length≤m
 Ey:∀st∈s,y9 st
 sum:fq a≤1125899906842624
 DA:a.length≤256+64*m
theorem mK.mono{m m' n:Nat}{a:At}{s:List cr}(h:mK m n a s)(hm:m≤m'):mK m' n a s:=⟨h.iT,h.le,Nat.le_trans h.len hm,h.Ey,h.sum,by have:=h.DA;omega⟩
theorem Az{a:At}(h:∀p∈a,0≤p.2.1.1):0≤fq a:=by
 induction a with
 |nil=>exact Int.le_refl 0
 |cons p a ih=>
  rw[fu]
  have:=h p List.mem_cons_self
  have:=ih fun q hq=>h q (List.mem_cons_of_mem _ hq)
  omega
theorem qN.pos{a:At}(h:qN a):0≤fq a:=Az fun p hp=>(h.2 p hp).2.2.2.1
theorem tN:∀(l:List fc) (sum:Int) (k:Nat) {a:At},0≤sum→sum≤1125899906842624→(∀o∈l,xd o)→qs sum k l=some a→
  a.length=l.length∧fq a=fw l∧sum+fw l≤1125899906842624∧(∀o∈l,0≤o.1)∧(∀p∈a,vg p.1∧Ez p.2∧(k:Int)≤p.1.2.1)∧(dL a).Nodup
 |[],sum,k,a,h0,h1,_,e=>by
  obtain rfl:=Option.some.inj e
  exact⟨rfl,rfl,by show sum+0≤_;omega,fun o ho=>(by cases ho),fun p hp=>(by cases hp),List.nodup_nil⟩
 |o::l,sum,k,a,h0,h1,hg,e=>by
  rw[qs]at e
  cases ho:lR sum o with
  |false=>rw[ho]at e;cases e
  |true=>
   rw[ho]at e
   simp only at e
   cases hr:qs (sum+o.1) (k+1) l with
   |none=>rw[hr]at e;cases e
   |some r=>
    rw[hr]at e
    obtain rfl:=Option.some.inj e
    have ho':=ho
    unfold lR at ho'
    simp only[Bool.and_eq_true,decide_eq_true_eq]at ho'
    obtain⟨k1,k2,k3⟩:=ho'
    obtain⟨i1,i2,i3,i4,i5,i6⟩:=tN l (sum+o.1) (k+1) (by omega) (by omega) (fun x hx=>hg x (List.mem_cons_of_mem _ hx)) hr
    have hu:=hg o List.mem_cons_self
    refine⟨by rw[List.length_cons,List.length_cons,i1],?_,by rw[mz];omega,fun x hx=> ?_,fun p hp=> ?_,?_⟩
    ·rw[fu,mz,i2];rfl
    ·rcases List.mem_cons.1 hx with rfl | hx
     ·exact k2
     ·exact i4 x hx
    ·rcases List.mem_cons.1 hp with rfl | hp
     ·refine⟨⟨by show(List.replicate 32 (0:Int)).length=32;rw[List.length_replicate],fun x hx=> ?_⟩,⟨k1,hu.1,k2,by show o.1≤_;omega,Int.le_refl 0,by show(0:Int)≤_;decide⟩,by show(k:Int)≤k;omega⟩
      have hx:x∈List.replicate 32 (0:Int):=hx
      obtain rfl:=(List.mem_replicate.1 hx).2
      exact⟨by decide,by decide⟩
     ·have:=i5 p hp
      exact⟨this.1,this.2.1,by omega⟩
    ·show((pW k o).1::dL r).Nodup
     refine List.nodup_cons.2 ⟨fun hm=> ?_,i6⟩
     obtain⟨p,hp,he⟩:=List.mem_map.1 hm
     have:=(i5 p hp).2.2
     have he:p.1=(pW k o).1:=he
     rw[he]at this
     have this:((k+1:Nat):Int)≤(k:Int):=this
     omega
theorem zR{outs:List fc}{a:At}(hg:∀o∈outs,xd o)(e:uR outs=some a):mK 0 0 a []∧fq a=fw outs∧a.length=outs.length∧outs.length≤256∧(∀o∈outs,0≤o.1)∧fw outs≤1125899906842624:=by
 unfold uR at e
 by_cases hl:outs.length≤256
 ·rw[if_pos hl]at e
  obtain⟨i1,i2,i3,i4,i5,i6⟩:=tN outs 0 0 (by decide) (by decide) hg e
  exact⟨⟨⟨i6,fun p hp=>⟨(i5 p hp).1,(i5 p hp).2.1⟩⟩,Nat.le_refl _,Nat.le_refl _,fun st hst=>(by cases hst),by omega,by omega⟩,i2,i1,hl,i4,by omega⟩
 ·rw[if_neg hl]at e;cases e
theorem CI{outs:List fc}(hg:∀o∈outs,xd o):aR.call outs=some (match uR outs with | none=> .inl () | some r=> .inr (r,[])):=by
 rw[aR.run (d:=outs) hg]
 simp only[aR.add,aR.F]
 cases uR outs <;> rfl
theorem tE:∀(l:List bY) (a:At),(kE a l).length=l.length
 |[],_=>rfl
 |o::l,a=>by rw[kE,List.length_cons,List.length_cons,tE l]
theorem BU{t:fg}{h fS:Int}{a:At}(hc:gD t h a fS):y9 (stepOf t a):=by
 have h1:=(iJ hc.ok).1
 have h2:=iY hc.ok
 have h3:=rC hc.ok
 unfold y9 stepOf
 rw[tE]
 exact⟨by omega,by show(ea t).length≤1000;omega⟩
section
variable {m n:Nat} {t:fg} {h:Int} {a:At} {s:List cr}
theorem mK.app(hg:mK m n a s)(hc:gD t h a (dJ t h a).1)(hv:ni t):mK (m+1) (n+1) (eO t h a) (s.take n++ [stepOf t a]):=by
 have hl:=hg.le
 have hm:=hg.len
 have hs:=hc.sum hg.iT.1
 have hp:=hc.pos
 have h1:=(iJ hc.ok).1
 have e:(s.take n).length=n:=by rw[List.length_take];omega
 refine⟨hc.iT hg.iT hv,by rw[List.length_append,e];exact Nat.le_refl _,by rw[List.length_append,e];show n+1≤_;omega,fun st hst=> ?_,?_,?_⟩
 ·rcases List.mem_append.1 hst with hst | hst
  ·exact hg.Ey st (List.mem_of_mem_take hst)
  ·rw[List.mem_singleton.1 hst];exact BU hc
 ·have:=hg.sum;omega
 ·have:=hg.DA;omega
theorem mK.apply(hg:mK m n a s)(hm:m≤1000)(hv:ni t):((dJ t h a).2≠0∧aB.call (t,h,n,a,s)=some (.inl ((dJ t h a).2,n,a,s)))∨
  (gD t h a (dJ t h a).1∧(dJ t h a).2=0∧aB.call (t,h,n,a,s)=some (.inr (0,n+1,eO t h a,s.take n++ [stepOf t a]))∧mK (m+1) (n+1) (eO t h a) (s.take n++ [stepOf t a])):=by
 have hr:=aB.run (d:=(t,h,n,a,s)) ⟨hv,hg.iT,hg.le,by have:=hg.len;show s.length≤_;omega⟩
 by_cases he:(dJ t h a).2=0
 ·right
  refine⟨qB he,he,?_,hg.app (qB he) hv⟩
  rw[hr]
  simp only[aB.add,aB.F,he,ne_eq,not_true_eq_false,if_false]
 ·left
  refine⟨he,?_⟩
  rw[hr]
  simp only[aB.add,aB.F,ne_eq,he,not_false_eq_true,if_true]
theorem mK.check(hg:mK m n a s)(hv:ni t):ao.call (t,h,n,a,s)=some ((dJ t h a).1,(dJ t h a).2,n,a,s):=ao.run (d:=(t,h,n,a,s)) ⟨hv,hg.iT⟩
noncomputable def qQ(a:At):List bY:=nX (t:=bD) nG (dL a)
theorem mK.all(hg:mK m n a s)(hm:m≤1000):aY.call (n,a,s)=some (a.length,n,a,s,qQ a):=aY.run (d:=(n,a,s)) ⟨by have:=hg.DA;show a.length≤_;omega,fun p hp=>(hg.iT.2 p hp).1⟩
theorem mK.total(hg:mK m n a s):aU.call (n,a,s)=some (fq a,n,a,s):=aU.run (d:=(n,a,s)) ⟨fun p hp=>(hg.iT.2 p hp).2.2.2.1,by have:=hg.sum;show fq a≤_;omega⟩
theorem mK.get(hg:mK m n a s)(o:bY):cP.call (o,n,a,s)=some ((n,a,s),((bQ bD o a).getD uf,(bQ bD o a).isSome)):=cP.run (d:=(o,n,a,s)) hg.iT
theorem mK.copy(hg:mK m n a s)(hm:m≤1000):aO.call (n,a,s)=some (n,a,s,(s.take n).length,eo a,s.take n):=aO.run (d:=(n,a,s)) ⟨hg.le,by have:=hg.len;show s.length≤_;omega,hg.iT.1⟩
theorem mK.CZ(hg:mK m n a s)(hm:m≤1000):aC.call (n,a,s)=some (if n=0 then(false,n,a,s) else(true,n - 1,lz a (nth cD s (n - 1)),s)):=aC.run (d:=(n,a,s)) ⟨hg.le,by have:=hg.len;show s.length≤_;omega,hg.Ey⟩
theorem qN.perm{a':At}(h:qN a)(hp:a.Perm a'):qN a':=⟨(hp.map _).nodup_iff.1 h.1,fun p hm=>h.2 p (hp.mem_iff.2 hm)⟩
theorem mK.canon(hg:mK m n a s):mK m n (eo a) (s.take n)∧(s.take n).length=n:=by
 have hp:=il a
 have e:(s.take n).length=n:=by rw[List.length_take];have:=hg.le;omega
 exact⟨⟨hg.iT.perm hp.symm,by omega,by have:=hg.le;have:=hg.len;omega,fun st hst=>hg.Ey st (List.mem_of_mem_take hst),by rw[j7 hp];exact hg.sum,by rw[hp.length_eq];exact hg.DA⟩,e⟩
end
theorem tg{a a':At}(h:qN a')(hp:a.Perm a'):qQ a=qQ a':=tZ (hp.map _) fun x hx=>by
 obtain⟨p,hp,rfl⟩:=List.mem_map.1 hx
 exact(h.2 p hp).1
theorem Aw{a:At}(h:qN a):(qQ a).Perm (dL a):=(u6 oA fun x hx=>by
 obtain⟨p,hp,rfl⟩:=List.mem_map.1 hx
 exact(h.2 p hp).1).1
end Go.Ab
namespace Go.Ab
open Go.Proofs
set_option maxRecDepth 100000
set_option linter.unusedVariables false
set_option linter.unusedSimpArgs false
set_option synthInstance.maxSize 5000
theorem DP{outs:List fc}{acts:List jO}(h:zs outs acts=true):outs.length≤20∧acts.length≤20∧∀x∈acts,x.2.1.1.length≤8∧x.2.1.2.1.length≤8:=by
 unfold zs at h
 simp only[Bool.and_eq_true,decide_eq_true_eq,List.all_eq_true]at h
 refine⟨h.2.1,h.2.2,fun x hx=> ?_⟩
 have:=h.1 x hx
 unfold nk at this
 simpa only[Bool.and_eq_true,decide_eq_true_eq]using this
abbrev vi:=Nat×At×List cr
def fL(S:vi)(x:jO):vi:=if(dJ x.2.1 x.2.2.1 S.2.1).2≠0 then S else(S.1+1,eO x.2.1 x.2.2.1 S.2.1,S.2.2.take S.1++ [stepOf x.2.1 S.2.1])
abbrev sK(m:Nat)(S:vi):Prop:=mK m S.1 S.2.1 S.2.2
theorem lh{m:Nat}{S:vi}{x:jO}(hg:sK m S)(hm:m≤1000)(hv:ni x.2.1):sK (m+1) (fL S x)∧
  (aB.call (x.2.1,x.2.2.1,S.1,S.2.1,S.2.2)=some (.inr (0,fL S x))∧(dJ x.2.1 x.2.2.1 S.2.1).2=0∨aB.call (x.2.1,x.2.2.1,S.1,S.2.1,S.2.2)=some (.inl ((dJ x.2.1 x.2.2.1 S.2.1).2,fL S x))∧(dJ x.2.1 x.2.2.1 S.2.1).2≠0):=by
 rcases hg.apply (t:=x.2.1) (h:=x.2.2.1) hm hv with⟨h1,h2⟩ | ⟨h1,h2,h3,h4⟩
 ·have e:fL S x=S:=by unfold fL;rw[if_pos h1]
  rw[e]
  exact⟨hg.mono (Nat.le_succ _),.inr ⟨h2,h1⟩⟩
 ·have e:fL S x=(S.1+1,eO x.2.1 x.2.2.1 S.2.1,S.2.2.take S.1++ [stepOf x.2.1 S.2.1]):=by unfold fL;rw[if_neg (fun e=>e h2)]
  rw[e]
  exact⟨h4,.inl ⟨h3,h2⟩⟩
theorem nB:∀(l:List jO) {m:Nat} {S:vi},sK m S→m+l.length≤1000→(∀x∈l,ni x.2.1)→sK (m+l.length) (l.foldl fL S)
 |[],_,_,hg,_,_=>hg
 |x::l,m,S,hg,hm,hv=>by
  rw[List.length_cons]at hm ⊢
  rw[List.foldl_cons,show m+(l.length+1)=(m+1)+l.length by omega]
  exact nB l (lh hg (by omega) (hv x List.mem_cons_self)).1 (by omega) fun y hy=>hv y (List.mem_cons_of_mem _ hy)
set_option synthInstance.maxSize 5000
theorem yV{a b:List bY}(h:a.length≤1000000000):bz.call (a,b)=some (decide (a=b)):=bz.run (d:=(a,b)) h
theorem om{a:At}(h:qN a):(qQ a).length=a.length:=by rw[(Aw h).length_eq,List.length_map]
theorem oB{l:List bY}{n:Nat}(h:l.length=n):cut l 0 n=l:=by
 subst h
 simp[cut]
set_option synthInstance.maxSize 5000
def jI(a a':At):Prop:=∀o,bQ bD o a=bQ bD o a'
theorem jI.refl(a:At):jI a a:=fun _=>rfl
theorem jI.symm{a b:At}(h:jI a b):jI b a:=fun o=>(h o).symm
theorem jI.trans{a b c:At}(h:jI a b)(h':jI b c):jI a c:=fun o=>(h o).trans (h' o)
theorem jI.perm{a b:At}(h:jI a b)(ha:(dL a).Nodup)(hb:(dL b).Nodup):a.Perm b:=C9 ha hb h
theorem jI.del{a b:At}(h:jI a b)(ha:(dL a).Nodup)(hb:(dL b).Nodup)(l:List bY):jI (jU l a) (jU l b):=fun o=>by
 rw[rn o l ha,rn o l hb,h o]
theorem mY(e:ug)(l:List ug)(a:At):rW (e::l) a=rW l (ef bD e.1 e.2.1 a):=rfl
theorem jI.set{a b:At}(h:jI a b)(o:bY)(c:dB):jI (ef bD o c a) (ef bD o c b):=fun x=>by rw[zA,zA,h x]
theorem jI.put:∀(l:List ug) {a b:At},jI a b→jI (rW l a) (rW l b)
 |[],_,_,h=>h
 |e::l,a,b,h=>by rw[mY,mY];exact jI.put l (h.set _ _)
theorem rX:∀(l:List ug) {a:At},(dL a).Nodup→(dL (rW l a)).Nodup
 |[],_,h=>h
 |e::l,a,h=>by rw[mY];exact rX l (nP h)
theorem kN{a:At}(h:(dL a).Nodup)(st:cr):(dL (lz a st)).Nodup:=rX _ (lF _ h)
theorem jI.CZ{a b:At}(h:jI a b)(ha:(dL a).Nodup)(hb:(dL b).Nodup)(st:cr):jI (lz a st) (lz b st):=jI.put _ (h.del ha hb _)
theorem jI.add(h:Int):∀(l:List bY) (xs:List fc) {a b:At},jI a b→jI (nC h l xs a) (nC h l xs b)
 |[],[],_,_,e=>e
 |[],_::_,_,_,e=>e
 |_::_,[],_,_,e=>e
 |o::l,x::xs,a,b,e=>by rw[j6,j6];exact jI.add h l xs (e.set _ _)
theorem jI.apply{a b:At}(e:jI a b)(ha:(dL a).Nodup)(hb:(dL b).Nodup)(t:fg)(h:Int):jI (eO t h a) (eO t h b):=jI.add h _ _ (e.del ha hb _)
theorem jI.ins{a b:At}(e:jI a b)(h:Int)(id:List Int):∀(l:List gW) (f:Int),iW h id a l f=iW h id b l f
 |[],_=>rfl
 |x::l,f=>by
  simp only[iW,e x.1]
  cases bQ bD x.1 b with
  |none=>rfl
  |some c=>simp only[jI.ins e h id l]
theorem jI.check{a b:At}(e:jI a b)(t:fg)(h:Int):dJ t h a=dJ t h b:=by
 have e2:gw a=gw b:=funext fun o=>by unfold gw;rw[e o]
 unfold dJ
 rw[e.ins,e2]
theorem Da(x:bY):∀(l:List bY) {a:At} (b:At),(dL a).Nodup→l.Nodup→(∀o∈l,(bQ bD o a).isSome=true)→bQ bD x (rW (kE a l) b)=if x∈l then bQ bD x a else bQ bD x b
 |[],a,b,_,_,_=>by rw[if_neg (by simp)];rfl
 |o::l,a,b,hn,hl,ht=>by
  rw[List.nodup_cons]at hl
  obtain⟨c,hc⟩:=Option.isSome_iff_exists.1 (ht o List.mem_cons_self)
  have ht':∀y∈l,(bQ bD y (fe bD o a)).isSome=true:=fun y hy=>by
   rw[zw y o hn,if_neg (fun e=>hl.1 (by rw[←e];exact hy))]
   exact ht y (List.mem_cons_of_mem _ hy)
  rw[kE,mY,Da x l _ (iS hn) hl.2 ht',zw x o hn,hc]
  by_cases h1:x∈l
  ·have h2:¬x=o:=fun e=>hl.1 (by rw[←e];exact h1)
   rw[if_pos h1,if_neg h2,if_pos (List.mem_cons_of_mem _ h1)]
  ·rw[if_neg h1]
   show bQ bD x (ef bD o c b)=_
   rw[zA]
   by_cases h2:x=o
   ·subst h2
    rw[if_pos rfl,if_pos List.mem_cons_self,hc]
   ·rw[if_neg h2,if_neg (by simp[h1,h2])]
theorem yn{t:fg}{h fS:Int}{a:At}(hc:gD t h a fS)(ha:(dL a).Nodup):jI (lz (eO t h a) (stepOf t a)) a:=fun o=>by
 unfold lz stepOf
 rw[Da o (cT t) _ ha (pe t) hc.there]
 by_cases h1:o∈cT t
 ·rw[if_pos h1]
 ·rw[if_neg h1]
  show bQ bD o (jU (ea t) (eO t h a))=_
  rw[rn o _ (jR ha)]
  by_cases h2:o∈ea t
  ·rw[if_pos h2,hc.made o h2]
  ·rw[if_neg h2,oo ha h1 h2]
def dO:Nat→At→List cr→At
 | 0,a,_=>a
 |n+1,a,s=>dO n (lz a (nth cD s n)) s
theorem nv:∀(n:Nat) {a:At} (s:List cr),(dL a).Nodup→(dL (dO n a s)).Nodup
 | 0,_,_,h=>h
 |n+1,_,s,h=>nv n s (kN h _)
theorem qk:∀(n:Nat) {a b:At} (s:List cr),jI a b→(dL a).Nodup→(dL b).Nodup→jI (dO n a s) (dO n b s)
 | 0,_,_,_,e,_,_=>e
 |n+1,_,_,s,e,ha,hb=>qk n s (e.CZ ha hb _) (kN ha _) (kN hb _)
theorem pn:∀(n:Nat) (a:At) (s s':List cr),(∀k,k < n→nth cD s k=nth cD s' k)→dO n a s=dO n a s'
 | 0,_,_,_,_=>rfl
 |n+1,a,s,s',h=>by
  rw[dO,dO,h n (Nat.lt_succ_self n)]
  exact pn n _ s s' fun k hk=>h k (Nat.lt_succ_of_lt hk)
theorem Bu{s:List cr}{x:cr}{n k:Nat}(hn:n≤s.length)(hk:k < n):nth cD (s.take n++ [x]) k=nth cD s k:=by
 have h1:k < (s.take n++ [x]).length:=by rw[List.length_append,List.length_take];omega
 rw[cX (t:=cD) h1,cX (t:=cD) (show k < s.length by omega)]
 show(List.take n s++ [x])[k]=s[k]
 rw[List.getElem_append_left (by rw[List.length_take];omega),List.getElem_take]
theorem Bt{s:List cr}{x:cr}{n:Nat}(hn:n≤s.length):nth cD (s.take n++ [x]) n=x:=by
 have e:(s.take n).length=n:=by rw[List.length_take];omega
 have h1:n < (s.take n++ [x]).length:=by rw[List.length_append,e];exact Nat.lt_succ_self n
 rw[cX (t:=cD) h1]
 show(List.take n s++ [x])[n]=x
 rw[List.getElem_append_right (by omega)]
 simp[e]
theorem Ak{m:Nat}{S:vi}(hg:sK m S)(x:jO):jI (dO (fL S x).1 (fL S x).2.1 (fL S x).2.2) (dO S.1 S.2.1 S.2.2):=by
 unfold fL
 by_cases h:(dJ x.2.1 x.2.2.1 S.2.1).2=0
 ·rw[if_neg (fun e=>e h)]
  have hc:=qB h
  have ha:=hg.iT.1
  show jI (dO S.1 (lz (eO x.2.1 x.2.2.1 S.2.1) (nth cD (S.2.2.take S.1++ [stepOf x.2.1 S.2.1]) S.1)) (S.2.2.take S.1++ [stepOf x.2.1 S.2.1])) _
  rw[Bt hg.le,pn S.1 _ _ S.2.2 fun k hk=>Bu hg.le hk]
  exact qk _ _ (yn hc ha) (kN (jR ha) _) ha
 ·rw[if_pos h]
  exact jI.refl _
theorem w7:∀(l:List jO) {m:Nat} {S:vi},sK m S→m+l.length≤1000→(∀x∈l,ni x.2.1)→jI (dO (l.foldl fL S).1 (l.foldl fL S).2.1 (l.foldl fL S).2.2) (dO S.1 S.2.1 S.2.2)
 |[],_,_,_,_,_=>jI.refl _
 |x::l,m,S,hg,hm,hv=>by
  rw[List.length_cons]at hm
  rw[List.foldl_cons]
  exact(w7 l (lh hg (by omega) (hv x List.mem_cons_self)).1 (by omega) fun y hy=>hv y (List.mem_cons_of_mem _ hy)).trans (Ak hg x)
theorem vk:∀(l:List jO) {m m':Nat} {S S':vi},sK m S→sK m' S'→m+l.length≤1000→m'+l.length≤1000→(∀x∈l,ni x.2.1)→jI S.2.1 S'.2.1→jI (l.foldl fL S).2.1 (l.foldl fL S').2.1
 |[],_,_,_,_,_,_,_,_,_,e=>e
 |x::l,m,m',S,S',hg,hg',hm,hm',hv,e=>by
  rw[List.length_cons]at hm hm'
  rw[List.foldl_cons,List.foldl_cons]
  refine vk l (lh hg (by omega) (hv x List.mem_cons_self)).1 (lh hg' (by omega) (hv x List.mem_cons_self)).1 (by omega) (by omega) (fun y hy=>hv y (List.mem_cons_of_mem _ hy)) ?_
  unfold fL
  rw[e.check]
  by_cases h:(dJ x.2.1 x.2.2.1 S'.2.1).2=0
  ·rw[if_neg (fun e=>e h),if_neg (fun e=>e h)]
   exact e.apply hg.iT.1 hg'.iT.1 _ _
  ·rw[if_pos h,if_pos h]
   exact e
abbrev av.L0.D:=(List fc)×(List jO)×Bool×Int×Int×Nat×(List (bY×dB))×(List cr)×Nat×(List (bY×dB))×(List cr)
def av.L0.st:av.L0.D→AS:=fun(outs_2,acts_2,head,n,i,n19L,n19,n19_2,n28L,n28,n28_2)=>⟨([.d (.slice fA) outs_2,.d (.slice iI) acts_2,.undef,.undef,.undef,.d .bool head,.undef,.ptr (.new 19 0) 0 [] 0,.ptr (.new 28 0) 0 [] 0,.d ti n,.d ti i]++bl 117 []),[],(cj 19 ([[.obj 0 false (.pr (.dn (.new 19 1) 0) (.pr (.bp (.new 19 2) 0 [] 0 0 n19L) (.d .unit ()))),.obj 0 false (.mp bD eJ n19),.obj 0 false (.vec 161 cD n19_2)]]++cj 8 ([[.obj 0 false (.pr (.dn (.new 28 1) 0) (.pr (.bp (.new 28 2) 0 [] 0 0 n28L) (.d .unit ()))),.obj 0 false (.mp bD eJ n28),.obj 0 false (.vec 161 cD n28_2)]]++cj 99 [])))⟩
abbrev av.L0.Y0:=Int×Nat×(List (bY×dB))×(List cr)
abbrev av.L0.X0:=((List fc)×(List jO)×Bool×Nat×(List (bY×dB))×(List cr))×(Int×Nat×(List (bY×dB))×(List cr))
def av.L0.bE:av.L0.X0→Exit×AS:=fun x=>(.exit 0,⟨([.d (.slice fA) x.1.1,.d (.slice iI) x.1.2.1,.undef,.undef,.undef,.d .bool x.1.2.2.1,.undef,.ptr (.new 19 0) 0 [] 0,.ptr (.new 28 0) 0 [] 0,.d ti x.2.1]++bl 118 []),[],(cj 19 ([[.obj 0 false (.pr (.dn (.new 19 1) 0) (.pr (.bp (.new 19 2) 0 [] 0 0 x.2.2.1) (.d .unit ()))),.obj 0 false (.mp bD eJ x.2.2.2.1),.obj 0 false (.vec 161 cD x.2.2.2.2)]]++cj 8 ([[.obj 0 false (.pr (.dn (.new 28 1) 0) (.pr (.bp (.new 28 2) 0 [] 0 0 x.1.2.2.2.1) (.d .unit ()))),.obj 0 false (.mp bD eJ x.1.2.2.2.2.1),.obj 0 false (.vec 161 cD x.1.2.2.2.2.2)]]++cj 99 [])))⟩)
abbrev av.L0.X:=av.L0.X0
abbrev av.L0.Y:=av.L0.Y0
def av.L0.out:av.L0.X→Out (Exit×AS):=fun x=> .ok (av.L0.bE x)
def av.L0.add:av.L0.D→av.L0.Y→av.L0.X:=fun(outs_2,acts_2,head,n,i,n19L,n19,n19_2,n28L,n28,n28_2) y=>((outs_2,acts_2,head,n28L,n28,n28_2),y)
abbrev av.L1.D:=(List fc)×(List jO)×Bool×Int×Int×Nat×(List (bY×dB))×(List cr)×Nat×(List (bY×dB))×(List cr)×Nat×(List (bY×dB))×(List cr)
def av.L1.st:av.L1.D→AS:=fun(outs_3,acts_3,head_2,n_2,i_2,n19L_2,n19_3,n19_4,n28L_2,n28_3,n28_4,n51L,n51,n51_2)=>⟨([.d (.slice fA) outs_3,.d (.slice iI) acts_3,.undef,.undef,.undef,.d .bool head_2,.undef,.ptr (.new 19 0) 0 [] 0,.ptr (.new 28 0) 0 [] 0,.d ti n_2,.undef,.ptr (.new 51 0) 0 [] 0,.d ti i_2]++bl 115 []),[],(cj 19 ([[.obj 0 false (.pr (.dn (.new 19 1) 0) (.pr (.bp (.new 19 2) 0 [] 0 0 n19L_2) (.d .unit ()))),.obj 0 false (.mp bD eJ n19_3),.obj 0 false (.vec 161 cD n19_4)]]++cj 8 ([[.obj 0 false (.pr (.dn (.new 28 1) 0) (.pr (.bp (.new 28 2) 0 [] 0 0 n28L_2) (.d .unit ()))),.obj 0 false (.mp bD eJ n28_3),.obj 0 false (.vec 161 cD n28_4)]]++cj 22 ([[.obj 0 false (.pr (.dn (.new 51 1) 0) (.pr (.bp (.new 51 2) 0 [] 0 0 n51L) (.d .unit ()))),.obj 0 false (.mp bD eJ n51),.obj 0 false (.vec 161 cD n51_2)]]++cj 76 []))))⟩
abbrev av.L1.Y0:=Unit
abbrev av.L1.X0:=Unit
def av.L1.bE:av.L1.X0→Exit×AS:=fun x=>(.ret,⟨(bl 4 ([.d .bool false]++bl 123 [])),[],(List.replicate 128 [])⟩)
abbrev av.L1.Y1:=Nat×(List (bY×dB))×(List cr)
abbrev av.L1.X1:=((List fc)×(List jO)×Bool×Nat×(List (bY×dB))×(List cr)×Nat×(List (bY×dB))×(List cr))×(Nat×(List (bY×dB))×(List cr))
def av.L1.gT:av.L1.X1→Exit×AS:=fun x=>(.exit 2,⟨([.d (.slice fA) x.1.1,.d (.slice iI) x.1.2.1,.undef,.undef,.undef,.d .bool x.1.2.2.1,.undef,.ptr (.new 19 0) 0 [] 0,.ptr (.new 28 0) 0 [] 0,.undef,.undef,.ptr (.new 51 0) 0 [] 0]++bl 116 []),[],(cj 19 ([[.obj 0 false (.pr (.dn (.new 19 1) 0) (.pr (.bp (.new 19 2) 0 [] 0 0 x.2.1) (.d .unit ()))),.obj 0 false (.mp bD eJ x.2.2.1),.obj 0 false (.vec 161 cD x.2.2.2)]]++cj 8 ([[.obj 0 false (.pr (.dn (.new 28 1) 0) (.pr (.bp (.new 28 2) 0 [] 0 0 x.1.2.2.2.1) (.d .unit ()))),.obj 0 false (.mp bD eJ x.1.2.2.2.2.1),.obj 0 false (.vec 161 cD x.1.2.2.2.2.2.1)]]++cj 22 ([[.obj 0 false (.pr (.dn (.new 51 1) 0) (.pr (.bp (.new 51 2) 0 [] 0 0 x.1.2.2.2.2.2.2.1) (.d .unit ()))),.obj 0 false (.mp bD eJ x.1.2.2.2.2.2.2.2.1),.obj 0 false (.vec 161 cD x.1.2.2.2.2.2.2.2.2)]]++cj 76 []))))⟩)
abbrev av.L1.X:=(av.L1.X0)⊕(av.L1.X1)
abbrev av.L1.Y:=(av.L1.Y0)⊕(av.L1.Y1)
def av.L1.out:av.L1.X→Out (Exit×AS):=fun x=> .br x.isLeft (.get x.getLeft? fun a=> .ok (av.L1.bE a)) (.get x.getRight? fun b=> .ok (av.L1.gT b))
def av.L1.add:av.L1.D→av.L1.Y→av.L1.X:=fun(outs_3,acts_3,head_2,n_2,i_2,n19L_2,n19_3,n19_4,n28L_2,n28_3,n28_4,n51L,n51,n51_2) y=>match y with | .inl y=> .inl y | .inr z=> .inr (((outs_3,acts_3,head_2,n28L_2,n28_3,n28_4,n51L,n51,n51_2),z))
abbrev av.L2.D:=(List fc)×(List jO)×Bool×Int×Nat×(List (bY×dB))×(List cr)×Nat×(List (bY×dB))×(List cr)×Nat×(List (bY×dB))×(List cr)
def av.L2.st:av.L2.D→AS:=fun(outs_4,acts_4,head_3,i_3,n19L_3,n19_5,n19_6,n28L_3,n28_5,n28_6,n51L_2,n51_3,n51_4)=>⟨([.d (.slice fA) outs_4,.d (.slice iI) acts_4,.undef,.undef,.undef,.d .bool head_3,.undef,.ptr (.new 19 0) 0 [] 0,.ptr (.new 28 0) 0 [] 0,.undef,.undef,.ptr (.new 51 0) 0 [] 0,.undef,.d ti i_3]++bl 114 []),[],(cj 19 ([[.obj 0 false (.pr (.dn (.new 19 1) 0) (.pr (.bp (.new 19 2) 0 [] 0 0 n19L_3) (.d .unit ()))),.obj 0 false (.mp bD eJ n19_5),.obj 0 false (.vec 161 cD n19_6)]]++cj 8 ([[.obj 0 false (.pr (.dn (.new 28 1) 0) (.pr (.bp (.new 28 2) 0 [] 0 0 n28L_3) (.d .unit ()))),.obj 0 false (.mp bD eJ n28_5),.obj 0 false (.vec 161 cD n28_6)]]++cj 22 ([[.obj 0 false (.pr (.dn (.new 51 1) 0) (.pr (.bp (.new 51 2) 0 [] 0 0 n51L_2) (.d .unit ()))),.obj 0 false (.mp bD eJ n51_3),.obj 0 false (.vec 161 cD n51_4)]]++cj 76 []))))⟩
abbrev av.L2.Y0:=Nat×(List (bY×dB))×(List cr)
abbrev av.L2.X0:=((List fc)×Bool×Nat×(List (bY×dB))×(List cr)×Nat×(List (bY×dB))×(List cr))×(Nat×(List (bY×dB))×(List cr))
def av.L2.bE:av.L2.X0→Exit×AS:=fun x=>(.exit 4,⟨([.d (.slice fA) x.1.1]++bl 4 ([.d .bool x.1.2.1,.undef,.ptr (.new 19 0) 0 [] 0,.ptr (.new 28 0) 0 [] 0,.undef,.undef,.ptr (.new 51 0) 0 [] 0]++bl 116 [])),[],(cj 19 ([[.obj 0 false (.pr (.dn (.new 19 1) 0) (.pr (.bp (.new 19 2) 0 [] 0 0 x.2.1) (.d .unit ()))),.obj 0 false (.mp bD eJ x.2.2.1),.obj 0 false (.vec 161 cD x.2.2.2)]]++cj 8 ([[.obj 0 false (.pr (.dn (.new 28 1) 0) (.pr (.bp (.new 28 2) 0 [] 0 0 x.1.2.2.1) (.d .unit ()))),.obj 0 false (.mp bD eJ x.1.2.2.2.1),.obj 0 false (.vec 161 cD x.1.2.2.2.2.1)]]++cj 22 ([[.obj 0 false (.pr (.dn (.new 51 1) 0) (.pr (.bp (.new 51 2) 0 [] 0 0 x.1.2.2.2.2.2.1) (.d .unit ()))),.obj 0 false (.mp bD eJ x.1.2.2.2.2.2.2.1),.obj 0 false (.vec 161 cD x.1.2.2.2.2.2.2.2)]]++cj 76 []))))⟩)
abbrev av.L2.X:=av.L2.X0
abbrev av.L2.Y:=av.L2.Y0
def av.L2.out:av.L2.X→Out (Exit×AS):=fun x=> .ok (av.L2.bE x)
def av.L2.add:av.L2.D→av.L2.Y→av.L2.X:=fun(outs_4,acts_4,head_3,i_3,n19L_3,n19_5,n19_6,n28L_3,n28_5,n28_6,n51L_2,n51_3,n51_4) y=>((outs_4,head_3,n28L_3,n28_5,n28_6,n51L_2,n51_3,n51_4),y)
abbrev av.D:=(List fc)×(List jO)
def av.st:av.D→SA:=fun(outs,acts)=>([.d (.slice fA) outs,.d (.slice iI) acts],[])
abbrev av.Y:=Bool
abbrev av.X:=Bool
def av.out:av.X→aX:=fun x=>⟨.d .bool x,[],[]⟩
def av.add:av.D→av.Y→av.X:=fun(outs,acts) y=>y
def av.L0.az:av.L0.D→Prop:=fun(_,acts,_,c,i,n,a,s,_,_,_)=>acts.length≤20∧(∀x∈acts,ni x.2.1)∧c=n∧∃k:Nat,k≤acts.length∧i=k∧mK k n a s
def av.L0.F:av.L0.D→av.L0.Y:=fun(_,acts,_,_,i,n,a,s,_,_,_)=>((((acts.drop i.toNat).foldl fL (n,a,s)).1:Int),(acts.drop i.toNat).foldl fL (n,a,s))
def av.L1.az:av.L1.D→Prop:=fun(_,_,_,c,i,n,a,s,_,_,_,_,_,_)=>c≤1000∧0≤i∧i+n=c∧n≤s.length∧s.length≤1000∧∀st∈s,y9 st
def av.L1.F:av.L1.D→av.L1.Y:=fun(_,_,_,_,_,n,a,s,_,_,_,_,_,_)=> .inr (0,dO n a s,s)
def av.L2.az:av.L2.D→Prop:=fun(_,acts,_,i,n,a,s,_,_,_,_,_,_)=>acts.length≤20∧(∀x∈acts,ni x.2.1)∧∃k:Nat,k≤acts.length∧i=k∧mK (100+k) n a s
def av.L2.F:av.L2.D→av.L2.Y:=fun(_,acts,_,i,n,a,s,_,_,_,_,_,_)=>(acts.drop i.toNat).foldl fL (n,a,s)
def av.az:av.D→Prop:=fun(outs,acts)=>(∀o∈outs,xd o)∧acts.length≤9223372036854775807∧(∀x∈acts,ni x.2.1)
def av.F:av.D→av.Y:=fun _=>true
noncomputable def av.G:dG:=eT (P:=Tryz.prog) [aL.sg,aT.sg,aR.sg,aO.sg,aB.sg,aC.sg,aY.sg,bz.sg,aU.sg]
noncomputable def av.L0.E:=bW.cM av.L0.st av.L0.az av.L0.add av.L0.F av.L0.out
noncomputable def av.L0.call:av.L0.D→Option av.L0.X:=dF av.L0.E av.L0.st
noncomputable def av.L1.E:=bW.cM av.L1.st av.L1.az av.L1.add av.L1.F av.L1.out
noncomputable def av.L1.call:av.L1.D→Option av.L1.X:=dF av.L1.E av.L1.st
noncomputable def av.L2.E:=bW.cM av.L2.st av.L2.az av.L2.add av.L2.F av.L2.out
noncomputable def av.L2.call:av.L2.D→Option av.L2.X:=dF av.L2.E av.L2.st
noncomputable def av.an:dX:= {loops:=l7 [(9,{bn:=[0,1,5,7,8,9,10],sites:=[19,28],kk:=[⟨7,[],19,0⟩,⟨8,[],28,0⟩]}),(17,{bn:=[0,1,5,7,8,9,11,12],sites:=[19,28,51],kk:=[⟨7,[],19,0⟩,⟨8,[],28,0⟩,⟨11,[],51,0⟩]}),(24,{bn:=[0,1,5,7,8,11,13],sites:=[19,28,51],kk:=[⟨7,[],19,0⟩,⟨8,[],28,0⟩,⟨11,[],51,0⟩]})],outs:=l6 [(9,{bn:=[0,1,5,7,8,9],sites:=[19,28]},{bn:=[4]}),(17,{bn:=[0,1,5,7,8,11],sites:=[19,28,51]},{bn:=[4]}),(24,{bn:=[0,5,7,8,11],sites:=[19,28,51]},{bn:=[4]})],fK:=mU [(9,av.L0.E),(17,av.L1.E),(24,av.L2.E)]}
noncomputable def av.A:= @cR Tryz.prog av.G av.an 0 Tryz.f7 _ av.st
abbrev av.Ok:=cS @av.A av.az av.add av.F av.out
noncomputable def av.L0.R:= @cz Tryz.prog av.G av.an 0 Tryz.f7 0 _ av.L0.st
abbrev av.L0.Ok:=eK Tryz.prog av.G av.an 0 Tryz.f7 0 av.L0.st av.L0.az av.L0.add av.L0.F av.L0.out
noncomputable def av.L1.R:= @cz Tryz.prog av.G av.an 0 Tryz.f7 1 _ av.L1.st
abbrev av.L1.Ok:=eK Tryz.prog av.G av.an 0 Tryz.f7 1 av.L1.st av.L1.az av.L1.add av.L1.F av.L1.out
noncomputable def av.L2.R:= @cz Tryz.prog av.G av.an 0 Tryz.f7 2 _ av.L2.st
abbrev av.L2.Ok:=eK Tryz.prog av.G av.an 0 Tryz.f7 2 av.L2.st av.L2.az av.L2.add av.L2.F av.L2.out
theorem av.L0.run:bK av.L0.call av.L0.az av.L0.add av.L0.F:=eU (eQ [.d (.slice fA),.d (.slice iI),.d .bool,.d ti,.d ti,.n,.d (.slice (.pair bD eJ)),.d (.slice cD),.n,.d (.slice (.pair bD eJ)),.d (.slice cD)] fun _=>by kernel_rfl)
theorem av.L0.aK:fZ @av.L0.R av.L0.st av.L0.az av.L0.add av.L0.F av.L0.bE av.L0.Ok:=gv
theorem av.L0.step{R:Type}(outs_2:(List fc))(acts_2:(List jO))(head:Bool)(n:Int)(i:Int)(n19L:Nat)(n19:(List (bY×dB)))(n19_2:(List cr))(n28L:Nat)(n28:(List (bY×dB)))(n28_2:(List cr))(kn:AS→Option R)(kx:Exit→AS→Option R):av.L0.R (outs_2,acts_2,head,n,i,n19L,n19,n19_2,n28L,n28,n28_2) kn kx=
  aP ((gE i (((List.length acts_2):Nat):Int))) (
   aP (fo i (((List.length acts_2):Nat):Int)) (
   aP (fo i (((List.length acts_2):Nat):Int)) (
   au (aB.call ((nth iI acts_2 (Int.toNat i)).2.1,(nth iI acts_2 (Int.toNat i)).2.2.1,n19L,n19,n19_2)) fun x4=>
   aP (x4.isLeft) (
    au (x4.getLeft?) fun x4l=>
    aP ((iw x4l.1 (0:Int))) (
     kn (av.L0.st (outs_2,acts_2,head,(b8 .i64 n (1:Int)),(b8 .i64 i (1:Int)),x4l.2.1,x4l.2.2.1,x4l.2.2.2,n28L,n28,n28_2))) (
     kn (av.L0.st (outs_2,acts_2,head,n,(b8 .i64 i (1:Int)),x4l.2.1,x4l.2.2.1,x4l.2.2.2,n28L,n28,n28_2)))) (
    au (x4.getRight?) fun x4r=>
    aP ((iw x4r.1 (0:Int))) (
     kn (av.L0.st (outs_2,acts_2,head,(b8 .i64 n (1:Int)),(b8 .i64 i (1:Int)),x4r.2.1,x4r.2.2.1,x4r.2.2.2,n28L,n28,n28_2))) (
     kn (av.L0.st (outs_2,acts_2,head,n,(b8 .i64 i (1:Int)),x4r.2.1,x4r.2.2.1,x4r.2.2.2,n28L,n28,n28_2))))) none) none) (
   kx (av.L0.bE ((outs_2,acts_2,head,n28L,n28,n28_2),(n,n19L,n19,n19_2))).1 (av.L0.bE ((outs_2,acts_2,head,n28L,n28,n28_2),(n,n19L,n19,n19_2))).2):=by kernel_rfl
theorem av.L1.run:bK av.L1.call av.L1.az av.L1.add av.L1.F:=eU (eQ [.d (.slice fA),.d (.slice iI),.d .bool,.d ti,.d ti,.n,.d (.slice (.pair bD eJ)),.d (.slice cD),.n,.d (.slice (.pair bD eJ)),.d (.slice cD),.n,.d (.slice (.pair bD eJ)),.d (.slice cD)] fun _=>by kernel_rfl)
theorem av.L1.aK:oe @av.L1.R av.L1.st av.L1.az av.L1.add av.L1.F av.L1.out av.L1.Ok:=py
theorem av.L1.step{R:Type}(outs_3:(List fc))(acts_3:(List jO))(head_2:Bool)(n_2:Int)(i_2:Int)(n19L_2:Nat)(n19_3:(List (bY×dB)))(n19_4:(List cr))(n28L_2:Nat)(n28_3:(List (bY×dB)))(n28_4:(List cr))(n51L:Nat)(n51:(List (bY×dB)))(n51_2:(List cr))(kn:AS→Option R)(kx:Exit→AS→Option R):av.L1.R (outs_3,acts_3,head_2,n_2,i_2,n19L_2,n19_3,n19_4,n28L_2,n28_3,n28_4,n51L,n51,n51_2) kn kx=
  aP ((gE i_2 n_2)) (
   au (aC.call (n19L_2,n19_3,n19_4)) fun x4=>
   aP ((!x4.1)) (
    kx (av.L1.bE ()).1 (av.L1.bE ()).2) (
    kn (av.L1.st (outs_3,acts_3,head_2,n_2,(b8 .i64 i_2 (1:Int)),x4.2.1,x4.2.2.1,x4.2.2.2,n28L_2,n28_3,n28_4,n51L,n51,n51_2)))) (
   kx (av.L1.gT ((outs_3,acts_3,head_2,n28L_2,n28_3,n28_4,n51L,n51,n51_2),(n19L_2,n19_3,n19_4))).1 (av.L1.gT ((outs_3,acts_3,head_2,n28L_2,n28_3,n28_4,n51L,n51,n51_2),(n19L_2,n19_3,n19_4))).2):=by kernel_rfl
theorem av.L2.run:bK av.L2.call av.L2.az av.L2.add av.L2.F:=eU (eQ [.d (.slice fA),.d (.slice iI),.d .bool,.d ti,.n,.d (.slice (.pair bD eJ)),.d (.slice cD),.n,.d (.slice (.pair bD eJ)),.d (.slice cD),.n,.d (.slice (.pair bD eJ)),.d (.slice cD)] fun _=>by kernel_rfl)
theorem av.L2.aK:fZ @av.L2.R av.L2.st av.L2.az av.L2.add av.L2.F av.L2.bE av.L2.Ok:=gv
theorem av.L2.step{R:Type}(outs_4:(List fc))(acts_4:(List jO))(head_3:Bool)(i_3:Int)(n19L_3:Nat)(n19_5:(List (bY×dB)))(n19_6:(List cr))(n28L_3:Nat)(n28_5:(List (bY×dB)))(n28_6:(List cr))(n51L_2:Nat)(n51_3:(List (bY×dB)))(n51_4:(List cr))(kn:AS→Option R)(kx:Exit→AS→Option R):av.L2.R (outs_4,acts_4,head_3,i_3,n19L_3,n19_5,n19_6,n28L_3,n28_5,n28_6,n51L_2,n51_3,n51_4) kn kx=
  aP ((gE i_3 (((List.length acts_4):Nat):Int))) (
   aP (fo i_3 (((List.length acts_4):Nat):Int)) (
   aP (fo i_3 (((List.length acts_4):Nat):Int)) (
   au (aB.call ((nth iI acts_4 (Int.toNat i_3)).2.1,(nth iI acts_4 (Int.toNat i_3)).2.2.1,n19L_3,n19_5,n19_6)) fun x4=>
   aP (x4.isLeft) (
    au (x4.getLeft?) fun x4l=>
    kn (av.L2.st (outs_4,acts_4,head_3,(b8 .i64 i_3 (1:Int)),x4l.2.1,x4l.2.2.1,x4l.2.2.2,n28L_3,n28_5,n28_6,n51L_2,n51_3,n51_4))) (
    au (x4.getRight?) fun x4r=>
    kn (av.L2.st (outs_4,acts_4,head_3,(b8 .i64 i_3 (1:Int)),x4r.2.1,x4r.2.2.1,x4r.2.2.2,n28L_3,n28_5,n28_6,n51L_2,n51_3,n51_4)))) none) none) (
   kx (av.L2.bE ((outs_4,head_3,n28L_3,n28_5,n28_6,n51L_2,n51_3,n51_4),(n19L_3,n19_5,n19_6))).1 (av.L2.bE ((outs_4,head_3,n28L_3,n28_5,n28_6,n51L_2,n51_3,n51_4),(n19L_3,n19_5,n19_6))).2):=by kernel_rfl
theorem av.eq{R:Type}(outs:(List fc))(acts:(List jO))(k:aX→Option R):av.A (outs,acts) k=
  au (aL.call ()) fun x4=>
  au (aT.call (outs,acts)) fun x8=>
  au (aR.call outs) fun x12=>
  aP (x12.isLeft) (
   au (x12.getLeft?) fun x12l=>
   aP ((!x8)) (
    k (av.out x4)) (
    k (av.out x4))) (
   au (x12.getRight?) fun x12r=>
   aP ((!x8)) (
    k (av.out x4)) (
    au (aO.call (0,x12r.1,x12r.2)) fun x16=>
    au (av.L0.call (outs,acts,x4,(0:Int),(0:Int),x16.1,x16.2.1,x16.2.2.1,x16.2.2.2.1,x16.2.2.2.2.1,x16.2.2.2.2.2)) fun x22=>
    au (aO.call (x22.2.2.1,x22.2.2.2.1,x22.2.2.2.2)) fun x26=>
    au (aC.call (x22.1.2.2.2.1,x22.1.2.2.2.2.1,x22.1.2.2.2.2.2)) fun x30=>
    aP (x30.1) (
     k (av.out false)) (
     au (av.L1.call (x22.1.1,x22.1.2.1,x22.1.2.2.1,x22.2.1,(0:Int),x26.1,x26.2.1,x26.2.2.1,x30.2.1,x30.2.2.1,x30.2.2.2,x26.2.2.2.1,x26.2.2.2.2.1,x26.2.2.2.2.2)) fun x38=>
     aP (x38.isLeft) (
      au (x38.getLeft?) fun a39=>
      k (av.out false)) (
      au (x38.getRight?) fun b40=>
      au (aC.call (b40.2.1,b40.2.2.1,b40.2.2.2)) fun x59=>
      aP (x59.1) (
       k (av.out false)) (
       au (aY.call (x59.2.1,x59.2.2.1,x59.2.2.2)) fun x60=>
       au (aY.call (b40.1.2.2.2.1,b40.1.2.2.2.2.1,b40.1.2.2.2.2.2.1)) fun x61=>
       aP (decide (0=0∧(0+x60.1)≤(List.length x60.2.2.2.2))) (
       aP (decide (0=0∧(0+x61.1)≤(List.length x61.2.2.2.2))) (
       au (bz.call ((cut x60.2.2.2.2 0 x60.1),(cut x61.2.2.2.2 0 x61.1))) fun x62=>
       aP ((!x62)) (
        k (av.out false)) (
        au (aU.call (x60.2.1,x60.2.2.1,x60.2.2.2.1)) fun x63=>
        au (aU.call (x61.2.1,x61.2.2.1,x61.2.2.2.1)) fun x64=>
        aP ((tJ x63.1 x64.1)) (
         k (av.out false)) (
         au (av.L2.call (b40.1.1,b40.1.2.1,b40.1.2.2.1,(0:Int),x63.2.1,x63.2.2.1,x63.2.2.2,x64.2.1,x64.2.2.1,x64.2.2.2,b40.1.2.2.2.2.2.2.1,b40.1.2.2.2.2.2.2.2.1,b40.1.2.2.2.2.2.2.2.2)) fun x70=>
         aP (x70.1.2.1) (
          au (aY.call (x70.2.1,x70.2.2.1,x70.2.2.2)) fun x77=>
          au (aY.call (x70.1.2.2.2.2.2.1,x70.1.2.2.2.2.2.2.1,x70.1.2.2.2.2.2.2.2)) fun x78=>
          aP (decide (0=0∧(0+x77.1)≤(List.length x77.2.2.2.2))) (
          aP (decide (0=0∧(0+x78.1)≤(List.length x78.2.2.2.2))) (
          au (bz.call ((cut x77.2.2.2.2 0 x77.1),(cut x78.2.2.2.2 0 x78.1))) fun x79=>
          aP (x79) (
           au (aU.call (x77.2.1,x77.2.2.1,x77.2.2.2.1)) fun x80=>
           au (aU.call (x78.2.1,x78.2.2.1,x78.2.2.2.1)) fun x81=>
           aP ((iw x80.1 x81.1)) (
            au (aY.call (x70.1.2.2.1,x70.1.2.2.2.1,x70.1.2.2.2.2.1)) fun x82=>
            k (av.out (iw ((x82.1:Nat):Int) (((List.length x70.1.1):Nat):Int)))) (
            k (av.out false))) (
           k (av.out false))) none) none) (
          k (av.out false))))) none) none))))):=by kernel_rfl
theorem av.L0.ok:av.L0.Ok:=by
 refine av.L0.aK (fun(_,acts,_,_,i,_,_,_,_,_,_)=>acts.length - i.toNat) ?_
 rintro⟨outs,acts,hb,c,i,n,a,s,c1,c2,c3⟩ ⟨hl,hv,rfl,k,hk,rfl,hg⟩
 have hl:acts.length≤20:=hl
 have hk:k≤acts.length:=hk
 have hg:sK k (n,a,s):=hg
 by_cases hlt:k < acts.length
 ·left
  have n1:nth iI acts k=acts[k]:=cX (t:=iI) hlt
  have hx:=hv _ (List.getElem_mem hlt)
  obtain⟨hg',hr⟩:=lh hg (by omega) hx
  have hnk:n≤k:=Nat.le_trans hg.le hg.len
  refine⟨(outs,acts,hb,((fL (n,a,s) acts[k]).1:Int),((k+1:Nat):Int),(fL (n,a,s) acts[k]).1,(fL (n,a,s) acts[k]).2.1,(fL (n,a,s) acts[k]).2.2,c1,c2,c3),⟨hl,hv,rfl,k+1,by omega,rfl,hg'⟩,by simp only[Int.toNat_natCast];omega,?_,fun kn kx=> ?_⟩
  ·simp only[av.L0.add,av.L0.F,Int.toNat_natCast]
   rw[List.drop_eq_getElem_cons hlt,List.foldl_cons]
  ·rw[av.L0.step,bq (by omega),ak,bu (by omega) (by omega),ak,ak,Int.toNat_natCast,n1,N.nj (by omega)]
   rcases hr with⟨e,h0⟩ | ⟨e,h0⟩
   ·have e:aB.call (acts[k].2.1,acts[k].2.2.1,n,a,s)=_:=e
    have e1:(fL (n,a,s) acts[k]).1=n+1:=by unfold fL;rw[if_neg (fun e=>e h0)]
    rw[e,aa,e1]
    simp only[Sum.isLeft_inr,aw,Sum.getRight?_inr,aa]
    rw[gO rfl,ak,N.nj (by omega),e1]
   ·have e:aB.call (acts[k].2.1,acts[k].2.2.1,n,a,s)=_:=e
    have e1:(fL (n,a,s) acts[k]).1=n:=by unfold fL;rw[if_pos h0]
    rw[e,aa]
    simp only[Sum.isLeft_inl,ak,Sum.getLeft?_inl,aa]
    rw[iU h0,aw,e1,N.nj (by omega)]
 ·right
  obtain rfl:k=acts.length:=by omega
  intro T kn kx
  rw[av.L0.step,bm (by omega),aw]
  simp only[av.L0.add,av.L0.F,Int.toNat_natCast,List.drop_length,List.foldl_nil]
theorem av.L1.ok:av.L1.Ok:=by
 refine av.L1.aK (fun(_,_,_,_,_,n,_,_,_,_,_,_,_,_)=>n) ?_
 rintro⟨outs,acts,hb,c,i,n,a,s,c1,c2,c3,d1,d2,d3⟩ ⟨hc,h0,rfl,h1,h2,h3⟩
 have hc:i+(n:Int)≤1000:=hc
 have h0:0≤i:=h0
 have h1:n≤s.length:=h1
 have h2:s.length≤1000:=h2
 have hr:=aC.run (d:=(n,a,s)) ⟨h1,by show s.length≤1000000;omega,h3⟩
 cases n with
 |succ n=>
  left
  refine⟨(outs,acts,hb,i+((n+1:Nat):Int),i+1,n,lz a (nth cD s n),s,c1,c2,c3,d1,d2,d3),⟨hc,by show 0≤i+1;omega,by show i+1+(n:Int)=i+((n+1:Nat):Int);omega,by show n≤s.length;omega,h2,h3⟩,Nat.lt_succ_self n,rfl,fun kn kx=> ?_⟩
  rw[av.L1.step,bq (by omega),ak,hr,aa,fM (by omega) (by omega)]
  simp only[aC.add,aC.F,Nat.add_one_ne_zero,if_false,Bool.not_true,aw,Nat.add_sub_cancel]
 |zero=>
  right
  refine⟨av.L1.gT ((outs,acts,hb,c1,c2,c3,d1,d2,d3),(0,a,s)),rfl,fun kn kx=> ?_⟩
  rw[av.L1.step,bm (by omega),aw]
theorem av.L2.ok:av.L2.Ok:=by
 refine av.L2.aK (fun(_,acts,_,i,_,_,_,_,_,_,_,_,_)=>acts.length - i.toNat) ?_
 rintro⟨outs,acts,hb,i,n,a,s,c1,c2,c3,d1,d2,d3⟩ ⟨hl,hv,k,hk,rfl,hg⟩
 have hl:acts.length≤20:=hl
 have hk:k≤acts.length:=hk
 have hg:sK (100+k) (n,a,s):=hg
 by_cases hlt:k < acts.length
 ·left
  have n1:nth iI acts k=acts[k]:=cX (t:=iI) hlt
  have hx:=hv _ (List.getElem_mem hlt)
  obtain⟨hg',hr⟩:=lh hg (by omega) hx
  refine⟨(outs,acts,hb,((k+1:Nat):Int),(fL (n,a,s) acts[k]).1,(fL (n,a,s) acts[k]).2.1,(fL (n,a,s) acts[k]).2.2,c1,c2,c3,d1,d2,d3),⟨hl,hv,k+1,by omega,rfl,hg'⟩,by simp only[Int.toNat_natCast];omega,?_,fun kn kx=> ?_⟩
  ·simp only[av.L2.add,av.L2.F,Int.toNat_natCast]
   rw[List.drop_eq_getElem_cons hlt,List.foldl_cons]
  ·rw[av.L2.step,bq (by omega),ak,bu (by omega) (by omega),ak,ak,Int.toNat_natCast,n1,N.nj (by omega)]
   rcases hr with⟨e,_⟩ | ⟨e,_⟩
   ·have e:aB.call (acts[k].2.1,acts[k].2.2.1,n,a,s)=_:=e
    rw[e,aa]
    rfl
   ·have e:aB.call (acts[k].2.1,acts[k].2.2.1,n,a,s)=_:=e
    rw[e,aa]
    rfl
 ·right
  obtain rfl:k=acts.length:=by omega
  intro T kn kx
  rw[av.L2.step,bm (by omega),aw]
  simp only[av.L2.add,av.L2.F,Int.toNat_natCast,List.drop_length,List.foldl_nil]
theorem av.ok:av.Ok:=by
 rintro⟨outs,acts⟩ ⟨ho,hal,hv⟩
 rw[av.eq,aL.run (d:=()) trivial,aT.run (d:=(outs,acts)) hal,CI ho]
 simp only[aa,aL.add,aL.F,aT.add,aT.F,av.add,av.F]
 cases hn:uR outs with
 |none=>
  simp only[Sum.isLeft_inl,ak,Sum.getLeft?_inl,aa]
  cases zs outs acts <;> rfl
 |some a0=>
  simp only[Sum.isLeft_inr,aw,Sum.getRight?_inr,aa]
  cases hf:zs outs acts with
  |false=>rfl
  |true=>
   obtain⟨h19,h20,_⟩:=DP hf
   obtain⟨g0,_,glen,_⟩:=zR ho hn
   rw[Bool.not_true,aw,g0.copy (by omega),aa]
   obtain⟨gc,gcl⟩:=g0.canon
   rw[av.L0.run (d:=(outs,acts,true,0,0,0,a0,[],(List.take 0 ([]:List cr)).length,eo a0,List.take 0 ([]:List cr))) ⟨h20,hv,rfl,0,Nat.zero_le _,rfl,g0⟩]
   have gs:=nB acts (m:=0) (S:=(0,a0,[])) g0 (by omega) hv
   have hu:=w7 acts (m:=0) (S:=(0,a0,[])) g0 (by omega) hv
   have ha:=vk acts (m:=0) (S:=(0,a0,[])) (m':=100) (S':=(0,dO (acts.foldl fL (0,a0,[])).1 (acts.foldl fL (0,a0,[])).2.1 (acts.foldl fL (0,a0,[])).2.2,(acts.foldl fL (0,a0,[])).2.2)) g0
   simp only[aa,av.L0.add,av.L0.F,Int.toNat_zero,List.drop_zero]
   generalize acts.foldl fL (0,a0,[])=S at gs hu ha ⊢
   obtain⟨n,a,s⟩:=S
   have gs:mK (0+acts.length) n a s:=gs
   have hu:jI (dO n a s) a0:=hu
   have hnb:(dL (dO n a s)).Nodup:=nv n s gs.iT.1
   have hp:(dO n a s).Perm a0:=hu.perm hnb g0.iT.1
   have gu:mK 100 0 (dO n a s) s:=⟨g0.iT.perm hp.symm,Nat.zero_le _,by have:=gs.len;omega,gs.Ey,by rw[j7 hp];exact g0.sum,by rw[hp.length_eq];have:=g0.DA;omega⟩
   have ha:=ha gu (by omega) (by omega) hv hu.symm
   rw[gs.copy (by omega),aa]
   have gc0:mK 0 0 (eo a0) []:=gc
   obtain⟨gd,gdl⟩:=gs.canon
   have gs':mK 20 n a s:=gs.mono (by omega)
   have e0:aC.call (0,eo a0,[])=_:=gc0.CZ (by omega)
   show au (aC.call (0,eo a0,[])) _=_
   rw[e0,aa,if_pos rfl,aw]
   rw[av.L1.run (d:=(outs,acts,true,(n:Int),0,n,a,s,0,eo a0,[],(s.take n).length,eo a,s.take n)) ⟨by have:=gs.le;have:=gs.len;show(n:Int)≤1000;omega,Int.le_refl 0,by show(0:Int)+n=n;omega,gs.le,by have:=gs.len;show s.length≤1000;omega,gs.Ey⟩]
   simp only[aa,av.L1.add,av.L1.F,Sum.isLeft_inr,aw,Sum.getRight?_inr]
   rw[gu.CZ (by omega),aa,if_pos rfl,aw,gu.all (by omega),aa,gc0.all (by omega),aa]
   have l1:=om gu.iT
   have l2:=om gc0.iT
   have hpc:(dO n a s).Perm (eo a0):=hp.trans (il a0).symm
   have eall:qQ (dO n a s)=qQ (eo a0):=tg gc0.iT hpc
   simp only[true_and,Nat.zero_add]
   rw[aW (show(dO n a s).length≤(qQ (dO n a s)).length by omega),ak,aW (show(eo a0).length≤(qQ (eo a0)).length by omega),ak,oB l1,oB l2,yV (by have:=gu.DA;omega),aa,aW eall,Bool.not_true,aw,gu.total,aa,gc0.total,aa,eY (j7 hpc),aw]
   rw[av.L2.run (d:=(outs,acts,true,0,0,dO n a s,s,0,eo a0,[],(s.take n).length,eo a,s.take n)) ⟨h20,hv,0,Nat.zero_le _,rfl,gu⟩]
   have gt:=nB acts (m:=100) (S:=(0,dO n a s,s)) gu (by omega) hv
   simp only[aa,av.L2.add,av.L2.F,Int.toNat_zero,List.drop_zero]
   generalize acts.foldl fL (0,dO n a s,s)=S' at gt ha ⊢
   obtain⟨n',a',s'⟩:=S'
   have gt:mK (100+acts.length) n' a' s':=gt
   have ha:jI a a':=ha
   have hp2:a'.Perm (eo a):=(ha.symm.perm gt.iT.1 gs.iT.1).trans (il a).symm
   have gd:mK (0+acts.length) (s.take n).length (eo a) (s.take n):=by rw[gdl];exact gd
   rw[ak,gt.all (by omega),aa,gd.all (by omega),aa]
   have l3:=om gt.iT
   have l4:=om gd.iT
   simp only[true_and,Nat.zero_add]
   rw[aW (show a'.length≤(qQ a').length by omega),ak,aW (show(eo a).length≤(qQ (eo a)).length by omega),ak,oB l3,oB l4,yV (by have:=gt.DA;omega),aa,aW (tg gd.iT hp2),ak,gt.total,aa,gd.total,aa,gO (j7 hp2),ak,gc0.all (by omega),aa,gO (by rw[(il a0).length_eq,glen])]
noncomputable def av.E:=Entry.cM [some (.slice fA),some (.slice iI)] av.st av.az av.add av.F av.out
noncomputable def av.call:av.D→Option av.X:=bP av.E av.st
theorem av.run:bK av.call av.az av.add av.F:=de (cW [.d (.slice fA),.d (.slice iI)] fun _=>by kernel_rfl)
noncomputable def av.sg:SG Tryz.prog:=⟨7,aV,av.E,.fn 3 (by kernel_rfl) av.ok (And.intro (.cM av.L0.ok (by kernel_rfl)) (And.intro (.cM av.L1.ok (by kernel_rfl)) (And.intro (.cM av.L2.ok (by kernel_rfl)) trivial)))⟩
end Go.Ab
