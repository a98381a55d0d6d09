/-
  Made short by a program of mine (wip/tools/mini.py).
-/
import Derived.Test.YtlpebgkekjfhaaaGreatS15x4
import Derived.Shelf.SlSortCmp.NoneTotal
import Derived.Test.YtlpebgkekjfhaaaGreatProg
set_option linter.unusedVariables false
set_option linter.unusedSimpArgs false
namespace Go.Ab
open Go.Proofs
set_option maxRecDepth 100000
set_option linter.unusedVariables false
set_option linter.unusedSimpArgs false
set_option synthInstance.maxSize 5000
abbrev ef.D:=(List gU)
def ef.st:ef.D→SA:=fun sv=>([.d (.slice ik) sv],[])
abbrev ef.Y:=Nat×(List gU)
abbrev ef.X:=Nat×(List gU)
def ef.out:ef.X→aW:=fun x=>⟨.bt (.new 0 0) 0 [] 0 0 x.1,[],[.obj 0 false (.vec 52 ik x.2)]⟩
def ef.add:ef.D→ef.Y→ef.X:=fun sv y=>y
def ef.aC:ef.D→Prop:=fun l=>l.length≤1000000
def ef.F:ef.D→ef.Y:=fun l=>(l.length,l)
noncomputable def ef.G:dH:=eT (P:=Tryz.prog) []
noncomputable def ef.an:ee:= {bj:=[5],kO:=[⟨2,[],5,38⟩]}
noncomputable def ef.A:= @cT Tryz.prog ef.G ef.an 0 Tryz.f138 _ ef.st
abbrev ef.Ok:=cU @ef.A ef.aC ef.add ef.F ef.out
theorem ef.eq{R:Type}(sv:(List gU))(k:aW→Option R):ef.A sv k=
  aF (decide (0 < (List.length sv))) (
   aF (dr (0+(List.length sv)) 80) (
   k (ef.out ((0+(List.length sv)),((List.take 0 (List.replicate 0 (((List.replicate 32 (0:Int)),((0:Int),())),(((0:Int),(([]:List Sg),((0:Int),()))),()))))++sv)))) none) (
   nd (
    k (ef.out (0,([]:List gU)))) (
    aF (dr (0+(List.length sv)) 80) (
    k (ef.out ((0+(List.length sv)),((List.take 0 (List.replicate 0 (((List.replicate 32 (0:Int)),((0:Int),())),(((0:Int),(([]:List Sg),((0:Int),()))),()))))++sv)))) none)):=by kernel_rfl
theorem ef.ok:ef.Ok:=by
 intro l hl
 have hl:l.length≤1000000:=hl
 have hr:dr l.length 80=true:=eG (by omega) (by omega)
 rw[ef.eq]
 simp only[Nat.zero_add,hr,ao,List.take_zero,List.nil_append,ef.add,ef.F]
 by_cases h:0 < l.length
 ·simp only[bf h,ao]
 ·have:l=[]:=List.eq_nil_of_length_eq_zero (by omega)
  subst this
  simp only[List.length_nil,lH,bI (Nat.lt_irrefl 0),aw]
noncomputable def ef.E:=Entry.cP [some (.slice ik)] ef.st ef.aC ef.add ef.F ef.out
noncomputable def ef.call:ef.D→Option ef.X:=bS ef.E ef.st
theorem ef.run:bP ef.call ef.aC ef.add ef.F:=de (cZ [.d (.slice ik)] fun _=>by kernel_rfl)
noncomputable def ef.sg:SG Tryz.prog:=⟨138,aV,ef.E,.fn 0 (by kernel_rfl) ef.ok trivial⟩
abbrev cW.D:=(List fR)
def cW.st:cW.D→SA:=fun sv=>([.d (.slice gJ) sv],[])
abbrev cW.Y:=Nat×(List fR)
abbrev cW.X:=Nat×(List fR)
def cW.out:cW.X→aW:=fun x=>⟨.bt (.new 0 0) 0 [] 0 0 x.1,[],[.obj 0 false (.vec 36 gJ x.2)]⟩
def cW.add:cW.D→cW.Y→cW.X:=fun sv y=>y
def cW.aC:cW.D→Prop:=fun l=>l.length≤1000000
def cW.F:cW.D→cW.Y:=fun l=>(l.length,l)
noncomputable def cW.G:dH:=eT (P:=Tryz.prog) []
noncomputable def cW.an:ee:= {bj:=[5],kO:=[⟨2,[],5,37⟩]}
noncomputable def cW.A:= @cT Tryz.prog cW.G cW.an 0 Tryz.f139 _ cW.st
abbrev cW.Ok:=cU @cW.A cW.aC cW.add cW.F cW.out
theorem cW.eq{R:Type}(sv:(List fR))(k:aW→Option R):cW.A sv k=
  aF (decide (0 < (List.length sv))) (
   aF (dr (0+(List.length sv)) 32) (
   k (cW.out ((0+(List.length sv)),((List.take 0 (List.replicate 0 ((0:Int),((([]:List jG),()),()))))++sv)))) none) (
   nd (
    k (cW.out (0,([]:List fR)))) (
    aF (dr (0+(List.length sv)) 32) (
    k (cW.out ((0+(List.length sv)),((List.take 0 (List.replicate 0 ((0:Int),((([]:List jG),()),()))))++sv)))) none)):=by kernel_rfl
theorem cW.ok:cW.Ok:=by
 intro l hl
 have hl:l.length≤1000000:=hl
 have hr:dr l.length 32=true:=eG (by omega) (by omega)
 rw[cW.eq]
 simp only[Nat.zero_add,hr,ao,List.take_zero,List.nil_append,cW.add,cW.F]
 by_cases h:0 < l.length
 ·simp only[bf h,ao]
 ·have:l=[]:=List.eq_nil_of_length_eq_zero (by omega)
  subst this
  simp only[List.length_nil,lH,bI (Nat.lt_irrefl 0),aw]
noncomputable def cW.E:=Entry.cP [some (.slice gJ)] cW.st cW.aC cW.add cW.F cW.out
noncomputable def cW.call:cW.D→Option cW.X:=bS cW.E cW.st
theorem cW.run:bP cW.call cW.aC cW.add cW.F:=de (cZ [.d (.slice gJ)] fun _=>by kernel_rfl)
noncomputable def cW.sg:SG Tryz.prog:=⟨139,aV,cW.E,.fn 0 (by kernel_rfl) cW.ok trivial⟩
abbrev dQ.D:=(List jG)
def dQ.st:dQ.D→SA:=fun sv=>([.d (.slice jt) sv],[])
abbrev dQ.Y:=Nat×(List jG)
abbrev dQ.X:=Nat×(List jG)
def dQ.out:dQ.X→aW:=fun x=>⟨.bt (.new 0 0) 0 [] 0 0 x.1,[],[.obj 0 false (.vec 29 jt x.2)]⟩
def dQ.add:dQ.D→dQ.Y→dQ.X:=fun sv y=>y
def dQ.aC:dQ.D→Prop:=fun l=>l.length≤1000000
def dQ.F:dQ.D→dQ.Y:=fun l=>(l.length,l)
noncomputable def dQ.G:dH:=eT (P:=Tryz.prog) []
noncomputable def dQ.an:ee:= {bj:=[5],kO:=[⟨2,[],5,32⟩]}
noncomputable def dQ.A:= @cT Tryz.prog dQ.G dQ.an 0 Tryz.f141 _ dQ.st
abbrev dQ.Ok:=cU @dQ.A dQ.aC dQ.add dQ.F dQ.out
theorem dQ.eq{R:Type}(sv:(List jG))(k:aW→Option R):dQ.A sv k=
  aF (decide (0 < (List.length sv))) (
   aF (dr (0+(List.length sv)) 48) (
   k (dQ.out ((0+(List.length sv)),((List.take 0 (List.replicate 0 (([]:List Int),((0:Int),((0:Int),((0:Int),()))))))++sv)))) none) (
   nd (
    k (dQ.out (0,([]:List jG)))) (
    aF (dr (0+(List.length sv)) 48) (
    k (dQ.out ((0+(List.length sv)),((List.take 0 (List.replicate 0 (([]:List Int),((0:Int),((0:Int),((0:Int),()))))))++sv)))) none)):=by kernel_rfl
theorem dQ.ok:dQ.Ok:=by
 intro l hl
 have hl:l.length≤1000000:=hl
 have hr:dr l.length 48=true:=eG (by omega) (by omega)
 rw[dQ.eq]
 simp only[Nat.zero_add,hr,ao,List.take_zero,List.nil_append,dQ.add,dQ.F]
 by_cases h:0 < l.length
 ·simp only[bf h,ao]
 ·have:l=[]:=List.eq_nil_of_length_eq_zero (by omega)
  subst this
  simp only[List.length_nil,lH,bI (Nat.lt_irrefl 0),aw]
noncomputable def dQ.E:=Entry.cP [some (.slice jt)] dQ.st dQ.aC dQ.add dQ.F dQ.out
noncomputable def dQ.call:dQ.D→Option dQ.X:=bS dQ.E dQ.st
theorem dQ.run:bP dQ.call dQ.aC dQ.add dQ.F:=de (cZ [.d (.slice jt)] fun _=>by kernel_rfl)
noncomputable def dQ.sg:SG Tryz.prog:=⟨141,aV,dQ.E,.fn 0 (by kernel_rfl) dQ.ok trivial⟩
abbrev cX.D:=(List Sg)
def cX.st:cX.D→SA:=fun sv=>([.d (.slice uU) sv],[])
abbrev cX.Y:=(List Sg)
abbrev cX.X:=(List Sg)
def cX.out:cX.X→aW:=fun x=>⟨.d (.slice uU) x,[],[]⟩
def cX.add:cX.D→cX.Y→cX.X:=fun sv y=>y
def cX.aC:cX.D→Prop:=fun l=>l.length≤1000000
def cX.F:cX.D→cX.Y:=fun l=>l
noncomputable def cX.G:dH:=eT (P:=Tryz.prog) []
noncomputable def cX.an:ee:= {bj:=[5],res:=[some (.slice uU)]}
noncomputable def cX.A:= @cT Tryz.prog cX.G cX.an 0 Tryz.f140 _ cX.st
abbrev cX.Ok:=cU @cX.A cX.aC cX.add cX.F cX.out
theorem cX.eq{R:Type}(sv:(List Sg))(k:aW→Option R):cX.A sv k=
  aF (decide (0 < (List.length sv))) (
   aF (dr (0+(List.length sv)) 16) (
   aF (decide (0=0∧(0+(0+(List.length sv)))≤(List.length ((List.take 0 (List.replicate 0 ((0:Int),((0:Int),()))))++sv)))) (
   k (cX.out (cut ((List.take 0 (List.replicate 0 ((0:Int),((0:Int),()))))++sv) 0 (0+(List.length sv))))) none) none) (
   nd (
    k (cX.out ([]:List Sg))) (
    aF (dr (0+(List.length sv)) 16) (
    aF (decide (0=0∧(0+(0+(List.length sv)))≤(List.length ((List.take 0 (List.replicate 0 ((0:Int),((0:Int),()))))++sv)))) (
    k (cX.out (cut ((List.take 0 (List.replicate 0 ((0:Int),((0:Int),()))))++sv) 0 (0+(List.length sv))))) none) none)):=by kernel_rfl
theorem cX.ok:cX.Ok:=by
 intro l hl
 have hl:l.length≤1000000:=hl
 have hr:dr l.length 16=true:=eG (by omega) (by omega)
 rw[cX.eq]
 simp only[Nat.zero_add,hr,ao,List.take_zero,List.nil_append,Nat.le_refl,and_self,decide_true,fo,cX.add,cX.F]
 by_cases h:0 < l.length
 ·simp only[bf h,ao]
 ·have:l=[]:=List.eq_nil_of_length_eq_zero (by omega)
  subst this
  simp only[List.length_nil,lH,bI (Nat.lt_irrefl 0),aw]
noncomputable def cX.E:=Entry.cP [some (.slice uU)] cX.st cX.aC cX.add cX.F cX.out
noncomputable def cX.call:cX.D→Option cX.X:=bS cX.E cX.st
theorem cX.run:bP cX.call cX.aC cX.add cX.F:=de (cZ [.d (.slice uU)] fun _=>by kernel_rfl)
noncomputable def cX.sg:SG Tryz.prog:=⟨140,aV,cX.E,.fn 0 (by kernel_rfl) cX.ok trivial⟩
abbrev ag.L0.D:=Int×Int×Nat×Nat×(Int×Unit)×(Int×Unit)×(List gU)×(List fR)
def ag.L0.st:ag.L0.D→AS:=fun(t17,t18,n1L,n1L_2,n1,n2,n9,n12)=>⟨([.undef,.ptr (.new 1 0) 0 [] 0,.ptr (.new 2 0) 0 [] 0]++bm 14 ([.d ti t17,.d ti t18]++bm 56 [])),[],([[],[.obj 0 false (.pr (.bt (.new 9 0) 0 [] 0 0 n1L) (.pr (.bt (.new 12 0) 0 [] 0 0 n1L_2) (.d (.pair ti .unit) n1)))],[.obj 0 false (.pr (.dq) (.pr (.dq) (.d (.pair ti .unit) n2)))]]++cr 6 ([[.obj 0 false (.vec 52 ik n9)],[],[],[.obj 0 false (.vec 36 gJ n12)]]++cr 62 []))⟩
abbrev ag.L0.Y0:=(List gU)
abbrev ag.L0.X0:=(Nat×Nat×(Int×Unit)×(Int×Unit)×(List fR))×((List gU))
def ag.L0.bK:ag.L0.X0→Exit×AS:=fun x=>(.exit 0,⟨([.undef,.ptr (.new 1 0) 0 [] 0,.ptr (.new 2 0) 0 [] 0]++bm 72 []),[],([[],[.obj 0 false (.pr (.bt (.new 9 0) 0 [] 0 0 x.1.1) (.pr (.bt (.new 12 0) 0 [] 0 0 x.1.2.1) (.d (.pair ti .unit) x.1.2.2.1)))],[.obj 0 false (.pr (.dq) (.pr (.dq) (.d (.pair ti .unit) x.1.2.2.2.1)))]]++cr 6 ([[.obj 0 false (.vec 52 ik x.2)],[],[],[.obj 0 false (.vec 36 gJ x.1.2.2.2.2)]]++cr 62 []))⟩)
abbrev ag.L0.X:=ag.L0.X0
abbrev ag.L0.Y:=ag.L0.Y0
def ag.L0.out:ag.L0.X→Out (Exit×AS):=fun x=> .ok (ag.L0.bK x)
def ag.L0.add:ag.L0.D→ag.L0.Y→ag.L0.X:=fun(t17,t18,n1L,n1L_2,n1,n2,n9,n12) y=>((n1L,n1L_2,n1,n2,n12),y)
abbrev ag.L1.D:=Int×Int×Nat×Nat×(Int×Unit)×(Int×Unit)×(List gU)×(List fR)
def ag.L1.st:ag.L1.D→AS:=fun(t38,t39,n1L_3,n1L_4,n1_2,n2_2,n9_2,n12_2)=>⟨([.undef,.ptr (.new 1 0) 0 [] 0,.ptr (.new 2 0) 0 [] 0]++bm 35 ([.d ti t38,.d ti t39]++bm 35 [])),[],([[],[.obj 0 false (.pr (.bt (.new 9 0) 0 [] 0 0 n1L_3) (.pr (.bt (.new 12 0) 0 [] 0 0 n1L_4) (.d (.pair ti .unit) n1_2)))],[.obj 0 false (.pr (.dq) (.pr (.dq) (.d (.pair ti .unit) n2_2)))]]++cr 6 ([[.obj 0 false (.vec 52 ik n9_2)],[],[],[.obj 0 false (.vec 36 gJ n12_2)]]++cr 62 []))⟩
abbrev ag.L1.Y0:=Nat×Nat×(Int×Unit)×(Int×Unit)×(List gU)×(List fR)
abbrev ag.L1.X0:=Nat×Nat×(Int×Unit)×(Int×Unit)×(List gU)×(List fR)
def ag.L1.bK:ag.L1.X0→Exit×AS:=fun x=>(.exit 2,⟨([.undef,.ptr (.new 1 0) 0 [] 0,.ptr (.new 2 0) 0 [] 0]++bm 72 []),[],([[],[.obj 0 false (.pr (.bt (.new 9 0) 0 [] 0 0 x.1) (.pr (.bt (.new 12 0) 0 [] 0 0 x.2.1) (.d (.pair ti .unit) x.2.2.1)))],[.obj 0 false (.pr (.dq) (.pr (.dq) (.d (.pair ti .unit) x.2.2.2.1)))]]++cr 6 ([[.obj 0 false (.vec 52 ik x.2.2.2.2.1)],[],[],[.obj 0 false (.vec 36 gJ x.2.2.2.2.2)]]++cr 62 []))⟩)
abbrev ag.L1.X:=ag.L1.X0
abbrev ag.L1.Y:=ag.L1.Y0
def ag.L1.out:ag.L1.X→Out (Exit×AS):=fun x=> .ok (ag.L1.bK x)
def ag.L1.add:ag.L1.D→ag.L1.Y→ag.L1.X:=fun(t38,t39,n1L_3,n1L_4,n1_2,n2_2,n9_2,n12_2) y=>y
abbrev ag.L2.D:=Int×Nat×Int×Int×Int×Int×Nat×Nat×(Int×Unit)×(Int×Unit)×(List gU)×(List fR)×(List jG)
def ag.L2.st:ag.L2.D→AS:=fun(kv,lL,t38_2,t39_2,t51,t52,n1L_5,n1L_6,n1_3,n2_3,n9_3,n12_3,n49)=>⟨([.undef,.ptr (.new 1 0) 0 [] 0,.ptr (.new 2 0) 0 [] 0,.undef,.d ti kv,.bt (.new 49 0) 0 [] 0 0 lL]++bm 32 ([.d ti t38_2,.d ti t39_2]++bm 11 ([.d ti t51,.d ti t52]++bm 22 []))),[],([[],[.obj 0 false (.pr (.bt (.new 9 0) 0 [] 0 0 n1L_5) (.pr (.bt (.new 12 0) 0 [] 0 0 n1L_6) (.d (.pair ti .unit) n1_3)))],[.obj 0 false (.pr (.dq) (.pr (.dq) (.d (.pair ti .unit) n2_3)))]]++cr 6 ([[.obj 0 false (.vec 52 ik n9_3)],[],[],[.obj 0 false (.vec 36 gJ n12_3)]]++cr 36 ([[.obj 0 false (.vec 29 jt n49)]]++cr 25 [])))⟩
abbrev ag.L2.Y0:=(List jG)×(List jG)
abbrev ag.L2.X0:=(Int×Int×Int×Nat×Nat×(Int×Unit)×(Int×Unit)×(List gU)×(List fR))×((List jG)×(List jG))
def ag.L2.bK:ag.L2.X0→Exit×AS:=fun x=>(.exit 4,⟨([.undef,.ptr (.new 1 0) 0 [] 0,.ptr (.new 2 0) 0 [] 0,.undef,.d ti x.1.1,.d (.slice jt) x.2.1]++bm 32 ([.d ti x.1.2.1,.d ti x.1.2.2.1]++bm 35 [])),[],([[],[.obj 0 false (.pr (.bt (.new 9 0) 0 [] 0 0 x.1.2.2.2.1) (.pr (.bt (.new 12 0) 0 [] 0 0 x.1.2.2.2.2.1) (.d (.pair ti .unit) x.1.2.2.2.2.2.1)))],[.obj 0 false (.pr (.dq) (.pr (.dq) (.d (.pair ti .unit) x.1.2.2.2.2.2.2.1)))]]++cr 6 ([[.obj 0 false (.vec 52 ik x.1.2.2.2.2.2.2.2.1)],[],[],[.obj 0 false (.vec 36 gJ x.1.2.2.2.2.2.2.2.2)]]++cr 36 ([[.obj 0 true (.vec 29 jt x.2.2)]]++cr 25 [])))⟩)
abbrev ag.L2.X:=ag.L2.X0
abbrev ag.L2.Y:=ag.L2.Y0
def ag.L2.out:ag.L2.X→Out (Exit×AS):=fun x=> .ok (ag.L2.bK x)
def ag.L2.add:ag.L2.D→ag.L2.Y→ag.L2.X:=fun(kv,lL,t38_2,t39_2,t51,t52,n1L_5,n1L_6,n1_3,n2_3,n9_3,n12_3,n49) y=>((kv,t38_2,t39_2,n1L_5,n1L_6,n1_3,n2_3,n9_3,n12_3),y)
abbrev ag.D:=eI
def ag.st:ag.D→SA:=fun t=>([.d gm t],[])
abbrev ag.Y:=Nat×((List fR)×(Int×Unit))×(List gU)
abbrev ag.X:=Nat×((List fR)×(Int×Unit))×(List gU)
def ag.out:ag.X→aW:=fun x=>⟨.pr (.bt (.new 0 0) 0 [] 0 0 x.1) (.d (.pair (.slice gJ) (.pair ti .unit)) x.2.1),[],[.obj 0 false (.vec 52 ik x.2.2)]⟩
def ag.add:ag.D→ag.Y→ag.X:=fun t y=>y
def ag.L0.aC:ag.L0.D→Prop:=fun(m,i,L,L2,u,v,l,os)=>(l.length≤1000∧∀x∈l,x.2.1.2.1.length≤1000000)∧∃k:Nat,k≤l.length∧i=k∧m=l.length∧L=l.length
def ag.L0.F:ag.L0.D→ag.L0.Y:=fun(m,i,L,L2,u,v,l,os)=>l
def ag.L2.aC:ag.L2.D→Prop:=fun(kv,L,m1,i1,m,i,L5,L6,u,v,ls,os,bs)=>(bs.length≤1000∧∀x∈bs,x.1.length≤1000000)∧∃k:Nat,k≤bs.length∧i=k∧m=bs.length∧L=bs.length
def ag.L2.F:ag.L2.D→ag.L2.Y:=fun(kv,L,m1,i1,m,i,L5,L6,u,v,ls,os,bs)=>(bs,bs)
def ag.L1.aC:ag.L1.D→Prop:=fun(m,i,L3,L,u,v,ls,os)=>(os.length≤1000∧∀x∈os,x.2.1.1.length≤1000∧∀b∈x.2.1.1,b.1.length≤1000000)∧∃k:Nat,k≤os.length∧i=k∧m=os.length∧L=os.length
def ag.L1.F:ag.L1.D→ag.L1.Y:=fun(m,i,L3,L,u,v,ls,os)=>(L3,L,u,v,ls,os)
def ag.aC:ag.D→Prop:=fun t=>fA t=true
def ag.F:ag.D→ag.Y:=fun t=>(t.1.length,(t.2.1,t.2.2),t.1)
noncomputable def ag.G:dH:=eT (P:=Tryz.prog) [ef.sg,cW.sg,cX.sg,dQ.sg,bT.sg]
noncomputable def ag.L0.E:=bZ.cP ag.L0.st ag.L0.aC ag.L0.add ag.L0.F ag.L0.out
noncomputable def ag.L0.call:ag.L0.D→Option ag.L0.X:=dI ag.L0.E ag.L0.st
noncomputable def ag.L1.E:=bZ.cP ag.L1.st ag.L1.aC ag.L1.add ag.L1.F ag.L1.out
noncomputable def ag.L1.call:ag.L1.D→Option ag.L1.X:=dI ag.L1.E ag.L1.st
noncomputable def ag.L2.E:=bZ.cP ag.L2.st ag.L2.aC ag.L2.add ag.L2.F ag.L2.out
noncomputable def ag.L2.call:ag.L2.D→Option ag.L2.X:=dI ag.L2.E ag.L2.st
noncomputable def ag.an:ee:= {bj:=[1],loops:=lZ [(3,{bn:=[1,2,17,18],sites:=[1,2,9,12]}),(8,{bn:=[1,2,38,39],sites:=[1,2,9,12]}),(12,{bn:=[1,2,4,5,38,39,51,52],sites:=[1,2,9,12,49]})],outs:=lY [(3,{bn:=[1,2],sites:=[1,2,9,12]},{bn:=[2]}),(8,{bn:=[1,2],sites:=[1,2,9,12]},{bn:=[2]}),(12,{bn:=[1,2,4,5,38,39],sites:=[1,2,9,12,49],data:=[(5,(.slice jt))]},{bn:=[2]})],fO:=mW [(3,ag.L0.E),(8,ag.L1.E),(12,ag.L2.E)],AD:=[⟨2,[.snd,.fst],(.slice gJ)⟩]}
noncomputable def ag.A:= @cT Tryz.prog ag.G ag.an 0 Tryz.f70 _ ag.st
abbrev ag.Ok:=cU @ag.A ag.aC ag.add ag.F ag.out
noncomputable def ag.L0.R:= @cC Tryz.prog ag.G ag.an 0 Tryz.f70 0 _ ag.L0.st
abbrev ag.L0.Ok:=eO Tryz.prog ag.G ag.an 0 Tryz.f70 0 ag.L0.st ag.L0.aC ag.L0.add ag.L0.F ag.L0.out
noncomputable def ag.L1.R:= @cC Tryz.prog ag.G ag.an 0 Tryz.f70 1 _ ag.L1.st
abbrev ag.L1.Ok:=eO Tryz.prog ag.G ag.an 0 Tryz.f70 1 ag.L1.st ag.L1.aC ag.L1.add ag.L1.F ag.L1.out
noncomputable def ag.L2.R:= @cC Tryz.prog ag.G ag.an 0 Tryz.f70 2 _ ag.L2.st
abbrev ag.L2.Ok:=eO Tryz.prog ag.G ag.an 0 Tryz.f70 2 ag.L2.st ag.L2.aC ag.L2.add ag.L2.F ag.L2.out
theorem ag.L0.run:bP ag.L0.call ag.L0.aC ag.L0.add ag.L0.F:=fe (eY [.d ti,.d ti,.n,.n,.d (.pair ti .unit),.d (.pair ti .unit),.d (.slice ik),.d (.slice gJ)] fun _=>by kernel_rfl)
theorem ag.L0.aL:ga @ag.L0.R ag.L0.st ag.L0.aC ag.L0.add ag.L0.F ag.L0.bK ag.L0.Ok:=gw
theorem ag.L0.step{R:Type}(t17:Int)(t18:Int)(n1L:Nat)(n1L_2:Nat)(n1:(Int×Unit))(n2:(Int×Unit))(n9:(List gU))(n12:(List fR))(kn:AS→Option R)(kx:Exit→AS→Option R):ag.L0.R (t17,t18,n1L,n1L_2,n1,n2,n9,n12) kn kx=
  aF ((gQ t18 t17)) (
   aF (fE t18 ((n1L:Nat):Int)) (
   aF (decide ((0+(Int.toNat t18)) < (List.length n9))) (
   aF (decide ((((0+(Int.toNat t18))*36)+34)=(((0+((Int.toNat t18)*36))+33)+1))) (
   ah (cX.call (nth ik n9 (0+(Int.toNat t18))).2.1.2.1) fun x1=>
   aF (fE t18 ((n1L:Nat):Int)) (
   aF (decide ((0+(Int.toNat t18)) < (List.length n9))) (
   aF (decide ((((0+(Int.toNat t18))*36)+34)=(((0+((Int.toNat t18)*36))+33)+1))) (
   aF (decide ((0+(Int.toNat t18)) < (List.length n9))) (
   kn (ag.L0.st (t17,(ck .i64 t18 (1:Int)),n1L,n1L_2,n1,n2,(List.set n9 (0+(Int.toNat t18)) ((nth ik n9 (0+(Int.toNat t18))).1,(((nth ik n9 (0+(Int.toNat t18))).2.1.1,(x1,(nth ik n9 (0+(Int.toNat t18))).2.1.2.2)),(nth ik n9 (0+(Int.toNat t18))).2.2))),n12))) none) none) none) none) none) none) none) (
   kx (ag.L0.bK ((n1L,n1L_2,n1,n2,n12),n9)).1 (ag.L0.bK ((n1L,n1L_2,n1,n2,n12),n9)).2):=by kernel_rfl
theorem ag.L1.run:bP ag.L1.call ag.L1.aC ag.L1.add ag.L1.F:=fe (eY [.d ti,.d ti,.n,.n,.d (.pair ti .unit),.d (.pair ti .unit),.d (.slice ik),.d (.slice gJ)] fun _=>by kernel_rfl)
theorem ag.L1.aL:ga @ag.L1.R ag.L1.st ag.L1.aC ag.L1.add ag.L1.F ag.L1.bK ag.L1.Ok:=gw
theorem ag.L1.step{R:Type}(t38:Int)(t39:Int)(n1L_3:Nat)(n1L_4:Nat)(n1_2:(Int×Unit))(n2_2:(Int×Unit))(n9_2:(List gU))(n12_2:(List fR))(kn:AS→Option R)(kx:Exit→AS→Option R):ag.L1.R (t38,t39,n1L_3,n1L_4,n1_2,n2_2,n9_2,n12_2) kn kx=
  aF ((gQ t39 t38)) (
   aF (fE t39 ((n1L_4:Nat):Int)) (
   aF (decide ((0+(Int.toNat t39)) < (List.length n12_2))) (
   aF (decide ((((0+(Int.toNat t39))*2)+1)=(((0+((Int.toNat t39)*2))+1)+0))) (
   ah (dQ.call (nth gJ n12_2 (0+(Int.toNat t39))).2.1.1) fun x1=>
   ah (ag.L2.call (t39,x1.1,t38,t39,((x1.1:Nat):Int),(0:Int),n1L_3,n1L_4,n1_2,n2_2,n9_2,n12_2,x1.2)) fun x2=>
   aF (fE x2.1.1 ((x2.1.2.2.2.2.1:Nat):Int)) (
   aF (decide ((0+(Int.toNat x2.1.1)) < (List.length x2.1.2.2.2.2.2.2.2.2))) (
   aF (decide ((((0+(Int.toNat x2.1.1))*2)+1)=(((0+((Int.toNat x2.1.1)*2))+1)+0))) (
   aF (decide ((0+(Int.toNat x2.1.1)) < (List.length x2.1.2.2.2.2.2.2.2.2))) (
   kn (ag.L1.st (x2.1.2.1,(ck .i64 x2.1.2.2.1 (1:Int)),x2.1.2.2.2.1,x2.1.2.2.2.2.1,x2.1.2.2.2.2.2.1,x2.1.2.2.2.2.2.2.1,x2.1.2.2.2.2.2.2.2.1,(List.set x2.1.2.2.2.2.2.2.2.2 (0+(Int.toNat x2.1.1)) ((nth gJ x2.1.2.2.2.2.2.2.2.2 (0+(Int.toNat x2.1.1))).1,((x2.2.1,(nth gJ x2.1.2.2.2.2.2.2.2.2 (0+(Int.toNat x2.1.1))).2.1.2),(nth gJ x2.1.2.2.2.2.2.2.2.2 (0+(Int.toNat x2.1.1))).2.2)))))) none) none) none) none) none) none) none) (
   kx (ag.L1.bK (n1L_3,n1L_4,n1_2,n2_2,n9_2,n12_2)).1 (ag.L1.bK (n1L_3,n1L_4,n1_2,n2_2,n9_2,n12_2)).2):=by kernel_rfl
theorem ag.L2.run:bP ag.L2.call ag.L2.aC ag.L2.add ag.L2.F:=fe (eY [.d ti,.n,.d ti,.d ti,.d ti,.d ti,.n,.n,.d (.pair ti .unit),.d (.pair ti .unit),.d (.slice ik),.d (.slice gJ),.d (.slice jt)] fun _=>by kernel_rfl)
theorem ag.L2.aL:ga @ag.L2.R ag.L2.st ag.L2.aC ag.L2.add ag.L2.F ag.L2.bK ag.L2.Ok:=gw
theorem ag.L2.step{R:Type}(kv:Int)(lL:Nat)(t38_2:Int)(t39_2:Int)(t51:Int)(t52:Int)(n1L_5:Nat)(n1L_6:Nat)(n1_3:(Int×Unit))(n2_3:(Int×Unit))(n9_3:(List gU))(n12_3:(List fR))(n49:(List jG))(kn:AS→Option R)(kx:Exit→AS→Option R):ag.L2.R (kv,lL,t38_2,t39_2,t51,t52,n1L_5,n1L_6,n1_3,n2_3,n9_3,n12_3,n49) kn kx=
  aF ((gQ t52 t51)) (
   aF (fE t52 ((lL:Nat):Int)) (
   aF (decide ((0+(Int.toNat t52)) < (List.length n49))) (
   aF (decide ((((0+(Int.toNat t52))*4)+0)=((0+((Int.toNat t52)*4))+0))) (
   ah (bT.call (nth jt n49 (0+(Int.toNat t52))).1) fun x1=>
   aF (fE t52 ((lL:Nat):Int)) (
   aF (decide ((0+(Int.toNat t52)) < (List.length n49))) (
   aF (decide ((((0+(Int.toNat t52))*4)+0)=((0+((Int.toNat t52)*4))+0))) (
   aF (decide ((0+(Int.toNat t52)) < (List.length n49))) (
   kn (ag.L2.st (kv,lL,t38_2,t39_2,t51,(ck .i64 t52 (1:Int)),n1L_5,n1L_6,n1_3,n2_3,n9_3,n12_3,(List.set n49 (0+(Int.toNat t52)) (x1,(nth jt n49 (0+(Int.toNat t52))).2))))) none) none) none) none) none) none) none) (
   aF (decide (0=0∧(0+lL)≤(List.length n49))) (
   kx (ag.L2.bK ((kv,t38_2,t39_2,n1L_5,n1L_6,n1_3,n2_3,n9_3,n12_3),((cut n49 0 lL),n49))).1 (ag.L2.bK ((kv,t38_2,t39_2,n1L_5,n1L_6,n1_3,n2_3,n9_3,n12_3),((cut n49 0 lL),n49))).2) none):=by kernel_rfl
theorem ag.eq{R:Type}(t:eI)(k:aW→Option R):ag.A t k=
 ah (ef.call t.1) fun x1=>
 ah (cW.call t.2.1) fun x2=>
 ah (ag.L0.call (((x1.1:Nat):Int),(0:Int),x1.1,x2.1,t.2.2,((0:Int),()),x1.2,x2.2)) fun x4=>
 ah (ag.L1.call (((x4.1.2.1:Nat):Int),(0:Int),x4.1.1,x4.1.2.1,x4.1.2.2.1,x4.1.2.2.2.1,x4.2,x4.1.2.2.2.2)) fun x8=>
 aF (decide (0=0∧(0+x8.2.1)≤(List.length x8.2.2.2.2.2))) (
 k (ag.out (x8.1,((cut x8.2.2.2.2.2 0 x8.2.1),x8.2.2.1),x8.2.2.2.2.1))) none:=by kernel_rfl
theorem ag.L0.ok:ag.L0.Ok:=by
 refine ag.L0.aL (fun(m,i,L,L2,u,v,l,os)=>l.length - Int.toNat i) ?_
 rintro⟨m,i,L,L2,u,v,l,os⟩ ⟨⟨hlen,hx⟩,k,hk,rfl,rfl,rfl⟩
 have hlen:l.length≤1000:=hlen
 have hk:k≤l.length:=hk
 by_cases h:k < l.length
 ·left
  have n1:nth ik l k=l[k]:=du (t:=ik) h
  have hs:l.set k l[k]=l:=List.set_getElem_self h
  have e:=hx _ (List.getElem_mem h)
  refine⟨((l.length:Int),((k+1:Nat):Int),l.length,L2,u,v,l,os),⟨⟨hlen,hx⟩,k+1,by omega,rfl,rfl,rfl⟩,by simp only[Int.toNat_natCast];omega,rfl,fun kn kx=> ?_⟩
  rw[ag.L0.step,bq (by omega),bw (by omega) (by omega)]
  simp only[Int.toNat_natCast,Nat.zero_add,Nat.add_zero,Nat.add_assoc,Nat.reduceAdd,ao,bf h,decide_true,n1]
  rw[cX.run (d:=l[k].2.1.2.1) e]
  simp only[aa,cX.add,cX.F]
  rw[N.nW (by omega)]
  exact congrArg (fun z=>kn (ag.L0.st (_,_,_,_,_,_,z,_))) hs
 ·right
  obtain rfl:k=l.length:=by omega
  intro R kn kx
  rw[ag.L0.step,bl (by omega),aw]
  rfl
theorem ag.L2.ok:ag.L2.Ok:=by
 refine ag.L2.aL (fun(kv,L,m1,i1,m,i,L5,L6,u,v,ls,os,bs)=>bs.length - Int.toNat i) ?_
 rintro⟨kv,L,m1,i1,m,i,L5,L6,u,v,ls,os,bs⟩ ⟨⟨hlen,hx⟩,k,hk,rfl,rfl,rfl⟩
 have hlen:bs.length≤1000:=hlen
 have hk:k≤bs.length:=hk
 by_cases h:k < bs.length
 ·left
  have n1:nth jt bs k=bs[k]:=du (t:=jt) h
  have hs:bs.set k bs[k]=bs:=List.set_getElem_self h
  have e:=hx _ (List.getElem_mem h)
  refine⟨(kv,bs.length,m1,i1,(bs.length:Int),((k+1:Nat):Int),L5,L6,u,v,ls,os,bs),⟨⟨hlen,hx⟩,k+1,by omega,rfl,rfl,rfl⟩,by simp only[Int.toNat_natCast];omega,rfl,fun kn kx=> ?_⟩
  rw[ag.L2.step,bq (by omega),bw (by omega) (by omega)]
  simp only[Int.toNat_natCast,Nat.zero_add,Nat.add_zero,Nat.add_assoc,Nat.reduceAdd,ao,bf h,decide_true,n1]
  rw[bT.run (d:=bs[k].1) e]
  simp only[aa,bT.add,bT.F]
  rw[N.nW (by omega)]
  exact congrArg (fun z=>kn (ag.L2.st (_,_,_,_,_,_,_,_,_,_,_,_,z))) hs
 ·right
  obtain rfl:k=bs.length:=by omega
  intro R kn kx
  rw[ag.L2.step,bl (by omega),aw]
  simp only[Nat.zero_add,Nat.le_refl,and_self,decide_true,ao,fo]
  rfl
theorem ag.L1.ok:ag.L1.Ok:=by
 refine ag.L1.aL (fun(m,i,L3,L,u,v,ls,os)=>os.length - Int.toNat i) ?_
 rintro⟨m,i,L3,L,u,v,ls,os⟩ ⟨⟨hlen,hx⟩,k,hk,rfl,rfl,rfl⟩
 have hlen:os.length≤1000:=hlen
 have hk:k≤os.length:=hk
 by_cases h:k < os.length
 ·left
  have n1:nth gJ os k=os[k]:=du (t:=gJ) h
  have hs:os.set k os[k]=os:=List.set_getElem_self h
  have e:=hx _ (List.getElem_mem h)
  refine⟨((os.length:Int),((k+1:Nat):Int),L3,os.length,u,v,ls,os),⟨⟨hlen,hx⟩,k+1,by omega,rfl,rfl,rfl⟩,by simp only[Int.toNat_natCast];omega,rfl,fun kn kx=> ?_⟩
  rw[ag.L1.step,bq (by omega),bw (by omega) (by omega)]
  simp only[Int.toNat_natCast,Nat.zero_add,Nat.add_zero,Nat.add_assoc,Nat.reduceAdd,ao,bf h,decide_true,n1]
  rw[dQ.run (d:=os[k].2.1.1) (by show os[k].2.1.1.length≤_;have:=e.1;omega)]
  simp only[aa,dQ.add,dQ.F]
  rw[ag.L2.run (d:=((k:Int),os[k].2.1.1.length,(os.length:Int),(k:Int),(os[k].2.1.1.length:Int),0,L3,os.length,u,v,ls,os,os[k].2.1.1)) ⟨e,0,Nat.zero_le _,rfl,rfl,rfl⟩]
  simp only[aa,ag.L2.add,ag.L2.F,Int.toNat_natCast,n1,ao,bf h,bw (show(0:Int)≤(k:Int) by omega) (show(k:Int) < (os.length:Int) by omega)]
  rw[N.nW (by omega)]
  exact congrArg (fun z=>kn (ag.L1.st (_,_,_,_,_,_,_,z))) hs
 ·right
  obtain rfl:k=os.length:=by omega
  intro R kn kx
  rw[ag.L1.step,bl (by omega),aw]
  rfl
theorem rD{l:Lk}(h:ji l=true):l.1.length≤4∧∀b∈l.1,b.1.length≤12:=by
 unfold ji at h
 simp only[Bool.and_eq_true,List.all_eq_true,decide_eq_true_eq]at h
 refine⟨h.2.2,fun b hb=> ?_⟩
 have:=h.1 b hb
 unfold mS at this
 simp only[Bool.and_eq_true,decide_eq_true_eq]at this
 exact this.1
theorem ag.ok:ag.Ok:=by
 rintro⟨is,os,nt,u⟩ hok
 obtain⟨⟨_,a2,a3,_⟩,b1,b2⟩:=iH hok
 have a2:is.length≤64:=a2
 have a3:os.length≤64:=a3
 rw[ag.eq,ef.run (d:=is) (by show is.length≤_;omega),cW.run (d:=os) (by show os.length≤_;omega)]
 simp only[aa,ef.add,ef.F,cW.add,cW.F]
 rw[ag.L0.run (d:=(is.length,0,is.length,os.length,(nt,u),(0,()),is,os)) ⟨⟨by show is.length≤_;omega,fun x hx=>by have:=(AZ (ou _ _ b1 x hx)).2.2.2.2;omega⟩,0,Nat.zero_le _,rfl,rfl,rfl⟩]
 simp only[aa,ag.L0.add,ag.L0.F]
 rw[ag.L1.run (d:=(os.length,0,is.length,os.length,(nt,u),(0,()),is,os)) ⟨⟨by show os.length≤_;omega,fun x hx=>by
  have:=rD (iT _ _ b2 x hx).2
  exact⟨by omega,fun b hb=>by have:=this.2 b hb;omega⟩⟩,0,Nat.zero_le _,rfl,rfl,rfl⟩]
 simp only[aa,ag.L1.add,ag.L1.F,Nat.zero_add,Nat.le_refl,and_self,decide_true,ao,fo]
 rfl
noncomputable def ag.E:=Entry.cP [some gm] ag.st ag.aC ag.add ag.F ag.out
noncomputable def ag.call:ag.D→Option ag.X:=bS ag.E ag.st
theorem ag.run:bP ag.call ag.aC ag.add ag.F:=de (cZ [.d gm] fun _=>by kernel_rfl)
noncomputable def ag.sg:SG Tryz.prog:=⟨70,aV,ag.E,.fn 3 (by kernel_rfl) ag.ok (And.intro (.cP ag.L0.ok (by kernel_rfl)) (And.intro (.cP ag.L1.ok (by kernel_rfl)) (And.intro (.cP ag.L2.ok (by kernel_rfl)) trivial)))⟩
set_option synthInstance.maxSize 5000
theorem oK(x:Int)(m:Int):∀k:Nat,(x%m)^k%m=x^k%m
 | 0=>by rw[Int.pow_zero,Int.pow_zero]
 |k+1=>by rw[Int.pow_succ,Int.pow_succ,Int.mul_emod,oK x m k,Int.emod_emod_of_dvd _ (Int.dvd_refl m),←Int.mul_emod]
theorem Eb(a:Int)(k:Nat):(a*a)^k=a^(2*k):=by
 rw[Int.pow_mul,Int.pow_succ,Int.pow_succ,Int.pow_zero,Int.one_mul]
theorem BB:∀(f:Nat) (a:Int) (n:Nat) (out:Int),n < 2^f→Pn out→yO f a n out=out*a^n%4611686018427377339
 | 0,a,n,out,h,ho=>by
  obtain rfl:n=0:=by omega
  rw[lh,Int.pow_zero,Int.mul_one,Int.emod_eq_of_lt ho.1 ho.2]
 |f+1,a,n,out,h,ho=>by
  have e:(2:Nat)^(f+1)=2^f*2:=Nat.pow_succ 2 f
  rw[yO]
  split
  ·rename_i h0
   subst h0
   rw[Int.pow_zero,Int.mul_one,Int.emod_eq_of_lt ho.1 ho.2]
  ·have hp:Pn (if n%2=1 then iN out a else out):=by
    split
    ·exact kz _ _
    ·exact ho
   rw[BB f _ _ _ (by omega) hp,Int.mul_emod]
   have e1:(iN a a)^(n / 2)%4611686018427377339=a^(2*(n / 2))%4611686018427377339:=by
    unfold iN
    rw[oK,Eb]
   have e2:(if n%2=1 then iN out a else out)%4611686018427377339=(out*a^(n%2))%4611686018427377339:=by
    split
    ·rename_i h1
     rw[h1,Int.pow_succ,Int.pow_zero,Int.one_mul]
     exact Int.emod_emod_of_dvd _ (Int.dvd_refl _)
    ·have h1:n%2=0:=by omega
     rw[h1,Int.pow_zero,Int.mul_one]
   rw[e1,e2,←Int.mul_emod,Int.mul_assoc,←Int.pow_add]
   have e3:n%2+2*(n / 2)=n:=by omega
   rw[e3]
theorem rP(a:Int)(n:Nat)(h:n < 18446744073709551616):pw a n=a^n%4611686018427377339:=by
 unfold pw
 rw[BB 64 a n 1 h ⟨by omega,by omega⟩,Int.one_mul]
theorem one_pow(k:Nat):(1:Int)^k=1:=Int.one_pow
theorem BD(a:Int)(k q:Nat)(hk:k < 18446744073709551616)(hq:q < 18446744073709551616)(h:pw a q=1):pw (pw a k) q=1:=by
 rw[rP _ _ hq]at h
 rw[rP _ _ hq,rP _ _ hk,oK,←Int.pow_mul,Nat.mul_comm,Int.pow_mul,←oK,h,one_pow]
 rfl
theorem tn:pw 4 2305843009213688669=1:=by decide+kernel
theorem zO:pw 1 2305843009213688669=1:=by decide+kernel
theorem Cz:kL 4=true:=by rw[kL,tn];rfl
theorem ov:kL 1=true:=by rw[kL,zO];rfl
theorem CG:wm 1=1:=by
 have e:pw 1 2305843009213688668=1:=by decide+kernel
 rw[wm,tk,ov]
 exact e
theorem uL{a:Int}(h:Pn a)(q:Nat)(hq:0 < q)(hq2:q < 18446744073709551616)(hp:pw a q=1):0 < a:=by
 rcases Int.lt_or_eq_of_le h.1 with h0 | h0
 ·exact h0
 ·subst h0
  rw[rP _ _ hq2,Int.zero_pow (by omega)]at hp
  cases hp
theorem DO{a:Int}(h:Pn a)(hp:pw a 2305843009213688669=1):kL a=true:=by
 have h0:=uL h 2305843009213688669 (by decide) (by decide) hp
 rw[kL,hp,decide_eq_true ⟨h0,h.2⟩];rfl
theorem zt{a:Int}(h:kL a=true):pw a 2305843009213688669=1∧Pn a:=by
 rw[kL,Bool.and_eq_true,decide_eq_true_eq,decide_eq_true_eq]at h
 exact⟨h.2,by omega,h.1.2⟩
theorem DP{a:Int}(h:kL a=true)(k:Nat)(hk:k < 18446744073709551616):kL (pw a k)=true:=
 DO (wG _ _) (BD a k _ hk (by decide) (zt h).1)
theorem DQ(a:Int):kL (tk a)=true:=by
 unfold tk
 cases h:kL a
 ·exact ov
 ·exact h
theorem zu(p k:Int):kL (lN p k)=true:=DP (DQ p) _ (by omega)
theorem sj{a:Int}(h:kL a=true):tk a=a:=by rw[tk,h];rfl
theorem ru(k:Int):kL (dP k)=true:=zu 4 k
theorem wk{a:Int}(h:Pn a):iN a 1=a:=by rw[iN,Int.mul_one,Int.emod_eq_of_lt h.1 h.2]
set_option synthInstance.maxSize 5000
def pm(m:Nat):Nat→Nat→Nat→Nat→Nat
 | 0,_,_,out=>out%m
 |f+1,a,n,out=>if n=0 then out%m else pm m f (a*a%m) (n / 2) (if n%2=1 then out*a%m else out)
theorem Dm(m:Nat):∀(f a n out:Nat),n < 2^f→pm m f a n out=out*a^n%m
 | 0,a,n,out,h=>by
  obtain rfl:n=0:=by omega
  rw[pm,Nat.pow_zero,Nat.mul_one]
 |f+1,a,n,out,h=>by
  have e:(2:Nat)^(f+1)=2^f*2:=Nat.pow_succ (n:=2) (m:=f)
  rw[pm]
  split
  ·rename_i h0
   subst h0
   rw[Nat.pow_zero,Nat.mul_one]
  ·rw[Dm m f _ _ _ (by omega),Nat.mul_mod]
   have e1:(a*a%m)^(n / 2)%m=a^(2*(n / 2))%m:=by
    rw[←Nat.pow_mod,Nat.pow_mul,Nat.pow_two]
   have e2:(if n%2=1 then out*a%m else out)%m=(out*a^(n%2))%m:=by
    split
    ·rename_i h1
     rw[h1,Nat.pow_one,Nat.mod_mod]
    ·have h1:n%2=0:=by omega
     rw[h1,Nat.pow_zero,Nat.mul_one]
   rw[e1,e2,←Nat.mul_mod,Nat.mul_assoc,←Nat.pow_add]
   have e3:n%2+2*(n / 2)=n:=by omega
   rw[e3]
theorem AU:∀(r q:Nat) (f:Nat→Nat),(∀i,i < q→f i < r)→(∀i j,i < j→j < q→f i≠f j)→q≤r
 | 0,q,f,h,_=>by
  rcases Nat.eq_zero_or_pos q with h0 | h0
  ·omega
  ·exact absurd (h 0 h0) (Nat.not_lt_zero _)
 |r+1,q,f,h,g=>by
  by_cases hx:∃i,i < q∧f i=r
  ·obtain⟨i,hi,hr⟩:=hx
   have e:=AU r (q - 1) (fun j=>if j < i then f j else f (j+1)) (fun j hj=>by
    by_cases h1:j < i
    ·have a:=h j (by omega)
     have b:=g j i h1 hi
     simp only[h1,if_true]
     omega
    ·have a:=h (j+1) (by omega)
     have b:=g i (j+1) (by omega) (by omega)
     simp only[h1,if_false]
     omega) (fun j k hjk hk=>by
    by_cases h1:j < i
    ·by_cases h2:k < i
     ·simp only[h1,h2,if_true]
      exact g j k hjk (by omega)
     ·simp only[h1,h2,if_true,if_false]
      exact g j (k+1) (by omega) (by omega)
    ·have h2:¬k < i:=by omega
     simp only[h1,h2,if_false]
     exact g (j+1) (k+1) (by omega) (by omega))
   omega
  ·have e:=AU r q f (fun i hi=>by
    have a:=h i hi
    have b:f i≠r:=fun x=>hx ⟨i,hi,x⟩
    omega) g
   omega
theorem yM(a m:Nat)(h1:1%m=1):∀i j:Nat,a^i%m=1→a^j%m=1→a^(Nat.gcd i j)%m=1:=by
 intro i
 induction i using Nat.strongRecOn with
 |ind i ih=>
  intro j hi hj
  rcases Nat.eq_zero_or_pos i with h0 | h0
  ·subst h0;rw[Nat.gcd_zero_left];exact hj
  ·rw[Nat.gcd_rec]
   refine ih (j%i) (Nat.mod_lt _ h0) i ?_ hi
   have e:a^j=(a^i)^(j / i)*a^(j%i):=by rw[←Nat.pow_mul,←Nat.pow_add,Nat.div_add_mod]
   rw[e,Nat.mul_mod,Nat.pow_mod,hi,Nat.one_pow,h1,Nat.one_mul,Nat.mod_mod]at hj
   exact hj
def Ag(n:Nat):Prop:=∀d,d∣n→d=1∨d=n
theorem yN{n k:Nat}(h:Ag n)(h0:0 < k)(hk:k < n):Nat.gcd k n=1:=by
 rcases h _ (Nat.gcd_dvd_right k n) with h1 | h1
 ·exact h1
 ·have:=Nat.le_of_dvd h0 (Nat.gcd_dvd_left k n);omega
theorem wu{n:Nat}(hn:1 < n)(h:∀r,1 < r→r*r≤n→¬r∣n):Ag n:=by
 intro d hd
 obtain⟨e,he⟩:=hd
 have hd0:0 < d:=Nat.pos_of_ne_zero (by intro x;rw[x,Nat.zero_mul]at he;omega)
 have he0:0 < e:=Nat.pos_of_ne_zero (by intro x;rw[x,Nat.mul_zero]at he;omega)
 by_cases h1:d=1
 ·exact .inl h1
 by_cases h2:e=1
 ·right;rw[he,h2,Nat.mul_one]
 exfalso
 rcases Nat.le_total d e with hle | hle
 ·exact h d (by omega) (by rw[he];exact Nat.mul_le_mul_left d hle) ⟨e,he⟩
 ·exact h e (by omega) (by rw[he];exact Nat.mul_le_mul_right e hle) ⟨d,by rw[he,Nat.mul_comm]⟩
theorem DY{n q b:Nat}(hn:1 < n)(hq:Ag q)(hq1:1 < q)(hqq:n < q*q)(hb:b^q%n=1)(hg:Nat.gcd (b - 1) n=1)(hb0:0 < b):Ag n:=by
 refine wu hn fun r hr hrr hrn=> ?_
 have h1r:1%r=1:=Nat.mod_eq_of_lt hr
 have hbr:b^q%r=1:=by
  have:=Nat.mod_mod_of_dvd (b^q) hrn
  rw[←this,hb,h1r]
 have hne:b%r≠1:=by
  intro hx
  have hd:r∣b - 1:=by have e:=Nat.dvd_sub_mod (n:=r) b;rw[hx]at e;exact e
  have:=Nat.dvd_gcd hd hrn
  rw[hg]at this
  have:=Nat.le_of_dvd (by omega) this
  omega
 have key:q≤r:=by
  refine AU r q (fun i=>b^i%r) (fun i _=>Nat.mod_lt _ (by omega)) fun i j hij hj he=> ?_
  have e1:b^(j - i)%r=1:=by
   have x1:b^(q - i)*b^i%r=b^(q - i)*b^j%r:=by rw[Nat.mul_mod,he,←Nat.mul_mod]
   rw[←Nat.pow_add,←Nat.pow_add,show q - i+i=q by omega,show q - i+j=q+(j - i) by omega,Nat.pow_add,Nat.mul_mod,hbr,Nat.one_mul,Nat.mod_mod]at x1
   exact x1.symm
  have e2:=yM b r h1r (j - i) q e1 hbr
  rw[yN hq (by omega) (by omega),Nat.pow_one]at e2
  exact hne e2
 have:q*q≤r*r:=Nat.mul_le_mul key key
 omega
def Bn(n:Nat):Nat→Bool
 | 0=>true
 |k+1=>n%(k+2) !=0 && Bn n k
theorem wq(n:Nat):∀k,Bn n k=true→∀d,1 < d→d≤k+1→¬d∣n
 | 0,_,d,h1,h2=>by omega
 |k+1,h,d,h1,h2=>by
  rw[Bn,Bool.and_eq_true]at h
  by_cases hd:d=k+2
  ·intro hx
   have:=Nat.mod_eq_zero_of_dvd hx
   rw[hd]at this
   rw[this]at h
   exact absurd h.1 (by decide)
  ·exact wq n k h.2 d h1 (by omega)
theorem FL:Ag 7930907:=by
 refine wu (by decide) fun r hr hrr=>wq 7930907 2820 (by decide+kernel) r hr ?_
 apply Nat.le_of_not_lt
 intro h
 have:2822*2822≤r*r:=Nat.mul_le_mul (by omega) (by omega)
 omega
theorem oL{n q:Nat}(a e:Nat)(hq:Ag q)(hq1:1 < q)(hn:1 < n)(hqq:n < q*q)(he:e < 2^64)(hq2:q < 2^64)(h1:pm n 64 (pm n 64 a e 1) q 1=1)(h2:Nat.gcd (pm n 64 a e 1 - 1) n=1)(h3:0 < pm n 64 a e 1):Ag n:=by
 generalize pm n 64 a e 1=b at*
 rw[Dm _ _ _ _ _ hq2,Nat.one_mul]at h1
 exact DY hn hq hq1 hqq h1 h2 h3
theorem FK:Ag 11864636873:=oL (q:=7930907) 2 1496 FL (by decide) (by decide) (by decide) (by decide) (by decide) (by decide+kernel) (by decide+kernel) (by decide+kernel)
theorem FJ:Ag 1732236983459:=oL (q:=11864636873) 2 146 FK (by decide) (by decide) (by decide) (by decide) (by decide) (by decide+kernel) (by decide+kernel) (by decide+kernel)
theorem FI:Ag 249442125618097:=oL (q:=1732236983459) 2 144 FJ (by decide) (by decide) (by decide) (by decide) (by decide) (by decide+kernel) (by decide+kernel) (by decide+kernel)
theorem FM:Ag 2305843009213688669:=oL (q:=249442125618097) 2 9244 FI (by decide) (by decide) (by decide) (by decide) (by decide) (by decide+kernel) (by decide+kernel) (by decide+kernel)
def gP(n:Nat):Int:=((4^n%4611686018427377339:Nat):Int)
theorem sQ(a m q:Nat)(h1:1%m=1)(h:a^q%m=1)(n:Nat):a^(n%q)%m=a^n%m:=by
 have e:a^n=(a^q)^(n / q)*a^(n%q):=by rw[←Nat.pow_mul,←Nat.pow_add,Nat.div_add_mod]
 rw[e,Nat.mul_mod,Nat.pow_mod (a^q),h,Nat.one_pow,h1,Nat.one_mul,Nat.mod_mod]
theorem C9:∀q:Nat,q=2305843009213688669→4^q%4611686018427377339=1:=by
 intro q hq
 have h:=tn
 rw[rP _ _ (by decide)]at h
 rw[←hq]at h
 have e:(((4^q%4611686018427377339:Nat)):Int)=1:=by
  rw[Int.natCast_emod,Int.natCast_pow]
  exact h
 omega
theorem ur(n:Nat):gP (n%2305843009213688669)=gP n:=by
 unfold gP
 obtain⟨q,hq⟩:∃q:Nat,q=2305843009213688669:=⟨_,rfl⟩
 rw[←hq,sQ 4 4611686018427377339 q (by decide) (C9 q hq)]
theorem EN(n:Nat)(h:n < 18446744073709551616):pw 4 n=gP n:=by
 rw[rP _ _ h]
 unfold gP
 rw[Int.natCast_emod,Int.natCast_pow]
 rfl
theorem AO(k:Int)(h:0≤k):(k%2305843009213688669).toNat=k.toNat%2305843009213688669:=by omega
theorem ql(k:Int)(h:0≤k):dP k=gP k.toNat:=by
 show pw (tk 4) _=_
 rw[sj Cz,EN _ (by omega),AO k h,ur]
theorem Cm(n:Nat):gP n=dP n:=by rw[ql _ (by omega),Int.toNat_natCast]
theorem q9(n:Nat):kL (gP n)=true:=by rw[Cm];exact ru _
theorem xC(a b:Nat):iN (gP a) (gP b)=gP (a+b):=by
 unfold iN gP
 rw[←Int.natCast_mul,Nat.pow_add]
 have e:(4611686018427377339:Int)=((4611686018427377339:Nat):Int):=rfl
 rw[e,←Int.natCast_emod,←Nat.mul_mod]
theorem AP(a:Nat)(c:Int)(h:0≤c):lN (gP a) c=gP (a*c.toNat):=by
 show pw (tk (gP a)) _=_
 rw[sj (q9 a),rP _ _ (by omega),AO c h]
 obtain⟨b,hb⟩:∃b:Nat,b=c.toNat:=⟨_,rfl⟩
 rw[←hb]
 obtain⟨d,hd⟩:∃d:Nat,d=b%2305843009213688669:=⟨_,rfl⟩
 have hx:gP (a*b)=gP (a*d):=by rw[←ur (a*b),←ur (a*d),Nat.mul_mod a b,Nat.mul_mod a d,hd,Nat.mod_mod]
 rw[hx,←hd]
 unfold gP
 have e:(4611686018427377339:Int)=((4611686018427377339:Nat):Int):=rfl
 rw[e,←Int.natCast_pow,←Int.natCast_emod,←Nat.pow_mod,←Nat.pow_mul]
theorem yy:gP 0=1:=by decide
theorem EM{n:Nat}(h:0 < n)(hn:n < 2305843009213688669):gP n≠1:=by
 intro he
 unfold gP at he
 have he:4^n%4611686018427377339=1:=by omega
 obtain⟨q,hq⟩:∃q:Nat,q=2305843009213688669:=⟨_,rfl⟩
 have e:=yM 4 4611686018427377339 (by decide) n q he (C9 q hq)
 rw[yN (by rw[hq];exact FM) h (by omega)]at e
 exact absurd e (by decide)
theorem CU(k:Int)(m:List Int)(h0:0 < k)(hq:k < 2305843009213688669):jZ (dP k) m 1 (fM k m)=true:=by
 obtain⟨kn,hk⟩:∃kn:Nat,kn=k.toNat:=⟨_,rfl⟩
 have hb:dP k=gP kn:=by rw[hk];exact ql k (by omega)
 have hn:=qY (BS xK [kk k,m])
 unfold fM Bo
 rw[if_pos ⟨hq,by omega⟩]
 obtain⟨n,hne⟩:∃n,om (BS xK [kk k,m])=n:=⟨_,rfl⟩
 rw[hne]at hn ⊢
 unfold ub
 have hr:qj [dP n,1]=gP n.toNat:=by
  show iN (iN 1 (tk (dP n))) (tk 1)=_
  rw[sj (ru n),sj ov,wk (kz _ _),ql n (by omega),←yy,xC,Nat.zero_add]
 rw[hr,hb]
 have hc:=qL (gP n.toNat) (gP kn) m
 obtain⟨c,hce⟩:∃c,lR (gP n.toNat) (gP kn) m=c:=⟨_,rfl⟩
 rw[hce]at hc ⊢
 have ha:=ym n (uF c k)
 have h1:=hc.1
 have h2:=ha.1
 have h3:=ha.2
 unfold jZ
 rw[if_neg (by
  intro h
  rcases h with h | h | h | h | h
  ·exact EM (by omega) (by omega) h
  ·rw[q9]at h;cases h
  ·rw[ov]at h;cases h
  ·have h:kL (gP n.toNat)=false:=h
   rw[q9]at h;cases h
  ·exact h h3)]
 have e:dP (w8 n (uF c k))=qj [gP n.toNat,lN (gP kn) c,wm 1]:=by
  show _=iN (iN (iN 1 (tk (gP n.toNat))) (tk (lN (gP kn) c))) (tk (wm 1))
  rw[CG,sj ov,wk (kz _ _),sj (q9 _),AP _ _ h1,sj (q9 _)]
  rw[show(iN 1 (gP n.toNat))=gP n.toNat by rw[←yy,xC,Nat.zero_add]]
  rw[xC,ql _ h2]
  have hx:(w8 n (uF c k)).toNat=(n.toNat+kn*c.toNat)%2305843009213688669:=by
   unfold w8 uF Bp
   have g1:c%2305843009213688669=c:=Int.emod_eq_of_lt h1 hc.2
   have g2:k%2305843009213688669=k:=Int.emod_eq_of_lt (by omega) hq
   have g3:n%2305843009213688669=n:=Int.emod_eq_of_lt (by omega) hn.2
   rw[g1,g2,g3,Int.emod_emod_of_dvd _ (Int.dvd_refl _)]
   have g4:((kn*c.toNat:Nat):Int)=c*k:=by
    rw[Int.natCast_mul,hk,Int.toNat_of_nonneg (by omega),Int.toNat_of_nonneg h1,Int.mul_comm]
   have g5:0≤c*k:=by rw[←g4];exact Int.natCast_nonneg _
   obtain⟨z,hz⟩:∃z,c*k=z:=⟨_,rfl⟩
   rw[hz]at g4 g5 ⊢
   obtain⟨zn,hzn⟩:∃zn,kn*c.toNat=zn:=⟨_,rfl⟩
   rw[hzn]at g4 ⊢
   omega
  rw[hx,ur]
 show decide (dP (w8 n (uF c k))=qj [gP n.toNat,lN (gP kn) (lR (gP n.toNat) (gP kn) m),wm 1])=true
 rw[hce]
 exact decide_eq_true e
set_option synthInstance.maxSize 5000
def uv{α:Type}(p:α→Bool):List α→Int→Int⊕Unit
 |[],_=> .inr ()
 |x::xs,i=>if p x then .inl i else uv p xs (i+1)
def Cw{α:Type}(p:α→Bool)(l:List α):Int:=match uv p l 0 with | .inl i=>i | .inr _=> -1
theorem vT{α:Type}(p:α→Bool):∀(l:List α) (i:Int),0≤i→(match uv p l i with | .inl i=>decide (i≥0) | .inr _=>false)=l.any p
 |[],_,_=>rfl
 |x::l,i,h=>by
  rw[uv,List.any_cons]
  cases hp:p x
  ·simp only[Bool.false_eq_true,if_false,Bool.false_or]
   exact vT p l (i+1) (by omega)
  ·simp[h]
theorem AX{α:Type}(p:α→Bool)(l:List α):mV (Cw p l) 0=l.any p:=by
 have:=vT p l 0 (by omega)
 unfold Cw mV
 cases h:uv p l 0
 ·rw[h]at this;exact this
 ·rw[h]at this;rw[←this];rfl
def oa(k:Int):Bool:=decide (¬(k < 2305843009213688669∧k≠0))
def my(t:eI)(i br:Int)(ks:List Int):Bool:=fA t && (decide (0≤i∧i < t.1.length∧0≤br∧br < 4∧ks.length≤12) && !(ks.any oa))
def BJ(t:eI)(i br:Int)(ks:List Int)(sc:Int):eI×Int:=
 if my t i br ks then((t.1.set i.toNat ((nth ik t.1 i.toNat).1,(br,ks.map (fun k=>fM k (iK t)),sc,()),()),t.2),0) else(([],[],0,()),1)
theorem yh{t:eI}:Sm (iK t):=by
 unfold iK
 split
 ·exact xW _ _
 ·exact⟨by rw[List.length_replicate],fun x hx=>by obtain rfl:=(List.mem_replicate.1 hx).2;exact⟨by decide,by decide⟩⟩
abbrev dm.D:=Int
def dm.st:dm.D→SA:=fun kv=>([.d tu kv],[])
abbrev dm.Y:=Bool
abbrev dm.X:=Bool
def dm.out:dm.X→aW:=fun x=>⟨.d .bool x,[],[]⟩
def dm.add:dm.D→dm.Y→dm.X:=fun kv y=>y
def dm.aC:dm.D→Prop:=fun _=>True
def dm.F:dm.D→dm.Y:=fun k=>oa k
noncomputable def dm.G:dH:=eT (P:=Tryz.prog) [bW.sg]
noncomputable def dm.an:ee:= {}
noncomputable def dm.A:= @cT Tryz.prog dm.G dm.an 0 Tryz.f64 _ dm.st
abbrev dm.Ok:=cU @dm.A dm.aC dm.add dm.F dm.out
theorem dm.eq{R:Type}(kv:Int)(k:aW→Option R):dm.A kv k=
  aF ((dN kv (0:Int))) (
   k (dm.out true)) (
   ah (bW.call kv) fun x1=>
   k (dm.out (!x1))):=by kernel_rfl
theorem dm.ok:dm.Ok:=by
 intro(k:Int) _
 rw[dm.eq,bW.run (d:=k) trivial]
 simp only[dm.add,dm.F,oa,aa,bW.add,bW.F]
 by_cases h:k=0
 ·rw[iw h,ao,bf (by omega)]
 ·rw[jV h,aw]
  by_cases h2:k < 2305843009213688669
  ·rw[bq h2,bI (by omega)];rfl
  ·rw[bl h2,bf (by omega)];rfl
noncomputable def dm.E:=Entry.cP [some tu] dm.st dm.aC dm.add dm.F dm.out
noncomputable def dm.call:dm.D→Option dm.X:=bS dm.E dm.st
theorem dm.run:bP dm.call dm.aC dm.add dm.F:=de (cZ [.d tu] fun _=>by kernel_rfl)
noncomputable def dm.sg:SG Tryz.prog:=⟨64,aV,dm.E,.fn 0 (by kernel_rfl) dm.ok trivial⟩
abbrev aJ.L0.D:=Bs×Int×Int
def aJ.L0.st:aJ.L0.D→AS:=fun(sv_2,t7,t8)=>⟨([.d tU sv_2,.fn 64 (.nil)]++bm 5 ([.d ti t7,.d ti t8]++bm 10 [])),[],(List.replicate 19 [])⟩
abbrev aJ.L0.Y0:=Int
abbrev aJ.L0.X0:=Int
def aJ.L0.bK:aJ.L0.X0→Exit×AS:=fun x=>(.ret,⟨(bm 4 ([.d ti x]++bm 14 [])),[],(List.replicate 19 [])⟩)
abbrev aJ.L0.Y1:=Unit
abbrev aJ.L0.X1:=Unit
def aJ.L0.jb:aJ.L0.X1→Exit×AS:=fun x=>(.exit 0,⟨(bm 19 []),[],(List.replicate 19 [])⟩)
abbrev aJ.L0.X:=(aJ.L0.X0)⊕(aJ.L0.X1)
abbrev aJ.L0.Y:=(aJ.L0.Y0)⊕(aJ.L0.Y1)
def aJ.L0.out:aJ.L0.X→Out (Exit×AS):=fun x=> .br x.isLeft (.get x.getLeft? fun a=> .ok (aJ.L0.bK a)) (.get x.getRight? fun b=> .ok (aJ.L0.jb b))
def aJ.L0.add:aJ.L0.D→aJ.L0.Y→aJ.L0.X:=fun(sv_2,t7,t8) y=>match y with | .inl y=> .inl y | .inr z=> .inr (z)
abbrev aJ.D:=Bs
def aJ.st:aJ.D→SA:=fun sv=>([.d tU sv,.fn 64 (.nil)],[])
abbrev aJ.Y:=Int
abbrev aJ.X:=Int
def aJ.out:aJ.X→aW:=fun x=>⟨.d ti x,[],[]⟩
def aJ.add:aJ.D→aJ.Y→aJ.X:=fun sv y=>y
def aJ.L0.aC:aJ.L0.D→Prop:=fun(l,n,i)=>(∀x∈l,True)∧l.length≤1000000000∧n=l.length∧∃k:Nat,k≤l.length∧i=k
def aJ.L0.F:aJ.L0.D→aJ.L0.Y:=fun(l,n,i)=>uv oa (l.drop i.toNat) i
def aJ.aC:aJ.D→Prop:=fun l=>(∀x∈l,True)∧l.length≤1000000000
def aJ.F:aJ.D→aJ.Y:=fun l=>Cw oa l
noncomputable def aJ.G:dH:=eT (P:=Tryz.prog) [dm.sg]
noncomputable def aJ.L0.E:=bZ.cP aJ.L0.st aJ.L0.aC aJ.L0.add aJ.L0.F aJ.L0.out
noncomputable def aJ.L0.call:aJ.L0.D→Option aJ.L0.X:=dI aJ.L0.E aJ.L0.st
noncomputable def aJ.an:ee:= {loops:=lZ [(2,{bn:=[0,1,7,8]})],outs:=lY [(2,{},{bn:=[4]})],fO:=mW [(2,aJ.L0.E)]}
noncomputable def aJ.A:= @cT Tryz.prog aJ.G aJ.an 0 Tryz.f133 _ aJ.st
abbrev aJ.Ok:=cU @aJ.A aJ.aC aJ.add aJ.F aJ.out
noncomputable def aJ.L0.R:= @cC Tryz.prog aJ.G aJ.an 0 Tryz.f133 0 _ aJ.L0.st
abbrev aJ.L0.Ok:=eO Tryz.prog aJ.G aJ.an 0 Tryz.f133 0 aJ.L0.st aJ.L0.aC aJ.L0.add aJ.L0.F aJ.L0.out
theorem aJ.L0.run:bP aJ.L0.call aJ.L0.aC aJ.L0.add aJ.L0.F:=fe (eY [.d tU,.d ti,.d ti] fun _=>by kernel_rfl)
theorem aJ.L0.aL:p9 @aJ.L0.R aJ.L0.st aJ.L0.aC aJ.L0.add aJ.L0.F aJ.L0.out aJ.L0.Ok:=qK
theorem aJ.L0.step{R:Type}(sv_2:Bs)(t7:Int)(t8:Int)(kn:AS→Option R)(kx:Exit→AS→Option R):aJ.L0.R (sv_2,t7,t8) kn kx=
  aF ((gQ t8 t7)) (
   aF (fE t8 (((List.length sv_2):Nat):Int)) (
   ah (dm.call (nth tu sv_2 (Int.toNat t8))) fun x1=>
   aF (x1) (
    kx (aJ.L0.bK t8).1 (aJ.L0.bK t8).2) (
    kn (aJ.L0.st (sv_2,t7,(ck .i64 t8 (1:Int)))))) none) (
   kx (aJ.L0.jb ()).1 (aJ.L0.jb ()).2):=by kernel_rfl
theorem aJ.eq{R:Type}(sv:Bs)(k:aW→Option R):aJ.A sv k=
  ah (aJ.L0.call (sv,(((List.length sv):Nat):Int),(0:Int))) fun x2=>
  aF (x2.isLeft) (
   ah (x2.getLeft?) fun a3=>
   k (aJ.out a3)) (
   ah (x2.getRight?) fun b4=>
   k (aJ.out (-1:Int))):=by kernel_rfl
theorem aJ.L0.ok:aJ.L0.Ok:=by
 refine aJ.L0.aL (fun(l,n,i)=>l.length - i.toNat) ?_
 rintro⟨l,n,i⟩ ⟨hl,hb,rfl,k,hk,rfl⟩
 have hb:l.length≤1000000000:=hb
 have hk:k≤l.length:=hk
 by_cases h:k < l.length
 ·have hx:=hl _ (List.getElem_mem h)
  have n1:nth tu l k=l[k]:=du (t:=tu) h
  have hd:uv oa (l.drop k) k=if oa l[k] then .inl (k:Int) else uv oa (l.drop (k+1)) ((k+1:Nat):Int):=by rw[List.drop_eq_getElem_cons h];rfl
  have step:∀ {R:Type} (kn:AS→Option R) (kx:Exit→AS→Option R),aJ.L0.R (l,(l.length:Int),(k:Int)) kn kx=aF (oa l[k]) (kx (aJ.L0.bK (k:Int)).1 (aJ.L0.bK (k:Int)).2) (kn (aJ.L0.st (l,(l.length:Int),((k+1:Nat):Int)))):=by
   intro R kn kx
   rw[aJ.L0.step,bq (by omega),bw (by omega) (by omega),Int.toNat_natCast,n1,dm.run (d:=l[k]) hx,N.nW (by omega)]
   rfl
  cases hp:oa l[k]
  ·left
   refine⟨(l,l.length,((k+1:Nat):Int)),⟨hl,hb,rfl,k+1,by omega,rfl⟩,by simp only[Int.toNat_natCast];omega,?_,fun kn kx=> ?_⟩
   ·simp only[aJ.L0.add,aJ.L0.F,Int.toNat_natCast,hd,hp,Bool.false_eq_true,if_false]
   ·rw[step,hp,aw]
  ·right
   refine⟨aJ.L0.bK (k:Int),?_,fun kn kx=> ?_⟩
   ·simp only[aJ.L0.add,aJ.L0.F,Int.toNat_natCast,hd,hp,if_true]
    rfl
   ·rw[step,hp,ao]
 ·right
  obtain rfl:k=l.length:=by omega
  refine⟨aJ.L0.jb (),?_,fun kn kx=> ?_⟩
  ·simp only[aJ.L0.add,aJ.L0.F,Int.toNat_natCast,List.drop_length]
   rfl
  ·rw[aJ.L0.step,bl (by omega),aw]
theorem aJ.ok:aJ.Ok:=by
 rintro l ⟨hl,hb⟩
 rw[aJ.eq,aJ.L0.run (d:=(l,l.length,0)) ⟨hl,hb,rfl,0,by omega,rfl⟩]
 simp only[aa,aJ.L0.add,aJ.L0.F,Int.toNat_zero,List.drop_zero,aJ.add,aJ.F,Cw]
 cases uv oa l 0 <;> rfl
noncomputable def aJ.E:=Entry.cP [some tU,none] aJ.st aJ.aC aJ.add aJ.F aJ.out
noncomputable def aJ.call:aJ.D→Option aJ.X:=bS aJ.E aJ.st
theorem aJ.run:bP aJ.call aJ.aC aJ.add aJ.F:=de (cZ [.d tU] fun _=>by kernel_rfl)
noncomputable def aJ.sg:SG Tryz.prog:=⟨133,aV,aJ.E,.fn 1 (by kernel_rfl) aJ.ok (And.intro (.cP aJ.L0.ok (by kernel_rfl)) trivial)⟩
abbrev bh.D:=Bs
def bh.st:bh.D→SA:=fun sv=>([.d tU sv,.fn 64 (.nil)],[])
abbrev bh.Y:=Bool
abbrev bh.X:=Bool
def bh.out:bh.X→aW:=fun x=>⟨.d .bool x,[],[]⟩
def bh.add:bh.D→bh.Y→bh.X:=fun sv y=>y
def bh.aC:bh.D→Prop:=fun l=>(∀x∈l,True)∧l.length≤1000000000
def bh.F:bh.D→bh.Y:=fun l=>l.any oa
noncomputable def bh.G:dH:=eT (P:=Tryz.prog) [aJ.sg]
noncomputable def bh.an:ee:= {}
noncomputable def bh.A:= @cT Tryz.prog bh.G bh.an 0 Tryz.f68 _ bh.st
abbrev bh.Ok:=cU @bh.A bh.aC bh.add bh.F bh.out
theorem bh.eq{R:Type}(sv:Bs)(k:aW→Option R):bh.A sv k=
 ah (aJ.call sv) fun x1=>
 k (bh.out (mV x1 (0:Int))):=by kernel_rfl
theorem bh.ok:bh.Ok:=by
 rintro l ⟨hl,hb⟩
 rw[bh.eq,aJ.run (d:=l) ⟨hl,hb⟩]
 simp only[aa,aJ.add,aJ.F,AX]
 rfl
noncomputable def bh.E:=Entry.cP [some tU,none] bh.st bh.aC bh.add bh.F bh.out
noncomputable def bh.call:bh.D→Option bh.X:=bS bh.E bh.st
theorem bh.run:bP bh.call bh.aC bh.add bh.F:=de (cZ [.d tU] fun _=>by kernel_rfl)
noncomputable def bh.sg:SG Tryz.prog:=⟨68,aV,bh.E,.fn 0 (by kernel_rfl) bh.ok trivial⟩
abbrev aX.L0.D:=Int×Bs×Int×Int×eI×(Int×Unit)×Int×Nat×(Int×Unit)×Bs×(List Sg)
def aX.L0.st:aX.L0.D→AS:=fun(inv_2,t52,t53,t54,n5,n10,n13,n13L,n13_2,n14,n64)=>⟨([.undef,.d ti inv_2,.undef,.undef,.undef,.ptr (.new 5 0) 0 [] 0]++bm 4 ([.ptr (.new 10 0) 0 [] 0,.undef,.undef,.ptr (.new 13 0) 0 [] 0,.ptr (.new 14 0) 0 [] 0]++bm 37 ([.d tU t52,.d ti t53,.d ti t54]++bm 21 []))),[],(cr 5 ([[.obj 0 false (.d gm n5)]]++cr 4 ([[.obj 0 false (.pr (.dq) (.pr (.dq) (.d (.pair ti .unit) n10)))],[],[],[.obj 0 false (.pr (.d ti n13) (.pr (.bt (.new 64 0) 0 [] 0 0 n13L) (.d (.pair tu .unit) n13_2)))],[.obj 0 false (.d tH n14)]]++cr 49 ([[.obj 0 false (.vec 135 uU n64)]]++cr 11 []))))⟩
abbrev aX.L0.Y0:=sY×(List Sg)
abbrev aX.L0.X0:=(Int×eI×(Int×Unit))×(sY×(List Sg))
def aX.L0.bK:aX.L0.X0→Exit×AS:=fun x=>(.exit 0,⟨([.undef,.d ti x.1.1,.undef,.undef,.undef,.ptr (.new 5 0) 0 [] 0]++bm 4 ([.ptr (.new 10 0) 0 [] 0,.undef,.undef,.ptr (.new 13 0) 0 [] 0]++bm 62 [])),[],(cr 5 ([[.obj 0 false (.d gm x.1.2.1)]]++cr 4 ([[.obj 0 false (.pr (.dq) (.pr (.dq) (.d (.pair ti .unit) x.1.2.2)))],[],[],[.obj 0 false (.d B5 x.2.1)]]++cr 50 ([[.obj 0 true (.vec 135 uU x.2.2)]]++cr 11 []))))⟩)
abbrev aX.L0.X:=aX.L0.X0
abbrev aX.L0.Y:=aX.L0.Y0
def aX.L0.out:aX.L0.X→Out (Exit×AS):=fun x=> .ok (aX.L0.bK x)
def aX.L0.add:aX.L0.D→aX.L0.Y→aX.L0.X:=fun(inv_2,t52,t53,t54,n5,n10,n13,n13L,n13_2,n14,n64) y=>((inv_2,n5,n10),y)
abbrev aX.D:=eI×Int×Int×Bs×Int
def aX.st:aX.D→SA:=fun(t,inv,branch,keys,secret)=>([.d gm t,.d ti inv,.d ti branch,.d tU keys,.d tu secret],[])
abbrev aX.Y:=eI×Int
abbrev aX.X:=eI×Int
def aX.out:aX.X→aW:=fun x=>⟨.cons (.d gm x.1) (.cons (.d ti x.2) (.nil)),[],[]⟩
def aX.add:aX.D→aX.Y→aX.X:=fun(t,inv,branch,keys,secret) y=>y
def aX.L0.aC:aX.L0.D→Prop:=fun(i0,l,n,i,t,e,br,L,sc,id,r)=>l.length≤1000∧(∀x∈l,gX x)∧Sm id∧∃k:Nat,k≤l.length∧i=k∧n=l.length∧L=r.length∧r.length≤1000+k
def aX.L0.F:aX.L0.D→aX.L0.Y:=fun(i0,l,n,i,t,e,br,L,sc,id,r)=>((br,r++(l.drop i.toNat).map (fun k=>fM k id),sc),r++(l.drop i.toNat).map (fun k=>fM k id))
def aX.aC:aX.D→Prop:=fun(t,i,br,ks,sc)=>nV t∧(∀x∈ks,gX x)∧ks.length≤1000000000
def aX.F:aX.D→aX.Y:=fun(t,i,br,ks,sc)=>BJ t i br ks sc
noncomputable def aX.G:dH:=eT (P:=Tryz.prog) [ak.sg,dR.sg,bh.sg,tid.sg,df.sg,ag.sg]
noncomputable def aX.L0.E:=bZ.cP aX.L0.st aX.L0.aC aX.L0.add aX.L0.F aX.L0.out
noncomputable def aX.L0.call:aX.L0.D→Option aX.L0.X:=dI aX.L0.E aX.L0.st
noncomputable def aX.an:ee:= {bj:=[5],loops:=lZ [(7,{bn:=[1,5,10,13,14,52,53,54],sites:=[5,10,13,14,64],kO:=[⟨13,[.snd,.fst],64,48⟩]})],outs:=lY [(7,{bn:=[1,5,10,13],sites:=[5,10,13,64],AD:=[⟨13,[.snd,.fst],(.slice uU)⟩]},{bn:=[10,11]})],fO:=mW [(7,aX.L0.E)],res:=[some gm,none]}
noncomputable def aX.A:= @cT Tryz.prog aX.G aX.an 0 Tryz.f16 _ aX.st
abbrev aX.Ok:=cU @aX.A aX.aC aX.add aX.F aX.out
noncomputable def aX.L0.R:= @cC Tryz.prog aX.G aX.an 0 Tryz.f16 0 _ aX.L0.st
abbrev aX.L0.Ok:=eO Tryz.prog aX.G aX.an 0 Tryz.f16 0 aX.L0.st aX.L0.aC aX.L0.add aX.L0.F aX.L0.out
theorem aX.L0.run:bP aX.L0.call aX.L0.aC aX.L0.add aX.L0.F:=fe (eY [.d ti,.d tU,.d ti,.d ti,.d gm,.d (.pair ti .unit),.d ti,.n,.d (.pair tu .unit),.d tB,.d (.slice uU)] fun _=>by kernel_rfl)
theorem aX.L0.aL:ga @aX.L0.R aX.L0.st aX.L0.aC aX.L0.add aX.L0.F aX.L0.bK aX.L0.Ok:=gw
theorem aX.L0.step{R:Type}(inv_2:Int)(t52:Bs)(t53:Int)(t54:Int)(n5:eI)(n10:(Int×Unit))(n13:Int)(n13L:Nat)(n13_2:(Int×Unit))(n14:Bs)(n64:(List Sg))(kn:AS→Option R)(kx:Exit→AS→Option R):aX.L0.R (inv_2,t52,t53,t54,n5,n10,n13,n13L,n13_2,n14,n64) kn kx=
  aF ((gQ t54 t53)) (
   aF (fE t54 (((List.length t52):Nat):Int)) (
   ah (df.call ((nth tu t52 (Int.toNat t54)),n14)) fun x4=>
   aF (decide (n13L≤(List.length n64))) (
   aF (dr (n13L+1) 16) (
   kn (aX.L0.st (inv_2,t52,t53,(ck .i64 t54 (1:Int)),n5,n10,n13,(n13L+1),n13_2,n14,((List.take n13L n64)++ [x4])))) none) none) none) (
   aF (decide (0=0∧(0+n13L)≤(List.length n64))) (
   kx (aX.L0.bK ((inv_2,n5,n10),((n13,((cut n64 0 n13L),n13_2)),n64))).1 (aX.L0.bK ((inv_2,n5,n10),((n13,((cut n64 0 n13L),n13_2)),n64))).2) none):=by kernel_rfl
theorem aX.eq{R:Type}(t:eI)(inv:Int)(branch:Int)(keys:Bs)(secret:Int)(k:aW→Option R):aX.A (t,inv,branch,keys,secret) k=
  ah (ak.call t) fun x10=>
  aF ((!x10)) (
   k (aX.out ((([]:List gU),(([]:List fR),((0:Int),()))),(1:Int)))) (
   aF ((gQ inv (0:Int))) (
    k (aX.out ((([]:List gU),(([]:List fR),((0:Int),()))),(1:Int)))) (
    aF ((mV inv (((List.length t.1):Nat):Int))) (
     k (aX.out ((([]:List gU),(([]:List fR),((0:Int),()))),(1:Int)))) (
     ah (dR.call (branch,(([]:List Sg),(secret,())))) fun x11=>
     aF ((!x11)) (
      k (aX.out ((([]:List gU),(([]:List fR),((0:Int),()))),(1:Int)))) (
      aF ((po (((List.length keys):Nat):Int) (12:Int))) (
       k (aX.out ((([]:List gU),(([]:List fR),((0:Int),()))),(1:Int)))) (
       ah (bh.call keys) fun x12=>
       aF (x12) (
        k (aX.out ((([]:List gU),(([]:List fR),((0:Int),()))),(1:Int)))) (
        ah (tid.call t) fun x16=>
        ah (aX.L0.call (inv,keys,(((List.length keys):Nat):Int),(0:Int),t,((0:Int),()),branch,0,(secret,()),x16,([]:List Sg))) fun x26=>
        ah (ag.call x26.1.2.1) fun x30=>
        aF (fE x26.1.1 ((x30.1:Nat):Int)) (
        aF (decide ((0+(Int.toNat x26.1.1)) < (List.length x30.2.2))) (
        aF (decide ((((0+(Int.toNat x26.1.1))*36)+33)=((0+((Int.toNat x26.1.1)*36))+33))) (
        aF (decide ((0+(Int.toNat x26.1.1)) < (List.length x30.2.2))) (
        aF (decide (0=0∧(0+x30.1)≤(List.length (List.set x30.2.2 (0+(Int.toNat x26.1.1)) ((nth ik x30.2.2 (0+(Int.toNat x26.1.1))).1,(x26.2.1,(nth ik x30.2.2 (0+(Int.toNat x26.1.1))).2.2)))))) (
        k (aX.out (((cut (List.set x30.2.2 (0+(Int.toNat x26.1.1)) ((nth ik x30.2.2 (0+(Int.toNat x26.1.1))).1,(x26.2.1,(nth ik x30.2.2 (0+(Int.toNat x26.1.1))).2.2))) 0 x30.1),x30.2.1),(0:Int)))) none) none) none) none) none)))))):=by kernel_rfl
theorem aX.L0.ok:aX.L0.Ok:=by
 refine aX.L0.aL (fun(i0,l,n,i,t,e,br,L,sc,id,r)=>l.length - i.toNat) ?_
 rintro⟨i0,l,n,i,t,e,br,L,sc,id,r⟩ ⟨hlen,hu,hm,k,hk,rfl,rfl,rfl,hr⟩
 have hlen:l.length≤1000:=hlen
 have hk:k≤l.length:=hk
 have hr:r.length≤1000+k:=hr
 by_cases h:k < l.length
 ·left
  have n1:nth tu l k=l[k]:=du (t:=tu) h
  have hd:List.drop k l=l[k]::List.drop (k+1) l:=List.drop_eq_getElem_cons h
  refine⟨(i0,l,l.length,((k+1:Nat):Int),t,e,br,r.length+1,sc,id,r++ [fM l[k] id]),⟨hlen,hu,hm,k+1,by omega,rfl,rfl,by rw[List.length_append];rfl,by rw[List.length_append];show r.length+1≤_;omega⟩,by simp only[Int.toNat_natCast];omega,?_,fun kn kx=> ?_⟩
  ·simp only[aX.L0.add,aX.L0.F,Int.toNat_natCast,hd,List.map_cons,List.append_assoc,List.singleton_append]
  ·rw[aX.L0.step,bq (by omega),bw (by omega) (by omega),Int.toNat_natCast,n1,df.run (d:=(l[k],id)) ⟨hu _ (List.getElem_mem h),hm⟩]
   simp only[ao,aa,df.add,df.F]
   rw[bf (Nat.le_refl _),eG (by omega) (by omega),N.nW (by omega),List.take_length]
   rfl
 ·right
  obtain rfl:k=l.length:=by omega
  intro R kn kx
  rw[aX.L0.step,bl (by omega),aw]
  simp only[aX.L0.add,aX.L0.F,Int.toNat_natCast,List.drop_length,List.map_nil,List.append_nil,Nat.zero_add,Nat.le_refl,and_self,decide_true,ao,fo]
theorem aX.ok:aX.Ok:=by
 rintro⟨⟨is,os,nt,u⟩,i,br,ks,sc⟩ ⟨hv,hu,hl⟩
 have hv:nV (is,os,nt,u):=hv
 have hl:ks.length≤1000000000:=hl
 rw[aX.eq,ak.run (d:=(is,os,nt,u)) hv.1]
 simp only[aa,ak.add,ak.F,aX.add,aX.F,BJ,my]
 rcases Bool.eq_false_or_eq_true (fA (is,os,nt,u)) with hok | hok
 rotate_left
 ·simp only[hok];rfl
 obtain⟨⟨_,a2,a3,_⟩,b1,b2⟩:=iH hok
 have a2:is.length≤64:=a2
 simp only[hok,Bool.not_true,aw,Bool.true_and]
 by_cases h1:i < 0
 ·rw[bq h1,ao,bI (by omega)];rfl
 rw[bl h1,aw]
 by_cases h2:i≥(is.length:Int)
 ·rw[fi h2,ao,bI (by omega)];rfl
 rw[ei h2,aw,dR.run (d:=(br,([],(sc,())))) trivial]
 simp only[aa,dR.add,dR.F,lX]
 by_cases h3:0≤br∧br < 4
 ·rw[bf h3]
  by_cases h4:ks.length > 12
  ·rw[dT (by omega),bI (p:=0≤i∧i < (is.length:Int)∧0≤br∧br < 4∧ks.length≤12) (by omega)];rfl
  ·rw[dF (by omega),bf (p:=0≤i∧i < (is.length:Int)∧0≤br∧br < 4∧ks.length≤12) (by omega),bh.run (d:=ks) ⟨fun _ _=>trivial,hl⟩]
   simp only[aa,bh.add,bh.F]
   rcases Bool.eq_false_or_eq_true (ks.any oa) with hb | hb
   rotate_left
   ·simp only[hb]
    obtain⟨k,rfl⟩:∃k:Nat,i=k:=⟨i.toNat,by omega⟩
    have hk:k < is.length:=by omega
    simp only[show(([]:List Sg).length≤12)=True from eq_true (Nat.zero_le _),decide_true,Bool.and_self,Bool.not_true,Bool.not_false,aw,Bool.true_and,if_true]
    rw[tid.run (d:=(is,os,nt,u)) hv]
    simp only[aa,tid.add,tid.F]
    rw[aX.L0.run (d:=((k:Int),ks,ks.length,0,(is,os,nt,u),(0,()),br,0,(sc,()),iK (is,os,nt,u),[])) ⟨by show ks.length≤_;omega,hu,yh,0,Nat.zero_le _,rfl,rfl,rfl,Nat.zero_le _⟩]
    simp only[aa,aX.L0.add,aX.L0.F,Int.toNat_zero,List.drop_zero,List.nil_append]
    rw[ag.run (d:=(is,os,nt,u)) hok]
    simp only[aa,ag.add,ag.F,Int.toNat_natCast,Nat.zero_add,Nat.add_zero,bw (show(0:Int)≤(k:Int) by omega) (show(k:Int) < (is.length:Int) by omega),ao,bf hk,decide_true,List.length_set,Nat.le_refl,and_self]
    rw[fo (by rw[List.length_set])]
   ·simp only[hb];rfl
 ·rw[bI h3,bI (p:=0≤i∧i < (is.length:Int)∧0≤br∧br < 4∧ks.length≤12) (by omega)];rfl
noncomputable def aX.E:=Entry.cP [some gm,some ti,some ti,some tU,some tu] aX.st aX.aC aX.add aX.F aX.out
noncomputable def aX.call:aX.D→Option aX.X:=bS aX.E aX.st
theorem aX.run:bP aX.call aX.aC aX.add aX.F:=de (cZ [.d gm,.d ti,.d ti,.d tU,.d tu] fun _=>by kernel_rfl)
noncomputable def aX.sg:SG Tryz.prog:=⟨16,aV,aX.E,.fn 1 (by kernel_rfl) aX.ok (And.intro (.cP aX.L0.ok (by kernel_rfl)) trivial)⟩
set_option synthInstance.maxSize 5000
abbrev eX:Ty:=(.pair gJ (.pair ti .unit))
abbrev dJ:=(fR×(Int×Unit))
abbrev zY:Ty:=(.pair bz (.pair eX .unit))
abbrev uZ:=(bX×(dJ×Unit))
abbrev dx:Ty:=(.pair (.slice zY) (.pair (.slice bz) .unit))
abbrev cG:=((List uZ)×((List bX)×Unit))
abbrev ek.D:=Bs×Bs
def ek.st:ek.D→SA:=fun(a,b)=>([.d tB a,.d tB b],[])
abbrev ek.Y:=Int
abbrev ek.X:=Int
def ek.out:ek.X→aW:=fun x=>⟨.d ti x,[],[]⟩
def ek.add:ek.D→ek.Y→ek.X:=fun(a,b) y=>y
def ek.aC:ek.D→Prop:=fun _=>True
def ek.F:ek.D→ek.Y:=fun(a,b)=>sE a b
noncomputable def ek.G:dH:=eT (P:=Tryz.prog) [⟨156,aV,yp.E,yp.of (fn:=Tryz.f156) (by kernel_rfl) (by kernel_rfl) (by kernel_rfl) (by kernel_rfl) (by kernel_rfl)⟩]
noncomputable def ek.an:ee:= {}
noncomputable def ek.A:= @cT Tryz.prog ek.G ek.an 0 Tryz.f82 _ ek.st
abbrev ek.Ok:=cU @ek.A ek.aC ek.add ek.F ek.out
theorem ek.eq{R:Type}(a:Bs)(b:Bs)(k:aW→Option R):ek.A (a,b) k=
 ah (yp.call (a,b)) fun x1=>
 k (ek.out x1):=by kernel_rfl
theorem ek.ok:ek.Ok:=by
 rintro⟨a,b⟩ _
 rw[ek.eq,yp.run]
 rfl
noncomputable def ek.E:=Entry.cP [some tB,some tB] ek.st ek.aC ek.add ek.F ek.out
noncomputable def ek.call:ek.D→Option ek.X:=bS ek.E ek.st
theorem ek.run:bP ek.call ek.aC ek.add ek.F:=de (cZ [.d tB,.d tB] fun _=>by kernel_rfl)
noncomputable def ek.sg:SG Tryz.prog:=⟨82,aV,ek.E,.fn 0 (by kernel_rfl) ek.ok trivial⟩
abbrev dY.D:=Int
def dY.st:dY.D→SA:=fun x=>([.d ti x],[])
abbrev dY.Y:=Bool
abbrev dY.X:=Bool
def dY.out:dY.X→aW:=fun x=>⟨.d .bool x,[],[]⟩
def dY.add:dY.D→dY.Y→dY.X:=fun x y=>y
def dY.aC:dY.D→Prop:=fun _=>True
def dY.F:dY.D→dY.Y:=fun _=>false
noncomputable def dY.G:dH:=eT (P:=Tryz.prog) []
noncomputable def dY.an:ee:= {}
noncomputable def dY.A:= @cT Tryz.prog dY.G dY.an 0 Tryz.f157 _ dY.st
abbrev dY.Ok:=cU @dY.A dY.aC dY.add dY.F dY.out
theorem dY.eq{R:Type}(x:Int)(k:aW→Option R):dY.A x k=
 k (dY.out (qe x x)):=by kernel_rfl
theorem dY.ok:dY.Ok:=by
 intro x _
 rw[dY.eq]
 simp only[dY.add,dY.F,eM rfl]
noncomputable def dY.E:=Entry.cP [some ti] dY.st dY.aC dY.add dY.F dY.out
noncomputable def dY.call:dY.D→Option dY.X:=bS dY.E dY.st
theorem dY.run:bP dY.call dY.aC dY.add dY.F:=de (cZ [.d ti] fun _=>by kernel_rfl)
noncomputable def dY.sg:SG Tryz.prog:=⟨157,aV,dY.E,.fn 0 (by kernel_rfl) dY.ok trivial⟩
def xo(x y:Int):Int:=if x < y then -1 else if x > y then 1 else 0
abbrev dW.D:=Int×Int
def dW.st:dW.D→SA:=fun(x,yv)=>([.d ti x,.d ti yv],[])
abbrev dW.Y:=Int
abbrev dW.X:=Int
def dW.out:dW.X→aW:=fun x=>⟨.d ti x,[],[]⟩
def dW.add:dW.D→dW.Y→dW.X:=fun(x,yv) y=>y
def dW.aC:dW.D→Prop:=fun _=>True
def dW.F:dW.D→dW.Y:=fun(x,y)=>xo x y
noncomputable def dW.G:dH:=eT (P:=Tryz.prog) [dY.sg]
noncomputable def dW.an:ee:= {}
noncomputable def dW.A:= @cT Tryz.prog dW.G dW.an 0 Tryz.f83 _ dW.st
abbrev dW.Ok:=cU @dW.A dW.aC dW.add dW.F dW.out
theorem dW.eq{R:Type}(x:Int)(yv:Int)(k:aW→Option R):dW.A (x,yv) k=
  ah (dY.call x) fun x1=>
  ah (dY.call yv) fun x2=>
  aF (x1) (
   aF (x2) (
    k (dW.out (0:Int))) (
    k (dW.out (-1:Int)))) (
   aF (x2) (
    k (dW.out (1:Int))) (
    aF ((gQ x yv)) (
     k (dW.out (-1:Int))) (
     aF ((po x yv)) (
      k (dW.out (1:Int))) (
      k (dW.out (0:Int)))))):=by kernel_rfl
theorem dW.ok:dW.Ok:=by
 rintro⟨x,y⟩ _
 rw[dW.eq,dY.run (d:=x) trivial]
 simp only[aa,dY.add,dY.F]
 rw[dY.run (d:=y) trivial]
 simp only[aa,dY.add,dY.F,aw,dW.add,dW.F,xo]
 by_cases h:x < y
 ·rw[bq h,ao,if_pos h]
 ·rw[bl h,aw,if_neg h]
  by_cases h2:x > y
  ·rw[dT h2,ao,if_pos h2]
  ·rw[dF h2,aw,if_neg h2]
noncomputable def dW.E:=Entry.cP [some ti,some ti] dW.st dW.aC dW.add dW.F dW.out
noncomputable def dW.call:dW.D→Option dW.X:=bS dW.E dW.st
theorem dW.run:bP dW.call dW.aC dW.add dW.F:=de (cZ [.d ti,.d ti] fun _=>by kernel_rfl)
noncomputable def dW.sg:SG Tryz.prog:=⟨83,aV,dW.E,.fn 0 (by kernel_rfl) dW.ok trivial⟩
abbrev dD.L0.D:=Int×(List Int)×Int×Int
def dD.L0.st:dD.L0.D→AS:=fun(zero,t6,t7,t8)=>⟨([.undef,.undef,.undef,.d ti zero,.undef,.undef,.d (.slice ti) t6,.d ti t7,.d ti t8]++bm 9 []),[],(List.replicate 18 [])⟩
abbrev dD.L0.Y0:=Int
abbrev dD.L0.X0:=Int
def dD.L0.bK:dD.L0.X0→Exit×AS:=fun x=>(.ret,⟨([.undef,.undef,.d ti x]++bm 15 []),[],(List.replicate 18 [])⟩)
abbrev dD.L0.Y1:=Unit
abbrev dD.L0.X1:=Int
def dD.L0.jb:dD.L0.X1→Exit×AS:=fun x=>(.exit 0,⟨([.undef,.undef,.undef,.d ti x]++bm 14 []),[],(List.replicate 18 [])⟩)
abbrev dD.L0.X:=(dD.L0.X0)⊕(dD.L0.X1)
abbrev dD.L0.Y:=(dD.L0.Y0)⊕(dD.L0.Y1)
def dD.L0.out:dD.L0.X→Out (Exit×AS):=fun x=> .br x.isLeft (.get x.getLeft? fun a=> .ok (dD.L0.bK a)) (.get x.getRight? fun b=> .ok (dD.L0.jb b))
def dD.L0.add:dD.L0.D→dD.L0.Y→dD.L0.X:=fun(zero,t6,t7,t8) y=>match y with | .inl y=> .inl y | .inr z=> .inr (zero)
abbrev dD.D:=(List Int)
def dD.st:dD.D→SA:=fun fP=>([.d (.slice ti) fP],[])
abbrev dD.Y:=Int
abbrev dD.X:=Int
def dD.out:dD.X→aW:=fun x=>⟨.d ti x,[],[]⟩
def dD.add:dD.D→dD.Y→dD.X:=fun fP y=>y
def Es:List Int→Int
 |[]=>0
 |x::l=>if x≠0 then x else Es l
def Dk:List Int→Int⊕Unit
 |[]=> .inr ()
 |x::l=>if x≠0 then .inl x else Dk l
theorem Dl:∀l:List Int,Es l=match Dk l with | .inl x=>x | .inr _=>0
 |[]=>rfl
 |x::l=>by
  simp only[Es,Dk]
  split
  ·rfl
  ·exact Dl l
def dD.L0.aC:dD.L0.D→Prop:=fun(z,l,n,i)=>z=0∧l.length≤1000000000∧n=l.length∧∃k:Nat,k≤l.length∧i=k
def dD.L0.F:dD.L0.D→dD.L0.Y:=fun(z,l,n,i)=>Dk (l.drop i.toNat)
def dD.aC:dD.D→Prop:=fun l=>l.length≤1000000000
def dD.F:dD.D→dD.Y:=fun l=>Es l
noncomputable def dD.G:dH:=eT (P:=Tryz.prog) []
noncomputable def dD.L0.E:=bZ.cP dD.L0.st dD.L0.aC dD.L0.add dD.L0.F dD.L0.out
noncomputable def dD.L0.call:dD.L0.D→Option dD.L0.X:=dI dD.L0.E dD.L0.st
noncomputable def dD.an:ee:= {loops:=lZ [(3,{bn:=[3,6,7,8]})],outs:=lY [(3,{bn:=[3]},{bn:=[2]})],fO:=mW [(3,dD.L0.E)]}
noncomputable def dD.A:= @cT Tryz.prog dD.G dD.an 0 Tryz.f81 _ dD.st
abbrev dD.Ok:=cU @dD.A dD.aC dD.add dD.F dD.out
noncomputable def dD.L0.R:= @cC Tryz.prog dD.G dD.an 0 Tryz.f81 0 _ dD.L0.st
abbrev dD.L0.Ok:=eO Tryz.prog dD.G dD.an 0 Tryz.f81 0 dD.L0.st dD.L0.aC dD.L0.add dD.L0.F dD.L0.out
theorem dD.L0.run:bP dD.L0.call dD.L0.aC dD.L0.add dD.L0.F:=fe (eY [.d ti,.d (.slice ti),.d ti,.d ti] fun _=>by kernel_rfl)
theorem dD.L0.aL:p9 @dD.L0.R dD.L0.st dD.L0.aC dD.L0.add dD.L0.F dD.L0.out dD.L0.Ok:=qK
theorem dD.L0.step{R:Type}(zero:Int)(t6:(List Int))(t7:Int)(t8:Int)(kn:AS→Option R)(kx:Exit→AS→Option R):dD.L0.R (zero,t6,t7,t8) kn kx=
  aF ((gQ t8 t7)) (
   aF (fE t8 (((List.length t6):Nat):Int)) (
   aF ((qe (nth ti t6 (Int.toNat t8)) zero)) (
    kx (dD.L0.bK (nth ti t6 (Int.toNat t8))).1 (dD.L0.bK (nth ti t6 (Int.toNat t8))).2) (
    kn (dD.L0.st (zero,t6,t7,(ck .i64 t8 (1:Int)))))) none) (
   kx (dD.L0.jb zero).1 (dD.L0.jb zero).2):=by kernel_rfl
theorem dD.eq{R:Type}(fP:(List Int))(k:aW→Option R):dD.A fP k=
  ah (dD.L0.call ((0:Int),fP,(((List.length fP):Nat):Int),(0:Int))) fun x1=>
  aF (x1.isLeft) (
   ah (x1.getLeft?) fun a2=>
   k (dD.out a2)) (
   ah (x1.getRight?) fun b3=>
   k (dD.out b3)):=by kernel_rfl
theorem dD.L0.ok:dD.L0.Ok:=by
 refine dD.L0.aL (fun(z,l,n,i)=>l.length - i.toNat) ?_
 rintro⟨z,l,n,i⟩ ⟨rfl,hl,rfl,k,hk,rfl⟩
 by_cases h:k < l.length
 ·have hd:l.drop k=l[k]::l.drop (k+1):=List.drop_eq_getElem_cons h
  have n1:nth ti l k=l[k]:=du (t:=ti) h
  by_cases h2:l[k]≠0
  ·right
   refine⟨dD.L0.bK l[k],?_,fun kn kx=> ?_⟩
   rotate_left
   ·rw[dD.L0.step,bq (by omega),ao,bw (by omega) (by omega),ao,Int.toNat_natCast,n1,fv h2,ao]
   ·simp only[dD.L0.add,dD.L0.F,Int.toNat_natCast,hd,Dk,if_pos h2]
    rfl
  ·left
   refine⟨(0,l,(l.length:Int),((k+1:Nat):Int)),⟨rfl,hl,rfl,k+1,by omega,rfl⟩,by simp only[Int.toNat_natCast];omega,?_,fun kn kx=> ?_⟩
   ·simp only[dD.L0.add,dD.L0.F,Int.toNat_natCast,hd,Dk,if_neg h2]
   ·rw[dD.L0.step,bq (by omega),ao,bw (by omega) (by omega),ao,Int.toNat_natCast,n1,eM (by omega),aw,N.nW (by omega)]
 ·right
  obtain rfl:k=l.length:=by omega
  refine⟨dD.L0.jb 0,?_,fun kn kx=> ?_⟩
  rotate_left
  ·rw[dD.L0.step,bl (by omega),aw]
  ·simp only[dD.L0.add,dD.L0.F,Int.toNat_natCast,List.drop_length,Dk]
   rfl
theorem dD.ok:dD.Ok:=by
 intro l hl
 rw[dD.eq,dD.L0.run (d:=(0,l,(l.length:Int),0)) ⟨rfl,hl,rfl,0,Nat.zero_le _,rfl⟩]
 simp only[aa,dD.L0.add,dD.L0.F,Int.toNat_zero,List.drop_zero,dD.add,dD.F]
 rw[Dl]
 cases Dk l <;> rfl
noncomputable def dD.E:=Entry.cP [some (.slice ti)] dD.st dD.aC dD.add dD.F dD.out
noncomputable def dD.call:dD.D→Option dD.X:=bS dD.E dD.st
theorem dD.run:bP dD.call dD.aC dD.add dD.F:=de (cZ [.d (.slice ti)] fun _=>by kernel_rfl)
noncomputable def dD.sg:SG Tryz.prog:=⟨81,aV,dD.E,.fn 1 (by kernel_rfl) dD.ok (And.intro (.cP dD.L0.ok (by kernel_rfl)) trivial)⟩
end Go.Ab
namespace Go.Ab
open Go.Sort (grow)
structure Ei(P:Program)(t:Ty)(g:FuncId)(Q:t.den→Prop)(cf:t.den→t.den→Int):Prop where
 bk:∃en,jv P g en∧∀x y,Q x→Q y→∃X,en.run [.d t x,.d t y] []=some X∧en.out [.d t x,.d t y] [] X=⟨.d (.int .i64) (cf x y),[],[]⟩
 enters:∀args w,(callFunc g args).run P w= .ok (.enter g args) w
 irrefl:∀x,Q x→¬cf x x < 0
 trans:∀x y z,Q x→Q y→Q z→cf x y < 0→cf y z < 0→cf x z < 0
 ntrans:∀x y z,Q x→Q y→Q z→¬cf x y < 0→¬cf y z < 0→¬cf x z < 0
theorem Cr{w w':World}(hos:w'.os=w.os)(htp:w'.tape=w.tape)(hout:w'.output=w.output∧w.drawn≤w'.drawn)(hsz:w.heap.size≤w'.heap.size)(hb:∀b:Nat,b < w.heap.size→w'.heap[b]? =w.heap[b]?):
  ∃q os,w'=grow (w.drewN q) os:=by
 obtain⟨h1,t1,d1,o1,p1⟩:=w
 obtain⟨h2,t2,d2,o2,p2⟩:=w'
 simp only at*
 obtain⟨hout,hd⟩:=hout
 subst hos htp hout
 obtain⟨q,rfl⟩:∃q,d2=d1+q:=⟨d2 - d1,by omega⟩
 refine⟨q,h2.extract h1.size h2.size,?_⟩
 have hh:h2=h1++h2.extract h1.size h2.size:=by
  apply Array.ext_getElem?
  intro i
  rw[Array.getElem?_append]
  by_cases hi:i < h1.size
  ·rw[if_pos hi,hb i hi]
  ·rw[if_neg hi,Array.getElem?_extract]
   by_cases h3:i < h2.size
   ·rw[if_pos (by omega)]
    congr 1;omega
   ·rw[if_neg (by omega),Array.getElem?_eq_none (by omega)]
 show({heap:=h2,tape:=_,drawn:=_,os:=_,output:=_}:World)= {heap:=h1++h2.extract h1.size h2.size,tape:=_,drawn:=_,os:=_,output:=_}
 rw[←hh]
 rfl
section
variable {P:Program} {t:Ty} {g:FuncId} {Q:t.den→Prop} {cf:t.den→t.den→Int}
theorem Ei.EP(h:Ei P t g Q cf)(ha:t.agg=true){W:World}{cx cy:List Value}{x y:t.den}(hx:bY ((eP []).env W (fun _=> .free) (fun _=>none)) t cx x)
  (hy:bY ((eP []).env W (fun _=> .free) (fun _=>none)) t cy y) (qx:Q x) (qy:Q y):
  Calls P g #[.agg cx.toArray,.agg cy.toArray] W fun e w'=>e= .returned (.int .i64 (cf x y))∧∃q os,w'=grow (W.drewN q) os:=by
 obtain⟨en,hd,hrun⟩:=h.bk
 obtain⟨X,hX1,hX2⟩:=hrun x y qx qy
 have one:∀ {c:List Value} {z:t.den},bY ((eP []).env W (fun _=> .free) (fun _=>none)) t c z→VS ((eP []).env W (fun _=> .free) (fun _=>none)) (.d t z) (.agg c.toArray):=fun hz=>
  ⟨_,by simpa only[V]using hz,by show dO t.agg _ _;rw[ha];rfl⟩
 have ho:e7 ((eP []).env W (fun _=> .free) (fun _=>none)):=fun id ver fr c h=>by
  exfalso
  cases id with
  |cz k=>simp[AS.env,AS.bk,eP]at h
  |new i j=>simp[AS.env,AS.bk,eP]at h
 rcases hd W (fun _=> .free) (fun _=>none) [.d t x,.d t y] [] [.agg cx.toArray,.agg cy.toArray] X ⟨one hx,one hy,trivial⟩ ho hX1 with⟨_,hc⟩ | ⟨v,w',hc,_⟩
 ·refine hc.mono fun e w' he=> ?_
  obtain⟨v,rfl,g',β',hv,_,ht,_⟩:=he
  rw[hX2]at hv
  obtain⟨cs,k1,k2⟩:=hv
  have k1:cs=[.int .i64 (cf x y)]:=k1
  subst k1
  have k2: [Value.int .i64 (cf x y)]=[v]:=k2
  have hv:v= .int .i64 (cf x y):=by simpa using k2.symm
  exact⟨by rw[hv],Cr ht.os ht.tape ht.output ht.size fun b hb=>(ht.qa b hb).2⟩
 ·rw[h.enters]at hc;cases hc
def Ah(cf:t.den→t.den→Int)(l l':List t.den):Prop:=l'.Perm l∧l'.Pairwise fun x y=>¬cf y x < 0
open Classical in
noncomputable def nO(cf:t.den→t.den→Int)(l:List t.den):List t.den:=if h:∃l',Ah cf l l' then h.choose else l
theorem uS(h:Ei P t g Q cf){l:List t.den}(hQ:∀x∈l,Q x):Ah cf l (nO cf l):=by
 have hx:∃l',Ah cf l l':=by
  let le: {x // Q x}→ {x // Q x}→Bool:=fun x y=> !decide (cf y.1 x.1 < 0)
  refine⟨((l.attachWith Q hQ).mergeSort le).map (·.1),?_,?_⟩
  ·have h1:=(List.mergeSort_perm (l.attachWith Q hQ) le).map (·.1)
   rwa[List.attachWith_map_subtype_val]at h1
  ·have h2:=List.pairwise_mergeSort (le:=le) (fun a b c h1 h2=>by
    simp only[le,Bool.not_eq_true',decide_eq_false_iff_not]at*
    exact h.ntrans _ _ _ c.2 b.2 a.2 h2 h1) (fun a b=>by
    simp only[le,Bool.or_eq_true,Bool.not_eq_true',decide_eq_false_iff_not]
    by_cases h1:cf b.1 a.1 < 0
    ·exact .inr fun h2=>h.irrefl _ a.2 (h.trans _ _ _ a.2 b.2 a.2 h2 h1)
    ·exact .inl h1) (l.attachWith Q hQ)
   rw[List.pairwise_map]
   exact h2.imp fun {a b} h3=>by simpa[le]using h3
 unfold nO
 rw[dif_pos hx]
 exact hx.choose_spec
theorem sh(h:Ei P t g Q cf){l l':List t.den}(hQ:∀x∈l,Q x)(hT:∀x∈l,∀y∈l,¬cf x y < 0→¬cf y x < 0→x=y)(hs:Ah cf l l'):l'=nO cf l:=by
 have h2:=uS h hQ
 exact List.Perm.eq_of_pairwise (fun a b ha hb h3 h4=>hT a (hs.1.mem_iff.1 ha) b (h2.1.mem_iff.1 hb) h4 h3) hs.2 h2.2 (hs.1.trans h2.1.symm)
def o5(g:FuncId)(e:TypeId)(t:Ty):Nat×List t.den→List aq×List cV:=fun d=>([.bt (.cz 0) 0 [] 0 0 d.1,.fn g .nil],[.obj 0 false (.vec e t d.2)])
def sa(Q:t.den→Prop)(cf:t.den→t.den→Int):Nat×List t.den→Prop:=fun d=>d.1=d.2.length∧d.2.length < 4611686018427387904∧(∀x∈d.2,Q x)∧∀x∈d.2,∀y∈d.2,¬cf x y < 0→¬cf y x < 0→x=y
def Ec(e:TypeId)(t:Ty):Nat×List t.den→aW:=fun x=>⟨.nil,[.obj 0 false (.vec e t x.2)],[]⟩
noncomputable def CV(g:FuncId)(e:TypeId)(t:Ty)(Q:t.den→Prop)(cf:t.den→t.den→Int):Entry:=
 Entry.of [none,none] (o5 g e t) (sa Q cf) (fun d=>(d.1,nO cf d.2)) (Ec e t)
theorem CW{g:FuncId}{e:TypeId}{t:Ty}(d d':Nat×List t.den)(h:o5 g e t d=o5 g e t d'):d=d':=by
 obtain⟨n,l⟩:=d
 obtain⟨n',l'⟩:=d'
 simp only[o5,Prod.mk.injEq,List.cons.injEq,aq.bt.injEq,cV.obj.injEq,true_and,and_true]at h
 obtain⟨rfl,h2⟩:=h
 rw[C1 h2]
noncomputable def uR(g:FuncId)(e:TypeId)(t:Ty)(Q:t.den→Prop)(cf:t.den→t.den→Int):Nat×List t.den→Option (Nat×List t.den):=fun d=>(CV g e t Q cf).run (o5 g e t d).1 (o5 g e t d).2
theorem yT{g:FuncId}{e:TypeId}{t:Ty}{Q:t.den→Prop}{cf:t.den→t.den→Int}{d:Nat×List t.den}(h:sa Q cf d):uR g e t Q cf d=some (d.1,nO cf d.2):=Entry.nL CW h
theorem od{R:List Value→t.den→Prop}:∀ {cs:List Value} {l:List t.den},aP R cs l→(∀x∈l,Q x)→∃ps:List {p:List Value×t.den // R p.1 p.2∧Q p.2},ps.map (·.1.2)=l∧(ps.map (·.1.1)).flatten=cs
 |cs,[],h,_=>⟨[],rfl,by have h:cs=[]:=h;rw[h];rfl⟩
 |cs,x::l,⟨c,cs',h1,h2,h3⟩,hq=>by
  obtain⟨ps,h4,h5⟩:=od h3 fun y hy=>hq y (List.mem_cons_of_mem _ hy)
  exact⟨⟨(c,x),h2,hq x (List.mem_cons_self ..)⟩::ps,by simp[h4],by simp[h5,h1]⟩
theorem oI{R R':List Value→t.den→Prop}(hR:∀c x,R c x→R' c x):∀ps:List {p:List Value×t.den // R p.1 p.2∧Q p.2},aP R' (ps.map (·.1.1)).flatten (ps.map (·.1.2))
 |[]=>rfl
 |p::ps=>⟨p.1.1,(ps.map (·.1.1)).flatten,by simp,hR _ _ p.2.1,oI hR ps⟩
theorem vK{α:Type} [Inhabited α] (enc:α→List Value) {k:Nat} (hk:∀x,(enc x).length=k):∀(ps:List α) (j:Nat),j < ps.length*k→((ps.map enc).flatten)[j]? =(enc (ps.toArray[j / k]!))[j%k]?
 |[],j,h=>by simp at h
 |p::ps,j,h=>by
  have k0:0 < k:=by
   rcases Nat.eq_zero_or_pos k with h0 | h0
   ·subst h0;simp at h
   ·exact h0
  simp only[List.map_cons,List.flatten_cons]
  by_cases hj:j < k
  ·rw[List.getElem?_append_left (by rw[hk];exact hj),Nat.div_eq_of_lt hj,Nat.mod_eq_of_lt hj]
   rfl
  ·have e1:j / k=(j - k) / k+1:=by
    rw[Nat.div_eq_sub_div k0 (by omega)]
   have e2:j%k=(j - k)%k:=by rw[Nat.mod_eq_sub_mod (by omega)]
   rw[List.getElem?_append_right (by rw[hk];omega),hk,vK enc hk ps (j - k) (by simp only[List.length_cons,Nat.add_mul,Nat.one_mul]at h;omega),e1,e2]
   congr 2
   simp
theorem nF{α:Type} [Inhabited α] (enc:α→List Value) {k:Nat} (hk:∀x,(enc x).length=k) (d:Array α):(Go.Sort.flatK enc k d).toList=(d.toList.map enc).flatten:=by
 have hl:((d.toList.map enc).flatten).length=d.size*k:=by
  rw[List.length_flatten,List.map_map]
  have:(d.toList.map (List.length∘enc))=List.replicate d.size k:=by
   rw[List.eq_replicate_iff]
   exact⟨by simp,fun x hx=>by obtain⟨y,_,rfl⟩:=List.mem_map.1 hx;exact hk y⟩
  rw[this,List.sum_replicate_nat]
 apply List.ext_getElem?
 intro j
 by_cases hj:j < d.size*k
 ·rw[vK enc hk d.toList j (by simpa using hj)]
  have h2:(Go.Sort.flatK enc k d).toList[j]? =some ((Go.Sort.flatK enc k d)[j]!):=by
   rw[Array.getElem?_toList,getElem!_pos _ j (by rw[Go.Sort.size_flatK];exact hj)]
   simp[hj]
  rw[h2,Go.Sort.get_flatK _ _ _ _ hj]
  have hk0:0 < k:=by
   rcases Nat.eq_zero_or_pos k with h0 | h0
   ·subst h0;simp at hj
   ·exact h0
  have hm:j%k < k:=Nat.mod_lt _ hk0
  simp only[Array.toArray_toList]
  rw[List.getElem?_eq_getElem (by rw[hk];exact hm),getElem!_pos _ _ (by rw[hk];exact hm)]
 ·rw[List.getElem?_eq_none (by simpa using hj),List.getElem?_eq_none (by rw[hl];omega)]
theorem Bz{F cur:Array Value}(h:F.size≤cur.size):(Go.Sort.putCells id 0 F cur).toList=F.toList++cur.toList.drop F.size:=by
 apply List.ext_getElem?
 intro j
 simp only[Go.Sort.putCells,Array.getElem?_toList,Array.getElem?_mapIdx,Nat.zero_le,true_and,Nat.zero_add,Nat.sub_zero,id]
 by_cases hj:j < F.size
 ·rw[List.getElem?_append_left (by simpa using hj),Array.getElem?_toList,Array.getElem?_eq_getElem hj,Array.getElem?_eq_getElem (by omega),Option.map_some,if_pos hj,getElem!_pos F j hj]
 ·rw[List.getElem?_append_right (by simpa using hj),List.getElem?_drop,Array.getElem?_toList,Array.length_toList,show F.size+(j - F.size)=j by omega]
  cases cur[j]? with
  |none=>rfl
  |some y=>rw[Option.map_some,if_neg hj]
end
section
open Go.Proofs Go.Shelf Go.Lib Go.Sort
variable {P:Program} {ρ:Go.Shelf.Ren} {t:Ty} {g:FuncId} {Q:t.den→Prop} {cf:t.den→t.den→Int}
theorem si{α:Type} [Inhabited α] (enc:α→List Value) (k:Nat) (w:World) (qa m:Nat) (dk:Array α) (os:Array Obj) {b:Nat} (hb:b < w.heap.size) (hne:b≠qa):(sortWorldK enc k w qa 0 m dk os).heap[b]? =w.heap[b]? :=by
 show((w.heap.modify qa _)++os)[b]? =_
 rw[Array.getElem?_append,if_pos (by simpa using hb),Array.getElem?_modify,if_neg (fun e=>hne e.symm)]
theorem CZ{α:Type} [Inhabited α] (enc:α→List Value) (k:Nat) (w:World) (qa m:Nat) (dk:Array α) (os:Array Obj) {cur:Array Value} {e:TypeId} {fr:Nat×Nat} (hb:w.heap[qa]? =some (.cells cur e fr)):
  (sortWorldK enc k w qa 0 m dk os).heap[qa]? =some (.cells (putCells id 0 (flatK enc k dk) cur) e fr):=by
 have hlt:qa < w.heap.size:=(Array.getElem?_eq_some_iff.1 hb).1
 show((w.heap.modify qa _)++os)[qa]? =_
 rw[Array.getElem?_append,if_pos (by simpa using hlt),Array.getElem?_modify,if_pos rfl,hb]
 rfl
set_option maxHeartbeats 1000000 in
theorem BP(L:SlLaysF0.n6 P ρ){e:TypeId}(ha:t.agg=true)(aE:∀w,(isAgg (ρ.t 24)).run P w= .ok true w)(zE:∀w,(Go.sizeOf (ρ.t 24)).run P w= .ok t.size w)(hc:Ei P t g Q cf):
  jv P (ρ.f 6) (CV g e t Q cf):=by
 intro w γ β args ch fP x hv ho hx
 obtain⟨d0,hd0,hpre⟩:∃d,o5 g e t d=(args,ch)∧sa Q cf d:=by
  by_cases hh:∃d,o5 g e t d=(args,ch)∧sa Q cf d
  ·exact hh
  ·exfalso
   have hn:(CV g e t Q cf).run args ch=none:=dif_neg hh
   rw[hn]at hx
   cases hx
 have hr:=yT (g:=g) (e:=e) hpre
 unfold uR at hr
 rw[hd0]at hr
 obtain rfl:x=(d0.1,nO cf d0.2):=Option.some.inj (hx.symm.trans hr)
 obtain⟨n,l⟩:=d0
 simp only[o5,Prod.mk.injEq]at hd0
 obtain⟨rfl,rfl⟩:=hd0
 obtain⟨hn,hsz,hQ,hT⟩:=hpre
 have hn:n=l.length:=hn
 subst hn
 match fP,hv with
 |[y1,y2],⟨hv1,hv2,_⟩=>
 obtain⟨vs,rfl,hvs⟩:=yw hv2
 have hvs:vs=[]:=by simpa only[VC]using hvs
 subst hvs
 have h1:=hv1.single rfl rfl
 simp only[V]at h1
 obtain⟨a,cap,h1,hcap,hsome,_,hcur⟩:=h1
 have h1:y1= .slice a l.length cap:=by simpa using h1
 subst h1
 have hent:(eP [cV.obj 0 false (.vec e t l)]).bk (.cz 0)=some (.obj 0 false (.vec e t l)):=rfl
 obtain⟨hz,hO⟩:EB ((eP [cV.obj 0 false (.vec e t l)]).env w γ β) (.cz 0) false e t l:=ho (.cz 0) 0 false _ hent
 have hcur:=hcur ⟨false,_,hent⟩
 refine .inl ⟨L.f6.enters rfl _ _,?_⟩
 have hnil:∀v:Value,v= .tuple #[]→VS ((aW.st ⟨.nil,[.obj 0 false (.vec e t (nO cf l))],[]⟩).env w γ β) .nil v:=fun v hv=>by rw[hv];exact rfl
 have hS:=uS hc hQ
 by_cases hl:l=[]
 ·subst hl
  have hs:nO cf ([]:List t.den)=[]:=List.eq_nil_of_length_eq_zero hS.1.length_eq
  refine(AnyF.slices_SortFunc_none L a cap _ w).mono fun e' w' he=> ?_
  obtain⟨rfl,rfl⟩:=he
  refine⟨_,rfl,?_⟩
  show km _ (⟨.nil,[.obj 0 false (.vec e t (nO cf []))],[]⟩:aW) _ _
  rw[hs]
  exact km.same rfl ho
 ·have hpos:0 < l.length:=List.length_pos_iff.2 hl
  change (match β (.cz 0) with | none=>l=[] | some pl=>∃cur k,w.heap[pl.b]? =some (.cells cur e (0,0))∧cur.size=pl.cap*t.size∧l.length≤pl.cap∧pl.cap≤maxLen∧γ pl.b= .own (.id (.cz 0)) k∧
   k≤l.length*t.size∧(false=false→k=0)∧aP (bY ((eP [cV.obj 0 false (.vec e t l)]).env w γ β) t) (cur.toList.take (l.length*t.size)) l) at hO
  change (match β (.cz 0) with | some pl=>(0 < l.length∨True→a=some ⟨pl.b,0,none⟩)∧(True→True→cap=pl.cap) | none=>a=none∧l.length=0∧cap=0) at hcur
  cases hβ:β (.cz 0) with
  |none=>rw[hβ]at hO;exact absurd hO hl
  |some pl=>
  rw[hβ]at hO hcur
  obtain⟨cur,k0,q1,q2,q3,q4,q5,_,q7,q8⟩:=hO
  obtain rfl:=q7 rfl
  obtain rfl:=hcur.1 (.inl hpos)
  have hblk:pl.b < w.heap.size:=(Array.getElem?_eq_some_iff.1 q1).1
  obtain⟨R,hR⟩:∃R:List Value→t.den→Prop,R=bY ((eP [cV.obj 0 false (.vec e t l)]).env w γ β) t:=⟨_,rfl⟩
  have hRm:∀c x,R c x→bY ((eP [cV.obj 0 false (.vec e t l)]).env w γ β) t c x:=by rw[hR];exact fun _ _ h=>h
  rw[←hR]at q8
  obtain⟨ps,p1,p2⟩:=od (Q:=Q) q8 hQ
  have hps:ps.length=l.length:=by rw[←p1,List.length_map]
  let α:= {p:List Value×t.den // R p.1 p.2∧Q p.2}
  have:0 < ps.length:=by omega
  letI:Inhabited α:=⟨ps[0]⟩
  let enc:α→List Value:=fun p=>p.1.1
  let cf':α→α→Int:=fun p q=>cf p.1.2 q.1.2
  have hk:∀x,(enc x).length=t.size:=fun x=>(hRm _ _ x.2.1).size
  have hO:SWO (ltOf cf'):=⟨fun x=>by simpa[ltOf,cf']using hc.irrefl _ x.2.2,fun x y z h1 h2=>by
   simp only[ltOf,decide_eq_true_eq,cf']at*
   exact hc.trans _ _ _ x.2.2 y.2.2 z.2.2 h1 h2,fun x y z h1 h2=>by
   simp only[ltOf,decide_eq_false_iff_not,cf']at*
   exact hc.ntrans _ _ _ x.2.2 y.2.2 z.2.2 h1 h2⟩
  have hcell:∀j,j < l.length*t.size→cur[j]? =((ps.map enc).flatten)[j]? :=fun j hj=>by
   have:(ps.map enc).flatten=cur.toList.take (l.length*t.size):=p2
   rw[this,List.getElem?_take,if_pos hj,Array.getElem?_toList]
  have hH:HoldsK enc t.size w pl.b 0 ps.toArray:=fun j hj=>by
   rw[size_flatK]at hj
   have hj:j < ps.length*t.size:=by simpa using hj
   have h2:=hcell j (by rw[←hps];exact hj)
   have h3:((flatK enc t.size ps.toArray).toList)[j]? =((ps.map enc).flatten)[j]? :=by rw[nF enc hk]
   rw[Array.getElem?_toList,Array.getElem?_eq_getElem (by rw[size_flatK];simpa using hj)]at h3
   refine⟨?_,?_⟩
   ·show(match w.heap[pl.b]? with | some (.cells c _ _)=>if(none:Option _).isSome then none else c[0+j]? | _=>none)=_
    rw[q1]
    simp only[Option.isSome_none,Bool.false_eq_true,if_false,Nat.zero_add]
    rw[h2,←h3,getElem!_pos _ j (by rw[size_flatK];simpa using hj)]
    rfl
   ·show(match w.heap[pl.b]? with | some (.cells _ _ (lo,hi))=>decide (lo≤0+j) && decide (0+j < hi) | _=>false)=false
    rw[q1]
    simp
  have hmem:∀(m:Nat) (dk:Array α) (os:Array Obj),iP ((eP [cV.obj 0 false (.vec e t l)]).env w γ β) ((eP []).env (sortWorldK enc t.size w pl.b 0 m dk os) (fun _=> .free) (fun _=>none)):=fun m dk os=>by
   refine⟨fun b off v hh=>⟨?_,trivial⟩,fun b ob hf hob=>⟨rfl,?_⟩⟩
   ·obtain⟨h1,h2⟩:=hh
    have hb:b < w.heap.size:=World.block_lt_of_cell? _ _ h1
    have hne:b≠pl.b:=fun e=>by
     have h2:iO γ b off:=h2
     unfold iO at h2
     rw[e,q5]at h2
     exact Nat.not_lt_zero _ h2
    have h1:w.cell? ⟨b,off,none⟩=some v:=h1
    show(sortWorldK enc t.size w pl.b 0 m dk os).cell? ⟨b,off,none⟩=some v
    simpa only[World.cell?,si enc t.size w pl.b m dk os hb hne]using h1
   ·have hob:w.heap[b]? =some ob:=hob
    have hb:b < w.heap.size:=(Array.getElem?_eq_some_iff.1 hob).1
    have hne:b≠pl.b:=fun e=>by
     have hf:γ b= .free:=hf
     rw[e,q5]at hf;cases hf
    exact(si enc t.size w pl.b m dk os hb hne).trans hob
  have hcmp:CmpLays P g #[] enc t.size cf' pl.b 0 ps.toArray.size w:=fun m os dk _ p q=>
   hc.EP ha ((hRm _ _ p.2.1).mono (hmem m dk os)) ((hRm _ _ q.2.1).mono (hmem m dk os)) p.2.2 q.2.2
  have hcon:=AnyQ.slices_SortFunc L t.size aE zE enc hk (fun p=>(hRm _ _ p.2.1).one) cf' hO g #[] pl.b 0 cap ps.toArray w hc.enters hcmp hH hblk (by simpa[hps]using hsz)
  rw[show ps.toArray.size=l.length by simpa using hps]at hcon
  refine hcon.mono fun e' w' he=> ?_
  obtain⟨rfl,d',m,os,hp,hs,rfl⟩:=he
  refine⟨_,rfl,?_⟩
  obtain⟨s1,_,s2⟩:=hp
  have hd:d'.size=l.length:=by rw[s1];simpa using hps
  have hperm:d'.toList.Perm ps:=by
   have e1:(d'.extract 0 l.length)=d':=by rw[←hd];simp
   have e2:(ps.toArray.extract 0 l.length)=ps.toArray:=by rw[←hps];simp
   rw[e1,e2]at s2
   exact s2
  have hl':Ah cf l (d'.toList.map (·.1.2)):=by
   refine⟨by rw[←p1];exact hperm.map _,?_⟩
   rw[List.pairwise_map,List.pairwise_iff_getElem]
   intro i j hi hj hij
   have:=hs i j (Nat.zero_le _) hij (by rw[←hd];simpa using hj)
   rw[getElem!_pos d' i (by simpa using hi),getElem!_pos d' j (by simpa using hj)]at this
   simpa[ltOf,cf']using this
  have heq:=sh hc hQ hT hl'
  show km _ (⟨.nil,[.obj 0 false (.vec e t (nO cf l))],[]⟩:aW) _ _
  rw[←heq]
  have hself:=CZ enc t.size w pl.b m d' os q1
  have hFs:(flatK enc t.size d').size≤cur.size:=by
   rw[size_flatK,hd,q2]
   exact Nat.mul_le_mul_right _ q3
  have hoth:∀b,b < w.heap.size→b≠pl.b→(sortWorldK enc t.size w pl.b 0 m d' os).heap[b]? =w.heap[b]? :=fun b hb hne=>si enc t.size w pl.b m d' os hb hne
  have hsize:w.heap.size≤(sortWorldK enc t.size w pl.b 0 m d' os).heap.size:=size_sortWorldK_c enc t.size w pl.b 0 m d' os
  have hw:(sortWorldK enc t.size w pl.b 0 m d' os).os=w.os∧(sortWorldK enc t.size w pl.b 0 m d' os).tape=w.tape∧((sortWorldK enc t.size w pl.b 0 m d' os).output=w.output∧w.drawn≤(sortWorldK enc t.size w pl.b 0 m d' os).drawn):=⟨rfl,rfl,rfl,Nat.le_add_right _ _⟩
  generalize sortWorldK enc t.size w pl.b 0 m d' os=w' at hself hoth hsize hw
  have ht:Trans w w' γ γ:=by
   refine⟨hw.1,hw.2.1,hw.2.2,hsize,fun b hb=> ?_⟩
   by_cases hbb:b=pl.b
   ·subst hbb
    rw[q5]
    exact⟨.inr ⟨_,0,rfl,Nat.le_refl _⟩,fun _ _ hh=>by omega⟩
   ·rw[hoth b hb hbb]
    cases hgb:γ b with
    |free=>exact⟨rfl,rfl⟩
    |own o' k=>cases o' with
     |dC=>exact⟨rfl,rfl⟩
     |id i'=>exact⟨.inr ⟨i',k,rfl,Nat.le_refl _⟩,fun off v _ hv=>by simpa only[World.cell?,hoth b hb hbb]using hv⟩
  have hle:bH ((eP [cV.obj 0 false (.vec e t l)]).env w γ β) ((aW.st ⟨.nil,[.obj 0 false (.vec e t (d'.toList.map (·.1.2)))],[]⟩).env w' γ β):=by
   have e0:∀id,(∃c,(eP [cV.obj 0 false (.vec e t l)]).bk id=some (.obj 0 false c)∧id= .cz 0)∨((eP [cV.obj 0 false (.vec e t l)]).bk id=none∧(aW.st ⟨.nil,[.obj 0 false (.vec e t (d'.toList.map (·.1.2)))],[]⟩).bk id=none):=fun id=>by
    cases id with
    |cz k=>cases k with
     |zero=>exact .inl ⟨_,rfl,rfl⟩
     |succ k=>exact .inr ⟨rfl,rfl⟩
    |new i j=>refine .inr ⟨?_,?_⟩ <;> cases i <;> rfl
   refine⟨Trans.mem (E:=(eP [cV.obj 0 false (.vec e t l)]).env w γ β) (E':=(aW.st ⟨.nil,[.obj 0 false (.vec e t (d'.toList.map (·.1.2)))],[]⟩).env w' γ β) ht,fun id ver hb=> ?_,fun id ver hb hcu=> ?_⟩
   ·rcases e0 id with⟨c,_,rfl⟩ | ⟨h1,_⟩
    ·refine⟨by show(some _:Option cV)≠none;simp,fun v fr c h=> ?_⟩
     have h:some (cV.obj 0 false (.vec e t (d'.toList.map (·.1.2))))=some (.obj v fr c):=h
     simp only[Option.some.injEq,cV.obj.injEq]at h
     have:=hb.2 0 false _ rfl
     omega
    ·exact absurd h1 hb.1
   ·rcases e0 id with⟨c,_,rfl⟩ | ⟨h1,_⟩
    ·obtain⟨fr,c,h⟩:=hcu
     have h:some (cV.obj 0 false (.vec e t (d'.toList.map (·.1.2))))=some (.obj ver fr c):=h
     simp only[Option.some.injEq,cV.obj.injEq]at h
     obtain⟨rfl,rfl,_⟩:=h
     exact⟨⟨false,_,rfl⟩,rfl⟩
    ·exact absurd h1 hb.1
  refine⟨γ,β,rfl,fun id ver fr c h=> ?_,ht,hle⟩
  have hid:id= .cz 0∧ver=0∧fr=false∧c= .vec e t (d'.toList.map (·.1.2)):=by
   cases id with
   |cz k=>cases k with
    |zero=>
     have h:some (cV.obj 0 false (.vec e t (d'.toList.map (·.1.2))))=some (.obj ver fr c):=h
     simp only[Option.some.injEq,cV.obj.injEq]at h
     obtain⟨rfl,rfl,rfl⟩:=h
     exact⟨rfl,rfl,rfl,rfl⟩
    |succ k=>cases h
   |new i j=>cases i <;> cases h
  obtain⟨rfl,rfl,rfl,rfl⟩:=hid
  refine⟨hz,?_⟩
  show(match β (.cz 0) with | none=>(d'.toList.map (·.1.2))=[] | some pl=>_)
  rw[hβ]
  have hlen:(d'.toList.map (fun p:α=>p.1.2)).length=l.length:=by simpa using hd
  refine⟨_,0,hself,?_,by rw[hlen];exact q3,q4,q5,Nat.zero_le _,fun _=>rfl,?_⟩
  ·rw[←q2];simp[putCells]
  ·have e3:(putCells id 0 (flatK enc t.size d') cur).toList.take ((d'.toList.map (fun p:α=>p.1.2)).length*t.size)=(d'.toList.map enc).flatten:=by
    rw[Bz hFs,nF enc hk,hlen]
    have e4:((d'.toList.map enc).flatten).length=l.length*t.size:=by
     rw[←nF enc hk,Array.length_toList,size_flatK,hd]
    rw[←e4,List.take_left]
   rw[e3]
   exact oI (Q:=Q) (fun c x h=>(hRm c x h).mono hle.mem) d'.toList
end
end Go.Ab
namespace Go.Ab
open Go.Proofs
set_option maxRecDepth 100000
set_option linter.unusedVariables false
set_option linter.unusedSimpArgs false
set_option synthInstance.maxSize 5000
set_option synthInstance.maxSize 5000
set_option synthInstance.maxSize 5000
set_option synthInstance.maxSize 5000
set_option synthInstance.maxSize 5000
abbrev eo.D:=bX×bX
def eo.st:eo.D→SA:=fun(a,b)=>([.d bz a,.d bz b],[])
abbrev eo.Y:=Int
abbrev eo.X:=Int
def eo.out:eo.X→aW:=fun x=>⟨.d ti x,[],[]⟩
def eo.add:eo.D→eo.Y→eo.X:=fun(a,b) y=>y
def ns(a b:bX):Int:=Es [sE a.1 b.1,xo a.2.1 b.2.1]
def eo.aC:eo.D→Prop:=fun(a,b)=>a.1.length=32∧b.1.length=32
def eo.F:eo.D→eo.Y:=fun(a,b)=>ns a b
noncomputable def eo.G:dH:=eT (P:=Tryz.prog) [ek.sg,dW.sg,dD.sg]
noncomputable def eo.an:ee:= {}
noncomputable def eo.A:= @cT Tryz.prog eo.G eo.an 0 Tryz.f80 _ eo.st
abbrev eo.Ok:=cU @eo.A eo.aC eo.add eo.F eo.out
theorem eo.eq{R:Type}(a:bX)(b:bX)(k:aW→Option R):eo.A (a,b) k=
 ah (ek.call ((cut a.1 0 32),(cut b.1 0 32))) fun x1=>
 ah (dW.call (a.2.1,b.2.1)) fun x2=>
 ah (dD.call [x1,x2]) fun x3=>
 k (eo.out x3):=by kernel_rfl
theorem eo.ok:eo.Ok:=by
 rintro⟨a,b⟩ ⟨ha,hb⟩
 have ha:a.1.length=32:=ha
 have hb:b.1.length=32:=hb
 have c1:cut a.1 0 32=a.1:=fo ha
 have c2:cut b.1 0 32=b.1:=fo hb
 rw[eo.eq,c1,c2,ek.run (d:=(a.1,b.1)) trivial]
 simp only[aa,ek.add,ek.F]
 rw[dW.run (d:=(a.2.1,b.2.1)) trivial]
 simp only[aa,dW.add,dW.F]
 rw[dD.run (d:=[sE a.1 b.1,xo a.2.1 b.2.1]) (by show 2≤_;decide)]
 simp only[aa,dD.add,dD.F,eo.add,eo.F,ns]
noncomputable def eo.E:=Entry.cP [some bz,some bz] eo.st eo.aC eo.add eo.F eo.out
noncomputable def eo.call:eo.D→Option eo.X:=bS eo.E eo.st
theorem eo.run:bP eo.call eo.aC eo.add eo.F:=de (cZ [.d bz,.d bz] fun _=>by kernel_rfl)
noncomputable def eo.sg:SG Tryz.prog:=⟨80,aV,eo.E,.fn 0 (by kernel_rfl) eo.ok trivial⟩
def lx:List Int→List Int→Int
 |x::xs,y::ys=>if x≠y then(if x < y then -1 else 1) else lx xs ys
 |_,_=>0
theorem yI:∀a,lx a a=0
 |[]=>rfl
 |x::a=>by simp[lx,yI a]
theorem Dg:∀ {a b:List Int},a.length=b.length→lx a b=0→a=b
 |[],[],_,_=>rfl
 |[],_::_,h,_=>by simp at h
 |_::_,[],h,_=>by simp at h
 |x::a,y::b,h,h2=>by
  simp only[lx]at h2
  split at h2
  ·split at h2 <;> omega
  ·rename_i e
   have e:x=y:=by omega
   rw[e,Dg (by simpa using h) h2]
theorem rG:∀a b:List Int,lx b a= - lx a b
 |[],[]=>rfl
 |[],_::_=>rfl
 |_::_,[]=>rfl
 |x::a,y::b=>by
  simp only[lx]
  by_cases h:x=y
  ·rw[if_neg (by omega),if_neg (by omega),rG a b]
  ·rw[if_pos (by omega),if_pos h]
   by_cases h2:x < y
   ·rw[if_neg (by omega),if_pos h2];rfl
   ·rw[if_pos (by omega),if_neg h2]
theorem rH:∀ {a b c:List Int},a.length=b.length→b.length=c.length→lx a b≤0→lx b c≤0→lx a c≤0∧(lx a c=0→lx a b=0∧lx b c=0)
 |[],[],[],_,_,_,_=>by simp[lx]
 |x::a,y::b,z::c,h1,h2,h3,h4=>by
  have ih:=rH (a:=a) (b:=b) (c:=c) (by simpa using h1) (by simpa using h2)
  simp only[lx]at h3 h4 ⊢
  by_cases e1:x=y
  ·by_cases e2:y=z
   ·rw[if_neg (by omega)]at h3 h4
    rw[if_neg (by omega),if_neg (by omega),if_neg (by omega)]
    exact ih h3 h4
   ·rw[if_neg (by omega)]at h3
    rw[if_pos e2]at h4
    rw[if_pos (by omega)]
    by_cases e3:y < z
    ·rw[if_pos (by omega)]
     exact⟨by omega,fun h=>by omega⟩
    ·rw[if_neg e3]at h4;omega
  ·rw[if_pos e1]at h3
   by_cases e3:x < y
   ·by_cases e2:y=z
    ·rw[if_pos (by omega),if_pos (by omega)]
     exact⟨by omega,fun h=>by omega⟩
    ·rw[if_pos e2]at h4
     by_cases e4:y < z
     ·rw[if_pos (by omega),if_pos (by omega)]
      exact⟨by omega,fun h=>by omega⟩
     ·rw[if_neg e4]at h4;omega
   ·rw[if_neg e3]at h3;omega
 |[],_::_,_,h,_,_,_=>by simp at h
 |_::_,[],_,h,_,_,_=>by simp at h
 |_,[],_::_,_,h,_,_=>by simp at h
 |_,_::_,[],_,h,_,_=>by simp at h
def Fo(a b:Int):Int:=if a=0 then b else a
theorem uC{p:Int}{a b:List Int}:lx (p::a) (p::b)=lx a b:=by simp[lx]
theorem py{p q:Int}{a b:List Int}(h:¬p=q):lx (p::a) (q::b)=if p < q then -1 else 1:=by simp[lx,h]
theorem yH:∀ {a b:List Int} (x y:Int),a.length=b.length→lx (a++ [x]) (b++ [y])=Fo (lx a b) (xo x y)
 |[],[],x,y,_=>by
  show lx [x] [y]=Fo 0 (xo x y)
  simp only[Fo,if_true]
  unfold xo
  by_cases h:x=y
  ·subst h
   rw[uC,if_neg (by omega),if_neg (by omega)]
   rfl
  ·rw[py h]
   by_cases h2:x < y
   ·rw[if_pos h2,if_pos h2]
   ·rw[if_neg h2,if_neg h2,if_pos (by omega)]
 |[],_::_,_,_,h=>by simp at h
 |_::_,[],_,_,h=>by simp at h
 |p::a,q::b,x,y,h=>by
  show lx (p::(a++ [x])) (q::(b++ [y]))=_
  by_cases h2:p=q
  ·subst h2
   rw[uC,uC]
   exact yH x y (by simpa using h)
  ·rw[py h2,py h2]
   by_cases h3:p < q
   ·rw[if_pos h3];rfl
   ·rw[if_neg h3];rfl
def Az:List UInt8→List UInt8→Int
 |x::xs,y::ys=>if x !=y then(if x < y then -1 else 1) else Az xs ys
 |_,_=>0
theorem vA:∀(xs ys:List UInt8),xs.length=ys.length→(match(List.range xs.length).find? fun i=>xs[i]! !=ys[i]! with | some i=>if xs[i]! < ys[i]! then(-1:Int) else 1 | none=>0)=Az xs ys
 |[],[],_=>rfl
 |[],_::_,h=>by simp at h
 |_::_,[],h=>by simp at h
 |x::xs,y::ys,h=>by
  have ih:=vA xs ys (by simpa using h)
  rw[List.length_cons,List.range_succ_eq_map,List.find?_cons]
  simp only[List.getElem!_cons_zero,Az]
  cases hb:(x !=y) with
  |true=>simp
  |false=>
   simp only[Bool.false_eq_true,if_false]
   rw[List.find?_map,←ih]
   have e:((fun i=>(x::xs)[i]! !=(y::ys)[i]!)∘Nat.succ)=fun i=>xs[i]! !=ys[i]! :=by
    funext i;simp
   rw[e]
   cases(List.range xs.length).find? fun i=>xs[i]! !=ys[i]! <;> simp
theorem yt:∀ {a b:List Int},(∀x∈a,0≤x∧x < 256)→(∀x∈b,0≤x∧x < 256)→Az (a.map fun n=>UInt8.ofNat n.toNat) (b.map fun n=>UInt8.ofNat n.toNat)=lx a b
 |[],_,_,_=>by cases ‹List Int› <;> rfl
 |_::_,[],_,_=>rfl
 |x::a,y::b,ha,hb=>by
  have hx:=ha x (List.mem_cons_self ..)
  have hy:=hb y (List.mem_cons_self ..)
  have ih:=yt (a:=a) (b:=b) (fun z hz=>ha z (List.mem_cons_of_mem _ hz)) (fun z hz=>hb z (List.mem_cons_of_mem _ hz))
  simp only[List.map_cons,Az,lx,ih]
  have e1:(UInt8.ofNat x.toNat).toNat=x.toNat:=by simp[UInt8.toNat_ofNat];omega
  have e2:(UInt8.ofNat y.toNat).toNat=y.toNat:=by simp[UInt8.toNat_ofNat];omega
  by_cases h:x=y
  ·subst h;simp
  ·have hne:(UInt8.ofNat x.toNat !=UInt8.ofNat y.toNat)=true:=by
    rw[bne_iff_ne]
    intro e
    have:=congrArg UInt8.toNat e
    rw[e1,e2]at this
    omega
   rw[hne,if_pos rfl,if_pos h]
   have hlt:UInt8.ofNat x.toNat < UInt8.ofNat y.toNat↔x < y:=by
    rw[UInt8.lt_iff_toNat_lt,e1,e2];omega
   by_cases h2:x < y
   ·rw[if_pos (hlt.2 h2),if_pos h2]
   ·rw[if_neg (fun e=>h2 (hlt.1 e)),if_neg h2]
theorem Cf{a b:List Int}(hl:a.length=b.length)(ha:∀x∈a,0≤x∧x < 256)(hb:∀x∈b,0≤x∧x < 256):sE a b=lx a b:=by
 rw[←yt ha hb,←vA _ _ (by simpa using hl)]
 unfold sE Extern.BytealgCompare.cmp
 have s1:∀l:List Int,(dA l).size=l.length:=fun l=>by simp[dA,ByteArray.size]
 have g1:∀(l:List Int) (i:Nat),(dA l)[i]! =(l.map fun n=>UInt8.ofNat n.toNat)[i]! :=fun l i=>by
  by_cases h:i < (dA l).size
  ·rw[getElem!_pos _ i h]
   have h2:i < (l.map fun n=>UInt8.ofNat n.toNat).length:=by simpa[dA,ByteArray.size]using h
   rw[getElem!_pos _ i h2]
   rfl
  ·rw[getElem!_neg _ i h]
   have h2:¬i < (l.map fun n=>UInt8.ofNat n.toNat).length:=by simpa[dA,ByteArray.size]using h
   rw[getElem!_neg _ i h2]
 simp only[s1,g1,hl,Nat.min_self,List.length_map]
 cases(List.range b.length).find? fun i=>(a.map fun n=>UInt8.ofNat n.toNat)[i]! !=(b.map fun n=>UInt8.ofNat n.toNat)[i]! <;> simp
def u6(o:bX):Prop:=o.1.length=32∧∀x∈o.1,0≤x∧x < 256
def ka(o:bX):List Int:=o.1++ [o.2.1]
theorem gS{o:bX}(h:u6 o):(ka o).length=33:=by simp[ka,h.1]
theorem Bt{a b:bX}(ha:u6 a)(hb:u6 b)(h:ka a=ka b):a=b:=by
 obtain⟨a1,a2,_⟩:=a
 obtain⟨b1,b2,_⟩:=b
 have h:a1++ [a2]=b1++ [b2]:=h
 have:=List.append_inj' h rfl
 rw[this.1,show a2=b2 by simpa using this.2]
theorem jK{a b:bX}(ha:u6 a)(hb:u6 b):ns a b=lx (ka a) (ka b):=by
 unfold ka ns
 rw[yH _ _ (ha.1.trans hb.1.symm),Cf (ha.1.trans hb.1.symm) ha.2 hb.2]
 simp only[Es,Fo]
 by_cases h:lx a.1 b.1=0
 ·rw[if_pos h,if_neg (fun e=>e h)]
  split
  ·rfl
  ·omega
 ·rw[if_neg h,if_pos h]
theorem oe:Ei Tryz.prog bz 80 u6 ns:= {
 bk:=⟨eo.E,eo.sg.h,fun x y hx hy=>⟨_,eo.run (d:=(x,y)) ⟨hx.1,hy.1⟩,rfl⟩⟩
 enters:=enters_of Tryz.func80 (by kernel_rfl) rfl
 irrefl:=fun x hx=>by rw[jK hx hx,yI];decide
 trans:=fun x y z hx hy hz h1 h2=>by
  rw[jK hx hy]at h1
  rw[jK hy hz]at h2
  rw[jK hx hz]
  have:=rH (by rw[gS hx,gS hy]) (by rw[gS hy,gS hz]) (by omega:lx (ka x) (ka y)≤0) (by omega:lx (ka y) (ka z)≤0)
  have h3:=this.1
  by_cases h4:lx (ka x) (ka z)=0
  ·have:=(this.2 h4).1;omega
  ·omega
 ntrans:=fun x y z hx hy hz h1 h2=>by
  rw[jK hx hy]at h1
  rw[jK hy hz]at h2
  rw[jK hx hz]
  have e1:=rG (ka x) (ka y)
  have e2:=rG (ka y) (ka z)
  have e3:=rG (ka x) (ka z)
  have:=(rH (by rw[gS hz,gS hy]) (by rw[gS hy,gS hx]) (by omega:lx (ka z) (ka y)≤0) (by omega:lx (ka y) (ka x)≤0)).1
  omega}
theorem qO{x y:bX}(hx:u6 x)(hy:u6 y)(h1:¬ns x y < 0)(h2:¬ns y x < 0):x=y:=by
 rw[jK hx hy]at h1
 rw[jK hy hx,rG]at h2
 exact Bt hx hy (Dg (by rw[gS hx,gS hy]) (by omega))
end Go.Ab
namespace Go.Proofs
open Go.Shelf
def Tryz.xX:Go.Shelf.Ren:=⟨fun | 6=>79 | 15=>155 | 14=>154 | 28=>214 | 29=>215 | 20=>206 | 21=>207 | 22=>208 | 23=>209 | 24=>210 | 25=>211 | 26=>212 | 27=>213 | 46=>255 | 47=>256 | 48=>257 | 49=>258 | 50=>259 | 57=>279 | n=>n,fun | 22=>58 | 24=>47 | 25=>157 | 3=>3 | 39=>224 | 0=>0 | 53=>255 | 55=>22 | 4=>4 | 46=>265 | 45=>264 | 50=>66 | 5=>5 | 9=>9 | 66=>298 | 70=>301 | 76=>313 | 77=>314 | n=>n,fun | n=>n⟩
theorem Tryz.D9:Go.Proofs.SlLaysF0.n6 Tryz.prog Tryz.xX:= {
 mixed:=by kernel_rfl
 f6:=⟨Tryz.f79.name,by decide,Tryz.func79.trans (congrArg some (by kernel_rfl))⟩
 f14:=⟨Tryz.f154.name,by decide,Tryz.func154.trans (congrArg some (by kernel_rfl))⟩
 f15:=Tryz.func155.trans (congrArg some (by kernel_rfl))
 f20:=⟨Tryz.f206.name,by decide,Tryz.func206.trans (congrArg some (by kernel_rfl))⟩
 f21:=⟨Tryz.f207.name,by decide,Tryz.func207.trans (congrArg some (by kernel_rfl))⟩
 f22:=⟨Tryz.f208.name,by decide,Tryz.func208.trans (congrArg some (by kernel_rfl))⟩
 f23:=⟨Tryz.f209.name,by decide,Tryz.func209.trans (congrArg some (by kernel_rfl))⟩
 f24:=⟨Tryz.f210.name,by decide,Tryz.func210.trans (congrArg some (by kernel_rfl))⟩
 f25:=⟨Tryz.f211.name,by decide,Tryz.func211.trans (congrArg some (by kernel_rfl))⟩
 f26:=⟨Tryz.f212.name,by decide,Tryz.func212.trans (congrArg some (by kernel_rfl))⟩
 f27:=⟨Tryz.f213.name,by decide,Tryz.func213.trans (congrArg some (by kernel_rfl))⟩
 f28:=Tryz.func214.trans (congrArg some (by kernel_rfl))
 f29:=Tryz.func215.trans (congrArg some (by kernel_rfl))
 f46:=⟨Tryz.f255.name,by decide,Tryz.func255.trans (congrArg some (by kernel_rfl))⟩
 f47:=Tryz.func256.trans (congrArg some (by kernel_rfl))
 f48:=Tryz.func257.trans (congrArg some (by kernel_rfl))
 f49:=⟨Tryz.f258.name,by decide,Tryz.func258.trans (congrArg some (by kernel_rfl))⟩
 f50:=⟨Tryz.f259.name,by decide,Tryz.func259.trans (congrArg some (by kernel_rfl))⟩
 f57:=⟨Tryz.f279.name,by decide,Tryz.func279.trans (congrArg some (by kernel_rfl))⟩
 t0:=Tryz.underlying0
 a0:=Tryz.isAgg0
 z0:=Tryz.sizeOf0
 v0:=Tryz.zeroValue0
 t3:=Tryz.underlying3
 a3:=Tryz.isAgg3
 z3:=Tryz.sizeOf3
 v3:=Tryz.zeroValue3
 t4:=Tryz.underlying4
 a4:=Tryz.isAgg4
 z4:=Tryz.sizeOf4
 v4:=Tryz.zeroValue4
 t5:=Tryz.underlying5
 a5:=Tryz.isAgg5
 z5:=Tryz.sizeOf5
 v5:=Tryz.zeroValue5
 t9:=Tryz.underlying9
 a9:=Tryz.isAgg9
 z9:=Tryz.sizeOf9
 v9:=Tryz.zeroValue9
 t22:=Tryz.underlying58
 a22:=Tryz.isAgg58
 z22:=Tryz.sizeOf58
 v22:=Tryz.zeroValue58
 t25:=Tryz.underlying157
 a25:=Tryz.isAgg157
 z25:=Tryz.sizeOf157
 v25:=Tryz.zeroValue157
 t39:=Tryz.underlying224
 a39:=Tryz.isAgg224
 z39:=Tryz.sizeOf224
 v39:=Tryz.zeroValue224
 t45:=Tryz.underlying264
 a45:=Tryz.isAgg264
 z45:=Tryz.sizeOf264
 v45:=Tryz.zeroValue264
 t46:=Tryz.underlying265
 a46:=Tryz.isAgg265
 z46:=Tryz.sizeOf265
 v46:=Tryz.zeroValue265
 t50:=Tryz.underlying66
 a50:=Tryz.isAgg66
 z50:=Tryz.sizeOf66
 v50:=Tryz.zeroValue66
 t53:=Tryz.underlying255
 a53:=Tryz.isAgg255
 z53:=Tryz.sizeOf255
 v53:=Tryz.zeroValue255
 t55:=Tryz.underlying22
 a55:=Tryz.isAgg22
 z55:=Tryz.sizeOf22
 v55:=Tryz.zeroValue22
 t66:=Tryz.underlying298
 a66:=Tryz.isAgg298
 z66:=Tryz.sizeOf298
 v66:=Tryz.zeroValue298
 t70:=Tryz.underlying301
 a70:=Tryz.isAgg301
 z70:=Tryz.sizeOf301
 v70:=Tryz.zeroValue301
 t76:=Tryz.underlying313
 a76:=Tryz.isAgg313
 z76:=Tryz.sizeOf313
 v76:=Tryz.zeroValue313
 t77:=Tryz.underlying314
 a77:=Tryz.isAgg314
 z77:=Tryz.sizeOf314
 v77:=Tryz.zeroValue314}
end Go.Proofs
namespace Go.Ab
open Go.Proofs
set_option maxRecDepth 100000
set_option linter.unusedVariables false
set_option linter.unusedSimpArgs false
set_option synthInstance.maxSize 5000
noncomputable def wQ.E:Entry:=CV 80 47 bz u6 ns
noncomputable def wQ.call:Nat×List bX→Option (Nat×List bX):=uR 80 47 bz u6 ns
theorem wQ.run{d:Nat×List bX}(h:sa (t:=bz) u6 ns d):wQ.call d=some (d.1,nO (t:=bz) ns d.2):=yT h
noncomputable def wQ.sg:SG Tryz.prog:=⟨79,aV,wQ.E,BP Tryz.D9 (by rfl) (fun w=>Tryz.isAgg47 w) (fun w=>Tryz.sizeOf47 w) oe⟩
abbrev aS.L0.D:=Nat×Nat×(List (bX×dJ))×(List cG)×(List (bX×dJ))×(List bX)
def aS.L0.st:aS.L0.D→AS:=fun(outL,o0L,o1_2,o2_2,n9,n17)=>⟨([.undef,.undef,.undef,.bt (.new 17 0) 0 [] 0 0 outL]++bm 5 ([.ptr (.new 9 0) 0 [] 0]++bm 11 [])),[.obj 0 false (.pr (.dy (.cz 1) 0) (.pr (.bt (.cz 2) 0 [] 0 0 o0L) (.d .unit ()))),.obj 0 true (.mp bz eX o1_2),.obj 0 false (.vec 161 dx o2_2)],(cr 9 ([[.obj 0 false (.im (.cz 1) 1 bz eX n9 none)]]++cr 7 [[.obj 0 false (.vec 47 bz n17)],[],[],[]]))⟩
abbrev aS.L0.Y0:=Nat×(List bX)
abbrev aS.L0.X0:=(Nat×(List (bX×dJ))×(List cG))×(Nat×(List bX))
def aS.L0.bK:aS.L0.X0→Exit×AS:=fun x=>(.exit 0,⟨([.undef,.undef,.undef,.bt (.new 17 0) 0 [] 0 0 x.2.1]++bm 17 []),[.obj 0 false (.pr (.dy (.cz 1) 0) (.pr (.bt (.cz 2) 0 [] 0 0 x.1.1) (.d .unit ()))),.obj 0 false (.mp bz eX x.1.2.1),.obj 0 false (.vec 161 dx x.1.2.2)],(cr 17 [[.obj 0 false (.vec 47 bz x.2.2)],[],[],[]])⟩)
abbrev aS.L0.X:=aS.L0.X0
abbrev aS.L0.Y:=aS.L0.Y0
def aS.L0.out:aS.L0.X→Out (Exit×AS):=fun x=> .ok (aS.L0.bK x)
def aS.L0.add:aS.L0.D→aS.L0.Y→aS.L0.X:=fun(outL,o0L,o1_2,o2_2,n9,n17) y=>((o0L,o1_2,o2_2),y)
abbrev aS.D:=Nat×(List (bX×dJ))×(List cG)
def aS.st:aS.D→SA:=fun(o0baL,o1,o2)=>([.ptr (.cz 0) 0 [] 0],[.obj 0 false (.pr (.dy (.cz 1) 0) (.pr (.bt (.cz 2) 0 [] 0 0 o0baL) (.d .unit ()))),.obj 0 false (.mp bz eX o1),.obj 0 false (.vec 161 dx o2)])
abbrev aS.Y:=Nat×Nat×(List (bX×dJ))×(List cG)×(List bX)
abbrev aS.X:=Nat×Nat×(List (bX×dJ))×(List cG)×(List bX)
def aS.out:aS.X→aW:=fun x=>⟨.bt (.new 0 0) 0 [] 0 0 x.1,[.obj 0 false (.pr (.dy (.cz 1) 0) (.pr (.bt (.cz 2) 0 [] 0 0 x.2.1) (.d .unit ()))),.obj 0 false (.mp bz eX x.2.2.1),.obj 0 false (.vec 161 dx x.2.2.2.1)],[.obj 0 false (.vec 47 bz x.2.2.2.2)]⟩
def aS.add:aS.D→aS.Y→aS.X:=fun(o0baL,o1,o2) y=>y
def fq(l:List (bX×dJ)):Int:=(l.map fun p=>p.2.1.1).sum
theorem fu(p:bX×dJ)(l:List (bX×dJ)):fq (p::l)=p.2.1.1+fq l:=by simp[fq]
theorem vh(l l':List (bX×dJ)):fq (l++l')=fq l+fq l':=by simp[fq]
theorem mE{l l':List (bX×dJ)}(h:l.Perm l'):fq l=fq l':=by
 induction h with
 |nil=>rfl
 |cons x _ ih=>rw[fu,fu,ih]
 |swap x y l=>rw[fu,fu,fu,fu];omega
 |trans _ _ h1 h2=>rw[h1,h2]
theorem nB{α:Type}{l:List α}{j:Nat}(h:j < l.length):l.Perm (l[j]::l.eraseIdx j):=by
 induction l generalizing j with
 |nil=>simp at h
 |cons x l ih=>
  cases j with
  |zero=>exact List.Perm.refl _
  |succ j=>
   have h:j < l.length:=by simpa using h
   simp only[List.getElem_cons_succ,List.eraseIdx_cons_succ]
   exact((ih h).cons x).trans (List.Perm.swap _ _ _)
theorem qA{kt vt:Ty}{l:List (kt.den×vt.den)}{j:Nat}(h:j < l.length):jk kt vt l j=l[j]:=by
 simp[jk,List.getD_eq_getElem?_getD,List.getElem?_eq_getElem h]
theorem vi{l:List (bX×dJ)}(h:∀p∈l,0≤p.2.1.1):0≤fq l:=by
 induction l with
 |nil=>simp[fq]
 |cons p l ih=>
  rw[fu]
  have:=h p (List.mem_cons_self ..)
  have:=ih fun q hq=>h q (List.mem_cons_of_mem _ hq)
  omega
def aS.L0.aC:aS.L0.D→Prop:=fun(n,_,_,_,rest,out)=>n=out.length∧out.length+rest.length≤1000000
def aS.L0.gu:aS.L0.D→aS.L0.Y→Prop:=fun(_,_,_,_,rest,out) (m,out')=>m=out'.length∧out'.Perm (out++rest.map (·.1))
def aS.aC:aS.D→Prop:=fun(_,a,_)=>a.length≤1000000∧∀p∈a,u6 p.1
noncomputable def aS.F:aS.D→aS.Y:=fun(n,a,s)=>(a.length,n,a,s,nO (t:=bz) ns (a.map (·.1)))
noncomputable def aS.G:dH:=eT (P:=Tryz.prog) [wQ.sg]
noncomputable def aS.L0.E:=bZ.CD aS.L0.st aS.L0.aC aS.L0.add aS.L0.gu aS.L0.out
def aS.L0.set:aS.L0.D→aS.L0.X→Prop:=E6 aS.L0.st aS.L0.aC aS.L0.add aS.L0.gu
noncomputable def aS.an:ee:= {loops:=lZ [(3,{bn:=[3,9],sites:=[9,17],kO:=[⟨3,[],17,58⟩],ET:=[9]})],outs:=lY [(3,{bn:=[3],sites:=[17]},{bn:=[2]})],fO:=mW [(3,aS.L0.E)]}
noncomputable def aS.A:= @cT Tryz.prog aS.G aS.an 0 Tryz.f28 _ aS.st
abbrev aS.Ok:=cU @aS.A aS.aC aS.add aS.F aS.out
noncomputable def aS.L0.R:= @cC Tryz.prog aS.G aS.an 0 Tryz.f28 0 _ aS.L0.st
abbrev aS.L0.Ok:=yk Tryz.prog aS.G aS.an 0 Tryz.f28 0 aS.L0.st aS.L0.aC aS.L0.add aS.L0.gu aS.L0.out
theorem aS.L0.run:Ez aS.L0.set aS.L0.aC aS.L0.add aS.L0.gu:=FV (eY [.n,.n,.d (.slice (.pair bz eX)),.d (.slice dx),.d (.slice (.pair bz eX)),.d (.slice bz)] fun _=>by kernel_rfl)
theorem aS.L0.aL:C4 @aS.L0.R aS.L0.st aS.L0.aC aS.L0.add aS.L0.gu aS.L0.bK aS.L0.Ok:=EE
theorem aS.L0.step{R:Type}(outL:Nat)(o0L:Nat)(o1_2:(List (bX×dJ)))(o2_2:(List cG))(n9:(List (bX×dJ)))(n17:(List bX))(kn:AS→Option R)(kx:Exit→AS→Option R):aS.L0.R (outL,o0L,o1_2,o2_2,n9,n17) kn kx=
  aF (decide (0 < (List.length n9))) (
   Ad (List.length n9) fun j1=>
   aF (decide (outL≤(List.length n17))) (
   aF (dr (outL+1) 40) (
   kn (aS.L0.st ((outL+1),o0L,o1_2,o2_2,(List.eraseIdx n9 j1),((List.take outL n17)++ [(jk bz eX n9 j1).1])))) none) none) (
   kx (aS.L0.bK ((o0L,o1_2,o2_2),(outL,n17))).1 (aS.L0.bK ((o0L,o1_2,o2_2),(outL,n17))).2):=by kernel_rfl
theorem aS.eq{R:Type}(o0baL:Nat)(o1:(List (bX×dJ)))(o2:(List cG))(k:aW→Option R):aS.A (o0baL,o1,o2) k=
 xt (aS.L0.set (0,o0baL,o1,o2,o1,([]:List bX))) fun x3=>
 ah (wQ.call (x3.2.1,x3.2.2)) fun x4=>
 k (aS.out (x3.2.1,x3.1.1,x3.1.2.1,x3.1.2.2,x4.2)):=by kernel_rfl
theorem aS.L0.ok:aS.L0.Ok:=by
 refine aS.L0.aL (fun(n,_,_,_,rest,out)=>rest.length) ?_
 rintro⟨n,o,a,s,rest,out⟩ ⟨rfl,hl⟩
 have hl:out.length+rest.length≤1000000:=hl
 by_cases h:0 < rest.length
 ·left
  refine⟨rest.length,fun j=>(out.length+1,o,a,s,rest.eraseIdx j,out++ [(jk bz eX rest j).1]),h,fun j hj=>⟨⟨by simp,?_⟩,?_,fun y hy=>⟨y,?_,rfl⟩⟩,fun kn kx=> ?_⟩
  ·show(out++ [_]).length+(rest.eraseIdx j).length≤1000000
   rw[List.length_append,List.length_eraseIdx,if_pos hj]
   simp only[List.length_cons,List.length_nil]
   omega
  ·show(rest.eraseIdx j).length < rest.length
   rw[List.length_eraseIdx,if_pos hj]
   omega
  ·obtain⟨m,out'⟩:=y
   obtain⟨h1,h2⟩:=hy
   refine⟨h1,h2.trans ?_⟩
   rw[qA hj,List.append_assoc]
   refine List.Perm.append_left _ ?_
   have:=((nB hj).map (·.1)).symm
   exact this
  ·rw[aS.L0.step,bf h,ao]
   congr 1
   funext j
   rw[bf (Nat.le_refl _),ao,eG (by omega) (by omega),ao,List.take_length]
 ·right
  obtain rfl:rest=[]:=List.eq_nil_of_length_eq_zero (by omega)
  refine⟨(out.length,out),⟨rfl,by simp⟩,fun kn kx=> ?_⟩
  rw[aS.L0.step,bI h,aw]
  rfl
theorem tO{l l':List bX}(h:l.Perm l')(hq:∀x∈l',u6 x):nO (t:=bz) ns l=nO (t:=bz) ns l':=by
 have hq':∀x∈l,u6 x:=fun x hx=>hq x (h.mem_iff.1 hx)
 have h1:=uS oe hq'
 exact sh oe hq (fun x hx y hy a b=>qO (hq x hx) (hq y hy) a b) ⟨h1.1.trans h,h1.2⟩
theorem aS.ok:aS.Ok:=by
 rintro⟨n,a,s⟩ ⟨hl,hq⟩
 have hl:a.length≤1000000:=hl
 rw[aS.eq]
 refine aS.L0.run (d:=(0,n,a,s,a,[])) ⟨rfl,by show 0+a.length≤_;omega⟩ ⟨(a.length,a.map (·.1)),by show a.length=(a.map (·.1)).length;simp,by simp⟩ fun y hy=> ?_
 obtain⟨m,out⟩:=y
 obtain⟨h1,hp⟩:=hy
 have h1:m=out.length:=h1
 subst h1
 have hp:out.Perm (a.map (·.1)):=by simpa using hp
 have hq':∀x∈a.map (·.1),u6 x:=fun x hx=>by obtain⟨p,hp,rfl⟩:=List.mem_map.1 hx;exact hq p hp
 have hlen:out.length=a.length:=by rw[hp.length_eq,List.length_map]
 simp only[aS.L0.add]
 rw[wQ.run (d:=(out.length,out)) ⟨rfl,by show out.length < _;omega,fun x hx=>hq' x (hp.mem_iff.1 hx),fun x hx y hy h1 h2=>qO (hq' x (hp.mem_iff.1 hx)) (hq' y (hp.mem_iff.1 hy)) h1 h2⟩]
 simp only[aa,aS.add,aS.F]
 rw[tO hp hq',hlen]
noncomputable def aS.E:=Entry.cP [none] aS.st aS.aC aS.add aS.F aS.out
noncomputable def aS.call:aS.D→Option aS.X:=bS aS.E aS.st
theorem aS.run:bP aS.call aS.aC aS.add aS.F:=de (cZ [.n,.d (.slice (.pair bz eX)),.d (.slice dx)] fun _=>by kernel_rfl)
noncomputable def aS.sg:SG Tryz.prog:=⟨28,aV,aS.E,.fn 1 (by kernel_rfl) aS.ok (And.intro (.CD aS.L0.ok (by kernel_rfl)) trivial)⟩
abbrev aO.L0.D:=Int×Nat×(List (bX×dJ))×(List cG)×(List (bX×dJ))
def aO.L0.st:aO.L0.D→AS:=fun(sum,o0L,o1_2,o2_2,n10)=>⟨([.undef,.undef,.undef,.d ti sum]++bm 6 ([.ptr (.new 10 0) 0 [] 0]++bm 10 [])),[.obj 0 false (.pr (.dy (.cz 1) 0) (.pr (.bt (.cz 2) 0 [] 0 0 o0L) (.d .unit ()))),.obj 0 true (.mp bz eX o1_2),.obj 0 false (.vec 161 dx o2_2)],(cr 10 ([[.obj 0 false (.im (.cz 1) 1 bz eX n10 none)]]++cr 10 []))⟩
abbrev aO.L0.Y0:=Int
abbrev aO.L0.X0:=(Nat×(List (bX×dJ))×(List cG))×(Int)
def aO.L0.bK:aO.L0.X0→Exit×AS:=fun x=>(.exit 0,⟨([.undef,.undef,.undef,.d ti x.2]++bm 17 []),[.obj 0 false (.pr (.dy (.cz 1) 0) (.pr (.bt (.cz 2) 0 [] 0 0 x.1.1) (.d .unit ()))),.obj 0 false (.mp bz eX x.1.2.1),.obj 0 false (.vec 161 dx x.1.2.2)],(List.replicate 21 [])⟩)
abbrev aO.L0.X:=aO.L0.X0
abbrev aO.L0.Y:=aO.L0.Y0
def aO.L0.out:aO.L0.X→Out (Exit×AS):=fun x=> .ok (aO.L0.bK x)
def aO.L0.add:aO.L0.D→aO.L0.Y→aO.L0.X:=fun(sum,o0L,o1_2,o2_2,n10) y=>((o0L,o1_2,o2_2),y)
abbrev aO.D:=Nat×(List (bX×dJ))×(List cG)
def aO.st:aO.D→SA:=fun(o0baL,o1,o2)=>([.ptr (.cz 0) 0 [] 0],[.obj 0 false (.pr (.dy (.cz 1) 0) (.pr (.bt (.cz 2) 0 [] 0 0 o0baL) (.d .unit ()))),.obj 0 false (.mp bz eX o1),.obj 0 false (.vec 161 dx o2)])
abbrev aO.Y:=Int×Nat×(List (bX×dJ))×(List cG)
abbrev aO.X:=Int×Nat×(List (bX×dJ))×(List cG)
def aO.out:aO.X→aW:=fun x=>⟨.d ti x.1,[.obj 0 false (.pr (.dy (.cz 1) 0) (.pr (.bt (.cz 2) 0 [] 0 0 x.2.1) (.d .unit ()))),.obj 0 false (.mp bz eX x.2.2.1),.obj 0 false (.vec 161 dx x.2.2.2)],[]⟩
def aO.add:aO.D→aO.Y→aO.X:=fun(o0baL,o1,o2) y=>y
def aO.L0.aC:aO.L0.D→Prop:=fun(sum,_,_,_,rest)=>0≤sum∧(∀p∈rest,0≤p.2.1.1)∧sum+fq rest≤1000000000000000000
def aO.L0.F:aO.L0.D→aO.L0.Y:=fun(sum,_,_,_,rest)=>sum+fq rest
def aO.aC:aO.D→Prop:=fun(_,a,_)=>(∀p∈a,0≤p.2.1.1)∧fq a≤1000000000000000000
def aO.F:aO.D→aO.Y:=fun(n,a,s)=>(fq a,n,a,s)
noncomputable def aO.G:dH:=eT (P:=Tryz.prog) []
noncomputable def aO.L0.E:=bZ.cP aO.L0.st aO.L0.aC aO.L0.add aO.L0.F aO.L0.out
noncomputable def aO.L0.call:aO.L0.D→Option aO.L0.X:=dI aO.L0.E aO.L0.st
noncomputable def aO.an:ee:= {loops:=lZ [(3,{bn:=[3,10],sites:=[10],ET:=[10]})],outs:=lY [(3,{bn:=[3]},{bn:=[2]})],fO:=mW [(3,aO.L0.E)]}
noncomputable def aO.A:= @cT Tryz.prog aO.G aO.an 0 Tryz.f24 _ aO.st
abbrev aO.Ok:=cU @aO.A aO.aC aO.add aO.F aO.out
noncomputable def aO.L0.R:= @cC Tryz.prog aO.G aO.an 0 Tryz.f24 0 _ aO.L0.st
abbrev aO.L0.Ok:=eO Tryz.prog aO.G aO.an 0 Tryz.f24 0 aO.L0.st aO.L0.aC aO.L0.add aO.L0.F aO.L0.out
theorem aO.L0.run:bP aO.L0.call aO.L0.aC aO.L0.add aO.L0.F:=fe (eY [.d ti,.n,.d (.slice (.pair bz eX)),.d (.slice dx),.d (.slice (.pair bz eX))] fun _=>by kernel_rfl)
theorem aO.L0.aL:Dq @aO.L0.R aO.L0.st aO.L0.aC aO.L0.add aO.L0.F aO.L0.bK aO.L0.Ok:=ED
theorem aO.L0.step{R:Type}(sum:Int)(o0L:Nat)(o1_2:(List (bX×dJ)))(o2_2:(List cG))(n10:(List (bX×dJ)))(kn:AS→Option R)(kx:Exit→AS→Option R):aO.L0.R (sum,o0L,o1_2,o2_2,n10) kn kx=
  aF (decide (0 < (List.length n10))) (
   Ad (List.length n10) fun j1=>
   kn (aO.L0.st ((ck .i64 sum (jk bz eX n10 j1).2.1.1),o0L,o1_2,o2_2,(List.eraseIdx n10 j1)))) (
   kx (aO.L0.bK ((o0L,o1_2,o2_2),sum)).1 (aO.L0.bK ((o0L,o1_2,o2_2),sum)).2):=by kernel_rfl
theorem aO.eq{R:Type}(o0baL:Nat)(o1:(List (bX×dJ)))(o2:(List cG))(k:aW→Option R):aO.A (o0baL,o1,o2) k=
 ah (aO.L0.call ((0:Int),o0baL,o1,o2,o1)) fun x2=>
 k (aO.out (x2.2,x2.1.1,x2.1.2.1,x2.1.2.2)):=by kernel_rfl
theorem aO.L0.ok:aO.L0.Ok:=by
 refine aO.L0.aL (fun(_,_,_,_,rest)=>rest.length) ?_
 rintro⟨sum,o,a,s,rest⟩ ⟨h0,hn,hm⟩
 have h0:0≤sum:=h0
 have hm:sum+fq rest≤1000000000000000000:=hm
 by_cases h:0 < rest.length
 ·left
  have key:∀j,(hj:j < rest.length)→rest[j].2.1.1+fq (rest.eraseIdx j)=fq rest:=fun j hj=>by rw[←fu];exact mE (nB hj).symm
  refine⟨rest.length,fun j=>(ck .i64 sum (jk bz eX rest j).2.1.1,o,a,s,rest.eraseIdx j),h,fun j hj=> ?_,fun kn kx=> ?_⟩
  ·have hk:=key j hj
   have hx:=hn _ (List.getElem_mem hj)
   have hr:∀p∈rest.eraseIdx j,0≤p.2.1.1:=fun p hp=>hn p ((List.eraseIdx_sublist rest j).subset hp)
   have:=vi hr
   have e1:ck .i64 sum (jk bz eX rest j).2.1.1=sum+rest[j].2.1.1:=by rw[qA hj];exact gh (by omega) (by omega)
   refine⟨⟨?_,hr,?_⟩,?_,?_⟩
   ·show 0≤ck .i64 sum _;rw[e1];omega
   ·show ck .i64 sum _+fq (rest.eraseIdx j)≤_;rw[e1];omega
   ·show(rest.eraseIdx j).length < rest.length
    rw[List.length_eraseIdx,if_pos hj];omega
   ·simp only[aO.L0.add,aO.L0.F,e1]
    rw[←hk,Int.add_assoc]
  ·rw[aO.L0.step,bf h,ao]
 ·right
  obtain rfl:rest=[]:=List.eq_nil_of_length_eq_zero (by omega)
  intro T kn kx
  rw[aO.L0.step,bI h,aw]
  simp only[aO.L0.add,aO.L0.F,fq,List.map_nil,List.sum_nil,Int.add_zero]
theorem aO.ok:aO.Ok:=by
 rintro⟨n,a,s⟩ ⟨hn,hm⟩
 have hm:fq a≤_:=hm
 rw[aO.eq,aO.L0.run (d:=(0,n,a,s,a)) ⟨Int.le_refl _,hn,by show 0+fq a≤_;omega⟩]
 simp only[aa,aO.L0.add,aO.L0.F,aO.add,aO.F,Int.zero_add]
noncomputable def aO.E:=Entry.cP [none] aO.st aO.aC aO.add aO.F aO.out
noncomputable def aO.call:aO.D→Option aO.X:=bS aO.E aO.st
theorem aO.run:bP aO.call aO.aC aO.add aO.F:=de (cZ [.n,.d (.slice (.pair bz eX)),.d (.slice dx)] fun _=>by kernel_rfl)
noncomputable def aO.sg:SG Tryz.prog:=⟨24,aV,aO.E,.fn 1 (by kernel_rfl) aO.ok (And.intro (.cP aO.L0.ok (by kernel_rfl)) trivial)⟩
abbrev cY.D:=Nat×(List cG)
def cY.st:cY.D→SA:=fun(sL,o0)=>([.bt (.cz 0) 0 [] 0 0 sL],[.obj 0 false (.vec 161 dx o0)])
abbrev cY.Y:=Nat×(List cG)
abbrev cY.X:=((List cG))×(Nat×(List cG))
def cY.out:cY.X→aW:=fun x=>⟨.bt (.new 0 0) 0 [] 0 0 x.2.1,[.obj 0 false (.vec 161 dx x.1)],[.obj 0 false (.vec 161 dx x.2.2)]⟩
def cY.add:cY.D→cY.Y→cY.X:=fun(sL,o0) y=>(o0,y)
def cY.aC:cY.D→Prop:=fun(n,l)=>n≤l.length∧l.length≤1000000
def cY.F:cY.D→cY.Y:=fun(n,l)=>((l.take n).length,l.take n)
noncomputable def cY.G:dH:=eT (P:=Tryz.prog) []
noncomputable def cY.an:ee:= {bj:=[5],kO:=[⟨2,[],5,148⟩]}
noncomputable def cY.A:= @cT Tryz.prog cY.G cY.an 0 Tryz.f90 _ cY.st
abbrev cY.Ok:=cU @cY.A cY.aC cY.add cY.F cY.out
theorem cY.eq{R:Type}(sL:Nat)(o0:(List cG))(k:aW→Option R):cY.A (sL,o0) k=
  aF (decide (0 < sL)) (
   aF (decide (0=0∧(0+sL)≤(List.length o0))) (
   aF (dr (0+(List.length (cut o0 0 sL))) 48) (
   k (cY.out (o0,((0+(List.length (cut o0 0 sL))),((List.take 0 (List.replicate 0 (([]:List uZ),(([]:List bX),()))))++(cut o0 0 sL)))))) none) none) (
   nd (
    k (cY.out (o0,(0,([]:List cG))))) (
    aF (decide (0=0∧(0+sL)≤(List.length o0))) (
    aF (dr (0+(List.length (cut o0 0 sL))) 48) (
    k (cY.out (o0,((0+(List.length (cut o0 0 sL))),((List.take 0 (List.replicate 0 (([]:List uZ),(([]:List bX),()))))++(cut o0 0 sL)))))) none) none)):=by kernel_rfl
theorem cY.ok:cY.Ok:=by
 rintro⟨n,l⟩ ⟨h1,h2⟩
 have h1:n≤l.length:=h1
 have h2:l.length≤1000000:=h2
 have ec:cut l 0 n=l.take n:=by simp[cut]
 have ht:(l.take n).length≤1000000:=by rw[List.length_take];omega
 have hr:dr (l.take n).length 48=true:=eG (by omega) (by omega)
 rw[cY.eq]
 simp only[Nat.zero_add,ec,hr,ao,List.take_zero,List.nil_append,true_and,bf h1,cY.add,cY.F]
 by_cases h:0 < n
 ·simp only[bf h,ao]
 ·have:n=0:=by omega
  subst this
  simp only[List.take_zero,List.length_nil,Nat.zero_le,decide_true,ao,lH,bI (Nat.lt_irrefl 0),aw]
noncomputable def cY.E:=Entry.cP [none] cY.st cY.aC cY.add cY.F cY.out
noncomputable def cY.call:cY.D→Option cY.X:=bS cY.E cY.st
theorem cY.run:bP cY.call cY.aC cY.add cY.F:=de (cZ [.n,.d (.slice dx)] fun _=>by kernel_rfl)
noncomputable def cY.sg:SG Tryz.prog:=⟨90,tN,cY.E,.fn 0 (by kernel_rfl) cY.ok trivial⟩
abbrev aQ.L0.D:=Nat×(List (bX×dJ))×(List cG)×(List (bX×dJ))×(List cG)×Nat×(List (bX×dJ))
def aQ.L0.st:aQ.L0.D→AS:=fun(o0L,o1_2,o2_2,n6,n11,n13L,n18)=>⟨([.undef,.undef,.undef,.ptr (.new 13 0) 0 [] 0]++bm 14 ([.ptr (.new 18 0) 0 [] 0]++bm 12 [])),[.obj 0 false (.pr (.dy (.cz 1) 0) (.pr (.bt (.cz 2) 0 [] 0 0 o0L) (.d .unit ()))),.obj 0 true (.mp bz eX o1_2),.obj 0 false (.vec 161 dx o2_2)],(cr 6 ([[.obj 0 false (.mp bz eX n6)]]++cr 4 ([[.obj 0 false (.vec 161 dx n11)],[],[.obj 0 false (.pr (.dy (.new 6 0) 0) (.pr (.bt (.new 11 0) 0 [] 0 0 n13L) (.d .unit ())))]]++cr 4 ([[.obj 0 false (.im (.cz 1) 1 bz eX n18 none)]]++cr 12 []))))⟩
abbrev aQ.L0.Y0:=(List (bX×dJ))
abbrev aQ.L0.X0:=(Nat×(List (bX×dJ))×(List cG)×(List cG)×Nat)×((List (bX×dJ)))
def aQ.L0.bK:aQ.L0.X0→Exit×AS:=fun x=>(.exit 0,⟨([.undef,.undef,.undef,.ptr (.new 13 0) 0 [] 0]++bm 27 []),[.obj 0 false (.pr (.dy (.cz 1) 0) (.pr (.bt (.cz 2) 0 [] 0 0 x.1.1) (.d .unit ()))),.obj 0 false (.mp bz eX x.1.2.1),.obj 0 false (.vec 161 dx x.1.2.2.1)],(cr 6 ([[.obj 0 false (.mp bz eX x.2)]]++cr 4 ([[.obj 0 false (.vec 161 dx x.1.2.2.2.1)],[],[.obj 0 false (.pr (.dy (.new 6 0) 0) (.pr (.bt (.new 11 0) 0 [] 0 0 x.1.2.2.2.2) (.d .unit ())))]]++cr 17 [])))⟩)
abbrev aQ.L0.X:=aQ.L0.X0
abbrev aQ.L0.Y:=aQ.L0.Y0
def aQ.L0.out:aQ.L0.X→Out (Exit×AS):=fun x=> .ok (aQ.L0.bK x)
def aQ.L0.add:aQ.L0.D→aQ.L0.Y→aQ.L0.X:=fun(o0L,o1_2,o2_2,n6,n11,n13L,n18) y=>((o0L,o1_2,o2_2,n11,n13L),y)
abbrev aQ.D:=Nat×(List (bX×dJ))×(List cG)
def aQ.st:aQ.D→SA:=fun(o0baL,o1,o2)=>([.ptr (.cz 0) 0 [] 0],[.obj 0 false (.pr (.dy (.cz 1) 0) (.pr (.bt (.cz 2) 0 [] 0 0 o0baL) (.d .unit ()))),.obj 0 false (.mp bz eX o1),.obj 0 false (.vec 161 dx o2)])
abbrev aQ.Y:=Nat×(List (bX×dJ))×(List cG)×Nat×(List (bX×dJ))×(List cG)
abbrev aQ.X:=Nat×(List (bX×dJ))×(List cG)×Nat×(List (bX×dJ))×(List cG)
def aQ.out:aQ.X→aW:=fun x=>⟨.ptr (.new 0 0) 0 [] 0,[.obj 0 false (.pr (.dy (.cz 1) 0) (.pr (.bt (.cz 2) 0 [] 0 0 x.1) (.d .unit ()))),.obj 0 false (.mp bz eX x.2.1),.obj 0 false (.vec 161 dx x.2.2.1)],[.obj 0 false (.pr (.dy (.new 0 1) 0) (.pr (.bt (.new 0 2) 0 [] 0 0 x.2.2.2.1) (.d .unit ()))),.obj 0 false (.mp bz eX x.2.2.2.2.1),.obj 0 false (.vec 161 dx x.2.2.2.2.2)]⟩
def aQ.add:aQ.D→aQ.Y→aQ.X:=fun(o0baL,o1,o2) y=>y
theorem ky{β:Type}{kt:Ty}(hc:kt.comp=true){x:kt.den}{v:β}:∀ {l:List (kt.den×β)},x ∉ l.map (·.1)→eh kt x v l=l++ [(x,v)]
 |[],_=>rfl
 |p::l,h=>by
  rw[nK]
  have h1:¬kt.beq x p.1=true:=fun e=>h (by rw[beq_eq kt _ _ hc e];simp)
  rw[if_neg h1,ky hc fun e=>h (by simp[e])]
  rfl
def aQ.L0.aC:aQ.L0.D→Prop:=fun(_,_,_,m,_,_,rest)=>((m++rest).map (·.1)).Nodup
noncomputable def aQ.L0.F:aQ.L0.D→aQ.L0.Y:=fun(_,_,_,m,_,_,rest)=>e8 (m++rest)
def aQ.aC:aQ.D→Prop:=fun(n,a,s)=>n≤s.length∧s.length≤1000000∧(a.map (·.1)).Nodup
noncomputable def aQ.F:aQ.D→aQ.Y:=fun(n,a,s)=>(n,a,s,(s.take n).length,e8 a,s.take n)
noncomputable def aQ.G:dH:=eT (P:=Tryz.prog) [cY.sg]
noncomputable def aQ.L0.E:=bZ.cP aQ.L0.st aQ.L0.aC aQ.L0.add aQ.L0.F aQ.L0.out
noncomputable def aQ.L0.call:aQ.L0.D→Option aQ.L0.X:=dI aQ.L0.E aQ.L0.st
noncomputable def aQ.an:ee:= {bj:=[13],loops:=lZ [(3,{bn:=[3,18],sites:=[6,11,13,18],ET:=[18]})],outs:=lY [(3,{bn:=[3],sites:=[6,11,13],Dy:=[(.new 6 0)]},{bn:=[2]})],fO:=mW [(3,aQ.L0.E)]}
noncomputable def aQ.A:= @cT Tryz.prog aQ.G aQ.an 0 Tryz.f39 _ aQ.st
abbrev aQ.Ok:=cU @aQ.A aQ.aC aQ.add aQ.F aQ.out
noncomputable def aQ.L0.R:= @cC Tryz.prog aQ.G aQ.an 0 Tryz.f39 0 _ aQ.L0.st
abbrev aQ.L0.Ok:=eO Tryz.prog aQ.G aQ.an 0 Tryz.f39 0 aQ.L0.st aQ.L0.aC aQ.L0.add aQ.L0.F aQ.L0.out
theorem aQ.L0.run:bP aQ.L0.call aQ.L0.aC aQ.L0.add aQ.L0.F:=fe (eY [.n,.d (.slice (.pair bz eX)),.d (.slice dx),.d (.slice (.pair bz eX)),.d (.slice dx),.n,.d (.slice (.pair bz eX))] fun _=>by kernel_rfl)
theorem aQ.L0.aL:Dq @aQ.L0.R aQ.L0.st aQ.L0.aC aQ.L0.add aQ.L0.F aQ.L0.bK aQ.L0.Ok:=ED
theorem aQ.L0.step{R:Type}(o0L:Nat)(o1_2:(List (bX×dJ)))(o2_2:(List cG))(n6:(List (bX×dJ)))(n11:(List cG))(n13L:Nat)(n18:(List (bX×dJ)))(kn:AS→Option R)(kx:Exit→AS→Option R):aQ.L0.R (o0L,o1_2,o2_2,n6,n11,n13L,n18) kn kx=
  aF (decide (0 < (List.length n18))) (
   Ad (List.length n18) fun j1=>
   kn (aQ.L0.st (o0L,o1_2,o2_2,(eh bz (jk bz eX n18 j1).1 (jk bz eX n18 j1).2 n6),n11,n13L,(List.eraseIdx n18 j1)))) (
   kx (aQ.L0.bK ((o0L,o1_2,o2_2,n11,n13L),(e8 n6))).1 (aQ.L0.bK ((o0L,o1_2,o2_2,n11,n13L),(e8 n6))).2):=by kernel_rfl
theorem aQ.eq{R:Type}(o0baL:Nat)(o1:(List (bX×dJ)))(o2:(List cG))(k:aW→Option R):aQ.A (o0baL,o1,o2) k=
 ah (cY.call (o0baL,o2)) fun x1=>
 ah (aQ.L0.call (o0baL,o1,x1.1,([]:List (bX×dJ)),x1.2.2,x1.2.1,o1)) fun x3=>
 k (aQ.out (x3.1.1,x3.1.2.1,x3.1.2.2.1,x3.1.2.2.2.2,x3.2,x3.1.2.2.2.1)):=by kernel_rfl
theorem eS:bz.comp=true:=rfl
theorem aQ.L0.ok:aQ.L0.Ok:=by
 refine aQ.L0.aL (fun(_,_,_,_,_,_,rest)=>rest.length) ?_
 rintro⟨n,a,s,m,u,k0,rest⟩ hn
 have hn:((m++rest).map (·.1)).Nodup:=hn
 by_cases h:0 < rest.length
 ·left
  have e1:∀j,j < rest.length→eh bz (jk bz eX rest j).1 (jk bz eX rest j).2 m=m++ [jk bz eX rest j]:=fun j hj=>by
   rw[ky eS]
   intro hm
   rw[List.map_append,List.nodup_append]at hn
   exact hn.2.2 _ hm _ (List.mem_map.2 ⟨_,List.getElem_mem hj,by rw[qA hj]⟩) rfl
  have e2:∀j,j < rest.length→(m++ [jk bz eX rest j]++rest.eraseIdx j).Perm (m++rest):=fun j hj=>by
   rw[List.append_assoc,qA hj]
   exact List.Perm.append_left _ (nB hj).symm
  refine⟨rest.length,fun j=>(n,a,s,eh bz (jk bz eX rest j).1 (jk bz eX rest j).2 m,u,k0,rest.eraseIdx j),h,fun j hj=>⟨?_,?_,?_⟩,fun kn kx=> ?_⟩
  ·show((eh bz (jk bz eX rest j).1 (jk bz eX rest j).2 m++rest.eraseIdx j).map (·.1)).Nodup
   rw[e1 j hj]
   exact(((e2 j hj).map _).nodup_iff).2 hn
  ·show(rest.eraseIdx j).length < rest.length
   rw[List.length_eraseIdx,if_pos hj];omega
  ·simp only[aQ.L0.add,aQ.L0.F,e1 j hj]
   rw[zf (e2 j hj)]
  ·rw[aQ.L0.step,bf h,ao]
 ·right
  obtain rfl:rest=[]:=List.eq_nil_of_length_eq_zero (by omega)
  intro T kn kx
  rw[aQ.L0.step,bI h,aw]
  simp only[aQ.L0.add,aQ.L0.F,List.append_nil]
theorem aQ.ok:aQ.Ok:=by
 rintro⟨n,a,s⟩ ⟨h1,h2,h3⟩
 have h1:n≤s.length:=h1
 have h2:s.length≤1000000:=h2
 rw[aQ.eq,cY.run (d:=(n,s)) ⟨h1,h2⟩]
 simp only[aa,cY.add,cY.F]
 rw[aQ.L0.run (d:=(n,a,s,[],s.take n,(s.take n).length,a)) h3]
 simp only[aa,aQ.L0.add,aQ.L0.F,aQ.add,aQ.F,List.nil_append]
noncomputable def aQ.E:=Entry.cP [none] aQ.st aQ.aC aQ.add aQ.F aQ.out
noncomputable def aQ.call:aQ.D→Option aQ.X:=bS aQ.E aQ.st
theorem aQ.run:bP aQ.call aQ.aC aQ.add aQ.F:=de (cZ [.n,.d (.slice (.pair bz eX)),.d (.slice dx)] fun _=>by kernel_rfl)
noncomputable def aQ.sg:SG Tryz.prog:=⟨39,aV,aQ.E,.fn 1 (by kernel_rfl) aQ.ok (And.intro (.cP aQ.L0.ok (by kernel_rfl)) trivial)⟩
set_option synthInstance.maxSize 5000
abbrev bN.L0.D:=fR×Nat×Nat×Int×Int×Int×(List jG)
def bN.L0.st:bN.L0.D→AS:=fun(o_2,lL,t10L,t11,t12,n2,n9)=>⟨([.undef,.dZ gJ o_2,.ptr (.new 2 0) 0 [] 0,.bt (.new 9 0) 0 [] 0 0 lL]++bm 6 ([.bt (.new 9 0) 0 [] 0 0 t10L,.d ti t11,.d ti t12]++bm 17 [])),[],([[],[],[.obj 0 false (.pr (.d ti n2) (.pr (.pr (.dq) (.d .unit ())) (.d .unit ())))]]++cr 6 ([[.obj 0 false (.vec 29 jt n9)]]++cr 20 []))⟩
abbrev bN.L0.Y0:=(List jG)×(List jG)
abbrev bN.L0.X0:=(fR×Int)×((List jG)×(List jG))
def bN.L0.bK:bN.L0.X0→Exit×AS:=fun x=>(.exit 0,⟨([.undef,.dZ gJ x.1.1,.ptr (.new 2 0) 0 [] 0,.d (.slice jt) x.2.1]++bm 26 []),[],([[],[],[.obj 0 false (.pr (.d ti x.1.2) (.pr (.pr (.dq) (.d .unit ())) (.d .unit ())))]]++cr 6 ([[.obj 0 true (.vec 29 jt x.2.2)]]++cr 20 []))⟩)
abbrev bN.L0.X:=bN.L0.X0
abbrev bN.L0.Y:=bN.L0.Y0
def bN.L0.out:bN.L0.X→Out (Exit×AS):=fun x=> .ok (bN.L0.bK x)
def bN.L0.add:bN.L0.D→bN.L0.Y→bN.L0.X:=fun(o_2,lL,t10L,t11,t12,n2,n9) y=>((o_2,n2),y)
abbrev bN.D:=fR
def bN.st:bN.D→SA:=fun o=>([.d gJ o],[])
abbrev bN.Y:=fR
abbrev bN.X:=fR
def bN.out:bN.X→aW:=fun x=>⟨.d gJ x,[],[]⟩
def bN.add:bN.D→bN.Y→bN.X:=fun o y=>y
def Fs(l:Lk):Prop:=l.1.length≤1000∧∀b∈l.1,b.1.length≤1000000
def bN.L0.aC:bN.L0.D→Prop:=fun(_,n,m,t,i,_,l)=>(l.length≤1000∧∀b∈l,b.1.length≤1000000)∧∃k:Nat,k≤l.length∧i=k∧n=l.length∧m=l.length∧t=l.length
def bN.L0.F:bN.L0.D→bN.L0.Y:=fun(_,_,_,_,_,_,l)=>(l,l)
def bN.aC:bN.D→Prop:=fun o=>Fs o.2.1
def bN.F:bN.D→bN.Y:=fun o=>o
noncomputable def bN.G:dH:=eT (P:=Tryz.prog) [dQ.sg,bT.sg]
noncomputable def bN.L0.E:=bZ.cP bN.L0.st bN.L0.aC bN.L0.add bN.L0.F bN.L0.out
noncomputable def bN.L0.call:bN.L0.D→Option bN.L0.X:=dI bN.L0.E bN.L0.st
noncomputable def bN.an:ee:= {loops:=lZ [(3,{bn:=[1,2,3,10,11,12],sites:=[2,9]})],outs:=lY [(3,{bn:=[1,2,3],sites:=[2,9],data:=[(3,(.slice jt))]},{bn:=[2]})],fO:=mW [(3,bN.L0.E)],res:=[some gJ]}
noncomputable def bN.A:= @cT Tryz.prog bN.G bN.an 0 Tryz.f78 _ bN.st
abbrev bN.Ok:=cU @bN.A bN.aC bN.add bN.F bN.out
noncomputable def bN.L0.R:= @cC Tryz.prog bN.G bN.an 0 Tryz.f78 0 _ bN.L0.st
abbrev bN.L0.Ok:=eO Tryz.prog bN.G bN.an 0 Tryz.f78 0 bN.L0.st bN.L0.aC bN.L0.add bN.L0.F bN.L0.out
theorem bN.L0.run:bP bN.L0.call bN.L0.aC bN.L0.add bN.L0.F:=fe (eY [.d gJ,.n,.n,.d ti,.d ti,.d ti,.d (.slice jt)] fun _=>by kernel_rfl)
theorem bN.L0.aL:ga @bN.L0.R bN.L0.st bN.L0.aC bN.L0.add bN.L0.F bN.L0.bK bN.L0.Ok:=gw
theorem bN.L0.step{R:Type}(o_2:fR)(lL:Nat)(t10L:Nat)(t11:Int)(t12:Int)(n2:Int)(n9:(List jG))(kn:AS→Option R)(kx:Exit→AS→Option R):bN.L0.R (o_2,lL,t10L,t11,t12,n2,n9) kn kx=
  aF ((gQ t12 t11)) (
   aF (fE t12 ((t10L:Nat):Int)) (
   aF (decide ((0+(Int.toNat t12)) < (List.length n9))) (
   aF (decide ((((0+(Int.toNat t12))*4)+0)=(0+((Int.toNat t12)*4)))) (
   ah (bT.call (nth jt n9 (0+(Int.toNat t12))).1) fun x1=>
   aF (fE t12 ((lL:Nat):Int)) (
   aF (decide ((0+(Int.toNat t12)) < (List.length n9))) (
   aF (decide ((((0+(Int.toNat t12))*4)+0)=((0+((Int.toNat t12)*4))+0))) (
   aF (decide ((0+(Int.toNat t12)) < (List.length n9))) (
   kn (bN.L0.st (o_2,lL,t10L,t11,(ck .i64 t12 (1:Int)),n2,(List.set n9 (0+(Int.toNat t12)) (x1,(nth jt n9 (0+(Int.toNat t12))).2))))) none) none) none) none) none) none) none) (
   aF (decide (0=0∧(0+lL)≤(List.length n9))) (
   kx (bN.L0.bK ((o_2,n2),((cut n9 0 lL),n9))).1 (bN.L0.bK ((o_2,n2),((cut n9 0 lL),n9))).2) none):=by kernel_rfl
theorem bN.eq{R:Type}(o:fR)(k:aW→Option R):bN.A o k=
 ah (dQ.call o.2.1.1) fun x1=>
 ah (bN.L0.call (o,x1.1,x1.1,((x1.1:Nat):Int),(0:Int),(0:Int),x1.2)) fun x3=>
 k (bN.out (x3.1.1.1,((x3.2.1,()),()))):=by kernel_rfl
theorem bN.L0.ok:bN.L0.Ok:=by
 refine bN.L0.aL (fun(_,_,_,_,i,_,l)=>l.length - i.toNat) ?_
 rintro⟨o,n,m,t,i,u,l⟩ ⟨⟨hlen,hx⟩,k,hk,rfl,rfl,rfl,rfl⟩
 have hlen:l.length≤1000:=hlen
 have hk:k≤l.length:=hk
 by_cases h:k < l.length
 ·left
  have n1:nth jt l k=l[k]:=du (t:=jt) h
  have hs:l.set k l[k]=l:=List.set_getElem_self h
  have e:=hx _ (List.getElem_mem h)
  refine⟨(o,l.length,l.length,(l.length:Int),((k+1:Nat):Int),u,l),⟨⟨hlen,hx⟩,k+1,by omega,rfl,rfl,rfl,rfl⟩,by simp only[Int.toNat_natCast];omega,rfl,fun kn kx=> ?_⟩
  rw[bN.L0.step,bq (by omega),bw (by omega) (by omega)]
  simp only[Int.toNat_natCast,Nat.zero_add,Nat.add_zero,ao,bf h,decide_true,n1]
  rw[bT.run (d:=l[k].1) e]
  simp only[aa,bT.add,bT.F]
  rw[N.nW (by omega)]
  exact congrArg (fun z=>kn (bN.L0.st (_,_,_,_,_,_,z))) hs
 ·right
  obtain rfl:k=l.length:=by omega
  intro R kn kx
  rw[bN.L0.step,bl (by omega),aw,bf (by omega),ao,fo rfl]
  rfl
theorem bN.ok:bN.Ok:=by
 rintro⟨a,⟨l,u⟩,v⟩ ⟨h1,h2⟩
 have h1:l.length≤1000:=h1
 rw[bN.eq,dQ.run (d:=l) (by show l.length≤_;omega)]
 simp only[aa,dQ.add,dQ.F]
 rw[bN.L0.run (d:=((a,(l,u),v),l.length,l.length,(l.length:Int),0,0,l)) ⟨⟨h1,h2⟩,0,Nat.zero_le _,rfl,rfl,rfl,rfl⟩]
 rfl
noncomputable def bN.E:=Entry.cP [some gJ] bN.st bN.aC bN.add bN.F bN.out
noncomputable def bN.call:bN.D→Option bN.X:=bS bN.E bN.st
theorem bN.run:bP bN.call bN.aC bN.add bN.F:=de (cZ [.d gJ] fun _=>by kernel_rfl)
noncomputable def bN.sg:SG Tryz.prog:=⟨78,aV,bN.E,.fn 1 (by kernel_rfl) bN.ok (And.intro (.cP bN.L0.ok (by kernel_rfl)) trivial)⟩
abbrev aT.L0.D:=Int×(List fR)×Int×Int×(List (bX×dJ))
def aT.L0.st:aT.L0.D→AS:=fun(sum,t13,t14,t15,n10)=>⟨([.undef,.undef,.undef,.ptr (.new 12 0) 0 [] 0,.d ti sum]++bm 8 ([.d (.slice gJ) t13,.d ti t14,.d ti t15]++bm 35 [])),[],(cr 10 ([[.obj 0 false (.mp bz eX n10)],[],[.obj 0 false (.pr (.dy (.new 10 0) 0) (.pr (.dq) (.d .unit ())))]]++cr 38 []))⟩
abbrev aT.L0.Y0:=Unit
abbrev aT.L0.X0:=Unit
def aT.L0.bK:aT.L0.X0→Exit×AS:=fun x=>(.ret,⟨([.undef,.undef,.iB]++bm 48 []),[],(List.replicate 51 [])⟩)
abbrev aT.L0.Y1:=(List (bX×dJ))
abbrev aT.L0.X1:=(List (bX×dJ))
def aT.L0.jb:aT.L0.X1→Exit×AS:=fun x=>(.exit 0,⟨([.undef,.undef,.undef,.ptr (.new 12 0) 0 [] 0]++bm 47 []),[],(cr 10 ([[.obj 0 false (.mp bz eX x)],[],[.obj 0 false (.pr (.dy (.new 10 0) 0) (.pr (.dq) (.d .unit ())))]]++cr 38 []))⟩)
abbrev aT.L0.X:=(aT.L0.X0)⊕(aT.L0.X1)
abbrev aT.L0.Y:=(aT.L0.Y0)⊕(aT.L0.Y1)
def aT.L0.out:aT.L0.X→Out (Exit×AS):=fun x=> .br x.isLeft (.get x.getLeft? fun a=> .ok (aT.L0.bK a)) (.get x.getRight? fun b=> .ok (aT.L0.jb b))
def aT.L0.add:aT.L0.D→aT.L0.Y→aT.L0.X:=fun(sum,t13,t14,t15,n10) y=>match y with | .inl y=> .inl y | .inr z=> .inr (z)
abbrev aT.D:=(List fR)
def aT.st:aT.D→SA:=fun outs=>([.d (.slice gJ) outs],[])
abbrev aT.Y:=(Unit)⊕((List (bX×dJ))×(List cG))
abbrev aT.X:=(Unit)⊕((List (bX×dJ))×(List cG))
def aT.out:aT.X→aW:=fun x=>match x with | .inl x=>⟨.iB,[],[]⟩ | .inr x=>⟨.ptr (.new 0 0) 0 [] 0,[],[.obj 0 false (.pr (.dy (.new 0 1) 0) (.pr (.bt (.new 0 2) 0 [] 0 0 0) (.d .unit ()))),.obj 0 false (.mp bz eX x.1),.obj 0 false (.vec 161 dx x.2)]⟩
def aT.add:aT.D→aT.Y→aT.X:=fun outs y=>match y with | .inl y=> .inl y | .inr y=> .inr y
def pL(k:Nat)(o:fR):bX×dJ:=((List.replicate 32 (0:Int),((k:Int),())),(o,((0:Int),())))
def lI(sum:Int)(o:fR):Bool:=ji o.2.1 && decide (0≤o.1∧o.1≤1125899906842624 - sum)
def qg(sum:Int)(k:Nat):List fR→Option (List (bX×dJ))
 |[]=>some []
 |o::l=>match lI sum o with | true=>(qg (sum+o.1) (k+1) l).map (pL k o:: ·) | false=>none
def uG(outs:List fR):Option (List (bX×dJ)):=if outs.length≤256 then qg 0 0 outs else none
def w4(o:fR):Prop:=Af o.2.1∧o.2.1.1.length≤9223372036854775807∧o.1≤9223372036854775807
def aT.L0.aC:aT.L0.D→Prop:=fun(sum,outs,n,i,a)=>(∀o∈outs,w4 o)∧outs.length≤256∧0≤sum∧sum≤1125899906842624∧∃k:Nat,k≤outs.length∧i=k∧n=outs.length∧∀p∈a,p.1.2.1 < (k:Int)
def aT.L0.F:aT.L0.D→aT.L0.Y:=fun(sum,outs,_,i,a)=>match qg sum i.toNat (outs.drop i.toNat) with | none=> .inl () | some r=> .inr (a++r)
def aT.aC:aT.D→Prop:=fun outs=>∀o∈outs,w4 o
def aT.F:aT.D→aT.Y:=fun outs=>match uG outs with | none=> .inl () | some r=> .inr (r,[])
noncomputable def aT.G:dH:=eT (P:=Tryz.prog) [aD.sg,bN.sg]
noncomputable def aT.L0.E:=bZ.cP aT.L0.st aT.L0.aC aT.L0.add aT.L0.F aT.L0.out
noncomputable def aT.L0.call:aT.L0.D→Option aT.L0.X:=dI aT.L0.E aT.L0.st
noncomputable def aT.an:ee:= {bj:=[12],loops:=lZ [(5,{bn:=[3,4,13,14,15],sites:=[10,12]})],outs:=lY [(5,{bn:=[3],sites:=[10,12]},{bn:=[2]})],fO:=mW [(5,aT.L0.E)],kO:=[⟨2,[.snd,.fst],0,148⟩]}
noncomputable def aT.A:= @cT Tryz.prog aT.G aT.an 0 Tryz.f27 _ aT.st
abbrev aT.Ok:=cU @aT.A aT.aC aT.add aT.F aT.out
noncomputable def aT.L0.R:= @cC Tryz.prog aT.G aT.an 0 Tryz.f27 0 _ aT.L0.st
abbrev aT.L0.Ok:=eO Tryz.prog aT.G aT.an 0 Tryz.f27 0 aT.L0.st aT.L0.aC aT.L0.add aT.L0.F aT.L0.out
theorem aT.L0.run:bP aT.L0.call aT.L0.aC aT.L0.add aT.L0.F:=fe (eY [.d ti,.d (.slice gJ),.d ti,.d ti,.d (.slice (.pair bz eX))] fun _=>by kernel_rfl)
theorem aT.L0.aL:p9 @aT.L0.R aT.L0.st aT.L0.aC aT.L0.add aT.L0.F aT.L0.out aT.L0.Ok:=qK
theorem aT.L0.step{R:Type}(sum:Int)(t13:(List fR))(t14:Int)(t15:Int)(n10:(List (bX×dJ)))(kn:AS→Option R)(kx:Exit→AS→Option R):aT.L0.R (sum,t13,t14,t15,n10) kn kx=
  aF ((gQ t15 t14)) (
   aF (fE t15 (((List.length t13):Nat):Int)) (
   ah (aD.call (nth gJ t13 (Int.toNat t15)).2.1) fun x1=>
   aF ((!x1)) (
    kx (aT.L0.bK ()).1 (aT.L0.bK ()).2) (
    aF ((gQ (nth gJ t13 (Int.toNat t15)).1 (0:Int))) (
     kx (aT.L0.bK ()).1 (aT.L0.bK ()).2) (
     aF ((po (nth gJ t13 (Int.toNat t15)).1 (cH .i64 (1125899906842624:Int) sum))) (
      kx (aT.L0.bK ()).1 (aT.L0.bK ()).2) (
      ah (bN.call (nth gJ t13 (Int.toNat t15))) fun x2=>
      kn (aT.L0.st ((ck .i64 sum (nth gJ t13 (Int.toNat t15)).1),t13,t14,(ck .i64 t15 (1:Int)),(eh bz ((List.replicate 32 (0:Int)),(t15,())) (x2,((0:Int),())) n10))))))) none) (
   kx (aT.L0.jb n10).1 (aT.L0.jb n10).2):=by kernel_rfl
theorem aT.eq{R:Type}(outs:(List fR))(k:aW→Option R):aT.A outs k=
  aF ((po (((List.length outs):Nat):Int) (256:Int))) (
   k (aT.out (.inl ()))) (
   ah (aT.L0.call ((0:Int),outs,(((List.length outs):Nat):Int),(0:Int),([]:List (bX×dJ)))) fun x3=>
   aF (x3.isLeft) (
    ah (x3.getLeft?) fun a4=>
    k (aT.out (.inl ()))) (
    ah (x3.getRight?) fun b5=>
    k (aT.out (.inr (b5,([]:List cG)))))):=by kernel_rfl
theorem aT.L0.ok:aT.L0.Ok:=by
 refine aT.L0.aL (fun(_,outs,_,i,_)=>outs.length - i.toNat) ?_
 rintro⟨sum,outs,n,i,a⟩ ⟨hg,hl,h0,h1,k,hk,rfl,rfl,hf⟩
 have h0:0≤sum:=h0
 have h1:sum≤1125899906842624:=h1
 have hl:outs.length≤256:=hl
 have hk:k≤outs.length:=hk
 by_cases h:k < outs.length
 ·obtain⟨g1,g2,g3⟩:=hg _ (List.getElem_mem h)
  have n1:nth gJ outs k=outs[k]:=du (t:=gJ) h
  have hd:outs.drop k=outs[k]::outs.drop (k+1):=List.drop_eq_getElem_cons h
  have hs:∀ {R:Type} (kn:AS→Option R) (kx:Exit→AS→Option R),aT.L0.R (sum,outs,(outs.length:Int),(k:Int),a) kn kx=
    aF (!(ji outs[k].2.1)) (kx (aT.L0.bK ()).1 (aT.L0.bK ()).2) (aF (gQ outs[k].1 0) (kx (aT.L0.bK ()).1 (aT.L0.bK ()).2) (aF (po outs[k].1 (1125899906842624 - sum)) (kx (aT.L0.bK ()).1 (aT.L0.bK ()).2)
     (ah (bN.call outs[k]) fun x2=>kn (aT.L0.st ((ck .i64 sum outs[k].1),outs,(outs.length:Int),(ck .i64 (k:Int) (1:Int)),(eh bz ((List.replicate 32 (0:Int)),((k:Int),())) (x2,((0:Int),())) a)))))):=fun kn kx=>by
   rw[aT.L0.step,bq (by omega),ao,bw (by omega) (by omega),ao,Int.toNat_natCast,n1,aD.run (d:=outs[k].2.1) ⟨g1,g2⟩,dU (by omega) (by omega)]
   rfl
  by_cases hok:lI sum outs[k]=true
  ·left
   have hok':=hok
   unfold lI at hok'
   simp only[Bool.and_eq_true,decide_eq_true_eq]at hok'
   obtain⟨k1,k2,k3⟩:=hok'
   have hlk:=rD k1
   refine⟨(sum+outs[k].1,outs,(outs.length:Int),((k+1:Nat):Int),a++ [pL k outs[k]]),⟨hg,hl,by show 0≤sum+outs[k].1;omega,by show sum+outs[k].1≤_;omega,k+1,by omega,rfl,rfl,fun p hp=> ?_⟩,by simp only[Int.toNat_natCast];omega,?_,fun kn kx=> ?_⟩
   ·rcases List.mem_append.1 hp with hp | hp
    ·have:=hf p hp;omega
    ·rw[List.mem_singleton.1 hp];show(k:Int) < _;omega
   ·simp only[aT.L0.add,aT.L0.F,Int.toNat_natCast,hd,qg,hok]
    cases qg (sum+outs[k].1) (k+1) (outs.drop (k+1)) with
    |none=>rfl
    |some r=>simp only[Option.map_some,List.append_assoc,List.singleton_append]
   ·rw[hs,k1,Bool.not_true,aw,bl (by omega),aw,dF (by omega),aw,bN.run (d:=outs[k]) ⟨by omega,fun b hb=>by have:=hlk.2 b hb;omega⟩]
    simp only[aa,bN.add,bN.F]
    rw[gh (by omega) (by omega),N.nW (by omega),ky eS]
    ·rfl
    ·intro hm
     obtain⟨p,hp,he⟩:=List.mem_map.1 hm
     have:=hf p hp
     have he:p.1=_:=he
     rw[he]at this
     have this:(k:Int) < k:=this
     omega
  ·right
   have hok2:lI sum outs[k]=false:=by simpa using hok
   refine⟨aT.L0.bK (),?_,fun kn kx=> ?_⟩
   rotate_left
   ·rw[hs]
    unfold lI at hok2
    cases k1:ji outs[k].2.1 with
    |false=>rw[Bool.not_false,ao]
    |true=>
     rw[k1]at hok2
     simp only[Bool.true_and,decide_eq_false_iff_not]at hok2
     rw[Bool.not_true,aw]
     by_cases k2:outs[k].1 < 0
     ·rw[bq k2,ao]
     ·rw[bl k2,aw,dT (by omega),ao]
   ·simp only[aT.L0.add,aT.L0.F,Int.toNat_natCast,hd,qg,hok2]
    rfl
 ·right
  obtain rfl:k=outs.length:=by omega
  refine⟨aT.L0.jb a,?_,fun kn kx=> ?_⟩
  rotate_left
  ·rw[aT.L0.step,bl (by omega),aw]
  ·simp only[aT.L0.add,aT.L0.F,Int.toNat_natCast,List.drop_length,qg,List.append_nil]
   rfl
theorem aT.ok:aT.Ok:=by
 intro outs hg
 rw[aT.eq]
 simp only[aT.add,aT.F,uG]
 by_cases h:outs.length≤256
 ·rw[dF (by omega),aw,aT.L0.run (d:=(0,outs,(outs.length:Int),0,[])) ⟨hg,h,by decide,by decide,0,Nat.zero_le _,rfl,rfl,fun p hp=>by cases hp⟩,if_pos h]
  simp only[aa,aT.L0.add,aT.L0.F,Int.toNat_zero,List.drop_zero]
  cases qg 0 0 outs with
  |none=>rfl
  |some r=>rfl
 ·rw[dT (by omega),ao,if_neg h]
noncomputable def aT.E:=Entry.CE [some (.slice gJ)] aT.st aT.aC aT.add aT.F aT.out
noncomputable def aT.call:aT.D→Option aT.X:=bS aT.E aT.st
theorem aT.run:bP aT.call aT.aC aT.add aT.F:=Dn (cZ [.d (.slice gJ)] fun _=>by kernel_rfl)
noncomputable def aT.sg:SG Tryz.prog:=⟨27,aV,aT.E,.Gd (.fn 1 (by kernel_rfl) aT.ok (And.intro (.cP aT.L0.ok (by kernel_rfl)) trivial))⟩
set_option synthInstance.maxSize 5000
abbrev cO.D:=bX×Nat×(List (bX×dJ))×(List cG)
def cO.st:cO.D→SA:=fun(o,o0baL,o1,o2)=>([.ptr (.cz 0) 0 [] 0,.d bz o],[.obj 0 false (.pr (.dy (.cz 1) 0) (.pr (.bt (.cz 2) 0 [] 0 0 o0baL) (.d .unit ()))),.obj 0 false (.mp bz eX o1),.obj 0 false (.vec 161 dx o2)])
abbrev cO.Y:=dJ×Bool
abbrev cO.X:=(Nat×(List (bX×dJ))×(List cG))×(dJ×Bool)
def cO.out:cO.X→aW:=fun x=>⟨.cons (.d eX x.2.1) (.cons (.d .bool x.2.2) (.nil)),[.obj 0 false (.pr (.dy (.cz 1) 0) (.pr (.bt (.cz 2) 0 [] 0 0 x.1.1) (.d .unit ()))),.obj 0 false (.mp bz eX x.1.2.1),.obj 0 false (.vec 161 dx x.1.2.2)],[]⟩
def cO.add:cO.D→cO.Y→cO.X:=fun(o,o0baL,o1,o2) y=>((o0baL,o1,o2),y)
def Eu(c:dJ):Prop:=ji c.1.2.1=true∧Af c.1.2.1∧0≤c.1.1∧c.1.1≤1125899906842624∧0≤c.2.1∧c.2.1≤1048576
def qD(a:List (bX×dJ)):Prop:=(a.map (·.1)).Nodup∧∀p∈a,u6 p.1∧Eu p.2
theorem qD.get{a:List (bX×dJ)}(h:qD a){o:bX}{c:dJ}(hg:bF bz o a=some c):Eu c:=(h.2 _ ((fw eS h.1).1 hg)).2
def tV:dJ:=((0,(([],()),())),(0,()))
def cO.aC:cO.D→Prop:=fun(_,_,a,_)=>qD a
def cO.F:cO.D→cO.Y:=fun(o,_,a,_)=>((bF bz o a).getD tV,(bF bz o a).isSome)
noncomputable def cO.G:dH:=eT (P:=Tryz.prog) [bN.sg]
noncomputable def cO.an:ee:= {res:=[some eX,none]}
noncomputable def cO.A:= @cT Tryz.prog cO.G cO.an 0 Tryz.f34 _ cO.st
abbrev cO.Ok:=cU @cO.A cO.aC cO.add cO.F cO.out
theorem cO.eq{R:Type}(o:bX)(o0baL:Nat)(o1:(List (bX×dJ)))(o2:(List cG))(k:aW→Option R):cO.A (o,o0baL,o1,o2) k=
  ah (bN.call ((bF bz o o1).getD (((0:Int),((([]:List jG),()),())),((0:Int),()))).1) fun x1=>
  aF ((!(bF bz o o1).isSome)) (
   k (cO.out ((o0baL,o1,o2),((((0:Int),((([]:List jG),()),())),((0:Int),())),false)))) (
   k (cO.out ((o0baL,o1,o2),((x1,((bF bz o o1).getD (((0:Int),((([]:List jG),()),())),((0:Int),()))).2),true)))):=by kernel_rfl
theorem Eu.own{c:dJ}(h:Eu c):Fs c.1.2.1:=by
 have:=rD h.1
 exact⟨by omega,fun b hb=>by have:=this.2 b hb;omega⟩
theorem cO.ok:cO.Ok:=by
 rintro⟨o,n,a,s⟩ ha
 have ha:qD a:=ha
 rw[cO.eq]
 cases hg:bF bz o a with
 |none=>
  simp only[Option.getD_none,Option.isSome_none,Bool.not_false,ao]
  rw[bN.run (d:=((0:Int),((([]:List jG),()),()))) ⟨by show 0≤1000;decide,fun b hb=>by cases hb⟩]
  simp only[aa,cO.add,cO.F,hg,Option.getD_none,Option.isSome_none]
  rfl
 |some c=>
  simp only[Option.getD_some,Option.isSome_some,Bool.not_true,aw]
  rw[bN.run (d:=c.1) (ha.get hg).own]
  simp only[aa,bN.add,bN.F,cO.add,cO.F,hg,Option.getD_some,Option.isSome_some]
noncomputable def cO.E:=Entry.cP [none,some bz] cO.st cO.aC cO.add cO.F cO.out
noncomputable def cO.call:cO.D→Option cO.X:=bS cO.E cO.st
theorem cO.run:bP cO.call cO.aC cO.add cO.F:=de (cZ [.d bz,.n,.d (.slice (.pair bz eX)),.d (.slice dx)] fun _=>by kernel_rfl)
noncomputable def cO.sg:SG Tryz.prog:=⟨34,aV,cO.E,.fn 0 (by kernel_rfl) cO.ok trivial⟩
abbrev au.L0.D:=Int×eI×Int×(List gU)×Int×Int×Nat×(List (bX×dJ))×(List cG)×Bs
def au.L0.st:au.L0.D→AS:=fun(height_2,t_2,fY,t35,t36,t37,o0L,o1_2,o2_2,n8)=>⟨([.ptr (.cz 0) 0 [] 0,.undef,.d ti height_2,.undef,.dZ gm t_2,.undef,.undef,.undef,.ptr (.new 8 0) 0 [] 0,.d ti fY]++bm 25 ([.d (.slice ik) t35,.d ti t36,.d ti t37]++bm 69 [])),[.obj 0 false (.pr (.dy (.cz 1) 0) (.pr (.bt (.cz 2) 0 [] 0 0 o0L) (.d .unit ()))),.obj 0 false (.mp bz eX o1_2),.obj 0 false (.vec 161 dx o2_2)],(cr 8 ([[.obj 0 false (.d tH n8)]]++cr 98 []))⟩
abbrev au.L0.Y0:=Int
abbrev au.L0.X0:=(Nat×(List (bX×dJ))×(List cG))×(Int)
def au.L0.bK:au.L0.X0→Exit×AS:=fun x=>(.ret,⟨(bm 6 ([.d ti (0:Int),.d ti x.2]++bm 99 [])),[.obj 0 false (.pr (.dy (.cz 1) 0) (.pr (.bt (.cz 2) 0 [] 0 0 x.1.1) (.d .unit ()))),.obj 0 false (.mp bz eX x.1.2.1),.obj 0 false (.vec 161 dx x.1.2.2)],(List.replicate 107 [])⟩)
abbrev au.L0.Y1:=Int
abbrev au.L0.X1:=(eI×Nat×(List (bX×dJ))×(List cG))×(Int)
def au.L0.jb:au.L0.X1→Exit×AS:=fun x=>(.exit 0,⟨([.ptr (.cz 0) 0 [] 0,.undef,.undef,.undef,.dZ gm x.1.1]++bm 4 ([.d ti x.2]++bm 97 [])),[.obj 0 false (.pr (.dy (.cz 1) 0) (.pr (.bt (.cz 2) 0 [] 0 0 x.1.2.1) (.d .unit ()))),.obj 0 false (.mp bz eX x.1.2.2.1),.obj 0 false (.vec 161 dx x.1.2.2.2)],(List.replicate 107 [])⟩)
abbrev au.L0.X:=(au.L0.X0)⊕(au.L0.X1)
abbrev au.L0.Y:=(au.L0.Y0)⊕(au.L0.Y1)
def au.L0.out:au.L0.X→Out (Exit×AS):=fun x=> .br x.isLeft (.get x.getLeft? fun a=> .ok (au.L0.bK a)) (.get x.getRight? fun b=> .ok (au.L0.jb b))
def au.L0.add:au.L0.D→au.L0.Y→au.L0.X:=fun(height_2,t_2,fY,t35,t36,t37,o0L,o1_2,o2_2,n8) y=>match y with | .inl y=> .inl ((o0L,o1_2,o2_2),y) | .inr z=> .inr (((t_2,o0L,o1_2,o2_2),z))
abbrev au.L1.D:=eI×Int×(List bX)×Int×Int×Nat×(List (bX×dJ))×(List cG)
def au.L1.st:au.L1.D→AS:=fun(t_3,fee_2,t75,t76,t77,o0L_2,o1_3,o2_3)=>⟨([.ptr (.cz 0) 0 [] 0,.undef,.undef,.undef,.dZ gm t_3]++bm 4 ([.d ti fee_2]++bm 65 ([.d (.slice bz) t75,.d ti t76,.d ti t77]++bm 29 []))),[.obj 0 false (.pr (.dy (.cz 1) 0) (.pr (.bt (.cz 2) 0 [] 0 0 o0L_2) (.d .unit ()))),.obj 0 false (.mp bz eX o1_3),.obj 0 false (.vec 161 dx o2_3)],(List.replicate 107 [])⟩
abbrev au.L1.Y0:=Unit
abbrev au.L1.X0:=Nat×(List (bX×dJ))×(List cG)
def au.L1.bK:au.L1.X0→Exit×AS:=fun x=>(.ret,⟨(bm 6 ([.d ti (0:Int),.d ti (4:Int)]++bm 99 [])),[.obj 0 false (.pr (.dy (.cz 1) 0) (.pr (.bt (.cz 2) 0 [] 0 0 x.1) (.d .unit ()))),.obj 0 false (.mp bz eX x.2.1),.obj 0 false (.vec 161 dx x.2.2)],(List.replicate 107 [])⟩)
abbrev au.L1.Y1:=Unit
abbrev au.L1.X1:=eI×Int×Nat×(List (bX×dJ))×(List cG)
def au.L1.jb:au.L1.X1→Exit×AS:=fun x=>(.exit 2,⟨(bm 4 ([.dZ gm x.1]++bm 4 ([.d ti x.2.1]++bm 97 []))),[.obj 0 false (.pr (.dy (.cz 1) 0) (.pr (.bt (.cz 2) 0 [] 0 0 x.2.2.1) (.d .unit ()))),.obj 0 false (.mp bz eX x.2.2.2.1),.obj 0 false (.vec 161 dx x.2.2.2.2)],(List.replicate 107 [])⟩)
abbrev au.L1.X:=(au.L1.X0)⊕(au.L1.X1)
abbrev au.L1.Y:=(au.L1.Y0)⊕(au.L1.Y1)
def au.L1.out:au.L1.X→Out (Exit×AS):=fun x=> .br x.isLeft (.get x.getLeft? fun a=> .ok (au.L1.bK a)) (.get x.getRight? fun b=> .ok (au.L1.jb b))
def au.L1.add:au.L1.D→au.L1.Y→au.L1.X:=fun(t_3,fee_2,t75,t76,t77,o0L_2,o1_3,o2_3) y=>match y with | .inl y=> .inl (o0L_2,o1_3,o2_3) | .inr z=> .inr ((t_3,fee_2,o0L_2,o1_3,o2_3))
abbrev au.L2.D:=Int×(List fR)×Int×Int×Nat×(List (bX×dJ))×(List cG)
def au.L2.st:au.L2.D→AS:=fun(fee_3,t93,t94,t95,o0L_3,o1_4,o2_4)=>⟨(bm 9 ([.d ti fee_3]++bm 83 ([.d (.slice gJ) t93,.d ti t94,.d ti t95]++bm 11 []))),[.obj 0 false (.pr (.dy (.cz 1) 0) (.pr (.bt (.cz 2) 0 [] 0 0 o0L_3) (.d .unit ()))),.obj 0 false (.mp bz eX o1_4),.obj 0 false (.vec 161 dx o2_4)],(List.replicate 107 [])⟩
abbrev au.L2.Y0:=Int
abbrev au.L2.X0:=(Nat×(List (bX×dJ))×(List cG))×(Int)
def au.L2.bK:au.L2.X0→Exit×AS:=fun x=>(.exit 4,⟨(bm 9 ([.d ti x.2]++bm 97 [])),[.obj 0 false (.pr (.dy (.cz 1) 0) (.pr (.bt (.cz 2) 0 [] 0 0 x.1.1) (.d .unit ()))),.obj 0 false (.mp bz eX x.1.2.1),.obj 0 false (.vec 161 dx x.1.2.2)],(List.replicate 107 [])⟩)
abbrev au.L2.X:=au.L2.X0
abbrev au.L2.Y:=au.L2.Y0
def au.L2.out:au.L2.X→Out (Exit×AS):=fun x=> .ok (au.L2.bK x)
def au.L2.add:au.L2.D→au.L2.Y→au.L2.X:=fun(fee_3,t93,t94,t95,o0L_3,o1_4,o2_4) y=>((o0L_3,o1_4,o2_4),y)
abbrev au.D:=eI×Int×Nat×(List (bX×dJ))×(List cG)
def au.st:au.D→SA:=fun(t,height,o0baL,o1,o2)=>([.ptr (.cz 0) 0 [] 0,.d gm t,.d ti height],[.obj 0 false (.pr (.dy (.cz 1) 0) (.pr (.bt (.cz 2) 0 [] 0 0 o0baL) (.d .unit ()))),.obj 0 false (.mp bz eX o1),.obj 0 false (.vec 161 dx o2)])
abbrev au.Y:=Int×Int×Nat×(List (bX×dJ))×(List cG)
abbrev au.X:=Int×Int×Nat×(List (bX×dJ))×(List cG)
def au.out:au.X→aW:=fun x=>⟨.cons (.d ti x.1) (.cons (.d ti x.2.1) (.nil)),[.obj 0 false (.pr (.dy (.cz 1) 0) (.pr (.bt (.cz 2) 0 [] 0 0 x.2.2.1) (.d .unit ()))),.obj 0 false (.mp bz eX x.2.2.2.1),.obj 0 false (.vec 161 dx x.2.2.2.2)],[]⟩
def au.add:au.D→au.Y→au.X:=fun(t,height,o0baL,o1,o2) y=>y
def gz(h:Int)(id:List Int)(a:List (bX×dJ)):List gU→Int→Int⊕Int
 |[],fY=> .inr fY
 |x::l,fY=>match bF bz x.1 a with
  |none=> .inl 5
  |some c=>if kB c.1.2.1 x.2.1 id h (h - c.2.1)≠0 then .inl (kB c.1.2.1 x.2.1 id h (h - c.2.1)) else gz h id a l (fY+c.1.1)
def fI(a:List (bX×dJ))(o:bX):Bool:=(bF bz o a).isSome
def fx(l:List fR):Int:=(l.map (·.1)).sum
def dB(t:eI)(h:Int)(a:List (bX×dJ)):Int×Int:=
 if fA t=true∧1≤h∧h≤1048576 then
  match gz h (iK t) a t.1 0 with
  | .inl e=>(0,e)
  | .inr fY=>if(dG t).any (fI a)=true then(0,4) else if fY - fx t.2.1 < 0 then(0,8) else(fY - fx t.2.1,0)
 else(0,1)
def au.L0.aC:au.L0.D→Prop:=fun(h,_,fY,l,n,i,_,a,_,id)=>(0≤h∧h≤1048576)∧Sm id∧l.length≤64∧(∀x∈l,F2 x)∧qD a∧∃k:Nat,k≤l.length∧i=k∧n=l.length∧0≤fY∧fY≤(k:Int)*1125899906842624
def au.L0.F:au.L0.D→au.L0.Y:=fun(h,_,fY,l,_,i,_,a,_,id)=>gz h id a (l.drop i.toNat) fY
def au.L1.aC:au.L1.D→Prop:=fun(_,_,l,n,i,_,_,_)=>l.length≤1000∧∃k:Nat,k≤l.length∧i=k∧n=l.length
def au.L1.F:au.L1.D→au.L1.Y:=fun(_,_,l,_,i,_,a,_)=>if(l.drop i.toNat).any (fI a)=true then .inl () else .inr ()
def au.L2.aC:au.L2.D→Prop:=fun(fY,l,n,i,_,_,_)=>l.length≤64∧(∀o∈l,0≤o.1∧o.1≤1125899906842624)∧∃k:Nat,k≤l.length∧i=k∧n=l.length∧ -((k:Int)*1125899906842624)≤fY∧fY≤1000000000000000000
def au.L2.F:au.L2.D→au.L2.Y:=fun(fY,l,_,i,_,_,_)=>fY - fx (l.drop i.toNat)
def au.aC:au.D→Prop:=fun(t,_,_,a,_)=>nV t∧qD a
def au.F:au.D→au.Y:=fun(t,h,n,a,s)=>((dB t h a).1,(dB t h a).2,n,a,s)
noncomputable def au.G:dH:=eT (P:=Tryz.prog) [ak.sg,tid.sg,aU.sg,aY.sg]
noncomputable def au.L0.E:=bZ.cP au.L0.st au.L0.aC au.L0.add au.L0.F au.L0.out
noncomputable def au.L0.call:au.L0.D→Option au.L0.X:=dI au.L0.E au.L0.st
noncomputable def au.L1.E:=bZ.cP au.L1.st au.L1.aC au.L1.add au.L1.F au.L1.out
noncomputable def au.L1.call:au.L1.D→Option au.L1.X:=dI au.L1.E au.L1.st
noncomputable def au.L2.E:=bZ.cP au.L2.st au.L2.aC au.L2.add au.L2.F au.L2.out
noncomputable def au.L2.call:au.L2.D→Option au.L2.X:=dI au.L2.E au.L2.st
noncomputable def au.an:ee:= {loops:=lZ [(5,{bn:=[0,2,4,8,9,35,36,37],sites:=[8]}),(16,{bn:=[0,4,9,75,76,77]}),(23,{bn:=[9,93,94,95]})],outs:=lY [(5,{bn:=[0,4,9]},{bn:=[6,7]}),(16,{bn:=[4,9]},{bn:=[6,7]}),(23,{bn:=[9]},{bn:=[6,7]})],fO:=mW [(5,au.L0.E),(16,au.L1.E),(23,au.L2.E)]}
noncomputable def au.A:= @cT Tryz.prog au.G au.an 0 Tryz.f29 _ au.st
abbrev au.Ok:=cU @au.A au.aC au.add au.F au.out
noncomputable def au.L0.R:= @cC Tryz.prog au.G au.an 0 Tryz.f29 0 _ au.L0.st
abbrev au.L0.Ok:=eO Tryz.prog au.G au.an 0 Tryz.f29 0 au.L0.st au.L0.aC au.L0.add au.L0.F au.L0.out
noncomputable def au.L1.R:= @cC Tryz.prog au.G au.an 0 Tryz.f29 1 _ au.L1.st
abbrev au.L1.Ok:=eO Tryz.prog au.G au.an 0 Tryz.f29 1 au.L1.st au.L1.aC au.L1.add au.L1.F au.L1.out
noncomputable def au.L2.R:= @cC Tryz.prog au.G au.an 0 Tryz.f29 2 _ au.L2.st
abbrev au.L2.Ok:=eO Tryz.prog au.G au.an 0 Tryz.f29 2 au.L2.st au.L2.aC au.L2.add au.L2.F au.L2.out
theorem au.L0.run:bP au.L0.call au.L0.aC au.L0.add au.L0.F:=fe (eY [.d ti,.d gm,.d ti,.d (.slice ik),.d ti,.d ti,.n,.d (.slice (.pair bz eX)),.d (.slice dx),.d tB] fun _=>by kernel_rfl)
theorem au.L0.aL:p9 @au.L0.R au.L0.st au.L0.aC au.L0.add au.L0.F au.L0.out au.L0.Ok:=qK
theorem au.L0.step{R:Type}(height_2:Int)(t_2:eI)(fY:Int)(t35:(List gU))(t36:Int)(t37:Int)(o0L:Nat)(o1_2:(List (bX×dJ)))(o2_2:(List cG))(n8:Bs)(kn:AS→Option R)(kx:Exit→AS→Option R):au.L0.R (height_2,t_2,fY,t35,t36,t37,o0L,o1_2,o2_2,n8) kn kx=
  aF ((gQ t37 t36)) (
   aF (fE t37 (((List.length t35):Nat):Int)) (
   aF ((!(bF bz (nth ik t35 (Int.toNat t37)).1 o1_2).isSome)) (
    kx (au.L0.bK ((o0L,o1_2,o2_2),(5:Int))).1 (au.L0.bK ((o0L,o1_2,o2_2),(5:Int))).2) (
    ah (aU.call (((bF bz (nth ik t35 (Int.toNat t37)).1 o1_2).getD (((0:Int),((([]:List jG),()),())),((0:Int),()))).1.2.1,(nth ik t35 (Int.toNat t37)).2.1,n8,height_2,(cH .i64 height_2 ((bF bz (nth ik t35 (Int.toNat t37)).1 o1_2).getD (((0:Int),((([]:List jG),()),())),((0:Int),()))).2.1))) fun x1=>
    aF ((qe x1 (0:Int))) (
     kx (au.L0.bK ((o0L,o1_2,o2_2),x1)).1 (au.L0.bK ((o0L,o1_2,o2_2),x1)).2) (
     kn (au.L0.st (height_2,t_2,(ck .i64 fY ((bF bz (nth ik t35 (Int.toNat t37)).1 o1_2).getD (((0:Int),((([]:List jG),()),())),((0:Int),()))).1.1),t35,t36,(ck .i64 t37 (1:Int)),o0L,o1_2,o2_2,n8))))) none) (
   kx (au.L0.jb ((t_2,o0L,o1_2,o2_2),fY)).1 (au.L0.jb ((t_2,o0L,o1_2,o2_2),fY)).2):=by kernel_rfl
theorem au.L1.run:bP au.L1.call au.L1.aC au.L1.add au.L1.F:=fe (eY [.d gm,.d ti,.d (.slice bz),.d ti,.d ti,.n,.d (.slice (.pair bz eX)),.d (.slice dx)] fun _=>by kernel_rfl)
theorem au.L1.aL:p9 @au.L1.R au.L1.st au.L1.aC au.L1.add au.L1.F au.L1.out au.L1.Ok:=qK
theorem au.L1.step{R:Type}(t_3:eI)(fee_2:Int)(t75:(List bX))(t76:Int)(t77:Int)(o0L_2:Nat)(o1_3:(List (bX×dJ)))(o2_3:(List cG))(kn:AS→Option R)(kx:Exit→AS→Option R):au.L1.R (t_3,fee_2,t75,t76,t77,o0L_2,o1_3,o2_3) kn kx=
  aF ((gQ t77 t76)) (
   aF (fE t77 (((List.length t75):Nat):Int)) (
   aF ((bF bz (nth bz t75 (Int.toNat t77)) o1_3).isSome) (
    kx (au.L1.bK (o0L_2,o1_3,o2_3)).1 (au.L1.bK (o0L_2,o1_3,o2_3)).2) (
    kn (au.L1.st (t_3,fee_2,t75,t76,(ck .i64 t77 (1:Int)),o0L_2,o1_3,o2_3)))) none) (
   kx (au.L1.jb (t_3,fee_2,o0L_2,o1_3,o2_3)).1 (au.L1.jb (t_3,fee_2,o0L_2,o1_3,o2_3)).2):=by kernel_rfl
theorem au.L2.run:bP au.L2.call au.L2.aC au.L2.add au.L2.F:=fe (eY [.d ti,.d (.slice gJ),.d ti,.d ti,.n,.d (.slice (.pair bz eX)),.d (.slice dx)] fun _=>by kernel_rfl)
theorem au.L2.aL:ga @au.L2.R au.L2.st au.L2.aC au.L2.add au.L2.F au.L2.bK au.L2.Ok:=gw
theorem au.L2.step{R:Type}(fee_3:Int)(t93:(List fR))(t94:Int)(t95:Int)(o0L_3:Nat)(o1_4:(List (bX×dJ)))(o2_4:(List cG))(kn:AS→Option R)(kx:Exit→AS→Option R):au.L2.R (fee_3,t93,t94,t95,o0L_3,o1_4,o2_4) kn kx=
  aF ((gQ t95 t94)) (
   aF (fE t95 (((List.length t93):Nat):Int)) (
   kn (au.L2.st ((cH .i64 fee_3 (nth gJ t93 (Int.toNat t95)).1),t93,t94,(ck .i64 t95 (1:Int)),o0L_3,o1_4,o2_4))) none) (
   kx (au.L2.bK ((o0L_3,o1_4,o2_4),fee_3)).1 (au.L2.bK ((o0L_3,o1_4,o2_4),fee_3)).2):=by kernel_rfl
theorem au.eq{R:Type}(t:eI)(height:Int)(o0baL:Nat)(o1:(List (bX×dJ)))(o2:(List cG))(k:aW→Option R):au.A (t,height,o0baL,o1,o2) k=
  ah (ak.call t) fun x1=>
  aF ((!x1)) (
   k (au.out ((0:Int),(1:Int),o0baL,o1,o2))) (
   aF ((gQ height (1:Int))) (
    k (au.out ((0:Int),(1:Int),o0baL,o1,o2))) (
    aF ((po height (1048576:Int))) (
     k (au.out ((0:Int),(1:Int),o0baL,o1,o2))) (
     ah (tid.call t) fun x2=>
     ah (au.L0.call (height,t,(0:Int),t.1,(((List.length t.1):Nat):Int),(0:Int),o0baL,o1,o2,x2)) fun x4=>
     aF (x4.isLeft) (
      ah (x4.getLeft?) fun a5=>
      k (au.out ((0:Int),a5.2,a5.1.1,a5.1.2.1,a5.1.2.2))) (
      ah (x4.getRight?) fun b6=>
      ah (aY.call b6.1.1) fun x7=>
      ah (au.L1.call (b6.1.1,b6.2,x7,(((List.length x7):Nat):Int),(0:Int),b6.1.2.1,b6.1.2.2.1,b6.1.2.2.2)) fun x8=>
      aF (x8.isLeft) (
       ah (x8.getLeft?) fun a9=>
       k (au.out ((0:Int),(4:Int),a9.1,a9.2.1,a9.2.2))) (
       ah (x8.getRight?) fun b10=>
       ah (au.L2.call (b10.2.1,b10.1.2.1,(((List.length b10.1.2.1):Nat):Int),(0:Int),b10.2.2.1,b10.2.2.2.1,b10.2.2.2.2)) fun x11=>
       aF ((gQ x11.2 (0:Int))) (
        k (au.out ((0:Int),(8:Int),x11.1.1,x11.1.2.1,x11.1.2.2))) (
        k (au.out (x11.2,(0:Int),x11.1.1,x11.1.2.1,x11.1.2.2)))))))):=by kernel_rfl
theorem au.L0.ok:au.L0.Ok:=by
 refine au.L0.aL (fun(_,_,_,l,_,i,_,_,_,_)=>l.length - i.toNat) ?_
 rintro⟨h,t,fY,l,n,i,o,a,s,id⟩ ⟨⟨hh1,hh2⟩,hid,hl,hu,ha,k,hk,rfl,rfl,hf1,hf2⟩
 have hh1:0≤h:=hh1
 have hh2:h≤1048576:=hh2
 have hl:l.length≤64:=hl
 have hf1:0≤fY:=hf1
 have hf2:fY≤(k:Int)*1125899906842624:=hf2
 have hk:k≤l.length:=hk
 by_cases hlt:k < l.length
 ·have hx:=hu _ (List.getElem_mem hlt)
  have n1:nth ik l k=l[k]:=du (t:=ik) hlt
  have hd:l.drop k=l[k]::l.drop (k+1):=List.drop_eq_getElem_cons hlt
  cases hg:bF bz l[k].1 a with
  |none=>
   right
   refine⟨au.L0.bK ((o,a,s),5),?_,fun kn kx=> ?_⟩
   rotate_left
   ·rw[au.L0.step,bq (by omega),ao,bw (by omega) (by omega),ao,Int.toNat_natCast,n1,hg]
    simp only[Option.isSome_none,Bool.not_false,ao]
   ·simp only[au.L0.add,au.L0.F,Int.toNat_natCast,hd,gz,hg]
    rfl
  |some c=>
   have hc:=ha.get hg
   obtain⟨c1,c2,c3,c4,c5,c6⟩:=hc
   have hst:∀ {R:Type} (kn:AS→Option R) (kx:Exit→AS→Option R),au.L0.R (h,t,fY,l,(l.length:Int),(k:Int),o,a,s,id) kn kx=
     aF (qe (kB c.1.2.1 l[k].2.1 id h (h - c.2.1)) 0) (kx (au.L0.bK ((o,a,s),kB c.1.2.1 l[k].2.1 id h (h - c.2.1))).1 (au.L0.bK ((o,a,s),kB c.1.2.1 l[k].2.1 id h (h - c.2.1))).2)
      (kn (au.L0.st (h,t,fY+c.1.1,l,(l.length:Int),((k+1:Nat):Int),o,a,s,id))):=fun kn kx=>by
    rw[au.L0.step,bq (by omega),ao,bw (by omega) (by omega),ao,Int.toNat_natCast,n1,hg]
    simp only[Option.isSome_some,Bool.not_true,aw,Option.getD_some]
    rw[dU (by omega) (by omega),aU.run (d:=(c.1.2.1,l[k].2.1,id,h,h - c.2.1)) ⟨c2,by have:=rD c1;omega,hx.2.1,hid⟩]
    simp only[aa,aU.add,aU.F]
    rw[gh (by omega) (by omega),N.nW (by omega)]
   by_cases he:kB c.1.2.1 l[k].2.1 id h (h - c.2.1)=0
   ·left
    refine⟨(h,t,fY+c.1.1,l,(l.length:Int),((k+1:Nat):Int),o,a,s,id),⟨⟨hh1,hh2⟩,hid,hl,hu,ha,k+1,by omega,rfl,rfl,by show 0≤fY+c.1.1;omega,by show fY+c.1.1≤_;omega⟩,by simp only[Int.toNat_natCast];omega,?_,fun kn kx=> ?_⟩
    ·simp only[au.L0.add,au.L0.F,Int.toNat_natCast,hd,gz,hg,he,ne_eq,not_true_eq_false,if_false]
    ·rw[hst,eM he,aw]
   ·right
    refine⟨au.L0.bK ((o,a,s),kB c.1.2.1 l[k].2.1 id h (h - c.2.1)),?_,fun kn kx=> ?_⟩
    rotate_left
    ·rw[hst,fv he,ao]
    ·simp only[au.L0.add,au.L0.F,Int.toNat_natCast,hd,gz,hg]
     rw[if_pos he]
     rfl
 ·right
  obtain rfl:k=l.length:=by omega
  refine⟨au.L0.jb ((t,o,a,s),fY),?_,fun kn kx=> ?_⟩
  rotate_left
  ·rw[au.L0.step,bl (by omega),aw]
  ·simp only[au.L0.add,au.L0.F,Int.toNat_natCast,List.drop_length,gz]
   rfl
theorem au.L1.ok:au.L1.Ok:=by
 refine au.L1.aL (fun(_,_,l,_,i,_,_,_)=>l.length - i.toNat) ?_
 rintro⟨t,fY,l,n,i,o,a,s⟩ ⟨hl,k,hk,rfl,rfl⟩
 have hl:l.length≤1000:=hl
 have hk:k≤l.length:=hk
 by_cases hlt:k < l.length
 ·have n1:nth bz l k=l[k]:=du (t:=bz) hlt
  have hd:l.drop k=l[k]::l.drop (k+1):=List.drop_eq_getElem_cons hlt
  cases hg:(bF bz l[k] a).isSome with
  |true=>
   right
   refine⟨au.L1.bK (o,a,s),?_,fun kn kx=> ?_⟩
   rotate_left
   ·rw[au.L1.step,bq (by omega),ao,bw (by omega) (by omega),ao,Int.toNat_natCast,n1,hg,ao]
   ·simp only[au.L1.add,au.L1.F,Int.toNat_natCast,hd,List.any_cons,fI,hg,Bool.true_or,if_true]
    rfl
  |false=>
   left
   refine⟨(t,fY,l,(l.length:Int),((k+1:Nat):Int),o,a,s),⟨hl,k+1,by omega,rfl,rfl⟩,by simp only[Int.toNat_natCast];omega,?_,fun kn kx=> ?_⟩
   ·simp only[au.L1.add,au.L1.F,Int.toNat_natCast,hd,List.any_cons,fI,hg,Bool.false_or]
   ·rw[au.L1.step,bq (by omega),ao,bw (by omega) (by omega),ao,Int.toNat_natCast,n1,hg,aw,N.nW (by omega)]
 ·right
  obtain rfl:k=l.length:=by omega
  refine⟨au.L1.jb (t,fY,o,a,s),?_,fun kn kx=> ?_⟩
  rotate_left
  ·rw[au.L1.step,bl (by omega),aw]
  ·simp only[au.L1.add,au.L1.F,Int.toNat_natCast,List.drop_length,List.any_nil,Bool.false_eq_true,if_false]
   rfl
theorem au.L2.ok:au.L2.Ok:=by
 refine au.L2.aL (fun(_,l,_,i,_,_,_)=>l.length - i.toNat) ?_
 rintro⟨fY,l,n,i,o,a,s⟩ ⟨hl,ho,k,hk,rfl,rfl,hf1,hf2⟩
 have hl:l.length≤64:=hl
 have hk:k≤l.length:=hk
 have hf1: -((k:Int)*1125899906842624)≤fY:=hf1
 have hf2:fY≤1000000000000000000:=hf2
 by_cases hlt:k < l.length
 ·left
  have n1:nth gJ l k=l[k]:=du (t:=gJ) hlt
  have hd:l.drop k=l[k]::l.drop (k+1):=List.drop_eq_getElem_cons hlt
  have hx:=ho _ (List.getElem_mem hlt)
  refine⟨(fY - l[k].1,l,(l.length:Int),((k+1:Nat):Int),o,a,s),⟨hl,ho,k+1,by omega,rfl,rfl,by show _≤fY - l[k].1;omega,by show fY - l[k].1≤_;omega⟩,by simp only[Int.toNat_natCast];omega,?_,fun kn kx=> ?_⟩
  ·simp only[au.L2.add,au.L2.F,Int.toNat_natCast,hd,fx,List.map_cons,List.sum_cons]
   rw[Int.sub_sub]
  ·rw[au.L2.step,bq (by omega),ao,bw (by omega) (by omega),ao,Int.toNat_natCast,n1,dU (by omega) (by omega),N.nW (by omega)]
 ·right
  obtain rfl:k=l.length:=by omega
  intro R kn kx
  rw[au.L2.step,bl (by omega),aw]
  simp only[au.L2.add,au.L2.F,Int.toNat_natCast,List.drop_length,fx,List.map_nil,List.sum_nil,Int.sub_zero]
theorem gC{t:eI}(h:fA t=true):(dG t).length=t.2.1.length:=by
 unfold dG
 rw[if_pos h]
 simp[lf]
theorem rp{h:Int}{id:List Int}{a:List (bX×dJ)}(ha:qD a):∀(l:List gU) (fY f:Int),gz h id a l fY= .inr f→fY≤f∧f≤fY+(l.length:Int)*1125899906842624
 |[],fY,f,e=>by simp only[gz,Sum.inr.injEq]at e;subst e;simp
 |x::l,fY,f,e=>by
  simp only[gz]at e
  cases hg:bF bz x.1 a with
  |none=>rw[hg]at e;cases e
  |some c=>
   rw[hg]at e
   simp only at e
   split at e
   ·cases e
   ·have hc:=ha.get hg
    have:=rp ha l _ _ e
    obtain⟨_,_,c3,c4,_⟩:=hc
    rw[List.length_cons]
    omega
theorem au.ok:au.Ok:=by
 rintro⟨t,h,n,a,s⟩ ⟨hv,ha⟩
 have hv:nV t:=hv
 have ha:qD a:=ha
 rw[au.eq,ak.run (d:=t) hv.1]
 simp only[aa,ak.add,ak.F,au.add,au.F,dB]
 by_cases hok:fA t=true
 ·rw[hok,Bool.not_true,aw]
  obtain⟨⟨_,a2,a3,_⟩,b1,b2⟩:=iH hok
  by_cases h1:1≤h
  ·rw[bl (by omega),aw]
   by_cases h2:h≤1048576
   ·rw[dF (by omega),aw,if_pos ⟨rfl,h1,h2⟩,tid.run (d:=t) hv]
    simp only[aa,tid.add,tid.F]
    rw[au.L0.run (d:=(h,t,0,t.1,(t.1.length:Int),0,n,a,s,iK t)) ⟨⟨by show 0≤h;omega,h2⟩,yh,a2,hv.2.1,ha,0,Nat.zero_le _,rfl,rfl,by decide,by decide⟩]
    simp only[aa,au.L0.add,au.L0.F,Int.toNat_zero,List.drop_zero]
    cases hi:gz h (iK t) a t.1 0 with
    |inl e=>
     simp only[Sum.isLeft_inl,ao,Sum.getLeft?_inl,aa]
    |inr fY=>
     have hb:=rp ha _ _ _ hi
     simp only[Sum.isLeft_inr,aw,Sum.getRight?_inr,aa]
     rw[aY.run (d:=t) hv]
     simp only[aa,aY.add,aY.F]
     rw[au.L1.run (d:=(t,fY,dG t,((dG t).length:Int),0,n,a,s)) ⟨by rw[gC hok];omega,0,Nat.zero_le _,rfl,rfl⟩]
     simp only[aa,au.L1.add,au.L1.F,Int.toNat_zero,List.drop_zero]
     by_cases hm:(dG t).any (fI a)=true
     ·rw[if_pos hm]
      simp only[Sum.isLeft_inl,ao,Sum.getLeft?_inl,aa,if_true,hm]
     ·rw[if_neg hm]
      simp only[Sum.isLeft_inr,aw,Sum.getRight?_inr,aa]
      rw[au.L2.run (d:=(fY,t.2.1,(t.2.1.length:Int),0,n,a,s)) ⟨a3,fun o ho=>(iT _ _ b2 o ho).1,0,Nat.zero_le _,rfl,rfl,by show -((0:Int)*_)≤fY;omega,by show fY≤_;omega⟩]
      simp only[aa,au.L2.add,au.L2.F,Int.toNat_zero,List.drop_zero]
      rw[if_neg hm]
      by_cases hf:fY - fx t.2.1 < 0
      ·rw[bq hf,ao,if_pos hf]
      ·rw[bl hf,aw,if_neg hf]
   ·rw[dT (by omega),ao,if_neg (fun e=>h2 e.2.2)]
  ·rw[bq (by omega),ao,if_neg (fun e=>h1 e.2.1)]
 ·have hok':fA t=false:=by simpa using hok
  rw[hok',Bool.not_false,ao,if_neg (fun e=>by cases e.1)]
noncomputable def au.E:=Entry.cP [none,some gm,some ti] au.st au.aC au.add au.F au.out
noncomputable def au.call:au.D→Option au.X:=bS au.E au.st
theorem au.run:bP au.call au.aC au.add au.F:=de (cZ [.d gm,.d ti,.n,.d (.slice (.pair bz eX)),.d (.slice dx)] fun _=>by kernel_rfl)
noncomputable def au.sg:SG Tryz.prog:=⟨29,aV,au.E,.fn 3 (by kernel_rfl) au.ok (And.intro (.cP au.L0.ok (by kernel_rfl)) (And.intro (.cP au.L1.ok (by kernel_rfl)) (And.intro (.cP au.L2.ok (by kernel_rfl)) trivial)))⟩
set_option synthInstance.maxSize 5000
abbrev aG.L0.D:=Int×(List bX)×Int×Int×Nat×(List (bX×dJ))×(List cG)
def aG.L0.st:aG.L0.D→AS:=fun(n,t23,t24,t25,o0L,o1_2,o2_2)=>⟨([.ptr (.cz 0) 0 [] 0,.undef,.undef,.d ti n]++bm 19 ([.d (.slice bz) t23,.d ti t24,.d ti t25]++bm 40 [])),[.obj 0 false (.pr (.dy (.cz 1) 0) (.pr (.bt (.cz 2) 0 [] 0 0 o0L) (.d .unit ()))),.obj 0 false (.mp bz eX o1_2),.obj 0 false (.vec 161 dx o2_2)],(List.replicate 66 [])⟩
abbrev aG.L0.Y0:=(List (bX×dJ))
abbrev aG.L0.X0:=(Int×Nat×(List cG))×((List (bX×dJ)))
def aG.L0.bK:aG.L0.X0→Exit×AS:=fun x=>(.exit 0,⟨([.ptr (.cz 0) 0 [] 0,.undef,.undef,.d ti x.1.1]++bm 62 []),[.obj 0 false (.pr (.dy (.cz 1) 0) (.pr (.bt (.cz 2) 0 [] 0 0 x.1.2.1) (.d .unit ()))),.obj 0 false (.mp bz eX x.2),.obj 0 false (.vec 161 dx x.1.2.2)],(List.replicate 66 [])⟩)
abbrev aG.L0.X:=aG.L0.X0
abbrev aG.L0.Y:=aG.L0.Y0
def aG.L0.out:aG.L0.X→Out (Exit×AS):=fun x=> .ok (aG.L0.bK x)
def aG.L0.add:aG.L0.D→aG.L0.Y→aG.L0.X:=fun(n,t23,t24,t25,o0L,o1_2,o2_2) y=>((n,o0L,o2_2),y)
abbrev aG.L1.D:=Int×(List uZ)×Int×Int×Nat×(List (bX×dJ))×(List cG)
def aG.L1.st:aG.L1.D→AS:=fun(n_2,t42,t43,t44,o0L_2,o1_3,o2_3)=>⟨([.ptr (.cz 0) 0 [] 0,.undef,.undef,.d ti n_2]++bm 38 ([.d (.slice zY) t42,.d ti t43,.d ti t44]++bm 21 [])),[.obj 0 false (.pr (.dy (.cz 1) 0) (.pr (.bt (.cz 2) 0 [] 0 0 o0L_2) (.d .unit ()))),.obj 0 false (.mp bz eX o1_3),.obj 0 false (.vec 161 dx o2_3)],(List.replicate 66 [])⟩
abbrev aG.L1.Y0:=(List (bX×dJ))
abbrev aG.L1.X0:=(Int×Nat×(List cG))×((List (bX×dJ)))
def aG.L1.bK:aG.L1.X0→Exit×AS:=fun x=>(.exit 2,⟨([.ptr (.cz 0) 0 [] 0,.undef,.undef,.d ti x.1.1]++bm 62 []),[.obj 0 false (.pr (.dy (.cz 1) 0) (.pr (.bt (.cz 2) 0 [] 0 0 x.1.2.1) (.d .unit ()))),.obj 0 false (.mp bz eX x.2),.obj 0 false (.vec 161 dx x.1.2.2)],(List.replicate 66 [])⟩)
abbrev aG.L1.X:=aG.L1.X0
abbrev aG.L1.Y:=aG.L1.Y0
def aG.L1.out:aG.L1.X→Out (Exit×AS):=fun x=> .ok (aG.L1.bK x)
def aG.L1.add:aG.L1.D→aG.L1.Y→aG.L1.X:=fun(n_2,t42,t43,t44,o0L_2,o1_3,o2_3) y=>((n_2,o0L_2,o2_3),y)
abbrev aG.D:=Nat×(List (bX×dJ))×(List cG)
def aG.st:aG.D→SA:=fun(o0baL,o1,o2)=>([.ptr (.cz 0) 0 [] 0],[.obj 0 false (.pr (.dy (.cz 1) 0) (.pr (.bt (.cz 2) 0 [] 0 0 o0baL) (.d .unit ()))),.obj 0 false (.mp bz eX o1),.obj 0 false (.vec 161 dx o2)])
abbrev aG.Y:=Bool×Nat×(List (bX×dJ))×(List cG)
abbrev aG.X:=Bool×Nat×(List (bX×dJ))×(List cG)
def aG.out:aG.X→aW:=fun x=>⟨.d .bool x.1,[.obj 0 false (.pr (.dy (.cz 1) 0) (.pr (.bt (.cz 2) 0 [] 0 0 x.2.1) (.d .unit ()))),.obj 0 false (.mp bz eX x.2.2.1),.obj 0 false (.vec 161 dx x.2.2.2)],[]⟩
def aG.add:aG.D→aG.Y→aG.X:=fun(o0baL,o1,o2) y=>y
def j2(l:List bX)(a:List (bX×dJ)):List (bX×dJ):=l.foldl (fun m o=>fj bz o m) a
def uM(l:List uZ)(a:List (bX×dJ)):List (bX×dJ):=l.foldl (fun m e=>eh bz e.1 e.2.1 m) a
def yV(a:List (bX×dJ))(st:cG):List (bX×dJ):=uM st.1 (j2 st.2.1 a)
def aG.L0.aC:aG.L0.D→Prop:=fun(_,l,n,i,_,_,_)=>l.length≤1000∧∃k:Nat,k≤l.length∧i=k∧n=l.length
def aG.L0.F:aG.L0.D→aG.L0.Y:=fun(_,l,_,i,_,a,_)=>j2 (l.drop i.toNat) a
def aG.L1.aC:aG.L1.D→Prop:=fun(_,l,n,i,_,_,_)=>l.length≤1000∧∃k:Nat,k≤l.length∧i=k∧n=l.length
def aG.L1.F:aG.L1.D→aG.L1.Y:=fun(_,l,_,i,_,a,_)=>uM (l.drop i.toNat) a
def Ai(st:cG):Prop:=st.1.length≤1000∧st.2.1.length≤1000
def aG.aC:aG.D→Prop:=fun(n,_,s)=>n≤s.length∧s.length≤1000000∧∀st∈s,Ai st
def aG.F:aG.D→aG.Y:=fun(n,a,s)=>if n=0 then(false,n,a,s) else(true,n - 1,yV a (nth dx s (n - 1)),s)
noncomputable def aG.G:dH:=eT (P:=Tryz.prog) []
noncomputable def aG.L0.E:=bZ.cP aG.L0.st aG.L0.aC aG.L0.add aG.L0.F aG.L0.out
noncomputable def aG.L0.call:aG.L0.D→Option aG.L0.X:=dI aG.L0.E aG.L0.st
noncomputable def aG.L1.E:=bZ.cP aG.L1.st aG.L1.aC aG.L1.add aG.L1.F aG.L1.out
noncomputable def aG.L1.call:aG.L1.D→Option aG.L1.X:=dI aG.L1.E aG.L1.st
noncomputable def aG.an:ee:= {loops:=lZ [(5,{bn:=[0,3,23,24,25]}),(10,{bn:=[0,3,42,43,44]})],outs:=lY [(5,{bn:=[0,3]},{bn:=[2]}),(10,{bn:=[0,3]},{bn:=[2]})],fO:=mW [(5,aG.L0.E),(10,aG.L1.E)]}
noncomputable def aG.A:= @cT Tryz.prog aG.G aG.an 0 Tryz.f37 _ aG.st
abbrev aG.Ok:=cU @aG.A aG.aC aG.add aG.F aG.out
noncomputable def aG.L0.R:= @cC Tryz.prog aG.G aG.an 0 Tryz.f37 0 _ aG.L0.st
abbrev aG.L0.Ok:=eO Tryz.prog aG.G aG.an 0 Tryz.f37 0 aG.L0.st aG.L0.aC aG.L0.add aG.L0.F aG.L0.out
noncomputable def aG.L1.R:= @cC Tryz.prog aG.G aG.an 0 Tryz.f37 1 _ aG.L1.st
abbrev aG.L1.Ok:=eO Tryz.prog aG.G aG.an 0 Tryz.f37 1 aG.L1.st aG.L1.aC aG.L1.add aG.L1.F aG.L1.out
theorem aG.L0.run:bP aG.L0.call aG.L0.aC aG.L0.add aG.L0.F:=fe (eY [.d ti,.d (.slice bz),.d ti,.d ti,.n,.d (.slice (.pair bz eX)),.d (.slice dx)] fun _=>by kernel_rfl)
theorem aG.L0.aL:ga @aG.L0.R aG.L0.st aG.L0.aC aG.L0.add aG.L0.F aG.L0.bK aG.L0.Ok:=gw
theorem aG.L0.step{R:Type}(n:Int)(t23:(List bX))(t24:Int)(t25:Int)(o0L:Nat)(o1_2:(List (bX×dJ)))(o2_2:(List cG))(kn:AS→Option R)(kx:Exit→AS→Option R):aG.L0.R (n,t23,t24,t25,o0L,o1_2,o2_2) kn kx=
  aF ((gQ t25 t24)) (
   aF (fE t25 (((List.length t23):Nat):Int)) (
   kn (aG.L0.st (n,t23,t24,(ck .i64 t25 (1:Int)),o0L,(fj bz (nth bz t23 (Int.toNat t25)) o1_2),o2_2))) none) (
   kx (aG.L0.bK ((n,o0L,o2_2),o1_2)).1 (aG.L0.bK ((n,o0L,o2_2),o1_2)).2):=by kernel_rfl
theorem aG.L1.run:bP aG.L1.call aG.L1.aC aG.L1.add aG.L1.F:=fe (eY [.d ti,.d (.slice zY),.d ti,.d ti,.n,.d (.slice (.pair bz eX)),.d (.slice dx)] fun _=>by kernel_rfl)
theorem aG.L1.aL:ga @aG.L1.R aG.L1.st aG.L1.aC aG.L1.add aG.L1.F aG.L1.bK aG.L1.Ok:=gw
theorem aG.L1.step{R:Type}(n_2:Int)(t42:(List uZ))(t43:Int)(t44:Int)(o0L_2:Nat)(o1_3:(List (bX×dJ)))(o2_3:(List cG))(kn:AS→Option R)(kx:Exit→AS→Option R):aG.L1.R (n_2,t42,t43,t44,o0L_2,o1_3,o2_3) kn kx=
  aF ((gQ t44 t43)) (
   aF (fE t44 (((List.length t42):Nat):Int)) (
   kn (aG.L1.st (n_2,t42,t43,(ck .i64 t44 (1:Int)),o0L_2,(eh bz (nth zY t42 (Int.toNat t44)).1 (nth zY t42 (Int.toNat t44)).2.1 o1_3),o2_3))) none) (
   kx (aG.L1.bK ((n_2,o0L_2,o2_3),o1_3)).1 (aG.L1.bK ((n_2,o0L_2,o2_3),o1_3)).2):=by kernel_rfl
theorem aG.eq{R:Type}(o0baL:Nat)(o1:(List (bX×dJ)))(o2:(List cG))(k:aW→Option R):aG.A (o0baL,o1,o2) k=
  aF ((gQ (cH .i64 ((o0baL:Nat):Int) (1:Int)) (0:Int))) (
   k (aG.out (false,o0baL,o1,o2))) (
   aF (fE (cH .i64 ((o0baL:Nat):Int) (1:Int)) ((o0baL:Nat):Int)) (
   aF (decide ((0+(Int.toNat (cH .i64 ((o0baL:Nat):Int) (1:Int)))) < (List.length o2))) (
   aF (decide ((((0+(Int.toNat (cH .i64 ((o0baL:Nat):Int) (1:Int))))*2)+1)=((0+((Int.toNat (cH .i64 ((o0baL:Nat):Int) (1:Int)))*2))+1))) (
   ah (aG.L0.call ((cH .i64 ((o0baL:Nat):Int) (1:Int)),(nth dx o2 (0+(Int.toNat (cH .i64 ((o0baL:Nat):Int) (1:Int))))).2.1,(((List.length (nth dx o2 (0+(Int.toNat (cH .i64 ((o0baL:Nat):Int) (1:Int))))).2.1):Nat):Int),(0:Int),o0baL,o1,o2)) fun x1=>
   aF (fE x1.1.1 ((x1.1.2.1:Nat):Int)) (
   aF (decide ((0+(Int.toNat x1.1.1)) < (List.length x1.1.2.2))) (
   aF (decide ((((0+(Int.toNat x1.1.1))*2)+0)=((0+((Int.toNat x1.1.1)*2))+0))) (
   ah (aG.L1.call (x1.1.1,(nth dx x1.1.2.2 (0+(Int.toNat x1.1.1))).1,(((List.length (nth dx x1.1.2.2 (0+(Int.toNat x1.1.1))).1):Nat):Int),(0:Int),x1.1.2.1,x1.2,x1.1.2.2)) fun x2=>
   aF (inc x2.1.1 ((x2.1.2.1:Nat):Int)) (
   k (aG.out (true,((Int.toNat x2.1.1) - 0),x2.2,x2.1.2.2))) none) none) none) none) none) none) none):=by kernel_rfl
theorem aG.L0.ok:aG.L0.Ok:=by
 refine aG.L0.aL (fun(_,l,_,i,_,_,_)=>l.length - i.toNat) ?_
 rintro⟨u,l,n,i,o,a,s⟩ ⟨hl,k,hk,rfl,rfl⟩
 have hl:l.length≤1000:=hl
 have hk:k≤l.length:=hk
 by_cases hlt:k < l.length
 ·left
  have n1:nth bz l k=l[k]:=du (t:=bz) hlt
  have hd:l.drop k=l[k]::l.drop (k+1):=List.drop_eq_getElem_cons hlt
  refine⟨(u,l,(l.length:Int),((k+1:Nat):Int),o,j2 [l[k]] a,s),⟨hl,k+1,by omega,rfl,rfl⟩,by simp only[Int.toNat_natCast];omega,?_,fun kn kx=> ?_⟩
  ·simp only[aG.L0.add,aG.L0.F,Int.toNat_natCast,hd,j2,List.foldl_cons,List.foldl_nil]
  ·rw[aG.L0.step,bq (by omega),ao,bw (by omega) (by omega),ao,Int.toNat_natCast,n1,N.nW (by omega)]
   rfl
 ·right
  obtain rfl:k=l.length:=by omega
  intro R kn kx
  rw[aG.L0.step,bl (by omega),aw]
  simp only[aG.L0.add,aG.L0.F,Int.toNat_natCast,List.drop_length,j2,List.foldl_nil]
theorem aG.L1.ok:aG.L1.Ok:=by
 refine aG.L1.aL (fun(_,l,_,i,_,_,_)=>l.length - i.toNat) ?_
 rintro⟨u,l,n,i,o,a,s⟩ ⟨hl,k,hk,rfl,rfl⟩
 have hl:l.length≤1000:=hl
 have hk:k≤l.length:=hk
 by_cases hlt:k < l.length
 ·left
  have n1:nth zY l k=l[k]:=du (t:=zY) hlt
  have hd:l.drop k=l[k]::l.drop (k+1):=List.drop_eq_getElem_cons hlt
  refine⟨(u,l,(l.length:Int),((k+1:Nat):Int),o,uM [l[k]] a,s),⟨hl,k+1,by omega,rfl,rfl⟩,by simp only[Int.toNat_natCast];omega,?_,fun kn kx=> ?_⟩
  ·simp only[aG.L1.add,aG.L1.F,Int.toNat_natCast,hd,uM,List.foldl_cons,List.foldl_nil]
  ·rw[aG.L1.step,bq (by omega),ao,bw (by omega) (by omega),ao,Int.toNat_natCast,n1,N.nW (by omega)]
   rfl
 ·right
  obtain rfl:k=l.length:=by omega
  intro R kn kx
  rw[aG.L1.step,bl (by omega),aw]
  simp only[aG.L1.add,aG.L1.F,Int.toNat_natCast,List.drop_length,uM,List.foldl_nil]
theorem aG.ok:aG.Ok:=by
 rintro⟨n,a,s⟩ ⟨h1,h2,h3⟩
 have h1:n≤s.length:=h1
 have h2:s.length≤1000000:=h2
 have h3:∀st∈s,Ai st:=h3
 rw[aG.eq]
 simp only[aG.add,aG.F]
 cases n with
 |zero=>
  rw[bq (by decide),ao]
  rfl
 |succ m=>
  have e1:cH .i64 (((m+1:Nat):Nat):Int) (1:Int)=(m:Int):=by rw[dU (by omega) (by omega)];omega
  have hm:m < s.length:=by omega
  have n1:nth dx s m=s[m]:=du (t:=dx) hm
  have hs:=h3 _ (List.getElem_mem hm)
  rw[e1,bl (by omega),aw,bw (by omega) (by omega),ao]
  simp only[Int.toNat_natCast,Nat.zero_add,Nat.add_zero,bf hm,ao,decide_true,n1]
  rw[aG.L0.run (d:=((m:Int),s[m].2.1,(s[m].2.1.length:Int),0,m+1,a,s)) ⟨hs.2,0,Nat.zero_le _,rfl,rfl⟩]
  simp only[aa,aG.L0.add,aG.L0.F,Int.toNat_zero,List.drop_zero]
  rw[bw (by omega) (by omega),ao]
  simp only[Int.toNat_natCast,Nat.zero_add,Nat.add_zero,bf hm,ao,decide_true,n1]
  rw[aG.L1.run (d:=((m:Int),s[m].1,(s[m].1.length:Int),0,m+1,j2 s[m].2.1 a,s)) ⟨hs.1,0,Nat.zero_le _,rfl,rfl⟩]
  simp only[aa,aG.L1.add,aG.L1.F,Int.toNat_zero,List.drop_zero]
  rw[kZ (by omega) (by omega),ao,if_neg (by omega)]
  simp only[Int.toNat_natCast,Nat.sub_zero,Nat.add_sub_cancel,n1,yV]
noncomputable def aG.E:=Entry.cP [none] aG.st aG.aC aG.add aG.F aG.out
noncomputable def aG.call:aG.D→Option aG.X:=bS aG.E aG.st
theorem aG.run:bP aG.call aG.aC aG.add aG.F:=de (cZ [.n,.d (.slice (.pair bz eX)),.d (.slice dx)] fun _=>by kernel_rfl)
noncomputable def aG.sg:SG Tryz.prog:=⟨37,aV,aG.E,.fn 2 (by kernel_rfl) aG.ok (And.intro (.cP aG.L0.ok (by kernel_rfl)) (And.intro (.cP aG.L1.ok (by kernel_rfl)) trivial))⟩
abbrev aB.L0.D:=Int×eI×(List bX)×Int×Int×Nat×(List (bX×dJ))×(List cG)×Nat×((List bX)×Unit)×(List uZ)
def aB.L0.st:aB.L0.D→AS:=fun(height_2,t_2,t28,t29,t30,o0L,o1_2,o2_2,n9L,n9,n45)=>⟨([.ptr (.cz 0) 0 [] 0,.undef,.d ti height_2,.undef,.dZ gm t_2]++bm 4 ([.ptr (.new 9 0) 0 [] 0]++bm 18 ([.d (.slice bz) t28,.d ti t29,.d ti t30]++bm 54 []))),[.obj 0 false (.pr (.dy (.cz 1) 0) (.pr (.bt (.cz 2) 0 [] 0 0 o0L) (.d .unit ()))),.obj 0 false (.mp bz eX o1_2),.obj 0 false (.vec 161 dx o2_2)],(cr 9 ([[.obj 0 false (.pr (.bt (.new 45 0) 0 [] 0 0 n9L) (.d (.pair (.slice bz) .unit) n9))]]++cr 35 ([[.obj 0 false (.vec 163 zY n45)]]++cr 39 [])))⟩
abbrev aB.L0.Y0:=(List (bX×dJ))×Nat×(List uZ)
abbrev aB.L0.X0:=(Int×eI×Nat×(List cG)×((List bX)×Unit))×((List (bX×dJ))×Nat×(List uZ))
def aB.L0.bK:aB.L0.X0→Exit×AS:=fun x=>(.exit 0,⟨([.ptr (.cz 0) 0 [] 0,.undef,.d ti x.1.1,.undef,.dZ gm x.1.2.1]++bm 4 ([.ptr (.new 9 0) 0 [] 0]++bm 75 [])),[.obj 0 false (.pr (.dy (.cz 1) 0) (.pr (.bt (.cz 2) 0 [] 0 0 x.1.2.2.1) (.d .unit ()))),.obj 0 false (.mp bz eX x.2.1),.obj 0 false (.vec 161 dx x.1.2.2.2.1)],(cr 9 ([[.obj 0 false (.pr (.bt (.new 45 0) 0 [] 0 0 x.2.2.1) (.d (.pair (.slice bz) .unit) x.1.2.2.2.2))]]++cr 35 ([[.obj 0 false (.vec 163 zY x.2.2.2)]]++cr 39 [])))⟩)
abbrev aB.L0.X:=aB.L0.X0
abbrev aB.L0.Y:=aB.L0.Y0
def aB.L0.out:aB.L0.X→Out (Exit×AS):=fun x=> .ok (aB.L0.bK x)
def aB.L0.add:aB.L0.D→aB.L0.Y→aB.L0.X:=fun(height_2,t_2,t28,t29,t30,o0L,o1_2,o2_2,n9L,n9,n45) y=>((height_2,t_2,o0L,o2_2,n9),y)
abbrev aB.L1.D:=Int×eI×(List bX)×Int×Int×Nat×(List (bX×dJ))×(List cG)×Nat×((List bX)×Unit)×(List uZ)
def aB.L1.st:aB.L1.D→AS:=fun(height_3,t_3,t54,t55,t56,o0L_2,o1_3,o2_3,n9L_2,n9_2,n45_2)=>⟨([.ptr (.cz 0) 0 [] 0,.undef,.d ti height_3,.undef,.dZ gm t_3]++bm 4 ([.ptr (.new 9 0) 0 [] 0]++bm 44 ([.d (.slice bz) t54,.d ti t55,.d ti t56]++bm 28 []))),[.obj 0 false (.pr (.dy (.cz 1) 0) (.pr (.bt (.cz 2) 0 [] 0 0 o0L_2) (.d .unit ()))),.obj 0 false (.mp bz eX o1_3),.obj 0 false (.vec 161 dx o2_3)],(cr 9 ([[.obj 0 false (.pr (.bt (.new 45 0) 0 [] 0 0 n9L_2) (.d (.pair (.slice bz) .unit) n9_2))]]++cr 35 ([[.obj 0 false (.vec 163 zY n45_2)]]++cr 39 [])))⟩
abbrev aB.L1.Y0:=(List (bX×dJ))
abbrev aB.L1.X0:=(Nat×(List cG)×Nat×((List bX)×Unit)×(List uZ))×((List (bX×dJ)))
def aB.L1.bK:aB.L1.X0→Exit×AS:=fun x=>(.exit 2,⟨([.ptr (.cz 0) 0 [] 0]++bm 8 ([.ptr (.new 9 0) 0 [] 0]++bm 75 [])),[.obj 0 false (.pr (.dy (.cz 1) 0) (.pr (.bt (.cz 2) 0 [] 0 0 x.1.1) (.d .unit ()))),.obj 0 false (.mp bz eX x.2),.obj 0 false (.vec 161 dx x.1.2.1)],(cr 9 ([[.obj 0 false (.pr (.bt (.new 45 0) 0 [] 0 0 x.1.2.2.1) (.d (.pair (.slice bz) .unit) x.1.2.2.2.1))]]++cr 35 ([[.obj 0 false (.vec 163 zY x.1.2.2.2.2)]]++cr 39 [])))⟩)
abbrev aB.L1.X:=aB.L1.X0
abbrev aB.L1.Y:=aB.L1.Y0
def aB.L1.out:aB.L1.X→Out (Exit×AS):=fun x=> .ok (aB.L1.bK x)
def aB.L1.add:aB.L1.D→aB.L1.Y→aB.L1.X:=fun(height_3,t_3,t54,t55,t56,o0L_2,o1_3,o2_3,n9L_2,n9_2,n45_2) y=>((o0L_2,o2_3,n9L_2,n9_2,n45_2),y)
abbrev aB.D:=eI×Int×Nat×(List (bX×dJ))×(List cG)
def aB.st:aB.D→SA:=fun(t,height,o0baL,o1,o2)=>([.ptr (.cz 0) 0 [] 0,.d gm t,.d ti height],[.obj 0 false (.pr (.dy (.cz 1) 0) (.pr (.bt (.cz 2) 0 [] 0 0 o0baL) (.d .unit ()))),.obj 0 false (.mp bz eX o1),.obj 0 false (.vec 161 dx o2)])
abbrev aB.Y:=(Int×Nat×(List (bX×dJ))×(List cG))⊕(Int×Nat×(List (bX×dJ))×(List cG))
abbrev aB.X:=(Int×Nat×(List (bX×dJ))×(List cG))⊕(Int×Nat×(List (bX×dJ))×(List cG))
def aB.out:aB.X→aW:=fun x=>match x with | .inl x=>⟨.d ti x.1,[.obj 0 false (.pr (.dy (.cz 1) 0) (.pr (.bt (.cz 2) 0 [] 0 0 x.2.1) (.d .unit ()))),.obj 0 false (.mp bz eX x.2.2.1),.obj 0 false (.vec 161 dx x.2.2.2)],[]⟩ | .inr x=>⟨.d ti x.1,[.obj 0 false (.pr (.dy (.cz 1) 0) (.pr (.bt (.cz 2) 1 [] 0 0 x.2.1) (.d .unit ()))),.obj 0 false (.mp bz eX x.2.2.1),.obj 1 false (.vec 161 dx x.2.2.2)],[]⟩
def aB.add:aB.D→aB.Y→aB.X:=fun(t,height,o0baL,o1,o2) y=>match y with | .inl y=> .inl y | .inr y=> .inr y
def lT(a:List (bX×dJ)):List bX→List uZ
 |[]=> []
 |o::l=>(o,((bF bz o a).getD tV,()))::lT (fj bz o a) l
def nm(h:Int):List bX→List fR→List (bX×dJ)→List (bX×dJ)
 |o::l,x::xs,a=>nm h l xs (eh bz o (x,(h,())) a)
 |_,_,a=>a
def stepOf(t:eI)(a:List (bX×dJ)):cG:=(lT a (bu t),(dG t,()))
def cJ(t:eI)(h:Int)(a:List (bX×dJ)):List (bX×dJ):=nm h (dG t) t.2.1 (j2 (bu t) a)
def aB.L0.aC:aB.L0.D→Prop:=fun(_,_,l,n,i,_,_,_,gL,_,g)=>l.length≤1000∧∃k:Nat,k≤l.length∧i=k∧n=l.length∧gL=g.length∧g.length=k
def aB.L0.F:aB.L0.D→aB.L0.Y:=fun(_,_,l,_,i,_,a,_,gL,_,g)=>(j2 (l.drop i.toNat) a,gL+(l.drop i.toNat).length,g++lT a (l.drop i.toNat))
def aB.L1.aC:aB.L1.D→Prop:=fun(_,t,l,n,i,_,_,_,_,_,_)=>l.length≤1000∧l.length=t.2.1.length∧(∀o∈t.2.1,Fs o.2.1)∧∃k:Nat,k≤l.length∧i=k∧n=l.length
def aB.L1.F:aB.L1.D→aB.L1.Y:=fun(h,t,l,_,i,_,a,_,_,_,_)=>nm h (l.drop i.toNat) (t.2.1.drop i.toNat) a
def aB.aC:aB.D→Prop:=fun(t,_,n,a,s)=>nV t∧qD a∧n≤s.length∧s.length≤1000000
def aB.F:aB.D→aB.Y:=fun(t,h,n,a,s)=>if(dB t h a).2≠0 then .inl ((dB t h a).2,n,a,s) else .inr (0,n+1,cJ t h a,s.take n++ [stepOf t a])
noncomputable def aB.G:dH:=eT (P:=Tryz.prog) [au.sg,aY.sg,az.sg,bN.sg]
noncomputable def aB.L0.E:=bZ.cP aB.L0.st aB.L0.aC aB.L0.add aB.L0.F aB.L0.out
noncomputable def aB.L0.call:aB.L0.D→Option aB.L0.X:=dI aB.L0.E aB.L0.st
noncomputable def aB.L1.E:=bZ.cP aB.L1.st aB.L1.aC aB.L1.add aB.L1.F aB.L1.out
noncomputable def aB.L1.call:aB.L1.D→Option aB.L1.X:=dI aB.L1.E aB.L1.st
noncomputable def aB.an:ee:= {loops:=lZ [(6,{bn:=[0,2,4,9,28,29,30],sites:=[9,45],kO:=[⟨9,[.fst],45,159⟩]}),(12,{bn:=[0,2,4,9,54,55,56],sites:=[9,45]})],outs:=lY [(6,{bn:=[0,2,4,9],sites:=[9,45]},{bn:=[6]}),(12,{bn:=[0,9],sites:=[9,45]},{bn:=[6]})],fO:=mW [(6,aB.L0.E),(12,aB.L1.E)]}
noncomputable def aB.A:= @cT Tryz.prog aB.G aB.an 0 Tryz.f30 _ aB.st
abbrev aB.Ok:=cU @aB.A aB.aC aB.add aB.F aB.out
noncomputable def aB.L0.R:= @cC Tryz.prog aB.G aB.an 0 Tryz.f30 0 _ aB.L0.st
abbrev aB.L0.Ok:=eO Tryz.prog aB.G aB.an 0 Tryz.f30 0 aB.L0.st aB.L0.aC aB.L0.add aB.L0.F aB.L0.out
noncomputable def aB.L1.R:= @cC Tryz.prog aB.G aB.an 0 Tryz.f30 1 _ aB.L1.st
abbrev aB.L1.Ok:=eO Tryz.prog aB.G aB.an 0 Tryz.f30 1 aB.L1.st aB.L1.aC aB.L1.add aB.L1.F aB.L1.out
theorem aB.L0.run:bP aB.L0.call aB.L0.aC aB.L0.add aB.L0.F:=fe (eY [.d ti,.d gm,.d (.slice bz),.d ti,.d ti,.n,.d (.slice (.pair bz eX)),.d (.slice dx),.n,.d (.pair (.slice bz) .unit),.d (.slice zY)] fun _=>by kernel_rfl)
theorem aB.L0.aL:ga @aB.L0.R aB.L0.st aB.L0.aC aB.L0.add aB.L0.F aB.L0.bK aB.L0.Ok:=gw
theorem aB.L0.step{R:Type}(height_2:Int)(t_2:eI)(t28:(List bX))(t29:Int)(t30:Int)(o0L:Nat)(o1_2:(List (bX×dJ)))(o2_2:(List cG))(n9L:Nat)(n9:((List bX)×Unit))(n45:(List uZ))(kn:AS→Option R)(kx:Exit→AS→Option R):aB.L0.R (height_2,t_2,t28,t29,t30,o0L,o1_2,o2_2,n9L,n9,n45) kn kx=
  aF ((gQ t30 t29)) (
   aF (fE t30 (((List.length t28):Nat):Int)) (
   aF (decide (n9L≤(List.length n45))) (
   aF (dr (n9L+1) 80) (
   kn (aB.L0.st (height_2,t_2,t28,t29,(ck .i64 t30 (1:Int)),o0L,(fj bz (nth bz t28 (Int.toNat t30)) o1_2),o2_2,(n9L+1),n9,((List.take n9L n45)++ [((nth bz t28 (Int.toNat t30)),(((bF bz (nth bz t28 (Int.toNat t30)) o1_2).getD (((0:Int),((([]:List jG),()),())),((0:Int),()))),()))])))) none) none) none) (
   kx (aB.L0.bK ((height_2,t_2,o0L,o2_2,n9),(o1_2,n9L,n45))).1 (aB.L0.bK ((height_2,t_2,o0L,o2_2,n9),(o1_2,n9L,n45))).2):=by kernel_rfl
theorem aB.L1.run:bP aB.L1.call aB.L1.aC aB.L1.add aB.L1.F:=fe (eY [.d ti,.d gm,.d (.slice bz),.d ti,.d ti,.n,.d (.slice (.pair bz eX)),.d (.slice dx),.n,.d (.pair (.slice bz) .unit),.d (.slice zY)] fun _=>by kernel_rfl)
theorem aB.L1.aL:ga @aB.L1.R aB.L1.st aB.L1.aC aB.L1.add aB.L1.F aB.L1.bK aB.L1.Ok:=gw
theorem aB.L1.step{R:Type}(height_3:Int)(t_3:eI)(t54:(List bX))(t55:Int)(t56:Int)(o0L_2:Nat)(o1_3:(List (bX×dJ)))(o2_3:(List cG))(n9L_2:Nat)(n9_2:((List bX)×Unit))(n45_2:(List uZ))(kn:AS→Option R)(kx:Exit→AS→Option R):aB.L1.R (height_3,t_3,t54,t55,t56,o0L_2,o1_3,o2_3,n9L_2,n9_2,n45_2) kn kx=
  aF ((gQ t56 t55)) (
   aF (fE t56 (((List.length t54):Nat):Int)) (
   aF (fE t56 (((List.length t_3.2.1):Nat):Int)) (
   ah (bN.call (nth gJ t_3.2.1 (Int.toNat t56))) fun x1=>
   kn (aB.L1.st (height_3,t_3,t54,t55,(ck .i64 t56 (1:Int)),o0L_2,(eh bz (nth bz t54 (Int.toNat t56)) (x1,(height_3,())) o1_3),o2_3,n9L_2,n9_2,n45_2))) none) none) (
   kx (aB.L1.bK ((o0L_2,o2_3,n9L_2,n9_2,n45_2),o1_3)).1 (aB.L1.bK ((o0L_2,o2_3,n9L_2,n9_2,n45_2),o1_3)).2):=by kernel_rfl
theorem aB.eq{R:Type}(t:eI)(height:Int)(o0baL:Nat)(o1:(List (bX×dJ)))(o2:(List cG))(k:aW→Option R):aB.A (t,height,o0baL,o1,o2) k=
  ah (au.call (t,height,o0baL,o1,o2)) fun x1=>
  aF ((qe x1.2.1 (0:Int))) (
   k (aB.out (.inl (x1.2.1,x1.2.2.1,x1.2.2.2.1,x1.2.2.2.2)))) (
   ah (aY.call t) fun x2=>
   ah (az.call t) fun x3=>
   ah (aB.L0.call (height,t,x3,(((List.length x3):Nat):Int),(0:Int),x1.2.2.1,x1.2.2.2.1,x1.2.2.2.2,0,(x2,()),([]:List uZ))) fun x4=>
   ah (aB.L1.call (x4.1.1,x4.1.2.1,x4.1.2.2.2.2.1,(((List.length x4.1.2.2.2.2.1):Nat):Int),(0:Int),x4.1.2.2.1,x4.2.1,x4.1.2.2.2.1,x4.2.2.1,x4.1.2.2.2.2,x4.2.2.2)) fun x6=>
   aF (decide (0=0∧(0+x6.1.2.2.1)≤(List.length x6.1.2.2.2.2))) (
   aF (decide (x6.1.1≤(List.length x6.1.2.1))) (
   aF (dr (x6.1.1+1) 48) (
   k (aB.out (.inr ((0:Int),(x6.1.1+1),x6.2,((List.take x6.1.1 x6.1.2.1)++ [((cut x6.1.2.2.2.2 0 x6.1.2.2.1),x6.1.2.2.2.1)]))))) none) none) none):=by kernel_rfl
theorem aB.L0.ok:aB.L0.Ok:=by
 refine aB.L0.aL (fun(_,_,l,_,i,_,_,_,_,_,_)=>l.length - i.toNat) ?_
 rintro⟨h,t,l,n,i,o,a,s,gL,u,g⟩ ⟨hl,k,hk,rfl,rfl,rfl,hg⟩
 have hl:l.length≤1000:=hl
 have hk:k≤l.length:=hk
 have hg:g.length=k:=hg
 by_cases hlt:k < l.length
 ·left
  have n1:nth bz l k=l[k]:=du (t:=bz) hlt
  have hd:l.drop k=l[k]::l.drop (k+1):=List.drop_eq_getElem_cons hlt
  refine⟨(h,t,l,(l.length:Int),((k+1:Nat):Int),o,fj bz l[k] a,s,g.length+1,u,g++ [(l[k],((bF bz l[k] a).getD tV,()))]),⟨hl,k+1,by omega,rfl,rfl,by simp,by simp[hg]⟩,by simp only[Int.toNat_natCast];omega,?_,fun kn kx=> ?_⟩
  ·simp only[aB.L0.add,aB.L0.F,Int.toNat_natCast,hd,j2,List.foldl_cons,lT,List.append_assoc,List.singleton_append,List.length_cons]
   rw[show g.length+1+(l.drop (k+1)).length=g.length+((l.drop (k+1)).length+1) by omega]
  ·rw[aB.L0.step,bq (by omega),ao,bw (by omega) (by omega),ao,bf (Nat.le_refl _),ao,eG (by omega) (by omega),ao,Int.toNat_natCast,n1,N.nW (by omega),List.take_length]
   rfl
 ·right
  obtain rfl:k=l.length:=by omega
  intro R kn kx
  rw[aB.L0.step,bl (by omega),aw]
  simp only[aB.L0.add,aB.L0.F,Int.toNat_natCast,List.drop_length,j2,List.foldl_nil,lT,List.append_nil,List.length_nil,Nat.add_zero]
theorem aB.L1.ok:aB.L1.Ok:=by
 refine aB.L1.aL (fun(_,_,l,_,i,_,_,_,_,_,_)=>l.length - i.toNat) ?_
 rintro⟨h,t,l,n,i,o,a,s,gL,u,g⟩ ⟨hl,he,hb,k,hk,rfl,rfl⟩
 have hl:l.length≤1000:=hl
 have he:l.length=t.2.1.length:=he
 have hk:k≤l.length:=hk
 by_cases hlt:k < l.length
 ·left
  have hlt2:k < t.2.1.length:=by omega
  have n1:nth bz l k=l[k]:=du (t:=bz) hlt
  have n2:nth gJ t.2.1 k=t.2.1[k]:=du (t:=gJ) hlt2
  have hd:l.drop k=l[k]::l.drop (k+1):=List.drop_eq_getElem_cons hlt
  have hd2:t.2.1.drop k=t.2.1[k]::t.2.1.drop (k+1):=List.drop_eq_getElem_cons hlt2
  refine⟨(h,t,l,(l.length:Int),((k+1:Nat):Int),o,eh bz l[k] (t.2.1[k],(h,())) a,s,gL,u,g),⟨hl,he,hb,k+1,by omega,rfl,rfl⟩,by simp only[Int.toNat_natCast];omega,?_,fun kn kx=> ?_⟩
  ·simp only[aB.L1.add,aB.L1.F,Int.toNat_natCast,hd,hd2,nm]
  ·rw[aB.L1.step,bq (by omega),ao,bw (by omega) (by omega),ao,bw (by omega) (by omega),ao,Int.toNat_natCast,n1,n2,bN.run (d:=t.2.1[k]) (hb _ (List.getElem_mem hlt2))]
   simp only[aa,bN.add,bN.F]
   rw[N.nW (by omega)]
 ·right
  obtain rfl:k=l.length:=by omega
  intro R kn kx
  rw[aB.L1.step,bl (by omega),aw]
  simp only[aB.L1.add,aB.L1.F,Int.toNat_natCast,List.drop_length,nm]
theorem tc{t:eI}{h:Int}{a:List (bX×dJ)}(e:(dB t h a).2=0):fA t=true∧1≤h∧h≤1048576∧∃fY,gz h (iK t) a t.1 0= .inr fY∧(dG t).any (fI a)=false∧0≤fY - fx t.2.1∧dB t h a=(fY - fx t.2.1,0):=by
 unfold dB at e ⊢
 by_cases h0:fA t=true∧1≤h∧h≤1048576
 ·rw[if_pos h0]at e
  rw[if_pos h0]
  refine⟨h0.1,h0.2.1,h0.2.2,?_⟩
  cases hi:gz h (iK t) a t.1 0 with
  |inl x=>
   exfalso
   rw[hi]at e
   simp only at e
   subst e
   have key:∀(l:List gU) (f:Int),gz h (iK t) a l f≠ .inl 0:=by
    intro l
    induction l with
    |nil=>intro f hf;cases hf
    |cons x l ih=>
     intro f hf
     simp only[gz]at hf
     cases hg:bF bz x.1 a with
     |none=>rw[hg]at hf;simp at hf
     |some c=>
      rw[hg]at hf
      simp only at hf
      split at hf
      ·rename_i hne;exact hne (by injection hf)
      ·exact ih _ hf
   exact key _ _ hi
  |inr fY=>
   rw[hi]at e
   simp only at e ⊢
   by_cases hm:(dG t).any (fI a)=true
   ·rw[if_pos hm]at e;cases e
   ·rw[if_neg hm]at e
    rw[if_neg hm]
    by_cases hf:fY - fx t.2.1 < 0
    ·rw[if_pos hf]at e;cases e
    ·rw[if_neg hf]
     exact⟨fY,rfl,by simpa using hm,by omega,rfl⟩
 ·rw[if_neg h0]at e;cases e
theorem mj{t:eI}(h:fA t=true):(bu t).length=t.1.length:=by
 unfold bu
 rw[if_pos h,List.length_map]
theorem aB.ok:aB.Ok:=by
 rintro⟨t,h,n,a,s⟩ ⟨hv,ha,hn,hs⟩
 have hv:nV t:=hv
 have ha:qD a:=ha
 have hn:n≤s.length:=hn
 have hs:s.length≤1000000:=hs
 rw[aB.eq,au.run (d:=(t,h,n,a,s)) ⟨hv,ha⟩]
 simp only[aa,au.add,au.F,aB.add,aB.F]
 by_cases he:(dB t h a).2=0
 ·rw[eM he,aw,if_neg (fun e=>e he)]
  obtain⟨hok,_,_,_⟩:=tc he
  obtain⟨⟨_,a2,a3,_⟩,b1,b2⟩:=iH hok
  rw[aY.run (d:=t) hv]
  simp only[aa,aY.add,aY.F]
  rw[az.run (d:=t) hv.1]
  simp only[aa,az.add,az.F]
  rw[aB.L0.run (d:=(h,t,bu t,((bu t).length:Int),0,n,a,s,0,(dG t,()),[])) ⟨by rw[mj hok];omega,0,Nat.zero_le _,rfl,rfl,rfl,rfl⟩]
  simp only[aa,aB.L0.add,aB.L0.F,Int.toNat_zero,List.drop_zero,List.nil_append,Nat.zero_add]
  rw[aB.L1.run (d:=(h,t,dG t,((dG t).length:Int),0,n,j2 (bu t) a,s,(bu t).length,(dG t,()),lT a (bu t))) ⟨by rw[gC hok];omega,gC hok,fun o ho=>by
   have:=rD (iT _ _ b2 o ho).2
   exact⟨by omega,fun b hb=>by have:=this.2 b hb;omega⟩,0,Nat.zero_le _,rfl,rfl⟩]
  simp only[aa,aB.L1.add,aB.L1.F,Int.toNat_zero,List.drop_zero]
  have hgl:∀(l:List bX) (a:List (bX×dJ)),(lT a l).length=l.length:=by
   intro l
   induction l with
   |nil=>intro a;rfl
   |cons o l ih=>intro a;simp[lT,ih]
  rw[bf (by rw[hgl];exact⟨trivial,by omega⟩),ao,bf hn,ao,eG (by omega) (by omega),ao,fo (hgl _ _)]
  rfl
 ·rw[fv he,ao,if_pos he]
noncomputable def aB.E:=Entry.CE [none,some gm,some ti] aB.st aB.aC aB.add aB.F aB.out
noncomputable def aB.call:aB.D→Option aB.X:=bS aB.E aB.st
theorem aB.run:bP aB.call aB.aC aB.add aB.F:=Dn (cZ [.d gm,.d ti,.n,.d (.slice (.pair bz eX)),.d (.slice dx)] fun _=>by kernel_rfl)
noncomputable def aB.sg:SG Tryz.prog:=⟨30,aV,aB.E,.Gd (.fn 2 (by kernel_rfl) aB.ok (And.intro (.cP aB.L0.ok (by kernel_rfl)) (And.intro (.cP aB.L1.ok (by kernel_rfl)) trivial)))⟩
set_option synthInstance.maxSize 5000
theorem BI(k:Int)(m:List Int):EA (fM k m):=by
 unfold fM
 split
 ·exact⟨(CY _).u,(ym _ _).u⟩
 ·exact⟨⟨Int.le_refl 0,by decide⟩,Int.le_refl 0,by decide⟩
theorem vL:∀(l l':List gU) (b:List Int),l.map (·.1)=l'.map (·.1)→l.foldl sz b=l'.foldl sz b
 |[],[],_,_=>rfl
 |[],_::_,_,h=>by cases h
 |_::_,[],_,h=>by cases h
 |x::l,y::l',b,h=>by
  rw[List.map_cons,List.map_cons,List.cons.injEq]at h
  have e:sz b x=sz b y:=by unfold sz;rw[h.1]
  rw[List.foldl_cons,List.foldl_cons,e,vL l l' _ h.2]
theorem zQ{l l':List gU}(t:List fR×Int×Unit)(h:l.map (·.1)=l'.map (·.1)):mq (l,t)=mq (l',t):=by
 have hl:l.length=l'.length:=by have:=congrArg List.length h;simpa using this
 unfold mq
 simp only[hl]
 rw[vL l l' _ h]
theorem vU:∀(l l':List gU) (m:List (bX×Bool)),l.map (·.1)=l'.map (·.1)→ot m l=true→(∀x∈l',lX x.2.1=true)→ot m l'=true
 |[],[],_,_,_,_=>rfl
 |[],_::_,_,h,_,_=>by cases h
 |_::_,[],_,h,_,_=>by cases h
 |x::l,y::l',m,h,hi,hw=>by
  rw[List.map_cons,List.map_cons,List.cons.injEq]at h
  rw[ot,Bool.and_eq_true,Bool.and_eq_true]at hi ⊢
  have hx:=hi.1.2
  unfold rj at hx
  rw[Bool.and_eq_true]at hx
  refine⟨⟨?_,?_⟩,?_⟩
  ·have:=hi.1.1
   unfold pN at this ⊢
   rw[←h.1]
   exact this
  ·unfold rj
   rw[←h.1,hx.1,hw y List.mem_cons_self]
   rfl
  ·rw[←h.1]
   exact vU l l' _ h.2 hi.2 fun z hz=>hw z (List.mem_cons_of_mem _ hz)
theorem BY{l l':List gU}{t:List fR×Int×Unit}(h:l.map (·.1)=l'.map (·.1))(hok:fA (l,t)=true)(hw:∀x∈l',lX x.2.1=true):fA (l',t)=true:=by
 have hl:l.length=l'.length:=by have:=congrArg List.length h;simpa using this
 unfold fA uV at hok ⊢
 rw[Bool.and_eq_true,Bool.and_eq_true]at hok ⊢
 simp only[hl]at hok
 exact⟨hok.1,vU l l' _ h hok.2.1 hw,hok.2.2⟩
theorem yU{l l':List gU}{t:List fR×Int×Unit}(h:l.map (·.1)=l'.map (·.1))(h1:fA (l,t)=true)(h2:fA (l',t)=true):iK (l',t)=iK (l,t):=by
 unfold iK
 rw[h1,h2,zQ t h]
theorem xY{l l':List gU}{t:List fR×Int×Unit}(h:l.map (·.1)=l'.map (·.1))(h1:fA (l,t)=true)(h2:fA (l',t)=true):bu (l',t)=bu (l,t):=by
 unfold bu
 rw[h1,h2]
 exact h.symm
theorem Bj{l l':List gU}{t:List fR×Int×Unit}(h:l.map (·.1)=l'.map (·.1))(h1:fA (l,t)=true)(h2:fA (l',t)=true):dG (l',t)=dG (l,t):=by
 unfold dG
 rw[h1,h2,yU h h1 h2]
def qi(t:eI)(k:Nat)(w:sY):eI:=(t.1.set k ((nth ik t.1 k).1,w,()),t.2)
theorem oY(l:List gU)(k:Nat)(w:sY)(h:k < l.length):l.map (·.1)=(l.set k ((nth ik l k).1,w,())).map (·.1):=by
 have n1:nth ik l k=l[k]:=du (t:=ik) h
 rw[n1,List.map_set]
 have e:(l[k].1:bX)=(l.map (·.1))[k]'(by rw[List.length_map];exact h):=by rw[List.getElem_map]
 show _=(l.map (·.1)).set k l[k].1
 rw[e,List.set_getElem_self]
theorem wJ{l:List gU}{k:Nat}{w:sY}{x:gU}(h:k < l.length)(hx:x∈l.set k ((nth ik l k).1,w,())):x∈l∨(x.1=l[k].1∧x.2.1=w):=by
 have n1:nth ik l k=l[k]:=du (t:=ik) h
 rw[n1]at hx
 rcases List.mem_or_eq_of_mem_set hx with h1 | h1
 ·exact .inl h1
 ·exact .inr ⟨by rw[h1],by rw[h1]⟩
theorem qC{t:eI}{k:Nat}{w:sY}(h:k < t.1.length)(hok:fA t=true)(hw:lX w=true):fA (qi t k w)=true:=by
 obtain⟨_,b1,_⟩:=iH hok
 refine BY (l:=t.1) (oY t.1 k w h) hok fun x hx=> ?_
 rcases wJ h hx with h1 | h1
 ·have:=ou _ _ b1 x h1
  unfold rj at this
  rw[Bool.and_eq_true]at this
  exact this.2
 ·rw[h1.2];exact hw
theorem D1{t:eI}{k:Nat}{w:sY}(h:k < t.1.length)(hv:nV t)(hu:w7 w)(hl:w.2.1.length≤9223372036854775807):nV (qi t k w):=by
 refine⟨⟨hv.1.1,by show(t.1.set k _).length≤_;rw[List.length_set];exact hv.1.2.1,hv.1.2.2⟩,fun x hx=> ?_,hv.2.2⟩
 rcases wJ h hx with h1 | h1
 ·exact hv.2.1 x h1
 ·refine⟨?_,by rw[h1.2];exact hu,by rw[h1.2];exact hl⟩
  rw[h1.1]
  exact(hv.2.1 _ (List.getElem_mem h)).1
theorem CS{t:eI}{k:Nat}{w:sY}(h:k < t.1.length)(hok:fA t=true)(hw:lX w=true):iK (qi t k w)=iK t∧bu (qi t k w)=bu t∧dG (qi t k w)=dG t:=
 ⟨yU (l:=t.1) (oY t.1 k w h) hok (qC h hok hw),xY (l:=t.1) (oY t.1 k w h) hok (qC h hok hw),Bj (l:=t.1) (oY t.1 k w h) hok (qC h hok hw)⟩
def sU(t:eI)(br:Int)(ks:List Int)(sc:Int):sY:=(br,ks.map (fun k=>fM k (iK t)),sc,())
theorem BK(t:eI)(i br:Int)(ks:List Int)(sc:Int):BJ t i br ks sc=if my t i br ks then(qi t i.toNat (sU t br ks sc),0) else(([],[],0,()),1):=rfl
theorem rY{t:eI}{i br:Int}{ks:List Int}(h:my t i br ks=true):fA t=true∧(0≤i∧i < t.1.length∧0≤br∧br < 4∧ks.length≤12)∧∀k∈ks,k < 2305843009213688669∧k≠0:=by
 unfold my at h
 simp only[Bool.and_eq_true,decide_eq_true_eq,Bool.not_eq_true']at h
 refine⟨h.1,h.2.1,fun k hk=> ?_⟩
 have:=h.2.2
 rw[List.any_eq_false]at this
 have:=this k hk
 unfold oa at this
 simpa using this
theorem CT{t:eI}{i br:Int}{ks:List Int}(sc:Int)(h:my t i br ks=true):lX (sU t br ks sc)=true:=by
 have e:=(rY h).2.1
 unfold lX sU
 rw[bf ⟨e.2.2.1,e.2.2.2.1⟩,bf (by rw[List.length_map];exact e.2.2.2.2)]
 rfl
theorem D4(t:eI)(br:Int)(ks:List Int){sc:Int}(h:gX sc):w7 (sU t br ks sc):=⟨fun s hs=>by
  obtain⟨k,_,rfl⟩:=List.mem_map.1 (show s∈ks.map fun k=>fM k (iK t) from hs)
  exact BI k _,h⟩
theorem BL{t:eI}{i br sc:Int}{ks:List Int}(hv:nV t)(h:my t i br ks=true)(hs:gX sc):
  fA (qi t i.toNat (sU t br ks sc))=true∧nV (qi t i.toNat (sU t br ks sc))∧iK (qi t i.toNat (sU t br ks sc))=iK t∧bu (qi t i.toNat (sU t br ks sc))=bu t∧dG (qi t i.toNat (sU t br ks sc))=dG t:=by
 obtain⟨hok,e,_⟩:=rY h
 have hk:i.toNat < t.1.length:=by omega
 have hw:=CT sc h
 exact⟨qC hk hok hw,D1 hk hv (D4 t br ks hs) (by show(ks.map _).length≤_;rw[List.length_map];omega),CS hk hok hw⟩
set_option synthInstance.maxSize 5000
def Fu(r:En):Prop:=r.1.length≤1000000000∧Bytes r.1
set_option synthInstance.maxSize 5000
set_option synthInstance.maxSize 5000
structure Gl(b:jG):Prop where
 len:b.1.length≤12
 af:w3 b.2.1
 dl:w3 b.2.2.1
set_option synthInstance.maxSize 5000
set_option synthInstance.maxSize 5000
set_option synthInstance.maxSize 5000
def Ey(r:En):Prop:=Fu r∧(r.2.1=true→r.1=[])
def Ov(r r':En)(e:List Int):Prop:=Ey r'∧(r'.2.1=false→r.2.1=false∧r.1=e++r'.1)
theorem Ov.trans{r r1 r2:En}{e1 e2:List Int}(h1:Ov r r1 e1)(h2:Ov r1 r2 e2):Ov r r2 (e1++e2):=
 ⟨h2.1,fun h=>⟨(h1.2 (h2.2 h).1).1,by rw[(h1.2 (h2.2 h).1).2,(h2.2 h).2,List.append_assoc]⟩⟩
theorem Ov.of{r r':En}{e e':List Int}(h:Ov r r' e)(he:r'.2.1=false→e=e'):Ov r r' e':=⟨h.1,fun h'=>by rw[←he h'];exact h.2 h'⟩
theorem Ov.refl{r:En}(h:Ey r):Ov r r []:=⟨h,fun h'=>⟨h',rfl⟩⟩
set_option synthInstance.maxSize 5000
set_option synthInstance.maxSize 5000
set_option synthInstance.maxSize 5000
section
variable {β:Type} {kt:Ty}
theorem qp(hc:kt.comp=true)(o o':kt.den)(v:β):∀l:List (kt.den×β),bF kt o (eh kt o' v l)=if kt.beq o o'=true then some v else bF kt o l
 |[]=>by rw[zH,eF,mM]
 |p::l=>by
  rw[nK]
  by_cases h:kt.beq o' p.1=true
  ·rw[if_pos h,eF,eF]
   have e:=beq_eq kt _ _ hc h
   by_cases h2:kt.beq o o'=true
   ·rw[if_pos h2,if_pos h2]
   ·rw[if_neg h2,if_neg h2,if_neg (by rw[←e];exact h2)]
  ·rw[if_neg h,eF,eF,qp hc o o' v l]
   by_cases h3:kt.beq o p.1=true
   ·rw[if_pos h3,if_pos h3,if_neg]
    intro h4
    apply h
    rw[←beq_eq kt _ _ hc h4]
    exact h3
   ·rw[if_neg h3,if_neg h3]
theorem yz(hc:kt.comp=true)(o o':kt.den):∀ {l:List (kt.den×β)},(l.map (·.1)).Nodup→bF kt o (fj kt o' l)=if kt.beq o o'=true then none else bF kt o l
 |[],_=>by rw[zG,mM];split <;> rfl
 |p::l,hn=>by
  rw[List.map_cons,List.nodup_cons]at hn
  rw[lG]
  by_cases h:kt.beq o' p.1=true
  ·rw[if_pos h,eF]
   have e:=beq_eq kt _ _ hc h
   by_cases h2:kt.beq o o'=true
   ·rw[if_pos h2]
    have e2:=beq_eq kt _ _ hc h2
    cases hg:bF kt o l with
    |none=>rfl
    |some v=>exact absurd (List.mem_map.2 ⟨_,(fw hc hn.2).1 hg,rfl⟩) (by rw[e2,e];exact hn.1)
   ·rw[if_neg h2,if_neg (by rw[←e];exact h2)]
  ·rw[if_neg h,eF,eF,yz hc o o' hn.2]
   by_cases h3:kt.beq o p.1=true
   ·rw[if_pos h3,if_pos h3,if_neg]
    intro h4
    apply h
    rw[←beq_eq kt _ _ hc h4]
    exact h3
   ·rw[if_neg h3,if_neg h3]
theorem get_none(hc:kt.comp=true){o:kt.den}{l:List (kt.den×β)}(hn:(l.map (·.1)).Nodup):bF kt o l=none↔o ∉ l.map (·.1):=by
 constructor
 ·intro h hm
  obtain⟨p,hp,e⟩:=List.mem_map.1 hm
  have e:p.1=o:=e
  have:=(fw hc hn (x:=o) (v:=p.2)).2 (by rw[←e];exact hp)
  rw[h]at this;cases this
 ·intro h
  cases hg:bF kt o l with
  |none=>rfl
  |some v=>exact absurd (List.mem_map.2 ⟨_,(fw hc hn).1 hg,rfl⟩) h
theorem ng{l:List (kt.den×β)}(hn:(l.map (·.1)).Nodup):l.Nodup:=by
 induction l with
 |nil=>exact List.nodup_nil
 |cons p l ih=>
  rw[List.map_cons,List.nodup_cons]at hn
  exact List.nodup_cons.2 ⟨fun h=>hn.1 (List.mem_map.2 ⟨p,h,rfl⟩),ih hn.2⟩
theorem wB(hc:kt.comp=true){l l':List (kt.den×β)}(hn:(l.map (·.1)).Nodup)(hn':(l'.map (·.1)).Nodup)(h:∀o,bF kt o l=bF kt o l'):l.Perm l':=by
 rw[List.perm_ext_iff_of_nodup (ng hn) (ng hn')]
 rintro⟨o,v⟩
 rw[←fw hc hn,←fw hc hn',h]
end
theorem mQ(a b:bX):(Ty.beq bz a b=true)↔a=b:=⟨beq_eq bz a b rfl,fun h=>by rw[h];exact beq_refl bz b rfl⟩
abbrev At:=List (bX×dJ)
abbrev dX(a:At):List bX:=a.map (·.1)
theorem AT(o o':bX)(v:dJ)(a:At):bF bz o (eh bz o' v a)=if o=o' then some v else bF bz o a:=by
 rw[qp eS]
 by_cases h:o=o'
 ·rw[if_pos ((mQ _ _).2 h),if_pos h]
 ·rw[if_neg (fun e=>h ((mQ _ _).1 e)),if_neg h]
theorem Cn(o o':bX){a:At}(hn:(dX a).Nodup):bF bz o (fj bz o' a)=if o=o' then none else bF bz o a:=by
 rw[yz eS _ _ hn]
 by_cases h:o=o'
 ·rw[if_pos ((mQ _ _).2 h),if_pos h]
 ·rw[if_neg (fun e=>h ((mQ _ _).1 e)),if_neg h]
theorem rh{o:bX}{v:dJ}{a:At}(hn:(dX a).Nodup):(dX (eh bz o v a)).Nodup:=pV eS hn
theorem j6{o:bX}{a:At}(hn:(dX a).Nodup):(dX (fj bz o a)).Nodup:=mn eS hn
theorem Da{a a':At}(hn:(dX a).Nodup)(hn':(dX a').Nodup)(h:∀o,bF bz o a=bF bz o a'):a.Perm a':=wB eS hn hn' h
theorem Bx{a a':At}(hn:(dX a).Nodup)(h:a'.Perm a)(o:bX):bF bz o a'=bF bz o a:=rK eS hn h
theorem yf{o:bX}{c:dJ}{a:At}(hn:(dX a).Nodup)(hg:bF bz o a=some c):a.Perm ((o,c)::fj bz o a):=by
 refine Da hn ?_ fun x=> ?_
 ·show(o::dX (fj bz o a)).Nodup
  refine List.nodup_cons.2 ⟨?_,j6 hn⟩
  have:=(get_none eS (j6 (o:=o) hn)).1 (by rw[Cn o o hn,if_pos rfl])
  exact this
 ·rw[eF,Cn x o hn]
  by_cases h:x=o
  ·subst h;rw[if_pos ((mQ _ _).2 rfl),hg]
  ·rw[if_neg (fun e=>h ((mQ _ _).1 e)),if_neg h]
theorem pe(o:bX)(l:List bX)(a:At):j2 (o::l) a=j2 l (fj bz o a):=rfl
theorem nw:∀(l:List bX) {a:At},(dX a).Nodup→(dX (j2 l a)).Nodup
 |[],_,h=>h
 |o::l,a,h=>by rw[pe];exact nw l (j6 h)
theorem rb(x:bX):∀(l:List bX) {a:At},(dX a).Nodup→bF bz x (j2 l a)=if x∈l then none else bF bz x a
 |[],a,_=>by rw[if_neg (by simp)];rfl
 |o::l,a,h=>by
  rw[pe,rb x l (j6 h),Cn x o h]
  by_cases h1:x∈l
  ·rw[if_pos h1,if_pos (List.mem_cons_of_mem _ h1)]
  ·rw[if_neg h1]
   by_cases h2:x=o
   ·rw[if_pos h2,if_pos (by rw[h2];exact List.mem_cons_self ..)]
   ·rw[if_neg h2,if_neg (by simp[h1,h2])]
theorem jU(h:Int)(o:bX)(l:List bX)(x:fR)(xs:List fR)(a:At):nm h (o::l) (x::xs) a=nm h l xs (eh bz o (x,(h,())) a):=rfl
theorem qF(h:Int):∀(l:List bX) (xs:List fR) {a:At},(dX a).Nodup→(dX (nm h l xs a)).Nodup
 |[],[],_,hn=>hn
 |[],_::_,_,hn=>hn
 |_::_,[],_,hn=>hn
 |o::l,x::xs,a,hn=>by rw[jU];exact qF h l xs (rh hn)
theorem vQ(h:Int)(x:bX):∀(l:List bX) (xs:List fR) (a:At),x ∉ l→bF bz x (nm h l xs a)=bF bz x a
 |[],[],_,_=>rfl
 |[],_::_,_,_=>rfl
 |_::_,[],_,_=>rfl
 |o::l,y::xs,a,hx=>by
  rw[jU,vQ h x l xs _ (fun e=>hx (List.mem_cons_of_mem _ e)),AT,if_neg (fun e=>hx (by rw[e];exact List.mem_cons_self ..))]
theorem ra(h:Int):∀(l:List bX) (xs:List fR) (a:At),l.Nodup→∀(k:Nat) (hk:k < l.length) (hk2:k < xs.length),bF bz l[k] (nm h l xs a)=some (xs[k],(h,()))
 |[],_,_,_,k,hk,_=>by simp at hk
 |_::_,[],_,_,k,_,hk=>by simp at hk
 |o::l,y::xs,a,hn,k,hk,hk2=>by
  rw[List.nodup_cons]at hn
  rw[jU]
  cases k with
  |zero=>
   show bF bz o _=some (y,(h,()))
   rw[vQ h o l xs _ hn.1,AT,if_pos rfl]
  |succ k=>
   simp only[List.getElem_cons_succ]
   exact ra h l xs _ hn.2 k (by simpa using hk) (by simpa using hk2)
def jA(a:At)(l:List bX):Int:=(l.map fun o=>((bF bz o a).getD tV).1.1).sum
theorem vF:∀(l:List bX) {a:At},(dX a).Nodup→l.Nodup→(∀o∈l,(bF bz o a).isSome=true)→fq (j2 l a)=fq a - jA a l∧(j2 l a).length+l.length=a.length
 |[],a,_,_,_=>by simp[j2,jA]
 |o::l,a,hn,hl,ht=>by
  rw[List.nodup_cons]at hl
  obtain⟨c,hc⟩:=Option.isSome_iff_exists.1 (ht o (List.mem_cons_self ..))
  have hg:∀x∈l,bF bz x (fj bz o a)=bF bz x a:=fun x hx=>by
   rw[Cn x o hn,if_neg (fun e=>hl.1 (by rw[←e];exact hx))]
  obtain⟨h1,h2⟩:=vF l (j6 (o:=o) hn) hl.2 fun x hx=>by rw[hg x hx];exact ht x (List.mem_cons_of_mem _ hx)
  have hp:=yf hn hc
  have h3:=mE hp
  have h4:=hp.length_eq
  have h5:jA (fj bz o a) l=jA a l:=by
   unfold jA
   congr 1
   exact List.map_congr_left fun x hx=>by rw[hg x hx]
  rw[fu]at h3
  rw[List.length_cons]at h4
  rw[pe,h1,h5,List.length_cons]
  have h6:jA a (o::l)=c.1.1+jA a l:=by simp[jA,hc]
  rw[h6]
  exact⟨by have h3:fq a=c.1.1+fq (fj bz o a):=h3;omega,by omega⟩
theorem mo(x:fR)(xs:List fR):fx (x::xs)=x.1+fx xs:=by simp[fx]
theorem vc(h:Int):∀(l:List bX) (xs:List fR) {a:At},(dX a).Nodup→l.Nodup→l.length=xs.length→(∀o∈l,bF bz o a=none)→fq (nm h l xs a)=fq a+fx xs∧(nm h l xs a).length=a.length+l.length
 |[],[],a,_,_,_,_=>by simp[nm,fx]
 |[],_::_,_,_,_,he,_=>by simp at he
 |_::_,[],_,_,_,he,_=>by simp at he
 |o::l,x::xs,a,hn,hl,he,ht=>by
  rw[List.nodup_cons]at hl
  have h0:=(get_none eS hn).1 (ht o (List.mem_cons_self ..))
  have e:eh bz o (x,(h,())) a=a++ [(o,(x,(h,())))]:=ky eS h0
  obtain⟨h1,h2⟩:=vc h l xs (rh (o:=o) (v:=(x,(h,()))) hn) hl.2 (by simpa using he) fun y hy=>by
   rw[AT,if_neg (fun e=>hl.1 (by rw[←e];exact hy))];exact ht y (List.mem_cons_of_mem _ hy)
  rw[jU,h1,h2,e,vh,mo,List.length_append]
  simp only[fq,List.map_cons,List.map_nil,List.sum_cons,List.sum_nil,List.length_cons,List.length_nil]
  omega
theorem rr:∀(l:List gU) (m:List (bX×Bool)),ot m l=true→(l.map (·.1)).Nodup∧∀x∈l,bF bz x.1 m≠some true
 |[],_,_=>⟨List.nodup_nil,fun _ h=>by cases h⟩
 |x::l,m,h=>by
  rw[ot,Bool.and_eq_true,Bool.and_eq_true]at h
  obtain⟨⟨h1,_⟩,h2⟩:=h
  obtain⟨h3,h4⟩:=rr l _ h2
  have hs:∀y∈l,bF bz y.1 (eh bz x.1 true m)≠some true:=h4
  have hne:∀y∈l,y.1≠x.1:=fun y hy e=>hs y hy (by rw[qp eS,if_pos ((mQ _ _).2 e)])
  refine⟨?_,fun y hy=> ?_⟩
  ·rw[List.map_cons,List.nodup_cons]
   refine⟨fun hm=> ?_,h3⟩
   obtain⟨y,hy,e⟩:=List.mem_map.1 hm
   exact hne y hy e
  ·rcases List.mem_cons.1 hy with rfl | hy
   ·intro e
    unfold pN at h1
    rw[e]at h1
    cases h1
   ·have:=hs y hy
    rw[qp eS,if_neg (fun e=>hne y hy ((mQ _ _).1 e))]at this
    exact this
theorem uQ(t:eI):(bu t).Nodup:=by
 unfold bu
 split
 ·rename_i h
  exact(rr _ _ (iH h).2.1).1
 ·exact List.nodup_nil
theorem nJ(t:eI):(dG t).Nodup:=by
 unfold dG
 split
 ·unfold lf
  refine List.Pairwise.map _ (fun a b hne e=> ?_) (List.nodup_range' (s:=0) (n:=t.2.1.length) (step:=1))
  have:(a:Int)=b:=congrArg (fun o:bX=>o.2.1) e
  exact hne (by omega)
 ·exact List.nodup_nil
theorem rq{h:Int}{id:List Int}{a:At}:∀(l:List gU) (f0 f:Int),gz h id a l f0= .inr f→(∀o∈l.map (·.1),(bF bz o a).isSome=true)∧f=f0+jA a (l.map (·.1))
 |[],f0,f,e=>by simp only[gz,Sum.inr.injEq]at e;subst e;simp[jA]
 |x::l,f0,f,e=>by
  simp only[gz]at e
  cases hg:bF bz x.1 a with
  |none=>rw[hg]at e;cases e
  |some c=>
   rw[hg]at e
   simp only at e
   split at e
   ·cases e
   ·obtain⟨h1,h2⟩:=rq l _ _ e
    refine⟨fun o ho=> ?_,?_⟩
    ·rw[List.map_cons]at ho
     rcases List.mem_cons.1 ho with rfl | ho
     ·rw[hg];rfl
     ·exact h1 o ho
    ·rw[h2]
     simp only[jA,List.map_cons,List.sum_cons,hg,Option.getD_some]
     omega
structure eN(t:eI)(h:Int)(a:At)(fY:Int):Prop where
 ok:fA t=true
 h1:1≤h
 h2:h≤1048576
 ins:∃f,gz h (iK t) a t.1 0= .inr f∧fY=f - fx t.2.1
 there:∀o∈bu t,(bF bz o a).isSome=true
 made:∀o∈dG t,bF bz o a=none
 EK:fY=jA a (bu t) - fx t.2.1
 pos:0≤fY
theorem og{t:eI}{h:Int}{a:At}(e:(dB t h a).2=0):eN t h a (dB t h a).1:=by
 obtain⟨hok,h1,h2,f,hi,hm,hp,hc⟩:=tc e
 obtain⟨i1,i2⟩:=rq _ _ _ hi
 have hs:bu t=t.1.map (·.1):=by unfold bu;rw[if_pos hok]
 rw[hc]
 refine⟨hok,h1,h2,⟨f,hi,rfl⟩,by rw[hs];exact i1,fun o ho=> ?_,by rw[hs,i2];show 0+_ - _=_;omega,hp⟩
 have:=List.any_eq_false.1 hm o ho
 unfold fI at this
 cases hg:bF bz o a with
 |none=>rfl
 |some c=>rw[hg]at this;simp at this
section
variable {t:eI} {h fY:Int} {a:At}
theorem eN.yS(hc:eN t h a fY)(ha:(dX a).Nodup){o:bX}(ho:o∈bu t):bF bz o (cJ t h a)=none:=by
 have hm:o ∉ dG t:=fun e=>by
  have:=hc.there o ho
  rw[hc.made o e]at this;cases this
 unfold cJ
 rw[vQ h o _ _ _ hm,rb o _ ha,if_pos ho]
theorem eN.new(hc:eN t h a fY){k:Nat}(hk:k < (dG t).length)(hk2:k < t.2.1.length):bF bz (dG t)[k] (cJ t h a)=some (t.2.1[k],(h,())):=by
 unfold cJ
 exact ra h _ _ _ (nJ t) k hk hk2
theorem ln(ha:(dX a).Nodup){o:bX}(h1:o ∉ bu t)(h2:o ∉ dG t):bF bz o (cJ t h a)=bF bz o a:=by
 unfold cJ
 rw[vQ h o _ _ _ h2,rb o _ ha,if_neg h1]
theorem gv(ha:(dX a).Nodup):(dX (cJ t h a)).Nodup:=qF h _ _ (nw _ ha)
theorem eN.sum(hc:eN t h a fY)(ha:(dX a).Nodup):fq (cJ t h a)=fq a - fY∧(cJ t h a).length+t.1.length=a.length+t.2.1.length:=by
 obtain⟨d1,d2⟩:=vF (bu t) ha (uQ t) hc.there
 obtain⟨e1,e2⟩:=vc h (dG t) t.2.1 (nw (bu t) ha) (nJ t) (gC hc.ok) fun o ho=>by
  rw[rb o _ ha];split
  ·rfl
  ·exact hc.made o ho
 have hf:=hc.EK
 have hl:=mj hc.ok
 have hm:=gC hc.ok
 unfold cJ
 rw[e1,e2,d1]
 exact⟨by omega,by omega⟩
theorem eN.iL(hc:eN t h a fY)(ha:qD a)(hv:nV t):qD (cJ t h a):=by
 refine⟨gv ha.1,fun p hp=> ?_⟩
 have hg:=(fw eS (gv (t:=t) (h:=h) ha.1) (x:=p.1) (v:=p.2)).2 hp
 by_cases h2:p.1∈dG t
 ·obtain⟨k,hk,e⟩:=List.getElem_of_mem h2
  have hk2:k < t.2.1.length:=by rw[←gC hc.ok];exact hk
  rw[←e,hc.new hk hk2]at hg
  have hg:=(Option.some.inj hg).symm
  have ho:=iT _ _ (iH hc.ok).2.2 _ (List.getElem_mem hk2)
  have hu:=hv.1.1 _ (List.getElem_mem hk2)
  have h1:=hc.h1
  have h3:=hc.h2
  refine⟨?_,?_⟩
  ·rw[←e]
   have hm:dG t=lf (iK t) 0 t.2.1.length:=by unfold dG;rw[if_pos hc.ok]
   simp only[hm,lf,List.getElem_map]
   have:=(yh (t:=t))
   exact⟨this.1,fun x hx=>this.2 x hx⟩
  ·rw[hg]
   exact⟨ho.2,hu.1,ho.1.1,ho.1.2,by show 0≤h;omega,h3⟩
 ·by_cases h1:p.1∈bu t
  ·rw[hc.yS ha.1 h1]at hg;cases hg
  ·rw[ln ha.1 h1 h2]at hg
   exact ha.2 p ((fw eS ha.1).1 hg)
theorem eN.again(hc:eN t h a fY)(ha:(dX a).Nodup)(h':Int)(h1:1≤h')(h2:h'≤1048576):dB t h' (cJ t h a)=(0,5):=by
 unfold dB
 rw[if_pos ⟨hc.ok,h1,h2⟩]
 have hl:=(iH hc.ok).1.1
 have hs:bu t=t.1.map (·.1):=by unfold bu;rw[if_pos hc.ok]
 cases ht:t.1 with
 |nil=>rw[ht]at hl;simp at hl
 |cons x l=>
  have hg:=hc.yS ha (o:=x.1) (by rw[hs,ht];simp)
  simp only[gz,hg]
end
end Go.Ab
namespace Go.Ab
open Go.Proofs
set_option maxRecDepth 100000
set_option linter.unusedVariables false
set_option linter.unusedSimpArgs false
set_option synthInstance.maxSize 5000
theorem B9(k:Int):gX (dP k):=(wG _ _).u
def mT:List Int:=[152,45,158,62,185,150,245,89,230,51,244,209,148,222,243,118,29,144,159,90,59,100,125,26,133,31,234,214,124,50,201,209]
theorem s3:fM 3 mT=(2066670005889522986,1913675330412042729,()):=by decide+kernel
set_option synthInstance.maxSize 5000
theorem u0:gX 0:=⟨Int.le_refl 0,by decide⟩
theorem xF{x:Int}{l:List Int}(h:gX x)(hl:l6 l):l6 (x::l):=fun p hp=>by
 rcases List.mem_cons.1 hp with rfl | hp
 ·exact h
 ·exact hl p hp
theorem zw:l6 []:=fun p hp=>by cases hp
theorem CC{ks:List Int}(h:l6 ks):Af (y4 ks):=fun b hb=>by
 have hb:b∈ [(ks,(0:Int),(0:Int),(0:Int),())]:=hb
 rw[List.mem_singleton]at hb
 subst hb
 exact⟨h,u0⟩
theorem Fk:qd 0=true:=rfl
theorem Cb(ks:List Int)(a d:Int)(h:ks.length≤12):mS (ks,a,d,0,())=(ks.all kL && (qd a && qd d)):=by
 have e:mS (ks,a,d,0,())=(decide (ks.length≤12) && (ks.all kL && (qd a && (qd d && true)))):=rfl
 rw[e,bf h,Bool.true_and,Bool.and_true]
theorem Bc(ks:List Int)(h:ks.length≤12):ji (y4 ks)=ks.all kL:=by
 have e:ji (y4 ks)=((mS (ks,0,0,0,()) && true) && true):=rfl
 rw[e,Cb _ _ _ h,Fk,Bool.and_true,Bool.and_true,Bool.and_true,Bool.and_true]
def Bv(b:jG)(sg:List Sg)(s:Int)(m:List Int)(height age:Int):Int:=
 if height < b.2.1∨age < b.2.2.1 then 11
 else if b.2.2.2.1≠0∧dP s≠b.2.2.2.1 then 23
 else if sg.length≠b.1.length then 7
 else if jB m b.1 sg then 0 else 7
theorem CK{l:Lk}{i:Nat}{b:jG}(hok:ji l=true)(hi:i < l.1.length)(hb:l.1[i]=b)(sg:List Sg)(s:Int)(m:List Int)(h a:Int):kB l ((i:Int),sg,s,()) m h a=Bv b sg s m h a:=by
 have n1:nth (.pair (.slice (.int .u64)) (.pair (.int .i64) (.pair (.int .i64) (.pair (.int .u64) .unit)))) l.1 i=l.1[i]:=du (t:=(.pair (.slice (.int .u64)) (.pair (.int .i64) (.pair (.int .i64) (.pair (.int .u64) .unit))))) hi
 unfold kB
 rw[if_neg (by
  intro hh
  rcases hh with hh | hh | hh
  ·rw[hok]at hh;cases hh
  ·have hh:(i:Int) < 0:=hh
   omega
  ·have hh:(i:Int)≥l.1.length:=hh
   omega)]
 show(if h < (nth (.pair (.slice (.int .u64)) (.pair (.int .i64) (.pair (.int .i64) (.pair (.int .u64) .unit)))) l.1 i).2.1∨a < (nth (.pair (.slice (.int .u64)) (.pair (.int .i64) (.pair (.int .i64) (.pair (.int .u64) .unit)))) l.1 i).2.2.1 then 11 else if(nth (.pair (.slice (.int .u64)) (.pair (.int .i64) (.pair (.int .i64) (.pair (.int .u64) .unit)))) l.1 i).2.2.2.1≠0∧dP s≠(nth (.pair (.slice (.int .u64)) (.pair (.int .i64) (.pair (.int .i64) (.pair (.int .u64) .unit)))) l.1 i).2.2.2.1 then 23 else if sg.length≠(nth (.pair (.slice (.int .u64)) (.pair (.int .i64) (.pair (.int .i64) (.pair (.int .u64) .unit)))) l.1 i).1.length then 7 else if jB m (nth (.pair (.slice (.int .u64)) (.pair (.int .i64) (.pair (.int .i64) (.pair (.int .u64) .unit)))) l.1 i).1 sg then 0 else 7)=_
 rw[n1,hb]
 rfl
theorem sw(m:List Int):∀ks:List Int,(∀k∈ks,0 < k∧k < 2305843009213688669)→jB m (ks.map dP) (ks.map fun k=>fM k m)=true
 |[],_=>rfl
 |k::ks,h=>by
  have hk:=h k List.mem_cons_self
  show(jZ (dP k) m 1 (fM k m) && jB m (ks.map dP) (ks.map fun k=>fM k m))=true
  rw[CU k m hk.1 hk.2,sw m ks fun x hx=>h x (List.mem_cons_of_mem _ hx)]
  rfl
theorem uK(ks:List Int)(hk:∀k∈ks,0 < k∧k < 2305843009213688669)(af dl sc s:Int)(m:List Int)(h a:Int)(hs:sc=0∨dP s=sc):
  Bv (ks.map dP,af,dl,sc,()) (ks.map fun k=>fM k m) s m h a=if h < af∨a < dl then 11 else 0:=by
 have e:Bv (ks.map dP,af,dl,sc,()) (ks.map fun k=>fM k m) s m h a=if h < af∨a < dl then 11 else if sc≠0∧dP s≠sc then 23 else if(ks.map fun k=>fM k m).length≠(ks.map dP).length then 7 else if jB m (ks.map dP) (ks.map fun k=>fM k m) then 0 else 7:=rfl
 rw[e,sw m ks hk,if_neg (c:=sc≠0∧dP s≠sc) (by rintro⟨h1,h2⟩;exact hs.elim h1 h2),if_neg (c:=(ks.map fun k=>fM k m).length≠(ks.map dP).length) (by rw[List.length_map,List.length_map];exact fun x=>x rfl)]
 rfl
theorem E0{k:Int}(h:0 < k∧k < 2305843009213688669):∀x∈ [k],0 < x∧x < 2305843009213688669:=fun x hx=>by rw[List.mem_singleton]at hx;subst hx;exact h
set_option synthInstance.maxSize 5000
def z32:List Int:=List.replicate 32 0
def sA:Lk:=y4 [dP 7]
def sB:eI:=([((z32,((0:Int),())),(((0:Int),(([]:List Sg),((0:Int),()))),()))],([((90:Int),(sA,()))],((0:Int),())))
def kT:eI:=qi sB (Int.toNat 0) (sU sB 0 [7] 0)
def iZ:At:=[pL 0 ((100:Int),(sA,()))]
theorem D8:my sB 0 0 [7]=true:=by decide+kernel
theorem FG:¬iK sB=z32:=by decide+kernel
theorem b7:gX (dP 7):=B9 7
theorem DR:Af sA:=CC (xF b7 zw)
theorem Bf:ji sA=true:=by
 unfold sA
 rw[Bc [dP 7] (by decide)]
 simp only[List.all_cons,List.all_nil,ru,Bool.and_true]
theorem Ge:nV sB:=by
 refine⟨⟨fun o ho=> ?_,by decide,by decide⟩,fun x hx=> ?_,by decide⟩
 ·have ho:o∈ [((90:Int),(sA,()))]:=ho
  rw[List.mem_singleton]at ho
  subst ho
  exact⟨DR,by show 1≤_;decide⟩
 ·have hx:x∈ [((z32,((0:Int),())),(((0:Int),(([]:List Sg),((0:Int),()))),()))]:=hx
  rw[List.mem_singleton]at hx
  subst hx
  refine⟨⟨by show z32.length=32;unfold z32;rw[List.length_replicate],fun y hy=> ?_⟩,⟨fun s hs=>(by cases hs),by show(0:Int)≤0;decide,by show(0:Int) < 18446744073709551616;decide⟩,Nat.zero_le _⟩
  have hy:y∈List.replicate 32 (0:Int):=hy
  obtain rfl:=(List.mem_replicate.1 hy).2
  exact⟨by decide,by decide⟩
theorem E8:gX 0:=⟨by decide,by decide⟩
theorem mZ:fA kT=true∧nV kT∧iK kT=iK sB∧bu kT=bu sB∧dG kT=dG sB:=BL Ge D8 E8
theorem EZ:fA sB=true:=(rY D8).1
theorem E7:bu kT=[(z32,((0:Int),()))]:=by
 rw[mZ.2.2.2.1]
 unfold bu
 rw[if_pos EZ]
 rfl
theorem DT:dG kT=[(iK sB,((0:Int),()))]:=by
 rw[mZ.2.2.2.2]
 unfold dG
 rw[if_pos EZ]
 rfl
theorem FE:kT.1=[((z32,((0:Int),())),(((((0:Nat):Int),([7].map (fun k=>fM k (iK sB)),((0:Int),())))),()))]:=rfl
theorem FH(m:List Int)(h a:Int)(hh:0≤h)(ha:0≤a):kB sA (((0:Nat):Int),([7].map (fun k=>fM k m),((0:Int),()))) m h a=0:=by
 have s1:=uK [7] (E0 (k:=7) (by decide)) 0 0 0 0 m h a (.inl rfl)
 rw[if_neg (by omega)]at s1
 exact(CK (l:=sA) (i:=0) (b:=([7].map dP,0,0,0,())) Bf (by show 0 < 1;decide) rfl _ _ _ _ _).trans s1
theorem g14:bF bz (z32,((0:Int),())) iZ=some (((100:Int),(sA,())),((0:Int),())):=by
 unfold iZ pL
 rw[eF]
 exact if_pos ((mQ _ _).2 rfl)
theorem n14(m:List Int)(hm:¬m=z32):bF bz (m,((0:Int),())) iZ=none:=by
 unfold iZ pL
 rw[eF,if_neg,mM]
 intro e
 have:=(mQ _ _).1 e
 exact hm (congrArg (fun o:bX=>o.1) this)
theorem A0{h:Int}{m:List Int}{a:At}{x:gU}{c:dJ}{f:Int}(hg:bF bz x.1 a=some c)(ho:kB c.1.2.1 x.2.1 m h (h - c.2.1)=0)(hf:c.1.1=f):gz h m a [x] 0= .inr f:=by
 subst hf
 simp only[gz,hg,ho,ne_eq,not_true_eq_false,if_false,Int.zero_add]
theorem vG{o:bX}{c:dJ}:j2 [o] [(o,c)]=[]:=by
 show fj bz o [(o,c)]=[]
 rw[lG]
 exact if_pos ((mQ _ _).2 rfl)
theorem zp{o:bX}{c:dJ}{a:At}(hg:bF bz o a=some c):lT a [o]=[(o,(c,()))]:=by
 simp only[lT,hg,Option.getD_some]
theorem Co{o:bX}{c:dJ}:bF bz o [(o,c)]=some c:=by
 rw[eF]
 exact if_pos ((mQ _ _).2 rfl)
theorem Ce(h:Int)(h1:1≤h)(h2:h≤1048576):dB kT h iZ=(10,0):=by
 have hne:=FG
 have hmd:=DT
 have hin:=FE
 have hid:=mZ.2.2.1
 generalize iK sB=m at hne hmd hin hid
 unfold dB
 rw[if_pos ⟨mZ.1,h1,h2⟩,hin,hid]
 have e:gz h m iZ [((z32,((0:Int),())),(((((0:Nat):Int),([7].map (fun k=>fM k m),((0:Int),())))),()))] 0= .inr 100:=by
  simp only[gz,g14]
  exact A0 (x:=((z32,((0:Int),())),(((((0:Nat):Int),([7].map (fun k=>fM k m),((0:Int),())))),()))) (c:=(((100:Int),(sA,())),((0:Int),()))) g14 (FH m h (h - 0) (by omega) (by omega)) rfl
 rw[e,hmd]
 have n1:([(m,((0:Int),()))]:List bX).any (fI iZ)=false:=by
  simp only[List.any_cons,List.any_nil,fI,n14 m hne,Option.isSome_none,Bool.or_false]
 simp only[n1,Bool.false_eq_true,if_false]
 rfl
def sy(h:Int):At:=[((iK sB,((0:Int),())),(((90:Int),(sA,())),(h,())))]
theorem Ds(h:Int):cJ kT h iZ=sy h:=by
 unfold cJ sy
 rw[E7,DT]
 generalize iK sB=m
 have e:j2 [(z32,((0:Int),()))] iZ=[]:=by
  exact vG
 rw[e]
 rfl
theorem Ed:stepOf kT iZ=([((z32,((0:Int),())),((((100:Int),(sA,())),((0:Int),())),()))],([(iK sB,((0:Int),()))],())):=by
 unfold stepOf
 rw[E7,DT]
 rw[zp g14]
theorem F1(h:Int):yV (sy h) (stepOf kT iZ)=iZ:=by
 rw[Ed]
 unfold yV sy
 generalize iK sB=m
 have e:j2 [(m,((0:Int),()))] [((m,((0:Int),())),(((90:Int),(sA,())),(h,())))]=[]:=by
  exact vG
 rw[e]
 rfl
theorem FD(h:Int):bF bz (iK sB,((0:Int),())) (sy h)=some (((90:Int),(sA,())),(h,())):=by
 unfold sy
 generalize iK sB=m
 exact Co
theorem w9:qD iZ:=by
 refine⟨by decide,fun p hp=> ?_⟩
 have hp:p∈ [pL 0 ((100:Int),(sA,()))]:=hp
 rw[List.mem_singleton]at hp
 subst hp
 refine⟨⟨by show(List.replicate 32 (0:Int)).length=32;rw[List.length_replicate],fun x hx=> ?_⟩,Bf,DR,by show(0:Int)≤100;decide,by show(100:Int)≤_;decide,by show(0:Int)≤0;decide,by show(0:Int)≤_;decide⟩
 have hx:x∈List.replicate 32 (0:Int):=hx
 obtain rfl:=(List.mem_replicate.1 hx).2
 exact⟨by decide,by decide⟩
theorem EF(h:Int)(h1:1≤h)(h2:h≤1048576):eN kT h iZ 10:=by
 have:=og (t:=kT) (h:=h) (a:=iZ) (by rw[Ce h h1 h2])
 rw[Ce h h1 h2]at this
 exact this
theorem Fy(h:Int)(h1:1≤h)(h2:h≤1048576):qD (sy h):=by
 rw[←Ds];exact(EF h h1 h2).iL w9 mZ.2.1
theorem EX:aT.call [((100:Int),(sA,()))]=some (.inr (iZ,[])):=by
 rw[aT.run (d:=[((100:Int),(sA,()))]) (fun o ho=>by
  rw[List.mem_singleton]at ho
  subst ho
  exact⟨DR,by show 1≤_;decide,by show(100:Int)≤_;decide⟩)]
 have e:uG [((100:Int),(sA,()))]=some iZ:=by
  unfold uG
  rw[if_pos (by decide)]
  have e0:lI 0 ((100:Int),(sA,()))=true:=by
   unfold lI
   rw[Bf]
   rfl
  simp only[qg,e0,Option.map_some]
  rfl
 simp only[aT.add,aT.F,e]
theorem D5:aX.call (sB,0,0,[7],0)=some (kT,0):=by
 rw[aX.run (d:=(sB,0,0,[7],0)) ⟨Ge,fun x hx=>by rw[List.mem_singleton]at hx;subst hx;exact⟨by decide,by decide⟩,by decide⟩]
 simp only[aX.add,aX.F,BK,D8,if_true]
 rfl
def Ev:eI:=(([]:List gU),(([]:List fR),((0:Int),())))
theorem FB:nV Ev:=⟨⟨fun o ho=>(by cases ho),by decide,by decide⟩,fun x hx=>(by cases hx),by decide⟩
theorem FA(h:Int)(a:At):dB Ev h a=(0,1):=by
 have:fA Ev=false:=by decide+kernel
 unfold dB
 rw[if_neg (fun e=>by rw[this]at e;cases e.1)]
abbrev aM.D:=Unit
def aM.st:aM.D→SA:=fun _=>([],[])
abbrev aM.Y:=Bool
abbrev aM.X:=Bool
def aM.out:aM.X→aW:=fun x=>⟨.d .bool x,[],[]⟩
def aM.add:aM.D→aM.Y→aM.X:=fun _ y=>y
def aM.aC:aM.D→Prop:=fun _=>True
def aM.F:aM.D→aM.Y:=fun _=>true
noncomputable def aM.G:dH:=eT (P:=Tryz.prog) [cv.sg,eC.sg,aT.sg,aX.sg,au.sg,aB.sg,tid.sg,cO.sg,aO.sg,aG.sg,aS.sg]
noncomputable def aM.an:ee:= {}
noncomputable def aM.A:= @cT Tryz.prog aM.G aM.an 0 Tryz.f25 _ aM.st
abbrev aM.Ok:=cU @aM.A aM.aC aM.add aM.F aM.out
theorem aM.eq{R:Type}(k:aW→Option R):aM.A () k=
  ah (cv.call (7:Int)) fun x7=>
  ah (eC.call x7) fun x8=>
  ah (aT.call [((100:Int),(x8,()))]) fun x12=>
  aF (x12.isLeft) (
   ah (x12.getLeft?) fun x12l=>
   k (aM.out false)) (
   ah (x12.getRight?) fun x12r=>
   ah (aX.call (([(((List.replicate 32 (0:Int)),((0:Int),())),(((0:Int),(([]:List Sg),((0:Int),()))),()))],([((90:Int),(x8,()))],((0:Int),()))),(0:Int),(0:Int),[(7:Int)],(0:Int))) fun x16=>
   ah (au.call (x16.1,(1:Int),0,x12r.1,x12r.2)) fun x20=>
   ah (au.call ((([]:List gU),(([]:List fR),((0:Int),()))),(1:Int),x20.2.2.1,x20.2.2.2.1,x20.2.2.2.2)) fun x24=>
   ah (aB.call (x16.1,(5:Int),x24.2.2.1,x24.2.2.2.1,x24.2.2.2.2)) fun x25=>
   aF (x25.isLeft) (
    ah (x25.getLeft?) fun x25l=>
    ah (tid.call x16.1) fun x32=>
    ah (cO.call ((x32,((0:Int),())),x25l.2.1,x25l.2.2.1,x25l.2.2.2)) fun x33=>
    ah (aB.call (x16.1,(5:Int),x33.1.1,x33.1.2.1,x33.1.2.2)) fun x34=>
    aF (x34.isLeft) (
     ah (x34.getLeft?) fun x34l=>
     ah (aO.call (x34l.2.1,x34l.2.2.1,x34l.2.2.2)) fun x38=>
     aF ((dN x16.2 (0:Int))) (
      aF ((dN x20.2.1 (0:Int))) (
       aF ((dN x20.1 (10:Int))) (
        aF ((dN x24.2.1 (1:Int))) (
         aF ((dN x25l.1 (0:Int))) (
          aF (x33.2.2) (
           aF ((dN x33.2.1.2.1 (5:Int))) (
            aF ((dN x33.2.1.1.1 (90:Int))) (
             aF ((dN x34l.1 (5:Int))) (
              aF ((dN x38.1 (90:Int))) (
               ah (aG.call (x38.2.1,x38.2.2.1,x38.2.2.2)) fun x43=>
               aF (x43.1) (
                ah (aO.call (x43.2.1,x43.2.2.1,x43.2.2.2)) fun x44=>
                aF ((dN x44.1 (100:Int))) (
                 ah (aG.call (x44.2.1,x44.2.2.1,x44.2.2.2)) fun x45=>
                 aF ((!x45.1)) (
                  ah (aS.call (x45.2.1,x45.2.2.1,x45.2.2.2)) fun x46=>
                  k (aM.out (dN ((x46.1:Nat):Int) (1:Int)))) (
                  k (aM.out false))) (
                 k (aM.out false))) (
                k (aM.out false))) (
               k (aM.out false))) (
              k (aM.out false))) (
             k (aM.out false))) (
            k (aM.out false))) (
           k (aM.out false))) (
          k (aM.out false))) (
         k (aM.out false))) (
        k (aM.out false))) (
       k (aM.out false))) (
      k (aM.out false))) (
     ah (x34.getRight?) fun x34r=>
     ah (aO.call (x34r.2.1,x34r.2.2.1,x34r.2.2.2)) fun x50=>
     aF ((dN x16.2 (0:Int))) (
      aF ((dN x20.2.1 (0:Int))) (
       aF ((dN x20.1 (10:Int))) (
        aF ((dN x24.2.1 (1:Int))) (
         aF ((dN x25l.1 (0:Int))) (
          aF (x33.2.2) (
           aF ((dN x33.2.1.2.1 (5:Int))) (
            aF ((dN x33.2.1.1.1 (90:Int))) (
             aF ((dN x34r.1 (5:Int))) (
              aF ((dN x50.1 (90:Int))) (
               ah (aG.call (x50.2.1,x50.2.2.1,x50.2.2.2)) fun x55=>
               aF (x55.1) (
                ah (aO.call (x55.2.1,x55.2.2.1,x55.2.2.2)) fun x56=>
                aF ((dN x56.1 (100:Int))) (
                 ah (aG.call (x56.2.1,x56.2.2.1,x56.2.2.2)) fun x57=>
                 aF ((!x57.1)) (
                  ah (aS.call (x57.2.1,x57.2.2.1,x57.2.2.2)) fun x58=>
                  k (aM.out (dN ((x58.1:Nat):Int) (1:Int)))) (
                  k (aM.out false))) (
                 k (aM.out false))) (
                k (aM.out false))) (
               k (aM.out false))) (
              k (aM.out false))) (
             k (aM.out false))) (
            k (aM.out false))) (
           k (aM.out false))) (
          k (aM.out false))) (
         k (aM.out false))) (
        k (aM.out false))) (
       k (aM.out false))) (
      k (aM.out false)))) (
    ah (x25.getRight?) fun x25r=>
    ah (tid.call x16.1) fun x65=>
    ah (cO.call ((x65,((0:Int),())),x25r.2.1,x25r.2.2.1,x25r.2.2.2)) fun x66=>
    ah (aB.call (x16.1,(5:Int),x66.1.1,x66.1.2.1,x66.1.2.2)) fun x67=>
    aF (x67.isLeft) (
     ah (x67.getLeft?) fun x67l=>
     ah (aO.call (x67l.2.1,x67l.2.2.1,x67l.2.2.2)) fun x71=>
     aF ((dN x16.2 (0:Int))) (
      aF ((dN x20.2.1 (0:Int))) (
       aF ((dN x20.1 (10:Int))) (
        aF ((dN x24.2.1 (1:Int))) (
         aF ((dN x25r.1 (0:Int))) (
          aF (x66.2.2) (
           aF ((dN x66.2.1.2.1 (5:Int))) (
            aF ((dN x66.2.1.1.1 (90:Int))) (
             aF ((dN x67l.1 (5:Int))) (
              aF ((dN x71.1 (90:Int))) (
               ah (aG.call (x71.2.1,x71.2.2.1,x71.2.2.2)) fun x76=>
               aF (x76.1) (
                ah (aO.call (x76.2.1,x76.2.2.1,x76.2.2.2)) fun x77=>
                aF ((dN x77.1 (100:Int))) (
                 ah (aG.call (x77.2.1,x77.2.2.1,x77.2.2.2)) fun x78=>
                 aF ((!x78.1)) (
                  ah (aS.call (x78.2.1,x78.2.2.1,x78.2.2.2)) fun x79=>
                  k (aM.out (dN ((x79.1:Nat):Int) (1:Int)))) (
                  k (aM.out false))) (
                 k (aM.out false))) (
                k (aM.out false))) (
               k (aM.out false))) (
              k (aM.out false))) (
             k (aM.out false))) (
            k (aM.out false))) (
           k (aM.out false))) (
          k (aM.out false))) (
         k (aM.out false))) (
        k (aM.out false))) (
       k (aM.out false))) (
      k (aM.out false))) (
     ah (x67.getRight?) fun x67r=>
     ah (aO.call (x67r.2.1,x67r.2.2.1,x67r.2.2.2)) fun x83=>
     aF ((dN x16.2 (0:Int))) (
      aF ((dN x20.2.1 (0:Int))) (
       aF ((dN x20.1 (10:Int))) (
        aF ((dN x24.2.1 (1:Int))) (
         aF ((dN x25r.1 (0:Int))) (
          aF (x66.2.2) (
           aF ((dN x66.2.1.2.1 (5:Int))) (
            aF ((dN x66.2.1.1.1 (90:Int))) (
             aF ((dN x67r.1 (5:Int))) (
              aF ((dN x83.1 (90:Int))) (
               ah (aG.call (x83.2.1,x83.2.2.1,x83.2.2.2)) fun x88=>
               aF (x88.1) (
                ah (aO.call (x88.2.1,x88.2.2.1,x88.2.2.2)) fun x89=>
                aF ((dN x89.1 (100:Int))) (
                 ah (aG.call (x89.2.1,x89.2.2.1,x89.2.2.2)) fun x90=>
                 aF ((!x90.1)) (
                  ah (aS.call (x90.2.1,x90.2.2.1,x90.2.2.2)) fun x91=>
                  k (aM.out (dN ((x91.1:Nat):Int) (1:Int)))) (
                  k (aM.out false))) (
                 k (aM.out false))) (
                k (aM.out false))) (
               k (aM.out false))) (
              k (aM.out false))) (
             k (aM.out false))) (
            k (aM.out false))) (
           k (aM.out false))) (
          k (aM.out false))) (
         k (aM.out false))) (
        k (aM.out false))) (
       k (aM.out false))) (
      k (aM.out false))))):=by kernel_rfl
theorem An:fq iZ=100:=rfl
theorem Ao(h:Int):fq (sy h)=90:=by
 unfold sy fq
 simp
theorem aM.ok:aM.Ok:=by
 rintro⟨⟩ _
 have c1:cv.call 7=some (dP 7):=cv.run (d:=7) ⟨by decide,by decide⟩
 have c2:eC.call (dP 7)=some sA:=eC.run (d:=dP 7) trivial
 have c3:=EX
 have c4:=D5
 have c5:au.call (kT,1,0,iZ,[])=some (10,0,0,iZ,[]):=by
  rw[au.run (d:=(kT,1,0,iZ,[])) ⟨mZ.2.1,w9⟩]
  simp only[au.add,au.F,Ce 1 (by decide) (by decide)]
 have c6:au.call (Ev,1,0,iZ,[])=some (0,1,0,iZ,[]):=by
  rw[au.run (d:=(Ev,1,0,iZ,[])) ⟨FB,w9⟩]
  simp only[au.add,au.F,FA]
 have c7:aB.call (kT,5,0,iZ,[])=some (.inr (0,1,sy 5,[stepOf kT iZ])):=by
  rw[aB.run (d:=(kT,5,0,iZ,[])) ⟨mZ.2.1,w9,Nat.zero_le _,Nat.zero_le _⟩]
  simp only[aB.add,aB.F,Ce 5 (by decide) (by decide),Ds]
  rfl
 obtain⟨m,hm⟩:∃m,iK sB=m:=⟨_,rfl⟩
 have c8:tid.call kT=some m:=by
  rw[tid.run (d:=kT) mZ.2.1]
  simp only[tid.add,tid.F,mZ.2.2.1,hm]
 have hbg:=Fy 5 (by decide) (by decide)
 have c9:cO.call ((m,((0:Int),())),1,sy 5,[stepOf kT iZ])=some ((1,sy 5,[stepOf kT iZ]),((((90:Int),(sA,())),((5:Int),())),true)):=by
  rw[cO.run (d:=((m,((0:Int),())),1,sy 5,[stepOf kT iZ])) hbg]
  have g:=FD 5
  rw[hm]at g
  exact congrArg some (congrArg (fun z=>((1,sy 5,[stepOf kT iZ]),z)) (congrArg (fun z:Option dJ=>(z.getD tV,z.isSome)) g))
 have c10:aB.call (kT,5,1,sy 5,[stepOf kT iZ])=some (.inl (5,1,sy 5,[stepOf kT iZ])):=by
  rw[aB.run (d:=(kT,5,1,sy 5,[stepOf kT iZ])) ⟨mZ.2.1,hbg,Nat.le_refl _,by show 1≤_;decide⟩]
  have e:=(EF 5 (by decide) (by decide)).again w9.1 5 (by decide) (by decide)
  rw[Ds]at e
  simp only[aB.add,aB.F,e]
  rfl
 have c11:∀n s,aO.call (n,sy 5,s)=some (90,n,sy 5,s):=fun n s=>by
  rw[aO.run (d:=(n,sy 5,s)) ⟨fun p hp=>(hbg.2 p hp).2.2.2.1,by rw[Ao];decide⟩]
  simp only[aO.add,aO.F,Ao]
 have c12:aG.call (1,sy 5,[stepOf kT iZ])=some (true,0,iZ,[stepOf kT iZ]):=by
  rw[aG.run (d:=(1,sy 5,[stepOf kT iZ])) ⟨Nat.le_refl _,by show 1≤_;decide,fun st hst=>by
   rw[List.mem_singleton]at hst
   subst hst
   rw[Ed]
   exact⟨by show 1≤_;decide,by show 1≤_;decide⟩⟩]
  have e:nth dx [stepOf kT iZ] (1 - 1)=stepOf kT iZ:=rfl
  simp only[aG.add,aG.F,e,F1]
  rfl
 have c13:∀n s,aO.call (n,iZ,s)=some (100,n,iZ,s):=fun n s=>by
  rw[aO.run (d:=(n,iZ,s)) ⟨fun p hp=>(w9.2 p hp).2.2.2.1,by rw[An];decide⟩]
  simp only[aO.add,aO.F,An]
 have c14:aG.call (0,iZ,[stepOf kT iZ])=some (false,0,iZ,[stepOf kT iZ]):=by
  rw[aG.run (d:=(0,iZ,[stepOf kT iZ])) ⟨Nat.zero_le _,by show 1≤_;decide,fun st hst=>by
   rw[List.mem_singleton]at hst
   subst hst
   rw[Ed]
   exact⟨by show 1≤_;decide,by show 1≤_;decide⟩⟩]
  simp only[aG.add,aG.F,if_true]
 have c15:∃x,aS.call (0,iZ,[stepOf kT iZ])=some (1,x):=by
  refine⟨_,aS.run (d:=(0,iZ,[stepOf kT iZ])) ⟨by show 1≤_;decide,fun p hp=>(w9.2 p hp).1⟩⟩
 obtain⟨x15,c15⟩:=c15
 generalize hS:stepOf kT iZ=S at c7 c9 c10 c12 c14 c15
 rw[aM.eq]
 refine(congrArg (fun z=>ah z _) c1).trans ?_
 rw[aa,c2,aa]
 refine(congrArg (fun z=>ah z _) c3).trans ?_
 rw[aa]
 simp only[Sum.isLeft_inr,aw,Sum.getRight?_inr,aa]
 refine(congrArg (fun z=>ah z _) c4).trans ?_
 rw[aa]
 refine(congrArg (fun z=>ah z _) c5).trans ?_
 rw[aa]
 refine(congrArg (fun z=>ah z _) c6).trans ?_
 rw[aa]
 refine(congrArg (fun z=>ah z _) c7).trans ?_
 rw[aa]
 simp only[Sum.isLeft_inr,aw,Sum.getRight?_inr,aa]
 refine(congrArg (fun z=>ah z _) c8).trans ?_
 rw[aa]
 refine(congrArg (fun z=>ah z _) c9).trans ?_
 rw[aa]
 refine(congrArg (fun z=>ah z _) c10).trans ?_
 rw[aa]
 simp only[Sum.isLeft_inl,ao,Sum.getLeft?_inl,aa]
 refine(congrArg (fun z=>ah z _) (c11 1 [S])).trans ?_
 rw[aa]
 repeat (first | rw[ao] | rw[iw rfl])
 refine(congrArg (fun z=>ah z _) c12).trans ?_
 rw[aa,ao]
 refine(congrArg (fun z=>ah z _) (c13 0 [S])).trans ?_
 rw[aa,iw rfl,ao]
 refine(congrArg (fun z=>ah z _) c14).trans ?_
 rw[aa,Bool.not_false,ao]
 refine(congrArg (fun z=>ah z _) c15).trans ?_
 rfl
noncomputable def aM.E:=Entry.cP [] aM.st aM.aC aM.add aM.F aM.out
noncomputable def aM.call:aM.D→Option aM.X:=bS aM.E aM.st
theorem aM.run:bP aM.call aM.aC aM.add aM.F:=de (cZ [] fun _=>by kernel_rfl)
noncomputable def aM.sg:SG Tryz.prog:=⟨25,aV,aM.E,.fn 0 (by kernel_rfl) aM.ok trivial⟩
set_option synthInstance.maxSize 5000
abbrev bo.L0.D:=(List bX)×(List bX)×Int
def bo.L0.st:bo.L0.D→AS:=fun(a_2,b_2,i)=>⟨([.d (.slice bz) a_2,.d (.slice bz) b_2,.undef,.undef,.undef,.d ti i]++bm 20 []),[],(List.replicate 26 [])⟩
abbrev bo.L0.Y0:=Unit
abbrev bo.L0.X0:=Unit
def bo.L0.bK:bo.L0.X0→Exit×AS:=fun x=>(.ret,⟨(bm 4 ([.d .bool false]++bm 21 [])),[],(List.replicate 26 [])⟩)
abbrev bo.L0.Y1:=Unit
abbrev bo.L0.X1:=Unit
def bo.L0.jb:bo.L0.X1→Exit×AS:=fun x=>(.exit 0,⟨(bm 26 []),[],(List.replicate 26 [])⟩)
abbrev bo.L0.X:=(bo.L0.X0)⊕(bo.L0.X1)
abbrev bo.L0.Y:=(bo.L0.Y0)⊕(bo.L0.Y1)
def bo.L0.out:bo.L0.X→Out (Exit×AS):=fun x=> .br x.isLeft (.get x.getLeft? fun a=> .ok (bo.L0.bK a)) (.get x.getRight? fun b=> .ok (bo.L0.jb b))
def bo.L0.add:bo.L0.D→bo.L0.Y→bo.L0.X:=fun(a_2,b_2,i) y=>match y with | .inl y=> .inl y | .inr z=> .inr (z)
abbrev bo.D:=(List bX)×(List bX)
def bo.st:bo.D→SA:=fun(a,b)=>([.d (.slice bz) a,.d (.slice bz) b],[])
abbrev bo.Y:=Bool
abbrev bo.X:=Bool
def bo.out:bo.X→aW:=fun x=>⟨.d .bool x,[],[]⟩
def bo.add:bo.D→bo.Y→bo.X:=fun(a,b) y=>y
def bo.L0.aC:bo.L0.D→Prop:=fun(a,b,i)=>a.length≤1000000000∧a.length=b.length∧∃k:Nat,k≤a.length∧i=k
def bo.L0.F:bo.L0.D→bo.L0.Y:=fun(a,b,i)=>if List.drop (Int.toNat i) a=List.drop (Int.toNat i) b then .inr () else .inl ()
def bo.aC:bo.D→Prop:=fun(a,_)=>a.length≤1000000000
def bo.F:bo.D→bo.Y:=fun(a,b)=>decide (a=b)
noncomputable def bo.G:dH:=eT (P:=Tryz.prog) []
noncomputable def bo.L0.E:=bZ.cP bo.L0.st bo.L0.aC bo.L0.add bo.L0.F bo.L0.out
noncomputable def bo.L0.call:bo.L0.D→Option bo.L0.X:=dI bo.L0.E bo.L0.st
noncomputable def bo.an:ee:= {loops:=lZ [(4,{bn:=[0,1,5]})],outs:=lY [(4,{},{bn:=[4]})],fO:=mW [(4,bo.L0.E)]}
noncomputable def bo.A:= @cT Tryz.prog bo.G bo.an 0 Tryz.f31 _ bo.st
abbrev bo.Ok:=cU @bo.A bo.aC bo.add bo.F bo.out
noncomputable def bo.L0.R:= @cC Tryz.prog bo.G bo.an 0 Tryz.f31 0 _ bo.L0.st
abbrev bo.L0.Ok:=eO Tryz.prog bo.G bo.an 0 Tryz.f31 0 bo.L0.st bo.L0.aC bo.L0.add bo.L0.F bo.L0.out
theorem bo.L0.run:bP bo.L0.call bo.L0.aC bo.L0.add bo.L0.F:=fe (eY [.d (.slice bz),.d (.slice bz),.d ti] fun _=>by kernel_rfl)
theorem bo.L0.aL:p9 @bo.L0.R bo.L0.st bo.L0.aC bo.L0.add bo.L0.F bo.L0.out bo.L0.Ok:=qK
theorem bo.L0.step{R:Type}(a_2:(List bX))(b_2:(List bX))(i:Int)(kn:AS→Option R)(kx:Exit→AS→Option R):bo.L0.R (a_2,b_2,i) kn kx=
  aF ((gQ i (((List.length a_2):Nat):Int))) (
   aF (fE i (((List.length a_2):Nat):Int)) (
   aF (fE i (((List.length b_2):Nat):Int)) (
   aF ((!(Ty.beq bz (nth bz a_2 (Int.toNat i)) (nth bz b_2 (Int.toNat i))))) (
    kx (bo.L0.bK ()).1 (bo.L0.bK ()).2) (
    kn (bo.L0.st (a_2,b_2,(ck .i64 i (1:Int)))))) none) none) (
   kx (bo.L0.jb ()).1 (bo.L0.jb ()).2):=by kernel_rfl
theorem bo.eq{R:Type}(a:(List bX))(b:(List bX))(k:aW→Option R):bo.A (a,b) k=
  aF ((qe (((List.length a):Nat):Int) (((List.length b):Nat):Int))) (
   k (bo.out false)) (
   ah (bo.L0.call (a,b,(0:Int))) fun x1=>
   aF (x1.isLeft) (
    ah (x1.getLeft?) fun a2=>
    k (bo.out false)) (
    ah (x1.getRight?) fun b3=>
    k (bo.out true))):=by kernel_rfl
theorem bo.L0.ok:bo.L0.Ok:=by
 refine bo.L0.aL (fun(a,b,i)=>a.length - Int.toNat i) ?_
 rintro⟨a,b,i⟩ ⟨hlen,hab,k,hk,rfl⟩
 have hlen:a.length≤1000000000:=hlen
 have hab:a.length=b.length:=hab
 have hk:k≤a.length:=hk
 by_cases h:k < a.length
 ·have h2:k < b.length:=by omega
  have n1:nth bz a k=a[k]:=du (t:=bz) h
  have n2:nth bz b k=b[k]:=du (t:=bz) h2
  have hd:(List.drop k a=List.drop k b)=(a[k]=b[k]∧List.drop (k+1) a=List.drop (k+1) b):=by rw[List.drop_eq_getElem_cons h,List.drop_eq_getElem_cons h2,List.cons.injEq]
  have step:∀ {R:Type} (kn:AS→Option R) (kx:Exit→AS→Option R),bo.L0.R (a,b,(k:Int)) kn kx=if a[k]=b[k] then kn (bo.L0.st (a,b,((k+1:Nat):Int))) else kx (bo.L0.bK ()).1 (bo.L0.bK ()).2:=by
   intro R kn kx
   rw[bo.L0.step,bq (by omega),bw (by omega) (by omega),bw (by omega) (by omega),Int.toNat_natCast,n1,n2]
   simp only[ao]
   rw[N.nW (by omega)]
   by_cases hx:a[k]=b[k]
   ·rw[(mQ _ _).2 hx,if_pos hx];rfl
   ·rw[if_neg hx,show Ty.beq bz a[k] b[k]=false by cases hb:Ty.beq bz a[k] b[k]with | false=>rfl | true=>exact absurd ((mQ _ _).1 hb) hx];rfl
  by_cases hx:a[k]=b[k]
  ·left
   refine⟨(a,b,((k+1:Nat):Int)),⟨hlen,hab,k+1,by omega,rfl⟩,by simp only[Int.toNat_natCast];omega,?_,fun kn kx=> ?_⟩
   ·simp only[bo.L0.add,bo.L0.F,Int.toNat_natCast,hd,hx,true_and]
   ·rw[step,if_pos hx]
  ·right
   refine⟨bo.L0.bK (),?_,fun kn kx=> ?_⟩
   ·simp only[bo.L0.add,bo.L0.F,Int.toNat_natCast,hd,hx,false_and,if_false]
    rfl
   ·rw[step,if_neg hx]
 ·right
  obtain rfl:k=a.length:=by omega
  refine⟨bo.L0.jb (),?_,fun kn kx=> ?_⟩
  ·simp only[bo.L0.add,bo.L0.F,Int.toNat_natCast,List.drop_length]
   rw[hab,List.drop_length,if_pos rfl]
   rfl
  ·rw[bo.L0.step,bl (by omega),aw]
theorem bo.ok:bo.Ok:=by
 rintro⟨a,b⟩ hl
 have hl:a.length≤1000000000:=hl
 rw[bo.eq]
 by_cases h:a.length=b.length
 ·rw[eM (by omega),aw,bo.L0.run (d:=(a,b,0)) ⟨hl,h,0,Nat.zero_le _,rfl⟩]
  simp only[aa,bo.L0.add,bo.L0.F,Int.toNat_zero,List.drop_zero,bo.add,bo.F]
  by_cases e:a=b
  ·rw[if_pos e,bf e];rfl
  ·rw[if_neg e,bI e];rfl
 ·rw[fv (by omega),ao]
  simp only[bo.add,bo.F,bI (fun e:a=b=>h (by rw[e]))]
noncomputable def bo.E:=Entry.cP [some (.slice bz),some (.slice bz)] bo.st bo.aC bo.add bo.F bo.out
noncomputable def bo.call:bo.D→Option bo.X:=bS bo.E bo.st
theorem bo.run:bP bo.call bo.aC bo.add bo.F:=de (cZ [.d (.slice bz),.d (.slice bz)] fun _=>by kernel_rfl)
noncomputable def bo.sg:SG Tryz.prog:=⟨31,aV,bo.E,.fn 1 (by kernel_rfl) bo.ok (And.intro (.cP bo.L0.ok (by kernel_rfl)) trivial)⟩
structure qk(m n:Nat)(a:At)(s:List cG):Prop where
 iL:qD a
 le:n≤s.length
 len:s.length≤m
 FZ:∀st∈s,Ai st
 sum:fq a≤1125899906842624
 EG:a.length≤256+64*m
theorem qk.mono{m m' n:Nat}{a:At}{s:List cG}(h:qk m n a s)(hm:m≤m'):qk m' n a s:=⟨h.iL,h.le,Nat.le_trans h.len hm,h.FZ,h.sum,by have:=h.EG;omega⟩
theorem Ap{a:At}(h:∀p∈a,0≤p.2.1.1):0≤fq a:=by
 induction a with
 |nil=>exact Int.le_refl 0
 |cons p a ih=>
  rw[fu]
  have:=h p List.mem_cons_self
  have:=ih fun q hq=>h q (List.mem_cons_of_mem _ hq)
  omega
theorem qD.pos{a:At}(h:qD a):0≤fq a:=Ap fun p hp=>(h.2 p hp).2.2.2.1
theorem tx:∀(l:List fR) (sum:Int) (k:Nat) {a:At},0≤sum→sum≤1125899906842624→(∀o∈l,w4 o)→qg sum k l=some a→
  a.length=l.length∧fq a=fx l∧sum+fx l≤1125899906842624∧(∀o∈l,0≤o.1)∧(∀p∈a,u6 p.1∧Eu p.2∧(k:Int)≤p.1.2.1)∧(dX a).Nodup
 |[],sum,k,a,h0,h1,_,e=>by
  obtain rfl:=Option.some.inj e
  exact⟨rfl,rfl,by show sum+0≤_;omega,fun o ho=>(by cases ho),fun p hp=>(by cases hp),List.nodup_nil⟩
 |o::l,sum,k,a,h0,h1,hg,e=>by
  rw[qg]at e
  cases ho:lI sum o with
  |false=>rw[ho]at e;cases e
  |true=>
   rw[ho]at e
   simp only at e
   cases hr:qg (sum+o.1) (k+1) l with
   |none=>rw[hr]at e;cases e
   |some r=>
    rw[hr]at e
    obtain rfl:=Option.some.inj e
    have ho':=ho
    unfold lI at ho'
    simp only[Bool.and_eq_true,decide_eq_true_eq]at ho'
    obtain⟨k1,k2,k3⟩:=ho'
    obtain⟨i1,i2,i3,i4,i5,i6⟩:=tx l (sum+o.1) (k+1) (by omega) (by omega) (fun x hx=>hg x (List.mem_cons_of_mem _ hx)) hr
    have hu:=hg o List.mem_cons_self
    refine⟨by rw[List.length_cons,List.length_cons,i1],?_,by rw[mo];omega,fun x hx=> ?_,fun p hp=> ?_,?_⟩
    ·rw[fu,mo,i2];rfl
    ·rcases List.mem_cons.1 hx with rfl | hx
     ·exact k2
     ·exact i4 x hx
    ·rcases List.mem_cons.1 hp with rfl | hp
     ·refine⟨⟨by show(List.replicate 32 (0:Int)).length=32;rw[List.length_replicate],fun x hx=> ?_⟩,⟨k1,hu.1,k2,by show o.1≤_;omega,Int.le_refl 0,by show(0:Int)≤_;decide⟩,by show(k:Int)≤k;omega⟩
      have hx:x∈List.replicate 32 (0:Int):=hx
      obtain rfl:=(List.mem_replicate.1 hx).2
      exact⟨by decide,by decide⟩
     ·have:=i5 p hp
      exact⟨this.1,this.2.1,by omega⟩
    ·show((pL k o).1::dX r).Nodup
     refine List.nodup_cons.2 ⟨fun hm=> ?_,i6⟩
     obtain⟨p,hp,he⟩:=List.mem_map.1 hm
     have:=(i5 p hp).2.2
     have he:p.1=(pL k o).1:=he
     rw[he]at this
     have this:((k+1:Nat):Int)≤(k:Int):=this
     omega
theorem zI{outs:List fR}{a:At}(hg:∀o∈outs,w4 o)(e:uG outs=some a):qk 0 0 a []∧fq a=fx outs∧a.length=outs.length∧outs.length≤256∧(∀o∈outs,0≤o.1)∧fx outs≤1125899906842624:=by
 unfold uG at e
 by_cases hl:outs.length≤256
 ·rw[if_pos hl]at e
  obtain⟨i1,i2,i3,i4,i5,i6⟩:=tx outs 0 0 (by decide) (by decide) hg e
  exact⟨⟨⟨i6,fun p hp=>⟨(i5 p hp).1,(i5 p hp).2.1⟩⟩,Nat.le_refl _,Nat.le_refl _,fun st hst=>(by cases hst),by omega,by omega⟩,i2,i1,hl,i4,by omega⟩
 ·rw[if_neg hl]at e;cases e
theorem CI{outs:List fR}(hg:∀o∈outs,w4 o):aT.call outs=some (match uG outs with | none=> .inl () | some r=> .inr (r,[])):=by
 rw[aT.run (d:=outs) hg]
 simp only[aT.add,aT.F]
 cases uG outs <;> rfl
theorem tp:∀(l:List bX) (a:At),(lT a l).length=l.length
 |[],_=>rfl
 |o::l,a=>by rw[lT,List.length_cons,List.length_cons,tp l]
theorem BQ{t:eI}{h fY:Int}{a:At}(hc:eN t h a fY):Ai (stepOf t a):=by
 have h1:=(iH hc.ok).1
 have h2:=gC hc.ok
 have h3:=mj hc.ok
 unfold Ai stepOf
 rw[tp]
 exact⟨by omega,by show(dG t).length≤1000;omega⟩
section
variable {m n:Nat} {t:eI} {h:Int} {a:At} {s:List cG}
theorem qk.app(hg:qk m n a s)(hc:eN t h a (dB t h a).1)(hv:nV t):qk (m+1) (n+1) (cJ t h a) (s.take n++ [stepOf t a]):=by
 have hl:=hg.le
 have hm:=hg.len
 have hs:=hc.sum hg.iL.1
 have hp:=hc.pos
 have h1:=(iH hc.ok).1
 have e:(s.take n).length=n:=by rw[List.length_take];omega
 refine⟨hc.iL hg.iL hv,by rw[List.length_append,e];exact Nat.le_refl _,by rw[List.length_append,e];show n+1≤_;omega,fun st hst=> ?_,?_,?_⟩
 ·rcases List.mem_append.1 hst with hst | hst
  ·exact hg.FZ st (List.mem_of_mem_take hst)
  ·rw[List.mem_singleton.1 hst];exact BQ hc
 ·have:=hg.sum;omega
 ·have:=hg.EG;omega
theorem qk.apply(hg:qk m n a s)(hm:m≤1000)(hv:nV t):((dB t h a).2≠0∧aB.call (t,h,n,a,s)=some (.inl ((dB t h a).2,n,a,s)))∨
  (eN t h a (dB t h a).1∧(dB t h a).2=0∧aB.call (t,h,n,a,s)=some (.inr (0,n+1,cJ t h a,s.take n++ [stepOf t a]))∧qk (m+1) (n+1) (cJ t h a) (s.take n++ [stepOf t a])):=by
 have hr:=aB.run (d:=(t,h,n,a,s)) ⟨hv,hg.iL,hg.le,by have:=hg.len;show s.length≤_;omega⟩
 by_cases he:(dB t h a).2=0
 ·right
  refine⟨og he,he,?_,hg.app (og he) hv⟩
  rw[hr]
  simp only[aB.add,aB.F,he,ne_eq,not_true_eq_false,if_false]
 ·left
  refine⟨he,?_⟩
  rw[hr]
  simp only[aB.add,aB.F,ne_eq,he,not_false_eq_true,if_true]
theorem qk.check(hg:qk m n a s)(hv:nV t):au.call (t,h,n,a,s)=some ((dB t h a).1,(dB t h a).2,n,a,s):=au.run (d:=(t,h,n,a,s)) ⟨hv,hg.iL⟩
noncomputable def xc(a:At):List bX:=nO (t:=bz) ns (dX a)
theorem qk.all(hg:qk m n a s)(hm:m≤1000):aS.call (n,a,s)=some (a.length,n,a,s,xc a):=aS.run (d:=(n,a,s)) ⟨by have:=hg.EG;show a.length≤_;omega,fun p hp=>(hg.iL.2 p hp).1⟩
theorem qk.total(hg:qk m n a s):aO.call (n,a,s)=some (fq a,n,a,s):=aO.run (d:=(n,a,s)) ⟨fun p hp=>(hg.iL.2 p hp).2.2.2.1,by have:=hg.sum;show fq a≤_;omega⟩
theorem qk.get(hg:qk m n a s)(o:bX):cO.call (o,n,a,s)=some ((n,a,s),((bF bz o a).getD tV,(bF bz o a).isSome)):=cO.run (d:=(o,n,a,s)) hg.iL
theorem qk.copy(hg:qk m n a s)(hm:m≤1000):aQ.call (n,a,s)=some (n,a,s,(s.take n).length,e8 a,s.take n):=aQ.run (d:=(n,a,s)) ⟨hg.le,by have:=hg.len;show s.length≤_;omega,hg.iL.1⟩
theorem qD.perm{a':At}(h:qD a)(hp:a.Perm a'):qD a':=⟨(hp.map _).nodup_iff.1 h.1,fun p hm=>h.2 p (hp.mem_iff.2 hm)⟩
theorem qk.canon(hg:qk m n a s):qk m n (e8 a) (s.take n)∧(s.take n).length=n:=by
 have hp:=kq a
 have e:(s.take n).length=n:=by rw[List.length_take];have:=hg.le;omega
 exact⟨⟨hg.iL.perm hp.symm,by omega,by have:=hg.le;have:=hg.len;omega,fun st hst=>hg.FZ st (List.mem_of_mem_take hst),by rw[mE hp];exact hg.sum,by rw[hp.length_eq];exact hg.EG⟩,e⟩
end
theorem y3{a a':At}(h:qD a')(hp:a.Perm a'):xc a=xc a':=tO (hp.map _) fun x hx=>by
 obtain⟨p,hp,rfl⟩:=List.mem_map.1 hx
 exact(h.2 p hp).1
theorem Am{a:At}(h:qD a):(xc a).Perm (dX a):=(uS oe fun x hx=>by
 obtain⟨p,hp,rfl⟩:=List.mem_map.1 hx
 exact(h.2 p hp).1).1
end Go.Ab
namespace Go.Ab
open Go.Proofs
set_option maxRecDepth 100000
set_option linter.unusedVariables false
set_option linter.unusedSimpArgs false
set_option synthInstance.maxSize 5000
set_option synthInstance.maxSize 5000
theorem CP{a b:List bX}(h:a.length≤1000000000):bo.call (a,b)=some (decide (a=b)):=bo.run (d:=(a,b)) h
theorem vf{a:At}(h:qD a):(xc a).length=a.length:=by rw[(Am h).length_eq,List.length_map]
theorem vE{l:List bX}{n:Nat}(h:l.length=n):cut l 0 n=l:=by
 subst h
 simp[cut]
set_option synthInstance.maxSize 5000
def lP(a a':At):Prop:=∀o,bF bz o a=bF bz o a'
theorem lP.refl(a:At):lP a a:=fun _=>rfl
theorem lP.symm{a b:At}(h:lP a b):lP b a:=fun o=>(h o).symm
theorem lP.trans{a b c:At}(h:lP a b)(h':lP b c):lP a c:=fun o=>(h o).trans (h' o)
theorem lP.perm{a b:At}(h:lP a b)(ha:(dX a).Nodup)(hb:(dX b).Nodup):a.Perm b:=Da ha hb h
theorem AL{a b:At}(hb:(dX b).Nodup)(h:a.Perm b):lP a b:=fun o=>Bx hb h o
theorem lP.del{a b:At}(h:lP a b)(ha:(dX a).Nodup)(hb:(dX b).Nodup)(l:List bX):lP (j2 l a) (j2 l b):=fun o=>by
 rw[rb o l ha,rb o l hb,h o]
theorem tC(e:uZ)(l:List uZ)(a:At):uM (e::l) a=uM l (eh bz e.1 e.2.1 a):=rfl
theorem lP.set{a b:At}(h:lP a b)(o:bX)(c:dJ):lP (eh bz o c a) (eh bz o c b):=fun x=>by rw[AT,AT,h x]
theorem lP.put:∀(l:List uZ) {a b:At},lP a b→lP (uM l a) (uM l b)
 |[],_,_,h=>h
 |e::l,a,b,h=>by rw[tC,tC];exact lP.put l (h.set _ _)
theorem lP.add(h:Int):∀(l:List bX) (xs:List fR) {a b:At},lP a b→lP (nm h l xs a) (nm h l xs b)
 |[],[],_,_,e=>e
 |[],_::_,_,_,e=>e
 |_::_,[],_,_,e=>e
 |o::l,x::xs,a,b,e=>by rw[jU,jU];exact lP.add h l xs (e.set _ _)
theorem lP.apply{a b:At}(e:lP a b)(ha:(dX a).Nodup)(hb:(dX b).Nodup)(t:eI)(h:Int):lP (cJ t h a) (cJ t h b):=lP.add h _ _ (e.del ha hb _)
theorem lP.ins{a b:At}(e:lP a b)(h:Int)(id:List Int):∀(l:List gU) (f:Int),gz h id a l f=gz h id b l f
 |[],_=>rfl
 |x::l,f=>by
  simp only[gz,e x.1]
  cases bF bz x.1 b with
  |none=>rfl
  |some c=>simp only[lP.ins e h id l]
theorem lP.check{a b:At}(e:lP a b)(t:eI)(h:Int):dB t h a=dB t h b:=by
 have e2:fI a=fI b:=funext fun o=>by unfold fI;rw[e o]
 unfold dB
 rw[e.ins,e2]
end Go.Ab
