/-
  Made short by a program of mine (wip/tools/mini.py).
-/
import Derived.Test.YtglpcfdjdabdnaaGreatS8x3
set_option linter.unusedVariables false
set_option linter.unusedSimpArgs false
namespace Go.Ab
open Go.Proofs
set_option maxRecDepth 100000
set_option linter.unusedVariables false
set_option linter.unusedSimpArgs false
set_option synthInstance.maxSize 5000
abbrev cK.D:=Bs
def cK.st:cK.D→SA:=fun sv=>([.d tU sv],[])
abbrev cK.Y:=Bs
abbrev cK.X:=Bs
def cK.out:cK.X→aZ:=fun x=>⟨.d tU x,[],[]⟩
def cK.add:cK.D→cK.Y→cK.X:=fun sv y=>y
def cK.aC:cK.D→Prop:=fun l=>l.length≤1000000
def cK.F:cK.D→cK.Y:=fun l=>l
noncomputable def cK.G:dQ:=eR (P:=Tryz.prog) []
noncomputable def cK.an:eC:= {bI:=[5],res:=[some tU]}
noncomputable def cK.A:= @cH Tryz.prog cK.G cK.an 0 Tryz.f135 _ cK.st
abbrev cK.Ok:=cI @cK.A cK.aC cK.add cK.F cK.out
theorem cK.eq{R:Type}(sv:Bs)(k:aZ→Option R):cK.A sv k=
  aK (decide (0 < (List.length sv))) (
   aK (dj (0+(List.length sv)) 8) (
   aK (decide (0=0∧(0+(0+(List.length sv)))≤(List.length ((List.take 0 (List.replicate 0 (0:Int)))++sv)))) (
   k (cK.out (cut ((List.take 0 (List.replicate 0 (0:Int)))++sv) 0 (0+(List.length sv))))) none) none) (
   nd (
    k (cK.out ([]:List Int))) (
    aK (dj (0+(List.length sv)) 8) (
    aK (decide (0=0∧(0+(0+(List.length sv)))≤(List.length ((List.take 0 (List.replicate 0 (0:Int)))++sv)))) (
    k (cK.out (cut ((List.take 0 (List.replicate 0 (0:Int)))++sv) 0 (0+(List.length sv))))) none) none)):=by kernel_rfl
theorem cK.ok:cK.Ok:=by
 intro l hl
 have hl:l.length≤1000000:=hl
 have hr:dj l.length 8=true:=eF (by omega) (by omega)
 have e0:(List.take 0 (List.replicate 0 0):List Int)=[]:=rfl
 rw[cK.eq]
 simp only[Nat.zero_add,hr,ax,e0,List.nil_append,Nat.le_refl,and_self,decide_true,fc,cK.add,cK.F]
 by_cases h:0 < l.length
 ·simp only[aQ h,ax]
 ·have:l=[]:=List.eq_nil_of_length_eq_zero (by omega)
  subst this
  simp only[List.length_nil,nQ,aM (Nat.lt_irrefl 0),aw]
noncomputable def cK.E:=Entry.ct [some tU] cK.st cK.aC cK.add cK.F cK.out
noncomputable def cK.call:cK.D→Option cK.X:=bH cK.E cK.st
theorem cK.run:bD cK.call cK.aC cK.add cK.F:=cO (cM [.d tU] fun _=>by kernel_rfl)
noncomputable def cK.sg:SG Tryz.prog:=⟨135,aV,cK.E,.fn 0 (by kernel_rfl) cK.ok trivial⟩
def CN(l:List Int):Lk:=([(l,0,0,0,())],())
def DR(own rev delay:Int):Lk:=([([rev],0,0,0,()),([own],0,delay,0,())],())
def BL(own:Int):Lk:=([([own],0,0,0,()),([],0,16,0,())],())
abbrev fm.D:=Bs
def fm.st:fm.D→SA:=fun l=>([.d tU l],[])
abbrev fm.Y:=Lk
abbrev fm.X:=Lk
def fm.out:fm.X→aZ:=fun x=>⟨.d j7 x,[],[]⟩
def fm.add:fm.D→fm.Y→fm.X:=fun l y=>y
def fm.aC:fm.D→Prop:=fun l=>l.length≤1000000
def fm.F:fm.D→fm.Y:=fun l=>CN l
noncomputable def fm.G:dQ:=eR (P:=Tryz.prog) [cK.sg]
noncomputable def fm.an:eC:= {}
noncomputable def fm.A:= @cH Tryz.prog fm.G fm.an 0 Tryz.f107 _ fm.st
abbrev fm.Ok:=cI @fm.A fm.aC fm.add fm.F fm.out
theorem fm.eq{R:Type}(l:Bs)(k:aZ→Option R):fm.A l k=
 aj (cK.call l) fun x1=>
 k (fm.out ([(x1,((0:Int),((0:Int),((0:Int),()))))],())):=by kernel_rfl
theorem fm.ok:fm.Ok:=by
 intro l hl
 rw[fm.eq,cK.run (d:=l) hl]
 rfl
noncomputable def fm.E:=Entry.ct [some tU] fm.st fm.aC fm.add fm.F fm.out
noncomputable def fm.call:fm.D→Option fm.X:=bH fm.E fm.st
theorem fm.run:bD fm.call fm.aC fm.add fm.F:=cO (cM [.d tU] fun _=>by kernel_rfl)
noncomputable def fm.sg:SG Tryz.prog:=⟨107,aV,fm.E,.fn 0 (by kernel_rfl) fm.ok trivial⟩
abbrev fI.D:=Int
def fI.st:fI.D→SA:=fun p=>([.d tu p],[])
abbrev fI.Y:=Lk
abbrev fI.X:=Lk
def fI.out:fI.X→aZ:=fun x=>⟨.d j7 x,[],[]⟩
def fI.add:fI.D→fI.Y→fI.X:=fun p y=>y
def fI.aC:fI.D→Prop:=fun _=>True
def fI.F:fI.D→fI.Y:=fun p=>CN [p]
noncomputable def fI.G:dQ:=eR (P:=Tryz.prog) [fm.sg]
noncomputable def fI.an:eC:= {}
noncomputable def fI.A:= @cH Tryz.prog fI.G fI.an 0 Tryz.f48 _ fI.st
abbrev fI.Ok:=cI @fI.A fI.aC fI.add fI.F fI.out
theorem fI.eq{R:Type}(p:Int)(k:aZ→Option R):fI.A p k=
 aj (fm.call [p]) fun x1=>
 k (fI.out x1):=by kernel_rfl
theorem fI.ok:fI.Ok:=by
 intro p _
 rw[fI.eq,fm.run (d:=[p]) (by show [p].length≤_;simp)]
 rfl
noncomputable def fI.E:=Entry.ct [some tu] fI.st fI.aC fI.add fI.F fI.out
noncomputable def fI.call:fI.D→Option fI.X:=bH fI.E fI.st
theorem fI.run:bD fI.call fI.aC fI.add fI.F:=cO (cM [.d tu] fun _=>by kernel_rfl)
noncomputable def fI.sg:SG Tryz.prog:=⟨48,aV,fI.E,.fn 0 (by kernel_rfl) fI.ok trivial⟩
abbrev eo.D:=Int×Int
def eo.st:eo.D→SA:=fun(a,b)=>([.d tu a,.d tu b],[])
abbrev eo.Y:=Lk
abbrev eo.X:=Lk
def eo.out:eo.X→aZ:=fun x=>⟨.d j7 x,[],[]⟩
def eo.add:eo.D→eo.Y→eo.X:=fun(a,b) y=>y
def eo.aC:eo.D→Prop:=fun _=>True
def eo.F:eo.D→eo.Y:=fun(p,q)=>CN [p,q]
noncomputable def eo.G:dQ:=eR (P:=Tryz.prog) [fm.sg]
noncomputable def eo.an:eC:= {}
noncomputable def eo.A:= @cH Tryz.prog eo.G eo.an 0 Tryz.f49 _ eo.st
abbrev eo.Ok:=cI @eo.A eo.aC eo.add eo.F eo.out
theorem eo.eq{R:Type}(a:Int)(b:Int)(k:aZ→Option R):eo.A (a,b) k=
 aj (fm.call [a,b]) fun x1=>
 k (eo.out x1):=by kernel_rfl
theorem eo.ok:eo.Ok:=by
 rintro⟨p,q⟩ _
 rw[eo.eq,fm.run (d:=[p,q]) (by show [p,q].length≤_;simp)]
 rfl
noncomputable def eo.E:=Entry.ct [some tu,some tu] eo.st eo.aC eo.add eo.F eo.out
noncomputable def eo.call:eo.D→Option eo.X:=bH eo.E eo.st
theorem eo.run:bD eo.call eo.aC eo.add eo.F:=cO (cM [.d tu,.d tu] fun _=>by kernel_rfl)
noncomputable def eo.sg:SG Tryz.prog:=⟨49,aV,eo.E,.fn 0 (by kernel_rfl) eo.ok trivial⟩
abbrev eu.D:=Int×Int×Int
def eu.st:eu.D→SA:=fun(own,rev,delay)=>([.d tu own,.d tu rev,.d ti delay],[])
abbrev eu.Y:=Lk
abbrev eu.X:=Lk
def eu.out:eu.X→aZ:=fun x=>⟨.d j7 x,[],[]⟩
def eu.add:eu.D→eu.Y→eu.X:=fun(own,rev,delay) y=>y
def eu.aC:eu.D→Prop:=fun _=>True
def eu.F:eu.D→eu.Y:=fun(o,r,d)=>DR o r d
noncomputable def eu.G:dQ:=eR (P:=Tryz.prog) []
noncomputable def eu.an:eC:= {}
noncomputable def eu.A:= @cH Tryz.prog eu.G eu.an 0 Tryz.f50 _ eu.st
abbrev eu.Ok:=cI @eu.A eu.aC eu.add eu.F eu.out
theorem eu.eq{R:Type}(own:Int)(rev:Int)(delay:Int)(k:aZ→Option R):eu.A (own,rev,delay) k=
 k (eu.out ([([rev],((0:Int),((0:Int),((0:Int),())))),([own],((0:Int),(delay,((0:Int),()))))],())):=by kernel_rfl
theorem eu.ok:eu.Ok:=by
 rintro⟨o,r,d⟩ _
 rw[eu.eq]
 rfl
noncomputable def eu.E:=Entry.ct [some tu,some tu,some ti] eu.st eu.aC eu.add eu.F eu.out
noncomputable def eu.call:eu.D→Option eu.X:=bH eu.E eu.st
theorem eu.run:bD eu.call eu.aC eu.add eu.F:=cO (cM [.d tu,.d tu,.d ti] fun _=>by kernel_rfl)
noncomputable def eu.sg:SG Tryz.prog:=⟨50,aV,eu.E,.fn 0 (by kernel_rfl) eu.ok trivial⟩
abbrev cF.D:=Int
def cF.st:cF.D→SA:=fun own=>([.d tu own],[])
abbrev cF.Y:=Lk
abbrev cF.X:=Lk
def cF.out:cF.X→aZ:=fun x=>⟨.d j7 x,[],[]⟩
def cF.add:cF.D→cF.Y→cF.X:=fun own y=>y
def cF.aC:cF.D→Prop:=fun _=>True
def cF.F:cF.D→cF.Y:=fun o=>BL o
noncomputable def cF.G:dQ:=eR (P:=Tryz.prog) []
noncomputable def cF.an:eC:= {}
noncomputable def cF.A:= @cH Tryz.prog cF.G cF.an 0 Tryz.f53 _ cF.st
abbrev cF.Ok:=cI @cF.A cF.aC cF.add cF.F cF.out
theorem cF.eq{R:Type}(own:Int)(k:aZ→Option R):cF.A own k=
 k (cF.out ([([own],((0:Int),((0:Int),((0:Int),())))),(([]:List Int),((0:Int),((16:Int),((0:Int),()))))],())):=by kernel_rfl
theorem cF.ok:cF.Ok:=by
 intro o _
 rw[cF.eq]
 rfl
noncomputable def cF.E:=Entry.ct [some tu] cF.st cF.aC cF.add cF.F cF.out
noncomputable def cF.call:cF.D→Option cF.X:=bH cF.E cF.st
theorem cF.run:bD cF.call cF.aC cF.add cF.F:=cO (cM [.d tu] fun _=>by kernel_rfl)
noncomputable def cF.sg:SG Tryz.prog:=⟨53,aV,cF.E,.fn 0 (by kernel_rfl) cF.ok trivial⟩
abbrev aU.L0.D:=Bs×Bs×Int×Int×(Int×Unit)×Int×Nat×(Int×Unit)×(List Sg)
def aU.L0.st:aU.L0.D→AS:=fun(keys_2,m_2,i,n8,n8_2,n9,n9L,n9_2,n29)=>⟨([.undef,.d tU keys_2]++a9 4 ([.eB tH m_2,.undef,.ptr (.new 8 0) 0 [] 0,.ptr (.new 9 0) 0 [] 0,.d ti i]++a9 21 [])),[],(bJ 8 ([[.obj 0 false (.pr (.d ti n8) (.pr (.cV) (.d (.pair tu .unit) n8_2)))],[.obj 0 false (.pr (.d ti n9) (.pr (.cf (.new 29 0) 0 [] 0 0 n9L) (.d (.pair tu .unit) n9_2)))]]++bJ 19 [[.obj 0 false (.vec 60 iQ n29)],[],[]]))⟩
abbrev aU.L0.Y0:=Nat×(List Sg)
abbrev aU.L0.X0:=(Int×(Int×Unit)×Int×(Int×Unit))×(Nat×(List Sg))
def aU.L0.bq:aU.L0.X0→Exit×AS:=fun x=>(.exit 0,⟨(a9 8 ([.ptr (.new 8 0) 0 [] 0,.ptr (.new 9 0) 0 [] 0]++a9 22 [])),[],(bJ 8 ([[.obj 0 false (.pr (.d ti x.1.1) (.pr (.cV) (.d (.pair tu .unit) x.1.2.1)))],[.obj 0 false (.pr (.d ti x.1.2.2.1) (.pr (.cf (.new 29 0) 0 [] 0 0 x.2.1) (.d (.pair tu .unit) x.1.2.2.2)))]]++bJ 19 [[.obj 0 false (.vec 60 iQ x.2.2)],[],[]]))⟩)
abbrev aU.L0.X:=aU.L0.X0
abbrev aU.L0.Y:=aU.L0.Y0
def aU.L0.out:aU.L0.X→Out (Exit×AS):=fun x=> .ok (aU.L0.bq x)
def aU.L0.add:aU.L0.D→aU.L0.Y→aU.L0.X:=fun(keys_2,m_2,i,n8,n8_2,n9,n9L,n9_2,n29) y=>((n8,n8_2,n9,n9_2),y)
abbrev aU.D:=Int×Bs×Bs×Int
def aU.st:aU.D→SA:=fun(branch,keys,m,secret)=>([.d ti branch,.d tU keys,.d tH m,.d tu secret],[])
abbrev aU.Y:=lW
abbrev aU.X:=lW
def aU.out:aU.X→aZ:=fun x=>⟨.d ri x,[],[]⟩
def aU.add:aU.D→aU.Y→aU.X:=fun(branch,keys,m,secret) y=>y
def aU.L0.aC:aU.L0.D→Prop:=fun(ks,m,i,a,b,c,n,d,l)=>mS ks∧Sm m∧ks.length≤1000000∧∃k:Nat,k≤ks.length∧i=k∧k=n∧l=(ks.take k).map fun k=>gv k m
def aU.L0.F:aU.L0.D→aU.L0.Y:=fun(ks,m,i,a,b,c,n,d,l)=>(ks.length,ks.map fun k=>gv k m)
def Ch(branch:Int)(ks:List Int)(m:List Int)(secret:Int):lW:=(branch,ks.map (fun k=>gv k m),secret,())
def aU.aC:aU.D→Prop:=fun(b,ks,m,s)=>mS ks∧Sm m∧ks.length≤1000000
def aU.F:aU.D→aU.Y:=fun(b,ks,m,s)=>Ch b ks m s
noncomputable def aU.G:dQ:=eR (P:=Tryz.prog) [dB.sg]
noncomputable def aU.L0.E:=bN.ct aU.L0.st aU.L0.aC aU.L0.add aU.L0.F aU.L0.out
noncomputable def aU.L0.call:aU.L0.D→Option aU.L0.X:=dh aU.L0.E aU.L0.st
noncomputable def aU.an:eC:= {loops:=jJ [(3,{bm:=[1,6,8,9,10],sites:=[8,9,29],ix:=[⟨9,[.snd,.fst],29,51⟩]})],outs:=jI [(3,{bm:=[8,9],sites:=[8,9,29]},{bm:=[8]})],fG:=kh [(3,aU.L0.E)],res:=[some ri]}
noncomputable def aU.A:= @cH Tryz.prog aU.G aU.an 0 Tryz.f52 _ aU.st
abbrev aU.Ok:=cI @aU.A aU.aC aU.add aU.F aU.out
noncomputable def aU.L0.R:= @bX Tryz.prog aU.G aU.an 0 Tryz.f52 0 _ aU.L0.st
abbrev aU.L0.Ok:=eA Tryz.prog aU.G aU.an 0 Tryz.f52 0 aU.L0.st aU.L0.aC aU.L0.add aU.L0.F aU.L0.out
theorem aU.L0.run:bD aU.L0.call aU.L0.aC aU.L0.add aU.L0.F:=eG (eE [.d tU,.d tH,.d ti,.d ti,.d (.pair tu .unit),.d ti,.n,.d (.pair tu .unit),.d (.slice iQ)] fun _=>by kernel_rfl)
theorem aU.L0.aG:fR @aU.L0.R aU.L0.st aU.L0.aC aU.L0.add aU.L0.F aU.L0.bq aU.L0.Ok:=fU
theorem aU.L0.step{R:Type}(keys_2:Bs)(m_2:Bs)(i:Int)(n8:Int)(n8_2:(Int×Unit))(n9:Int)(n9L:Nat)(n9_2:(Int×Unit))(n29:(List Sg))(kn:AS→Option R)(kx:Exit→AS→Option R):aU.L0.R (keys_2,m_2,i,n8,n8_2,n9,n9L,n9_2,n29) kn kx=
  aK ((gb i (((List.length keys_2):Nat):Int))) (
   aK (eh i (((List.length keys_2):Nat):Int)) (
   aj (dB.call ((nth tu keys_2 (Int.toNat i)),m_2)) fun x1=>
   aK (decide (n9L≤(List.length n29))) (
   aK (dj (n9L+1) 16) (
   kn (aU.L0.st (keys_2,m_2,(bK .i64 i (1:Int)),n8,n8_2,n9,(n9L+1),n9_2,((List.take n9L n29)++ [x1])))) none) none) none) (
   kx (aU.L0.bq ((n8,n8_2,n9,n9_2),(n9L,n29))).1 (aU.L0.bq ((n8,n8_2,n9,n9_2),(n9L,n29))).2):=by kernel_rfl
theorem aU.eq{R:Type}(branch:Int)(keys:Bs)(m:Bs)(secret:Int)(k:aZ→Option R):aU.A (branch,keys,m,secret) k=
 aj (aU.L0.call (keys,m,(0:Int),(0:Int),((0:Int),()),branch,0,(secret,()),([]:List Sg))) fun x3=>
 aK (decide (0=0∧(0+x3.2.1)≤(List.length x3.2.2))) (
 k (aU.out (x3.1.2.2.1,((cut x3.2.2 0 x3.2.1),x3.1.2.2.2)))) none:=by kernel_rfl
theorem aU.L0.ok:aU.L0.Ok:=by
 refine aU.L0.aG (fun(ks,m,i,a,b,c,n,d,l)=>ks.length - i.toNat) ?_
 rintro⟨ks,m,i,a,b,c,n,d,l⟩ ⟨hl,hm,hb,k,hk,rfl,rfl,rfl⟩
 have hb:ks.length≤1000000:=hb
 have hk:k≤ks.length:=hk
 have ll:((ks.take k).map fun k=>gv k m).length=k:=by rw[List.length_map,List.length_take];omega
 by_cases h:k < ks.length
 ·left
  have hx:=hl _ (List.getElem_mem h)
  have n1:nth (.int .u64) ks k=ks[k]:=cj (t:= .int .u64) h
  refine⟨(ks,m,((k+1:Nat):Int),a,b,c,k+1,d,(ks.take (k+1)).map fun k=>gv k m),⟨hl,hm,hb,k+1,by omega,rfl,rfl,rfl⟩,by simp only[Int.toNat_natCast];omega,rfl,fun kn kx=> ?_⟩
  rw[aU.L0.step]
  simp(disch:=omega) only[↓S1,↓if_pos,↓if_neg,if_pos,if_neg,if_true,if_false,S2,n1]
  rw[dB.run (d:=(ks[k],m)) ⟨hx,hm⟩]
  have e:(ks.take (k+1)).map (fun k=>gv k m)=(ks.take k).map (fun k=>gv k m)++ [gv ks[k] m]:=by rw[List.take_succ_eq_append_getElem h,List.map_append];rfl
  rw[e]
  simp(disch:=omega) only[↓S1,↓if_pos,↓if_neg,if_pos,if_neg,if_true,if_false,S2,dB.add,dB.F,ll,Nat.le_refl,List.take_of_length_le (Nat.le_of_eq ll)]
 ·right
  obtain rfl:k=ks.length:=by omega
  intro R kn kx
  rw[aU.L0.step]
  simp(disch:=omega) only[↓S1,↓if_pos,↓if_neg,if_pos,if_neg,if_true,if_false,S2,aU.L0.add,aU.L0.F,List.take_length]
theorem aU.ok:aU.Ok:=by
 rintro⟨b,ks,m,s⟩ ⟨hl,hm,hb⟩
 rw[aU.eq,aU.L0.run (d:=(ks,m,0,0,(0,()),b,0,(s,()),[])) ⟨hl,hm,hb,0,by omega,rfl,rfl,rfl⟩]
 simp only[ab,aU.L0.add,aU.L0.F,List.length_map,Nat.zero_add,Nat.le_refl,and_self,decide_true,ax]
 rw[fc (l:=List.map (fun k=>gv k m) ks) (by rw[List.length_map])]
 rfl
noncomputable def aU.E:=Entry.ct [some ti,some tU,some tH,some tu] aU.st aU.aC aU.add aU.F aU.out
noncomputable def aU.call:aU.D→Option aU.X:=bH aU.E aU.st
theorem aU.run:bD aU.call aU.aC aU.add aU.F:=cO (cM [.d ti,.d tU,.d tB,.d tu] fun _=>by kernel_rfl)
noncomputable def aU.sg:SG Tryz.prog:=⟨52,aV,aU.E,.fn 1 (by kernel_rfl) aU.ok (And.intro (.ct aU.L0.ok (by kernel_rfl)) trivial)⟩
set_option synthInstance.maxSize 5000
abbrev bZ.L0.D:=Lk×Int
def bZ.L0.st:bZ.L0.D→AS:=fun(l_2,i)=>⟨([.undef,.eB j7 l_2,.undef,.d ti i]++a9 23 []),[],(List.replicate 27 [])⟩
abbrev bZ.L0.Y0:=Unit
abbrev bZ.L0.X0:=Unit
def bZ.L0.bq:bZ.L0.X0→Exit×AS:=fun x=>(.ret,⟨([.undef,.undef,.d .bool false]++a9 24 []),[],(List.replicate 27 [])⟩)
abbrev bZ.L0.Y1:=Unit
abbrev bZ.L0.X1:=Lk
def bZ.L0.eM:bZ.L0.X1→Exit×AS:=fun x=>(.exit 0,⟨([.undef,.eB j7 x]++a9 25 []),[],(List.replicate 27 [])⟩)
abbrev bZ.L0.X:=(bZ.L0.X0)⊕(bZ.L0.X1)
abbrev bZ.L0.Y:=(bZ.L0.Y0)⊕(bZ.L0.Y1)
def bZ.L0.out:bZ.L0.X→Out (Exit×AS):=fun x=> .br x.isLeft (.get x.getLeft? fun a=> .ok (bZ.L0.bq a)) (.get x.getRight? fun b=> .ok (bZ.L0.eM b))
def bZ.L0.add:bZ.L0.D→bZ.L0.Y→bZ.L0.X:=fun(l_2,i) y=>match y with | .inl y=> .inl y | .inr z=> .inr (l_2)
abbrev bZ.D:=Lk
def bZ.st:bZ.D→SA:=fun l=>([.d j7 l],[])
abbrev bZ.Y:=Bool
abbrev bZ.X:=Bool
def bZ.out:bZ.X→aZ:=fun x=>⟨.d .bool x,[],[]⟩
def bZ.add:bZ.D→bZ.Y→bZ.X:=fun l y=>y
def nK(bs:List gf):Bool:=bs.all fun b=>decide (b.1.length≤20)
def DI(l:Lk):Bool:=nK (l.1.take 7) && decide (l.1.length≤6)
def bZ.L0.aC:bZ.L0.D→Prop:=fun(l,i)=>∃k:Nat,k≤l.1.length∧k≤7∧i=k
def bZ.L0.F:bZ.L0.D→bZ.L0.Y:=fun(l,i)=>if nK ((l.1.take 7).drop i.toNat) then .inr () else .inl ()
def bZ.aC:bZ.D→Prop:=fun _=>True
def bZ.F:bZ.D→bZ.Y:=fun l=>DI l
noncomputable def bZ.G:dQ:=eR (P:=Tryz.prog) []
noncomputable def bZ.L0.E:=bN.ct bZ.L0.st bZ.L0.aC bZ.L0.add bZ.L0.F bZ.L0.out
noncomputable def bZ.L0.call:bZ.L0.D→Option bZ.L0.X:=dh bZ.L0.E bZ.L0.st
noncomputable def bZ.an:eC:= {loops:=jJ [(2,{bm:=[1,3]})],outs:=jI [(2,{bm:=[1]},{bm:=[2]})],fG:=kh [(2,bZ.L0.E)]}
noncomputable def bZ.A:= @cH Tryz.prog bZ.G bZ.an 0 Tryz.f10 _ bZ.st
abbrev bZ.Ok:=cI @bZ.A bZ.aC bZ.add bZ.F bZ.out
noncomputable def bZ.L0.R:= @bX Tryz.prog bZ.G bZ.an 0 Tryz.f10 0 _ bZ.L0.st
abbrev bZ.L0.Ok:=eA Tryz.prog bZ.G bZ.an 0 Tryz.f10 0 bZ.L0.st bZ.L0.aC bZ.L0.add bZ.L0.F bZ.L0.out
theorem bZ.L0.run:bD bZ.L0.call bZ.L0.aC bZ.L0.add bZ.L0.F:=eG (eE [.d j7,.d ti] fun _=>by kernel_rfl)
theorem bZ.L0.aG:iZ @bZ.L0.R bZ.L0.st bZ.L0.aC bZ.L0.add bZ.L0.F bZ.L0.out bZ.L0.Ok:=jm
theorem bZ.L0.step{R:Type}(l_2:Lk)(i:Int)(kn:AS→Option R)(kx:Exit→AS→Option R):bZ.L0.R (l_2,i) kn kx=
  aK ((gb i (((List.length l_2.1):Nat):Int))) (
   aK ((gb i (7:Int))) (
    aK (eh i (((List.length l_2.1):Nat):Int)) (
    aK ((mN (((List.length (nth fg l_2.1 (Int.toNat i)).1):Nat):Int) (20:Int))) (
     kx (bZ.L0.bq ()).1 (bZ.L0.bq ()).2) (
     kn (bZ.L0.st (l_2,(bK .i64 i (1:Int)))))) none) (
    kx (bZ.L0.eM l_2).1 (bZ.L0.eM l_2).2)) (
   kx (bZ.L0.eM l_2).1 (bZ.L0.eM l_2).2):=by kernel_rfl
theorem bZ.eq{R:Type}(l:Lk)(k:aZ→Option R):bZ.A l k=
  aj (bZ.L0.call (l,(0:Int))) fun x1=>
  aK (x1.isLeft) (
   aj (x1.getLeft?) fun a2=>
   k (bZ.out false)) (
   aj (x1.getRight?) fun b3=>
   k (bZ.out (zw (((List.length b3.1):Nat):Int) (6:Int)))):=by kernel_rfl
theorem bZ.L0.ok:bZ.L0.Ok:=by
 refine bZ.L0.aG (fun(l,i)=>7 - i.toNat) ?_
 rintro⟨l,i⟩ ⟨k,hk,hk7,rfl⟩
 have hk:k≤l.1.length:=hk
 have hk7:k≤7:=hk7
 by_cases h:k < l.1.length∧k < 7
 ·obtain⟨h,h7⟩:=h
  have ht:k < (l.1.take 7).length:=by rw[List.length_take];omega
  have n1:nth (.pair (.slice (.int .u64)) (.pair (.int .i64) (.pair (.int .i64) (.pair (.int .u64) .unit)))) l.1 k=l.1[k]:=cj (t:=(.pair (.slice (.int .u64)) (.pair (.int .i64) (.pair (.int .i64) (.pair (.int .u64) .unit))))) h
  have hg:(l.1.take 7)[k]=l.1[k]:=List.getElem_take
  have hd:nK ((l.1.take 7).drop k)=(decide (l.1[k].1.length≤20) && nK ((l.1.take 7).drop (k+1))):=by
   unfold nK
   rw[List.drop_eq_getElem_cons ht,List.all_cons,hg]
  have step:∀ {R:Type} (kn:AS→Option R) (kx:Exit→AS→Option R),bZ.L0.R (l,(k:Int)) kn kx=aK (decide (l.1[k].1.length≤20)) (kn (bZ.L0.st (l,((k+1:Nat):Int)))) (kx (bZ.L0.bq ()).1 (bZ.L0.bq ()).2):=by
   intro R kn kx
   rw[bZ.L0.step,bw (by omega),bw (by omega),bh (by omega) (by omega),Int.toNat_natCast,n1,N.kk (by omega)]
   simp only[ax]
   by_cases hc:l.1[k].1.length≤20
   ·rw[dC (by omega),aQ hc];rfl
   ·rw[dL (by omega),aM hc];rfl
  cases hp:decide (l.1[k].1.length≤20)
  ·right
   refine⟨bZ.L0.bq (),?_,fun kn kx=> ?_⟩
   ·simp only[bZ.L0.add,bZ.L0.F,Int.toNat_natCast,hd,hp,Bool.false_and,Bool.false_eq_true,if_false]
    rfl
   ·rw[step,hp,aw]
  ·left
   refine⟨(l,((k+1:Nat):Int)),⟨k+1,by omega,by omega,rfl⟩,by simp only[Int.toNat_natCast];omega,?_,fun kn kx=> ?_⟩
   ·simp only[bZ.L0.add,bZ.L0.F,Int.toNat_natCast,hd,hp,Bool.true_and]
   ·rw[step,hp,ax]
 ·right
  have ht:(l.1.take 7).length≤k:=by rw[List.length_take];omega
  refine⟨bZ.L0.eM l,?_,fun kn kx=> ?_⟩
  ·simp only[bZ.L0.add,bZ.L0.F,Int.toNat_natCast,List.drop_of_length_le ht]
   rfl
  ·rw[bZ.L0.step]
   by_cases h1:k < l.1.length
   ·rw[bw (by omega),bn (by omega)];rfl
   ·rw[bn (by omega)];rfl
theorem bZ.ok:bZ.Ok:=by
 intro l _
 rw[bZ.eq,bZ.L0.run (d:=(l,0)) ⟨0,by omega,by omega,rfl⟩]
 simp only[ab,bZ.L0.add,bZ.L0.F,Int.toNat_zero,List.drop_zero,bZ.add,bZ.F,DI]
 cases nK (l.1.take 7)
 ·rfl
 ·simp only[if_true,Bool.true_and]
  show some (bZ.out (zw _ _))=_
  by_cases h:l.1.length≤6
  ·rw[nh (by omega),aQ h]
  ·rw[kC (by omega),aM h]
noncomputable def bZ.E:=Entry.ct [some j7] bZ.st bZ.aC bZ.add bZ.F bZ.out
noncomputable def bZ.call:bZ.D→Option bZ.X:=bH bZ.E bZ.st
theorem bZ.run:bD bZ.call bZ.aC bZ.add bZ.F:=cO (cM [.d j7] fun _=>by kernel_rfl)
noncomputable def bZ.sg:SG Tryz.prog:=⟨10,aV,bZ.E,.fn 1 (by kernel_rfl) bZ.ok (And.intro (.ct bZ.L0.ok (by kernel_rfl)) trivial)⟩
set_option synthInstance.maxSize 5000
def jr(o:List Int)(ks:List Int):List Int:=ks.foldl (fun o p=>o++fL p) o
def BE(o:List Int)(b:gf):List Int:=ea (ea (jr (ea o b.1.length) b.1) b.2.1) b.2.2.1++fL b.2.2.2.1
def pd(l:Lk):List Int:=if iN l then l.1.foldl BE (ea [] l.1.length) else []
theorem p9:∀(ks:List Int) (o:List Int),(jr o ks).length=o.length+8*ks.length
 |[],o=>rfl
 |k::ks,o=>by
  show(jr (o++fL k) ks).length=_
  rw[p9 ks,List.length_append,bO,List.length_cons];omega
theorem yu(o:List Int)(b:gf)(h:b.1.length≤12):(BE o b).length≤o.length+200:=by
 unfold BE
 have h1:=fb o b.1.length
 have h2:=p9 b.1 (ea o b.1.length)
 have h3:=fb (jr (ea o b.1.length) b.1) b.2.1
 have h4:=fb (ea (jr (ea o b.1.length) b.1) b.2.1) b.2.2.1
 rw[List.length_append,bO];omega
def BJ(n:Int):Prop:=n≤9223372036854775807
def Ea(b:gf):Prop:=b.1.length≤12∧BJ b.2.1∧BJ b.2.2.1
theorem CT{b:gf}(h:oh b=true):Ea b:=by
 unfold oh vR at h
 simp only[Bool.and_eq_true,decide_eq_true_eq]at h
 obtain⟨h1,_,h2,h3,_⟩:=h
 exact⟨h1,by unfold BJ;omega,by unfold BJ;omega⟩
theorem xH(o:List Int)(ks:List Int)(k:Nat)(h:k < ks.length):jr o (ks.drop k)=jr (o++fL ks[k]) (ks.drop (k+1)):=by rw[List.drop_eq_getElem_cons h];rfl
abbrev aE.L0.D:=Bs×(List gf)×Int×Int
def aE.L0.st:aE.L0.D→AS:=fun(outv,t16,t17,t18)=>⟨([.undef,.undef,.undef,.d tB outv]++a9 12 ([.d (.slice fg) t16,.d ti t17,.d ti t18]++a9 31 [])),[],(List.replicate 50 [])⟩
abbrev aE.L0.Y0:=Bs
abbrev aE.L0.X0:=Bs
def aE.L0.bq:aE.L0.X0→Exit×AS:=fun x=>(.exit 0,⟨([.undef,.undef,.undef,.d tB x]++a9 46 []),[],(List.replicate 50 [])⟩)
abbrev aE.L0.X:=aE.L0.X0
abbrev aE.L0.Y:=aE.L0.Y0
def aE.L0.out:aE.L0.X→Out (Exit×AS):=fun x=> .ok (aE.L0.bq x)
def aE.L0.add:aE.L0.D→aE.L0.Y→aE.L0.X:=fun(outv,t16,t17,t18) y=>y
abbrev aE.L1.D:=Bs×(List gf)×Int×Int×Bs×Int×Int×gf
def aE.L1.st:aE.L1.D→AS:=fun(outv_2,t16_2,t17_2,t18_2,t28,t29,t30,n5)=>⟨([.undef,.undef,.undef,.d tB outv_2,.undef,.ptr (.new 5 0) 0 [] 0]++a9 10 ([.d (.slice fg) t16_2,.d ti t17_2,.d ti t18_2]++a9 9 ([.d tU t28,.d ti t29,.d ti t30]++a9 19 []))),[],(bJ 5 ([[.obj 0 false (.d fg n5)]]++bJ 44 []))⟩
abbrev aE.L1.Y0:=Bs
abbrev aE.L1.X0:=((List gf)×Int×Int×gf)×(Bs)
def aE.L1.bq:aE.L1.X0→Exit×AS:=fun x=>(.exit 2,⟨([.undef,.undef,.undef,.d tB x.2,.undef,.ptr (.new 5 0) 0 [] 0]++a9 10 ([.d (.slice fg) x.1.1,.d ti x.1.2.1,.d ti x.1.2.2.1]++a9 31 [])),[],(bJ 5 ([[.obj 0 false (.d fg x.1.2.2.2)]]++bJ 44 []))⟩)
abbrev aE.L1.X:=aE.L1.X0
abbrev aE.L1.Y:=aE.L1.Y0
def aE.L1.out:aE.L1.X→Out (Exit×AS):=fun x=> .ok (aE.L1.bq x)
def aE.L1.add:aE.L1.D→aE.L1.Y→aE.L1.X:=fun(outv_2,t16_2,t17_2,t18_2,t28,t29,t30,n5) y=>((t16_2,t17_2,t18_2,n5),y)
abbrev aE.D:=Lk
def aE.st:aE.D→SA:=fun l=>([.d j7 l],[])
abbrev aE.Y:=Bs
abbrev aE.X:=Bs
def aE.out:aE.X→aZ:=fun x=>⟨.d tB x,[],[]⟩
def aE.add:aE.D→aE.Y→aE.X:=fun l y=>y
def aE.L1.aC:aE.L1.D→Prop:=fun(o,bs,n,i,ks,m,j,b)=>ks.length≤12∧o.length+8*ks.length≤80000000+8*j.toNat∧m=ks.length∧∃k:Nat,k≤ks.length∧j=k
def aE.L1.F:aE.L1.D→aE.L1.Y:=fun(o,bs,n,i,ks,m,j,b)=>jr o (ks.drop j.toNat)
def aE.L0.aC:aE.L0.D→Prop:=fun(o,bs,n,i)=>(∀b∈bs,Ea b)∧bs.length≤4∧o.length≤1000+200*i.toNat∧n=bs.length∧∃k:Nat,k≤bs.length∧i=k
def aE.L0.F:aE.L0.D→aE.L0.Y:=fun(o,bs,n,i)=>(bs.drop i.toNat).foldl BE o
def aE.aC:aE.D→Prop:=fun l=>yk l∧l.1.length≤1000000000
def aE.F:aE.D→aE.Y:=fun l=>pd l
noncomputable def aE.G:dQ:=eR (P:=Tryz.prog) [aO.sg,dy.sg,dp.sg]
noncomputable def aE.L0.E:=bN.ct aE.L0.st aE.L0.aC aE.L0.add aE.L0.F aE.L0.out
noncomputable def aE.L0.call:aE.L0.D→Option aE.L0.X:=dh aE.L0.E aE.L0.st
noncomputable def aE.L1.E:=bN.ct aE.L1.st aE.L1.aC aE.L1.add aE.L1.F aE.L1.out
noncomputable def aE.L1.call:aE.L1.D→Option aE.L1.X:=dh aE.L1.E aE.L1.st
noncomputable def aE.an:eC:= {loops:=jJ [(5,{bm:=[3,16,17,18]}),(9,{bm:=[3,5,16,17,18,28,29,30],sites:=[5]})],outs:=jI [(5,{bm:=[3]},{bm:=[2]}),(9,{bm:=[3,5,16,17,18],sites:=[5]},{bm:=[2]})],fG:=kh [(5,aE.L0.E),(9,aE.L1.E)],res:=[some tB]}
noncomputable def aE.A:= @cH Tryz.prog aE.G aE.an 0 Tryz.f17 _ aE.st
abbrev aE.Ok:=cI @aE.A aE.aC aE.add aE.F aE.out
noncomputable def aE.L0.R:= @bX Tryz.prog aE.G aE.an 0 Tryz.f17 0 _ aE.L0.st
abbrev aE.L0.Ok:=eA Tryz.prog aE.G aE.an 0 Tryz.f17 0 aE.L0.st aE.L0.aC aE.L0.add aE.L0.F aE.L0.out
noncomputable def aE.L1.R:= @bX Tryz.prog aE.G aE.an 0 Tryz.f17 1 _ aE.L1.st
abbrev aE.L1.Ok:=eA Tryz.prog aE.G aE.an 0 Tryz.f17 1 aE.L1.st aE.L1.aC aE.L1.add aE.L1.F aE.L1.out
theorem aE.L0.run:bD aE.L0.call aE.L0.aC aE.L0.add aE.L0.F:=eG (eE [.d tB,.d (.slice fg),.d ti,.d ti] fun _=>by kernel_rfl)
theorem aE.L0.aG:fR @aE.L0.R aE.L0.st aE.L0.aC aE.L0.add aE.L0.F aE.L0.bq aE.L0.Ok:=fU
theorem aE.L0.step{R:Type}(outv:Bs)(t16:(List gf))(t17:Int)(t18:Int)(kn:AS→Option R)(kx:Exit→AS→Option R):aE.L0.R (outv,t16,t17,t18) kn kx=
  aK ((gb t18 t17)) (
   aK (eh t18 (((List.length t16):Nat):Int)) (
   aj (dy.call (outv,(((List.length (nth fg t16 (Int.toNat t18)).1):Nat):Int))) fun x1=>
   aj (aE.L1.call (x1,t16,t17,t18,(nth fg t16 (Int.toNat t18)).1,(((List.length (nth fg t16 (Int.toNat t18)).1):Nat):Int),(0:Int),(nth fg t16 (Int.toNat t18)))) fun x2=>
   aj (dy.call (x2.2,x2.1.2.2.2.2.1)) fun x3=>
   aj (dy.call (x3,x2.1.2.2.2.2.2.1)) fun x4=>
   aj (dp.call (x4,x2.1.2.2.2.2.2.2.1)) fun x5=>
   kn (aE.L0.st (x5,x2.1.1,x2.1.2.1,(bK .i64 x2.1.2.2.1 (1:Int))))) none) (
   kx (aE.L0.bq outv).1 (aE.L0.bq outv).2):=by kernel_rfl
theorem aE.L1.run:bD aE.L1.call aE.L1.aC aE.L1.add aE.L1.F:=eG (eE [.d tB,.d (.slice fg),.d ti,.d ti,.d tU,.d ti,.d ti,.d fg] fun _=>by kernel_rfl)
theorem aE.L1.aG:fR @aE.L1.R aE.L1.st aE.L1.aC aE.L1.add aE.L1.F aE.L1.bq aE.L1.Ok:=fU
theorem aE.L1.step{R:Type}(outv_2:Bs)(t16_2:(List gf))(t17_2:Int)(t18_2:Int)(t28:Bs)(t29:Int)(t30:Int)(n5:gf)(kn:AS→Option R)(kx:Exit→AS→Option R):aE.L1.R (outv_2,t16_2,t17_2,t18_2,t28,t29,t30,n5) kn kx=
  aK ((gb t30 t29)) (
   aK (eh t30 (((List.length t28):Nat):Int)) (
   aj (dp.call (outv_2,(nth tu t28 (Int.toNat t30)))) fun x1=>
   kn (aE.L1.st (x1,t16_2,t17_2,t18_2,t28,t29,(bK .i64 t30 (1:Int)),n5))) none) (
   kx (aE.L1.bq ((t16_2,t17_2,t18_2,n5),outv_2)).1 (aE.L1.bq ((t16_2,t17_2,t18_2,n5),outv_2)).2):=by kernel_rfl
theorem aE.eq{R:Type}(l:Lk)(k:aZ→Option R):aE.A l k=
  aj (aO.call l) fun x1=>
  aK ((!x1)) (
   k (aE.out ([]:List Int))) (
   aj (dy.call (([]:List Int),(((List.length l.1):Nat):Int))) fun x2=>
   aj (aE.L0.call (x2,l.1,(((List.length l.1):Nat):Int),(0:Int))) fun x9=>
   k (aE.out x9)):=by kernel_rfl
theorem aE.L1.ok:aE.L1.Ok:=by
 refine aE.L1.aG (fun(o,bs,n,i,ks,m,j,b)=>ks.length - j.toNat) ?_
 rintro⟨o,bs,n,i,ks,m,j,b⟩ ⟨hk12,hl,rfl,k,hk,rfl⟩
 have hk12:ks.length≤12:=hk12
 have hk:k≤ks.length:=hk
 have hl:o.length+8*ks.length≤80000000+8*(k:Int).toNat:=hl
 rw[Int.toNat_natCast]at hl
 by_cases h:k < ks.length
 ·left
  have n1:nth (.int .u64) ks k=ks[k]:=cj (t:= .int .u64) h
  refine⟨(o++fL ks[k],bs,n,i,ks,ks.length,((k+1:Nat):Int),b),⟨hk12,by rw[List.length_append,bO,Int.toNat_natCast];omega,rfl,k+1,by omega,rfl⟩,by simp only[Int.toNat_natCast];omega,?_,fun kn kx=> ?_⟩
  ·simp only[aE.L1.add,aE.L1.F,Int.toNat_natCast]
   rw[xH _ _ _ h]
  ·rw[aE.L1.step]
   simp(disch:=omega) only[↓S1,↓if_pos,↓if_neg,if_pos,if_neg,if_true,if_false,S2,n1]
   rw[dp.run (d:=(o,ks[k])) (by show o.length≤90000000;omega)]
   rfl
 ·right
  obtain rfl:k=ks.length:=by omega
  intro R kn kx
  rw[aE.L1.step]
  simp(disch:=omega) only[↓S1,↓if_pos,↓if_neg,if_pos,if_neg,if_true,if_false,S2,aE.L1.add,aE.L1.F,List.drop_length]
  rfl
theorem aE.L0.ok:aE.L0.Ok:=by
 refine aE.L0.aG (fun(o,bs,n,i)=>bs.length - i.toNat) ?_
 rintro⟨o,bs,n,i⟩ ⟨hb,h4,hl,rfl,k,hk,rfl⟩
 have h4:bs.length≤4:=h4
 have hk:k≤bs.length:=hk
 have hl:o.length≤1000+200*(k:Int).toNat:=hl
 rw[Int.toNat_natCast]at hl
 by_cases h:k < bs.length
 ·left
  have hx:=hb _ (List.getElem_mem h)
  have n1:nth (.pair (.slice (.int .u64)) (.pair (.int .i64) (.pair (.int .i64) (.pair (.int .u64) .unit)))) bs k=bs[k]:=cj (t:=(.pair (.slice (.int .u64)) (.pair (.int .i64) (.pair (.int .i64) (.pair (.int .u64) .unit))))) h
  have e0:=yu o bs[k] hx.1
  refine⟨(BE o bs[k],bs,bs.length,((k+1:Nat):Int)),⟨hb,h4,by rw[Int.toNat_natCast];omega,rfl,k+1,by omega,rfl⟩,by simp only[Int.toNat_natCast];omega,?_,fun kn kx=> ?_⟩
  ·simp only[aE.L0.add,aE.L0.F,Int.toNat_natCast]
   rw[List.drop_eq_getElem_cons h]
   rfl
  ·rw[aE.L0.step,bw (by omega),bh (by omega) (by omega),Int.toNat_natCast,n1]
   obtain⟨⟨ks,af,dl,sc,u⟩,hbk⟩:∃b,bs[k]=b:=⟨_,rfl⟩
   rw[hbk]at hx e0 ⊢
   obtain⟨h12,ha,hd⟩:=hx
   have h12:ks.length≤12:=h12
   have ha:af≤9223372036854775807:=ha
   have hd:dl≤9223372036854775807:=hd
   have l1:=fb o ks.length
   have l2:=p9 ks (ea o ks.length)
   have l3:=fb (jr (ea o ks.length) ks) af
   have l4:=fb (ea (jr (ea o ks.length) ks) af) dl
   simp only[ax]
   rw[dy.run (d:=(o,(ks.length:Int))) ⟨by show o.length≤90000000;omega,by show(ks.length:Int)≤9223372036854775807;omega⟩]
   simp only[ab,dy.add,dy.F]
   rw[aE.L1.run (d:=(ea o ks.length,bs,bs.length,k,ks,ks.length,0,(ks,af,dl,sc,u))) ⟨h12,by show(ea o ks.length).length+8*ks.length≤_;omega,rfl,0,by omega,rfl⟩]
   simp only[ab,aE.L1.add,aE.L1.F,Int.toNat_zero,List.drop_zero]
   rw[dy.run (d:=(jr (ea o ks.length) ks,af)) ⟨by show(jr (ea o ks.length) ks).length≤90000000;omega,ha⟩]
   simp only[ab,dy.add,dy.F]
   rw[dy.run (d:=(ea (jr (ea o ks.length) ks) af,dl)) ⟨by show(ea (jr (ea o ks.length) ks) af).length≤90000000;omega,hd⟩]
   simp only[ab,dy.add,dy.F]
   rw[dp.run (d:=(ea (ea (jr (ea o ks.length) ks) af) dl,sc)) (by show(ea (ea (jr (ea o ks.length) ks) af) dl).length≤90000000;omega)]
   simp only[ab,dp.add,dp.F]
   rw[N.kk (by omega)]
   rfl
 ·right
  obtain rfl:k=bs.length:=by omega
  intro R kn kx
  rw[aE.L0.step]
  simp(disch:=omega) only[↓S1,↓if_pos,↓if_neg,if_pos,if_neg,if_true,if_false,S2,aE.L0.add,aE.L0.F,List.drop_length]
  rfl
theorem AX{l:Lk}(h:iN l=true):(∀b∈l.1,Ea b)∧0 < l.1.length∧l.1.length≤4:=by
 unfold iN at h
 simp only[Bool.and_eq_true,List.all_eq_true,decide_eq_true_eq]at h
 exact⟨fun b hb=>CT (h.1 b hb),h.2⟩
theorem aE.ok:aE.Ok:=by
 rintro l ⟨hl,hb⟩
 have hl:yk l:=hl
 rw[aE.eq,aO.run (d:=l) ⟨hl,hb⟩]
 simp only[ab,aO.add,aO.F,aE.add,aE.F,pd]
 cases hok:iN l
 ·rfl
 ·obtain⟨h1,h2,h3⟩:=AX hok
  have l1:=fb [] l.1.length
  have l0:([]:List Int).length=0:=rfl
  simp only[Bool.not_true,aw,if_true]
  rw[dy.run (d:=([],(l.1.length:Int))) ⟨by show([]:List Int).length≤90000000;omega,by show(l.1.length:Int)≤9223372036854775807;omega⟩]
  simp only[ab,dy.add,dy.F]
  rw[aE.L0.run (d:=(ea [] l.1.length,l.1,l.1.length,0)) ⟨h1,h3,by show(ea [] l.1.length).length≤_;omega,rfl,0,by omega,rfl⟩]
  rfl
theorem nP(l:Lk):(pd l).length≤1000:=by
 unfold pd
 split
 ·rename_i h
  obtain⟨h1,h2,h3⟩:=AX h
  have key:∀(bs:List gf) (o:List Int),(∀b∈bs,Ea b)→(bs.foldl BE o).length≤o.length+200*bs.length:=by
   intro bs
   induction bs with
   |nil=>intro o _;exact Nat.le_refl _
   |cons b bs ih=>
    intro o hb
    have e1:=ih (BE o b) fun x hx=>hb x (List.mem_cons_of_mem _ hx)
    have e2:=yu o b (hb b List.mem_cons_self).1
    rw[List.foldl_cons,List.length_cons];omega
  have e:=key l.1 (ea [] l.1.length) h1
  have e2:=fb [] l.1.length
  have l0:([]:List Int).length=0:=rfl
  omega
 ·exact Nat.zero_le _
def DU:ByteArray:=⟨#[108,111,99,107]⟩
def EX(l:Lk):List Int:=if iN l then w5 DU [pd l] else List.replicate 32 0
noncomputable def aE.E:=Entry.ct [some j7] aE.st aE.aC aE.add aE.F aE.out
noncomputable def aE.call:aE.D→Option aE.X:=bH aE.E aE.st
theorem aE.run:bD aE.call aE.aC aE.add aE.F:=cO (cM [.d j7] fun _=>by kernel_rfl)
noncomputable def aE.sg:SG Tryz.prog:=⟨17,aV,aE.E,.fn 2 (by kernel_rfl) aE.ok (And.intro (.ct aE.L0.ok (by kernel_rfl)) (And.intro (.ct aE.L1.ok (by kernel_rfl)) trivial))⟩
abbrev fB.D:=Lk
def fB.st:fB.D→SA:=fun l=>([.d j7 l],[])
abbrev fB.Y:=Bs
abbrev fB.X:=Bs
def fB.out:fB.X→aZ:=fun x=>⟨.d tH x,[],[]⟩
def fB.add:fB.D→fB.Y→fB.X:=fun l y=>y
def fB.aC:fB.D→Prop:=fun l=>yk l∧l.1.length≤1000000000
def fB.F:fB.D→fB.Y:=fun l=>EX l
noncomputable def fB.G:dQ:=eR (P:=Tryz.prog) [aO.sg,aE.sg,bR.sg]
noncomputable def fB.an:eC:= {}
noncomputable def fB.A:= @cH Tryz.prog fB.G fB.an 0 Tryz.f19 _ fB.st
abbrev fB.Ok:=cI @fB.A fB.aC fB.add fB.F fB.out
theorem fB.eq{R:Type}(l:Lk)(k:aZ→Option R):fB.A l k=
  aj (aO.call l) fun x1=>
  aK ((!x1)) (
   k (fB.out (List.replicate 32 (0:Int)))) (
   aj (aE.call l) fun x2=>
   aj (bR.call ((⟨#[108,111,99,107]⟩:ByteArray),[x2])) fun x3=>
   k (fB.out x3)):=by kernel_rfl
theorem fB.ok:fB.Ok:=by
 rintro l ⟨hl,hb⟩
 have hl:yk l:=hl
 have hlen:=nP l
 rw[fB.eq,aO.run (d:=l) ⟨hl,hb⟩,aE.run (d:=l) ⟨hl,hb⟩]
 simp only[ab,aO.add,aO.F,aE.add,aE.F,fB.add,fB.F,EX]
 rw[bR.run (d:=((⟨#[108,111,99,107]⟩:ByteArray),[pd l])) (sE (by decide) (by omega))]
 cases iN l <;> rfl
noncomputable def fB.E:=Entry.ct [some j7] fB.st fB.aC fB.add fB.F fB.out
noncomputable def fB.call:fB.D→Option fB.X:=bH fB.E fB.st
theorem fB.run:bD fB.call fB.aC fB.add fB.F:=cO (cM [.d j7] fun _=>by kernel_rfl)
noncomputable def fB.sg:SG Tryz.prog:=⟨19,aV,fB.E,.fn 0 (by kernel_rfl) fB.ok trivial⟩
set_option synthInstance.maxSize 5000
abbrev dV.D:=Bs×Bs
def dV.st:dV.D→SA:=fun(b,h)=>([.d tB b,.d tH h],[])
abbrev dV.Y:=Bs
abbrev dV.X:=Bs
def dV.out:dV.X→aZ:=fun x=>⟨.d tB x,[],[]⟩
def dV.add:dV.D→dV.Y→dV.X:=fun(b,h) y=>y
def dV.aC:dV.D→Prop:=fun(b,h)=>b.length+h.length≤100000000∧h.length=32
def dV.F:dV.D→dV.Y:=fun(b,h)=>b++h
noncomputable def dV.G:dQ:=eR (P:=Tryz.prog) [dr.sg]
noncomputable def dV.an:eC:= {}
noncomputable def dV.A:= @cH Tryz.prog dV.G dV.an 0 Tryz.f140 _ dV.st
abbrev dV.Ok:=cI @dV.A dV.aC dV.add dV.F dV.out
theorem dV.eq{R:Type}(b:Bs)(h:Bs)(k:aZ→Option R):dV.A (b,h) k=
 aj (dr.call (b,(cut h 0 32))) fun x1=>
 k (dV.out x1):=by kernel_rfl
theorem dV.ok:dV.Ok:=by
 rintro⟨b,h⟩ ⟨h1,h2⟩
 have h1:b.length+h.length≤100000000:=h1
 have h2:h.length=32:=h2
 rw[dV.eq,fc h2,dr.run (d:=(b,h)) h1]
 rfl
noncomputable def dV.E:=Entry.ct [some tB,some tH] dV.st dV.aC dV.add dV.F dV.out
noncomputable def dV.call:dV.D→Option dV.X:=bH dV.E dV.st
theorem dV.run:bD dV.call dV.aC dV.add dV.F:=cO (cM [.d tB,.d tB] fun _=>by kernel_rfl)
noncomputable def dV.sg:SG Tryz.prog:=⟨140,aV,dV.E,.fn 0 (by kernel_rfl) dV.ok trivial⟩
abbrev dR.D:=Bs×Bs
def dR.st:dR.D→SA:=fun(b,c)=>([.d tB b,.d tB c],[])
abbrev dR.Y:=Bs
abbrev dR.X:=Bs
def dR.out:dR.X→aZ:=fun x=>⟨.d tB x,[],[]⟩
def dR.add:dR.D→dR.Y→dR.X:=fun(b,c) y=>y
def dR.aC:dR.D→Prop:=fun(b,c)=>b.length+c.length≤90000000
def dR.F:dR.D→dR.Y:=fun(b,c)=>b++(fj c.length++c)
noncomputable def dR.G:dQ:=eR (P:=Tryz.prog) [cr.sg,az.sg]
noncomputable def dR.an:eC:= {res:=[some tB]}
noncomputable def dR.A:= @cH Tryz.prog dR.G dR.an 0 Tryz.f141 _ dR.st
abbrev dR.Ok:=cI @dR.A dR.aC dR.add dR.F dR.out
theorem dR.eq{R:Type}(b:Bs)(c:Bs)(k:aZ→Option R):dR.A (b,c) k=
 aj (cr.call (((List.length c):Nat):Int)) fun x1=>
 aj (az.call [b,x1,c]) fun x2=>
 k (dR.out x2):=by kernel_rfl
theorem dR.ok:dR.Ok:=by
 rintro⟨b,c⟩ h
 have h:b.length+c.length≤90000000:=h
 have hl:=gJ c.length
 rw[dR.eq,cr.run (d:=(c.length:Int)) ⟨by omega,by omega⟩]
 simp only[ab,cr.add,cr.F]
 rw[az.run (d:=[b,fj c.length,c]) ⟨by show [b,fj c.length,c].length≤_;simp,by show je [b,fj c.length,c]≤_;simp only[je,List.flatten_cons,List.flatten_nil,List.append_nil,List.length_append];omega⟩]
 simp only[ab,az.add,az.F,dR.add,dR.F,List.flatten_cons,List.flatten_nil,List.append_nil]
noncomputable def dR.E:=Entry.ct [some tB,some tB] dR.st dR.aC dR.add dR.F dR.out
noncomputable def dR.call:dR.D→Option dR.X:=bH dR.E dR.st
theorem dR.run:bD dR.call dR.aC dR.add dR.F:=cO (cM [.d tB,.d tB] fun _=>by kernel_rfl)
noncomputable def dR.sg:SG Tryz.prog:=⟨141,aV,dR.E,.fn 0 (by kernel_rfl) dR.ok trivial⟩
def qZ(b:List Int)(x:eU):List Int:=ea (b++x.1.1) x.1.2.1
def qR(b:List Int)(o:fM):List Int:=ea b o.1++(fj (pd o.2.1).length++pd o.2.1)
def ka(t:eH):List Int:=ea (t.2.1.foldl qR (ea (t.1.foldl qZ (ea [] t.1.length)) t.2.1.length)) t.2.2.1
def sx(b:List Int)(s:Sg):List Int:=b++fL s.1++fL s.2.1
def yh(b:List Int)(x:eU):List Int:=x.2.1.2.1.foldl sx (ea (ea b x.2.1.1) x.2.1.2.1.length)++fL x.2.1.2.2.1
def sL(t:eH):List Int:=if fC t then t.1.foldl yh (ka t) else []
def qI(t:eH):List Int:=if fC t then tag (bg (⟨#[116,120]⟩:ByteArray)) [ka t] else List.replicate 32 0
def ET(x:eU):Prop:=Sm x.1.1∧qM x.2.1∧x.2.1.2.1.length≤1000000000
def qL(t:eH):Prop:=Ee t∧(∀x∈t.1,ET x)∧t.2.2.1≤9223372036854775807
theorem gp:∀(l:List eU) (m:List (j8×Bool)),qP m l=true→∀x∈l,rN x=true
 |[],_,_,x,hx=>by cases hx
 |y::l,m,h,x,hx=>by
  rw[qP,Bool.and_eq_true,Bool.and_eq_true]at h
  rcases List.mem_cons.1 hx with rfl | hx
  ·exact h.1.2
  ·exact gp l _ h.2 x hx
theorem iP:∀(l:List fM) (s:Int),mj s l=true→∀o∈l,(0≤o.1∧o.1≤1125899906842624)∧iN o.2.1=true
 |[],_,_,o,ho=>by cases ho
 |y::l,s,h,o,ho=>by
  rw[mj,Bool.and_eq_true,Bool.and_eq_true]at h
  rcases List.mem_cons.1 ho with rfl | ho
  ·have h1:=h.1.1
   unfold oT m9 at h1
   simp only[Bool.and_eq_true,decide_eq_true_eq]at h1
   exact⟨h1.2.1,h.1.2⟩
  ·exact iP l _ h.2 o ho
theorem kG{x:eU}(h:rN x=true):0≤x.1.2.1∧x.1.2.1 < 64∧0≤x.2.1.1∧x.2.1.1 < 4∧x.2.1.2.1.length≤12:=by
 unfold rN lV at h
 simp only[Bool.and_eq_true,decide_eq_true_eq]at h
 exact⟨h.1.1,h.1.2,h.2.1.1,h.2.1.2,h.2.2⟩
theorem im{t:eH}(h:fC t=true):(1≤t.1.length∧t.1.length≤64∧t.2.1.length≤64∧0≤t.2.2.1)∧qP [] t.1=true∧mj 0 t.2.1=true:=by
 unfold fC u9 at h
 simp only[Bool.and_eq_true,decide_eq_true_eq]at h
 exact h
theorem yC(b:List Int)(x:eU):(qZ b x).length≤b.length+x.1.1.length+11:=by
 have:=fb (b++x.1.1) x.1.2.1
 rw[List.length_append]at this
 exact this
theorem wB(b:List Int)(o:fM):(qR b o).length≤b.length+1022:=by
 have h1:=fb b o.1
 have h2:=gJ (pd o.2.1).length
 have h3:=nP o.2.1
 unfold qR
 rw[List.length_append,List.length_append]
 omega
theorem wR(b:List Int)(s:Sg):(sx b s).length=b.length+16:=by
 unfold sx
 rw[List.length_append,List.length_append,bO,bO]
abbrev aH.L0.D:=eH×Bs×(List eU)×Int×Int
def aH.L0.st:aH.L0.D→AS:=fun(t_2,b,t13,t14,t15)=>⟨([.undef,.eB fD t_2,.undef,.d tB b]++a9 9 ([.d (.slice eg) t13,.d ti t14,.d ti t15]++a9 38 [])),[],(List.replicate 54 [])⟩
abbrev aH.L0.Y0:=Bs
abbrev aH.L0.X0:=(eH)×(Bs)
def aH.L0.bq:aH.L0.X0→Exit×AS:=fun x=>(.exit 0,⟨([.undef,.eB fD x.1,.undef,.d tB x.2]++a9 50 []),[],(List.replicate 54 [])⟩)
abbrev aH.L0.X:=aH.L0.X0
abbrev aH.L0.Y:=aH.L0.Y0
def aH.L0.out:aH.L0.X→Out (Exit×AS):=fun x=> .ok (aH.L0.bq x)
def aH.L0.add:aH.L0.D→aH.L0.Y→aH.L0.X:=fun(t_2,b,t13,t14,t15) y=>(t_2,y)
abbrev aH.L1.D:=eH×Bs×(List fM)×Int×Int
def aH.L1.st:aH.L1.D→AS:=fun(t_3,b_2,t35,t36,t37)=>⟨([.undef,.eB fD t_3,.undef,.d tB b_2]++a9 31 ([.d (.slice eV) t35,.d ti t36,.d ti t37]++a9 16 [])),[],(List.replicate 54 [])⟩
abbrev aH.L1.Y0:=Bs
abbrev aH.L1.X0:=(eH)×(Bs)
def aH.L1.bq:aH.L1.X0→Exit×AS:=fun x=>(.exit 2,⟨([.undef,.eB fD x.1,.undef,.d tB x.2]++a9 50 []),[],(List.replicate 54 [])⟩)
abbrev aH.L1.X:=aH.L1.X0
abbrev aH.L1.Y:=aH.L1.Y0
def aH.L1.out:aH.L1.X→Out (Exit×AS):=fun x=> .ok (aH.L1.bq x)
def aH.L1.add:aH.L1.D→aH.L1.Y→aH.L1.X:=fun(t_3,b_2,t35,t36,t37) y=>(t_3,y)
abbrev aH.D:=eH
def aH.st:aH.D→SA:=fun t=>([.d fD t],[])
abbrev aH.Y:=Bs
abbrev aH.X:=Bs
def aH.out:aH.X→aZ:=fun x=>⟨.d tB x,[],[]⟩
def aH.add:aH.D→aH.Y→aH.X:=fun t y=>y
def aH.L0.aC:aH.L0.D→Prop:=fun(t,b,l,n,i)=>(l).length≤1000000000∧∃k:Nat,k≤(l).length∧i=k∧n=(l).length∧(l.length≤64)∧(∀x∈l,x.1.1.length=32∧x.1.2.1≤9223372036854775807)∧(b.length≤100+50*k)
def aH.L0.F:aH.L0.D→aH.L0.Y:=fun(t,b,l,n,i)=>(List.drop (Int.toNat i) l).foldl qZ b
def aH.L1.aC:aH.L1.D→Prop:=fun(t,b,l,n,i)=>(l).length≤1000000000∧∃k:Nat,k≤(l).length∧i=k∧n=(l).length∧(l.length≤64)∧(∀o∈l,o.1≤9223372036854775807∧CJ o.2.1)∧(b.length≤4000+1100*k)
def aH.L1.F:aH.L1.D→aH.L1.Y:=fun(t,b,l,n,i)=>(List.drop (Int.toNat i) l).foldl qR b
def aH.aC:aH.D→Prop:=fun t=>fC t=true∧qL t
def aH.F:aH.D→aH.Y:=fun t=>ka t
noncomputable def aH.G:dQ:=eR (P:=Tryz.prog) [dy.sg,dV.sg,aE.sg,dR.sg]
noncomputable def aH.L0.E:=bN.ct aH.L0.st aH.L0.aC aH.L0.add aH.L0.F aH.L0.out
noncomputable def aH.L0.call:aH.L0.D→Option aH.L0.X:=dh aH.L0.E aH.L0.st
noncomputable def aH.L1.E:=bN.ct aH.L1.st aH.L1.aC aH.L1.add aH.L1.F aH.L1.out
noncomputable def aH.L1.call:aH.L1.D→Option aH.L1.X:=dh aH.L1.E aH.L1.st
noncomputable def aH.an:eC:= {loops:=jJ [(3,{bm:=[1,3,13,14,15]}),(9,{bm:=[1,3,35,36,37]})],outs:=jI [(3,{bm:=[1,3]},{bm:=[2]}),(9,{bm:=[1,3]},{bm:=[2]})],fG:=kh [(3,aH.L0.E),(9,aH.L1.E)],res:=[some tB]}
noncomputable def aH.A:= @cH Tryz.prog aH.G aH.an 0 Tryz.f97 _ aH.st
abbrev aH.Ok:=cI @aH.A aH.aC aH.add aH.F aH.out
noncomputable def aH.L0.R:= @bX Tryz.prog aH.G aH.an 0 Tryz.f97 0 _ aH.L0.st
abbrev aH.L0.Ok:=eA Tryz.prog aH.G aH.an 0 Tryz.f97 0 aH.L0.st aH.L0.aC aH.L0.add aH.L0.F aH.L0.out
noncomputable def aH.L1.R:= @bX Tryz.prog aH.G aH.an 0 Tryz.f97 1 _ aH.L1.st
abbrev aH.L1.Ok:=eA Tryz.prog aH.G aH.an 0 Tryz.f97 1 aH.L1.st aH.L1.aC aH.L1.add aH.L1.F aH.L1.out
theorem aH.L0.run:bD aH.L0.call aH.L0.aC aH.L0.add aH.L0.F:=eG (eE [.d fD,.d tB,.d (.slice eg),.d ti,.d ti] fun _=>by kernel_rfl)
theorem aH.L0.aG:fR @aH.L0.R aH.L0.st aH.L0.aC aH.L0.add aH.L0.F aH.L0.bq aH.L0.Ok:=fU
theorem aH.L0.step{R:Type}(t_2:eH)(b:Bs)(t13:(List eU))(t14:Int)(t15:Int)(kn:AS→Option R)(kx:Exit→AS→Option R):aH.L0.R (t_2,b,t13,t14,t15) kn kx=
  aK ((gb t15 t14)) (
   aK (eh t15 (((List.length t13):Nat):Int)) (
   aj (dV.call (b,(nth eg t13 (Int.toNat t15)).1.1)) fun x1=>
   aj (dy.call (x1,(nth eg t13 (Int.toNat t15)).1.2.1)) fun x2=>
   kn (aH.L0.st (t_2,x2,t13,t14,(bK .i64 t15 (1:Int))))) none) (
   kx (aH.L0.bq (t_2,b)).1 (aH.L0.bq (t_2,b)).2):=by kernel_rfl
theorem aH.L1.run:bD aH.L1.call aH.L1.aC aH.L1.add aH.L1.F:=eG (eE [.d fD,.d tB,.d (.slice eV),.d ti,.d ti] fun _=>by kernel_rfl)
theorem aH.L1.aG:fR @aH.L1.R aH.L1.st aH.L1.aC aH.L1.add aH.L1.F aH.L1.bq aH.L1.Ok:=fU
theorem aH.L1.step{R:Type}(t_3:eH)(b_2:Bs)(t35:(List fM))(t36:Int)(t37:Int)(kn:AS→Option R)(kx:Exit→AS→Option R):aH.L1.R (t_3,b_2,t35,t36,t37) kn kx=
  aK ((gb t37 t36)) (
   aK (eh t37 (((List.length t35):Nat):Int)) (
   aj (dy.call (b_2,(nth eV t35 (Int.toNat t37)).1)) fun x1=>
   aj (aE.call (nth eV t35 (Int.toNat t37)).2.1) fun x2=>
   aj (dR.call (x1,x2)) fun x3=>
   kn (aH.L1.st (t_3,x3,t35,t36,(bK .i64 t37 (1:Int))))) none) (
   kx (aH.L1.bq (t_3,b_2)).1 (aH.L1.bq (t_3,b_2)).2):=by kernel_rfl
theorem aH.eq{R:Type}(t:eH)(k:aZ→Option R):aH.A t k=
 aj (dy.call (([]:List Int),(((List.length t.1):Nat):Int))) fun x1=>
 aj (aH.L0.call (t,x1,t.1,(((List.length t.1):Nat):Int),(0:Int))) fun x4=>
 aj (dy.call (x4.2,(((List.length x4.1.2.1):Nat):Int))) fun x5=>
 aj (aH.L1.call (x4.1,x5,x4.1.2.1,(((List.length x4.1.2.1):Nat):Int),(0:Int))) fun x9=>
 aj (dy.call (x9.2,x9.1.2.2.1)) fun x10=>
 k (aH.out x10):=by kernel_rfl
theorem aH.L0.ok:aH.L0.Ok:=by
 refine aH.L0.aG (fun(t,b,l,n,i)=>(l).length - Int.toNat i) ?_
 rintro⟨t,b,l,n,i⟩ ⟨hlen,k,hk,rfl,rfl,h64,hx,hb⟩
 have hlen:(l).length≤1000000000:=hlen
 have hk:k≤(l).length:=hk
 have h64:l.length≤64:=h64
 have hx:∀x∈l,x.1.1.length=32∧x.1.2.1≤9223372036854775807:=hx
 have hb:b.length≤100+50*k:=hb
 by_cases h:k < (l).length
 ·left
  have n1:nth eg l k=l[k]:=cj (t:=eg) h
  have hd:List.drop k l=l[k]::List.drop (k+1) l:=List.drop_eq_getElem_cons h
  refine⟨(t,(qZ b l[k]),l,((l).length:Int),((k+1:Nat):Int)),⟨hlen,k+1,by omega,rfl,rfl,h64,hx,by have:=yC b l[k];have:=(hx _ (List.getElem_mem h)).1;omega⟩,by simp only[Int.toNat_natCast];omega,?_,fun kn kx=> ?_⟩
  ·simp only[aH.L0.add,aH.L0.F,Int.toNat_natCast,hd,List.foldl_cons]
  ·rw[aH.L0.step,bw (by omega),bh (by omega) (by omega),Int.toNat_natCast,n1]
   simp only[ax]
   have e:=hx _ (List.getElem_mem h)
   have e2:(b++l[k].1.1).length=b.length+l[k].1.1.length:=List.length_append
   rw[dV.run (d:=(b,l[k].1.1)) ⟨by show b.length+l[k].1.1.length≤_;omega,e.1⟩]
   simp only[ab,dV.add,dV.F]
   rw[dy.run (d:=(b++l[k].1.1,l[k].1.2.1)) ⟨by show(b++l[k].1.1).length≤_;omega,e.2⟩]
   simp only[ab,dy.add,dy.F]
   rw[N.kk (by omega)]
   rfl
 ·right
  obtain rfl:k=(l).length:=by omega
  intro R kn kx
  rw[aH.L0.step,bn (by omega),aw]
  simp only[aH.L0.add,aH.L0.F,Int.toNat_natCast,List.drop_length,List.foldl_nil]
theorem aH.L1.ok:aH.L1.Ok:=by
 refine aH.L1.aG (fun(t,b,l,n,i)=>(l).length - Int.toNat i) ?_
 rintro⟨t,b,l,n,i⟩ ⟨hlen,k,hk,rfl,rfl,h64,hx,hb⟩
 have hlen:(l).length≤1000000000:=hlen
 have hk:k≤(l).length:=hk
 have h64:l.length≤64:=h64
 have hx:∀o∈l,o.1≤9223372036854775807∧CJ o.2.1:=hx
 have hb:b.length≤4000+1100*k:=hb
 by_cases h:k < (l).length
 ·left
  have n1:nth eV l k=l[k]:=cj (t:=eV) h
  have hd:List.drop k l=l[k]::List.drop (k+1) l:=List.drop_eq_getElem_cons h
  refine⟨(t,(qR b l[k]),l,((l).length:Int),((k+1:Nat):Int)),⟨hlen,k+1,by omega,rfl,rfl,h64,hx,by have:=wB b l[k];omega⟩,by simp only[Int.toNat_natCast];omega,?_,fun kn kx=> ?_⟩
  ·simp only[aH.L1.add,aH.L1.F,Int.toNat_natCast,hd,List.foldl_cons]
  ·rw[aH.L1.step,bw (by omega),bh (by omega) (by omega),Int.toNat_natCast,n1]
   simp only[ax]
   have e:=hx _ (List.getElem_mem h)
   have e1:=fb b l[k].1
   have e2:=nP l[k].2.1
   rw[dy.run (d:=(b,l[k].1)) ⟨by show b.length≤_;omega,e.1⟩]
   simp only[ab,dy.add,dy.F]
   rw[aE.run (d:=l[k].2.1) e.2]
   simp only[ab,aE.add,aE.F]
   rw[dR.run (d:=(ea b l[k].1,pd l[k].2.1)) (by show(ea b l[k].1).length+(pd l[k].2.1).length≤_;omega)]
   simp only[ab,dR.add,dR.F]
   rw[N.kk (by omega)]
   rfl
 ·right
  obtain rfl:k=(l).length:=by omega
  intro R kn kx
  rw[aH.L1.step,bn (by omega),aw]
  simp only[aH.L1.add,aH.L1.F,Int.toNat_natCast,List.drop_length,List.foldl_nil]
theorem uG:∀(l:List eU) (b:List Int),(∀x∈l,x.1.1.length=32)→(l.foldl qZ b).length≤b.length+43*l.length
 |[],b,_=>Nat.le_refl _
 |x::l,b,h=>by
  have h1:=yC b x
  have h2:=h x List.mem_cons_self
  have h3:=uG l (qZ b x) fun y hy=>h y (List.mem_cons_of_mem _ hy)
  rw[List.foldl_cons,List.length_cons]
  omega
theorem rZ:∀(l:List fM) (b:List Int),(l.foldl qR b).length≤b.length+1022*l.length
 |[],b=>Nat.le_refl _
 |x::l,b=>by
  have h1:=wB b x
  have h3:=rZ l (qR b x)
  rw[List.foldl_cons,List.length_cons]
  omega
theorem r9{t:eH}(hok:fC t=true)(hv:qL t):(ka t).length≤70000:=by
 obtain⟨⟨_,a2,a3,_⟩,_,_⟩:=im hok
 have h1:=uG t.1 (ea [] t.1.length) fun x hx=>(hv.2.1 x hx).1.1
 have h2:=fb [] t.1.length
 have h3:=fb (t.1.foldl qZ (ea [] t.1.length)) t.2.1.length
 have h4:=rZ t.2.1 (ea (t.1.foldl qZ (ea [] t.1.length)) t.2.1.length)
 have h5:=fb (t.2.1.foldl qR (ea (t.1.foldl qZ (ea [] t.1.length)) t.2.1.length)) t.2.2.1
 have h0:([]:List Int).length=0:=rfl
 unfold ka
 omega
theorem aH.ok:aH.Ok:=by
 rintro t ⟨hok,hv⟩
 have hv:qL t:=hv
 obtain⟨⟨_,a2,a3,_⟩,b1,b2⟩:=im hok
 have h0:([]:List Int).length=0:=rfl
 have l0:=fb [] t.1.length
 have l1:=uG t.1 (ea [] t.1.length) fun x hx=>(hv.2.1 x hx).1.1
 have l2:=fb (t.1.foldl qZ (ea [] t.1.length)) t.2.1.length
 have l3:=rZ t.2.1 (ea (t.1.foldl qZ (ea [] t.1.length)) t.2.1.length)
 rw[aH.eq,dy.run (d:=([],(t.1.length:Int))) ⟨by show([]:List Int).length≤_;omega,by show(t.1.length:Int)≤_;omega⟩]
 simp only[ab,dy.add,dy.F]
 rw[aH.L0.run (d:=(t,ea [] t.1.length,t.1,t.1.length,0)) ⟨by show t.1.length≤_;omega,0,Nat.zero_le _,rfl,rfl,a2,fun x hx=>⟨(hv.2.1 x hx).1.1,by have:=kG (gp _ _ b1 x hx);omega⟩,by show(ea [] t.1.length).length≤_;omega⟩]
 simp only[ab,aH.L0.add,aH.L0.F,Int.toNat_zero,List.drop_zero]
 rw[dy.run (d:=(t.1.foldl qZ (ea [] t.1.length),(t.2.1.length:Int))) ⟨by show(t.1.foldl qZ (ea [] t.1.length)).length≤_;omega,by show(t.2.1.length:Int)≤_;omega⟩]
 simp only[ab,dy.add,dy.F]
 rw[aH.L1.run (d:=(t,ea (t.1.foldl qZ (ea [] t.1.length)) t.2.1.length,t.2.1,t.2.1.length,0)) ⟨by show t.2.1.length≤_;omega,0,Nat.zero_le _,rfl,rfl,a3,fun o ho=>⟨by have:=(iP _ _ b2 o ho).1;omega,hv.1.1 o ho⟩,by show(ea (t.1.foldl qZ (ea [] t.1.length)) t.2.1.length).length≤_;omega⟩]
 simp only[ab,aH.L1.add,aH.L1.F,Int.toNat_zero,List.drop_zero]
 rw[dy.run (d:=(t.2.1.foldl qR (ea (t.1.foldl qZ (ea [] t.1.length)) t.2.1.length),t.2.2.1)) ⟨by show(t.2.1.foldl qR (ea (t.1.foldl qZ (ea [] t.1.length)) t.2.1.length)).length≤_;omega,hv.2.2⟩]
 rfl
noncomputable def aH.E:=Entry.ct [some fD] aH.st aH.aC aH.add aH.F aH.out
noncomputable def aH.call:aH.D→Option aH.X:=bH aH.E aH.st
theorem aH.run:bD aH.call aH.aC aH.add aH.F:=cO (cM [.d fD] fun _=>by kernel_rfl)
noncomputable def aH.sg:SG Tryz.prog:=⟨97,aV,aH.E,.fn 2 (by kernel_rfl) aH.ok (And.intro (.ct aH.L0.ok (by kernel_rfl)) (And.intro (.ct aH.L1.ok (by kernel_rfl)) trivial))⟩
set_option synthInstance.maxSize 5000
def my(n:Int)(x:eU):Int:=n+(10+8*x.2.1.2.1.length)+(if x.2.1.2.2.1=0 then 0 else 4)
def lB(t:eH):Int:=if fC t then t.1.foldl my (10+8*t.2.1.length) else 0
def gU(t:eH):List j8:=if fC t then t.1.map (·.1) else []
def pf(id:List Int)(k n:Nat):List j8:=(List.range' k n).map fun i:Nat=>(id,((i:Int),()))
def ld(t:eH):List j8:=if fC t then pf (qI t) 0 t.2.1.length else []
abbrev tid.D:=eH
def tid.st:tid.D→SA:=fun t=>([.d fD t],[])
abbrev tid.Y:=Bs
abbrev tid.X:=Bs
def tid.out:tid.X→aZ:=fun x=>⟨.d tH x,[],[]⟩
def tid.add:tid.D→tid.Y→tid.X:=fun t y=>y
def tid.aC:tid.D→Prop:=fun t=>qL t
def tid.F:tid.D→tid.Y:=fun t=>qI t
noncomputable def tid.G:dQ:=eR (P:=Tryz.prog) [al.sg,aH.sg,bR.sg]
noncomputable def tid.an:eC:= {}
noncomputable def tid.A:= @cH Tryz.prog tid.G tid.an 0 Tryz.f31 _ tid.st
abbrev tid.Ok:=cI @tid.A tid.aC tid.add tid.F tid.out
theorem tid.eq{R:Type}(t:eH)(k:aZ→Option R):tid.A t k=
  aj (al.call t) fun x1=>
  aK ((!x1)) (
   k (tid.out (List.replicate 32 (0:Int)))) (
   aj (aH.call t) fun x2=>
   aj (bR.call ((⟨#[116,120]⟩:ByteArray),[x2])) fun x3=>
   k (tid.out x3)):=by kernel_rfl
theorem tid.ok:tid.Ok:=by
 intro t hv
 have hv:qL t:=hv
 rw[tid.eq,al.run (d:=t) hv.1]
 simp only[ab,al.add,al.F,tid.add,tid.F,qI]
 cases hok:fC t
 ·rfl
 ·have hl:=r9 hok hv
  rw[aH.run (d:=t) ⟨hok,hv⟩]
  simp only[Bool.not_true,aw,if_true,ab,aH.add,aH.F]
  rw[bR.run (d:=((⟨#[116,120]⟩:ByteArray),[ka t])) (sE (by decide) (by omega))]
  rfl
noncomputable def tid.E:=Entry.ct [some fD] tid.st tid.aC tid.add tid.F tid.out
noncomputable def tid.call:tid.D→Option tid.X:=bH tid.E tid.st
theorem tid.run:bD tid.call tid.aC tid.add tid.F:=cO (cM [.d fD] fun _=>by kernel_rfl)
noncomputable def tid.sg:SG Tryz.prog:=⟨31,aV,tid.E,.fn 0 (by kernel_rfl) tid.ok trivial⟩
abbrev aL.L0.D:=Int×(List eU)×Int×Int
def aL.L0.st:aL.L0.D→AS:=fun(n,t15,t16,t17)=>⟨([.undef,.undef,.undef,.d ti n]++a9 11 ([.d (.slice eg) t15,.d ti t16,.d ti t17]++a9 19 [])),[],(List.replicate 37 [])⟩
abbrev aL.L0.Y0:=Int
abbrev aL.L0.X0:=Int
def aL.L0.bq:aL.L0.X0→Exit×AS:=fun x=>(.exit 0,⟨([.undef,.undef,.undef,.d ti x]++a9 33 []),[],(List.replicate 37 [])⟩)
abbrev aL.L0.X:=aL.L0.X0
abbrev aL.L0.Y:=aL.L0.Y0
def aL.L0.out:aL.L0.X→Out (Exit×AS):=fun x=> .ok (aL.L0.bq x)
def aL.L0.add:aL.L0.D→aL.L0.Y→aL.L0.X:=fun(n,t15,t16,t17) y=>y
abbrev aL.D:=eH
def aL.st:aL.D→SA:=fun t=>([.d fD t],[])
abbrev aL.Y:=Int
abbrev aL.X:=Int
def aL.out:aL.X→aZ:=fun x=>⟨.d ti x,[],[]⟩
def aL.add:aL.D→aL.Y→aL.X:=fun t y=>y
def aL.L0.aC:aL.L0.D→Prop:=fun(n,l,m,i)=>(l).length≤1000000000∧∃k:Nat,k≤(l).length∧i=k∧m=(l).length∧(l.length≤64)∧(∀x∈l,x.2.1.2.1.length≤12)∧(0≤n)∧(n≤1000+200*(k:Int))
def aL.L0.F:aL.L0.D→aL.L0.Y:=fun(n,l,m,i)=>(List.drop (Int.toNat i) l).foldl my n
def aL.aC:aL.D→Prop:=fun t=>qL t
def aL.F:aL.D→aL.Y:=fun t=>lB t
noncomputable def aL.G:dQ:=eR (P:=Tryz.prog) [al.sg]
noncomputable def aL.L0.E:=bN.ct aL.L0.st aL.L0.aC aL.L0.add aL.L0.F aL.L0.out
noncomputable def aL.L0.call:aL.L0.D→Option aL.L0.X:=dh aL.L0.E aL.L0.st
noncomputable def aL.an:eC:= {loops:=jJ [(5,{bm:=[3,15,16,17]})],outs:=jI [(5,{bm:=[3]},{bm:=[2]})],fG:=kh [(5,aL.L0.E)]}
noncomputable def aL.A:= @cH Tryz.prog aL.G aL.an 0 Tryz.f33 _ aL.st
abbrev aL.Ok:=cI @aL.A aL.aC aL.add aL.F aL.out
noncomputable def aL.L0.R:= @bX Tryz.prog aL.G aL.an 0 Tryz.f33 0 _ aL.L0.st
abbrev aL.L0.Ok:=eA Tryz.prog aL.G aL.an 0 Tryz.f33 0 aL.L0.st aL.L0.aC aL.L0.add aL.L0.F aL.L0.out
theorem aL.L0.run:bD aL.L0.call aL.L0.aC aL.L0.add aL.L0.F:=eG (eE [.d ti,.d (.slice eg),.d ti,.d ti] fun _=>by kernel_rfl)
theorem aL.L0.aG:fR @aL.L0.R aL.L0.st aL.L0.aC aL.L0.add aL.L0.F aL.L0.bq aL.L0.Ok:=fU
theorem aL.L0.step{R:Type}(n:Int)(t15:(List eU))(t16:Int)(t17:Int)(kn:AS→Option R)(kx:Exit→AS→Option R):aL.L0.R (n,t15,t16,t17) kn kx=
  aK ((gb t17 t16)) (
   aK (eh t17 (((List.length t15):Nat):Int)) (
   aK ((jn (nth eg t15 (Int.toNat t17)).2.1.2.2.1 (0:Int))) (
    kn (aL.L0.st ((bK .i64 (bK .i64 n (bK .i64 (10:Int) (eS .i64 (8:Int) (((List.length (nth eg t15 (Int.toNat t17)).2.1.2.1):Nat):Int)))) (4:Int)),t15,t16,(bK .i64 t17 (1:Int))))) (
    kn (aL.L0.st ((bK .i64 n (bK .i64 (10:Int) (eS .i64 (8:Int) (((List.length (nth eg t15 (Int.toNat t17)).2.1.2.1):Nat):Int)))),t15,t16,(bK .i64 t17 (1:Int)))))) none) (
   kx (aL.L0.bq n).1 (aL.L0.bq n).2):=by kernel_rfl
theorem aL.eq{R:Type}(t:eH)(k:aZ→Option R):aL.A t k=
  aj (al.call t) fun x1=>
  aK ((!x1)) (
   k (aL.out (0:Int))) (
   aj (aL.L0.call ((bK .i64 (10:Int) (eS .i64 (8:Int) (((List.length t.2.1):Nat):Int))),t.1,(((List.length t.1):Nat):Int),(0:Int))) fun x2=>
   k (aL.out x2)):=by kernel_rfl
theorem aL.L0.ok:aL.L0.Ok:=by
 refine aL.L0.aG (fun(n,l,m,i)=>(l).length - Int.toNat i) ?_
 rintro⟨n,l,m,i⟩ ⟨hlen,k,hk,rfl,rfl,h64,hx,h0,h1⟩
 have hlen:(l).length≤1000000000:=hlen
 have hk:k≤(l).length:=hk
 have h64:l.length≤64:=h64
 have hx:∀x∈l,x.2.1.2.1.length≤12:=hx
 have h0:0≤n:=h0
 have h1:n≤1000+200*(k:Int):=h1
 by_cases h:k < (l).length
 ·left
  have n1:nth eg l k=l[k]:=cj (t:=eg) h
  have hd:List.drop k l=l[k]::List.drop (k+1) l:=List.drop_eq_getElem_cons h
  refine⟨((my n l[k]),l,((l).length:Int),((k+1:Nat):Int)),⟨hlen,k+1,by omega,rfl,rfl,h64,hx,by unfold my;split <;> omega,by have:=hx _ (List.getElem_mem h);unfold my;split <;> omega⟩,by simp only[Int.toNat_natCast];omega,?_,fun kn kx=> ?_⟩
  ·simp only[aL.L0.add,aL.L0.F,Int.toNat_natCast,hd,List.foldl_cons]
  ·rw[aL.L0.step,bw (by omega),bh (by omega) (by omega),Int.toNat_natCast,n1]
   simp only[ax]
   have e:=hx _ (List.getElem_mem h)
   rw[N.Dy (by omega)]
   have e2:bK .i64 10 ((8*l[k].2.1.2.1.length:Nat):Int)=10+8*(l[k].2.1.2.1.length:Int):=by rw[fW (by omega) (by omega)];omega
   rw[e2,fW (x:=n) (by omega) (by omega),N.kk (by omega)]
   unfold my
   by_cases hs:l[k].2.1.2.2.1=0
   ·rw[bP hs,aw,if_pos hs,Int.add_zero]
   ·rw[dw hs,ax,if_neg hs,fW (by omega) (by omega)]
 ·right
  obtain rfl:k=(l).length:=by omega
  intro R kn kx
  rw[aL.L0.step,bn (by omega),aw]
  simp only[aL.L0.add,aL.L0.F,Int.toNat_natCast,List.drop_length,List.foldl_nil]
theorem aL.ok:aL.Ok:=by
 intro t hv
 have hv:qL t:=hv
 rw[aL.eq,al.run (d:=t) hv.1]
 simp only[ab,al.add,al.F,aL.add,aL.F,lB]
 cases hok:fC t
 ·rfl
 ·obtain⟨⟨_,a2,a3,_⟩,b1,b2⟩:=im hok
  rw[N.Dy (by omega),fW (by omega) (by omega),aL.L0.run (d:=(10+((8*t.2.1.length:Nat):Int),t.1,t.1.length,0)) ⟨by show t.1.length≤_;omega,0,Nat.zero_le _,rfl,rfl,a2,fun x hx=>(kG (gp _ _ b1 x hx)).2.2.2.2,by show(0:Int)≤10+((8*t.2.1.length:Nat):Int);omega,by show 10+((8*t.2.1.length:Nat):Int)≤_;omega⟩]
  simp only[ab,aL.L0.add,aL.L0.F,Int.toNat_zero,List.drop_zero,Bool.not_true,aw,if_true,Int.natCast_mul]
  rfl
noncomputable def aL.E:=Entry.ct [some fD] aL.st aL.aC aL.add aL.F aL.out
noncomputable def aL.call:aL.D→Option aL.X:=bH aL.E aL.st
theorem aL.run:bD aL.call aL.aC aL.add aL.F:=cO (cM [.d fD] fun _=>by kernel_rfl)
noncomputable def aL.sg:SG Tryz.prog:=⟨33,aV,aL.E,.fn 1 (by kernel_rfl) aL.ok (And.intro (.ct aL.L0.ok (by kernel_rfl)) trivial)⟩
abbrev aF.L0.D:=Bs×(List eU)×Int×Int
def aF.L0.st:aF.L0.D→AS:=fun(b,t14,t15,t16)=>⟨([.undef,.undef,.undef,.d tB b]++a9 10 ([.d (.slice eg) t14,.d ti t15,.d ti t16]++a9 36 [])),[],(List.replicate 53 [])⟩
abbrev aF.L0.Y0:=Bs
abbrev aF.L0.X0:=Bs
def aF.L0.bq:aF.L0.X0→Exit×AS:=fun x=>(.exit 0,⟨([.undef,.undef,.undef,.d tB x]++a9 49 []),[],(List.replicate 53 [])⟩)
abbrev aF.L0.X:=aF.L0.X0
abbrev aF.L0.Y:=aF.L0.Y0
def aF.L0.out:aF.L0.X→Out (Exit×AS):=fun x=> .ok (aF.L0.bq x)
def aF.L0.add:aF.L0.D→aF.L0.Y→aF.L0.X:=fun(b,t14,t15,t16) y=>y
abbrev aF.L1.D:=Bs×(List eU)×Int×Int×(List Sg)×Int×Int×eU
def aF.L1.st:aF.L1.D→AS:=fun(b_2,t14_2,t15_2,t16_2,t32,t33,t34,n5)=>⟨([.undef,.undef,.undef,.d tB b_2,.undef,.ptr (.new 5 0) 0 [] 0]++a9 8 ([.d (.slice eg) t14_2,.d ti t15_2,.d ti t16_2]++a9 15 ([.d (.slice iQ) t32,.d ti t33,.d ti t34]++a9 18 []))),[],(bJ 5 ([[.obj 0 false (.d eg n5)]]++bJ 47 []))⟩
abbrev aF.L1.Y0:=Bs
abbrev aF.L1.X0:=((List eU)×Int×Int×eU)×(Bs)
def aF.L1.bq:aF.L1.X0→Exit×AS:=fun x=>(.exit 2,⟨([.undef,.undef,.undef,.d tB x.2,.undef,.ptr (.new 5 0) 0 [] 0]++a9 8 ([.d (.slice eg) x.1.1,.d ti x.1.2.1,.d ti x.1.2.2.1]++a9 36 [])),[],(bJ 5 ([[.obj 0 false (.d eg x.1.2.2.2)]]++bJ 47 []))⟩)
abbrev aF.L1.X:=aF.L1.X0
abbrev aF.L1.Y:=aF.L1.Y0
def aF.L1.out:aF.L1.X→Out (Exit×AS):=fun x=> .ok (aF.L1.bq x)
def aF.L1.add:aF.L1.D→aF.L1.Y→aF.L1.X:=fun(b_2,t14_2,t15_2,t16_2,t32,t33,t34,n5) y=>((t14_2,t15_2,t16_2,n5),y)
abbrev aF.D:=eH
def aF.st:aF.D→SA:=fun t=>([.d fD t],[])
abbrev aF.Y:=Bs
abbrev aF.X:=Bs
def aF.out:aF.X→aZ:=fun x=>⟨.d tB x,[],[]⟩
def aF.add:aF.D→aF.Y→aF.X:=fun t y=>y
def aF.L1.aC:aF.L1.D→Prop:=fun(b,l1,n1v,i1,l,n,i,x)=>(l).length≤1000000000∧∃k:Nat,k≤(l).length∧i=k∧n=(l).length∧(l.length≤12)∧(b.length≤80000000+16*k)
def aF.L1.F:aF.L1.D→aF.L1.Y:=fun(b,l1,n1v,i1,l,n,i,x)=>(List.drop (Int.toNat i) l).foldl sx b
def aF.L0.aC:aF.L0.D→Prop:=fun(b,l,n,i)=>(l).length≤1000000000∧∃k:Nat,k≤(l).length∧i=k∧n=(l).length∧(l.length≤64)∧(∀x∈l,x.2.1.2.1.length≤12∧x.2.1.1≤9223372036854775807)∧(b.length≤100000+1000*k)
def aF.L0.F:aF.L0.D→aF.L0.Y:=fun(b,l,n,i)=>(List.drop (Int.toNat i) l).foldl yh b
theorem sA:∀(l:List Sg) (b:List Int),(l.foldl sx b).length=b.length+16*l.length
 |[],b=>rfl
 |x::l,b=>by
  have h1:=wR b x
  have h3:=sA l (sx b x)
  rw[List.foldl_cons,List.length_cons]
  omega
theorem BB(b:List Int)(x:eU)(h:x.2.1.2.1.length≤12):(yh b x).length≤b.length+300:=by
 have e1:=fb b x.2.1.1
 have e2:=fb (ea b x.2.1.1) x.2.1.2.1.length
 have e3:=sA x.2.1.2.1 (ea (ea b x.2.1.1) x.2.1.2.1.length)
 unfold yh
 rw[List.length_append,bO]
 omega
def aF.aC:aF.D→Prop:=fun t=>qL t
def aF.F:aF.D→aF.Y:=fun t=>sL t
noncomputable def aF.G:dQ:=eR (P:=Tryz.prog) [al.sg,aH.sg,dy.sg,dp.sg]
noncomputable def aF.L0.E:=bN.ct aF.L0.st aF.L0.aC aF.L0.add aF.L0.F aF.L0.out
noncomputable def aF.L0.call:aF.L0.D→Option aF.L0.X:=dh aF.L0.E aF.L0.st
noncomputable def aF.L1.E:=bN.ct aF.L1.st aF.L1.aC aF.L1.add aF.L1.F aF.L1.out
noncomputable def aF.L1.call:aF.L1.D→Option aF.L1.X:=dh aF.L1.E aF.L1.st
noncomputable def aF.an:eC:= {loops:=jJ [(5,{bm:=[3,14,15,16]}),(9,{bm:=[3,5,14,15,16,32,33,34],sites:=[5]})],outs:=jI [(5,{bm:=[3]},{bm:=[2]}),(9,{bm:=[3,5,14,15,16],sites:=[5]},{bm:=[2]})],fG:=kh [(5,aF.L0.E),(9,aF.L1.E)],res:=[some tB]}
noncomputable def aF.A:= @cH Tryz.prog aF.G aF.an 0 Tryz.f35 _ aF.st
abbrev aF.Ok:=cI @aF.A aF.aC aF.add aF.F aF.out
noncomputable def aF.L0.R:= @bX Tryz.prog aF.G aF.an 0 Tryz.f35 0 _ aF.L0.st
abbrev aF.L0.Ok:=eA Tryz.prog aF.G aF.an 0 Tryz.f35 0 aF.L0.st aF.L0.aC aF.L0.add aF.L0.F aF.L0.out
noncomputable def aF.L1.R:= @bX Tryz.prog aF.G aF.an 0 Tryz.f35 1 _ aF.L1.st
abbrev aF.L1.Ok:=eA Tryz.prog aF.G aF.an 0 Tryz.f35 1 aF.L1.st aF.L1.aC aF.L1.add aF.L1.F aF.L1.out
theorem aF.L0.run:bD aF.L0.call aF.L0.aC aF.L0.add aF.L0.F:=eG (eE [.d tB,.d (.slice eg),.d ti,.d ti] fun _=>by kernel_rfl)
theorem aF.L0.aG:fR @aF.L0.R aF.L0.st aF.L0.aC aF.L0.add aF.L0.F aF.L0.bq aF.L0.Ok:=fU
theorem aF.L0.step{R:Type}(b:Bs)(t14:(List eU))(t15:Int)(t16:Int)(kn:AS→Option R)(kx:Exit→AS→Option R):aF.L0.R (b,t14,t15,t16) kn kx=
  aK ((gb t16 t15)) (
   aK (eh t16 (((List.length t14):Nat):Int)) (
   aj (dy.call (b,(nth eg t14 (Int.toNat t16)).2.1.1)) fun x1=>
   aj (dy.call (x1,(((List.length (nth eg t14 (Int.toNat t16)).2.1.2.1):Nat):Int))) fun x2=>
   aj (aF.L1.call (x2,t14,t15,t16,(nth eg t14 (Int.toNat t16)).2.1.2.1,(((List.length (nth eg t14 (Int.toNat t16)).2.1.2.1):Nat):Int),(0:Int),(nth eg t14 (Int.toNat t16)))) fun x3=>
   aj (dp.call (x3.2,x3.1.2.2.2.2.1.2.2.1)) fun x4=>
   kn (aF.L0.st (x4,x3.1.1,x3.1.2.1,(bK .i64 x3.1.2.2.1 (1:Int))))) none) (
   kx (aF.L0.bq b).1 (aF.L0.bq b).2):=by kernel_rfl
theorem aF.L1.run:bD aF.L1.call aF.L1.aC aF.L1.add aF.L1.F:=eG (eE [.d tB,.d (.slice eg),.d ti,.d ti,.d (.slice iQ),.d ti,.d ti,.d eg] fun _=>by kernel_rfl)
theorem aF.L1.aG:fR @aF.L1.R aF.L1.st aF.L1.aC aF.L1.add aF.L1.F aF.L1.bq aF.L1.Ok:=fU
theorem aF.L1.step{R:Type}(b_2:Bs)(t14_2:(List eU))(t15_2:Int)(t16_2:Int)(t32:(List Sg))(t33:Int)(t34:Int)(n5:eU)(kn:AS→Option R)(kx:Exit→AS→Option R):aF.L1.R (b_2,t14_2,t15_2,t16_2,t32,t33,t34,n5) kn kx=
  aK ((gb t34 t33)) (
   aK (eh t34 (((List.length t32):Nat):Int)) (
   aj (dp.call (b_2,(nth iQ t32 (Int.toNat t34)).1)) fun x1=>
   aj (dp.call (x1,(nth iQ t32 (Int.toNat t34)).2.1)) fun x2=>
   kn (aF.L1.st (x2,t14_2,t15_2,t16_2,t32,t33,(bK .i64 t34 (1:Int)),n5))) none) (
   kx (aF.L1.bq ((t14_2,t15_2,t16_2,n5),b_2)).1 (aF.L1.bq ((t14_2,t15_2,t16_2,n5),b_2)).2):=by kernel_rfl
theorem aF.eq{R:Type}(t:eH)(k:aZ→Option R):aF.A t k=
  aj (al.call t) fun x1=>
  aK ((!x1)) (
   k (aF.out ([]:List Int))) (
   aj (aH.call t) fun x2=>
   aj (aF.L0.call (x2,t.1,(((List.length t.1):Nat):Int),(0:Int))) fun x9=>
   k (aF.out x9)):=by kernel_rfl
theorem aF.L1.ok:aF.L1.Ok:=by
 refine aF.L1.aG (fun(b,l1,n1v,i1,l,n,i,x)=>(l).length - Int.toNat i) ?_
 rintro⟨b,l1,n1v,i1,l,n,i,x⟩ ⟨hlen,k,hk,rfl,rfl,h12,hb⟩
 have hlen:(l).length≤1000000000:=hlen
 have hk:k≤(l).length:=hk
 have h12:l.length≤12:=h12
 have hb:b.length≤80000000+16*k:=hb
 by_cases h:k < (l).length
 ·left
  have n1:nth iQ l k=l[k]:=cj (t:=iQ) h
  have hd:List.drop k l=l[k]::List.drop (k+1) l:=List.drop_eq_getElem_cons h
  refine⟨((sx b l[k]),l1,n1v,i1,l,((l).length:Int),((k+1:Nat):Int),x),⟨hlen,k+1,by omega,rfl,rfl,h12,by have:=wR b l[k];omega⟩,by simp only[Int.toNat_natCast];omega,?_,fun kn kx=> ?_⟩
  ·simp only[aF.L1.add,aF.L1.F,Int.toNat_natCast,hd,List.foldl_cons]
  ·rw[aF.L1.step,bw (by omega),bh (by omega) (by omega),Int.toNat_natCast,n1]
   simp only[ax]
   rw[dp.run (d:=(b,l[k].1)) (by show b.length≤_;omega)]
   simp only[ab,dp.add,dp.F]
   rw[dp.run (d:=(b++fL l[k].1,l[k].2.1)) (by show(b++fL l[k].1).length≤_;rw[List.length_append,bO];omega)]
   simp only[ab,dp.add,dp.F]
   rw[N.kk (by omega)]
   rfl
 ·right
  obtain rfl:k=(l).length:=by omega
  intro R kn kx
  rw[aF.L1.step,bn (by omega),aw]
  simp only[aF.L1.add,aF.L1.F,Int.toNat_natCast,List.drop_length,List.foldl_nil]
theorem aF.L0.ok:aF.L0.Ok:=by
 refine aF.L0.aG (fun(b,l,n,i)=>(l).length - Int.toNat i) ?_
 rintro⟨b,l,n,i⟩ ⟨hlen,k,hk,rfl,rfl,h64,hx,hb⟩
 have hlen:(l).length≤1000000000:=hlen
 have hk:k≤(l).length:=hk
 have h64:l.length≤64:=h64
 have hx:∀x∈l,x.2.1.2.1.length≤12∧x.2.1.1≤9223372036854775807:=hx
 have hb:b.length≤100000+1000*k:=hb
 by_cases h:k < (l).length
 ·left
  have n1:nth eg l k=l[k]:=cj (t:=eg) h
  have hd:List.drop k l=l[k]::List.drop (k+1) l:=List.drop_eq_getElem_cons h
  refine⟨((yh b l[k]),l,((l).length:Int),((k+1:Nat):Int)),⟨hlen,k+1,by omega,rfl,rfl,h64,hx,by have:=BB b l[k] (hx _ (List.getElem_mem h)).1;omega⟩,by simp only[Int.toNat_natCast];omega,?_,fun kn kx=> ?_⟩
  ·simp only[aF.L0.add,aF.L0.F,Int.toNat_natCast,hd,List.foldl_cons]
  ·rw[aF.L0.step,bw (by omega),bh (by omega) (by omega),Int.toNat_natCast,n1]
   simp only[ax]
   have e:=hx _ (List.getElem_mem h)
   have e1:=fb b l[k].2.1.1
   have e2:=fb (ea b l[k].2.1.1) l[k].2.1.2.1.length
   have e3:=sA l[k].2.1.2.1 (ea (ea b l[k].2.1.1) l[k].2.1.2.1.length)
   rw[dy.run (d:=(b,l[k].2.1.1)) ⟨by show b.length≤_;omega,e.2⟩]
   simp only[ab,dy.add,dy.F]
   rw[dy.run (d:=(ea b l[k].2.1.1,(l[k].2.1.2.1.length:Int))) ⟨by show(ea b l[k].2.1.1).length≤_;omega,by show(l[k].2.1.2.1.length:Int)≤_;omega⟩]
   simp only[ab,dy.add,dy.F]
   rw[aF.L1.run (d:=(ea (ea b l[k].2.1.1) l[k].2.1.2.1.length,l,l.length,k,l[k].2.1.2.1,l[k].2.1.2.1.length,0,l[k])) ⟨by show l[k].2.1.2.1.length≤_;omega,0,Nat.zero_le _,rfl,rfl,e.1,by show(ea (ea b l[k].2.1.1) l[k].2.1.2.1.length).length≤_;omega⟩]
   simp only[ab,aF.L1.add,aF.L1.F,Int.toNat_zero,List.drop_zero]
   rw[dp.run (d:=(l[k].2.1.2.1.foldl sx (ea (ea b l[k].2.1.1) l[k].2.1.2.1.length),l[k].2.1.2.2.1)) (by show(l[k].2.1.2.1.foldl sx (ea (ea b l[k].2.1.1) l[k].2.1.2.1.length)).length≤_;omega)]
   simp only[ab,dp.add,dp.F]
   rw[N.kk (by omega)]
   rfl
 ·right
  obtain rfl:k=(l).length:=by omega
  intro R kn kx
  rw[aF.L0.step,bn (by omega),aw]
  simp only[aF.L0.add,aF.L0.F,Int.toNat_natCast,List.drop_length,List.foldl_nil]
theorem aF.ok:aF.Ok:=by
 intro t hv
 have hv:qL t:=hv
 rw[aF.eq,al.run (d:=t) hv.1]
 simp only[ab,al.add,al.F,aF.add,aF.F,sL]
 cases hok:fC t
 ·rfl
 ·obtain⟨⟨_,a2,a3,_⟩,b1,b2⟩:=im hok
  have hl:=r9 hok hv
  rw[aH.run (d:=t) ⟨hok,hv⟩]
  simp only[Bool.not_true,aw,if_true,ab,aH.add,aH.F]
  rw[aF.L0.run (d:=(ka t,t.1,t.1.length,0)) ⟨by show t.1.length≤_;omega,0,Nat.zero_le _,rfl,rfl,a2,fun x hx=>by have:=kG (gp _ _ b1 x hx);exact⟨this.2.2.2.2,by omega⟩,by show(ka t).length≤_;omega⟩]
  rfl
noncomputable def aF.E:=Entry.ct [some fD] aF.st aF.aC aF.add aF.F aF.out
noncomputable def aF.call:aF.D→Option aF.X:=bH aF.E aF.st
theorem aF.run:bD aF.call aF.aC aF.add aF.F:=cO (cM [.d fD] fun _=>by kernel_rfl)
noncomputable def aF.sg:SG Tryz.prog:=⟨35,aV,aF.E,.fn 2 (by kernel_rfl) aF.ok (And.intro (.ct aF.L0.ok (by kernel_rfl)) (And.intro (.ct aF.L1.ok (by kernel_rfl)) trivial))⟩
abbrev aP.L0.D:=Nat×(List eU)×Int×Int×(List j8)
def aP.L0.st:aP.L0.D→AS:=fun(lL,t9,t10,t11,n19)=>⟨([.undef,.undef,.cf (.new 19 0) 0 [] 0 0 lL]++a9 6 ([.d (.slice eg) t9,.d ti t10,.d ti t11]++a9 10 [])),[],(bJ 19 [[.obj 0 false (.vec 55 kA n19)],[],[]])⟩
abbrev aP.L0.Y0:=Nat×(List j8)
abbrev aP.L0.X0:=Nat×(List j8)
def aP.L0.bq:aP.L0.X0→Exit×AS:=fun x=>(.exit 0,⟨([.undef,.undef,.cf (.new 19 0) 0 [] 0 0 x.1]++a9 19 []),[],(bJ 19 [[.obj 0 false (.vec 55 kA x.2)],[],[]])⟩)
abbrev aP.L0.X:=aP.L0.X0
abbrev aP.L0.Y:=aP.L0.Y0
def aP.L0.out:aP.L0.X→Out (Exit×AS):=fun x=> .ok (aP.L0.bq x)
def aP.L0.add:aP.L0.D→aP.L0.Y→aP.L0.X:=fun(lL,t9,t10,t11,n19) y=>y
abbrev aP.D:=eH
def aP.st:aP.D→SA:=fun t=>([.d fD t],[])
abbrev aP.Y:=(List j8)
abbrev aP.X:=(List j8)
def aP.out:aP.X→aZ:=fun x=>⟨.d (.slice kA) x,[],[]⟩
def aP.add:aP.D→aP.Y→aP.X:=fun t y=>y
def aP.L0.aC:aP.L0.D→Prop:=fun(L,l,n,i,r)=>(l).length≤1000000∧∃k:Nat,k≤(l).length∧i=k∧n=(l).length∧L=(r).length∧(r).length≤1000000+k
def aP.L0.F:aP.L0.D→aP.L0.Y:=fun(L,l,n,i,r)=>(L+(List.drop (Int.toNat i) l).length,r++(List.drop (Int.toNat i) l).map (fun x:eU=>x.1))
def aP.aC:aP.D→Prop:=fun t=>Ee t
def aP.F:aP.D→aP.Y:=fun t=>gU t
noncomputable def aP.G:dQ:=eR (P:=Tryz.prog) [al.sg]
noncomputable def aP.L0.E:=bN.ct aP.L0.st aP.L0.aC aP.L0.add aP.L0.F aP.L0.out
noncomputable def aP.L0.call:aP.L0.D→Option aP.L0.X:=dh aP.L0.E aP.L0.st
noncomputable def aP.an:eC:= {loops:=jJ [(4,{bm:=[2,9,10,11],sites:=[19],ix:=[⟨2,[],19,67⟩]})],outs:=jI [(4,{bm:=[2],sites:=[19]},{bm:=[2]})],fG:=kh [(4,aP.L0.E)],res:=[some (.slice kA)]}
noncomputable def aP.A:= @cH Tryz.prog aP.G aP.an 0 Tryz.f38 _ aP.st
abbrev aP.Ok:=cI @aP.A aP.aC aP.add aP.F aP.out
noncomputable def aP.L0.R:= @bX Tryz.prog aP.G aP.an 0 Tryz.f38 0 _ aP.L0.st
abbrev aP.L0.Ok:=eA Tryz.prog aP.G aP.an 0 Tryz.f38 0 aP.L0.st aP.L0.aC aP.L0.add aP.L0.F aP.L0.out
theorem aP.L0.run:bD aP.L0.call aP.L0.aC aP.L0.add aP.L0.F:=eG (eE [.n,.d (.slice eg),.d ti,.d ti,.d (.slice kA)] fun _=>by kernel_rfl)
theorem aP.L0.aG:fR @aP.L0.R aP.L0.st aP.L0.aC aP.L0.add aP.L0.F aP.L0.bq aP.L0.Ok:=fU
theorem aP.L0.step{R:Type}(lL:Nat)(t9:(List eU))(t10:Int)(t11:Int)(n19:(List j8))(kn:AS→Option R)(kx:Exit→AS→Option R):aP.L0.R (lL,t9,t10,t11,n19) kn kx=
  aK ((gb t11 t10)) (
   aK (eh t11 (((List.length t9):Nat):Int)) (
   aK (decide (lL≤(List.length n19))) (
   aK (dj (lL+1) 40) (
   kn (aP.L0.st ((lL+1),t9,t10,(bK .i64 t11 (1:Int)),((List.take lL n19)++ [(nth eg t9 (Int.toNat t11)).1])))) none) none) none) (
   kx (aP.L0.bq (lL,n19)).1 (aP.L0.bq (lL,n19)).2):=by kernel_rfl
theorem aP.eq{R:Type}(t:eH)(k:aZ→Option R):aP.A t k=
  aj (al.call t) fun x1=>
  aK ((!x1)) (
   k (aP.out ([]:List j8))) (
   aj (aP.L0.call (0,t.1,(((List.length t.1):Nat):Int),(0:Int),([]:List j8))) fun x2=>
   aK (decide (0=0∧(0+x2.1)≤(List.length x2.2))) (
   k (aP.out (cut x2.2 0 x2.1))) none):=by kernel_rfl
theorem aP.L0.ok:aP.L0.Ok:=by
 refine aP.L0.aG (fun(L,l,n,i,r)=>(l).length - Int.toNat i) ?_
 rintro⟨L,l,n,i,r⟩ ⟨hlen,k,hk,rfl,rfl,rfl,hrow⟩
 have hlen:(l).length≤1000000:=hlen
 have hk:k≤(l).length:=hk
 have hrow:(r).length≤1000000+k:=hrow
 by_cases h:k < (l).length
 ·left
  have n1:nth eg l k=l[k]:=cj (t:=eg) h
  have hd:List.drop k l=l[k]::List.drop (k+1) l:=List.drop_eq_getElem_cons h
  refine⟨((r).length+1,l,((l).length:Int),((k+1:Nat):Int),r++ [(fun x:eU=>x.1) l[k]]),⟨hlen,k+1,by omega,rfl,rfl,by rw[List.length_append];rfl,by rw[List.length_append];show(r).length+1≤_;omega⟩,by simp only[Int.toNat_natCast];omega,?_,fun kn kx=> ?_⟩
  ·simp only[aP.L0.add,aP.L0.F,Int.toNat_natCast,hd,List.map_cons,List.length_cons,List.append_assoc,List.singleton_append]
   rw[show ∀a c:Nat,a+1+c=a+(c+1) from fun a c=>by omega]
  ·rw[aP.L0.step,bw (by omega),bh (show(0:Int)≤(k:Int) by omega) (by omega),Int.toNat_natCast,n1]
   simp only[ax]
   rw[aQ (Nat.le_refl _),eF (by omega) (by omega),N.kk (by omega),List.take_length]
   rfl
 ·right
  obtain rfl:k=(l).length:=by omega
  intro R kn kx
  rw[aP.L0.step,bn (by omega),aw]
  simp only[aP.L0.add,aP.L0.F,Int.toNat_natCast,List.drop_length,List.map_nil,List.append_nil,List.length_nil,Nat.add_zero]
theorem aP.ok:aP.Ok:=by
 intro t hv
 have hv:Ee t:=hv
 rw[aP.eq,al.run (d:=t) hv]
 simp only[ab,al.add,al.F,aP.add,aP.F,gU]
 cases hok:fC t
 ·rfl
 ·obtain⟨⟨_,a2,a3,_⟩,b1,b2⟩:=im hok
  rw[aP.L0.run (d:=(0,t.1,t.1.length,0,[])) ⟨by show t.1.length≤_;omega,0,Nat.zero_le _,rfl,rfl,rfl,Nat.zero_le _⟩]
  simp only[Bool.not_true,aw,if_true,ab,aP.L0.add,aP.L0.F,Int.toNat_zero,List.drop_zero,List.nil_append,Nat.zero_add]
  rw[aQ ⟨by trivial,by rw[List.length_map];exact Nat.le_refl _⟩,ax,fc (by rw[List.length_map])]
noncomputable def aP.E:=Entry.ct [some fD] aP.st aP.aC aP.add aP.F aP.out
noncomputable def aP.call:aP.D→Option aP.X:=bH aP.E aP.st
theorem aP.run:bD aP.call aP.aC aP.add aP.F:=cO (cM [.d fD] fun _=>by kernel_rfl)
noncomputable def aP.sg:SG Tryz.prog:=⟨38,aV,aP.E,.fn 1 (by kernel_rfl) aP.ok (And.intro (.ct aP.L0.ok (by kernel_rfl)) trivial)⟩
abbrev bu.L0.D:=Nat×Int×Int×Bs×(List j8)
def bu.L0.st:bu.L0.D→AS:=fun(lL,t12,t13,n3,n21)=>⟨([.undef,.undef,.cf (.new 21 0) 0 [] 0 0 lL,.ptr (.new 3 0) 0 [] 0]++a9 8 ([.d ti t12,.d ti t13]++a9 10 [])),[],([[],[],[],[.obj 0 false (.d tH n3)]]++bJ 17 [[.obj 0 false (.vec 55 kA n21)],[],[]])⟩
abbrev bu.L0.Y0:=Nat×(List j8)
abbrev bu.L0.X0:=Nat×(List j8)
def bu.L0.bq:bu.L0.X0→Exit×AS:=fun x=>(.exit 0,⟨([.undef,.undef,.cf (.new 21 0) 0 [] 0 0 x.1]++a9 21 []),[],(bJ 21 [[.obj 0 false (.vec 55 kA x.2)],[],[]])⟩)
abbrev bu.L0.X:=bu.L0.X0
abbrev bu.L0.Y:=bu.L0.Y0
def bu.L0.out:bu.L0.X→Out (Exit×AS):=fun x=> .ok (bu.L0.bq x)
def bu.L0.add:bu.L0.D→bu.L0.Y→bu.L0.X:=fun(lL,t12,t13,n3,n21) y=>y
abbrev bu.D:=eH
def bu.st:bu.D→SA:=fun t=>([.d fD t],[])
abbrev bu.Y:=(List j8)
abbrev bu.X:=(List j8)
def bu.out:bu.X→aZ:=fun x=>⟨.d (.slice kA) x,[],[]⟩
def bu.add:bu.D→bu.Y→bu.X:=fun t y=>y
def bu.L0.aC:bu.L0.D→Prop:=fun(L,n,i,id,r)=>∃k m:Nat,k≤m∧i=k∧n=m∧m≤1000∧L=r.length∧L=k
def bu.L0.F:bu.L0.D→bu.L0.Y:=fun(L,n,i,id,r)=>(L+(n - i).toNat,r++pf id i.toNat (n - i).toNat)
def bu.aC:bu.D→Prop:=fun t=>qL t
def bu.F:bu.D→bu.Y:=fun t=>ld t
noncomputable def bu.G:dQ:=eR (P:=Tryz.prog) [tid.sg,al.sg]
noncomputable def bu.L0.E:=bN.ct bu.L0.st bu.L0.aC bu.L0.add bu.L0.F bu.L0.out
noncomputable def bu.L0.call:bu.L0.D→Option bu.L0.X:=dh bu.L0.E bu.L0.st
noncomputable def bu.an:eC:= {loops:=jJ [(5,{bm:=[2,3,12,13],sites:=[3,21],ix:=[⟨2,[],21,67⟩]})],outs:=jI [(5,{bm:=[2],sites:=[21]},{bm:=[2]})],fG:=kh [(5,bu.L0.E)],res:=[some (.slice kA)]}
noncomputable def bu.A:= @cH Tryz.prog bu.G bu.an 0 Tryz.f40 _ bu.st
abbrev bu.Ok:=cI @bu.A bu.aC bu.add bu.F bu.out
noncomputable def bu.L0.R:= @bX Tryz.prog bu.G bu.an 0 Tryz.f40 0 _ bu.L0.st
abbrev bu.L0.Ok:=eA Tryz.prog bu.G bu.an 0 Tryz.f40 0 bu.L0.st bu.L0.aC bu.L0.add bu.L0.F bu.L0.out
theorem bu.L0.run:bD bu.L0.call bu.L0.aC bu.L0.add bu.L0.F:=eG (eE [.n,.d ti,.d ti,.d tB,.d (.slice kA)] fun _=>by kernel_rfl)
theorem bu.L0.aG:fR @bu.L0.R bu.L0.st bu.L0.aC bu.L0.add bu.L0.F bu.L0.bq bu.L0.Ok:=fU
theorem bu.L0.step{R:Type}(lL:Nat)(t12:Int)(t13:Int)(n3:Bs)(n21:(List j8))(kn:AS→Option R)(kx:Exit→AS→Option R):bu.L0.R (lL,t12,t13,n3,n21) kn kx=
  aK ((gb t13 t12)) (
   aK (decide (lL≤(List.length n21))) (
   aK (dj (lL+1) 40) (
   kn (bu.L0.st ((lL+1),t12,(bK .i64 t13 (1:Int)),n3,((List.take lL n21)++ [(n3,(t13,()))])))) none) none) (
   kx (bu.L0.bq (lL,n21)).1 (bu.L0.bq (lL,n21)).2):=by kernel_rfl
theorem bu.eq{R:Type}(t:eH)(k:aZ→Option R):bu.A t k=
  aj (tid.call t) fun x1=>
  aj (al.call t) fun x2=>
  aK ((!x2)) (
   k (bu.out ([]:List j8))) (
   aj (bu.L0.call (0,(((List.length t.2.1):Nat):Int),(0:Int),x1,([]:List j8))) fun x3=>
   aK (decide (0=0∧(0+x3.1)≤(List.length x3.2))) (
   k (bu.out (cut x3.2 0 x3.1))) none):=by kernel_rfl
theorem zF(id:List Int)(k n:Nat):(pf id k n).length=n:=by simp[pf]
theorem xL(id:List Int)(k n:Nat):pf id k (n+1)=(id,((k:Int),()))::pf id (k+1) n:=by
 unfold pf
 rw[List.range'_succ,List.map_cons]
theorem bu.L0.ok:bu.L0.Ok:=by
 refine bu.L0.aG (fun(L,n,i,id,r)=>(n - i).toNat) ?_
 rintro⟨L,n,i,id,r⟩ ⟨k,m,hk,rfl,rfl,hm,rfl,hrk⟩
 have hrk:r.length=k:=hrk
 by_cases h:k < m
 ·left
  have e1:((m:Int) - (k:Int)).toNat=(m - (k+1))+1:=by omega
  have e2:((m:Int) - ((k+1:Nat):Int)).toNat=m - (k+1):=by omega
  refine⟨(r.length+1,(m:Int),((k+1:Nat):Int),id,r++ [(id,((k:Int),()))]),⟨k+1,m,by omega,rfl,rfl,hm,by rw[List.length_append];rfl,by show r.length+1=_;omega⟩,by show((m:Int) - ((k+1:Nat):Int)).toNat < ((m:Int) - (k:Int)).toNat;omega,?_,fun kn kx=> ?_⟩
  ·simp only[bu.L0.add,bu.L0.F,e1,e2,Int.toNat_natCast,xL,List.append_assoc,List.singleton_append]
   rw[show r.length+1+(m - (k+1))=r.length+(m - (k+1)+1) by omega]
  ·rw[bu.L0.step,bw (by omega),aQ (Nat.le_refl _),eF (by omega) (by omega),N.kk (by omega),List.take_length]
   rfl
 ·right
  obtain rfl:k=m:=by omega
  intro R kn kx
  rw[bu.L0.step,bn (by omega),aw]
  simp only[bu.L0.add,bu.L0.F,Int.sub_self,Int.toNat_zero,Nat.add_zero]
  rw[show pf id (k:Int).toNat 0=[] from rfl,List.append_nil]
theorem bu.ok:bu.Ok:=by
 intro t hv
 have hv:qL t:=hv
 rw[bu.eq,tid.run (d:=t) hv,al.run (d:=t) hv.1]
 simp only[ab,tid.add,tid.F,al.add,al.F,bu.add,bu.F,ld]
 cases hok:fC t
 ·rfl
 ·obtain⟨⟨_,a2,a3,_⟩,b1,b2⟩:=im hok
  have hl:=zF (qI t) 0 t.2.1.length
  rw[bu.L0.run (d:=(0,t.2.1.length,0,qI t,[])) ⟨0,t.2.1.length,Nat.zero_le _,rfl,rfl,by omega,rfl,rfl⟩]
  simp only[Bool.not_true,aw,if_true,ab,bu.L0.add,bu.L0.F,Int.sub_zero,Int.toNat_natCast,Int.toNat_zero,List.nil_append,Nat.zero_add]
  rw[aQ ⟨by trivial,by rw[hl];exact Nat.le_refl _⟩,ax,fc hl]
noncomputable def bu.E:=Entry.ct [some fD] bu.st bu.aC bu.add bu.F bu.out
noncomputable def bu.call:bu.D→Option bu.X:=bH bu.E bu.st
theorem bu.run:bD bu.call bu.aC bu.add bu.F:=cO (cM [.d fD] fun _=>by kernel_rfl)
noncomputable def bu.sg:SG Tryz.prog:=⟨40,aV,bu.E,.fn 1 (by kernel_rfl) bu.ok (And.intro (.ct bu.L0.ok (by kernel_rfl)) trivial)⟩
set_option synthInstance.maxSize 5000
abbrev ff.D:=(List eU)
def ff.st:ff.D→SA:=fun sv=>([.d (.slice eg) sv],[])
abbrev ff.Y:=Nat×(List eU)
abbrev ff.X:=Nat×(List eU)
def ff.out:ff.X→aZ:=fun x=>⟨.cf (.new 0 0) 0 [] 0 0 x.1,[],[.obj 0 false (.vec 57 eg x.2)]⟩
def ff.add:ff.D→ff.Y→ff.X:=fun sv y=>y
def ff.aC:ff.D→Prop:=fun l=>l.length≤1000000
def ff.F:ff.D→ff.Y:=fun l=>(l.length,l)
noncomputable def ff.G:dQ:=eR (P:=Tryz.prog) []
noncomputable def ff.an:eC:= {bI:=[5],ix:=[⟨2,[],5,36⟩]}
noncomputable def ff.A:= @cH Tryz.prog ff.G ff.an 0 Tryz.f131 _ ff.st
abbrev ff.Ok:=cI @ff.A ff.aC ff.add ff.F ff.out
theorem ff.eq{R:Type}(sv:(List eU))(k:aZ→Option R):ff.A sv k=
  aK (decide (0 < (List.length sv))) (
   aK (dj (0+(List.length sv)) 80) (
   k (ff.out ((0+(List.length sv)),((List.take 0 (List.replicate 0 (((List.replicate 32 (0:Int)),((0:Int),())),(((0:Int),(([]:List Sg),((0:Int),()))),()))))++sv)))) none) (
   nd (
    k (ff.out (0,([]:List eU)))) (
    aK (dj (0+(List.length sv)) 80) (
    k (ff.out ((0+(List.length sv)),((List.take 0 (List.replicate 0 (((List.replicate 32 (0:Int)),((0:Int),())),(((0:Int),(([]:List Sg),((0:Int),()))),()))))++sv)))) none)):=by kernel_rfl
theorem ff.ok:ff.Ok:=by
 intro l hl
 have hl:l.length≤1000000:=hl
 have hr:dj l.length 80=true:=eF (by omega) (by omega)
 rw[ff.eq]
 simp only[Nat.zero_add,hr,ax,List.take_zero,List.nil_append,ff.add,ff.F]
 by_cases h:0 < l.length
 ·simp only[aQ h,ax]
 ·have:l=[]:=List.eq_nil_of_length_eq_zero (by omega)
  subst this
  simp only[List.length_nil,nQ,aM (Nat.lt_irrefl 0),aw]
noncomputable def ff.E:=Entry.ct [some (.slice eg)] ff.st ff.aC ff.add ff.F ff.out
noncomputable def ff.call:ff.D→Option ff.X:=bH ff.E ff.st
theorem ff.run:bD ff.call ff.aC ff.add ff.F:=cO (cM [.d (.slice eg)] fun _=>by kernel_rfl)
noncomputable def ff.sg:SG Tryz.prog:=⟨131,aV,ff.E,.fn 0 (by kernel_rfl) ff.ok trivial⟩
abbrev dJ.D:=(List fM)
def dJ.st:dJ.D→SA:=fun sv=>([.d (.slice eV) sv],[])
abbrev dJ.Y:=Nat×(List fM)
abbrev dJ.X:=Nat×(List fM)
def dJ.out:dJ.X→aZ:=fun x=>⟨.cf (.new 0 0) 0 [] 0 0 x.1,[],[.obj 0 false (.vec 62 eV x.2)]⟩
def dJ.add:dJ.D→dJ.Y→dJ.X:=fun sv y=>y
def dJ.aC:dJ.D→Prop:=fun l=>l.length≤1000000
def dJ.F:dJ.D→dJ.Y:=fun l=>(l.length,l)
noncomputable def dJ.G:dQ:=eR (P:=Tryz.prog) []
noncomputable def dJ.an:eC:= {bI:=[5],ix:=[⟨2,[],5,37⟩]}
noncomputable def dJ.A:= @cH Tryz.prog dJ.G dJ.an 0 Tryz.f132 _ dJ.st
abbrev dJ.Ok:=cI @dJ.A dJ.aC dJ.add dJ.F dJ.out
theorem dJ.eq{R:Type}(sv:(List fM))(k:aZ→Option R):dJ.A sv k=
  aK (decide (0 < (List.length sv))) (
   aK (dj (0+(List.length sv)) 32) (
   k (dJ.out ((0+(List.length sv)),((List.take 0 (List.replicate 0 ((0:Int),((([]:List gf),()),()))))++sv)))) none) (
   nd (
    k (dJ.out (0,([]:List fM)))) (
    aK (dj (0+(List.length sv)) 32) (
    k (dJ.out ((0+(List.length sv)),((List.take 0 (List.replicate 0 ((0:Int),((([]:List gf),()),()))))++sv)))) none)):=by kernel_rfl
theorem dJ.ok:dJ.Ok:=by
 intro l hl
 have hl:l.length≤1000000:=hl
 have hr:dj l.length 32=true:=eF (by omega) (by omega)
 rw[dJ.eq]
 simp only[Nat.zero_add,hr,ax,List.take_zero,List.nil_append,dJ.add,dJ.F]
 by_cases h:0 < l.length
 ·simp only[aQ h,ax]
 ·have:l=[]:=List.eq_nil_of_length_eq_zero (by omega)
  subst this
  simp only[List.length_nil,nQ,aM (Nat.lt_irrefl 0),aw]
noncomputable def dJ.E:=Entry.ct [some (.slice eV)] dJ.st dJ.aC dJ.add dJ.F dJ.out
noncomputable def dJ.call:dJ.D→Option dJ.X:=bH dJ.E dJ.st
theorem dJ.run:bD dJ.call dJ.aC dJ.add dJ.F:=cO (cM [.d (.slice eV)] fun _=>by kernel_rfl)
noncomputable def dJ.sg:SG Tryz.prog:=⟨132,aV,dJ.E,.fn 0 (by kernel_rfl) dJ.ok trivial⟩
abbrev fe.D:=(List gf)
def fe.st:fe.D→SA:=fun sv=>([.d (.slice fg) sv],[])
abbrev fe.Y:=Nat×(List gf)
abbrev fe.X:=Nat×(List gf)
def fe.out:fe.X→aZ:=fun x=>⟨.cf (.new 0 0) 0 [] 0 0 x.1,[],[.obj 0 false (.vec 85 fg x.2)]⟩
def fe.add:fe.D→fe.Y→fe.X:=fun sv y=>y
def fe.aC:fe.D→Prop:=fun l=>l.length≤1000000
def fe.F:fe.D→fe.Y:=fun l=>(l.length,l)
noncomputable def fe.G:dQ:=eR (P:=Tryz.prog) []
noncomputable def fe.an:eC:= {bI:=[5],ix:=[⟨2,[],5,22⟩]}
noncomputable def fe.A:= @cH Tryz.prog fe.G fe.an 0 Tryz.f134 _ fe.st
abbrev fe.Ok:=cI @fe.A fe.aC fe.add fe.F fe.out
theorem fe.eq{R:Type}(sv:(List gf))(k:aZ→Option R):fe.A sv k=
  aK (decide (0 < (List.length sv))) (
   aK (dj (0+(List.length sv)) 48) (
   k (fe.out ((0+(List.length sv)),((List.take 0 (List.replicate 0 (([]:List Int),((0:Int),((0:Int),((0:Int),()))))))++sv)))) none) (
   nd (
    k (fe.out (0,([]:List gf)))) (
    aK (dj (0+(List.length sv)) 48) (
    k (fe.out ((0+(List.length sv)),((List.take 0 (List.replicate 0 (([]:List Int),((0:Int),((0:Int),((0:Int),()))))))++sv)))) none)):=by kernel_rfl
theorem fe.ok:fe.Ok:=by
 intro l hl
 have hl:l.length≤1000000:=hl
 have hr:dj l.length 48=true:=eF (by omega) (by omega)
 rw[fe.eq]
 simp only[Nat.zero_add,hr,ax,List.take_zero,List.nil_append,fe.add,fe.F]
 by_cases h:0 < l.length
 ·simp only[aQ h,ax]
 ·have:l=[]:=List.eq_nil_of_length_eq_zero (by omega)
  subst this
  simp only[List.length_nil,nQ,aM (Nat.lt_irrefl 0),aw]
noncomputable def fe.E:=Entry.ct [some (.slice fg)] fe.st fe.aC fe.add fe.F fe.out
noncomputable def fe.call:fe.D→Option fe.X:=bH fe.E fe.st
theorem fe.run:bD fe.call fe.aC fe.add fe.F:=cO (cM [.d (.slice fg)] fun _=>by kernel_rfl)
noncomputable def fe.sg:SG Tryz.prog:=⟨134,aV,fe.E,.fn 0 (by kernel_rfl) fe.ok trivial⟩
abbrev dK.D:=(List Sg)
def dK.st:dK.D→SA:=fun sv=>([.d (.slice iQ) sv],[])
abbrev dK.Y:=(List Sg)
abbrev dK.X:=(List Sg)
def dK.out:dK.X→aZ:=fun x=>⟨.d (.slice iQ) x,[],[]⟩
def dK.add:dK.D→dK.Y→dK.X:=fun sv y=>y
def dK.aC:dK.D→Prop:=fun l=>l.length≤1000000
def dK.F:dK.D→dK.Y:=fun l=>l
noncomputable def dK.G:dQ:=eR (P:=Tryz.prog) []
noncomputable def dK.an:eC:= {bI:=[5],res:=[some (.slice iQ)]}
noncomputable def dK.A:= @cH Tryz.prog dK.G dK.an 0 Tryz.f133 _ dK.st
abbrev dK.Ok:=cI @dK.A dK.aC dK.add dK.F dK.out
theorem dK.eq{R:Type}(sv:(List Sg))(k:aZ→Option R):dK.A sv k=
  aK (decide (0 < (List.length sv))) (
   aK (dj (0+(List.length sv)) 16) (
   aK (decide (0=0∧(0+(0+(List.length sv)))≤(List.length ((List.take 0 (List.replicate 0 ((0:Int),((0:Int),()))))++sv)))) (
   k (dK.out (cut ((List.take 0 (List.replicate 0 ((0:Int),((0:Int),()))))++sv) 0 (0+(List.length sv))))) none) none) (
   nd (
    k (dK.out ([]:List Sg))) (
    aK (dj (0+(List.length sv)) 16) (
    aK (decide (0=0∧(0+(0+(List.length sv)))≤(List.length ((List.take 0 (List.replicate 0 ((0:Int),((0:Int),()))))++sv)))) (
    k (dK.out (cut ((List.take 0 (List.replicate 0 ((0:Int),((0:Int),()))))++sv) 0 (0+(List.length sv))))) none) none)):=by kernel_rfl
theorem dK.ok:dK.Ok:=by
 intro l hl
 have hl:l.length≤1000000:=hl
 have hr:dj l.length 16=true:=eF (by omega) (by omega)
 rw[dK.eq]
 simp only[Nat.zero_add,hr,ax,List.take_zero,List.nil_append,Nat.le_refl,and_self,decide_true,fc,dK.add,dK.F]
 by_cases h:0 < l.length
 ·simp only[aQ h,ax]
 ·have:l=[]:=List.eq_nil_of_length_eq_zero (by omega)
  subst this
  simp only[List.length_nil,nQ,aM (Nat.lt_irrefl 0),aw]
noncomputable def dK.E:=Entry.ct [some (.slice iQ)] dK.st dK.aC dK.add dK.F dK.out
noncomputable def dK.call:dK.D→Option dK.X:=bH dK.E dK.st
theorem dK.run:bD dK.call dK.aC dK.add dK.F:=cO (cM [.d (.slice iQ)] fun _=>by kernel_rfl)
noncomputable def dK.sg:SG Tryz.prog:=⟨133,aV,dK.E,.fn 0 (by kernel_rfl) dK.ok trivial⟩
abbrev ag.L0.D:=Int×Int×Nat×Nat×(Int×Unit)×(Int×Unit)×(List eU)×(List fM)
def ag.L0.st:ag.L0.D→AS:=fun(t17,t18,n1L,n1L_2,n1,n2,n9,n12)=>⟨([.undef,.ptr (.new 1 0) 0 [] 0,.ptr (.new 2 0) 0 [] 0]++a9 14 ([.d ti t17,.d ti t18]++a9 56 [])),[],([[],[.obj 0 false (.pr (.cf (.new 9 0) 0 [] 0 0 n1L) (.pr (.cf (.new 12 0) 0 [] 0 0 n1L_2) (.d (.pair ti .unit) n1)))],[.obj 0 false (.pr (.cV) (.pr (.cV) (.d (.pair ti .unit) n2)))]]++bJ 6 ([[.obj 0 false (.vec 57 eg n9)],[],[],[.obj 0 false (.vec 62 eV n12)]]++bJ 62 []))⟩
abbrev ag.L0.Y0:=(List eU)
abbrev ag.L0.X0:=(Nat×Nat×(Int×Unit)×(Int×Unit)×(List fM))×((List eU))
def ag.L0.bq:ag.L0.X0→Exit×AS:=fun x=>(.exit 0,⟨([.undef,.ptr (.new 1 0) 0 [] 0,.ptr (.new 2 0) 0 [] 0]++a9 72 []),[],([[],[.obj 0 false (.pr (.cf (.new 9 0) 0 [] 0 0 x.1.1) (.pr (.cf (.new 12 0) 0 [] 0 0 x.1.2.1) (.d (.pair ti .unit) x.1.2.2.1)))],[.obj 0 false (.pr (.cV) (.pr (.cV) (.d (.pair ti .unit) x.1.2.2.2.1)))]]++bJ 6 ([[.obj 0 false (.vec 57 eg x.2)],[],[],[.obj 0 false (.vec 62 eV x.1.2.2.2.2)]]++bJ 62 []))⟩)
abbrev ag.L0.X:=ag.L0.X0
abbrev ag.L0.Y:=ag.L0.Y0
def ag.L0.out:ag.L0.X→Out (Exit×AS):=fun x=> .ok (ag.L0.bq x)
def ag.L0.add:ag.L0.D→ag.L0.Y→ag.L0.X:=fun(t17,t18,n1L,n1L_2,n1,n2,n9,n12) y=>((n1L,n1L_2,n1,n2,n12),y)
abbrev ag.L1.D:=Int×Int×Nat×Nat×(Int×Unit)×(Int×Unit)×(List eU)×(List fM)
def ag.L1.st:ag.L1.D→AS:=fun(t38,t39,n1L_3,n1L_4,n1_2,n2_2,n9_2,n12_2)=>⟨([.undef,.ptr (.new 1 0) 0 [] 0,.ptr (.new 2 0) 0 [] 0]++a9 35 ([.d ti t38,.d ti t39]++a9 35 [])),[],([[],[.obj 0 false (.pr (.cf (.new 9 0) 0 [] 0 0 n1L_3) (.pr (.cf (.new 12 0) 0 [] 0 0 n1L_4) (.d (.pair ti .unit) n1_2)))],[.obj 0 false (.pr (.cV) (.pr (.cV) (.d (.pair ti .unit) n2_2)))]]++bJ 6 ([[.obj 0 false (.vec 57 eg n9_2)],[],[],[.obj 0 false (.vec 62 eV n12_2)]]++bJ 62 []))⟩
abbrev ag.L1.Y0:=Nat×Nat×(Int×Unit)×(Int×Unit)×(List eU)×(List fM)
abbrev ag.L1.X0:=Nat×Nat×(Int×Unit)×(Int×Unit)×(List eU)×(List fM)
def ag.L1.bq:ag.L1.X0→Exit×AS:=fun x=>(.exit 2,⟨([.undef,.ptr (.new 1 0) 0 [] 0,.ptr (.new 2 0) 0 [] 0]++a9 72 []),[],([[],[.obj 0 false (.pr (.cf (.new 9 0) 0 [] 0 0 x.1) (.pr (.cf (.new 12 0) 0 [] 0 0 x.2.1) (.d (.pair ti .unit) x.2.2.1)))],[.obj 0 false (.pr (.cV) (.pr (.cV) (.d (.pair ti .unit) x.2.2.2.1)))]]++bJ 6 ([[.obj 0 false (.vec 57 eg x.2.2.2.2.1)],[],[],[.obj 0 false (.vec 62 eV x.2.2.2.2.2)]]++bJ 62 []))⟩)
abbrev ag.L1.X:=ag.L1.X0
abbrev ag.L1.Y:=ag.L1.Y0
def ag.L1.out:ag.L1.X→Out (Exit×AS):=fun x=> .ok (ag.L1.bq x)
def ag.L1.add:ag.L1.D→ag.L1.Y→ag.L1.X:=fun(t38,t39,n1L_3,n1L_4,n1_2,n2_2,n9_2,n12_2) y=>y
abbrev ag.L2.D:=Int×Nat×Int×Int×Int×Int×Nat×Nat×(Int×Unit)×(Int×Unit)×(List eU)×(List fM)×(List gf)
def ag.L2.st:ag.L2.D→AS:=fun(kv,lL,t38_2,t39_2,t51,t52,n1L_5,n1L_6,n1_3,n2_3,n9_3,n12_3,n49)=>⟨([.undef,.ptr (.new 1 0) 0 [] 0,.ptr (.new 2 0) 0 [] 0,.undef,.d ti kv,.cf (.new 49 0) 0 [] 0 0 lL]++a9 32 ([.d ti t38_2,.d ti t39_2]++a9 11 ([.d ti t51,.d ti t52]++a9 22 []))),[],([[],[.obj 0 false (.pr (.cf (.new 9 0) 0 [] 0 0 n1L_5) (.pr (.cf (.new 12 0) 0 [] 0 0 n1L_6) (.d (.pair ti .unit) n1_3)))],[.obj 0 false (.pr (.cV) (.pr (.cV) (.d (.pair ti .unit) n2_3)))]]++bJ 6 ([[.obj 0 false (.vec 57 eg n9_3)],[],[],[.obj 0 false (.vec 62 eV n12_3)]]++bJ 36 ([[.obj 0 false (.vec 85 fg n49)]]++bJ 25 [])))⟩
abbrev ag.L2.Y0:=(List gf)×(List gf)
abbrev ag.L2.X0:=(Int×Int×Int×Nat×Nat×(Int×Unit)×(Int×Unit)×(List eU)×(List fM))×((List gf)×(List gf))
def ag.L2.bq:ag.L2.X0→Exit×AS:=fun x=>(.exit 4,⟨([.undef,.ptr (.new 1 0) 0 [] 0,.ptr (.new 2 0) 0 [] 0,.undef,.d ti x.1.1,.d (.slice fg) x.2.1]++a9 32 ([.d ti x.1.2.1,.d ti x.1.2.2.1]++a9 35 [])),[],([[],[.obj 0 false (.pr (.cf (.new 9 0) 0 [] 0 0 x.1.2.2.2.1) (.pr (.cf (.new 12 0) 0 [] 0 0 x.1.2.2.2.2.1) (.d (.pair ti .unit) x.1.2.2.2.2.2.1)))],[.obj 0 false (.pr (.cV) (.pr (.cV) (.d (.pair ti .unit) x.1.2.2.2.2.2.2.1)))]]++bJ 6 ([[.obj 0 false (.vec 57 eg x.1.2.2.2.2.2.2.2.1)],[],[],[.obj 0 false (.vec 62 eV x.1.2.2.2.2.2.2.2.2)]]++bJ 36 ([[.obj 0 true (.vec 85 fg x.2.2)]]++bJ 25 [])))⟩)
abbrev ag.L2.X:=ag.L2.X0
abbrev ag.L2.Y:=ag.L2.Y0
def ag.L2.out:ag.L2.X→Out (Exit×AS):=fun x=> .ok (ag.L2.bq x)
def ag.L2.add:ag.L2.D→ag.L2.Y→ag.L2.X:=fun(kv,lL,t38_2,t39_2,t51,t52,n1L_5,n1L_6,n1_3,n2_3,n9_3,n12_3,n49) y=>((kv,t38_2,t39_2,n1L_5,n1L_6,n1_3,n2_3,n9_3,n12_3),y)
abbrev ag.D:=eH
def ag.st:ag.D→SA:=fun t=>([.d fD t],[])
abbrev ag.Y:=Nat×((List fM)×(Int×Unit))×(List eU)
abbrev ag.X:=Nat×((List fM)×(Int×Unit))×(List eU)
def ag.out:ag.X→aZ:=fun x=>⟨.pr (.cf (.new 0 0) 0 [] 0 0 x.1) (.d (.pair (.slice eV) (.pair ti .unit)) x.2.1),[],[.obj 0 false (.vec 57 eg x.2.2)]⟩
def ag.add:ag.D→ag.Y→ag.X:=fun t y=>y
def ag.L0.aC:ag.L0.D→Prop:=fun(m,i,L,L2,u,v,l,os)=>(l.length≤1000∧∀x∈l,x.2.1.2.1.length≤1000000)∧∃k:Nat,k≤l.length∧i=k∧m=l.length∧L=l.length
def ag.L0.F:ag.L0.D→ag.L0.Y:=fun(m,i,L,L2,u,v,l,os)=>l
def ag.L2.aC:ag.L2.D→Prop:=fun(kv,L,m1,i1,m,i,L5,L6,u,v,ls,os,bs)=>(bs.length≤1000∧∀x∈bs,x.1.length≤1000000)∧∃k:Nat,k≤bs.length∧i=k∧m=bs.length∧L=bs.length
def ag.L2.F:ag.L2.D→ag.L2.Y:=fun(kv,L,m1,i1,m,i,L5,L6,u,v,ls,os,bs)=>(bs,bs)
def ag.L1.aC:ag.L1.D→Prop:=fun(m,i,L3,L,u,v,ls,os)=>(os.length≤1000∧∀x∈os,x.2.1.1.length≤1000∧∀b∈x.2.1.1,b.1.length≤1000000)∧∃k:Nat,k≤os.length∧i=k∧m=os.length∧L=os.length
def ag.L1.F:ag.L1.D→ag.L1.Y:=fun(m,i,L3,L,u,v,ls,os)=>(L3,L,u,v,ls,os)
def ag.aC:ag.D→Prop:=fun t=>fC t=true
def ag.F:ag.D→ag.Y:=fun t=>(t.1.length,(t.2.1,t.2.2),t.1)
noncomputable def ag.G:dQ:=eR (P:=Tryz.prog) [ff.sg,dJ.sg,dK.sg,fe.sg,cK.sg]
noncomputable def ag.L0.E:=bN.ct ag.L0.st ag.L0.aC ag.L0.add ag.L0.F ag.L0.out
noncomputable def ag.L0.call:ag.L0.D→Option ag.L0.X:=dh ag.L0.E ag.L0.st
noncomputable def ag.L1.E:=bN.ct ag.L1.st ag.L1.aC ag.L1.add ag.L1.F ag.L1.out
noncomputable def ag.L1.call:ag.L1.D→Option ag.L1.X:=dh ag.L1.E ag.L1.st
noncomputable def ag.L2.E:=bN.ct ag.L2.st ag.L2.aC ag.L2.add ag.L2.F ag.L2.out
noncomputable def ag.L2.call:ag.L2.D→Option ag.L2.X:=dh ag.L2.E ag.L2.st
noncomputable def ag.an:eC:= {bI:=[1],loops:=jJ [(3,{bm:=[1,2,17,18],sites:=[1,2,9,12]}),(8,{bm:=[1,2,38,39],sites:=[1,2,9,12]}),(12,{bm:=[1,2,4,5,38,39,51,52],sites:=[1,2,9,12,49]})],outs:=jI [(3,{bm:=[1,2],sites:=[1,2,9,12]},{bm:=[2]}),(8,{bm:=[1,2],sites:=[1,2,9,12]},{bm:=[2]}),(12,{bm:=[1,2,4,5,38,39],sites:=[1,2,9,12,49],data:=[(5,(.slice fg))]},{bm:=[2]})],fG:=kh [(3,ag.L0.E),(8,ag.L1.E),(12,ag.L2.E)],sR:=[⟨2,[.snd,.fst],(.slice eV)⟩]}
noncomputable def ag.A:= @cH Tryz.prog ag.G ag.an 0 Tryz.f92 _ ag.st
abbrev ag.Ok:=cI @ag.A ag.aC ag.add ag.F ag.out
noncomputable def ag.L0.R:= @bX Tryz.prog ag.G ag.an 0 Tryz.f92 0 _ ag.L0.st
abbrev ag.L0.Ok:=eA Tryz.prog ag.G ag.an 0 Tryz.f92 0 ag.L0.st ag.L0.aC ag.L0.add ag.L0.F ag.L0.out
noncomputable def ag.L1.R:= @bX Tryz.prog ag.G ag.an 0 Tryz.f92 1 _ ag.L1.st
abbrev ag.L1.Ok:=eA Tryz.prog ag.G ag.an 0 Tryz.f92 1 ag.L1.st ag.L1.aC ag.L1.add ag.L1.F ag.L1.out
noncomputable def ag.L2.R:= @bX Tryz.prog ag.G ag.an 0 Tryz.f92 2 _ ag.L2.st
abbrev ag.L2.Ok:=eA Tryz.prog ag.G ag.an 0 Tryz.f92 2 ag.L2.st ag.L2.aC ag.L2.add ag.L2.F ag.L2.out
theorem ag.L0.run:bD ag.L0.call ag.L0.aC ag.L0.add ag.L0.F:=eG (eE [.d ti,.d ti,.n,.n,.d (.pair ti .unit),.d (.pair ti .unit),.d (.slice eg),.d (.slice eV)] fun _=>by kernel_rfl)
theorem ag.L0.aG:fR @ag.L0.R ag.L0.st ag.L0.aC ag.L0.add ag.L0.F ag.L0.bq ag.L0.Ok:=fU
theorem ag.L0.step{R:Type}(t17:Int)(t18:Int)(n1L:Nat)(n1L_2:Nat)(n1:(Int×Unit))(n2:(Int×Unit))(n9:(List eU))(n12:(List fM))(kn:AS→Option R)(kx:Exit→AS→Option R):ag.L0.R (t17,t18,n1L,n1L_2,n1,n2,n9,n12) kn kx=
  aK ((gb t18 t17)) (
   aK (eh t18 ((n1L:Nat):Int)) (
   aK (decide ((0+(Int.toNat t18)) < (List.length n9))) (
   aK (decide ((((0+(Int.toNat t18))*36)+34)=(((0+((Int.toNat t18)*36))+33)+1))) (
   aj (dK.call (nth eg n9 (0+(Int.toNat t18))).2.1.2.1) fun x1=>
   aK (eh t18 ((n1L:Nat):Int)) (
   aK (decide ((0+(Int.toNat t18)) < (List.length n9))) (
   aK (decide ((((0+(Int.toNat t18))*36)+34)=(((0+((Int.toNat t18)*36))+33)+1))) (
   aK (decide ((0+(Int.toNat t18)) < (List.length n9))) (
   kn (ag.L0.st (t17,(bK .i64 t18 (1:Int)),n1L,n1L_2,n1,n2,(List.set n9 (0+(Int.toNat t18)) ((nth eg n9 (0+(Int.toNat t18))).1,(((nth eg n9 (0+(Int.toNat t18))).2.1.1,(x1,(nth eg n9 (0+(Int.toNat t18))).2.1.2.2)),(nth eg n9 (0+(Int.toNat t18))).2.2))),n12))) none) none) none) none) none) none) none) (
   kx (ag.L0.bq ((n1L,n1L_2,n1,n2,n12),n9)).1 (ag.L0.bq ((n1L,n1L_2,n1,n2,n12),n9)).2):=by kernel_rfl
theorem ag.L1.run:bD ag.L1.call ag.L1.aC ag.L1.add ag.L1.F:=eG (eE [.d ti,.d ti,.n,.n,.d (.pair ti .unit),.d (.pair ti .unit),.d (.slice eg),.d (.slice eV)] fun _=>by kernel_rfl)
theorem ag.L1.aG:fR @ag.L1.R ag.L1.st ag.L1.aC ag.L1.add ag.L1.F ag.L1.bq ag.L1.Ok:=fU
theorem ag.L1.step{R:Type}(t38:Int)(t39:Int)(n1L_3:Nat)(n1L_4:Nat)(n1_2:(Int×Unit))(n2_2:(Int×Unit))(n9_2:(List eU))(n12_2:(List fM))(kn:AS→Option R)(kx:Exit→AS→Option R):ag.L1.R (t38,t39,n1L_3,n1L_4,n1_2,n2_2,n9_2,n12_2) kn kx=
  aK ((gb t39 t38)) (
   aK (eh t39 ((n1L_4:Nat):Int)) (
   aK (decide ((0+(Int.toNat t39)) < (List.length n12_2))) (
   aK (decide ((((0+(Int.toNat t39))*2)+1)=(((0+((Int.toNat t39)*2))+1)+0))) (
   aj (fe.call (nth eV n12_2 (0+(Int.toNat t39))).2.1.1) fun x1=>
   aj (ag.L2.call (t39,x1.1,t38,t39,((x1.1:Nat):Int),(0:Int),n1L_3,n1L_4,n1_2,n2_2,n9_2,n12_2,x1.2)) fun x2=>
   aK (eh x2.1.1 ((x2.1.2.2.2.2.1:Nat):Int)) (
   aK (decide ((0+(Int.toNat x2.1.1)) < (List.length x2.1.2.2.2.2.2.2.2.2))) (
   aK (decide ((((0+(Int.toNat x2.1.1))*2)+1)=(((0+((Int.toNat x2.1.1)*2))+1)+0))) (
   aK (decide ((0+(Int.toNat x2.1.1)) < (List.length x2.1.2.2.2.2.2.2.2.2))) (
   kn (ag.L1.st (x2.1.2.1,(bK .i64 x2.1.2.2.1 (1:Int)),x2.1.2.2.2.1,x2.1.2.2.2.2.1,x2.1.2.2.2.2.2.1,x2.1.2.2.2.2.2.2.1,x2.1.2.2.2.2.2.2.2.1,(List.set x2.1.2.2.2.2.2.2.2.2 (0+(Int.toNat x2.1.1)) ((nth eV x2.1.2.2.2.2.2.2.2.2 (0+(Int.toNat x2.1.1))).1,((x2.2.1,(nth eV x2.1.2.2.2.2.2.2.2.2 (0+(Int.toNat x2.1.1))).2.1.2),(nth eV x2.1.2.2.2.2.2.2.2.2 (0+(Int.toNat x2.1.1))).2.2)))))) none) none) none) none) none) none) none) (
   kx (ag.L1.bq (n1L_3,n1L_4,n1_2,n2_2,n9_2,n12_2)).1 (ag.L1.bq (n1L_3,n1L_4,n1_2,n2_2,n9_2,n12_2)).2):=by kernel_rfl
theorem ag.L2.run:bD ag.L2.call ag.L2.aC ag.L2.add ag.L2.F:=eG (eE [.d ti,.n,.d ti,.d ti,.d ti,.d ti,.n,.n,.d (.pair ti .unit),.d (.pair ti .unit),.d (.slice eg),.d (.slice eV),.d (.slice fg)] fun _=>by kernel_rfl)
theorem ag.L2.aG:fR @ag.L2.R ag.L2.st ag.L2.aC ag.L2.add ag.L2.F ag.L2.bq ag.L2.Ok:=fU
theorem ag.L2.step{R:Type}(kv:Int)(lL:Nat)(t38_2:Int)(t39_2:Int)(t51:Int)(t52:Int)(n1L_5:Nat)(n1L_6:Nat)(n1_3:(Int×Unit))(n2_3:(Int×Unit))(n9_3:(List eU))(n12_3:(List fM))(n49:(List gf))(kn:AS→Option R)(kx:Exit→AS→Option R):ag.L2.R (kv,lL,t38_2,t39_2,t51,t52,n1L_5,n1L_6,n1_3,n2_3,n9_3,n12_3,n49) kn kx=
  aK ((gb t52 t51)) (
   aK (eh t52 ((lL:Nat):Int)) (
   aK (decide ((0+(Int.toNat t52)) < (List.length n49))) (
   aK (decide ((((0+(Int.toNat t52))*4)+0)=((0+((Int.toNat t52)*4))+0))) (
   aj (cK.call (nth fg n49 (0+(Int.toNat t52))).1) fun x1=>
   aK (eh t52 ((lL:Nat):Int)) (
   aK (decide ((0+(Int.toNat t52)) < (List.length n49))) (
   aK (decide ((((0+(Int.toNat t52))*4)+0)=((0+((Int.toNat t52)*4))+0))) (
   aK (decide ((0+(Int.toNat t52)) < (List.length n49))) (
   kn (ag.L2.st (kv,lL,t38_2,t39_2,t51,(bK .i64 t52 (1:Int)),n1L_5,n1L_6,n1_3,n2_3,n9_3,n12_3,(List.set n49 (0+(Int.toNat t52)) (x1,(nth fg n49 (0+(Int.toNat t52))).2))))) none) none) none) none) none) none) none) (
   aK (decide (0=0∧(0+lL)≤(List.length n49))) (
   kx (ag.L2.bq ((kv,t38_2,t39_2,n1L_5,n1L_6,n1_3,n2_3,n9_3,n12_3),((cut n49 0 lL),n49))).1 (ag.L2.bq ((kv,t38_2,t39_2,n1L_5,n1L_6,n1_3,n2_3,n9_3,n12_3),((cut n49 0 lL),n49))).2) none):=by kernel_rfl
theorem ag.eq{R:Type}(t:eH)(k:aZ→Option R):ag.A t k=
 aj (ff.call t.1) fun x1=>
 aj (dJ.call t.2.1) fun x2=>
 aj (ag.L0.call (((x1.1:Nat):Int),(0:Int),x1.1,x2.1,t.2.2,((0:Int),()),x1.2,x2.2)) fun x4=>
 aj (ag.L1.call (((x4.1.2.1:Nat):Int),(0:Int),x4.1.1,x4.1.2.1,x4.1.2.2.1,x4.1.2.2.2.1,x4.2,x4.1.2.2.2.2)) fun x8=>
 aK (decide (0=0∧(0+x8.2.1)≤(List.length x8.2.2.2.2.2))) (
 k (ag.out (x8.1,((cut x8.2.2.2.2.2 0 x8.2.1),x8.2.2.1),x8.2.2.2.2.1))) none:=by kernel_rfl
theorem ag.L0.ok:ag.L0.Ok:=by
 refine ag.L0.aG (fun(m,i,L,L2,u,v,l,os)=>l.length - Int.toNat i) ?_
 rintro⟨m,i,L,L2,u,v,l,os⟩ ⟨⟨hlen,hx⟩,k,hk,rfl,rfl,rfl⟩
 have hlen:l.length≤1000:=hlen
 have hk:k≤l.length:=hk
 by_cases h:k < l.length
 ·left
  have n1:nth eg l k=l[k]:=cj (t:=eg) h
  have hs:l.set k l[k]=l:=List.set_getElem_self h
  have e:=hx _ (List.getElem_mem h)
  refine⟨((l.length:Int),((k+1:Nat):Int),l.length,L2,u,v,l,os),⟨⟨hlen,hx⟩,k+1,by omega,rfl,rfl,rfl⟩,by simp only[Int.toNat_natCast];omega,rfl,fun kn kx=> ?_⟩
  rw[ag.L0.step,bw (by omega),bh (by omega) (by omega)]
  simp only[Int.toNat_natCast,Nat.zero_add,Nat.add_zero,Nat.add_assoc,Nat.reduceAdd,ax,aQ h,decide_true,n1]
  rw[dK.run (d:=l[k].2.1.2.1) e]
  simp only[ab,dK.add,dK.F]
  rw[N.kk (by omega)]
  exact congrArg (fun z=>kn (ag.L0.st (_,_,_,_,_,_,z,_))) hs
 ·right
  obtain rfl:k=l.length:=by omega
  intro R kn kx
  rw[ag.L0.step,bn (by omega),aw]
  rfl
theorem ag.L2.ok:ag.L2.Ok:=by
 refine ag.L2.aG (fun(kv,L,m1,i1,m,i,L5,L6,u,v,ls,os,bs)=>bs.length - Int.toNat i) ?_
 rintro⟨kv,L,m1,i1,m,i,L5,L6,u,v,ls,os,bs⟩ ⟨⟨hlen,hx⟩,k,hk,rfl,rfl,rfl⟩
 have hlen:bs.length≤1000:=hlen
 have hk:k≤bs.length:=hk
 by_cases h:k < bs.length
 ·left
  have n1:nth fg bs k=bs[k]:=cj (t:=fg) h
  have hs:bs.set k bs[k]=bs:=List.set_getElem_self h
  have e:=hx _ (List.getElem_mem h)
  refine⟨(kv,bs.length,m1,i1,(bs.length:Int),((k+1:Nat):Int),L5,L6,u,v,ls,os,bs),⟨⟨hlen,hx⟩,k+1,by omega,rfl,rfl,rfl⟩,by simp only[Int.toNat_natCast];omega,rfl,fun kn kx=> ?_⟩
  rw[ag.L2.step,bw (by omega),bh (by omega) (by omega)]
  simp only[Int.toNat_natCast,Nat.zero_add,Nat.add_zero,Nat.add_assoc,Nat.reduceAdd,ax,aQ h,decide_true,n1]
  rw[cK.run (d:=bs[k].1) e]
  simp only[ab,cK.add,cK.F]
  rw[N.kk (by omega)]
  exact congrArg (fun z=>kn (ag.L2.st (_,_,_,_,_,_,_,_,_,_,_,_,z))) hs
 ·right
  obtain rfl:k=bs.length:=by omega
  intro R kn kx
  rw[ag.L2.step,bn (by omega),aw]
  simp only[Nat.zero_add,Nat.le_refl,and_self,decide_true,ax,fc]
  rfl
theorem ag.L1.ok:ag.L1.Ok:=by
 refine ag.L1.aG (fun(m,i,L3,L,u,v,ls,os)=>os.length - Int.toNat i) ?_
 rintro⟨m,i,L3,L,u,v,ls,os⟩ ⟨⟨hlen,hx⟩,k,hk,rfl,rfl,rfl⟩
 have hlen:os.length≤1000:=hlen
 have hk:k≤os.length:=hk
 by_cases h:k < os.length
 ·left
  have n1:nth eV os k=os[k]:=cj (t:=eV) h
  have hs:os.set k os[k]=os:=List.set_getElem_self h
  have e:=hx _ (List.getElem_mem h)
  refine⟨((os.length:Int),((k+1:Nat):Int),L3,os.length,u,v,ls,os),⟨⟨hlen,hx⟩,k+1,by omega,rfl,rfl,rfl⟩,by simp only[Int.toNat_natCast];omega,rfl,fun kn kx=> ?_⟩
  rw[ag.L1.step,bw (by omega),bh (by omega) (by omega)]
  simp only[Int.toNat_natCast,Nat.zero_add,Nat.add_zero,Nat.add_assoc,Nat.reduceAdd,ax,aQ h,decide_true,n1]
  rw[fe.run (d:=os[k].2.1.1) (by show os[k].2.1.1.length≤_;have:=e.1;omega)]
  simp only[ab,fe.add,fe.F]
  rw[ag.L2.run (d:=((k:Int),os[k].2.1.1.length,(os.length:Int),(k:Int),(os[k].2.1.1.length:Int),0,L3,os.length,u,v,ls,os,os[k].2.1.1)) ⟨e,0,Nat.zero_le _,rfl,rfl,rfl⟩]
  simp only[ab,ag.L2.add,ag.L2.F,Int.toNat_natCast,n1,ax,aQ h,bh (show(0:Int)≤(k:Int) by omega) (show(k:Int) < (os.length:Int) by omega)]
  rw[N.kk (by omega)]
  exact congrArg (fun z=>kn (ag.L1.st (_,_,_,_,_,_,_,z))) hs
 ·right
  obtain rfl:k=os.length:=by omega
  intro R kn kx
  rw[ag.L1.step,bn (by omega),aw]
  rfl
theorem AY{l:Lk}(h:iN l=true):l.1.length≤4∧∀b∈l.1,b.1.length≤12:=by
 unfold iN at h
 simp only[Bool.and_eq_true,List.all_eq_true,decide_eq_true_eq]at h
 refine⟨h.2.2,fun b hb=> ?_⟩
 have:=h.1 b hb
 unfold oh at this
 simp only[Bool.and_eq_true,decide_eq_true_eq]at this
 exact this.1
theorem ag.ok:ag.Ok:=by
 rintro⟨is,os,nt,u⟩ hok
 obtain⟨⟨_,a2,a3,_⟩,b1,b2⟩:=im hok
 have a2:is.length≤64:=a2
 have a3:os.length≤64:=a3
 rw[ag.eq,ff.run (d:=is) (by show is.length≤_;omega),dJ.run (d:=os) (by show os.length≤_;omega)]
 simp only[ab,ff.add,ff.F,dJ.add,dJ.F]
 rw[ag.L0.run (d:=(is.length,0,is.length,os.length,(nt,u),(0,()),is,os)) ⟨⟨by show is.length≤_;omega,fun x hx=>by have:=(kG (gp _ _ b1 x hx)).2.2.2.2;omega⟩,0,Nat.zero_le _,rfl,rfl,rfl⟩]
 simp only[ab,ag.L0.add,ag.L0.F]
 rw[ag.L1.run (d:=(os.length,0,is.length,os.length,(nt,u),(0,()),is,os)) ⟨⟨by show os.length≤_;omega,fun x hx=>by
  have:=AY (iP _ _ b2 x hx).2
  exact⟨by omega,fun b hb=>by have:=this.2 b hb;omega⟩⟩,0,Nat.zero_le _,rfl,rfl,rfl⟩]
 simp only[ab,ag.L1.add,ag.L1.F,Nat.zero_add,Nat.le_refl,and_self,decide_true,ax,fc]
 rfl
noncomputable def ag.E:=Entry.ct [some fD] ag.st ag.aC ag.add ag.F ag.out
noncomputable def ag.call:ag.D→Option ag.X:=bH ag.E ag.st
theorem ag.run:bD ag.call ag.aC ag.add ag.F:=cO (cM [.d fD] fun _=>by kernel_rfl)
noncomputable def ag.sg:SG Tryz.prog:=⟨92,aV,ag.E,.fn 3 (by kernel_rfl) ag.ok (And.intro (.ct ag.L0.ok (by kernel_rfl)) (And.intro (.ct ag.L1.ok (by kernel_rfl)) (And.intro (.ct ag.L2.ok (by kernel_rfl)) trivial)))⟩
set_option synthInstance.maxSize 5000
theorem po(x:Int)(m:Int):∀k:Nat,(x%m)^k%m=x^k%m
 | 0=>by rw[Int.pow_zero,Int.pow_zero]
 |k+1=>by rw[Int.pow_succ,Int.pow_succ,Int.mul_emod,po x m k,Int.emod_emod_of_dvd _ (Int.dvd_refl m),←Int.mul_emod]
theorem Dl(a:Int)(k:Nat):(a*a)^k=a^(2*k):=by
 rw[Int.pow_mul,Int.pow_succ,Int.pow_succ,Int.pow_zero,Int.one_mul]
theorem Be:∀(f:Nat) (a:Int) (n:Nat) (out:Int),n < 2^f→Pn out→yR f a n out=out*a^n%4611686018427377339
 | 0,a,n,out,h,ho=>by
  obtain rfl:n=0:=by omega
  rw[lT,Int.pow_zero,Int.mul_one,Int.emod_eq_of_lt ho.1 ho.2]
 |f+1,a,n,out,h,ho=>by
  have e:(2:Nat)^(f+1)=2^f*2:=Nat.pow_succ 2 f
  rw[yR]
  split
  ·rename_i h0
   subst h0
   rw[Int.pow_zero,Int.mul_one,Int.emod_eq_of_lt ho.1 ho.2]
  ·have hp:Pn (if n%2=1 then jo out a else out):=by
    split
    ·exact lf _ _
    ·exact ho
   rw[Be f _ _ _ (by omega) hp,Int.mul_emod]
   have e1:(jo a a)^(n / 2)%4611686018427377339=a^(2*(n / 2))%4611686018427377339:=by
    unfold jo
    rw[po,Dl]
   have e2:(if n%2=1 then jo out a else out)%4611686018427377339=(out*a^(n%2))%4611686018427377339:=by
    split
    ·rename_i h1
     rw[h1,Int.pow_succ,Int.pow_zero,Int.one_mul]
     exact Int.emod_emod_of_dvd _ (Int.dvd_refl _)
    ·have h1:n%2=0:=by omega
     rw[h1,Int.pow_zero,Int.mul_one]
   rw[e1,e2,←Int.mul_emod,Int.mul_assoc,←Int.pow_add]
   have e3:n%2+2*(n / 2)=n:=by omega
   rw[e3]
theorem sa(a:Int)(n:Nat)(h:n < 18446744073709551616):pw a n=a^n%4611686018427377339:=by
 unfold pw
 rw[Be 64 a n 1 h ⟨by omega,by omega⟩,Int.one_mul]
theorem one_pow(k:Nat):(1:Int)^k=1:=Int.one_pow
theorem Bg(a:Int)(k q:Nat)(hk:k < 18446744073709551616)(hq:q < 18446744073709551616)(h:pw a q=1):pw (pw a k) q=1:=by
 rw[sa _ _ hq]at h
 rw[sa _ _ hq,sa _ _ hk,po,←Int.pow_mul,Nat.mul_comm,Int.pow_mul,←po,h,one_pow]
 rfl
theorem tt:pw 4 2305843009213688669=1:=by decide+kernel
theorem zN:pw 1 2305843009213688669=1:=by decide+kernel
theorem B5:lX 4=true:=by rw[lX,tt];rfl
theorem o8:lX 1=true:=by rw[lX,zN];rfl
theorem B9:wj 1=1:=by
 have e:pw 1 2305843009213688668=1:=by decide+kernel
 rw[wj,tk,o8]
 exact e
theorem uT{a:Int}(h:Pn a)(q:Nat)(hq:0 < q)(hq2:q < 18446744073709551616)(hp:pw a q=1):0 < a:=by
 rcases Int.lt_or_eq_of_le h.1 with h0 | h0
 ·exact h0
 ·subst h0
  rw[sa _ _ hq2,Int.zero_pow (by omega)]at hp
  cases hp
theorem C1{a:Int}(h:Pn a)(hp:pw a 2305843009213688669=1):lX a=true:=by
 have h0:=uT h 2305843009213688669 (by decide) (by decide) hp
 rw[lX,hp,decide_eq_true ⟨h0,h.2⟩];rfl
theorem zy{a:Int}(h:lX a=true):pw a 2305843009213688669=1∧Pn a:=by
 rw[lX,Bool.and_eq_true,decide_eq_true_eq,decide_eq_true_eq]at h
 exact⟨h.2,by omega,h.1.2⟩
theorem C2{a:Int}(h:lX a=true)(k:Nat)(hk:k < 18446744073709551616):lX (pw a k)=true:=
 C1 (wH _ _) (Bg a k _ hk (by decide) (zy h).1)
theorem C3(a:Int):lX (tk a)=true:=by
 unfold tk
 cases h:lX a
 ·exact o8
 ·exact h
theorem zz(p k:Int):lX (mq p k)=true:=C2 (C3 p) _ (by omega)
theorem sH{a:Int}(h:lX a=true):tk a=a:=by rw[tk,h];rfl
theorem vV(k:Int):lX (gA k)=true:=zz 4 k
theorem wi{a:Int}(h:Pn a):jo a 1=a:=by rw[jo,Int.mul_one,Int.emod_eq_of_lt h.1 h.2]
set_option synthInstance.maxSize 5000
def pm(m:Nat):Nat→Nat→Nat→Nat→Nat
 | 0,_,_,out=>out%m
 |f+1,a,n,out=>if n=0 then out%m else pm m f (a*a%m) (n / 2) (if n%2=1 then out*a%m else out)
theorem CG(m:Nat):∀(f a n out:Nat),n < 2^f→pm m f a n out=out*a^n%m
 | 0,a,n,out,h=>by
  obtain rfl:n=0:=by omega
  rw[pm,Nat.pow_zero,Nat.mul_one]
 |f+1,a,n,out,h=>by
  have e:(2:Nat)^(f+1)=2^f*2:=Nat.pow_succ (n:=2) (m:=f)
  rw[pm]
  split
  ·rename_i h0
   subst h0
   rw[Nat.pow_zero,Nat.mul_one]
  ·rw[CG m f _ _ _ (by omega),Nat.mul_mod]
   have e1:(a*a%m)^(n / 2)%m=a^(2*(n / 2))%m:=by
    rw[←Nat.pow_mod,Nat.pow_mul,Nat.pow_two]
   have e2:(if n%2=1 then out*a%m else out)%m=(out*a^(n%2))%m:=by
    split
    ·rename_i h1
     rw[h1,Nat.pow_one,Nat.mod_mod]
    ·have h1:n%2=0:=by omega
     rw[h1,Nat.pow_zero,Nat.mul_one]
   rw[e1,e2,←Nat.mul_mod,Nat.mul_assoc,←Nat.pow_add]
   have e3:n%2+2*(n / 2)=n:=by omega
   rw[e3]
theorem AM:∀(r q:Nat) (f:Nat→Nat),(∀i,i < q→f i < r)→(∀i j,i < j→j < q→f i≠f j)→q≤r
 | 0,q,f,h,_=>by
  rcases Nat.eq_zero_or_pos q with h0 | h0
  ·omega
  ·exact absurd (h 0 h0) (Nat.not_lt_zero _)
 |r+1,q,f,h,g=>by
  by_cases hx:∃i,i < q∧f i=r
  ·obtain⟨i,hi,hr⟩:=hx
   have e:=AM r (q - 1) (fun j=>if j < i then f j else f (j+1)) (fun j hj=>by
    by_cases h1:j < i
    ·have a:=h j (by omega)
     have b:=g j i h1 hi
     simp only[h1,if_true]
     omega
    ·have a:=h (j+1) (by omega)
     have b:=g i (j+1) (by omega) (by omega)
     simp only[h1,if_false]
     omega) (fun j k hjk hk=>by
    by_cases h1:j < i
    ·by_cases h2:k < i
     ·simp only[h1,h2,if_true]
      exact g j k hjk (by omega)
     ·simp only[h1,h2,if_true,if_false]
      exact g j (k+1) (by omega) (by omega)
    ·have h2:¬k < i:=by omega
     simp only[h1,h2,if_false]
     exact g (j+1) (k+1) (by omega) (by omega))
   omega
  ·have e:=AM r q f (fun i hi=>by
    have a:=h i hi
    have b:f i≠r:=fun x=>hx ⟨i,hi,x⟩
    omega) g
   omega
theorem yP(a m:Nat)(h1:1%m=1):∀i j:Nat,a^i%m=1→a^j%m=1→a^(Nat.gcd i j)%m=1:=by
 intro i
 induction i using Nat.strongRecOn with
 |ind i ih=>
  intro j hi hj
  rcases Nat.eq_zero_or_pos i with h0 | h0
  ·subst h0;rw[Nat.gcd_zero_left];exact hj
  ·rw[Nat.gcd_rec]
   refine ih (j%i) (Nat.mod_lt _ h0) i ?_ hi
   have e:a^j=(a^i)^(j / i)*a^(j%i):=by rw[←Nat.pow_mul,←Nat.pow_add,Nat.div_add_mod]
   rw[e,Nat.mul_mod,Nat.pow_mod,hi,Nat.one_pow,h1,Nat.one_mul,Nat.mod_mod]at hj
   exact hj
def Ae(n:Nat):Prop:=∀d,d∣n→d=1∨d=n
theorem yQ{n k:Nat}(h:Ae n)(h0:0 < k)(hk:k < n):Nat.gcd k n=1:=by
 rcases h _ (Nat.gcd_dvd_right k n) with h1 | h1
 ·exact h1
 ·have:=Nat.le_of_dvd h0 (Nat.gcd_dvd_left k n);omega
theorem wo{n:Nat}(hn:1 < n)(h:∀r,1 < r→r*r≤n→¬r∣n):Ae n:=by
 intro d hd
 obtain⟨e,he⟩:=hd
 have hd0:0 < d:=Nat.pos_of_ne_zero (by intro x;rw[x,Nat.zero_mul]at he;omega)
 have he0:0 < e:=Nat.pos_of_ne_zero (by intro x;rw[x,Nat.mul_zero]at he;omega)
 by_cases h1:d=1
 ·exact .inl h1
 by_cases h2:e=1
 ·right;rw[he,h2,Nat.mul_one]
 exfalso
 rcases Nat.le_total d e with hle | hle
 ·exact h d (by omega) (by rw[he];exact Nat.mul_le_mul_left d hle) ⟨e,he⟩
 ·exact h e (by omega) (by rw[he];exact Nat.mul_le_mul_right e hle) ⟨d,by rw[he,Nat.mul_comm]⟩
theorem Dc{n q b:Nat}(hn:1 < n)(hq:Ae q)(hq1:1 < q)(hqq:n < q*q)(hb:b^q%n=1)(hg:Nat.gcd (b - 1) n=1)(hb0:0 < b):Ae n:=by
 refine wo hn fun r hr hrr hrn=> ?_
 have h1r:1%r=1:=Nat.mod_eq_of_lt hr
 have hbr:b^q%r=1:=by
  have:=Nat.mod_mod_of_dvd (b^q) hrn
  rw[←this,hb,h1r]
 have hne:b%r≠1:=by
  intro hx
  have hd:r∣b - 1:=by have e:=Nat.dvd_sub_mod (n:=r) b;rw[hx]at e;exact e
  have:=Nat.dvd_gcd hd hrn
  rw[hg]at this
  have:=Nat.le_of_dvd (by omega) this
  omega
 have key:q≤r:=by
  refine AM r q (fun i=>b^i%r) (fun i _=>Nat.mod_lt _ (by omega)) fun i j hij hj he=> ?_
  have e1:b^(j - i)%r=1:=by
   have x1:b^(q - i)*b^i%r=b^(q - i)*b^j%r:=by rw[Nat.mul_mod,he,←Nat.mul_mod]
   rw[←Nat.pow_add,←Nat.pow_add,show q - i+i=q by omega,show q - i+j=q+(j - i) by omega,Nat.pow_add,Nat.mul_mod,hbr,Nat.one_mul,Nat.mod_mod]at x1
   exact x1.symm
  have e2:=yP b r h1r (j - i) q e1 hbr
  rw[yQ hq (by omega) (by omega),Nat.pow_one]at e2
  exact hne e2
 have:q*q≤r*r:=Nat.mul_le_mul key key
 omega
def A3(n:Nat):Nat→Bool
 | 0=>true
 |k+1=>n%(k+2) !=0 && A3 n k
theorem wm(n:Nat):∀k,A3 n k=true→∀d,1 < d→d≤k+1→¬d∣n
 | 0,_,d,h1,h2=>by omega
 |k+1,h,d,h1,h2=>by
  rw[A3,Bool.and_eq_true]at h
  by_cases hd:d=k+2
  ·intro hx
   have:=Nat.mod_eq_zero_of_dvd hx
   rw[hd]at this
   rw[this]at h
   exact absurd h.1 (by decide)
  ·exact wm n k h.2 d h1 (by omega)
theorem EA:Ae 7930907:=by
 refine wo (by decide) fun r hr hrr=>wm 7930907 2820 (by decide+kernel) r hr ?_
 apply Nat.le_of_not_lt
 intro h
 have:2822*2822≤r*r:=Nat.mul_le_mul (by omega) (by omega)
 omega
theorem pq{n q:Nat}(a e:Nat)(hq:Ae q)(hq1:1 < q)(hn:1 < n)(hqq:n < q*q)(he:e < 2^64)(hq2:q < 2^64)(h1:pm n 64 (pm n 64 a e 1) q 1=1)(h2:Nat.gcd (pm n 64 a e 1 - 1) n=1)(h3:0 < pm n 64 a e 1):Ae n:=by
 generalize pm n 64 a e 1=b at*
 rw[CG _ _ _ _ _ hq2,Nat.one_mul]at h1
 exact Dc hn hq hq1 hqq h1 h2 h3
theorem Ez:Ae 11864636873:=pq (q:=7930907) 2 1496 EA (by decide) (by decide) (by decide) (by decide) (by decide) (by decide+kernel) (by decide+kernel) (by decide+kernel)
theorem Ey:Ae 1732236983459:=pq (q:=11864636873) 2 146 Ez (by decide) (by decide) (by decide) (by decide) (by decide) (by decide+kernel) (by decide+kernel) (by decide+kernel)
theorem Ex:Ae 249442125618097:=pq (q:=1732236983459) 2 144 Ey (by decide) (by decide) (by decide) (by decide) (by decide) (by decide+kernel) (by decide+kernel) (by decide+kernel)
theorem EB:Ae 2305843009213688669:=pq (q:=249442125618097) 2 9244 Ex (by decide) (by decide) (by decide) (by decide) (by decide) (by decide+kernel) (by decide+kernel) (by decide+kernel)
def gP(n:Nat):Int:=((4^n%4611686018427377339:Nat):Int)
theorem s5(a m q:Nat)(h1:1%m=1)(h:a^q%m=1)(n:Nat):a^(n%q)%m=a^n%m:=by
 have e:a^n=(a^q)^(n / q)*a^(n%q):=by rw[←Nat.pow_mul,←Nat.pow_add,Nat.div_add_mod]
 rw[e,Nat.mul_mod,Nat.pow_mod (a^q),h,Nat.one_pow,h1,Nat.one_mul,Nat.mod_mod]
theorem Cu:∀q:Nat,q=2305843009213688669→4^q%4611686018427377339=1:=by
 intro q hq
 have h:=tt
 rw[sa _ _ (by decide)]at h
 rw[←hq]at h
 have e:(((4^q%4611686018427377339:Nat)):Int)=1:=by
  rw[Int.natCast_emod,Int.natCast_pow]
  exact h
 omega
theorem uC(n:Nat):gP (n%2305843009213688669)=gP n:=by
 unfold gP
 obtain⟨q,hq⟩:∃q:Nat,q=2305843009213688669:=⟨_,rfl⟩
 rw[←hq,s5 4 4611686018427377339 q (by decide) (Cu q hq)]
theorem DL(n:Nat)(h:n < 18446744073709551616):pw 4 n=gP n:=by
 rw[sa _ _ h]
 unfold gP
 rw[Int.natCast_emod,Int.natCast_pow]
 rfl
theorem AI(k:Int)(h:0≤k):(k%2305843009213688669).toNat=k.toNat%2305843009213688669:=by omega
theorem qU(k:Int)(h:0≤k):gA k=gP k.toNat:=by
 show pw (tk 4) _=_
 rw[sH B5,DL _ (by omega),AI k h,uC]
theorem BW(n:Nat):gP n=gA n:=by rw[qU _ (by omega),Int.toNat_natCast]
theorem rI(n:Nat):lX (gP n)=true:=by rw[BW];exact vV _
theorem xF(a b:Nat):jo (gP a) (gP b)=gP (a+b):=by
 unfold jo gP
 rw[←Int.natCast_mul,Nat.pow_add]
 have e:(4611686018427377339:Int)=((4611686018427377339:Nat):Int):=rfl
 rw[e,←Int.natCast_emod,←Nat.mul_mod]
theorem AJ(a:Nat)(c:Int)(h:0≤c):mq (gP a) c=gP (a*c.toNat):=by
 show pw (tk (gP a)) _=_
 rw[sH (rI a),sa _ _ (by omega),AI c h]
 obtain⟨b,hb⟩:∃b:Nat,b=c.toNat:=⟨_,rfl⟩
 rw[←hb]
 obtain⟨d,hd⟩:∃d:Nat,d=b%2305843009213688669:=⟨_,rfl⟩
 have hx:gP (a*b)=gP (a*d):=by rw[←uC (a*b),←uC (a*d),Nat.mul_mod a b,Nat.mul_mod a d,hd,Nat.mod_mod]
 rw[hx,←hd]
 unfold gP
 have e:(4611686018427377339:Int)=((4611686018427377339:Nat):Int):=rfl
 rw[e,←Int.natCast_pow,←Int.natCast_emod,←Nat.pow_mod,←Nat.pow_mul]
theorem yA:gP 0=1:=by decide
theorem DK{n:Nat}(h:0 < n)(hn:n < 2305843009213688669):gP n≠1:=by
 intro he
 unfold gP at he
 have he:4^n%4611686018427377339=1:=by omega
 obtain⟨q,hq⟩:∃q:Nat,q=2305843009213688669:=⟨_,rfl⟩
 have e:=yP 4 4611686018427377339 (by decide) n q he (Cu q hq)
 rw[yQ (by rw[hq];exact EB) h (by omega)]at e
 exact absurd e (by decide)
theorem yY(k:Int)(m:List Int)(h0:0 < k)(hq:k < 2305843009213688669):ln (gA k) m 1 (gv k m)=true:=by
 obtain⟨kn,hk⟩:∃kn:Nat,kn=k.toNat:=⟨_,rfl⟩
 have hb:gA k=gP kn:=by rw[hk];exact qU k (by omega)
 have hn:=rG (w5 xM [fL k,m])
 unfold gv A5
 rw[if_pos ⟨hq,by omega⟩]
 obtain⟨n,hne⟩:∃n,nf (w5 xM [fL k,m])=n:=⟨_,rfl⟩
 rw[hne]at hn ⊢
 unfold uf
 have hr:qT [gA n,1]=gP n.toNat:=by
  show jo (jo 1 (tk (gA n))) (tk 1)=_
  rw[sH (vV n),sH o8,wi (lf _ _),qU n (by omega),←yA,xF,Nat.zero_add]
 rw[hr,hb]
 have hc:=ru (gP n.toNat) (gP kn) m
 obtain⟨c,hce⟩:∃c,mB (gP n.toNat) (gP kn) m=c:=⟨_,rfl⟩
 rw[hce]at hc ⊢
 have ha:=yn n (uN c k)
 have h1:=hc.1
 have h2:=ha.1
 have h3:=ha.2
 unfold ln
 rw[if_neg (by
  intro h
  rcases h with h | h | h | h | h
  ·exact DK (by omega) (by omega) h
  ·rw[rI]at h;cases h
  ·rw[o8]at h;cases h
  ·have h:lX (gP n.toNat)=false:=h
   rw[rI]at h;cases h
  ·exact h h3)]
 have e:gA (xk n (uN c k))=qT [gP n.toNat,mq (gP kn) c,wj 1]:=by
  show _=jo (jo (jo 1 (tk (gP n.toNat))) (tk (mq (gP kn) c))) (tk (wj 1))
  rw[B9,sH o8,wi (lf _ _),sH (rI _),AJ _ _ h1,sH (rI _)]
  rw[show(jo 1 (gP n.toNat))=gP n.toNat by rw[←yA,xF,Nat.zero_add]]
  rw[xF,qU _ h2]
  have hx:(xk n (uN c k)).toNat=(n.toNat+kn*c.toNat)%2305843009213688669:=by
   unfold xk uN A7
   have g1:c%2305843009213688669=c:=Int.emod_eq_of_lt h1 hc.2
   have g2:k%2305843009213688669=k:=Int.emod_eq_of_lt (by omega) hq
   have g3:n%2305843009213688669=n:=Int.emod_eq_of_lt (by omega) hn.2
   rw[g1,g2,g3,Int.emod_emod_of_dvd _ (Int.dvd_refl _)]
   have g4:((kn*c.toNat:Nat):Int)=c*k:=by
    rw[Int.natCast_mul,hk,Int.toNat_of_nonneg (by omega),Int.toNat_of_nonneg h1,Int.mul_comm]
   have g5:0≤c*k:=by rw[←g4];exact Int.natCast_nonneg _
   obtain⟨z,hz⟩:∃z,c*k=z:=⟨_,rfl⟩
   rw[hz]at g4 g5 ⊢
   obtain⟨zn,hzn⟩:∃zn,kn*c.toNat=zn:=⟨_,rfl⟩
   rw[hzn]at g4 ⊢
   omega
  rw[hx,uC]
 show decide (gA (xk n (uN c k))=qT [gP n.toNat,mq (gP kn) (mB (gP n.toNat) (gP kn) m),wj 1])=true
 rw[hce]
 exact decide_eq_true e
set_option synthInstance.maxSize 5000
def uE{α:Type}(p:α→Bool):List α→Int→Int⊕Unit
 |[],_=> .inr ()
 |x::xs,i=>if p x then .inl i else uE p xs (i+1)
def B1{α:Type}(p:α→Bool)(l:List α):Int:=match uE p l 0 with | .inl i=>i | .inr _=> -1
theorem vS{α:Type}(p:α→Bool):∀(l:List α) (i:Int),0≤i→(match uE p l i with | .inl i=>decide (i≥0) | .inr _=>false)=l.any p
 |[],_,_=>rfl
 |x::l,i,h=>by
  rw[uE,List.any_cons]
  cases hp:p x
  ·simp only[Bool.false_eq_true,if_false,Bool.false_or]
   exact vS p l (i+1) (by omega)
  ·simp[h]
theorem AO{α:Type}(p:α→Bool)(l:List α):mO (B1 p l) 0=l.any p:=by
 have:=vS p l 0 (by omega)
 unfold B1 mO
 cases h:uE p l 0
 ·rw[h]at this;exact this
 ·rw[h]at this;rw[←this];rfl
def oW(k:Int):Bool:=decide (¬(k < 2305843009213688669∧k≠0))
def jB(t:eH)(i br:Int)(ks:List Int):Bool:=fC t && (decide (0≤i∧i < t.1.length∧0≤br∧br < 4∧ks.length≤12) && !(ks.any oW))
def Bm(t:eH)(i br:Int)(ks:List Int)(sc:Int):eH×Int:=
 if jB t i br ks then((t.1.set i.toNat ((nth eg t.1 i.toNat).1,(br,ks.map (fun k=>gv k (qI t)),sc,()),()),t.2),0) else(([],[],0,()),1)
theorem ye{t:eH}:Sm (qI t):=by
 unfold qI
 split
 ·exact uZ _ _
 ·exact⟨by rw[List.length_replicate],fun x hx=>by obtain rfl:=(List.mem_replicate.1 hx).2;exact⟨by decide,by decide⟩⟩
abbrev dU.D:=Int
def dU.st:dU.D→SA:=fun kv=>([.d tu kv],[])
abbrev dU.Y:=Bool
abbrev dU.X:=Bool
def dU.out:dU.X→aZ:=fun x=>⟨.d .bool x,[],[]⟩
def dU.add:dU.D→dU.Y→dU.X:=fun kv y=>y
def dU.aC:dU.D→Prop:=fun _=>True
def dU.F:dU.D→dU.Y:=fun k=>oW k
noncomputable def dU.G:dQ:=eR (P:=Tryz.prog) [cD.sg]
noncomputable def dU.an:eC:= {}
noncomputable def dU.A:= @cH Tryz.prog dU.G dU.an 0 Tryz.f87 _ dU.st
abbrev dU.Ok:=cI @dU.A dU.aC dU.add dU.F dU.out
theorem dU.eq{R:Type}(kv:Int)(k:aZ→Option R):dU.A kv k=
  aK ((mM kv (0:Int))) (
   k (dU.out true)) (
   aj (cD.call kv) fun x1=>
   k (dU.out (!x1))):=by kernel_rfl
theorem dU.ok:dU.Ok:=by
 intro(k:Int) _
 rw[dU.eq,cD.run (d:=k) trivial]
 simp only[dU.add,dU.F,oW,ab,cD.add,cD.F]
 by_cases h:k=0
 ·rw[dm h,ax,aQ (by omega)]
 ·rw[eP h,aw]
  by_cases h2:k < 2305843009213688669
  ·rw[bw h2,aM (by omega)];rfl
  ·rw[bn h2,aQ (by omega)];rfl
noncomputable def dU.E:=Entry.ct [some tu] dU.st dU.aC dU.add dU.F dU.out
noncomputable def dU.call:dU.D→Option dU.X:=bH dU.E dU.st
theorem dU.run:bD dU.call dU.aC dU.add dU.F:=cO (cM [.d tu] fun _=>by kernel_rfl)
noncomputable def dU.sg:SG Tryz.prog:=⟨87,aV,dU.E,.fn 0 (by kernel_rfl) dU.ok trivial⟩
abbrev aW.L0.D:=Bs×Int×Int
def aW.L0.st:aW.L0.D→AS:=fun(sv_2,t7,t8)=>⟨([.d tU sv_2,.fn 87 (.nil)]++a9 5 ([.d ti t7,.d ti t8]++a9 10 [])),[],(List.replicate 19 [])⟩
abbrev aW.L0.Y0:=Int
abbrev aW.L0.X0:=Int
def aW.L0.bq:aW.L0.X0→Exit×AS:=fun x=>(.ret,⟨(a9 4 ([.d ti x]++a9 14 [])),[],(List.replicate 19 [])⟩)
abbrev aW.L0.Y1:=Unit
abbrev aW.L0.X1:=Unit
def aW.L0.eM:aW.L0.X1→Exit×AS:=fun x=>(.exit 0,⟨(a9 19 []),[],(List.replicate 19 [])⟩)
abbrev aW.L0.X:=(aW.L0.X0)⊕(aW.L0.X1)
abbrev aW.L0.Y:=(aW.L0.Y0)⊕(aW.L0.Y1)
def aW.L0.out:aW.L0.X→Out (Exit×AS):=fun x=> .br x.isLeft (.get x.getLeft? fun a=> .ok (aW.L0.bq a)) (.get x.getRight? fun b=> .ok (aW.L0.eM b))
def aW.L0.add:aW.L0.D→aW.L0.Y→aW.L0.X:=fun(sv_2,t7,t8) y=>match y with | .inl y=> .inl y | .inr z=> .inr (z)
abbrev aW.D:=Bs
def aW.st:aW.D→SA:=fun sv=>([.d tU sv,.fn 87 (.nil)],[])
abbrev aW.Y:=Int
abbrev aW.X:=Int
def aW.out:aW.X→aZ:=fun x=>⟨.d ti x,[],[]⟩
def aW.add:aW.D→aW.Y→aW.X:=fun sv y=>y
def aW.L0.aC:aW.L0.D→Prop:=fun(l,n,i)=>(∀x∈l,True)∧l.length≤1000000000∧n=l.length∧∃k:Nat,k≤l.length∧i=k
def aW.L0.F:aW.L0.D→aW.L0.Y:=fun(l,n,i)=>uE oW (l.drop i.toNat) i
def aW.aC:aW.D→Prop:=fun l=>(∀x∈l,True)∧l.length≤1000000000
def aW.F:aW.D→aW.Y:=fun l=>B1 oW l
noncomputable def aW.G:dQ:=eR (P:=Tryz.prog) [dU.sg]
noncomputable def aW.L0.E:=bN.ct aW.L0.st aW.L0.aC aW.L0.add aW.L0.F aW.L0.out
noncomputable def aW.L0.call:aW.L0.D→Option aW.L0.X:=dh aW.L0.E aW.L0.st
noncomputable def aW.an:eC:= {loops:=jJ [(2,{bm:=[0,1,7,8]})],outs:=jI [(2,{},{bm:=[4]})],fG:=kh [(2,aW.L0.E)]}
noncomputable def aW.A:= @cH Tryz.prog aW.G aW.an 0 Tryz.f127 _ aW.st
abbrev aW.Ok:=cI @aW.A aW.aC aW.add aW.F aW.out
noncomputable def aW.L0.R:= @bX Tryz.prog aW.G aW.an 0 Tryz.f127 0 _ aW.L0.st
abbrev aW.L0.Ok:=eA Tryz.prog aW.G aW.an 0 Tryz.f127 0 aW.L0.st aW.L0.aC aW.L0.add aW.L0.F aW.L0.out
theorem aW.L0.run:bD aW.L0.call aW.L0.aC aW.L0.add aW.L0.F:=eG (eE [.d tU,.d ti,.d ti] fun _=>by kernel_rfl)
theorem aW.L0.aG:iZ @aW.L0.R aW.L0.st aW.L0.aC aW.L0.add aW.L0.F aW.L0.out aW.L0.Ok:=jm
theorem aW.L0.step{R:Type}(sv_2:Bs)(t7:Int)(t8:Int)(kn:AS→Option R)(kx:Exit→AS→Option R):aW.L0.R (sv_2,t7,t8) kn kx=
  aK ((gb t8 t7)) (
   aK (eh t8 (((List.length sv_2):Nat):Int)) (
   aj (dU.call (nth tu sv_2 (Int.toNat t8))) fun x1=>
   aK (x1) (
    kx (aW.L0.bq t8).1 (aW.L0.bq t8).2) (
    kn (aW.L0.st (sv_2,t7,(bK .i64 t8 (1:Int)))))) none) (
   kx (aW.L0.eM ()).1 (aW.L0.eM ()).2):=by kernel_rfl
theorem aW.eq{R:Type}(sv:Bs)(k:aZ→Option R):aW.A sv k=
  aj (aW.L0.call (sv,(((List.length sv):Nat):Int),(0:Int))) fun x2=>
  aK (x2.isLeft) (
   aj (x2.getLeft?) fun a3=>
   k (aW.out a3)) (
   aj (x2.getRight?) fun b4=>
   k (aW.out (-1:Int))):=by kernel_rfl
theorem aW.L0.ok:aW.L0.Ok:=by
 refine aW.L0.aG (fun(l,n,i)=>l.length - i.toNat) ?_
 rintro⟨l,n,i⟩ ⟨hl,hb,rfl,k,hk,rfl⟩
 have hb:l.length≤1000000000:=hb
 have hk:k≤l.length:=hk
 by_cases h:k < l.length
 ·have hx:=hl _ (List.getElem_mem h)
  have n1:nth tu l k=l[k]:=cj (t:=tu) h
  have hd:uE oW (l.drop k) k=if oW l[k] then .inl (k:Int) else uE oW (l.drop (k+1)) ((k+1:Nat):Int):=by rw[List.drop_eq_getElem_cons h];rfl
  have step:∀ {R:Type} (kn:AS→Option R) (kx:Exit→AS→Option R),aW.L0.R (l,(l.length:Int),(k:Int)) kn kx=aK (oW l[k]) (kx (aW.L0.bq (k:Int)).1 (aW.L0.bq (k:Int)).2) (kn (aW.L0.st (l,(l.length:Int),((k+1:Nat):Int)))):=by
   intro R kn kx
   rw[aW.L0.step,bw (by omega),bh (by omega) (by omega),Int.toNat_natCast,n1,dU.run (d:=l[k]) hx,N.kk (by omega)]
   rfl
  cases hp:oW l[k]
  ·left
   refine⟨(l,l.length,((k+1:Nat):Int)),⟨hl,hb,rfl,k+1,by omega,rfl⟩,by simp only[Int.toNat_natCast];omega,?_,fun kn kx=> ?_⟩
   ·simp only[aW.L0.add,aW.L0.F,Int.toNat_natCast,hd,hp,Bool.false_eq_true,if_false]
   ·rw[step,hp,aw]
  ·right
   refine⟨aW.L0.bq (k:Int),?_,fun kn kx=> ?_⟩
   ·simp only[aW.L0.add,aW.L0.F,Int.toNat_natCast,hd,hp,if_true]
    rfl
   ·rw[step,hp,ax]
 ·right
  obtain rfl:k=l.length:=by omega
  refine⟨aW.L0.eM (),?_,fun kn kx=> ?_⟩
  ·simp only[aW.L0.add,aW.L0.F,Int.toNat_natCast,List.drop_length]
   rfl
  ·rw[aW.L0.step,bn (by omega),aw]
theorem aW.ok:aW.Ok:=by
 rintro l ⟨hl,hb⟩
 rw[aW.eq,aW.L0.run (d:=(l,l.length,0)) ⟨hl,hb,rfl,0,by omega,rfl⟩]
 simp only[ab,aW.L0.add,aW.L0.F,Int.toNat_zero,List.drop_zero,aW.add,aW.F,B1]
 cases uE oW l 0 <;> rfl
noncomputable def aW.E:=Entry.ct [some tU,none] aW.st aW.aC aW.add aW.F aW.out
noncomputable def aW.call:aW.D→Option aW.X:=bH aW.E aW.st
theorem aW.run:bD aW.call aW.aC aW.add aW.F:=cO (cM [.d tU] fun _=>by kernel_rfl)
noncomputable def aW.sg:SG Tryz.prog:=⟨127,aV,aW.E,.fn 1 (by kernel_rfl) aW.ok (And.intro (.ct aW.L0.ok (by kernel_rfl)) trivial)⟩
abbrev bF.D:=Bs
def bF.st:bF.D→SA:=fun sv=>([.d tU sv,.fn 87 (.nil)],[])
abbrev bF.Y:=Bool
abbrev bF.X:=Bool
def bF.out:bF.X→aZ:=fun x=>⟨.d .bool x,[],[]⟩
def bF.add:bF.D→bF.Y→bF.X:=fun sv y=>y
def bF.aC:bF.D→Prop:=fun l=>(∀x∈l,True)∧l.length≤1000000000
def bF.F:bF.D→bF.Y:=fun l=>l.any oW
noncomputable def bF.G:dQ:=eR (P:=Tryz.prog) [aW.sg]
noncomputable def bF.an:eC:= {}
noncomputable def bF.A:= @cH Tryz.prog bF.G bF.an 0 Tryz.f90 _ bF.st
abbrev bF.Ok:=cI @bF.A bF.aC bF.add bF.F bF.out
theorem bF.eq{R:Type}(sv:Bs)(k:aZ→Option R):bF.A sv k=
 aj (aW.call sv) fun x1=>
 k (bF.out (mO x1 (0:Int))):=by kernel_rfl
theorem bF.ok:bF.Ok:=by
 rintro l ⟨hl,hb⟩
 rw[bF.eq,aW.run (d:=l) ⟨hl,hb⟩]
 simp only[ab,aW.add,aW.F,AO]
 rfl
noncomputable def bF.E:=Entry.ct [some tU,none] bF.st bF.aC bF.add bF.F bF.out
noncomputable def bF.call:bF.D→Option bF.X:=bH bF.E bF.st
theorem bF.run:bD bF.call bF.aC bF.add bF.F:=cO (cM [.d tU] fun _=>by kernel_rfl)
noncomputable def bF.sg:SG Tryz.prog:=⟨90,aV,bF.E,.fn 0 (by kernel_rfl) bF.ok trivial⟩
abbrev bk.L0.D:=Int×Bs×Int×Int×eH×(Int×Unit)×Int×Nat×(Int×Unit)×Bs×(List Sg)
def bk.L0.st:bk.L0.D→AS:=fun(inv_2,t52,t53,t54,n5,n10,n13,n13L,n13_2,n14,n64)=>⟨([.undef,.d ti inv_2,.undef,.undef,.undef,.ptr (.new 5 0) 0 [] 0]++a9 4 ([.ptr (.new 10 0) 0 [] 0,.undef,.undef,.ptr (.new 13 0) 0 [] 0,.ptr (.new 14 0) 0 [] 0]++a9 37 ([.d tU t52,.d ti t53,.d ti t54]++a9 21 []))),[],(bJ 5 ([[.obj 0 false (.d fD n5)]]++bJ 4 ([[.obj 0 false (.pr (.cV) (.pr (.cV) (.d (.pair ti .unit) n10)))],[],[],[.obj 0 false (.pr (.d ti n13) (.pr (.cf (.new 64 0) 0 [] 0 0 n13L) (.d (.pair tu .unit) n13_2)))],[.obj 0 false (.d tH n14)]]++bJ 49 ([[.obj 0 false (.vec 60 iQ n64)]]++bJ 11 []))))⟩
abbrev bk.L0.Y0:=lW×(List Sg)
abbrev bk.L0.X0:=(Int×eH×(Int×Unit))×(lW×(List Sg))
def bk.L0.bq:bk.L0.X0→Exit×AS:=fun x=>(.exit 0,⟨([.undef,.d ti x.1.1,.undef,.undef,.undef,.ptr (.new 5 0) 0 [] 0]++a9 4 ([.ptr (.new 10 0) 0 [] 0,.undef,.undef,.ptr (.new 13 0) 0 [] 0]++a9 62 [])),[],(bJ 5 ([[.obj 0 false (.d fD x.1.2.1)]]++bJ 4 ([[.obj 0 false (.pr (.cV) (.pr (.cV) (.d (.pair ti .unit) x.1.2.2)))],[],[],[.obj 0 false (.d ri x.2.1)]]++bJ 50 ([[.obj 0 true (.vec 60 iQ x.2.2)]]++bJ 11 []))))⟩)
abbrev bk.L0.X:=bk.L0.X0
abbrev bk.L0.Y:=bk.L0.Y0
def bk.L0.out:bk.L0.X→Out (Exit×AS):=fun x=> .ok (bk.L0.bq x)
def bk.L0.add:bk.L0.D→bk.L0.Y→bk.L0.X:=fun(inv_2,t52,t53,t54,n5,n10,n13,n13L,n13_2,n14,n64) y=>((inv_2,n5,n10),y)
abbrev bk.D:=eH×Int×Int×Bs×Int
def bk.st:bk.D→SA:=fun(t,inv,branch,keys,secret)=>([.d fD t,.d ti inv,.d ti branch,.d tU keys,.d tu secret],[])
abbrev bk.Y:=eH×Int
abbrev bk.X:=eH×Int
def bk.out:bk.X→aZ:=fun x=>⟨.cons (.d fD x.1) (.cons (.d ti x.2) (.nil)),[],[]⟩
def bk.add:bk.D→bk.Y→bk.X:=fun(t,inv,branch,keys,secret) y=>y
def bk.L0.aC:bk.L0.D→Prop:=fun(i0,l,n,i,t,e,br,L,sc,id,r)=>l.length≤1000∧(∀x∈l,g9 x)∧Sm id∧∃k:Nat,k≤l.length∧i=k∧n=l.length∧L=r.length∧r.length≤1000+k
def bk.L0.F:bk.L0.D→bk.L0.Y:=fun(i0,l,n,i,t,e,br,L,sc,id,r)=>((br,r++(l.drop i.toNat).map (fun k=>gv k id),sc),r++(l.drop i.toNat).map (fun k=>gv k id))
def bk.aC:bk.D→Prop:=fun(t,i,br,ks,sc)=>qL t∧(∀x∈ks,g9 x)∧ks.length≤1000000000
def bk.F:bk.D→bk.Y:=fun(t,i,br,ks,sc)=>Bm t i br ks sc
noncomputable def bk.G:dQ:=eR (P:=Tryz.prog) [al.sg,eT.sg,bF.sg,tid.sg,dB.sg,ag.sg]
noncomputable def bk.L0.E:=bN.ct bk.L0.st bk.L0.aC bk.L0.add bk.L0.F bk.L0.out
noncomputable def bk.L0.call:bk.L0.D→Option bk.L0.X:=dh bk.L0.E bk.L0.st
noncomputable def bk.an:eC:= {bI:=[5],loops:=jJ [(7,{bm:=[1,5,10,13,14,52,53,54],sites:=[5,10,13,14,64],ix:=[⟨13,[.snd,.fst],64,51⟩]})],outs:=jI [(7,{bm:=[1,5,10,13],sites:=[5,10,13,64],sR:=[⟨13,[.snd,.fst],(.slice iQ)⟩]},{bm:=[10,11]})],fG:=kh [(7,bk.L0.E)],res:=[some fD,none]}
noncomputable def bk.A:= @cH Tryz.prog bk.G bk.an 0 Tryz.f26 _ bk.st
abbrev bk.Ok:=cI @bk.A bk.aC bk.add bk.F bk.out
noncomputable def bk.L0.R:= @bX Tryz.prog bk.G bk.an 0 Tryz.f26 0 _ bk.L0.st
abbrev bk.L0.Ok:=eA Tryz.prog bk.G bk.an 0 Tryz.f26 0 bk.L0.st bk.L0.aC bk.L0.add bk.L0.F bk.L0.out
theorem bk.L0.run:bD bk.L0.call bk.L0.aC bk.L0.add bk.L0.F:=eG (eE [.d ti,.d tU,.d ti,.d ti,.d fD,.d (.pair ti .unit),.d ti,.n,.d (.pair tu .unit),.d tB,.d (.slice iQ)] fun _=>by kernel_rfl)
theorem bk.L0.aG:fR @bk.L0.R bk.L0.st bk.L0.aC bk.L0.add bk.L0.F bk.L0.bq bk.L0.Ok:=fU
theorem bk.L0.step{R:Type}(inv_2:Int)(t52:Bs)(t53:Int)(t54:Int)(n5:eH)(n10:(Int×Unit))(n13:Int)(n13L:Nat)(n13_2:(Int×Unit))(n14:Bs)(n64:(List Sg))(kn:AS→Option R)(kx:Exit→AS→Option R):bk.L0.R (inv_2,t52,t53,t54,n5,n10,n13,n13L,n13_2,n14,n64) kn kx=
  aK ((gb t54 t53)) (
   aK (eh t54 (((List.length t52):Nat):Int)) (
   aj (dB.call ((nth tu t52 (Int.toNat t54)),n14)) fun x4=>
   aK (decide (n13L≤(List.length n64))) (
   aK (dj (n13L+1) 16) (
   kn (bk.L0.st (inv_2,t52,t53,(bK .i64 t54 (1:Int)),n5,n10,n13,(n13L+1),n13_2,n14,((List.take n13L n64)++ [x4])))) none) none) none) (
   aK (decide (0=0∧(0+n13L)≤(List.length n64))) (
   kx (bk.L0.bq ((inv_2,n5,n10),((n13,((cut n64 0 n13L),n13_2)),n64))).1 (bk.L0.bq ((inv_2,n5,n10),((n13,((cut n64 0 n13L),n13_2)),n64))).2) none):=by kernel_rfl
theorem bk.eq{R:Type}(t:eH)(inv:Int)(branch:Int)(keys:Bs)(secret:Int)(k:aZ→Option R):bk.A (t,inv,branch,keys,secret) k=
  aj (al.call t) fun x10=>
  aK ((!x10)) (
   k (bk.out ((([]:List eU),(([]:List fM),((0:Int),()))),(1:Int)))) (
   aK ((gb inv (0:Int))) (
    k (bk.out ((([]:List eU),(([]:List fM),((0:Int),()))),(1:Int)))) (
    aK ((mO inv (((List.length t.1):Nat):Int))) (
     k (bk.out ((([]:List eU),(([]:List fM),((0:Int),()))),(1:Int)))) (
     aj (eT.call (branch,(([]:List Sg),(secret,())))) fun x11=>
     aK ((!x11)) (
      k (bk.out ((([]:List eU),(([]:List fM),((0:Int),()))),(1:Int)))) (
      aK ((mN (((List.length keys):Nat):Int) (12:Int))) (
       k (bk.out ((([]:List eU),(([]:List fM),((0:Int),()))),(1:Int)))) (
       aj (bF.call keys) fun x12=>
       aK (x12) (
        k (bk.out ((([]:List eU),(([]:List fM),((0:Int),()))),(1:Int)))) (
        aj (tid.call t) fun x16=>
        aj (bk.L0.call (inv,keys,(((List.length keys):Nat):Int),(0:Int),t,((0:Int),()),branch,0,(secret,()),x16,([]:List Sg))) fun x26=>
        aj (ag.call x26.1.2.1) fun x30=>
        aK (eh x26.1.1 ((x30.1:Nat):Int)) (
        aK (decide ((0+(Int.toNat x26.1.1)) < (List.length x30.2.2))) (
        aK (decide ((((0+(Int.toNat x26.1.1))*36)+33)=((0+((Int.toNat x26.1.1)*36))+33))) (
        aK (decide ((0+(Int.toNat x26.1.1)) < (List.length x30.2.2))) (
        aK (decide (0=0∧(0+x30.1)≤(List.length (List.set x30.2.2 (0+(Int.toNat x26.1.1)) ((nth eg x30.2.2 (0+(Int.toNat x26.1.1))).1,(x26.2.1,(nth eg x30.2.2 (0+(Int.toNat x26.1.1))).2.2)))))) (
        k (bk.out (((cut (List.set x30.2.2 (0+(Int.toNat x26.1.1)) ((nth eg x30.2.2 (0+(Int.toNat x26.1.1))).1,(x26.2.1,(nth eg x30.2.2 (0+(Int.toNat x26.1.1))).2.2))) 0 x30.1),x30.2.1),(0:Int)))) none) none) none) none) none)))))):=by kernel_rfl
theorem bk.L0.ok:bk.L0.Ok:=by
 refine bk.L0.aG (fun(i0,l,n,i,t,e,br,L,sc,id,r)=>l.length - i.toNat) ?_
 rintro⟨i0,l,n,i,t,e,br,L,sc,id,r⟩ ⟨hlen,hu,hm,k,hk,rfl,rfl,rfl,hr⟩
 have hlen:l.length≤1000:=hlen
 have hk:k≤l.length:=hk
 have hr:r.length≤1000+k:=hr
 by_cases h:k < l.length
 ·left
  have n1:nth tu l k=l[k]:=cj (t:=tu) h
  have hd:List.drop k l=l[k]::List.drop (k+1) l:=List.drop_eq_getElem_cons h
  refine⟨(i0,l,l.length,((k+1:Nat):Int),t,e,br,r.length+1,sc,id,r++ [gv l[k] id]),⟨hlen,hu,hm,k+1,by omega,rfl,rfl,by rw[List.length_append];rfl,by rw[List.length_append];show r.length+1≤_;omega⟩,by simp only[Int.toNat_natCast];omega,?_,fun kn kx=> ?_⟩
  ·simp only[bk.L0.add,bk.L0.F,Int.toNat_natCast,hd,List.map_cons,List.append_assoc,List.singleton_append]
  ·rw[bk.L0.step,bw (by omega),bh (by omega) (by omega),Int.toNat_natCast,n1,dB.run (d:=(l[k],id)) ⟨hu _ (List.getElem_mem h),hm⟩]
   simp only[ax,ab,dB.add,dB.F]
   rw[aQ (Nat.le_refl _),eF (by omega) (by omega),N.kk (by omega),List.take_length]
   rfl
 ·right
  obtain rfl:k=l.length:=by omega
  intro R kn kx
  rw[bk.L0.step,bn (by omega),aw]
  simp only[bk.L0.add,bk.L0.F,Int.toNat_natCast,List.drop_length,List.map_nil,List.append_nil,Nat.zero_add,Nat.le_refl,and_self,decide_true,ax,fc]
theorem bk.ok:bk.Ok:=by
 rintro⟨⟨is,os,nt,u⟩,i,br,ks,sc⟩ ⟨hv,hu,hl⟩
 have hv:qL (is,os,nt,u):=hv
 have hl:ks.length≤1000000000:=hl
 rw[bk.eq,al.run (d:=(is,os,nt,u)) hv.1]
 simp only[ab,al.add,al.F,bk.add,bk.F,Bm,jB]
 rcases Bool.eq_false_or_eq_true (fC (is,os,nt,u)) with hok | hok
 rotate_left
 ·simp only[hok];rfl
 obtain⟨⟨_,a2,a3,_⟩,b1,b2⟩:=im hok
 have a2:is.length≤64:=a2
 simp only[hok,Bool.not_true,aw,Bool.true_and]
 by_cases h1:i < 0
 ·rw[bw h1,ax,aM (by omega)];rfl
 rw[bn h1,aw]
 by_cases h2:i≥(is.length:Int)
 ·rw[fX h2,ax,aM (by omega)];rfl
 rw[eI h2,aw,eT.run (d:=(br,([],(sc,())))) trivial]
 simp only[ab,eT.add,eT.F,lV]
 by_cases h3:0≤br∧br < 4
 ·rw[aQ h3]
  by_cases h4:ks.length > 12
  ·rw[dL (by omega),aM (p:=0≤i∧i < (is.length:Int)∧0≤br∧br < 4∧ks.length≤12) (by omega)];rfl
  ·rw[dC (by omega),aQ (p:=0≤i∧i < (is.length:Int)∧0≤br∧br < 4∧ks.length≤12) (by omega),bF.run (d:=ks) ⟨fun _ _=>trivial,hl⟩]
   simp only[ab,bF.add,bF.F]
   rcases Bool.eq_false_or_eq_true (ks.any oW) with hb | hb
   rotate_left
   ·simp only[hb]
    obtain⟨k,rfl⟩:∃k:Nat,i=k:=⟨i.toNat,by omega⟩
    have hk:k < is.length:=by omega
    simp only[show(([]:List Sg).length≤12)=True from eq_true (Nat.zero_le _),decide_true,Bool.and_self,Bool.not_true,Bool.not_false,aw,Bool.true_and,if_true]
    rw[tid.run (d:=(is,os,nt,u)) hv]
    simp only[ab,tid.add,tid.F]
    rw[bk.L0.run (d:=((k:Int),ks,ks.length,0,(is,os,nt,u),(0,()),br,0,(sc,()),qI (is,os,nt,u),[])) ⟨by show ks.length≤_;omega,hu,ye,0,Nat.zero_le _,rfl,rfl,rfl,Nat.zero_le _⟩]
    simp only[ab,bk.L0.add,bk.L0.F,Int.toNat_zero,List.drop_zero,List.nil_append]
    rw[ag.run (d:=(is,os,nt,u)) hok]
    simp only[ab,ag.add,ag.F,Int.toNat_natCast,Nat.zero_add,Nat.add_zero,bh (show(0:Int)≤(k:Int) by omega) (show(k:Int) < (is.length:Int) by omega),ax,aQ hk,decide_true,List.length_set,Nat.le_refl,and_self]
    rw[fc (by rw[List.length_set])]
   ·simp only[hb];rfl
 ·rw[aM h3,aM (p:=0≤i∧i < (is.length:Int)∧0≤br∧br < 4∧ks.length≤12) (by omega)];rfl
noncomputable def bk.E:=Entry.ct [some fD,some ti,some ti,some tU,some tu] bk.st bk.aC bk.add bk.F bk.out
noncomputable def bk.call:bk.D→Option bk.X:=bH bk.E bk.st
theorem bk.run:bD bk.call bk.aC bk.add bk.F:=cO (cM [.d fD,.d ti,.d ti,.d tU,.d tu] fun _=>by kernel_rfl)
noncomputable def bk.sg:SG Tryz.prog:=⟨26,aV,bk.E,.fn 1 (by kernel_rfl) bk.ok (And.intro (.ct bk.L0.ok (by kernel_rfl)) trivial)⟩
set_option synthInstance.maxSize 5000
abbrev bS.L0.D:=Bs×Bs×Int×Int
def bS.L0.st:bS.L0.D→AS:=fun(s1_2,s2_2,t12,t13)=>⟨([.d tB s1_2,.d tB s2_2]++a9 10 ([.d ti t12,.d ti t13]++a9 12 [])),[],(List.replicate 26 [])⟩
abbrev bS.L0.Y0:=Unit
abbrev bS.L0.X0:=Unit
def bS.L0.bq:bS.L0.X0→Exit×AS:=fun x=>(.ret,⟨(a9 4 ([.d .bool false]++a9 21 [])),[],(List.replicate 26 [])⟩)
abbrev bS.L0.Y1:=Unit
abbrev bS.L0.X1:=Unit
def bS.L0.eM:bS.L0.X1→Exit×AS:=fun x=>(.exit 0,⟨(a9 26 []),[],(List.replicate 26 [])⟩)
abbrev bS.L0.X:=(bS.L0.X0)⊕(bS.L0.X1)
abbrev bS.L0.Y:=(bS.L0.Y0)⊕(bS.L0.Y1)
def bS.L0.out:bS.L0.X→Out (Exit×AS):=fun x=> .br x.isLeft (.get x.getLeft? fun a=> .ok (bS.L0.bq a)) (.get x.getRight? fun b=> .ok (bS.L0.eM b))
def bS.L0.add:bS.L0.D→bS.L0.Y→bS.L0.X:=fun(s1_2,s2_2,t12,t13) y=>match y with | .inl y=> .inl y | .inr z=> .inr (z)
abbrev bS.D:=Bs×Bs
def bS.st:bS.D→SA:=fun(s1,s2)=>([.d tB s1,.d tB s2],[])
abbrev bS.Y:=Bool
abbrev bS.X:=Bool
def bS.out:bS.X→aZ:=fun x=>⟨.d .bool x,[],[]⟩
def bS.add:bS.D→bS.Y→bS.X:=fun(s1,s2) y=>y
def bS.L0.aC:bS.L0.D→Prop:=fun(a,b,m,i)=>a.length≤1000000000∧a.length=b.length∧m=a.length∧∃k:Nat,k≤a.length∧i=k
def bS.L0.F:bS.L0.D→bS.L0.Y:=fun(a,b,m,i)=>if a.drop i.toNat=b.drop i.toNat then .inr () else .inl ()
def bS.aC:bS.D→Prop:=fun(a,b)=>a.length≤1000000000
def bS.F:bS.D→bS.Y:=fun(a,b)=>decide (a=b)
noncomputable def bS.G:dQ:=eR (P:=Tryz.prog) []
noncomputable def bS.L0.E:=bN.ct bS.L0.st bS.L0.aC bS.L0.add bS.L0.F bS.L0.out
noncomputable def bS.L0.call:bS.L0.D→Option bS.L0.X:=dh bS.L0.E bS.L0.st
noncomputable def bS.an:eC:= {loops:=jJ [(4,{bm:=[0,1,12,13]})],outs:=jI [(4,{},{bm:=[4]})],fG:=kh [(4,bS.L0.E)]}
noncomputable def bS.A:= @cH Tryz.prog bS.G bS.an 0 Tryz.f58 _ bS.st
abbrev bS.Ok:=cI @bS.A bS.aC bS.add bS.F bS.out
noncomputable def bS.L0.R:= @bX Tryz.prog bS.G bS.an 0 Tryz.f58 0 _ bS.L0.st
abbrev bS.L0.Ok:=eA Tryz.prog bS.G bS.an 0 Tryz.f58 0 bS.L0.st bS.L0.aC bS.L0.add bS.L0.F bS.L0.out
theorem bS.L0.run:bD bS.L0.call bS.L0.aC bS.L0.add bS.L0.F:=eG (eE [.d tB,.d tB,.d ti,.d ti] fun _=>by kernel_rfl)
theorem bS.L0.aG:iZ @bS.L0.R bS.L0.st bS.L0.aC bS.L0.add bS.L0.F bS.L0.out bS.L0.Ok:=jm
theorem bS.L0.step{R:Type}(s1_2:Bs)(s2_2:Bs)(t12:Int)(t13:Int)(kn:AS→Option R)(kx:Exit→AS→Option R):bS.L0.R (s1_2,s2_2,t12,t13) kn kx=
  aK ((gb t13 t12)) (
   aK (eh t13 (((List.length s1_2):Nat):Int)) (
   aK (eh t13 (((List.length s2_2):Nat):Int)) (
   aK ((jn (nth tb s1_2 (Int.toNat t13)) (nth tb s2_2 (Int.toNat t13)))) (
    kx (bS.L0.bq ()).1 (bS.L0.bq ()).2) (
    kn (bS.L0.st (s1_2,s2_2,t12,(bK .i64 t13 (1:Int)))))) none) none) (
   kx (bS.L0.eM ()).1 (bS.L0.eM ()).2):=by kernel_rfl
theorem bS.eq{R:Type}(s1:Bs)(s2:Bs)(k:aZ→Option R):bS.A (s1,s2) k=
  aK ((jn (((List.length s1):Nat):Int) (((List.length s2):Nat):Int))) (
   k (bS.out false)) (
   aj (bS.L0.call (s1,s2,(((List.length s1):Nat):Int),(0:Int))) fun x1=>
   aK (x1.isLeft) (
    aj (x1.getLeft?) fun a2=>
    k (bS.out false)) (
    aj (x1.getRight?) fun b3=>
    k (bS.out true))):=by kernel_rfl
theorem bS.L0.ok:bS.L0.Ok:=by
 refine bS.L0.aG (fun(a,b,m,i)=>a.length - i.toNat) ?_
 rintro⟨a,b,m,i⟩ ⟨hl,hab,rfl,k,hk,rfl⟩
 have hl:a.length≤1000000000:=hl
 have hab:a.length=b.length:=hab
 have hk:k≤a.length:=hk
 by_cases h:k < a.length
 ·have h2:k < b.length:=by omega
  have n1:nth (.int .u8) a k=a[k]:=cj (t:=(.int .u8)) h
  have n2:nth (.int .u8) b k=b[k]:=cj (t:=(.int .u8)) h2
  have hd:(a.drop k=b.drop k)=(a[k]=b[k]∧a.drop (k+1)=b.drop (k+1)):=by rw[List.drop_eq_getElem_cons h,List.drop_eq_getElem_cons h2,List.cons.injEq]
  have step:∀ {R:Type} (kn:AS→Option R) (kx:Exit→AS→Option R),bS.L0.R (a,b,(a.length:Int),(k:Int)) kn kx=if a[k]=b[k] then kn (bS.L0.st (a,b,(a.length:Int),((k+1:Nat):Int))) else kx (bS.L0.bq ()).1 (bS.L0.bq ()).2:=by
   intro R kn kx
   rw[bS.L0.step,bw (by omega),bh (by omega) (by omega),bh (by omega) (by omega),Int.toNat_natCast,n1,n2,N.kk (by omega)]
   simp only[ax]
   by_cases hx:a[k]=b[k]
   ·rw[bP hx,if_pos hx];rfl
   ·rw[dw hx,if_neg hx];rfl
  by_cases hx:a[k]=b[k]
  ·left
   refine⟨(a,b,(a.length:Int),((k+1:Nat):Int)),⟨hl,hab,rfl,k+1,by omega,rfl⟩,by simp only[Int.toNat_natCast];omega,?_,fun kn kx=> ?_⟩
   ·simp only[bS.L0.add,bS.L0.F,Int.toNat_natCast,hd,hx,true_and]
   ·rw[step,if_pos hx]
  ·right
   refine⟨bS.L0.bq (),?_,fun kn kx=> ?_⟩
   ·simp only[bS.L0.add,bS.L0.F,Int.toNat_natCast,hd,hx,false_and,if_false]
    rfl
   ·rw[step,if_neg hx]
 ·right
  obtain rfl:k=a.length:=by omega
  refine⟨bS.L0.eM (),?_,fun kn kx=> ?_⟩
  ·simp only[bS.L0.add,bS.L0.F,Int.toNat_natCast,List.drop_length]
   rw[hab,List.drop_length,if_pos rfl]
   rfl
  ·rw[bS.L0.step,bn (by omega),aw]
theorem bS.ok:bS.Ok:=by
 rintro⟨a,b⟩ hl
 have hl:a.length≤1000000000:=hl
 rw[bS.eq]
 simp only[bS.add,bS.F]
 by_cases h:a.length=b.length
 ·rw[bP (by omega),aw,bS.L0.run (d:=(a,b,(a.length:Int),0)) ⟨hl,h,rfl,0,Nat.zero_le _,rfl⟩]
  simp only[ab,bS.L0.add,bS.L0.F,Int.toNat_zero,List.drop_zero]
  by_cases hx:a=b
  ·rw[if_pos hx,aQ hx];rfl
  ·rw[if_neg hx,aM hx];rfl
 ·rw[dw (by omega),aM (fun x=>h (by rw[x]))];rfl
noncomputable def bS.E:=Entry.ct [some tB,some tB] bS.st bS.aC bS.add bS.F bS.out
noncomputable def bS.call:bS.D→Option bS.X:=bH bS.E bS.st
theorem bS.run:bD bS.call bS.aC bS.add bS.F:=cO (cM [.d tB,.d tB] fun _=>by kernel_rfl)
noncomputable def bS.sg:SG Tryz.prog:=⟨58,aV,bS.E,.fn 1 (by kernel_rfl) bS.ok (And.intro (.ct bS.L0.ok (by kernel_rfl)) trivial)⟩
abbrev ei.L0.D:=Bs×Bs×Int×Int
def ei.L0.st:ei.L0.D→AS:=fun(s1_2,s2_2,t12,t13)=>⟨([.d tU s1_2,.d tU s2_2]++a9 10 ([.d ti t12,.d ti t13]++a9 12 [])),[],(List.replicate 26 [])⟩
abbrev ei.L0.Y0:=Unit
abbrev ei.L0.X0:=Unit
def ei.L0.bq:ei.L0.X0→Exit×AS:=fun x=>(.ret,⟨(a9 4 ([.d .bool false]++a9 21 [])),[],(List.replicate 26 [])⟩)
abbrev ei.L0.Y1:=Unit
abbrev ei.L0.X1:=Unit
def ei.L0.eM:ei.L0.X1→Exit×AS:=fun x=>(.exit 0,⟨(a9 26 []),[],(List.replicate 26 [])⟩)
abbrev ei.L0.X:=(ei.L0.X0)⊕(ei.L0.X1)
abbrev ei.L0.Y:=(ei.L0.Y0)⊕(ei.L0.Y1)
def ei.L0.out:ei.L0.X→Out (Exit×AS):=fun x=> .br x.isLeft (.get x.getLeft? fun a=> .ok (ei.L0.bq a)) (.get x.getRight? fun b=> .ok (ei.L0.eM b))
def ei.L0.add:ei.L0.D→ei.L0.Y→ei.L0.X:=fun(s1_2,s2_2,t12,t13) y=>match y with | .inl y=> .inl y | .inr z=> .inr (z)
abbrev ei.D:=Bs×Bs
def ei.st:ei.D→SA:=fun(s1,s2)=>([.d tU s1,.d tU s2],[])
abbrev ei.Y:=Bool
abbrev ei.X:=Bool
def ei.out:ei.X→aZ:=fun x=>⟨.d .bool x,[],[]⟩
def ei.add:ei.D→ei.Y→ei.X:=fun(s1,s2) y=>y
def ei.L0.aC:ei.L0.D→Prop:=fun(a,b,m,i)=>a.length≤1000000000∧a.length=b.length∧m=a.length∧∃k:Nat,k≤a.length∧i=k
def ei.L0.F:ei.L0.D→ei.L0.Y:=fun(a,b,m,i)=>if a.drop i.toNat=b.drop i.toNat then .inr () else .inl ()
def ei.aC:ei.D→Prop:=fun(a,b)=>a.length≤1000000000
def ei.F:ei.D→ei.Y:=fun(a,b)=>decide (a=b)
noncomputable def ei.G:dQ:=eR (P:=Tryz.prog) []
noncomputable def ei.L0.E:=bN.ct ei.L0.st ei.L0.aC ei.L0.add ei.L0.F ei.L0.out
noncomputable def ei.L0.call:ei.L0.D→Option ei.L0.X:=dh ei.L0.E ei.L0.st
noncomputable def ei.an:eC:= {loops:=jJ [(4,{bm:=[0,1,12,13]})],outs:=jI [(4,{},{bm:=[4]})],fG:=kh [(4,ei.L0.E)]}
noncomputable def ei.A:= @cH Tryz.prog ei.G ei.an 0 Tryz.f68 _ ei.st
abbrev ei.Ok:=cI @ei.A ei.aC ei.add ei.F ei.out
noncomputable def ei.L0.R:= @bX Tryz.prog ei.G ei.an 0 Tryz.f68 0 _ ei.L0.st
abbrev ei.L0.Ok:=eA Tryz.prog ei.G ei.an 0 Tryz.f68 0 ei.L0.st ei.L0.aC ei.L0.add ei.L0.F ei.L0.out
theorem ei.L0.run:bD ei.L0.call ei.L0.aC ei.L0.add ei.L0.F:=eG (eE [.d tU,.d tU,.d ti,.d ti] fun _=>by kernel_rfl)
theorem ei.L0.aG:iZ @ei.L0.R ei.L0.st ei.L0.aC ei.L0.add ei.L0.F ei.L0.out ei.L0.Ok:=jm
theorem ei.L0.step{R:Type}(s1_2:Bs)(s2_2:Bs)(t12:Int)(t13:Int)(kn:AS→Option R)(kx:Exit→AS→Option R):ei.L0.R (s1_2,s2_2,t12,t13) kn kx=
  aK ((gb t13 t12)) (
   aK (eh t13 (((List.length s1_2):Nat):Int)) (
   aK (eh t13 (((List.length s2_2):Nat):Int)) (
   aK ((jn (nth tu s1_2 (Int.toNat t13)) (nth tu s2_2 (Int.toNat t13)))) (
    kx (ei.L0.bq ()).1 (ei.L0.bq ()).2) (
    kn (ei.L0.st (s1_2,s2_2,t12,(bK .i64 t13 (1:Int)))))) none) none) (
   kx (ei.L0.eM ()).1 (ei.L0.eM ()).2):=by kernel_rfl
theorem ei.eq{R:Type}(s1:Bs)(s2:Bs)(k:aZ→Option R):ei.A (s1,s2) k=
  aK ((jn (((List.length s1):Nat):Int) (((List.length s2):Nat):Int))) (
   k (ei.out false)) (
   aj (ei.L0.call (s1,s2,(((List.length s1):Nat):Int),(0:Int))) fun x1=>
   aK (x1.isLeft) (
    aj (x1.getLeft?) fun a2=>
    k (ei.out false)) (
    aj (x1.getRight?) fun b3=>
    k (ei.out true))):=by kernel_rfl
theorem ei.L0.ok:ei.L0.Ok:=by
 refine ei.L0.aG (fun(a,b,m,i)=>a.length - i.toNat) ?_
 rintro⟨a,b,m,i⟩ ⟨hl,hab,rfl,k,hk,rfl⟩
 have hl:a.length≤1000000000:=hl
 have hab:a.length=b.length:=hab
 have hk:k≤a.length:=hk
 by_cases h:k < a.length
 ·have h2:k < b.length:=by omega
  have n1:nth (.int .u64) a k=a[k]:=cj (t:=(.int .u64)) h
  have n2:nth (.int .u64) b k=b[k]:=cj (t:=(.int .u64)) h2
  have hd:(a.drop k=b.drop k)=(a[k]=b[k]∧a.drop (k+1)=b.drop (k+1)):=by rw[List.drop_eq_getElem_cons h,List.drop_eq_getElem_cons h2,List.cons.injEq]
  have step:∀ {R:Type} (kn:AS→Option R) (kx:Exit→AS→Option R),ei.L0.R (a,b,(a.length:Int),(k:Int)) kn kx=if a[k]=b[k] then kn (ei.L0.st (a,b,(a.length:Int),((k+1:Nat):Int))) else kx (ei.L0.bq ()).1 (ei.L0.bq ()).2:=by
   intro R kn kx
   rw[ei.L0.step,bw (by omega),bh (by omega) (by omega),bh (by omega) (by omega),Int.toNat_natCast,n1,n2,N.kk (by omega)]
   simp only[ax]
   by_cases hx:a[k]=b[k]
   ·rw[bP hx,if_pos hx];rfl
   ·rw[dw hx,if_neg hx];rfl
  by_cases hx:a[k]=b[k]
  ·left
   refine⟨(a,b,(a.length:Int),((k+1:Nat):Int)),⟨hl,hab,rfl,k+1,by omega,rfl⟩,by simp only[Int.toNat_natCast];omega,?_,fun kn kx=> ?_⟩
   ·simp only[ei.L0.add,ei.L0.F,Int.toNat_natCast,hd,hx,true_and]
   ·rw[step,if_pos hx]
  ·right
   refine⟨ei.L0.bq (),?_,fun kn kx=> ?_⟩
   ·simp only[ei.L0.add,ei.L0.F,Int.toNat_natCast,hd,hx,false_and,if_false]
    rfl
   ·rw[step,if_neg hx]
 ·right
  obtain rfl:k=a.length:=by omega
  refine⟨ei.L0.eM (),?_,fun kn kx=> ?_⟩
  ·simp only[ei.L0.add,ei.L0.F,Int.toNat_natCast,List.drop_length]
   rw[hab,List.drop_length,if_pos rfl]
   rfl
  ·rw[ei.L0.step,bn (by omega),aw]
theorem ei.ok:ei.Ok:=by
 rintro⟨a,b⟩ hl
 have hl:a.length≤1000000000:=hl
 rw[ei.eq]
 simp only[ei.add,ei.F]
 by_cases h:a.length=b.length
 ·rw[bP (by omega),aw,ei.L0.run (d:=(a,b,(a.length:Int),0)) ⟨hl,h,rfl,0,Nat.zero_le _,rfl⟩]
  simp only[ab,ei.L0.add,ei.L0.F,Int.toNat_zero,List.drop_zero]
  by_cases hx:a=b
  ·rw[if_pos hx,aQ hx];rfl
  ·rw[if_neg hx,aM hx];rfl
 ·rw[dw (by omega),aM (fun x=>h (by rw[x]))];rfl
noncomputable def ei.E:=Entry.ct [some tU,some tU] ei.st ei.aC ei.add ei.F ei.out
noncomputable def ei.call:ei.D→Option ei.X:=bH ei.E ei.st
theorem ei.run:bD ei.call ei.aC ei.add ei.F:=cO (cM [.d tU,.d tU] fun _=>by kernel_rfl)
noncomputable def ei.sg:SG Tryz.prog:=⟨68,aV,ei.E,.fn 1 (by kernel_rfl) ei.ok (And.intro (.ct ei.L0.ok (by kernel_rfl)) trivial)⟩
abbrev cR.D:=gf×gf
def cR.st:cR.D→SA:=fun(x,yv)=>([.d fg x,.d fg yv],[])
abbrev cR.Y:=Bool
abbrev cR.X:=Bool
def cR.out:cR.X→aZ:=fun x=>⟨.d .bool x,[],[]⟩
def cR.add:cR.D→cR.Y→cR.X:=fun(x,yv) y=>y
def cR.aC:cR.D→Prop:=fun(x,z)=>x.1.length≤1000000000
def cR.F:cR.D→cR.Y:=fun(x,z)=>decide (x=z)
noncomputable def cR.G:dQ:=eR (P:=Tryz.prog) [ei.sg]
noncomputable def cR.an:eC:= {}
noncomputable def cR.A:= @cH Tryz.prog cR.G cR.an 0 Tryz.f67 _ cR.st
abbrev cR.Ok:=cI @cR.A cR.aC cR.add cR.F cR.out
theorem cR.eq{R:Type}(x:gf)(yv:gf)(k:aZ→Option R):cR.A (x,yv) k=
  aj (ei.call (x.1,yv.1)) fun x1=>
  aK (x1) (
   aK ((mM x.2.1 yv.2.1)) (
    aK ((mM x.2.2.1 yv.2.2.1)) (
     k (cR.out (mM x.2.2.2.1 yv.2.2.2.1))) (
     k (cR.out false))) (
    k (cR.out false))) (
   k (cR.out false)):=by kernel_rfl
theorem cR.ok:cR.Ok:=by
 rintro⟨⟨k1,a1,d1,s1,u1⟩,⟨k2,a2,d2,s2,u2⟩⟩ h
 have h:k1.length≤1000000000:=h
 rw[cR.eq,ei.run (d:=(k1,k2)) h]
 simp only[ab,ei.add,ei.F,cR.add,cR.F]
 by_cases e1:k1=k2
 ·by_cases e2:a1=a2
  ·by_cases e3:d1=d2
   ·by_cases e4:s1=s2
    ·rw[aQ e1,dm e2,dm e3,dm e4,aQ (by rw[e1,e2,e3,e4])];rfl
    ·rw[aQ e1,dm e2,dm e3,eP e4,aM (by rintro⟨⟩;exact e4 rfl)];rfl
   ·rw[aQ e1,dm e2,eP e3,aM (by rintro⟨⟩;exact e3 rfl)];rfl
  ·rw[aQ e1,eP e2,aM (by rintro⟨⟩;exact e2 rfl)];rfl
 ·rw[aM e1,aM (by rintro⟨⟩;exact e1 rfl)];rfl
noncomputable def cR.E:=Entry.ct [some fg,some fg] cR.st cR.aC cR.add cR.F cR.out
noncomputable def cR.call:cR.D→Option cR.X:=bH cR.E cR.st
theorem cR.run:bD cR.call cR.aC cR.add cR.F:=cO (cM [.d fg,.d fg] fun _=>by kernel_rfl)
noncomputable def cR.sg:SG Tryz.prog:=⟨67,aV,cR.E,.fn 0 (by kernel_rfl) cR.ok trivial⟩
def CL(l:Lk):Prop:=l.1.length≤1000000000∧∀b∈l.1,b.1.length≤1000000000
abbrev bY.L0.D:=(List gf)×(List gf)×Int×Int
def bY.L0.st:bY.L0.D→AS:=fun(s2_2,t15,t16,t17)=>⟨([.undef,.d (.slice fg) s2_2,.fn 67 (.nil)]++a9 12 ([.d (.slice fg) t15,.d ti t16,.d ti t17]++a9 14 [])),[],(List.replicate 32 [])⟩
abbrev bY.L0.Y0:=Unit
abbrev bY.L0.X0:=Unit
def bY.L0.bq:bY.L0.X0→Exit×AS:=fun x=>(.ret,⟨(a9 6 ([.d .bool false]++a9 25 [])),[],(List.replicate 32 [])⟩)
abbrev bY.L0.Y1:=Unit
abbrev bY.L0.X1:=Unit
def bY.L0.eM:bY.L0.X1→Exit×AS:=fun x=>(.exit 0,⟨(a9 32 []),[],(List.replicate 32 [])⟩)
abbrev bY.L0.X:=(bY.L0.X0)⊕(bY.L0.X1)
abbrev bY.L0.Y:=(bY.L0.Y0)⊕(bY.L0.Y1)
def bY.L0.out:bY.L0.X→Out (Exit×AS):=fun x=> .br x.isLeft (.get x.getLeft? fun a=> .ok (bY.L0.bq a)) (.get x.getRight? fun b=> .ok (bY.L0.eM b))
def bY.L0.add:bY.L0.D→bY.L0.Y→bY.L0.X:=fun(s2_2,t15,t16,t17) y=>match y with | .inl y=> .inl y | .inr z=> .inr (z)
abbrev bY.D:=(List gf)×(List gf)
def bY.st:bY.D→SA:=fun(s1,s2)=>([.d (.slice fg) s1,.d (.slice fg) s2,.fn 67 (.nil)],[])
abbrev bY.Y:=Bool
abbrev bY.X:=Bool
def bY.out:bY.X→aZ:=fun x=>⟨.d .bool x,[],[]⟩
def bY.add:bY.D→bY.Y→bY.X:=fun(s1,s2) y=>y
def bY.L0.aC:bY.L0.D→Prop:=fun(b,a,m,i)=>(a.length≤1000000000∧∀x∈a,x.1.length≤1000000000)∧a.length=b.length∧m=a.length∧∃k:Nat,k≤a.length∧i=k
def bY.L0.F:bY.L0.D→bY.L0.Y:=fun(b,a,m,i)=>if a.drop i.toNat=b.drop i.toNat then .inr () else .inl ()
def bY.aC:bY.D→Prop:=fun(a,b)=>a.length≤1000000000∧∀x∈a,x.1.length≤1000000000
def bY.F:bY.D→bY.Y:=fun(a,b)=>decide (a=b)
noncomputable def bY.G:dQ:=eR (P:=Tryz.prog) [cR.sg]
noncomputable def bY.L0.E:=bN.ct bY.L0.st bY.L0.aC bY.L0.add bY.L0.F bY.L0.out
noncomputable def bY.L0.call:bY.L0.D→Option bY.L0.X:=dh bY.L0.E bY.L0.st
noncomputable def bY.an:eC:= {loops:=jJ [(4,{bm:=[1,2,15,16,17]})],outs:=jI [(4,{},{bm:=[6]})],fG:=kh [(4,bY.L0.E)]}
noncomputable def bY.A:= @cH Tryz.prog bY.G bY.an 0 Tryz.f66 _ bY.st
abbrev bY.Ok:=cI @bY.A bY.aC bY.add bY.F bY.out
noncomputable def bY.L0.R:= @bX Tryz.prog bY.G bY.an 0 Tryz.f66 0 _ bY.L0.st
abbrev bY.L0.Ok:=eA Tryz.prog bY.G bY.an 0 Tryz.f66 0 bY.L0.st bY.L0.aC bY.L0.add bY.L0.F bY.L0.out
theorem bY.L0.run:bD bY.L0.call bY.L0.aC bY.L0.add bY.L0.F:=eG (eE [.d (.slice fg),.d (.slice fg),.d ti,.d ti] fun _=>by kernel_rfl)
theorem bY.L0.aG:iZ @bY.L0.R bY.L0.st bY.L0.aC bY.L0.add bY.L0.F bY.L0.out bY.L0.Ok:=jm
theorem bY.L0.step{R:Type}(s2_2:(List gf))(t15:(List gf))(t16:Int)(t17:Int)(kn:AS→Option R)(kx:Exit→AS→Option R):bY.L0.R (s2_2,t15,t16,t17) kn kx=
  aK ((gb t17 t16)) (
   aK (eh t17 (((List.length t15):Nat):Int)) (
   aK (eh t17 (((List.length s2_2):Nat):Int)) (
   aj (cR.call ((nth fg t15 (Int.toNat t17)),(nth fg s2_2 (Int.toNat t17)))) fun x1=>
   aK ((!x1)) (
    kx (bY.L0.bq ()).1 (bY.L0.bq ()).2) (
    kn (bY.L0.st (s2_2,t15,t16,(bK .i64 t17 (1:Int)))))) none) none) (
   kx (bY.L0.eM ()).1 (bY.L0.eM ()).2):=by kernel_rfl
theorem bY.eq{R:Type}(s1:(List gf))(s2:(List gf))(k:aZ→Option R):bY.A (s1,s2) k=
  aK ((jn (((List.length s1):Nat):Int) (((List.length s2):Nat):Int))) (
   k (bY.out false)) (
   aj (bY.L0.call (s2,s1,(((List.length s1):Nat):Int),(0:Int))) fun x2=>
   aK (x2.isLeft) (
    aj (x2.getLeft?) fun a3=>
    k (bY.out false)) (
    aj (x2.getRight?) fun b4=>
    k (bY.out true))):=by kernel_rfl
theorem bY.L0.ok:bY.L0.Ok:=by
 refine bY.L0.aG (fun(b,a,m,i)=>a.length - i.toNat) ?_
 rintro⟨b,a,m,i⟩ ⟨⟨hl,he⟩,hab,rfl,k,hk,rfl⟩
 have hl:a.length≤1000000000:=hl
 have hab:a.length=b.length:=hab
 have hk:k≤a.length:=hk
 by_cases h:k < a.length
 ·have h2:k < b.length:=by omega
  have n1:nth (.pair (.slice (.int .u64)) (.pair (.int .i64) (.pair (.int .i64) (.pair (.int .u64) .unit)))) a k=a[k]:=cj (t:=(.pair (.slice (.int .u64)) (.pair (.int .i64) (.pair (.int .i64) (.pair (.int .u64) .unit))))) h
  have n2:nth (.pair (.slice (.int .u64)) (.pair (.int .i64) (.pair (.int .i64) (.pair (.int .u64) .unit)))) b k=b[k]:=cj (t:=(.pair (.slice (.int .u64)) (.pair (.int .i64) (.pair (.int .i64) (.pair (.int .u64) .unit))))) h2
  have hd:(a.drop k=b.drop k)=(a[k]=b[k]∧a.drop (k+1)=b.drop (k+1)):=by rw[List.drop_eq_getElem_cons h,List.drop_eq_getElem_cons h2,List.cons.injEq]
  have step:∀ {R:Type} (kn:AS→Option R) (kx:Exit→AS→Option R),bY.L0.R (b,a,(a.length:Int),(k:Int)) kn kx=if a[k]=b[k] then kn (bY.L0.st (b,a,(a.length:Int),((k+1:Nat):Int))) else kx (bY.L0.bq ()).1 (bY.L0.bq ()).2:=by
   intro R kn kx
   rw[bY.L0.step,bw (by omega),bh (by omega) (by omega),bh (by omega) (by omega),Int.toNat_natCast,n1,n2,N.kk (by omega),cR.run (d:=(a[k],b[k])) (he _ (List.getElem_mem h))]
   simp only[ax,ab,cR.add,cR.F]
   by_cases hx:a[k]=b[k]
   ·rw[aQ hx,if_pos hx];rfl
   ·rw[aM hx,if_neg hx];rfl
  by_cases hx:a[k]=b[k]
  ·left
   refine⟨(b,a,(a.length:Int),((k+1:Nat):Int)),⟨⟨hl,he⟩,hab,rfl,k+1,by omega,rfl⟩,by simp only[Int.toNat_natCast];omega,?_,fun kn kx=> ?_⟩
   ·simp only[bY.L0.add,bY.L0.F,Int.toNat_natCast,hd,hx,true_and]
   ·rw[step,if_pos hx]
  ·right
   refine⟨bY.L0.bq (),?_,fun kn kx=> ?_⟩
   ·simp only[bY.L0.add,bY.L0.F,Int.toNat_natCast,hd,hx,false_and,if_false]
    rfl
   ·rw[step,if_neg hx]
 ·right
  obtain rfl:k=a.length:=by omega
  refine⟨bY.L0.eM (),?_,fun kn kx=> ?_⟩
  ·simp only[bY.L0.add,bY.L0.F,Int.toNat_natCast,List.drop_length]
   rw[hab,List.drop_length,if_pos rfl]
   rfl
  ·rw[bY.L0.step,bn (by omega),aw]
theorem bY.ok:bY.Ok:=by
 rintro⟨a,b⟩ hl
 have hl1:a.length≤1000000000:=hl.1
 rw[bY.eq]
 simp only[bY.add,bY.F]
 by_cases h:a.length=b.length
 ·rw[bP (by omega),aw,bY.L0.run (d:=(b,a,(a.length:Int),0)) ⟨hl,h,rfl,0,Nat.zero_le _,rfl⟩]
  simp only[ab,bY.L0.add,bY.L0.F,Int.toNat_zero,List.drop_zero]
  by_cases hx:a=b
  ·rw[if_pos hx,aQ hx];rfl
  ·rw[if_neg hx,aM hx];rfl
 ·rw[dw (by omega),aM (fun x=>h (by rw[x]))];rfl
noncomputable def bY.E:=Entry.ct [some (.slice fg),some (.slice fg),none] bY.st bY.aC bY.add bY.F bY.out
noncomputable def bY.call:bY.D→Option bY.X:=bH bY.E bY.st
theorem bY.run:bD bY.call bY.aC bY.add bY.F:=cO (cM [.d (.slice fg),.d (.slice fg)] fun _=>by kernel_rfl)
noncomputable def bY.sg:SG Tryz.prog:=⟨66,aV,bY.E,.fn 1 (by kernel_rfl) bY.ok (And.intro (.ct bY.L0.ok (by kernel_rfl)) trivial)⟩
abbrev ez.D:=Lk×Lk
def ez.st:ez.D→SA:=fun(a,b)=>([.d j7 a,.d j7 b],[])
abbrev ez.Y:=Bool
abbrev ez.X:=Bool
def ez.out:ez.X→aZ:=fun x=>⟨.d .bool x,[],[]⟩
def ez.add:ez.D→ez.Y→ez.X:=fun(a,b) y=>y
def ez.aC:ez.D→Prop:=fun(a,b)=>CL a
def ez.F:ez.D→ez.Y:=fun(a,b)=>decide (a.1=b.1)
noncomputable def ez.G:dQ:=eR (P:=Tryz.prog) [bY.sg]
noncomputable def ez.an:eC:= {}
noncomputable def ez.A:= @cH Tryz.prog ez.G ez.an 0 Tryz.f15 _ ez.st
abbrev ez.Ok:=cI @ez.A ez.aC ez.add ez.F ez.out
theorem ez.eq{R:Type}(a:Lk)(b:Lk)(k:aZ→Option R):ez.A (a,b) k=
 aj (bY.call (a.1,b.1)) fun x1=>
 k (ez.out x1):=by kernel_rfl
theorem ez.ok:ez.Ok:=by
 rintro⟨a,b⟩ h
 rw[ez.eq,bY.run (d:=(a.1,b.1)) h]
 rfl
noncomputable def ez.E:=Entry.ct [some j7,some j7] ez.st ez.aC ez.add ez.F ez.out
noncomputable def ez.call:ez.D→Option ez.X:=bH ez.E ez.st
theorem ez.run:bD ez.call ez.aC ez.add ez.F:=cO (cM [.d j7,.d j7] fun _=>by kernel_rfl)
noncomputable def ez.sg:SG Tryz.prog:=⟨15,aV,ez.E,.fn 0 (by kernel_rfl) ez.ok trivial⟩
set_option synthInstance.maxSize 5000
theorem pc{α:Type}{f:α→α→Bool}(hf:∀x,f x x=true):∀l:List α,gT f l l=true
 |[]=>rfl
 |x::l=>by rw[nk,hf,pc hf l];rfl
theorem mV:∀(t:Ty) (x:t.den),t.comp=true→t.beq x x=true
 | .int _,x,_=>by simp[Ty.beq]
 | .bool,x,_=>by simp[Ty.beq]
 | .str,x,_=>by simp[Ty.beq]
 | .unit,_,_=>rfl
 | .pair a b,x,h=>by
  simp only[Ty.comp,Bool.and_eq_true]at h
  simp only[Ty.beq,mV a x.1 h.1,mV b x.2 h.2,Bool.and_self]
 | .arr _ t,l,h=>pc (fun x=>mV t x h) l
 | .slice _,_,h=>by cases h
 | .fi _,_,h=>by cases h
theorem yq(t:Ty)(hc:t.comp=true)(x y:t.den) [Decidable (x=y)]:t.beq x y=decide (x=y):=by
 by_cases h:x=y
 ·subst h;rw[aQ rfl,mV t x hc]
 ·rw[aM h]
  cases hb:t.beq x y
  ·rfl
  ·exact absurd (beq_eq t x y hc hb) h
theorem Am(x y:Sg):Ty.beq iQ x y=decide (x=y):= @yq iQ rfl x y (inferInstanceAs (Decidable (x=y)))
theorem rq(x y:j8):Ty.beq kA x y=decide (x=y):= @yq kA rfl x y (inferInstanceAs (Decidable (x=y)))
abbrev bU.L0.D:=(List Sg)×(List Sg)×Int×Int
def bU.L0.st:bU.L0.D→AS:=fun(s1_2,s2_2,t12,t13)=>⟨([.d (.slice iQ) s1_2,.d (.slice iQ) s2_2]++a9 10 ([.d ti t12,.d ti t13]++a9 12 [])),[],(List.replicate 26 [])⟩
abbrev bU.L0.Y0:=Unit
abbrev bU.L0.X0:=Unit
def bU.L0.bq:bU.L0.X0→Exit×AS:=fun x=>(.ret,⟨(a9 4 ([.d .bool false]++a9 21 [])),[],(List.replicate 26 [])⟩)
abbrev bU.L0.Y1:=Unit
abbrev bU.L0.X1:=Unit
def bU.L0.eM:bU.L0.X1→Exit×AS:=fun x=>(.exit 0,⟨(a9 26 []),[],(List.replicate 26 [])⟩)
abbrev bU.L0.X:=(bU.L0.X0)⊕(bU.L0.X1)
abbrev bU.L0.Y:=(bU.L0.Y0)⊕(bU.L0.Y1)
def bU.L0.out:bU.L0.X→Out (Exit×AS):=fun x=> .br x.isLeft (.get x.getLeft? fun a=> .ok (bU.L0.bq a)) (.get x.getRight? fun b=> .ok (bU.L0.eM b))
def bU.L0.add:bU.L0.D→bU.L0.Y→bU.L0.X:=fun(s1_2,s2_2,t12,t13) y=>match y with | .inl y=> .inl y | .inr z=> .inr (z)
abbrev bU.D:=(List Sg)×(List Sg)
def bU.st:bU.D→SA:=fun(s1,s2)=>([.d (.slice iQ) s1,.d (.slice iQ) s2],[])
abbrev bU.Y:=Bool
abbrev bU.X:=Bool
def bU.out:bU.X→aZ:=fun x=>⟨.d .bool x,[],[]⟩
def bU.add:bU.D→bU.Y→bU.X:=fun(s1,s2) y=>y
def bU.L0.aC:bU.L0.D→Prop:=fun(a,b,m,i)=>a.length≤1000000000∧a.length=b.length∧m=a.length∧∃k:Nat,k≤a.length∧i=k
def bU.L0.F:bU.L0.D→bU.L0.Y:=fun(a,b,m,i)=>if a.drop i.toNat=b.drop i.toNat then .inr () else .inl ()
def bU.aC:bU.D→Prop:=fun(a,b)=>a.length≤1000000000
def bU.F:bU.D→bU.Y:=fun(a,b)=>decide (a=b)
noncomputable def bU.G:dQ:=eR (P:=Tryz.prog) []
noncomputable def bU.L0.E:=bN.ct bU.L0.st bU.L0.aC bU.L0.add bU.L0.F bU.L0.out
noncomputable def bU.L0.call:bU.L0.D→Option bU.L0.X:=dh bU.L0.E bU.L0.st
noncomputable def bU.an:eC:= {loops:=jJ [(4,{bm:=[0,1,12,13]})],outs:=jI [(4,{},{bm:=[4]})],fG:=kh [(4,bU.L0.E)]}
noncomputable def bU.A:= @cH Tryz.prog bU.G bU.an 0 Tryz.f100 _ bU.st
abbrev bU.Ok:=cI @bU.A bU.aC bU.add bU.F bU.out
noncomputable def bU.L0.R:= @bX Tryz.prog bU.G bU.an 0 Tryz.f100 0 _ bU.L0.st
abbrev bU.L0.Ok:=eA Tryz.prog bU.G bU.an 0 Tryz.f100 0 bU.L0.st bU.L0.aC bU.L0.add bU.L0.F bU.L0.out
theorem bU.L0.run:bD bU.L0.call bU.L0.aC bU.L0.add bU.L0.F:=eG (eE [.d (.slice iQ),.d (.slice iQ),.d ti,.d ti] fun _=>by kernel_rfl)
theorem bU.L0.aG:iZ @bU.L0.R bU.L0.st bU.L0.aC bU.L0.add bU.L0.F bU.L0.out bU.L0.Ok:=jm
theorem bU.L0.step{R:Type}(s1_2:(List Sg))(s2_2:(List Sg))(t12:Int)(t13:Int)(kn:AS→Option R)(kx:Exit→AS→Option R):bU.L0.R (s1_2,s2_2,t12,t13) kn kx=
  aK ((gb t13 t12)) (
   aK (eh t13 (((List.length s1_2):Nat):Int)) (
   aK (eh t13 (((List.length s2_2):Nat):Int)) (
   aK ((!(Ty.beq iQ (nth iQ s1_2 (Int.toNat t13)) (nth iQ s2_2 (Int.toNat t13))))) (
    kx (bU.L0.bq ()).1 (bU.L0.bq ()).2) (
    kn (bU.L0.st (s1_2,s2_2,t12,(bK .i64 t13 (1:Int)))))) none) none) (
   kx (bU.L0.eM ()).1 (bU.L0.eM ()).2):=by kernel_rfl
theorem bU.eq{R:Type}(s1:(List Sg))(s2:(List Sg))(k:aZ→Option R):bU.A (s1,s2) k=
  aK ((jn (((List.length s1):Nat):Int) (((List.length s2):Nat):Int))) (
   k (bU.out false)) (
   aj (bU.L0.call (s1,s2,(((List.length s1):Nat):Int),(0:Int))) fun x1=>
   aK (x1.isLeft) (
    aj (x1.getLeft?) fun a2=>
    k (bU.out false)) (
    aj (x1.getRight?) fun b3=>
    k (bU.out true))):=by kernel_rfl
theorem bU.L0.ok:bU.L0.Ok:=by
 refine bU.L0.aG (fun(a,b,m,i)=>a.length - i.toNat) ?_
 rintro⟨a,b,m,i⟩ ⟨hl,hab,rfl,k,hk,rfl⟩
 have hl:a.length≤1000000000:=hl
 have hab:a.length=b.length:=hab
 have hk:k≤a.length:=hk
 by_cases h:k < a.length
 ·have h2:k < b.length:=by omega
  have n1:nth iQ a k=a[k]:=cj (t:=iQ) h
  have n2:nth iQ b k=b[k]:=cj (t:=iQ) h2
  have hd:(a.drop k=b.drop k)=(a[k]=b[k]∧a.drop (k+1)=b.drop (k+1)):=by rw[List.drop_eq_getElem_cons h,List.drop_eq_getElem_cons h2,List.cons.injEq]
  have step:∀ {R:Type} (kn:AS→Option R) (kx:Exit→AS→Option R),bU.L0.R (a,b,(a.length:Int),(k:Int)) kn kx=if a[k]=b[k] then kn (bU.L0.st (a,b,(a.length:Int),((k+1:Nat):Int))) else kx (bU.L0.bq ()).1 (bU.L0.bq ()).2:=by
   intro R kn kx
   rw[bU.L0.step,bw (by omega),bh (by omega) (by omega),bh (by omega) (by omega),Int.toNat_natCast,n1,n2,N.kk (by omega)]
   simp only[ax]
   rw[Am]
   by_cases hx:a[k]=b[k]
   ·rw[aQ hx,if_pos hx];rfl
   ·rw[aM hx,if_neg hx];rfl
  by_cases hx:a[k]=b[k]
  ·left
   refine⟨(a,b,(a.length:Int),((k+1:Nat):Int)),⟨hl,hab,rfl,k+1,by omega,rfl⟩,by simp only[Int.toNat_natCast];omega,?_,fun kn kx=> ?_⟩
   ·simp only[bU.L0.add,bU.L0.F,Int.toNat_natCast,hd,hx,true_and]
   ·rw[step,if_pos hx]
  ·right
   refine⟨bU.L0.bq (),?_,fun kn kx=> ?_⟩
   ·simp only[bU.L0.add,bU.L0.F,Int.toNat_natCast,hd,hx,false_and,if_false]
    rfl
   ·rw[step,if_neg hx]
 ·right
  obtain rfl:k=a.length:=by omega
  refine⟨bU.L0.eM (),?_,fun kn kx=> ?_⟩
  ·simp only[bU.L0.add,bU.L0.F,Int.toNat_natCast,List.drop_length]
   rw[hab,List.drop_length,if_pos rfl]
   rfl
  ·rw[bU.L0.step,bn (by omega),aw]
theorem bU.ok:bU.Ok:=by
 rintro⟨a,b⟩ hl
 have hl:a.length≤1000000000:=hl
 rw[bU.eq]
 simp only[bU.add,bU.F]
 by_cases h:a.length=b.length
 ·rw[bP (by omega),aw,bU.L0.run (d:=(a,b,(a.length:Int),0)) ⟨hl,h,rfl,0,Nat.zero_le _,rfl⟩]
  simp only[ab,bU.L0.add,bU.L0.F,Int.toNat_zero,List.drop_zero]
  by_cases hx:a=b
  ·rw[if_pos hx,aQ hx];rfl
  ·rw[if_neg hx,aM hx];rfl
 ·rw[dw (by omega),aM (fun x=>h (by rw[x]))];rfl
noncomputable def bU.E:=Entry.ct [some (.slice iQ),some (.slice iQ)] bU.st bU.aC bU.add bU.F bU.out
noncomputable def bU.call:bU.D→Option bU.X:=bH bU.E bU.st
theorem bU.run:bD bU.call bU.aC bU.add bU.F:=cO (cM [.d (.slice iQ),.d (.slice iQ)] fun _=>by kernel_rfl)
noncomputable def bU.sg:SG Tryz.prog:=⟨100,aV,bU.E,.fn 1 (by kernel_rfl) bU.ok (And.intro (.ct bU.L0.ok (by kernel_rfl)) trivial)⟩
abbrev cT.D:=eU×eU
def cT.st:cT.D→SA:=fun(x,yv)=>([.d eg x,.d eg yv],[])
abbrev cT.Y:=Bool
abbrev cT.X:=Bool
def cT.out:cT.X→aZ:=fun x=>⟨.d .bool x,[],[]⟩
def cT.add:cT.D→cT.Y→cT.X:=fun(x,yv) y=>y
def cT.aC:cT.D→Prop:=fun(x,y)=>x.2.1.2.1.length≤1000000000
def cT.F:cT.D→cT.Y:=fun(x,y)=>decide (x=y)
noncomputable def cT.G:dQ:=eR (P:=Tryz.prog) [bU.sg]
noncomputable def cT.an:eC:= {}
noncomputable def cT.A:= @cH Tryz.prog cT.G cT.an 0 Tryz.f99 _ cT.st
abbrev cT.Ok:=cI @cT.A cT.aC cT.add cT.F cT.out
theorem cT.eq{R:Type}(x:eU)(yv:eU)(k:aZ→Option R):cT.A (x,yv) k=
  aK ((Ty.beq kA x.1 yv.1)) (
   aK ((mM x.2.1.1 yv.2.1.1)) (
    aK ((mM x.2.1.2.2.1 yv.2.1.2.2.1)) (
     aj (bU.call (x.2.1.2.1,yv.2.1.2.1)) fun x1=>
     k (cT.out x1)) (
     k (cT.out false))) (
    k (cT.out false))) (
   k (cT.out false)):=by kernel_rfl
theorem cT.ok:cT.Ok:=by
 rintro⟨⟨f1,⟨b1,s1,c1,u1⟩,v1⟩,⟨f2,⟨b2,s2,c2,u2⟩,v2⟩⟩ h
 have h:s1.length≤1000000000:=h
 rw[cT.eq,bU.run (d:=(s1,s2)) h,rq]
 simp only[ab,bU.add,bU.F,cT.add,cT.F]
 by_cases e1:f1=f2
 ·by_cases e2:b1=b2
  ·by_cases e3:c1=c2
   ·by_cases e4:s1=s2
    ·rw[aQ e1,dm e2,dm e3,aQ e4,aQ (by rw[e1,e2,e3,e4])];rfl
    ·rw[aQ e1,dm e2,dm e3,aM e4,aM (by rintro⟨⟩;exact e4 rfl)];rfl
   ·rw[aQ e1,dm e2,eP e3,aM (p:=(f1,(b1,s1,c1,u1),v1)=(f2,(b2,s2,c2,u2),v2)) (by rintro⟨⟩;exact e3 rfl)];rfl
  ·rw[aQ e1,eP e2,aM (p:=(f1,(b1,s1,c1,u1),v1)=(f2,(b2,s2,c2,u2),v2)) (by rintro⟨⟩;exact e2 rfl)];rfl
 ·rw[aM e1,aM (p:=(f1,(b1,s1,c1,u1),v1)=(f2,(b2,s2,c2,u2),v2)) (by rintro⟨⟩;exact e1 rfl)];rfl
noncomputable def cT.E:=Entry.ct [some eg,some eg] cT.st cT.aC cT.add cT.F cT.out
noncomputable def cT.call:cT.D→Option cT.X:=bH cT.E cT.st
theorem cT.run:bD cT.call cT.aC cT.add cT.F:=cO (cM [.d eg,.d eg] fun _=>by kernel_rfl)
noncomputable def cT.sg:SG Tryz.prog:=⟨99,aV,cT.E,.fn 0 (by kernel_rfl) cT.ok trivial⟩
abbrev cU.D:=gf×gf
def cU.st:cU.D→SA:=fun(x,yv)=>([.d fg x,.d fg yv],[])
abbrev cU.Y:=Bool
abbrev cU.X:=Bool
def cU.out:cU.X→aZ:=fun x=>⟨.d .bool x,[],[]⟩
def cU.add:cU.D→cU.Y→cU.X:=fun(x,yv) y=>y
def cU.aC:cU.D→Prop:=fun(x,z)=>x.1.length≤1000000000
def cU.F:cU.D→cU.Y:=fun(x,z)=>decide (x=z)
noncomputable def cU.G:dQ:=eR (P:=Tryz.prog) [ei.sg]
noncomputable def cU.an:eC:= {}
noncomputable def cU.A:= @cH Tryz.prog cU.G cU.an 0 Tryz.f101 _ cU.st
abbrev cU.Ok:=cI @cU.A cU.aC cU.add cU.F cU.out
theorem cU.eq{R:Type}(x:gf)(yv:gf)(k:aZ→Option R):cU.A (x,yv) k=
  aK ((mM x.2.1 yv.2.1)) (
   aK ((mM x.2.2.1 yv.2.2.1)) (
    aK ((mM x.2.2.2.1 yv.2.2.2.1)) (
     aj (ei.call (x.1,yv.1)) fun x1=>
     k (cU.out x1)) (
     k (cU.out false))) (
    k (cU.out false))) (
   k (cU.out false)):=by kernel_rfl
theorem cU.ok:cU.Ok:=by
 rintro⟨⟨k1,a1,d1,s1,u1⟩,⟨k2,a2,d2,s2,u2⟩⟩ h
 have h:k1.length≤1000000000:=h
 rw[cU.eq,ei.run (d:=(k1,k2)) h]
 simp only[ab,ei.add,ei.F,cU.add,cU.F]
 by_cases e1:k1=k2
 ·by_cases e2:a1=a2
  ·by_cases e3:d1=d2
   ·by_cases e4:s1=s2
    ·rw[aQ e1,dm e2,dm e3,dm e4,aQ (by rw[e1,e2,e3,e4])];rfl
    ·rw[dm e2,dm e3,eP e4,aM (p:=(k1,a1,d1,s1,u1)=(k2,a2,d2,s2,u2)) (by rintro⟨⟩;exact e4 rfl)];rfl
   ·rw[dm e2,eP e3,aM (p:=(k1,a1,d1,s1,u1)=(k2,a2,d2,s2,u2)) (by rintro⟨⟩;exact e3 rfl)];rfl
  ·rw[eP e2,aM (p:=(k1,a1,d1,s1,u1)=(k2,a2,d2,s2,u2)) (by rintro⟨⟩;exact e2 rfl)];rfl
 ·rw[aM e1,aM (p:=(k1,a1,d1,s1,u1)=(k2,a2,d2,s2,u2)) (by rintro⟨⟩;exact e1 rfl)]
  cases mM a1 a2 <;> cases mM d1 d2 <;> cases mM s1 s2 <;> rfl
noncomputable def cU.E:=Entry.ct [some fg,some fg] cU.st cU.aC cU.add cU.F cU.out
noncomputable def cU.call:cU.D→Option cU.X:=bH cU.E cU.st
theorem cU.run:bD cU.call cU.aC cU.add cU.F:=cO (cM [.d fg,.d fg] fun _=>by kernel_rfl)
noncomputable def cU.sg:SG Tryz.prog:=⟨101,aV,cU.E,.fn 0 (by kernel_rfl) cU.ok trivial⟩
abbrev bo.L0.D:=(List gf)×(List gf)×Int×Int
def bo.L0.st:bo.L0.D→AS:=fun(s2_2,t15,t16,t17)=>⟨([.undef,.d (.slice fg) s2_2,.fn 101 (.nil)]++a9 12 ([.d (.slice fg) t15,.d ti t16,.d ti t17]++a9 14 [])),[],(List.replicate 32 [])⟩
abbrev bo.L0.Y0:=Unit
abbrev bo.L0.X0:=Unit
def bo.L0.bq:bo.L0.X0→Exit×AS:=fun x=>(.ret,⟨(a9 6 ([.d .bool false]++a9 25 [])),[],(List.replicate 32 [])⟩)
abbrev bo.L0.Y1:=Unit
abbrev bo.L0.X1:=Unit
def bo.L0.eM:bo.L0.X1→Exit×AS:=fun x=>(.exit 0,⟨(a9 32 []),[],(List.replicate 32 [])⟩)
abbrev bo.L0.X:=(bo.L0.X0)⊕(bo.L0.X1)
abbrev bo.L0.Y:=(bo.L0.Y0)⊕(bo.L0.Y1)
def bo.L0.out:bo.L0.X→Out (Exit×AS):=fun x=> .br x.isLeft (.get x.getLeft? fun a=> .ok (bo.L0.bq a)) (.get x.getRight? fun b=> .ok (bo.L0.eM b))
def bo.L0.add:bo.L0.D→bo.L0.Y→bo.L0.X:=fun(s2_2,t15,t16,t17) y=>match y with | .inl y=> .inl y | .inr z=> .inr (z)
abbrev bo.D:=(List gf)×(List gf)
def bo.st:bo.D→SA:=fun(s1,s2)=>([.d (.slice fg) s1,.d (.slice fg) s2,.fn 101 (.nil)],[])
abbrev bo.Y:=Bool
abbrev bo.X:=Bool
def bo.out:bo.X→aZ:=fun x=>⟨.d .bool x,[],[]⟩
def bo.add:bo.D→bo.Y→bo.X:=fun(s1,s2) y=>y
def bo.L0.aC:bo.L0.D→Prop:=fun(b,a,m,i)=>(a.length≤1000000000∧∀x∈a,x.1.length≤1000000000)∧a.length=b.length∧m=a.length∧∃k:Nat,k≤a.length∧i=k
def bo.L0.F:bo.L0.D→bo.L0.Y:=fun(b,a,m,i)=>if a.drop i.toNat=b.drop i.toNat then .inr () else .inl ()
def bo.aC:bo.D→Prop:=fun(a,b)=>a.length≤1000000000∧∀x∈a,x.1.length≤1000000000
def bo.F:bo.D→bo.Y:=fun(a,b)=>decide (a=b)
noncomputable def bo.G:dQ:=eR (P:=Tryz.prog) [cU.sg]
noncomputable def bo.L0.E:=bN.ct bo.L0.st bo.L0.aC bo.L0.add bo.L0.F bo.L0.out
noncomputable def bo.L0.call:bo.L0.D→Option bo.L0.X:=dh bo.L0.E bo.L0.st
noncomputable def bo.an:eC:= {loops:=jJ [(4,{bm:=[1,2,15,16,17]})],outs:=jI [(4,{},{bm:=[6]})],fG:=kh [(4,bo.L0.E)]}
noncomputable def bo.A:= @cH Tryz.prog bo.G bo.an 0 Tryz.f66 _ bo.st
abbrev bo.Ok:=cI @bo.A bo.aC bo.add bo.F bo.out
noncomputable def bo.L0.R:= @bX Tryz.prog bo.G bo.an 0 Tryz.f66 0 _ bo.L0.st
abbrev bo.L0.Ok:=eA Tryz.prog bo.G bo.an 0 Tryz.f66 0 bo.L0.st bo.L0.aC bo.L0.add bo.L0.F bo.L0.out
theorem bo.L0.run:bD bo.L0.call bo.L0.aC bo.L0.add bo.L0.F:=eG (eE [.d (.slice fg),.d (.slice fg),.d ti,.d ti] fun _=>by kernel_rfl)
theorem bo.L0.aG:iZ @bo.L0.R bo.L0.st bo.L0.aC bo.L0.add bo.L0.F bo.L0.out bo.L0.Ok:=jm
theorem bo.L0.step{R:Type}(s2_2:(List gf))(t15:(List gf))(t16:Int)(t17:Int)(kn:AS→Option R)(kx:Exit→AS→Option R):bo.L0.R (s2_2,t15,t16,t17) kn kx=
  aK ((gb t17 t16)) (
   aK (eh t17 (((List.length t15):Nat):Int)) (
   aK (eh t17 (((List.length s2_2):Nat):Int)) (
   aj (cU.call ((nth fg t15 (Int.toNat t17)),(nth fg s2_2 (Int.toNat t17)))) fun x1=>
   aK ((!x1)) (
    kx (bo.L0.bq ()).1 (bo.L0.bq ()).2) (
    kn (bo.L0.st (s2_2,t15,t16,(bK .i64 t17 (1:Int)))))) none) none) (
   kx (bo.L0.eM ()).1 (bo.L0.eM ()).2):=by kernel_rfl
theorem bo.eq{R:Type}(s1:(List gf))(s2:(List gf))(k:aZ→Option R):bo.A (s1,s2) k=
  aK ((jn (((List.length s1):Nat):Int) (((List.length s2):Nat):Int))) (
   k (bo.out false)) (
   aj (bo.L0.call (s2,s1,(((List.length s1):Nat):Int),(0:Int))) fun x2=>
   aK (x2.isLeft) (
    aj (x2.getLeft?) fun a3=>
    k (bo.out false)) (
    aj (x2.getRight?) fun b4=>
    k (bo.out true))):=by kernel_rfl
theorem bo.L0.ok:bo.L0.Ok:=by
 refine bo.L0.aG (fun(b,a,m,i)=>a.length - i.toNat) ?_
 rintro⟨b,a,m,i⟩ ⟨⟨hl,he⟩,hab,rfl,k,hk,rfl⟩
 have hl:a.length≤1000000000:=hl
 have hab:a.length=b.length:=hab
 have hk:k≤a.length:=hk
 by_cases h:k < a.length
 ·have h2:k < b.length:=by omega
  have n1:nth fg a k=a[k]:=cj (t:=fg) h
  have n2:nth fg b k=b[k]:=cj (t:=fg) h2
  have hd:(a.drop k=b.drop k)=(a[k]=b[k]∧a.drop (k+1)=b.drop (k+1)):=by rw[List.drop_eq_getElem_cons h,List.drop_eq_getElem_cons h2,List.cons.injEq]
  have step:∀ {R:Type} (kn:AS→Option R) (kx:Exit→AS→Option R),bo.L0.R (b,a,(a.length:Int),(k:Int)) kn kx=if a[k]=b[k] then kn (bo.L0.st (b,a,(a.length:Int),((k+1:Nat):Int))) else kx (bo.L0.bq ()).1 (bo.L0.bq ()).2:=by
   intro R kn kx
   rw[bo.L0.step,bw (by omega),bh (by omega) (by omega),bh (by omega) (by omega),Int.toNat_natCast,n1,n2,N.kk (by omega),cU.run (d:=(a[k],b[k])) (he _ (List.getElem_mem h))]
   simp only[ax,ab,cU.add,cU.F]
   by_cases hx:a[k]=b[k]
   ·rw[aQ hx,if_pos hx];rfl
   ·rw[aM hx,if_neg hx];rfl
  by_cases hx:a[k]=b[k]
  ·left
   refine⟨(b,a,(a.length:Int),((k+1:Nat):Int)),⟨⟨hl,he⟩,hab,rfl,k+1,by omega,rfl⟩,by simp only[Int.toNat_natCast];omega,?_,fun kn kx=> ?_⟩
   ·simp only[bo.L0.add,bo.L0.F,Int.toNat_natCast,hd,hx,true_and]
   ·rw[step,if_pos hx]
  ·right
   refine⟨bo.L0.bq (),?_,fun kn kx=> ?_⟩
   ·simp only[bo.L0.add,bo.L0.F,Int.toNat_natCast,hd,hx,false_and,if_false]
    rfl
   ·rw[step,if_neg hx]
 ·right
  obtain rfl:k=a.length:=by omega
  refine⟨bo.L0.eM (),?_,fun kn kx=> ?_⟩
  ·simp only[bo.L0.add,bo.L0.F,Int.toNat_natCast,List.drop_length]
   rw[hab,List.drop_length,if_pos rfl]
   rfl
  ·rw[bo.L0.step,bn (by omega),aw]
theorem bo.ok:bo.Ok:=by
 rintro⟨a,b⟩ hl
 have hl1:a.length≤1000000000:=hl.1
 rw[bo.eq]
 simp only[bo.add,bo.F]
 by_cases h:a.length=b.length
 ·rw[bP (by omega),aw,bo.L0.run (d:=(b,a,(a.length:Int),0)) ⟨hl,h,rfl,0,Nat.zero_le _,rfl⟩]
  simp only[ab,bo.L0.add,bo.L0.F,Int.toNat_zero,List.drop_zero]
  by_cases hx:a=b
  ·rw[if_pos hx,aQ hx];rfl
  ·rw[if_neg hx,aM hx];rfl
 ·rw[dw (by omega),aM (fun x=>h (by rw[x]))];rfl
noncomputable def bo.E:=Entry.ct [some (.slice fg),some (.slice fg),none] bo.st bo.aC bo.add bo.F bo.out
noncomputable def bo.call:bo.D→Option bo.X:=bH bo.E bo.st
theorem bo.run:bD bo.call bo.aC bo.add bo.F:=cO (cM [.d (.slice fg),.d (.slice fg)] fun _=>by kernel_rfl)
noncomputable def bo.sg:SG Tryz.prog:=⟨66,aV,bo.E,.fn 1 (by kernel_rfl) bo.ok (And.intro (.ct bo.L0.ok (by kernel_rfl)) trivial)⟩
abbrev da.D:=fM×fM
def da.st:da.D→SA:=fun(x,yv)=>([.d eV x,.d eV yv,.ptr (.fE 0) 0 [] 0],[.obj 0 false (.fn 101 (.nil))])
abbrev da.Y:=Bool
abbrev da.X:=Bool
def da.out:da.X→aZ:=fun x=>⟨.d .bool x,[.obj 0 false (.fn 101 (.nil))],[]⟩
def da.add:da.D→da.Y→da.X:=fun(x,yv) y=>y
def da.aC:da.D→Prop:=fun(x,y)=>x.2.1.1.length≤1000000000∧∀b∈x.2.1.1,b.1.length≤1000000000
def da.F:da.D→da.Y:=fun(x,y)=>decide (x=y)
noncomputable def da.G:dQ:=eR (P:=Tryz.prog) [bo.sg]
noncomputable def da.an:eC:= {}
noncomputable def da.A:= @cH Tryz.prog da.G da.an 0 Tryz.f102 _ da.st
abbrev da.Ok:=cI @da.A da.aC da.add da.F da.out
theorem da.eq{R:Type}(x:fM)(yv:fM)(k:aZ→Option R):da.A (x,yv) k=
  aK ((mM x.1 yv.1)) (
   aj (bo.call (x.2.1.1,yv.2.1.1)) fun x1=>
   k (da.out x1)) (
   k (da.out false)):=by kernel_rfl
theorem da.ok:da.Ok:=by
 rintro⟨⟨n1,⟨b1,w1⟩,u1⟩,⟨n2,⟨b2,w2⟩,u2⟩⟩ h
 rw[da.eq,bo.run (d:=(b1,b2)) h]
 simp only[ab,bo.add,bo.F,da.add,da.F]
 by_cases e1:n1=n2
 ·by_cases e2:b1=b2
  ·rw[dm e1,aQ e2,aQ (by rw[e1,e2])];rfl
  ·rw[dm e1,aM e2,aM (by rintro⟨⟩;exact e2 rfl)];rfl
 ·rw[eP e1,aM (p:=(n1,(b1,w1),u1)=(n2,(b2,w2),u2)) (by rintro⟨⟩;exact e1 rfl)];rfl
noncomputable def da.E:=Entry.ct [some eV,some eV,none] da.st da.aC da.add da.F da.out
noncomputable def da.call:da.D→Option da.X:=bH da.E da.st
theorem da.run:bD da.call da.aC da.add da.F:=cO (cM [.d eV,.d eV] fun _=>by kernel_rfl)
noncomputable def da.sg:SG Tryz.prog:=⟨102,aV,da.E,.fn 0 (by kernel_rfl) da.ok trivial⟩
abbrev bT.L0.D:=(List eU)×(List eU)×Int×Int
def bT.L0.st:bT.L0.D→AS:=fun(s2_2,t15,t16,t17)=>⟨([.undef,.d (.slice eg) s2_2,.fn 99 (.nil)]++a9 12 ([.d (.slice eg) t15,.d ti t16,.d ti t17]++a9 14 [])),[],(List.replicate 32 [])⟩
abbrev bT.L0.Y0:=Unit
abbrev bT.L0.X0:=Unit
def bT.L0.bq:bT.L0.X0→Exit×AS:=fun x=>(.ret,⟨(a9 6 ([.d .bool false]++a9 25 [])),[],(List.replicate 32 [])⟩)
abbrev bT.L0.Y1:=Unit
abbrev bT.L0.X1:=Unit
def bT.L0.eM:bT.L0.X1→Exit×AS:=fun x=>(.exit 0,⟨(a9 32 []),[],(List.replicate 32 [])⟩)
abbrev bT.L0.X:=(bT.L0.X0)⊕(bT.L0.X1)
abbrev bT.L0.Y:=(bT.L0.Y0)⊕(bT.L0.Y1)
def bT.L0.out:bT.L0.X→Out (Exit×AS):=fun x=> .br x.isLeft (.get x.getLeft? fun a=> .ok (bT.L0.bq a)) (.get x.getRight? fun b=> .ok (bT.L0.eM b))
def bT.L0.add:bT.L0.D→bT.L0.Y→bT.L0.X:=fun(s2_2,t15,t16,t17) y=>match y with | .inl y=> .inl y | .inr z=> .inr (z)
abbrev bT.D:=(List eU)×(List eU)
def bT.st:bT.D→SA:=fun(s1,s2)=>([.d (.slice eg) s1,.d (.slice eg) s2,.fn 99 (.nil)],[])
abbrev bT.Y:=Bool
abbrev bT.X:=Bool
def bT.out:bT.X→aZ:=fun x=>⟨.d .bool x,[],[]⟩
def bT.add:bT.D→bT.Y→bT.X:=fun(s1,s2) y=>y
def bT.L0.aC:bT.L0.D→Prop:=fun(b,a,m,i)=>(a.length≤1000000000∧∀x∈a,x.2.1.2.1.length≤1000000000)∧a.length=b.length∧m=a.length∧∃k:Nat,k≤a.length∧i=k
def bT.L0.F:bT.L0.D→bT.L0.Y:=fun(b,a,m,i)=>if a.drop i.toNat=b.drop i.toNat then .inr () else .inl ()
def bT.aC:bT.D→Prop:=fun(a,b)=>a.length≤1000000000∧∀x∈a,x.2.1.2.1.length≤1000000000
def bT.F:bT.D→bT.Y:=fun(a,b)=>decide (a=b)
noncomputable def bT.G:dQ:=eR (P:=Tryz.prog) [cT.sg]
noncomputable def bT.L0.E:=bN.ct bT.L0.st bT.L0.aC bT.L0.add bT.L0.F bT.L0.out
noncomputable def bT.L0.call:bT.L0.D→Option bT.L0.X:=dh bT.L0.E bT.L0.st
noncomputable def bT.an:eC:= {loops:=jJ [(4,{bm:=[1,2,15,16,17]})],outs:=jI [(4,{},{bm:=[6]})],fG:=kh [(4,bT.L0.E)]}
noncomputable def bT.A:= @cH Tryz.prog bT.G bT.an 0 Tryz.f103 _ bT.st
abbrev bT.Ok:=cI @bT.A bT.aC bT.add bT.F bT.out
noncomputable def bT.L0.R:= @bX Tryz.prog bT.G bT.an 0 Tryz.f103 0 _ bT.L0.st
abbrev bT.L0.Ok:=eA Tryz.prog bT.G bT.an 0 Tryz.f103 0 bT.L0.st bT.L0.aC bT.L0.add bT.L0.F bT.L0.out
theorem bT.L0.run:bD bT.L0.call bT.L0.aC bT.L0.add bT.L0.F:=eG (eE [.d (.slice eg),.d (.slice eg),.d ti,.d ti] fun _=>by kernel_rfl)
theorem bT.L0.aG:iZ @bT.L0.R bT.L0.st bT.L0.aC bT.L0.add bT.L0.F bT.L0.out bT.L0.Ok:=jm
theorem bT.L0.step{R:Type}(s2_2:(List eU))(t15:(List eU))(t16:Int)(t17:Int)(kn:AS→Option R)(kx:Exit→AS→Option R):bT.L0.R (s2_2,t15,t16,t17) kn kx=
  aK ((gb t17 t16)) (
   aK (eh t17 (((List.length t15):Nat):Int)) (
   aK (eh t17 (((List.length s2_2):Nat):Int)) (
   aj (cT.call ((nth eg t15 (Int.toNat t17)),(nth eg s2_2 (Int.toNat t17)))) fun x1=>
   aK ((!x1)) (
    kx (bT.L0.bq ()).1 (bT.L0.bq ()).2) (
    kn (bT.L0.st (s2_2,t15,t16,(bK .i64 t17 (1:Int)))))) none) none) (
   kx (bT.L0.eM ()).1 (bT.L0.eM ()).2):=by kernel_rfl
theorem bT.eq{R:Type}(s1:(List eU))(s2:(List eU))(k:aZ→Option R):bT.A (s1,s2) k=
  aK ((jn (((List.length s1):Nat):Int) (((List.length s2):Nat):Int))) (
   k (bT.out false)) (
   aj (bT.L0.call (s2,s1,(((List.length s1):Nat):Int),(0:Int))) fun x2=>
   aK (x2.isLeft) (
    aj (x2.getLeft?) fun a3=>
    k (bT.out false)) (
    aj (x2.getRight?) fun b4=>
    k (bT.out true))):=by kernel_rfl
theorem bT.L0.ok:bT.L0.Ok:=by
 refine bT.L0.aG (fun(b,a,m,i)=>a.length - i.toNat) ?_
 rintro⟨b,a,m,i⟩ ⟨⟨hl,he⟩,hab,rfl,k,hk,rfl⟩
 have hl:a.length≤1000000000:=hl
 have hab:a.length=b.length:=hab
 have hk:k≤a.length:=hk
 by_cases h:k < a.length
 ·have h2:k < b.length:=by omega
  have n1:nth eg a k=a[k]:=cj (t:=eg) h
  have n2:nth eg b k=b[k]:=cj (t:=eg) h2
  have hd:(a.drop k=b.drop k)=(a[k]=b[k]∧a.drop (k+1)=b.drop (k+1)):=by rw[List.drop_eq_getElem_cons h,List.drop_eq_getElem_cons h2,List.cons.injEq]
  have step:∀ {R:Type} (kn:AS→Option R) (kx:Exit→AS→Option R),bT.L0.R (b,a,(a.length:Int),(k:Int)) kn kx=if a[k]=b[k] then kn (bT.L0.st (b,a,(a.length:Int),((k+1:Nat):Int))) else kx (bT.L0.bq ()).1 (bT.L0.bq ()).2:=by
   intro R kn kx
   rw[bT.L0.step,bw (by omega),bh (by omega) (by omega),bh (by omega) (by omega),Int.toNat_natCast,n1,n2,N.kk (by omega),cT.run (d:=(a[k],b[k])) (he _ (List.getElem_mem h))]
   simp only[ax,ab,cT.add,cT.F]
   by_cases hx:a[k]=b[k]
   ·rw[aQ hx,if_pos hx];rfl
   ·rw[aM hx,if_neg hx];rfl
  by_cases hx:a[k]=b[k]
  ·left
   refine⟨(b,a,(a.length:Int),((k+1:Nat):Int)),⟨⟨hl,he⟩,hab,rfl,k+1,by omega,rfl⟩,by simp only[Int.toNat_natCast];omega,?_,fun kn kx=> ?_⟩
   ·simp only[bT.L0.add,bT.L0.F,Int.toNat_natCast,hd,hx,true_and]
   ·rw[step,if_pos hx]
  ·right
   refine⟨bT.L0.bq (),?_,fun kn kx=> ?_⟩
   ·simp only[bT.L0.add,bT.L0.F,Int.toNat_natCast,hd,hx,false_and,if_false]
    rfl
   ·rw[step,if_neg hx]
 ·right
  obtain rfl:k=a.length:=by omega
  refine⟨bT.L0.eM (),?_,fun kn kx=> ?_⟩
  ·simp only[bT.L0.add,bT.L0.F,Int.toNat_natCast,List.drop_length]
   rw[hab,List.drop_length,if_pos rfl]
   rfl
  ·rw[bT.L0.step,bn (by omega),aw]
theorem bT.ok:bT.Ok:=by
 rintro⟨a,b⟩ hl
 have hl1:a.length≤1000000000:=hl.1
 rw[bT.eq]
 simp only[bT.add,bT.F]
 by_cases h:a.length=b.length
 ·rw[bP (by omega),aw,bT.L0.run (d:=(b,a,(a.length:Int),0)) ⟨hl,h,rfl,0,Nat.zero_le _,rfl⟩]
  simp only[ab,bT.L0.add,bT.L0.F,Int.toNat_zero,List.drop_zero]
  by_cases hx:a=b
  ·rw[if_pos hx,aQ hx];rfl
  ·rw[if_neg hx,aM hx];rfl
 ·rw[dw (by omega),aM (fun x=>h (by rw[x]))];rfl
noncomputable def bT.E:=Entry.ct [some (.slice eg),some (.slice eg),none] bT.st bT.aC bT.add bT.F bT.out
noncomputable def bT.call:bT.D→Option bT.X:=bH bT.E bT.st
theorem bT.run:bD bT.call bT.aC bT.add bT.F:=cO (cM [.d (.slice eg),.d (.slice eg)] fun _=>by kernel_rfl)
noncomputable def bT.sg:SG Tryz.prog:=⟨103,aV,bT.E,.fn 1 (by kernel_rfl) bT.ok (And.intro (.ct bT.L0.ok (by kernel_rfl)) trivial)⟩
abbrev bp.L0.D:=(List fM)×(List fM)×Int×Int
def bp.L0.st:bp.L0.D→AS:=fun(s2_2,t15,t16,t17)=>⟨([.undef,.d (.slice eV) s2_2,.fn 102 (.cons (.ptr (.fE 0) 0 [] 0) (.nil))]++a9 12 ([.d (.slice eV) t15,.d ti t16,.d ti t17]++a9 14 [])),[.obj 0 false (.fn 101 (.nil))],(List.replicate 32 [])⟩
abbrev bp.L0.Y0:=Unit
abbrev bp.L0.X0:=Unit
def bp.L0.bq:bp.L0.X0→Exit×AS:=fun x=>(.ret,⟨(a9 6 ([.d .bool false]++a9 25 [])),[.obj 0 false (.fn 101 (.nil))],(List.replicate 32 [])⟩)
abbrev bp.L0.Y1:=Unit
abbrev bp.L0.X1:=Unit
def bp.L0.eM:bp.L0.X1→Exit×AS:=fun x=>(.exit 0,⟨(a9 32 []),[.obj 0 false (.fn 101 (.nil))],(List.replicate 32 [])⟩)
abbrev bp.L0.X:=(bp.L0.X0)⊕(bp.L0.X1)
abbrev bp.L0.Y:=(bp.L0.Y0)⊕(bp.L0.Y1)
def bp.L0.out:bp.L0.X→Out (Exit×AS):=fun x=> .br x.isLeft (.get x.getLeft? fun a=> .ok (bp.L0.bq a)) (.get x.getRight? fun b=> .ok (bp.L0.eM b))
def bp.L0.add:bp.L0.D→bp.L0.Y→bp.L0.X:=fun(s2_2,t15,t16,t17) y=>match y with | .inl y=> .inl y | .inr z=> .inr (z)
abbrev bp.D:=(List fM)×(List fM)
def bp.st:bp.D→SA:=fun(s1,s2)=>([.d (.slice eV) s1,.d (.slice eV) s2,.fn 102 (.cons (.ptr (.fE 0) 0 [] 0) (.nil))],[.obj 0 false (.fn 101 (.nil))])
abbrev bp.Y:=Bool
abbrev bp.X:=Bool
def bp.out:bp.X→aZ:=fun x=>⟨.d .bool x,[.obj 0 false (.fn 101 (.nil))],[]⟩
def bp.add:bp.D→bp.Y→bp.X:=fun(s1,s2) y=>y
def bp.L0.aC:bp.L0.D→Prop:=fun(b,a,m,i)=>(a.length≤1000000000∧∀x∈a,x.2.1.1.length≤1000000000∧∀b∈x.2.1.1,b.1.length≤1000000000)∧a.length=b.length∧m=a.length∧∃k:Nat,k≤a.length∧i=k
def bp.L0.F:bp.L0.D→bp.L0.Y:=fun(b,a,m,i)=>if a.drop i.toNat=b.drop i.toNat then .inr () else .inl ()
def bp.aC:bp.D→Prop:=fun(a,b)=>a.length≤1000000000∧∀x∈a,x.2.1.1.length≤1000000000∧∀b∈x.2.1.1,b.1.length≤1000000000
def bp.F:bp.D→bp.Y:=fun(a,b)=>decide (a=b)
noncomputable def bp.G:dQ:=eR (P:=Tryz.prog) [da.sg]
noncomputable def bp.L0.E:=bN.ct bp.L0.st bp.L0.aC bp.L0.add bp.L0.F bp.L0.out
noncomputable def bp.L0.call:bp.L0.D→Option bp.L0.X:=dh bp.L0.E bp.L0.st
noncomputable def bp.an:eC:= {loops:=jJ [(4,{bm:=[1,2,15,16,17]})],outs:=jI [(4,{},{bm:=[6]})],fG:=kh [(4,bp.L0.E)]}
noncomputable def bp.A:= @cH Tryz.prog bp.G bp.an 0 Tryz.f104 _ bp.st
abbrev bp.Ok:=cI @bp.A bp.aC bp.add bp.F bp.out
noncomputable def bp.L0.R:= @bX Tryz.prog bp.G bp.an 0 Tryz.f104 0 _ bp.L0.st
abbrev bp.L0.Ok:=eA Tryz.prog bp.G bp.an 0 Tryz.f104 0 bp.L0.st bp.L0.aC bp.L0.add bp.L0.F bp.L0.out
theorem bp.L0.run:bD bp.L0.call bp.L0.aC bp.L0.add bp.L0.F:=eG (eE [.d (.slice eV),.d (.slice eV),.d ti,.d ti] fun _=>by kernel_rfl)
theorem bp.L0.aG:iZ @bp.L0.R bp.L0.st bp.L0.aC bp.L0.add bp.L0.F bp.L0.out bp.L0.Ok:=jm
theorem bp.L0.step{R:Type}(s2_2:(List fM))(t15:(List fM))(t16:Int)(t17:Int)(kn:AS→Option R)(kx:Exit→AS→Option R):bp.L0.R (s2_2,t15,t16,t17) kn kx=
  aK ((gb t17 t16)) (
   aK (eh t17 (((List.length t15):Nat):Int)) (
   aK (eh t17 (((List.length s2_2):Nat):Int)) (
   aj (da.call ((nth eV t15 (Int.toNat t17)),(nth eV s2_2 (Int.toNat t17)))) fun x1=>
   aK ((!x1)) (
    kx (bp.L0.bq ()).1 (bp.L0.bq ()).2) (
    kn (bp.L0.st (s2_2,t15,t16,(bK .i64 t17 (1:Int)))))) none) none) (
   kx (bp.L0.eM ()).1 (bp.L0.eM ()).2):=by kernel_rfl
theorem bp.eq{R:Type}(s1:(List fM))(s2:(List fM))(k:aZ→Option R):bp.A (s1,s2) k=
  aK ((jn (((List.length s1):Nat):Int) (((List.length s2):Nat):Int))) (
   k (bp.out false)) (
   aj (bp.L0.call (s2,s1,(((List.length s1):Nat):Int),(0:Int))) fun x2=>
   aK (x2.isLeft) (
    aj (x2.getLeft?) fun a3=>
    k (bp.out false)) (
    aj (x2.getRight?) fun b4=>
    k (bp.out true))):=by kernel_rfl
theorem bp.L0.ok:bp.L0.Ok:=by
 refine bp.L0.aG (fun(b,a,m,i)=>a.length - i.toNat) ?_
 rintro⟨b,a,m,i⟩ ⟨⟨hl,he⟩,hab,rfl,k,hk,rfl⟩
 have hl:a.length≤1000000000:=hl
 have hab:a.length=b.length:=hab
 have hk:k≤a.length:=hk
 by_cases h:k < a.length
 ·have h2:k < b.length:=by omega
  have n1:nth eV a k=a[k]:=cj (t:=eV) h
  have n2:nth eV b k=b[k]:=cj (t:=eV) h2
  have hd:(a.drop k=b.drop k)=(a[k]=b[k]∧a.drop (k+1)=b.drop (k+1)):=by rw[List.drop_eq_getElem_cons h,List.drop_eq_getElem_cons h2,List.cons.injEq]
  have step:∀ {R:Type} (kn:AS→Option R) (kx:Exit→AS→Option R),bp.L0.R (b,a,(a.length:Int),(k:Int)) kn kx=if a[k]=b[k] then kn (bp.L0.st (b,a,(a.length:Int),((k+1:Nat):Int))) else kx (bp.L0.bq ()).1 (bp.L0.bq ()).2:=by
   intro R kn kx
   rw[bp.L0.step,bw (by omega),bh (by omega) (by omega),bh (by omega) (by omega),Int.toNat_natCast,n1,n2,N.kk (by omega),da.run (d:=(a[k],b[k])) (he _ (List.getElem_mem h))]
   simp only[ax,ab,da.add,da.F]
   by_cases hx:a[k]=b[k]
   ·rw[aQ hx,if_pos hx];rfl
   ·rw[aM hx,if_neg hx];rfl
  by_cases hx:a[k]=b[k]
  ·left
   refine⟨(b,a,(a.length:Int),((k+1:Nat):Int)),⟨⟨hl,he⟩,hab,rfl,k+1,by omega,rfl⟩,by simp only[Int.toNat_natCast];omega,?_,fun kn kx=> ?_⟩
   ·simp only[bp.L0.add,bp.L0.F,Int.toNat_natCast,hd,hx,true_and]
   ·rw[step,if_pos hx]
  ·right
   refine⟨bp.L0.bq (),?_,fun kn kx=> ?_⟩
   ·simp only[bp.L0.add,bp.L0.F,Int.toNat_natCast,hd,hx,false_and,if_false]
    rfl
   ·rw[step,if_neg hx]
 ·right
  obtain rfl:k=a.length:=by omega
  refine⟨bp.L0.eM (),?_,fun kn kx=> ?_⟩
  ·simp only[bp.L0.add,bp.L0.F,Int.toNat_natCast,List.drop_length]
   rw[hab,List.drop_length,if_pos rfl]
   rfl
  ·rw[bp.L0.step,bn (by omega),aw]
theorem bp.ok:bp.Ok:=by
 rintro⟨a,b⟩ hl
 have hl1:a.length≤1000000000:=hl.1
 rw[bp.eq]
 simp only[bp.add,bp.F]
 by_cases h:a.length=b.length
 ·rw[bP (by omega),aw,bp.L0.run (d:=(b,a,(a.length:Int),0)) ⟨hl,h,rfl,0,Nat.zero_le _,rfl⟩]
  simp only[ab,bp.L0.add,bp.L0.F,Int.toNat_zero,List.drop_zero]
  by_cases hx:a=b
  ·rw[if_pos hx,aQ hx];rfl
  ·rw[if_neg hx,aM hx];rfl
 ·rw[dw (by omega),aM (fun x=>h (by rw[x]))];rfl
noncomputable def bp.E:=Entry.ct [some (.slice eV),some (.slice eV),none] bp.st bp.aC bp.add bp.F bp.out
noncomputable def bp.call:bp.D→Option bp.X:=bH bp.E bp.st
theorem bp.run:bD bp.call bp.aC bp.add bp.F:=cO (cM [.d (.slice eV),.d (.slice eV)] fun _=>by kernel_rfl)
noncomputable def bp.sg:SG Tryz.prog:=⟨104,aV,bp.E,.fn 1 (by kernel_rfl) bp.ok (And.intro (.ct bp.L0.ok (by kernel_rfl)) trivial)⟩
def oe(t:eH):Prop:=(t.1.length≤1000000000∧∀x∈t.1,x.2.1.2.1.length≤1000000000)∧t.2.1.length≤1000000000∧∀x∈t.2.1,x.2.1.1.length≤1000000000∧∀b∈x.2.1.1,b.1.length≤1000000000
abbrev dx.D:=eH×eH
def dx.st:dx.D→SA:=fun(a,b)=>([.d fD a,.d fD b],[])
abbrev dx.Y:=Bool
abbrev dx.X:=Bool
def dx.out:dx.X→aZ:=fun x=>⟨.d .bool x,[],[]⟩
def dx.add:dx.D→dx.Y→dx.X:=fun(a,b) y=>y
def dx.aC:dx.D→Prop:=fun(a,b)=>oe a
def dx.F:dx.D→dx.Y:=fun(a,b)=>decide (a=b)
noncomputable def dx.G:dQ:=eR (P:=Tryz.prog) [bT.sg,bp.sg]
noncomputable def dx.an:eC:= {}
noncomputable def dx.A:= @cH Tryz.prog dx.G dx.an 0 Tryz.f42 _ dx.st
abbrev dx.Ok:=cI @dx.A dx.aC dx.add dx.F dx.out
theorem dx.eq{R:Type}(a:eH)(b:eH)(k:aZ→Option R):dx.A (a,b) k=
  aK ((mM a.2.2.1 b.2.2.1)) (
   aj (bT.call (a.1,b.1)) fun x1=>
   aK (x1) (
    aj (bp.call (a.2.1,b.2.1)) fun x2=>
    k (dx.out x2)) (
    k (dx.out false))) (
   k (dx.out false)):=by kernel_rfl
theorem dx.ok:dx.Ok:=by
 rintro⟨⟨i1,o1,n1,u1⟩,⟨i2,o2,n2,u2⟩⟩ h
 have h:oe (i1,o1,n1,u1):=h
 rw[dx.eq,bT.run (d:=(i1,i2)) h.1,bp.run (d:=(o1,o2)) h.2]
 simp only[ab,bT.add,bT.F,bp.add,bp.F,dx.add,dx.F]
 by_cases e1:n1=n2
 ·by_cases e2:i1=i2
  ·by_cases e3:o1=o2
   ·rw[dm e1,aQ e2,aQ e3,aQ (by rw[e1,e2,e3])];rfl
   ·rw[dm e1,aQ e2,aM e3,aM (by rintro⟨⟩;exact e3 rfl)];rfl
  ·rw[dm e1,aM e2,aM (p:=(i1,o1,n1,u1)=(i2,o2,n2,u2)) (by rintro⟨⟩;exact e2 rfl)];rfl
 ·rw[eP e1,aM (p:=(i1,o1,n1,u1)=(i2,o2,n2,u2)) (by rintro⟨⟩;exact e1 rfl)];rfl
noncomputable def dx.E:=Entry.ct [some fD,some fD] dx.st dx.aC dx.add dx.F dx.out
noncomputable def dx.call:dx.D→Option dx.X:=bH dx.E dx.st
theorem dx.run:bD dx.call dx.aC dx.add dx.F:=cO (cM [.d fD,.d fD] fun _=>by kernel_rfl)
noncomputable def dx.sg:SG Tryz.prog:=⟨42,aV,dx.E,.fn 0 (by kernel_rfl) dx.ok trivial⟩
set_option synthInstance.maxSize 5000
def jP(x:eU):Bool:=decide (x.2.1.2.1.length≤14)
def jO(b:gf):Bool:=decide (b.1.length≤14)
def iA(o:fM):Bool:=decide (o.2.1.1.length≤6) && o.2.1.1.all jO
def oJ(t:eH):Bool:=decide (t.1.length≤66∧t.2.1.length≤66) && (t.1.all jP && t.2.1.all iA)
abbrev aa.L0.D:=eH×Int
def aa.L0.st:aa.L0.D→AS:=fun(t_2,i)=>⟨([.undef,.eB fD t_2,.undef,.d ti i]++a9 69 []),[],(List.replicate 73 [])⟩
abbrev aa.L0.Y0:=Unit
abbrev aa.L0.X0:=Unit
def aa.L0.bq:aa.L0.X0→Exit×AS:=fun x=>(.ret,⟨([.undef,.undef,.d .bool false]++a9 70 []),[],(List.replicate 73 [])⟩)
abbrev aa.L0.Y1:=Unit
abbrev aa.L0.X1:=eH
def aa.L0.eM:aa.L0.X1→Exit×AS:=fun x=>(.exit 0,⟨([.undef,.eB fD x]++a9 71 []),[],(List.replicate 73 [])⟩)
abbrev aa.L0.X:=(aa.L0.X0)⊕(aa.L0.X1)
abbrev aa.L0.Y:=(aa.L0.Y0)⊕(aa.L0.Y1)
def aa.L0.out:aa.L0.X→Out (Exit×AS):=fun x=> .br x.isLeft (.get x.getLeft? fun a=> .ok (aa.L0.bq a)) (.get x.getRight? fun b=> .ok (aa.L0.eM b))
def aa.L0.add:aa.L0.D→aa.L0.Y→aa.L0.X:=fun(t_2,i) y=>match y with | .inl y=> .inl y | .inr z=> .inr (t_2)
abbrev aa.L1.D:=eH×Int
def aa.L1.st:aa.L1.D→AS:=fun(t_3,i_2)=>⟨([.undef,.eB fD t_3,.undef,.undef,.d ti i_2]++a9 68 []),[],(List.replicate 73 [])⟩
abbrev aa.L1.Y0:=Unit
abbrev aa.L1.X0:=Unit
def aa.L1.bq:aa.L1.X0→Exit×AS:=fun x=>(.ret,⟨([.undef,.undef,.d .bool false]++a9 70 []),[],(List.replicate 73 [])⟩)
abbrev aa.L1.Y1:=Unit
abbrev aa.L1.X1:=Unit
def aa.L1.eM:aa.L1.X1→Exit×AS:=fun x=>(.exit 2,⟨(a9 73 []),[],(List.replicate 73 [])⟩)
abbrev aa.L1.X:=(aa.L1.X0)⊕(aa.L1.X1)
abbrev aa.L1.Y:=(aa.L1.Y0)⊕(aa.L1.Y1)
def aa.L1.out:aa.L1.X→Out (Exit×AS):=fun x=> .br x.isLeft (.get x.getLeft? fun a=> .ok (aa.L1.bq a)) (.get x.getRight? fun b=> .ok (aa.L1.eM b))
def aa.L1.add:aa.L1.D→aa.L1.Y→aa.L1.X:=fun(t_3,i_2) y=>match y with | .inl y=> .inl y | .inr z=> .inr (z)
abbrev aa.L2.D:=eH×Int×Int
def aa.L2.st:aa.L2.D→AS:=fun(t_4,i_3,kv)=>⟨([.undef,.eB fD t_4,.undef,.undef,.d ti i_3,.d ti kv]++a9 67 []),[],(List.replicate 73 [])⟩
abbrev aa.L2.Y0:=Unit
abbrev aa.L2.X0:=Unit
def aa.L2.bq:aa.L2.X0→Exit×AS:=fun x=>(.ret,⟨([.undef,.undef,.d .bool false]++a9 70 []),[],(List.replicate 73 [])⟩)
abbrev aa.L2.Y1:=Unit
abbrev aa.L2.X1:=eH×Int
def aa.L2.eM:aa.L2.X1→Exit×AS:=fun x=>(.exit 4,⟨([.undef,.eB fD x.1,.undef,.undef,.d ti x.2]++a9 68 []),[],(List.replicate 73 [])⟩)
abbrev aa.L2.X:=(aa.L2.X0)⊕(aa.L2.X1)
abbrev aa.L2.Y:=(aa.L2.Y0)⊕(aa.L2.Y1)
def aa.L2.out:aa.L2.X→Out (Exit×AS):=fun x=> .br x.isLeft (.get x.getLeft? fun a=> .ok (aa.L2.bq a)) (.get x.getRight? fun b=> .ok (aa.L2.eM b))
def aa.L2.add:aa.L2.D→aa.L2.Y→aa.L2.X:=fun(t_4,i_3,kv) y=>match y with | .inl y=> .inl y | .inr z=> .inr ((t_4,i_3))
abbrev aa.D:=eH
def aa.st:aa.D→SA:=fun t=>([.d fD t],[])
abbrev aa.Y:=Bool
abbrev aa.X:=Bool
def aa.out:aa.X→aZ:=fun x=>⟨.d .bool x,[],[]⟩
def aa.add:aa.D→aa.Y→aa.X:=fun t y=>y
def aa.L0.aC:aa.L0.D→Prop:=fun(t,i)=>t.1.length≤1000000000∧∃k:Nat,k≤t.1.length∧i=k
def aa.L0.F:aa.L0.D→aa.L0.Y:=fun(t,i)=>if(List.drop (Int.toNat i) t.1).all jP then .inr () else .inl ()
def aa.L2.aC:aa.L2.D→Prop:=fun(t,j,i)=>(nth eV t.2.1 (Int.toNat j)).2.1.1.length≤1000000000∧∃k:Nat,k≤(nth eV t.2.1 (Int.toNat j)).2.1.1.length∧i=k∧(0≤j∧j < (t.2.1.length:Int))
def aa.L2.F:aa.L2.D→aa.L2.Y:=fun(t,j,i)=>if(List.drop (Int.toNat i) (nth eV t.2.1 (Int.toNat j)).2.1.1).all jO then .inr () else .inl ()
def aa.L1.aC:aa.L1.D→Prop:=fun(t,i)=>t.2.1.length≤1000000000∧∃k:Nat,k≤t.2.1.length∧i=k
def aa.L1.F:aa.L1.D→aa.L1.Y:=fun(t,i)=>if(List.drop (Int.toNat i) t.2.1).all iA then .inr () else .inl ()
def aa.aC:aa.D→Prop:=fun _=>True
def aa.F:aa.D→aa.Y:=fun t=>oJ t
noncomputable def aa.G:dQ:=eR (P:=Tryz.prog) []
noncomputable def aa.L0.E:=bN.ct aa.L0.st aa.L0.aC aa.L0.add aa.L0.F aa.L0.out
noncomputable def aa.L0.call:aa.L0.D→Option aa.L0.X:=dh aa.L0.E aa.L0.st
noncomputable def aa.L1.E:=bN.ct aa.L1.st aa.L1.aC aa.L1.add aa.L1.F aa.L1.out
noncomputable def aa.L1.call:aa.L1.D→Option aa.L1.X:=dh aa.L1.E aa.L1.st
noncomputable def aa.L2.E:=bN.ct aa.L2.st aa.L2.aC aa.L2.add aa.L2.F aa.L2.out
noncomputable def aa.L2.call:aa.L2.D→Option aa.L2.X:=dh aa.L2.E aa.L2.st
noncomputable def aa.an:eC:= {loops:=jJ [(4,{bm:=[1,3]}),(9,{bm:=[1,4]}),(14,{bm:=[1,4,5]})],outs:=jI [(4,{bm:=[1]},{bm:=[2]}),(9,{},{bm:=[2]}),(14,{bm:=[1,4]},{bm:=[2]})],fG:=kh [(4,aa.L0.E),(9,aa.L1.E),(14,aa.L2.E)]}
noncomputable def aa.A:= @cH Tryz.prog aa.G aa.an 0 Tryz.f22 _ aa.st
abbrev aa.Ok:=cI @aa.A aa.aC aa.add aa.F aa.out
noncomputable def aa.L0.R:= @bX Tryz.prog aa.G aa.an 0 Tryz.f22 0 _ aa.L0.st
abbrev aa.L0.Ok:=eA Tryz.prog aa.G aa.an 0 Tryz.f22 0 aa.L0.st aa.L0.aC aa.L0.add aa.L0.F aa.L0.out
noncomputable def aa.L1.R:= @bX Tryz.prog aa.G aa.an 0 Tryz.f22 1 _ aa.L1.st
abbrev aa.L1.Ok:=eA Tryz.prog aa.G aa.an 0 Tryz.f22 1 aa.L1.st aa.L1.aC aa.L1.add aa.L1.F aa.L1.out
noncomputable def aa.L2.R:= @bX Tryz.prog aa.G aa.an 0 Tryz.f22 2 _ aa.L2.st
abbrev aa.L2.Ok:=eA Tryz.prog aa.G aa.an 0 Tryz.f22 2 aa.L2.st aa.L2.aC aa.L2.add aa.L2.F aa.L2.out
theorem aa.L0.run:bD aa.L0.call aa.L0.aC aa.L0.add aa.L0.F:=eG (eE [.d fD,.d ti] fun _=>by kernel_rfl)
theorem aa.L0.aG:iZ @aa.L0.R aa.L0.st aa.L0.aC aa.L0.add aa.L0.F aa.L0.out aa.L0.Ok:=jm
theorem aa.L0.step{R:Type}(t_2:eH)(i:Int)(kn:AS→Option R)(kx:Exit→AS→Option R):aa.L0.R (t_2,i) kn kx=
  aK ((gb i (((List.length t_2.1):Nat):Int))) (
   aK (eh i (((List.length t_2.1):Nat):Int)) (
   aK ((mN (((List.length (nth eg t_2.1 (Int.toNat i)).2.1.2.1):Nat):Int) (14:Int))) (
    kx (aa.L0.bq ()).1 (aa.L0.bq ()).2) (
    kn (aa.L0.st (t_2,(bK .i64 i (1:Int)))))) none) (
   kx (aa.L0.eM t_2).1 (aa.L0.eM t_2).2):=by kernel_rfl
theorem aa.L1.run:bD aa.L1.call aa.L1.aC aa.L1.add aa.L1.F:=eG (eE [.d fD,.d ti] fun _=>by kernel_rfl)
theorem aa.L1.aG:iZ @aa.L1.R aa.L1.st aa.L1.aC aa.L1.add aa.L1.F aa.L1.out aa.L1.Ok:=jm
theorem aa.L1.step{R:Type}(t_3:eH)(i_2:Int)(kn:AS→Option R)(kx:Exit→AS→Option R):aa.L1.R (t_3,i_2) kn kx=
  aK ((gb i_2 (((List.length t_3.2.1):Nat):Int))) (
   aK (eh i_2 (((List.length t_3.2.1):Nat):Int)) (
   aK ((mN (((List.length (nth eV t_3.2.1 (Int.toNat i_2)).2.1.1):Nat):Int) (6:Int))) (
    kx (aa.L1.bq ()).1 (aa.L1.bq ()).2) (
    aj (aa.L2.call (t_3,i_2,(0:Int))) fun x1=>
    aK (x1.isLeft) (
     aj (x1.getLeft?) fun a2=>
     kx (aa.L1.bq ()).1 (aa.L1.bq ()).2) (
     aj (x1.getRight?) fun b3=>
     kn (aa.L1.st (b3.1,(bK .i64 b3.2 (1:Int))))))) none) (
   kx (aa.L1.eM ()).1 (aa.L1.eM ()).2):=by kernel_rfl
theorem aa.L2.run:bD aa.L2.call aa.L2.aC aa.L2.add aa.L2.F:=eG (eE [.d fD,.d ti,.d ti] fun _=>by kernel_rfl)
theorem aa.L2.aG:iZ @aa.L2.R aa.L2.st aa.L2.aC aa.L2.add aa.L2.F aa.L2.out aa.L2.Ok:=jm
theorem aa.L2.step{R:Type}(t_4:eH)(i_3:Int)(kv:Int)(kn:AS→Option R)(kx:Exit→AS→Option R):aa.L2.R (t_4,i_3,kv) kn kx=
  aK (eh i_3 (((List.length t_4.2.1):Nat):Int)) (
  aK ((gb kv (((List.length (nth eV t_4.2.1 (Int.toNat i_3)).2.1.1):Nat):Int))) (
   aK (eh i_3 (((List.length t_4.2.1):Nat):Int)) (
   aK (eh kv (((List.length (nth eV t_4.2.1 (Int.toNat i_3)).2.1.1):Nat):Int)) (
   aK ((mN (((List.length (nth fg (nth eV t_4.2.1 (Int.toNat i_3)).2.1.1 (Int.toNat kv)).1):Nat):Int) (14:Int))) (
    kx (aa.L2.bq ()).1 (aa.L2.bq ()).2) (
    kn (aa.L2.st (t_4,i_3,(bK .i64 kv (1:Int)))))) none) none) (
   kx (aa.L2.eM (t_4,i_3)).1 (aa.L2.eM (t_4,i_3)).2)) none:=by kernel_rfl
theorem aa.eq{R:Type}(t:eH)(k:aZ→Option R):aa.A t k=
  aK ((mN (((List.length t.1):Nat):Int) (66:Int))) (
   k (aa.out false)) (
   aK ((mN (((List.length t.2.1):Nat):Int) (66:Int))) (
    k (aa.out false)) (
    aj (aa.L0.call (t,(0:Int))) fun x1=>
    aK (x1.isLeft) (
     aj (x1.getLeft?) fun a2=>
     k (aa.out false)) (
     aj (x1.getRight?) fun b3=>
     aj (aa.L1.call (b3,(0:Int))) fun x7=>
     aK (x7.isLeft) (
      aj (x7.getLeft?) fun a8=>
      k (aa.out false)) (
      aj (x7.getRight?) fun b9=>
      k (aa.out true))))):=by kernel_rfl
theorem aa.L0.ok:aa.L0.Ok:=by
 refine aa.L0.aG (fun(t,i)=>t.1.length - Int.toNat i) ?_
 rintro⟨t,i⟩ ⟨hlen,k,hk,rfl⟩
 have hlen:t.1.length≤1000000000:=hlen
 have hk:k≤t.1.length:=hk
 by_cases h:k < t.1.length
 ·have n1:nth eg t.1 k=t.1[k]:=cj (t:=eg) h
  have hd:(List.drop k t.1).all jP=(jP t.1[k] && (List.drop (k+1) t.1).all jP):=by rw[List.drop_eq_getElem_cons h,List.all_cons]
  have step:∀ {R:Type} (kn:AS→Option R) (kx:Exit→AS→Option R),aa.L0.R (t,(k:Int)) kn kx=aK (jP t.1[k]) (kn (aa.L0.st (t,((k+1:Nat):Int)))) (kx (aa.L0.bq ()).1 (aa.L0.bq ()).2):=by
   intro R kn kx
   rw[aa.L0.step,bw (by omega),bh (show(0:Int)≤(k:Int) by omega) (by omega),Int.toNat_natCast,n1]
   simp only[ax]
   rw[N.kk (by omega)]
   unfold jP
   by_cases hs:t.1[k].2.1.2.1.length≤14
   ·rw[dC (by omega),aQ hs];rfl
   ·rw[dL (by omega),aM hs];rfl
  cases hp:jP t.1[k]
  ·right
   refine⟨aa.L0.bq (),?_,fun kn kx=> ?_⟩
   ·simp only[aa.L0.add,aa.L0.F,Int.toNat_natCast,hd,hp,Bool.false_and,Bool.false_eq_true,if_false]
    rfl
   ·rw[step,hp,aw]
  ·left
   refine⟨(t,((k+1:Nat):Int)),⟨hlen,k+1,by omega,rfl⟩,by simp only[Int.toNat_natCast];omega,?_,fun kn kx=> ?_⟩
   ·simp only[aa.L0.add,aa.L0.F,Int.toNat_natCast,hd,hp,Bool.true_and]
   ·rw[step,hp,ax]
 ·right
  obtain rfl:k=t.1.length:=by omega
  refine⟨aa.L0.eM t,?_,fun kn kx=> ?_⟩
  ·simp only[aa.L0.add,aa.L0.F,Int.toNat_natCast,List.drop_length]
   rfl
  ·rw[aa.L0.step,bn (by omega),aw]
theorem aa.L2.ok:aa.L2.Ok:=by
 refine aa.L2.aG (fun(t,j,i)=>(nth eV t.2.1 (Int.toNat j)).2.1.1.length - Int.toNat i) ?_
 rintro⟨t,j,i⟩ ⟨hlen,k,hk,rfl,hj⟩
 have hlen:(nth eV t.2.1 (Int.toNat j)).2.1.1.length≤1000000000:=hlen
 have hk:k≤(nth eV t.2.1 (Int.toNat j)).2.1.1.length:=hk
 have hj:0≤j∧j < (t.2.1.length:Int):=hj
 by_cases h:k < (nth eV t.2.1 (Int.toNat j)).2.1.1.length
 ·have n1:nth fg (nth eV t.2.1 (Int.toNat j)).2.1.1 k=(nth eV t.2.1 (Int.toNat j)).2.1.1[k]:=cj (t:=fg) h
  have hd:(List.drop k (nth eV t.2.1 (Int.toNat j)).2.1.1).all jO=(jO (nth eV t.2.1 (Int.toNat j)).2.1.1[k] && (List.drop (k+1) (nth eV t.2.1 (Int.toNat j)).2.1.1).all jO):=by rw[List.drop_eq_getElem_cons h,List.all_cons]
  have step:∀ {R:Type} (kn:AS→Option R) (kx:Exit→AS→Option R),aa.L2.R (t,j,(k:Int)) kn kx=aK (jO (nth eV t.2.1 (Int.toNat j)).2.1.1[k]) (kn (aa.L2.st (t,j,((k+1:Nat):Int)))) (kx (aa.L2.bq ()).1 (aa.L2.bq ()).2):=by
   intro R kn kx
   rw[aa.L2.step,bh hj.1 hj.2,ax,bw (by omega),bh (show(0:Int)≤(k:Int) by omega) (by omega),Int.toNat_natCast,n1]
   simp only[ax]
   rw[N.kk (by omega)]
   unfold jO
   by_cases hs:(nth eV t.2.1 (Int.toNat j)).2.1.1[k].1.length≤14
   ·rw[dC (by omega),aQ hs];rfl
   ·rw[dL (by omega),aM hs];rfl
  cases hp:jO (nth eV t.2.1 (Int.toNat j)).2.1.1[k]
  ·right
   refine⟨aa.L2.bq (),?_,fun kn kx=> ?_⟩
   ·simp only[aa.L2.add,aa.L2.F,Int.toNat_natCast,hd,hp,Bool.false_and,Bool.false_eq_true,if_false]
    rfl
   ·rw[step,hp,aw]
  ·left
   refine⟨(t,j,((k+1:Nat):Int)),⟨hlen,k+1,by omega,rfl,hj⟩,by simp only[Int.toNat_natCast];omega,?_,fun kn kx=> ?_⟩
   ·simp only[aa.L2.add,aa.L2.F,Int.toNat_natCast,hd,hp,Bool.true_and]
   ·rw[step,hp,ax]
 ·right
  obtain rfl:k=(nth eV t.2.1 (Int.toNat j)).2.1.1.length:=by omega
  refine⟨aa.L2.eM (t,j),?_,fun kn kx=> ?_⟩
  ·simp only[aa.L2.add,aa.L2.F,Int.toNat_natCast,List.drop_length]
   rfl
  ·rw[aa.L2.step,bh hj.1 hj.2,ax,bn (by omega),aw]
theorem aa.L1.ok:aa.L1.Ok:=by
 refine aa.L1.aG (fun(t,i)=>t.2.1.length - Int.toNat i) ?_
 rintro⟨t,i⟩ ⟨hlen,k,hk,rfl⟩
 have hlen:t.2.1.length≤1000000000:=hlen
 have hk:k≤t.2.1.length:=hk
 by_cases h:k < t.2.1.length
 ·have n1:nth eV t.2.1 k=t.2.1[k]:=cj (t:=eV) h
  have hd:(List.drop k t.2.1).all iA=(iA t.2.1[k] && (List.drop (k+1) t.2.1).all iA):=by rw[List.drop_eq_getElem_cons h,List.all_cons]
  have step:∀ {R:Type} (kn:AS→Option R) (kx:Exit→AS→Option R),aa.L1.R (t,(k:Int)) kn kx=aK (iA t.2.1[k]) (kn (aa.L1.st (t,((k+1:Nat):Int)))) (kx (aa.L1.bq ()).1 (aa.L1.bq ()).2):=by
   intro R kn kx
   rw[aa.L1.step,bw (by omega),bh (show(0:Int)≤(k:Int) by omega) (by omega),Int.toNat_natCast,n1]
   simp only[ax]
   unfold iA
   by_cases hs:t.2.1[k].2.1.1.length≤6
   ·rw[dC (by omega),aQ hs,aw,aa.L2.run (d:=(t,(k:Int),0)) ⟨by rw[Int.toNat_natCast,n1];show t.2.1[k].2.1.1.length≤_;omega,0,Nat.zero_le _,rfl,by show(0:Int)≤(k:Int);omega,by show(k:Int) < (t.2.1.length:Int);omega⟩]
    simp only[ab,aa.L2.add,aa.L2.F,Int.toNat_natCast,n1,Int.toNat_zero,List.drop_zero,Bool.true_and]
    cases t.2.1[k].2.1.1.all jO
    ·rfl
    ·simp only[if_true,Sum.isLeft_inr,Sum.getRight?_inr,aw,ab,ax]
     rw[N.kk (by omega)]
   ·rw[dL (by omega),aM hs];rfl
  cases hp:iA t.2.1[k]
  ·right
   refine⟨aa.L1.bq (),?_,fun kn kx=> ?_⟩
   ·simp only[aa.L1.add,aa.L1.F,Int.toNat_natCast,hd,hp,Bool.false_and,Bool.false_eq_true,if_false]
    rfl
   ·rw[step,hp,aw]
  ·left
   refine⟨(t,((k+1:Nat):Int)),⟨hlen,k+1,by omega,rfl⟩,by simp only[Int.toNat_natCast];omega,?_,fun kn kx=> ?_⟩
   ·simp only[aa.L1.add,aa.L1.F,Int.toNat_natCast,hd,hp,Bool.true_and]
   ·rw[step,hp,ax]
 ·right
  obtain rfl:k=t.2.1.length:=by omega
  refine⟨aa.L1.eM (),?_,fun kn kx=> ?_⟩
  ·simp only[aa.L1.add,aa.L1.F,Int.toNat_natCast,List.drop_length]
   rfl
  ·rw[aa.L1.step,bn (by omega),aw]
theorem aa.ok:aa.Ok:=by
 intro t _
 rw[aa.eq]
 simp only[aa.add,aa.F,oJ]
 by_cases h1:t.1.length≤66
 ·by_cases h2:t.2.1.length≤66
  ·rw[dC (by omega),dC (by omega),aw,aw,aQ ⟨h1,h2⟩,aa.L0.run (d:=(t,0)) ⟨by show t.1.length≤_;omega,0,Nat.zero_le _,rfl⟩]
   simp only[ab,aa.L0.add,aa.L0.F,Int.toNat_zero,List.drop_zero,Bool.true_and]
   cases t.1.all jP
   ·rfl
   ·simp only[if_true,Sum.isLeft_inr,Sum.getRight?_inr,aw,ab,Bool.true_and]
    rw[aa.L1.run (d:=(t,0)) ⟨by show t.2.1.length≤_;omega,0,Nat.zero_le _,rfl⟩]
    simp only[ab,aa.L1.add,aa.L1.F,Int.toNat_zero,List.drop_zero]
    cases t.2.1.all iA <;> rfl
  ·rw[dC (by omega),dL (by omega),aM (fun x=>h2 x.2)];rfl
 ·rw[dL (by omega),aM (fun x=>h1 x.1)];rfl
noncomputable def aa.E:=Entry.ct [some fD] aa.st aa.aC aa.add aa.F aa.out
noncomputable def aa.call:aa.D→Option aa.X:=bH aa.E aa.st
theorem aa.run:bD aa.call aa.aC aa.add aa.F:=cO (cM [.d fD] fun _=>by kernel_rfl)
noncomputable def aa.sg:SG Tryz.prog:=⟨22,aV,aa.E,.fn 3 (by kernel_rfl) aa.ok (And.intro (.ct aa.L0.ok (by kernel_rfl)) (And.intro (.ct aa.L1.ok (by kernel_rfl)) (And.intro (.ct aa.L2.ok (by kernel_rfl)) trivial)))⟩
abbrev aT.L0.D:=lW×lW×Int
def aT.L0.st:aT.L0.D→AS:=fun(a_2,b_2,i)=>⟨([.undef,.undef,.eB ri a_2,.eB ri b_2,.undef,.d ti i]++a9 39 []),[],(List.replicate 45 [])⟩
abbrev aT.L0.Y0:=Unit
abbrev aT.L0.X0:=Unit
def aT.L0.bq:aT.L0.X0→Exit×AS:=fun x=>(.ret,⟨(a9 4 ([.d .bool false]++a9 40 [])),[],(List.replicate 45 [])⟩)
abbrev aT.L0.Y1:=Unit
abbrev aT.L0.X1:=Unit
def aT.L0.eM:aT.L0.X1→Exit×AS:=fun x=>(.exit 0,⟨(a9 45 []),[],(List.replicate 45 [])⟩)
abbrev aT.L0.X:=(aT.L0.X0)⊕(aT.L0.X1)
abbrev aT.L0.Y:=(aT.L0.Y0)⊕(aT.L0.Y1)
def aT.L0.out:aT.L0.X→Out (Exit×AS):=fun x=> .br x.isLeft (.get x.getLeft? fun a=> .ok (aT.L0.bq a)) (.get x.getRight? fun b=> .ok (aT.L0.eM b))
def aT.L0.add:aT.L0.D→aT.L0.Y→aT.L0.X:=fun(a_2,b_2,i) y=>match y with | .inl y=> .inl y | .inr z=> .inr (z)
abbrev aT.D:=lW×lW
def aT.st:aT.D→SA:=fun(a,b)=>([.d ri a,.d ri b],[])
abbrev aT.Y:=Bool
abbrev aT.X:=Bool
def aT.out:aT.X→aZ:=fun x=>⟨.d .bool x,[],[]⟩
def aT.add:aT.D→aT.Y→aT.X:=fun(a,b) y=>y
def aT.L0.aC:aT.L0.D→Prop:=fun(a,b,i)=>a.2.1.length≤1000000000∧a.2.1.length=b.2.1.length∧∃k:Nat,k≤a.2.1.length∧i=k
def aT.L0.F:aT.L0.D→aT.L0.Y:=fun(a,b,i)=>if List.drop (Int.toNat i) a.2.1=List.drop (Int.toNat i) b.2.1 then .inr () else .inl ()
def aT.aC:aT.D→Prop:=fun(a,b)=>a.2.1.length≤1000000000
def aT.F:aT.D→aT.Y:=fun(a,b)=>decide (a=b)
noncomputable def aT.G:dQ:=eR (P:=Tryz.prog) []
noncomputable def aT.L0.E:=bN.ct aT.L0.st aT.L0.aC aT.L0.add aT.L0.F aT.L0.out
noncomputable def aT.L0.call:aT.L0.D→Option aT.L0.X:=dh aT.L0.E aT.L0.st
noncomputable def aT.an:eC:= {loops:=jJ [(4,{bm:=[2,3,5]})],outs:=jI [(4,{},{bm:=[4]})],fG:=kh [(4,aT.L0.E)]}
noncomputable def aT.A:= @cH Tryz.prog aT.G aT.an 0 Tryz.f45 _ aT.st
abbrev aT.Ok:=cI @aT.A aT.aC aT.add aT.F aT.out
noncomputable def aT.L0.R:= @bX Tryz.prog aT.G aT.an 0 Tryz.f45 0 _ aT.L0.st
abbrev aT.L0.Ok:=eA Tryz.prog aT.G aT.an 0 Tryz.f45 0 aT.L0.st aT.L0.aC aT.L0.add aT.L0.F aT.L0.out
theorem aT.L0.run:bD aT.L0.call aT.L0.aC aT.L0.add aT.L0.F:=eG (eE [.d ri,.d ri,.d ti] fun _=>by kernel_rfl)
theorem aT.L0.aG:iZ @aT.L0.R aT.L0.st aT.L0.aC aT.L0.add aT.L0.F aT.L0.out aT.L0.Ok:=jm
theorem aT.L0.step{R:Type}(a_2:lW)(b_2:lW)(i:Int)(kn:AS→Option R)(kx:Exit→AS→Option R):aT.L0.R (a_2,b_2,i) kn kx=
  aK ((gb i (((List.length a_2.2.1):Nat):Int))) (
   aK (eh i (((List.length a_2.2.1):Nat):Int)) (
   aK (eh i (((List.length b_2.2.1):Nat):Int)) (
   aK ((!(Ty.beq iQ (nth iQ a_2.2.1 (Int.toNat i)) (nth iQ b_2.2.1 (Int.toNat i))))) (
    kx (aT.L0.bq ()).1 (aT.L0.bq ()).2) (
    kn (aT.L0.st (a_2,b_2,(bK .i64 i (1:Int)))))) none) none) (
   kx (aT.L0.eM ()).1 (aT.L0.eM ()).2):=by kernel_rfl
theorem aT.eq{R:Type}(a:lW)(b:lW)(k:aZ→Option R):aT.A (a,b) k=
  aK ((jn a.1 b.1)) (
   k (aT.out false)) (
   aK ((jn a.2.2.1 b.2.2.1)) (
    k (aT.out false)) (
    aK ((jn (((List.length a.2.1):Nat):Int) (((List.length b.2.1):Nat):Int))) (
     k (aT.out false)) (
     aj (aT.L0.call (a,b,(0:Int))) fun x1=>
     aK (x1.isLeft) (
      aj (x1.getLeft?) fun a2=>
      k (aT.out false)) (
      aj (x1.getRight?) fun b3=>
      k (aT.out true))))):=by kernel_rfl
theorem aT.L0.ok:aT.L0.Ok:=by
 refine aT.L0.aG (fun(a,b,i)=>a.2.1.length - Int.toNat i) ?_
 rintro⟨a,b,i⟩ ⟨hlen,hab,k,hk,rfl⟩
 have hlen:a.2.1.length≤1000000000:=hlen
 have hab:a.2.1.length=b.2.1.length:=hab
 have hk:k≤a.2.1.length:=hk
 by_cases h:k < a.2.1.length
 ·have h2:k < b.2.1.length:=by omega
  have n1:nth iQ a.2.1 k=a.2.1[k]:=cj (t:=iQ) h
  have n2:nth iQ b.2.1 k=b.2.1[k]:=cj (t:=iQ) h2
  have hd:(List.drop k a.2.1=List.drop k b.2.1)=(a.2.1[k]=b.2.1[k]∧List.drop (k+1) a.2.1=List.drop (k+1) b.2.1):=by rw[List.drop_eq_getElem_cons h,List.drop_eq_getElem_cons h2,List.cons.injEq]
  have step:∀ {R:Type} (kn:AS→Option R) (kx:Exit→AS→Option R),aT.L0.R (a,b,(k:Int)) kn kx=if a.2.1[k]=b.2.1[k] then kn (aT.L0.st (a,b,((k+1:Nat):Int))) else kx (aT.L0.bq ()).1 (aT.L0.bq ()).2:=by
   intro R kn kx
   rw[aT.L0.step,bw (by omega),bh (by omega) (by omega),bh (by omega) (by omega),Int.toNat_natCast,n1,n2]
   simp only[ax]
   rw[Am,N.kk (by omega)]
   by_cases hx:a.2.1[k]=b.2.1[k]
   ·rw[aQ hx,if_pos hx];rfl
   ·rw[aM hx,if_neg hx];rfl
  by_cases hx:a.2.1[k]=b.2.1[k]
  ·left
   refine⟨(a,b,((k+1:Nat):Int)),⟨hlen,hab,k+1,by omega,rfl⟩,by simp only[Int.toNat_natCast];omega,?_,fun kn kx=> ?_⟩
   ·simp only[aT.L0.add,aT.L0.F,Int.toNat_natCast,hd,hx,true_and]
   ·rw[step,if_pos hx]
  ·right
   refine⟨aT.L0.bq (),?_,fun kn kx=> ?_⟩
   ·simp only[aT.L0.add,aT.L0.F,Int.toNat_natCast,hd,hx,false_and,if_false]
    rfl
   ·rw[step,if_neg hx]
 ·right
  obtain rfl:k=a.2.1.length:=by omega
  refine⟨aT.L0.eM (),?_,fun kn kx=> ?_⟩
  ·simp only[aT.L0.add,aT.L0.F,Int.toNat_natCast,List.drop_length]
   rw[hab,List.drop_length,if_pos rfl]
   rfl
  ·rw[aT.L0.step,bn (by omega),aw]
theorem aT.ok:aT.Ok:=by
 rintro⟨⟨b1,s1,c1,u1⟩,⟨b2,s2,c2,u2⟩⟩ h
 have h:s1.length≤1000000000:=h
 rw[aT.eq]
 simp only[aT.add,aT.F]
 by_cases e1:b1=b2
 ·by_cases e2:c1=c2
  ·by_cases e3:s1.length=s2.length
   ·rw[bP e1,bP e2,bP (by omega),aT.L0.run (d:=((b1,s1,c1,u1),(b2,s2,c2,u2),0)) ⟨h,e3,0,Nat.zero_le _,rfl⟩]
    simp only[ab,aT.L0.add,aT.L0.F,Int.toNat_zero,List.drop_zero,aw]
    by_cases e4:s1=s2
    ·rw[if_pos e4,aQ (by rw[e1,e2,e4])];rfl
    ·rw[if_neg e4,aM (by rintro⟨⟩;exact e4 rfl)];rfl
   ·rw[bP e1,bP e2,dw (by omega),aM (by rintro⟨⟩;exact e3 rfl)];rfl
  ·rw[bP e1,dw e2,aM (by rintro⟨⟩;exact e2 rfl)];rfl
 ·rw[dw e1,aM (by rintro⟨⟩;exact e1 rfl)];rfl
noncomputable def aT.E:=Entry.ct [some ri,some ri] aT.st aT.aC aT.add aT.F aT.out
noncomputable def aT.call:aT.D→Option aT.X:=bH aT.E aT.st
theorem aT.run:bD aT.call aT.aC aT.add aT.F:=cO (cM [.d ri,.d ri] fun _=>by kernel_rfl)
noncomputable def aT.sg:SG Tryz.prog:=⟨45,aV,aT.E,.fn 1 (by kernel_rfl) aT.ok (And.intro (.ct aT.L0.ok (by kernel_rfl)) trivial)⟩
abbrev ao.L0.D:=Lk×Lk×Int
def ao.L0.st:ao.L0.D→AS:=fun(a_2,b_2,i)=>⟨([.undef,.undef,.eB j7 a_2,.eB j7 b_2,.undef,.d ti i]++a9 73 []),[],(List.replicate 79 [])⟩
abbrev ao.L0.Y0:=Unit
abbrev ao.L0.X0:=Unit
def ao.L0.bq:ao.L0.X0→Exit×AS:=fun x=>(.ret,⟨(a9 4 ([.d .bool false]++a9 74 [])),[],(List.replicate 79 [])⟩)
abbrev ao.L0.Y1:=Unit
abbrev ao.L0.X1:=Unit
def ao.L0.eM:ao.L0.X1→Exit×AS:=fun x=>(.exit 0,⟨(a9 79 []),[],(List.replicate 79 [])⟩)
abbrev ao.L0.X:=(ao.L0.X0)⊕(ao.L0.X1)
abbrev ao.L0.Y:=(ao.L0.Y0)⊕(ao.L0.Y1)
def ao.L0.out:ao.L0.X→Out (Exit×AS):=fun x=> .br x.isLeft (.get x.getLeft? fun a=> .ok (ao.L0.bq a)) (.get x.getRight? fun b=> .ok (ao.L0.eM b))
def ao.L0.add:ao.L0.D→ao.L0.Y→ao.L0.X:=fun(a_2,b_2,i) y=>match y with | .inl y=> .inl y | .inr z=> .inr (z)
abbrev ao.L1.D:=Lk×Lk×Int×Int×gf×gf
def ao.L1.st:ao.L1.D→AS:=fun(a_3,b_3,i_2,kv,n6,n7)=>⟨([.undef,.undef,.eB j7 a_3,.eB j7 b_3,.undef,.d ti i_2,.ptr (.new 6 0) 0 [] 0,.ptr (.new 7 0) 0 [] 0,.d ti kv]++a9 70 []),[],(bJ 6 ([[.obj 0 false (.d fg n6)],[.obj 0 false (.d fg n7)]]++bJ 71 []))⟩
abbrev ao.L1.Y0:=Unit
abbrev ao.L1.X0:=Unit
def ao.L1.bq:ao.L1.X0→Exit×AS:=fun x=>(.ret,⟨(a9 4 ([.d .bool false]++a9 74 [])),[],(List.replicate 79 [])⟩)
abbrev ao.L1.Y1:=Unit
abbrev ao.L1.X1:=Lk×Lk×Int
def ao.L1.eM:ao.L1.X1→Exit×AS:=fun x=>(.exit 2,⟨([.undef,.undef,.eB j7 x.1,.eB j7 x.2.1,.undef,.d ti x.2.2]++a9 73 []),[],(List.replicate 79 [])⟩)
abbrev ao.L1.X:=(ao.L1.X0)⊕(ao.L1.X1)
abbrev ao.L1.Y:=(ao.L1.Y0)⊕(ao.L1.Y1)
def ao.L1.out:ao.L1.X→Out (Exit×AS):=fun x=> .br x.isLeft (.get x.getLeft? fun a=> .ok (ao.L1.bq a)) (.get x.getRight? fun b=> .ok (ao.L1.eM b))
def ao.L1.add:ao.L1.D→ao.L1.Y→ao.L1.X:=fun(a_3,b_3,i_2,kv,n6,n7) y=>match y with | .inl y=> .inl y | .inr z=> .inr ((a_3,b_3,i_2))
abbrev ao.D:=Lk×Lk
def ao.st:ao.D→SA:=fun(a,b)=>([.d j7 a,.d j7 b],[])
abbrev ao.Y:=Bool
abbrev ao.X:=Bool
def ao.out:ao.X→aZ:=fun x=>⟨.d .bool x,[],[]⟩
def ao.add:ao.D→ao.Y→ao.X:=fun(a,b) y=>y
def ao.L1.aC:ao.L1.D→Prop:=fun(a,b,j,i,x,y)=>x.1.length≤1000000000∧x.1.length=y.1.length∧∃k:Nat,k≤x.1.length∧i=k
def ao.L1.F:ao.L1.D→ao.L1.Y:=fun(a,b,j,i,x,y)=>if List.drop (Int.toNat i) x.1=List.drop (Int.toNat i) y.1 then .inr () else .inl ()
def ao.L0.aC:ao.L0.D→Prop:=fun(a,b,i)=>a.1.length≤1000000000∧a.1.length=b.1.length∧(∀x∈a.1,x.1.length≤1000000000)∧∃k:Nat,k≤a.1.length∧i=k
def ao.L0.F:ao.L0.D→ao.L0.Y:=fun(a,b,i)=>if List.drop (Int.toNat i) a.1=List.drop (Int.toNat i) b.1 then .inr () else .inl ()
def ao.aC:ao.D→Prop:=fun(a,b)=>a.1.length≤1000000000∧∀x∈a.1,x.1.length≤1000000000
def ao.F:ao.D→ao.Y:=fun(a,b)=>decide (a.1=b.1)
noncomputable def ao.G:dQ:=eR (P:=Tryz.prog) []
noncomputable def ao.L0.E:=bN.ct ao.L0.st ao.L0.aC ao.L0.add ao.L0.F ao.L0.out
noncomputable def ao.L0.call:ao.L0.D→Option ao.L0.X:=dh ao.L0.E ao.L0.st
noncomputable def ao.L1.E:=bN.ct ao.L1.st ao.L1.aC ao.L1.add ao.L1.F ao.L1.out
noncomputable def ao.L1.call:ao.L1.D→Option ao.L1.X:=dh ao.L1.E ao.L1.st
noncomputable def ao.an:eC:= {loops:=jJ [(4,{bm:=[2,3,5]}),(11,{bm:=[2,3,5,6,7,8],sites:=[6,7]})],outs:=jI [(4,{},{bm:=[4]}),(11,{bm:=[2,3,5]},{bm:=[4]})],fG:=kh [(4,ao.L0.E),(11,ao.L1.E)]}
noncomputable def ao.A:= @cH Tryz.prog ao.G ao.an 0 Tryz.f94 _ ao.st
abbrev ao.Ok:=cI @ao.A ao.aC ao.add ao.F ao.out
noncomputable def ao.L0.R:= @bX Tryz.prog ao.G ao.an 0 Tryz.f94 0 _ ao.L0.st
abbrev ao.L0.Ok:=eA Tryz.prog ao.G ao.an 0 Tryz.f94 0 ao.L0.st ao.L0.aC ao.L0.add ao.L0.F ao.L0.out
noncomputable def ao.L1.R:= @bX Tryz.prog ao.G ao.an 0 Tryz.f94 1 _ ao.L1.st
abbrev ao.L1.Ok:=eA Tryz.prog ao.G ao.an 0 Tryz.f94 1 ao.L1.st ao.L1.aC ao.L1.add ao.L1.F ao.L1.out
theorem ao.L0.run:bD ao.L0.call ao.L0.aC ao.L0.add ao.L0.F:=eG (eE [.d j7,.d j7,.d ti] fun _=>by kernel_rfl)
theorem ao.L0.aG:iZ @ao.L0.R ao.L0.st ao.L0.aC ao.L0.add ao.L0.F ao.L0.out ao.L0.Ok:=jm
theorem ao.L0.step{R:Type}(a_2:Lk)(b_2:Lk)(i:Int)(kn:AS→Option R)(kx:Exit→AS→Option R):ao.L0.R (a_2,b_2,i) kn kx=
  aK ((gb i (((List.length a_2.1):Nat):Int))) (
   aK (eh i (((List.length a_2.1):Nat):Int)) (
   aK (eh i (((List.length b_2.1):Nat):Int)) (
   aK ((jn (nth fg a_2.1 (Int.toNat i)).2.1 (nth fg b_2.1 (Int.toNat i)).2.1)) (
    kx (ao.L0.bq ()).1 (ao.L0.bq ()).2) (
    aK ((jn (nth fg a_2.1 (Int.toNat i)).2.2.1 (nth fg b_2.1 (Int.toNat i)).2.2.1)) (
     kx (ao.L0.bq ()).1 (ao.L0.bq ()).2) (
     aK ((jn (nth fg a_2.1 (Int.toNat i)).2.2.2.1 (nth fg b_2.1 (Int.toNat i)).2.2.2.1)) (
      kx (ao.L0.bq ()).1 (ao.L0.bq ()).2) (
      aK ((jn (((List.length (nth fg a_2.1 (Int.toNat i)).1):Nat):Int) (((List.length (nth fg b_2.1 (Int.toNat i)).1):Nat):Int))) (
       kx (ao.L0.bq ()).1 (ao.L0.bq ()).2) (
       aj (ao.L1.call (a_2,b_2,i,(0:Int),(nth fg a_2.1 (Int.toNat i)),(nth fg b_2.1 (Int.toNat i)))) fun x1=>
       aK (x1.isLeft) (
        aj (x1.getLeft?) fun a2=>
        kx (ao.L0.bq ()).1 (ao.L0.bq ()).2) (
        aj (x1.getRight?) fun b3=>
        kn (ao.L0.st (b3.1,b3.2.1,(bK .i64 b3.2.2 (1:Int)))))))))) none) none) (
   kx (ao.L0.eM ()).1 (ao.L0.eM ()).2):=by kernel_rfl
theorem ao.L1.run:bD ao.L1.call ao.L1.aC ao.L1.add ao.L1.F:=eG (eE [.d j7,.d j7,.d ti,.d ti,.d fg,.d fg] fun _=>by kernel_rfl)
theorem ao.L1.aG:iZ @ao.L1.R ao.L1.st ao.L1.aC ao.L1.add ao.L1.F ao.L1.out ao.L1.Ok:=jm
theorem ao.L1.step{R:Type}(a_3:Lk)(b_3:Lk)(i_2:Int)(kv:Int)(n6:gf)(n7:gf)(kn:AS→Option R)(kx:Exit→AS→Option R):ao.L1.R (a_3,b_3,i_2,kv,n6,n7) kn kx=
  aK ((gb kv (((List.length n6.1):Nat):Int))) (
   aK (eh kv (((List.length n6.1):Nat):Int)) (
   aK (eh kv (((List.length n7.1):Nat):Int)) (
   aK ((jn (nth tu n6.1 (Int.toNat kv)) (nth tu n7.1 (Int.toNat kv)))) (
    kx (ao.L1.bq ()).1 (ao.L1.bq ()).2) (
    kn (ao.L1.st (a_3,b_3,i_2,(bK .i64 kv (1:Int)),n6,n7)))) none) none) (
   kx (ao.L1.eM (a_3,b_3,i_2)).1 (ao.L1.eM (a_3,b_3,i_2)).2):=by kernel_rfl
theorem ao.eq{R:Type}(a:Lk)(b:Lk)(k:aZ→Option R):ao.A (a,b) k=
  aK ((jn (((List.length a.1):Nat):Int) (((List.length b.1):Nat):Int))) (
   k (ao.out false)) (
   aj (ao.L0.call (a,b,(0:Int))) fun x4=>
   aK (x4.isLeft) (
    aj (x4.getLeft?) fun a5=>
    k (ao.out false)) (
    aj (x4.getRight?) fun b6=>
    k (ao.out true))):=by kernel_rfl
theorem ao.L1.ok:ao.L1.Ok:=by
 refine ao.L1.aG (fun(a,b,j,i,x,y)=>x.1.length - Int.toNat i) ?_
 rintro⟨a,b,j,i,x,y⟩ ⟨hlen,hab,k,hk,rfl⟩
 have hlen:x.1.length≤1000000000:=hlen
 have hab:x.1.length=y.1.length:=hab
 have hk:k≤x.1.length:=hk
 by_cases h:k < x.1.length
 ·have h2:k < y.1.length:=by omega
  have n1:nth tu x.1 k=x.1[k]:=cj (t:=tu) h
  have n2:nth tu y.1 k=y.1[k]:=cj (t:=tu) h2
  have hd:(List.drop k x.1=List.drop k y.1)=(x.1[k]=y.1[k]∧List.drop (k+1) x.1=List.drop (k+1) y.1):=by rw[List.drop_eq_getElem_cons h,List.drop_eq_getElem_cons h2,List.cons.injEq]
  have step:∀ {R:Type} (kn:AS→Option R) (kx:Exit→AS→Option R),ao.L1.R (a,b,j,(k:Int),x,y) kn kx=if x.1[k]=y.1[k] then kn (ao.L1.st (a,b,j,((k+1:Nat):Int),x,y)) else kx (ao.L1.bq ()).1 (ao.L1.bq ()).2:=by
   intro R kn kx
   rw[ao.L1.step,bw (by omega),bh (by omega) (by omega),bh (by omega) (by omega),Int.toNat_natCast,n1,n2]
   simp only[ax]
   rw[N.kk (by omega)]
   by_cases hx:x.1[k]=y.1[k]
   ·rw[bP hx,if_pos hx];rfl
   ·rw[dw hx,if_neg hx];rfl
  by_cases hx:x.1[k]=y.1[k]
  ·left
   refine⟨(a,b,j,((k+1:Nat):Int),x,y),⟨hlen,hab,k+1,by omega,rfl⟩,by simp only[Int.toNat_natCast];omega,?_,fun kn kx=> ?_⟩
   ·simp only[ao.L1.add,ao.L1.F,Int.toNat_natCast,hd,hx,true_and]
   ·rw[step,if_pos hx]
  ·right
   refine⟨ao.L1.bq (),?_,fun kn kx=> ?_⟩
   ·simp only[ao.L1.add,ao.L1.F,Int.toNat_natCast,hd,hx,false_and,if_false]
    rfl
   ·rw[step,if_neg hx]
 ·right
  obtain rfl:k=x.1.length:=by omega
  refine⟨ao.L1.eM (a,b,j),?_,fun kn kx=> ?_⟩
  ·simp only[ao.L1.add,ao.L1.F,Int.toNat_natCast,List.drop_length]
   rw[hab,List.drop_length,if_pos rfl]
   rfl
  ·rw[ao.L1.step,bn (by omega),aw]
theorem ao.L0.ok:ao.L0.Ok:=by
 refine ao.L0.aG (fun(a,b,i)=>a.1.length - Int.toNat i) ?_
 rintro⟨a,b,i⟩ ⟨hlen,hab,hs,k,hk,rfl⟩
 have hlen:a.1.length≤1000000000:=hlen
 have hab:a.1.length=b.1.length:=hab
 have hk:k≤a.1.length:=hk
 have hs:∀x∈a.1,x.1.length≤1000000000:=hs
 by_cases h:k < a.1.length
 ·have h2:k < b.1.length:=by omega
  have n1:nth fg a.1 k=a.1[k]:=cj (t:=fg) h
  have n2:nth fg b.1 k=b.1[k]:=cj (t:=fg) h2
  have hd:(List.drop k a.1=List.drop k b.1)=(a.1[k]=b.1[k]∧List.drop (k+1) a.1=List.drop (k+1) b.1):=by rw[List.drop_eq_getElem_cons h,List.drop_eq_getElem_cons h2,List.cons.injEq]
  have step:∀ {R:Type} (kn:AS→Option R) (kx:Exit→AS→Option R),ao.L0.R (a,b,(k:Int)) kn kx=if a.1[k]=b.1[k] then kn (ao.L0.st (a,b,((k+1:Nat):Int))) else kx (ao.L0.bq ()).1 (ao.L0.bq ()).2:=by
   intro R kn kx
   rw[ao.L0.step,bw (by omega),bh (by omega) (by omega),bh (by omega) (by omega),Int.toNat_natCast,n1,n2]
   simp only[ax]
   have hsk:=hs _ (List.getElem_mem h)
   obtain⟨⟨k1,a1,d1,s1,u1⟩,e1⟩:∃x,a.1[k]=x:=⟨_,rfl⟩
   obtain⟨⟨k2,a2,d2,s2,u2⟩,e2⟩:∃x,b.1[k]=x:=⟨_,rfl⟩
   rw[e1]at hsk ⊢
   rw[e2]
   dsimp only
   have hsk:k1.length≤1000000000:=hsk
   by_cases q2:a1=a2
   ·by_cases q3:d1=d2
    ·by_cases q4:s1=s2
     ·by_cases q1:k1.length=k2.length
      ·rw[bP q2,bP q3,bP q4,bP (by omega),ao.L1.run (d:=(a,b,(k:Int),0,(k1,a1,d1,s1,u1),(k2,a2,d2,s2,u2))) ⟨hsk,q1,0,Nat.zero_le _,rfl⟩]
       simp only[aw,ab,ao.L1.add,ao.L1.F,Int.toNat_zero,List.drop_zero]
       by_cases q5:k1=k2
       ·rw[if_pos q5,if_pos (by rw[q5,q2,q3,q4])]
        simp only[Sum.isLeft_inr,Sum.getRight?_inr,aw,ab]
        rw[N.kk (by omega)]
       ·rw[if_neg q5,if_neg (by rintro⟨⟩;exact q5 rfl)]
        rfl
      ·rw[bP q2,bP q3,bP q4,dw (by omega),if_neg (by rintro⟨⟩;exact q1 rfl)];rfl
     ·rw[bP q2,bP q3,dw q4,if_neg (by rintro⟨⟩;exact q4 rfl)];rfl
    ·rw[bP q2,dw q3,if_neg (by rintro⟨⟩;exact q3 rfl)];rfl
   ·rw[dw q2,if_neg (by rintro⟨⟩;exact q2 rfl)];rfl
  by_cases hx:a.1[k]=b.1[k]
  ·left
   refine⟨(a,b,((k+1:Nat):Int)),⟨hlen,hab,hs,k+1,by omega,rfl⟩,by simp only[Int.toNat_natCast];omega,?_,fun kn kx=> ?_⟩
   ·simp only[ao.L0.add,ao.L0.F,Int.toNat_natCast,hd,hx,true_and]
   ·rw[step,if_pos hx]
  ·right
   refine⟨ao.L0.bq (),?_,fun kn kx=> ?_⟩
   ·simp only[ao.L0.add,ao.L0.F,Int.toNat_natCast,hd,hx,false_and,if_false]
    rfl
   ·rw[step,if_neg hx]
 ·right
  obtain rfl:k=a.1.length:=by omega
  refine⟨ao.L0.eM (),?_,fun kn kx=> ?_⟩
  ·simp only[ao.L0.add,ao.L0.F,Int.toNat_natCast,List.drop_length]
   rw[hab,List.drop_length,if_pos rfl]
   rfl
  ·rw[ao.L0.step,bn (by omega),aw]
theorem ao.ok:ao.Ok:=by
 rintro⟨a,b⟩ ⟨h,hs⟩
 have h:a.1.length≤1000000000:=h
 rw[ao.eq]
 simp only[ao.add,ao.F]
 by_cases e3:a.1.length=b.1.length
 ·rw[bP (by omega),ao.L0.run (d:=(a,b,0)) ⟨h,e3,hs,0,Nat.zero_le _,rfl⟩]
  simp only[ab,ao.L0.add,ao.L0.F,Int.toNat_zero,List.drop_zero,aw]
  by_cases e4:a.1=b.1
  ·rw[if_pos e4,aQ e4];rfl
  ·rw[if_neg e4,aM e4];rfl
 ·rw[dw (by omega),aM (fun x=>e3 (by rw[x]))];rfl
noncomputable def ao.E:=Entry.ct [some j7,some j7] ao.st ao.aC ao.add ao.F ao.out
noncomputable def ao.call:ao.D→Option ao.X:=bH ao.E ao.st
theorem ao.run:bD ao.call ao.aC ao.add ao.F:=cO (cM [.d j7,.d j7] fun _=>by kernel_rfl)
noncomputable def ao.sg:SG Tryz.prog:=⟨94,aV,ao.E,.fn 2 (by kernel_rfl) ao.ok (And.intro (.ct ao.L0.ok (by kernel_rfl)) (And.intro (.ct ao.L1.ok (by kernel_rfl)) trivial))⟩
abbrev ah.L0.D:=eH×eH×Int
def ah.L0.st:ah.L0.D→AS:=fun(a_2,b_2,i)=>⟨([.undef,.undef,.eB fD a_2,.eB fD b_2,.undef,.d ti i]++a9 96 []),[],(List.replicate 102 [])⟩
abbrev ah.L0.Y0:=Unit
abbrev ah.L0.X0:=Unit
def ah.L0.bq:ah.L0.X0→Exit×AS:=fun x=>(.ret,⟨(a9 4 ([.d .bool false]++a9 97 [])),[],(List.replicate 102 [])⟩)
abbrev ah.L0.Y1:=Unit
abbrev ah.L0.X1:=eH×eH
def ah.L0.eM:ah.L0.X1→Exit×AS:=fun x=>(.exit 0,⟨([.undef,.undef,.eB fD x.1,.eB fD x.2]++a9 98 []),[],(List.replicate 102 [])⟩)
abbrev ah.L0.X:=(ah.L0.X0)⊕(ah.L0.X1)
abbrev ah.L0.Y:=(ah.L0.Y0)⊕(ah.L0.Y1)
def ah.L0.out:ah.L0.X→Out (Exit×AS):=fun x=> .br x.isLeft (.get x.getLeft? fun a=> .ok (ah.L0.bq a)) (.get x.getRight? fun b=> .ok (ah.L0.eM b))
def ah.L0.add:ah.L0.D→ah.L0.Y→ah.L0.X:=fun(a_2,b_2,i) y=>match y with | .inl y=> .inl y | .inr z=> .inr ((a_2,b_2))
abbrev ah.L1.D:=eH×eH×Int
def ah.L1.st:ah.L1.D→AS:=fun(a_3,b_3,i_2)=>⟨([.undef,.undef,.eB fD a_3,.eB fD b_3,.undef,.undef,.d ti i_2]++a9 95 []),[],(List.replicate 102 [])⟩
abbrev ah.L1.Y0:=Unit
abbrev ah.L1.X0:=Unit
def ah.L1.bq:ah.L1.X0→Exit×AS:=fun x=>(.ret,⟨(a9 4 ([.d .bool false]++a9 97 [])),[],(List.replicate 102 [])⟩)
abbrev ah.L1.Y1:=Unit
abbrev ah.L1.X1:=Unit
def ah.L1.eM:ah.L1.X1→Exit×AS:=fun x=>(.exit 2,⟨(a9 102 []),[],(List.replicate 102 [])⟩)
abbrev ah.L1.X:=(ah.L1.X0)⊕(ah.L1.X1)
abbrev ah.L1.Y:=(ah.L1.Y0)⊕(ah.L1.Y1)
def ah.L1.out:ah.L1.X→Out (Exit×AS):=fun x=> .br x.isLeft (.get x.getLeft? fun a=> .ok (ah.L1.bq a)) (.get x.getRight? fun b=> .ok (ah.L1.eM b))
def ah.L1.add:ah.L1.D→ah.L1.Y→ah.L1.X:=fun(a_3,b_3,i_2) y=>match y with | .inl y=> .inl y | .inr z=> .inr (z)
abbrev ah.D:=eH×eH
def ah.st:ah.D→SA:=fun(a,b)=>([.d fD a,.d fD b],[])
abbrev ah.Y:=Bool
abbrev ah.X:=Bool
def ah.out:ah.X→aZ:=fun x=>⟨.d .bool x,[],[]⟩
def ah.add:ah.D→ah.Y→ah.X:=fun(a,b) y=>y
def ah.L0.aC:ah.L0.D→Prop:=fun(a,b,i)=>a.1.length≤1000000000∧a.1.length=b.1.length∧(∀x∈a.1,x.2.1.2.1.length≤1000000000)∧∃k:Nat,k≤a.1.length∧i=k
def ah.L0.F:ah.L0.D→ah.L0.Y:=fun(a,b,i)=>if List.drop (Int.toNat i) a.1=List.drop (Int.toNat i) b.1 then .inr () else .inl ()
def ah.L1.aC:ah.L1.D→Prop:=fun(a,b,i)=>a.2.1.length≤1000000000∧a.2.1.length=b.2.1.length∧(∀x∈a.2.1,x.2.1.1.length≤1000000000∧∀b∈x.2.1.1,b.1.length≤1000000000)∧∃k:Nat,k≤a.2.1.length∧i=k
def ah.L1.F:ah.L1.D→ah.L1.Y:=fun(a,b,i)=>if List.drop (Int.toNat i) a.2.1=List.drop (Int.toNat i) b.2.1 then .inr () else .inl ()
def ah.aC:ah.D→Prop:=fun(a,b)=>oe a
def ah.F:ah.D→ah.Y:=fun(a,b)=>decide (a=b)
noncomputable def ah.G:dQ:=eR (P:=Tryz.prog) [aT.sg,ao.sg]
noncomputable def ah.L0.E:=bN.ct ah.L0.st ah.L0.aC ah.L0.add ah.L0.F ah.L0.out
noncomputable def ah.L0.call:ah.L0.D→Option ah.L0.X:=dh ah.L0.E ah.L0.st
noncomputable def ah.L1.E:=bN.ct ah.L1.st ah.L1.aC ah.L1.add ah.L1.F ah.L1.out
noncomputable def ah.L1.call:ah.L1.D→Option ah.L1.X:=dh ah.L1.E ah.L1.st
noncomputable def ah.an:eC:= {loops:=jJ [(4,{bm:=[2,3,5]}),(9,{bm:=[2,3,6]})],outs:=jI [(4,{bm:=[2,3]},{bm:=[4]}),(9,{},{bm:=[4]})],fG:=kh [(4,ah.L0.E),(9,ah.L1.E)]}
noncomputable def ah.A:= @cH Tryz.prog ah.G ah.an 0 Tryz.f28 _ ah.st
abbrev ah.Ok:=cI @ah.A ah.aC ah.add ah.F ah.out
noncomputable def ah.L0.R:= @bX Tryz.prog ah.G ah.an 0 Tryz.f28 0 _ ah.L0.st
abbrev ah.L0.Ok:=eA Tryz.prog ah.G ah.an 0 Tryz.f28 0 ah.L0.st ah.L0.aC ah.L0.add ah.L0.F ah.L0.out
noncomputable def ah.L1.R:= @bX Tryz.prog ah.G ah.an 0 Tryz.f28 1 _ ah.L1.st
abbrev ah.L1.Ok:=eA Tryz.prog ah.G ah.an 0 Tryz.f28 1 ah.L1.st ah.L1.aC ah.L1.add ah.L1.F ah.L1.out
theorem ah.L0.run:bD ah.L0.call ah.L0.aC ah.L0.add ah.L0.F:=eG (eE [.d fD,.d fD,.d ti] fun _=>by kernel_rfl)
theorem ah.L0.aG:iZ @ah.L0.R ah.L0.st ah.L0.aC ah.L0.add ah.L0.F ah.L0.out ah.L0.Ok:=jm
theorem ah.L0.step{R:Type}(a_2:eH)(b_2:eH)(i:Int)(kn:AS→Option R)(kx:Exit→AS→Option R):ah.L0.R (a_2,b_2,i) kn kx=
  aK ((gb i (((List.length a_2.1):Nat):Int))) (
   aK (eh i (((List.length a_2.1):Nat):Int)) (
   aK (eh i (((List.length b_2.1):Nat):Int)) (
   aK ((!(Ty.beq kA (nth eg a_2.1 (Int.toNat i)).1 (nth eg b_2.1 (Int.toNat i)).1))) (
    kx (ah.L0.bq ()).1 (ah.L0.bq ()).2) (
    aK (eh i (((List.length a_2.1):Nat):Int)) (
    aK (eh i (((List.length b_2.1):Nat):Int)) (
    aj (aT.call ((nth eg a_2.1 (Int.toNat i)).2.1,(nth eg b_2.1 (Int.toNat i)).2.1)) fun x1=>
    aK ((!x1)) (
     kx (ah.L0.bq ()).1 (ah.L0.bq ()).2) (
     kn (ah.L0.st (a_2,b_2,(bK .i64 i (1:Int)))))) none) none)) none) none) (
   kx (ah.L0.eM (a_2,b_2)).1 (ah.L0.eM (a_2,b_2)).2):=by kernel_rfl
theorem ah.L1.run:bD ah.L1.call ah.L1.aC ah.L1.add ah.L1.F:=eG (eE [.d fD,.d fD,.d ti] fun _=>by kernel_rfl)
theorem ah.L1.aG:iZ @ah.L1.R ah.L1.st ah.L1.aC ah.L1.add ah.L1.F ah.L1.out ah.L1.Ok:=jm
theorem ah.L1.step{R:Type}(a_3:eH)(b_3:eH)(i_2:Int)(kn:AS→Option R)(kx:Exit→AS→Option R):ah.L1.R (a_3,b_3,i_2) kn kx=
  aK ((gb i_2 (((List.length a_3.2.1):Nat):Int))) (
   aK (eh i_2 (((List.length a_3.2.1):Nat):Int)) (
   aK (eh i_2 (((List.length b_3.2.1):Nat):Int)) (
   aK ((jn (nth eV a_3.2.1 (Int.toNat i_2)).1 (nth eV b_3.2.1 (Int.toNat i_2)).1)) (
    kx (ah.L1.bq ()).1 (ah.L1.bq ()).2) (
    aK (eh i_2 (((List.length a_3.2.1):Nat):Int)) (
    aK (eh i_2 (((List.length b_3.2.1):Nat):Int)) (
    aj (ao.call ((nth eV a_3.2.1 (Int.toNat i_2)).2.1,(nth eV b_3.2.1 (Int.toNat i_2)).2.1)) fun x1=>
    aK ((!x1)) (
     kx (ah.L1.bq ()).1 (ah.L1.bq ()).2) (
     kn (ah.L1.st (a_3,b_3,(bK .i64 i_2 (1:Int)))))) none) none)) none) none) (
   kx (ah.L1.eM ()).1 (ah.L1.eM ()).2):=by kernel_rfl
theorem ah.eq{R:Type}(a:eH)(b:eH)(k:aZ→Option R):ah.A (a,b) k=
  aK ((jn a.2.2.1 b.2.2.1)) (
   k (ah.out false)) (
   aK ((jn (((List.length a.1):Nat):Int) (((List.length b.1):Nat):Int))) (
    k (ah.out false)) (
    aK ((jn (((List.length a.2.1):Nat):Int) (((List.length b.2.1):Nat):Int))) (
     k (ah.out false)) (
     aj (ah.L0.call (a,b,(0:Int))) fun x2=>
     aK (x2.isLeft) (
      aj (x2.getLeft?) fun a3=>
      k (ah.out false)) (
      aj (x2.getRight?) fun b4=>
      aj (ah.L1.call (b4.1,b4.2,(0:Int))) fun x6=>
      aK (x6.isLeft) (
       aj (x6.getLeft?) fun a7=>
       k (ah.out false)) (
       aj (x6.getRight?) fun b8=>
       k (ah.out true)))))):=by kernel_rfl
theorem ah.L0.ok:ah.L0.Ok:=by
 refine ah.L0.aG (fun(a,b,i)=>a.1.length - Int.toNat i) ?_
 rintro⟨a,b,i⟩ ⟨hlen,hab,hs,k,hk,rfl⟩
 have hlen:a.1.length≤1000000000:=hlen
 have hab:a.1.length=b.1.length:=hab
 have hk:k≤a.1.length:=hk
 have hs:∀x∈a.1,x.2.1.2.1.length≤1000000000:=hs
 by_cases h:k < a.1.length
 ·have h2:k < b.1.length:=by omega
  have n1:nth eg a.1 k=a.1[k]:=cj (t:=eg) h
  have n2:nth eg b.1 k=b.1[k]:=cj (t:=eg) h2
  have hd:(List.drop k a.1=List.drop k b.1)=(a.1[k]=b.1[k]∧List.drop (k+1) a.1=List.drop (k+1) b.1):=by rw[List.drop_eq_getElem_cons h,List.drop_eq_getElem_cons h2,List.cons.injEq]
  have step:∀ {R:Type} (kn:AS→Option R) (kx:Exit→AS→Option R),ah.L0.R (a,b,(k:Int)) kn kx=if a.1[k]=b.1[k] then kn (ah.L0.st (a,b,((k+1:Nat):Int))) else kx (ah.L0.bq ()).1 (ah.L0.bq ()).2:=by
   intro R kn kx
   rw[ah.L0.step,bw (by omega),bh (by omega) (by omega),bh (by omega) (by omega),Int.toNat_natCast,n1,n2]
   simp only[ax]
   have e:=hs _ (List.getElem_mem h)
   rw[rq,N.kk (by omega),aT.run (d:=(a.1[k].2.1,b.1[k].2.1)) e]
   simp only[ab,aT.add,aT.F]
   obtain⟨⟨f1,w1,u1⟩,e1⟩:∃x,a.1[k]=x:=⟨_,rfl⟩
   obtain⟨⟨f2,w2,u2⟩,e2⟩:∃x,b.1[k]=x:=⟨_,rfl⟩
   rw[e1,e2]
   by_cases q1:f1=f2
   ·by_cases q2:w1=w2
    ·rw[aQ q1,aQ q2,if_pos (by rw[q1,q2])];rfl
    ·rw[aQ q1,aM q2,if_neg (by rintro⟨⟩;exact q2 rfl)];rfl
   ·rw[aM q1,if_neg (by rintro⟨⟩;exact q1 rfl)];rfl
  by_cases hx:a.1[k]=b.1[k]
  ·left
   refine⟨(a,b,((k+1:Nat):Int)),⟨hlen,hab,hs,k+1,by omega,rfl⟩,by simp only[Int.toNat_natCast];omega,?_,fun kn kx=> ?_⟩
   ·simp only[ah.L0.add,ah.L0.F,Int.toNat_natCast,hd,hx,true_and]
   ·rw[step,if_pos hx]
  ·right
   refine⟨ah.L0.bq (),?_,fun kn kx=> ?_⟩
   ·simp only[ah.L0.add,ah.L0.F,Int.toNat_natCast,hd,hx,false_and,if_false]
    rfl
   ·rw[step,if_neg hx]
 ·right
  obtain rfl:k=a.1.length:=by omega
  refine⟨ah.L0.eM (a,b),?_,fun kn kx=> ?_⟩
  ·simp only[ah.L0.add,ah.L0.F,Int.toNat_natCast,List.drop_length]
   rw[hab,List.drop_length,if_pos rfl]
   rfl
  ·rw[ah.L0.step,bn (by omega),aw]
theorem ah.L1.ok:ah.L1.Ok:=by
 refine ah.L1.aG (fun(a,b,i)=>a.2.1.length - Int.toNat i) ?_
 rintro⟨a,b,i⟩ ⟨hlen,hab,hs,k,hk,rfl⟩
 have hlen:a.2.1.length≤1000000000:=hlen
 have hab:a.2.1.length=b.2.1.length:=hab
 have hk:k≤a.2.1.length:=hk
 have hs:∀x∈a.2.1,x.2.1.1.length≤1000000000∧∀b∈x.2.1.1,b.1.length≤1000000000:=hs
 by_cases h:k < a.2.1.length
 ·have h2:k < b.2.1.length:=by omega
  have n1:nth eV a.2.1 k=a.2.1[k]:=cj (t:=eV) h
  have n2:nth eV b.2.1 k=b.2.1[k]:=cj (t:=eV) h2
  have hd:(List.drop k a.2.1=List.drop k b.2.1)=(a.2.1[k]=b.2.1[k]∧List.drop (k+1) a.2.1=List.drop (k+1) b.2.1):=by rw[List.drop_eq_getElem_cons h,List.drop_eq_getElem_cons h2,List.cons.injEq]
  have step:∀ {R:Type} (kn:AS→Option R) (kx:Exit→AS→Option R),ah.L1.R (a,b,(k:Int)) kn kx=if a.2.1[k]=b.2.1[k] then kn (ah.L1.st (a,b,((k+1:Nat):Int))) else kx (ah.L1.bq ()).1 (ah.L1.bq ()).2:=by
   intro R kn kx
   rw[ah.L1.step,bw (by omega),bh (by omega) (by omega),bh (by omega) (by omega),Int.toNat_natCast,n1,n2]
   simp only[ax]
   have e:=hs _ (List.getElem_mem h)
   rw[N.kk (by omega),ao.run (d:=(a.2.1[k].2.1,b.2.1[k].2.1)) e]
   simp only[ab,ao.add,ao.F]
   obtain⟨⟨n1,⟨l1,v1⟩,u1⟩,e1⟩:∃x,a.2.1[k]=x:=⟨_,rfl⟩
   obtain⟨⟨n2,⟨l2,v2⟩,u2⟩,e2⟩:∃x,b.2.1[k]=x:=⟨_,rfl⟩
   rw[e1,e2]
   by_cases q1:n1=n2
   ·by_cases q2:l1=l2
    ·rw[bP q1,aQ q2,if_pos (by rw[q1,q2])];rfl
    ·rw[bP q1,aM q2,if_neg (by rintro⟨⟩;exact q2 rfl)];rfl
   ·rw[dw q1,if_neg (by rintro⟨⟩;exact q1 rfl)];rfl
  by_cases hx:a.2.1[k]=b.2.1[k]
  ·left
   refine⟨(a,b,((k+1:Nat):Int)),⟨hlen,hab,hs,k+1,by omega,rfl⟩,by simp only[Int.toNat_natCast];omega,?_,fun kn kx=> ?_⟩
   ·simp only[ah.L1.add,ah.L1.F,Int.toNat_natCast,hd,hx,true_and]
   ·rw[step,if_pos hx]
  ·right
   refine⟨ah.L1.bq (),?_,fun kn kx=> ?_⟩
   ·simp only[ah.L1.add,ah.L1.F,Int.toNat_natCast,hd,hx,false_and,if_false]
    rfl
   ·rw[step,if_neg hx]
 ·right
  obtain rfl:k=a.2.1.length:=by omega
  refine⟨ah.L1.eM (),?_,fun kn kx=> ?_⟩
  ·simp only[ah.L1.add,ah.L1.F,Int.toNat_natCast,List.drop_length]
   rw[hab,List.drop_length,if_pos rfl]
   rfl
  ·rw[ah.L1.step,bn (by omega),aw]
theorem ah.ok:ah.Ok:=by
 rintro⟨⟨i1,o1,n1,u1⟩,⟨i2,o2,n2,u2⟩⟩ h
 have h:oe (i1,o1,n1,u1):=h
 have hi:i1.length≤1000000000:=h.1.1
 have ho:o1.length≤1000000000:=h.2.1
 rw[ah.eq]
 simp only[ah.add,ah.F]
 by_cases e1:n1=n2
 ·by_cases e2:i1.length=i2.length
  ·by_cases e3:o1.length=o2.length
   ·rw[bP e1,bP (by omega),bP (by omega),ah.L0.run (d:=((i1,o1,n1,u1),(i2,o2,n2,u2),0)) ⟨hi,e2,h.1.2,0,Nat.zero_le _,rfl⟩]
    simp only[ab,ah.L0.add,ah.L0.F,Int.toNat_zero,List.drop_zero,aw]
    by_cases e4:i1=i2
    ·rw[if_pos e4]
     simp only[Sum.isLeft_inr,Sum.getRight?_inr,aw,ab]
     rw[ah.L1.run (d:=((i1,o1,n1,u1),(i2,o2,n2,u2),0)) ⟨ho,e3,h.2.2,0,Nat.zero_le _,rfl⟩]
     simp only[ab,ah.L1.add,ah.L1.F,Int.toNat_zero,List.drop_zero]
     by_cases e5:o1=o2
     ·rw[if_pos e5,aQ (by rw[e1,e4,e5])];rfl
     ·rw[if_neg e5,aM (by rintro⟨⟩;exact e5 rfl)];rfl
    ·rw[if_neg e4,aM (by rintro⟨⟩;exact e4 rfl)];rfl
   ·rw[bP e1,bP (by omega),dw (by omega),aM (by rintro⟨⟩;exact e3 rfl)];rfl
  ·rw[bP e1,dw (by omega),aM (by rintro⟨⟩;exact e2 rfl)];rfl
 ·rw[dw e1,aM (by rintro⟨⟩;exact e1 rfl)];rfl
noncomputable def ah.E:=Entry.ct [some fD,some fD] ah.st ah.aC ah.add ah.F ah.out
noncomputable def ah.call:ah.D→Option ah.X:=bH ah.E ah.st
theorem ah.run:bD ah.call ah.aC ah.add ah.F:=cO (cM [.d fD,.d fD] fun _=>by kernel_rfl)
noncomputable def ah.sg:SG Tryz.prog:=⟨28,aV,ah.E,.fn 2 (by kernel_rfl) ah.ok (And.intro (.ct ah.L0.ok (by kernel_rfl)) (And.intro (.ct ah.L1.ok (by kernel_rfl)) trivial))⟩
abbrev ay.L0.D:=(List j8)×(List j8)×Int
def ay.L0.st:ay.L0.D→AS:=fun(a_2,b_2,i)=>⟨([.d (.slice kA) a_2,.d (.slice kA) b_2,.undef,.undef,.undef,.d ti i]++a9 20 []),[],(List.replicate 26 [])⟩
abbrev ay.L0.Y0:=Unit
abbrev ay.L0.X0:=Unit
def ay.L0.bq:ay.L0.X0→Exit×AS:=fun x=>(.ret,⟨(a9 4 ([.d .bool false]++a9 21 [])),[],(List.replicate 26 [])⟩)
abbrev ay.L0.Y1:=Unit
abbrev ay.L0.X1:=Unit
def ay.L0.eM:ay.L0.X1→Exit×AS:=fun x=>(.exit 0,⟨(a9 26 []),[],(List.replicate 26 [])⟩)
abbrev ay.L0.X:=(ay.L0.X0)⊕(ay.L0.X1)
abbrev ay.L0.Y:=(ay.L0.Y0)⊕(ay.L0.Y1)
def ay.L0.out:ay.L0.X→Out (Exit×AS):=fun x=> .br x.isLeft (.get x.getLeft? fun a=> .ok (ay.L0.bq a)) (.get x.getRight? fun b=> .ok (ay.L0.eM b))
def ay.L0.add:ay.L0.D→ay.L0.Y→ay.L0.X:=fun(a_2,b_2,i) y=>match y with | .inl y=> .inl y | .inr z=> .inr (z)
abbrev ay.D:=(List j8)×(List j8)
def ay.st:ay.D→SA:=fun(a,b)=>([.d (.slice kA) a,.d (.slice kA) b],[])
abbrev ay.Y:=Bool
abbrev ay.X:=Bool
def ay.out:ay.X→aZ:=fun x=>⟨.d .bool x,[],[]⟩
def ay.add:ay.D→ay.Y→ay.X:=fun(a,b) y=>y
def ay.L0.aC:ay.L0.D→Prop:=fun(a,b,i)=>a.length≤1000000000∧a.length=b.length∧∃k:Nat,k≤a.length∧i=k
def ay.L0.F:ay.L0.D→ay.L0.Y:=fun(a,b,i)=>if List.drop (Int.toNat i) a=List.drop (Int.toNat i) b then .inr () else .inl ()
def ay.aC:ay.D→Prop:=fun(a,b)=>a.length≤1000000000
def ay.F:ay.D→ay.Y:=fun(a,b)=>decide (a=b)
noncomputable def ay.G:dQ:=eR (P:=Tryz.prog) []
noncomputable def ay.L0.E:=bN.ct ay.L0.st ay.L0.aC ay.L0.add ay.L0.F ay.L0.out
noncomputable def ay.L0.call:ay.L0.D→Option ay.L0.X:=dh ay.L0.E ay.L0.st
noncomputable def ay.an:eC:= {loops:=jJ [(4,{bm:=[0,1,5]})],outs:=jI [(4,{},{bm:=[4]})],fG:=kh [(4,ay.L0.E)]}
noncomputable def ay.A:= @cH Tryz.prog ay.G ay.an 0 Tryz.f37 _ ay.st
abbrev ay.Ok:=cI @ay.A ay.aC ay.add ay.F ay.out
noncomputable def ay.L0.R:= @bX Tryz.prog ay.G ay.an 0 Tryz.f37 0 _ ay.L0.st
abbrev ay.L0.Ok:=eA Tryz.prog ay.G ay.an 0 Tryz.f37 0 ay.L0.st ay.L0.aC ay.L0.add ay.L0.F ay.L0.out
theorem ay.L0.run:bD ay.L0.call ay.L0.aC ay.L0.add ay.L0.F:=eG (eE [.d (.slice kA),.d (.slice kA),.d ti] fun _=>by kernel_rfl)
theorem ay.L0.aG:iZ @ay.L0.R ay.L0.st ay.L0.aC ay.L0.add ay.L0.F ay.L0.out ay.L0.Ok:=jm
theorem ay.L0.step{R:Type}(a_2:(List j8))(b_2:(List j8))(i:Int)(kn:AS→Option R)(kx:Exit→AS→Option R):ay.L0.R (a_2,b_2,i) kn kx=
  aK ((gb i (((List.length a_2):Nat):Int))) (
   aK (eh i (((List.length a_2):Nat):Int)) (
   aK (eh i (((List.length b_2):Nat):Int)) (
   aK ((!(Ty.beq kA (nth kA a_2 (Int.toNat i)) (nth kA b_2 (Int.toNat i))))) (
    kx (ay.L0.bq ()).1 (ay.L0.bq ()).2) (
    kn (ay.L0.st (a_2,b_2,(bK .i64 i (1:Int)))))) none) none) (
   kx (ay.L0.eM ()).1 (ay.L0.eM ()).2):=by kernel_rfl
theorem ay.eq{R:Type}(a:(List j8))(b:(List j8))(k:aZ→Option R):ay.A (a,b) k=
  aK ((jn (((List.length a):Nat):Int) (((List.length b):Nat):Int))) (
   k (ay.out false)) (
   aj (ay.L0.call (a,b,(0:Int))) fun x1=>
   aK (x1.isLeft) (
    aj (x1.getLeft?) fun a2=>
    k (ay.out false)) (
    aj (x1.getRight?) fun b3=>
    k (ay.out true))):=by kernel_rfl
theorem ay.L0.ok:ay.L0.Ok:=by
 refine ay.L0.aG (fun(a,b,i)=>a.length - Int.toNat i) ?_
 rintro⟨a,b,i⟩ ⟨hlen,hab,k,hk,rfl⟩
 have hlen:a.length≤1000000000:=hlen
 have hab:a.length=b.length:=hab
 have hk:k≤a.length:=hk
 by_cases h:k < a.length
 ·have h2:k < b.length:=by omega
  have n1:nth kA a k=a[k]:=cj (t:=kA) h
  have n2:nth kA b k=b[k]:=cj (t:=kA) h2
  have hd:(List.drop k a=List.drop k b)=(a[k]=b[k]∧List.drop (k+1) a=List.drop (k+1) b):=by rw[List.drop_eq_getElem_cons h,List.drop_eq_getElem_cons h2,List.cons.injEq]
  have step:∀ {R:Type} (kn:AS→Option R) (kx:Exit→AS→Option R),ay.L0.R (a,b,(k:Int)) kn kx=if a[k]=b[k] then kn (ay.L0.st (a,b,((k+1:Nat):Int))) else kx (ay.L0.bq ()).1 (ay.L0.bq ()).2:=by
   intro R kn kx
   rw[ay.L0.step,bw (by omega),bh (by omega) (by omega),bh (by omega) (by omega),Int.toNat_natCast,n1,n2]
   simp only[ax]
   rw[rq,N.kk (by omega)]
   by_cases hx:a[k]=b[k]
   ·rw[aQ hx,if_pos hx];rfl
   ·rw[aM hx,if_neg hx];rfl
  by_cases hx:a[k]=b[k]
  ·left
   refine⟨(a,b,((k+1:Nat):Int)),⟨hlen,hab,k+1,by omega,rfl⟩,by simp only[Int.toNat_natCast];omega,?_,fun kn kx=> ?_⟩
   ·simp only[ay.L0.add,ay.L0.F,Int.toNat_natCast,hd,hx,true_and]
   ·rw[step,if_pos hx]
  ·right
   refine⟨ay.L0.bq (),?_,fun kn kx=> ?_⟩
   ·simp only[ay.L0.add,ay.L0.F,Int.toNat_natCast,hd,hx,false_and,if_false]
    rfl
   ·rw[step,if_neg hx]
 ·right
  obtain rfl:k=a.length:=by omega
  refine⟨ay.L0.eM (),?_,fun kn kx=> ?_⟩
  ·simp only[ay.L0.add,ay.L0.F,Int.toNat_natCast,List.drop_length]
   rw[hab,List.drop_length,if_pos rfl]
   rfl
  ·rw[ay.L0.step,bn (by omega),aw]
theorem ay.ok:ay.Ok:=by
 rintro⟨a,b⟩ h
 have h:a.length≤1000000000:=h
 rw[ay.eq]
 simp only[ay.add,ay.F]
 by_cases e3:a.length=b.length
 ·rw[bP (by omega),ay.L0.run (d:=(a,b,0)) ⟨h,e3,0,Nat.zero_le _,rfl⟩]
  simp only[ab,ay.L0.add,ay.L0.F,Int.toNat_zero,List.drop_zero,aw]
  by_cases e4:a=b
  ·rw[if_pos e4,aQ e4];rfl
  ·rw[if_neg e4,aM e4];rfl
 ·rw[dw (by omega),aM (fun x=>e3 (by rw[x]))];rfl
noncomputable def ay.E:=Entry.ct [some (.slice kA),some (.slice kA)] ay.st ay.aC ay.add ay.F ay.out
noncomputable def ay.call:ay.D→Option ay.X:=bH ay.E ay.st
theorem ay.run:bD ay.call ay.aC ay.add ay.F:=cO (cM [.d (.slice kA),.d (.slice kA)] fun _=>by kernel_rfl)
noncomputable def ay.sg:SG Tryz.prog:=⟨37,aV,ay.E,.fn 1 (by kernel_rfl) ay.ok (And.intro (.ct ay.L0.ok (by kernel_rfl)) trivial)⟩
set_option synthInstance.maxSize 5000
abbrev ae.L0.D:=eH×Int×(Int×Unit)×Nat×(Int×Unit)×(List eU)
def ae.L0.st:ae.L0.D→AS:=fun(t_2,i,n2,n3L,n3,n36)=>⟨([.undef,.eB fD t_2,.ptr (.new 2 0) 0 [] 0,.ptr (.new 3 0) 0 [] 0,.d ti i]++a9 89 []),[],([[],[],[.obj 0 false (.pr (.cV) (.pr (.cV) (.d (.pair ti .unit) n2)))],[.obj 0 false (.pr (.cf (.new 36 0) 0 [] 0 0 n3L) (.pr (.cV) (.d (.pair ti .unit) n3)))]]++bJ 32 ([[.obj 0 false (.vec 57 eg n36)]]++bJ 57 []))⟩
abbrev ae.L0.Y0:=Nat×(List eU)
abbrev ae.L0.X0:=(eH×(Int×Unit)×(Int×Unit))×(Nat×(List eU))
def ae.L0.bq:ae.L0.X0→Exit×AS:=fun x=>(.exit 0,⟨([.undef,.eB fD x.1.1,.ptr (.new 2 0) 0 [] 0,.ptr (.new 3 0) 0 [] 0]++a9 90 []),[],([[],[],[.obj 0 false (.pr (.cV) (.pr (.cV) (.d (.pair ti .unit) x.1.2.1)))],[.obj 0 false (.pr (.cf (.new 36 0) 0 [] 0 0 x.2.1) (.pr (.cV) (.d (.pair ti .unit) x.1.2.2)))]]++bJ 32 ([[.obj 0 false (.vec 57 eg x.2.2)]]++bJ 57 []))⟩)
abbrev ae.L0.X:=ae.L0.X0
abbrev ae.L0.Y:=ae.L0.Y0
def ae.L0.out:ae.L0.X→Out (Exit×AS):=fun x=> .ok (ae.L0.bq x)
def ae.L0.add:ae.L0.D→ae.L0.Y→ae.L0.X:=fun(t_2,i,n2,n3L,n3,n36) y=>((t_2,n2,n3),y)
abbrev ae.L1.D:=eH×Int×(Int×Unit)×Nat×Nat×(Int×Unit)×(List eU)×(List fM)
def ae.L1.st:ae.L1.D→AS:=fun(t_3,i_2,n2_2,n3L_2,n3L_3,n3_2,n36_2,n91)=>⟨([.undef,.eB fD t_3,.ptr (.new 2 0) 0 [] 0,.ptr (.new 3 0) 0 [] 0,.undef,.undef,.d ti i_2]++a9 87 []),[],([[],[],[.obj 0 false (.pr (.cV) (.pr (.cV) (.d (.pair ti .unit) n2_2)))],[.obj 0 false (.pr (.cf (.new 36 0) 0 [] 0 0 n3L_2) (.pr (.cf (.new 91 0) 0 [] 0 0 n3L_3) (.d (.pair ti .unit) n3_2)))]]++bJ 32 ([[.obj 0 false (.vec 57 eg n36_2)]]++bJ 54 [[.obj 0 false (.vec 62 eV n91)],[],[]]))⟩
abbrev ae.L1.Y0:=(Int×Unit)×Nat×Nat×(Int×Unit)×(List eU)×(List fM)
abbrev ae.L1.X0:=(Int×Unit)×Nat×Nat×(Int×Unit)×(List eU)×(List fM)
def ae.L1.bq:ae.L1.X0→Exit×AS:=fun x=>(.exit 2,⟨([.undef,.undef,.ptr (.new 2 0) 0 [] 0,.ptr (.new 3 0) 0 [] 0]++a9 90 []),[],([[],[],[.obj 0 false (.pr (.cV) (.pr (.cV) (.d (.pair ti .unit) x.1)))],[.obj 0 false (.pr (.cf (.new 36 0) 0 [] 0 0 x.2.1) (.pr (.cf (.new 91 0) 0 [] 0 0 x.2.2.1) (.d (.pair ti .unit) x.2.2.2.1)))]]++bJ 32 ([[.obj 0 false (.vec 57 eg x.2.2.2.2.1)]]++bJ 54 [[.obj 0 false (.vec 62 eV x.2.2.2.2.2)],[],[]]))⟩)
abbrev ae.L1.X:=ae.L1.X0
abbrev ae.L1.Y:=ae.L1.Y0
def ae.L1.out:ae.L1.X→Out (Exit×AS):=fun x=> .ok (ae.L1.bq x)
def ae.L1.add:ae.L1.D→ae.L1.Y→ae.L1.X:=fun(t_3,i_2,n2_2,n3L_2,n3L_3,n3_2,n36_2,n91) y=>y
abbrev ae.L2.D:=eH×Int×Int×(Int×Unit)×Nat×Nat×(Int×Unit)×Int×Nat×(List eU)×(List gf)×(List fM)
def ae.L2.st:ae.L2.D→AS:=fun(t_4,i_3,kv,n2_3,n3L_4,n3L_5,n3_3,n7,n7L,n36_3,n84,n91_2)=>⟨([.undef,.eB fD t_4,.ptr (.new 2 0) 0 [] 0,.ptr (.new 3 0) 0 [] 0,.undef,.undef,.d ti i_3,.ptr (.new 7 0) 0 [] 0,.d ti kv]++a9 85 []),[],([[],[],[.obj 0 false (.pr (.cV) (.pr (.cV) (.d (.pair ti .unit) n2_3)))],[.obj 0 false (.pr (.cf (.new 36 0) 0 [] 0 0 n3L_4) (.pr (.cf (.new 91 0) 0 [] 0 0 n3L_5) (.d (.pair ti .unit) n3_3)))],[],[],[],[.obj 0 false (.pr (.d ti n7) (.pr (.pr (.cf (.new 84 0) 0 [] 0 0 n7L) (.d .unit ())) (.d .unit ())))]]++bJ 28 ([[.obj 0 false (.vec 57 eg n36_3)]]++bJ 47 ([[.obj 0 false (.vec 85 fg n84)]]++bJ 6 [[.obj 0 false (.vec 62 eV n91_2)],[],[]])))⟩
abbrev ae.L2.Y0:=Nat×(List gf)
abbrev ae.L2.X0:=(eH×Int×(Int×Unit)×Nat×Nat×(Int×Unit)×Int×(List eU)×(List fM))×(Nat×(List gf))
def ae.L2.bq:ae.L2.X0→Exit×AS:=fun x=>(.exit 4,⟨([.undef,.eB fD x.1.1,.ptr (.new 2 0) 0 [] 0,.ptr (.new 3 0) 0 [] 0,.undef,.undef,.d ti x.1.2.1,.ptr (.new 7 0) 0 [] 0]++a9 86 []),[],([[],[],[.obj 0 false (.pr (.cV) (.pr (.cV) (.d (.pair ti .unit) x.1.2.2.1)))],[.obj 0 false (.pr (.cf (.new 36 0) 0 [] 0 0 x.1.2.2.2.1) (.pr (.cf (.new 91 0) 0 [] 0 0 x.1.2.2.2.2.1) (.d (.pair ti .unit) x.1.2.2.2.2.2.1)))],[],[],[],[.obj 0 false (.pr (.d ti x.1.2.2.2.2.2.2.1) (.pr (.pr (.cf (.new 84 0) 0 [] 0 0 x.2.1) (.d .unit ())) (.d .unit ())))]]++bJ 28 ([[.obj 0 false (.vec 57 eg x.1.2.2.2.2.2.2.2.1)]]++bJ 47 ([[.obj 0 false (.vec 85 fg x.2.2)]]++bJ 6 [[.obj 0 false (.vec 62 eV x.1.2.2.2.2.2.2.2.2)],[],[]])))⟩)
abbrev ae.L2.X:=ae.L2.X0
abbrev ae.L2.Y:=ae.L2.Y0
def ae.L2.out:ae.L2.X→Out (Exit×AS):=fun x=> .ok (ae.L2.bq x)
def ae.L2.add:ae.L2.D→ae.L2.Y→ae.L2.X:=fun(t_4,i_3,kv,n2_3,n3L_4,n3L_5,n3_3,n7,n7L,n36_3,n84,n91_2) y=>((t_4,i_3,n2_3,n3L_4,n3L_5,n3_3,n7,n36_3,n91_2),y)
abbrev ae.D:=eH
def ae.st:ae.D→SA:=fun t=>([.d fD t],[])
abbrev ae.Y:=Nat×Nat×(Int×Unit)×(List eU)×(List fM)
abbrev ae.X:=Nat×Nat×(Int×Unit)×(List eU)×(List fM)
def ae.out:ae.X→aZ:=fun x=>⟨.pr (.cf (.new 0 0) 0 [] 0 0 x.1) (.pr (.cf (.new 0 1) 0 [] 0 0 x.2.1) (.d (.pair ti .unit) x.2.2.1)),[],[.obj 0 false (.vec 57 eg x.2.2.2.1),.obj 0 false (.vec 62 eV x.2.2.2.2)]⟩
def ae.add:ae.D→ae.Y→ae.X:=fun t y=>y
def ae.L0.aC:ae.L0.D→Prop:=fun(t,i,u,L,v,r)=>(t.1).length≤1000000∧∃k:Nat,k≤(t.1).length∧i=k∧L=(r).length∧(r).length≤1000000+k∧(∀x∈t.1,x.2.1.2.1.length≤1000000)
def ae.L0.F:ae.L0.D→ae.L0.Y:=fun(t,i,u,L,v,r)=>(L+(List.drop (Int.toNat i) t.1).length,r++(List.drop (Int.toNat i) t.1).map (fun x:eU=>x))
def ae.L2.aC:ae.L2.D→Prop:=fun(t,j,i,u,L4,L5,v,am,L,is,r,os)=>((nth eV t.2.1 (Int.toNat j)).2.1.1).length≤1000000∧∃k:Nat,k≤((nth eV t.2.1 (Int.toNat j)).2.1.1).length∧i=k∧L=(r).length∧(r).length≤1000000+k∧(0≤j∧j < (t.2.1.length:Int))∧(∀x∈(nth eV t.2.1 (Int.toNat j)).2.1.1,x.1.length≤1000000)
def ae.L2.F:ae.L2.D→ae.L2.Y:=fun(t,j,i,u,L4,L5,v,am,L,is,r,os)=>(L+(List.drop (Int.toNat i) (nth eV t.2.1 (Int.toNat j)).2.1.1).length,r++(List.drop (Int.toNat i) (nth eV t.2.1 (Int.toNat j)).2.1.1).map (fun x:gf=>x))
def ae.L1.aC:ae.L1.D→Prop:=fun(t,i,u,L3,L,v,is,r)=>(t.2.1.length≤1000∧∀x∈t.2.1,x.2.1.1.length≤1000∧∀b∈x.2.1.1,b.1.length≤1000000)∧∃k:Nat,k≤t.2.1.length∧i=k∧L=r.length∧r.length=k
def ae.L1.F:ae.L1.D→ae.L1.Y:=fun(t,i,u,L3,L,v,is,r)=>(u,L3,L+(t.2.1.drop i.toNat).length,v,is,r++t.2.1.drop i.toNat)
def Cq(t:eH):Prop:=(t.1.length≤1000∧∀x∈t.1,x.2.1.2.1.length≤1000000)∧t.2.1.length≤1000∧∀x∈t.2.1,x.2.1.1.length≤1000∧∀b∈x.2.1.1,b.1.length≤1000000
def ae.aC:ae.D→Prop:=fun t=>Cq t
def ae.F:ae.D→ae.Y:=fun t=>(t.1.length,t.2.1.length,(t.2.2.1,()),t.1,t.2.1)
noncomputable def ae.G:dQ:=eR (P:=Tryz.prog) []
noncomputable def ae.L0.E:=bN.ct ae.L0.st ae.L0.aC ae.L0.add ae.L0.F ae.L0.out
noncomputable def ae.L0.call:ae.L0.D→Option ae.L0.X:=dh ae.L0.E ae.L0.st
noncomputable def ae.L1.E:=bN.ct ae.L1.st ae.L1.aC ae.L1.add ae.L1.F ae.L1.out
noncomputable def ae.L1.call:ae.L1.D→Option ae.L1.X:=dh ae.L1.E ae.L1.st
noncomputable def ae.L2.E:=bN.ct ae.L2.st ae.L2.aC ae.L2.add ae.L2.F ae.L2.out
noncomputable def ae.L2.call:ae.L2.D→Option ae.L2.X:=dh ae.L2.E ae.L2.st
noncomputable def ae.an:eC:= {bI:=[25,74],loops:=jJ [(3,{bm:=[1,2,3,4],sites:=[2,3,36],ix:=[⟨3,[.fst],36,36⟩]}),(9,{bm:=[1,2,3,6],sites:=[2,3,36,91],ix:=[⟨3,[.snd,.fst],91,37⟩]}),(13,{bm:=[1,2,3,6,7,8],sites:=[2,3,7,36,84,91],ix:=[⟨7,[.snd,.fst,.fst],84,22⟩]})],outs:=jI [(3,{bm:=[1,2,3],sites:=[2,3,36]},{bm:=[2]}),(9,{bm:=[2,3],sites:=[2,3,36,91]},{bm:=[2]}),(13,{bm:=[1,2,3,6,7],sites:=[2,3,7,36,84,91]},{bm:=[2]})],fG:=kh [(3,ae.L0.E),(9,ae.L1.E),(13,ae.L2.E)]}
noncomputable def ae.A:= @cH Tryz.prog ae.G ae.an 0 Tryz.f23 _ ae.st
abbrev ae.Ok:=cI @ae.A ae.aC ae.add ae.F ae.out
noncomputable def ae.L0.R:= @bX Tryz.prog ae.G ae.an 0 Tryz.f23 0 _ ae.L0.st
abbrev ae.L0.Ok:=eA Tryz.prog ae.G ae.an 0 Tryz.f23 0 ae.L0.st ae.L0.aC ae.L0.add ae.L0.F ae.L0.out
noncomputable def ae.L1.R:= @bX Tryz.prog ae.G ae.an 0 Tryz.f23 1 _ ae.L1.st
abbrev ae.L1.Ok:=eA Tryz.prog ae.G ae.an 0 Tryz.f23 1 ae.L1.st ae.L1.aC ae.L1.add ae.L1.F ae.L1.out
noncomputable def ae.L2.R:= @bX Tryz.prog ae.G ae.an 0 Tryz.f23 2 _ ae.L2.st
abbrev ae.L2.Ok:=eA Tryz.prog ae.G ae.an 0 Tryz.f23 2 ae.L2.st ae.L2.aC ae.L2.add ae.L2.F ae.L2.out
theorem ae.L0.run:bD ae.L0.call ae.L0.aC ae.L0.add ae.L0.F:=eG (eE [.d fD,.d ti,.d (.pair ti .unit),.n,.d (.pair ti .unit),.d (.slice eg)] fun _=>by kernel_rfl)
theorem ae.L0.aG:fR @ae.L0.R ae.L0.st ae.L0.aC ae.L0.add ae.L0.F ae.L0.bq ae.L0.Ok:=fU
theorem ae.L0.step{R:Type}(t_2:eH)(i:Int)(n2:(Int×Unit))(n3L:Nat)(n3:(Int×Unit))(n36:(List eU))(kn:AS→Option R)(kx:Exit→AS→Option R):ae.L0.R (t_2,i,n2,n3L,n3,n36) kn kx=
  aK ((gb i (((List.length t_2.1):Nat):Int))) (
   aK (eh i (((List.length t_2.1):Nat):Int)) (
   aK (dj (0+(List.length (nth eg t_2.1 (Int.toNat i)).2.1.2.1)) 16) (
   aK (decide (0=0∧(0+(0+(List.length (nth eg t_2.1 (Int.toNat i)).2.1.2.1)))≤(List.length ((List.take 0 (List.replicate 0 ((0:Int),((0:Int),()))))++(nth eg t_2.1 (Int.toNat i)).2.1.2.1)))) (
   aK (decide (n3L≤(List.length n36))) (
   aK (dj (n3L+1) 80) (
   kn (ae.L0.st (t_2,(bK .i64 i (1:Int)),n2,(n3L+1),n3,((List.take n3L n36)++ [((nth eg t_2.1 (Int.toNat i)).1,(((nth eg t_2.1 (Int.toNat i)).2.1.1,((cut ((List.take 0 (List.replicate 0 ((0:Int),((0:Int),()))))++(nth eg t_2.1 (Int.toNat i)).2.1.2.1) 0 (0+(List.length (nth eg t_2.1 (Int.toNat i)).2.1.2.1))),(nth eg t_2.1 (Int.toNat i)).2.1.2.2)),(nth eg t_2.1 (Int.toNat i)).2.2))])))) none) none) none) none) none) (
   kx (ae.L0.bq ((t_2,n2,n3),(n3L,n36))).1 (ae.L0.bq ((t_2,n2,n3),(n3L,n36))).2):=by kernel_rfl
theorem ae.L1.run:bD ae.L1.call ae.L1.aC ae.L1.add ae.L1.F:=eG (eE [.d fD,.d ti,.d (.pair ti .unit),.n,.n,.d (.pair ti .unit),.d (.slice eg),.d (.slice eV)] fun _=>by kernel_rfl)
theorem ae.L1.aG:fR @ae.L1.R ae.L1.st ae.L1.aC ae.L1.add ae.L1.F ae.L1.bq ae.L1.Ok:=fU
theorem ae.L1.step{R:Type}(t_3:eH)(i_2:Int)(n2_2:(Int×Unit))(n3L_2:Nat)(n3L_3:Nat)(n3_2:(Int×Unit))(n36_2:(List eU))(n91:(List fM))(kn:AS→Option R)(kx:Exit→AS→Option R):ae.L1.R (t_3,i_2,n2_2,n3L_2,n3L_3,n3_2,n36_2,n91) kn kx=
  aK ((gb i_2 (((List.length t_3.2.1):Nat):Int))) (
   aK (eh i_2 (((List.length t_3.2.1):Nat):Int)) (
   aj (ae.L2.call (t_3,i_2,(0:Int),n2_2,n3L_2,n3L_3,n3_2,(nth eV t_3.2.1 (Int.toNat i_2)).1,0,n36_2,([]:List gf),n91)) fun x1=>
   aK (decide (0=0∧(0+x1.2.1)≤(List.length x1.2.2))) (
   aK (decide (x1.1.2.2.2.2.1≤(List.length x1.1.2.2.2.2.2.2.2.2))) (
   aK (dj (x1.1.2.2.2.2.1+1) 32) (
   kn (ae.L1.st (x1.1.1,(bK .i64 x1.1.2.1 (1:Int)),x1.1.2.2.1,x1.1.2.2.2.1,(x1.1.2.2.2.2.1+1),x1.1.2.2.2.2.2.1,x1.1.2.2.2.2.2.2.2.1,((List.take x1.1.2.2.2.2.1 x1.1.2.2.2.2.2.2.2.2)++ [(x1.1.2.2.2.2.2.2.1,(((cut x1.2.2 0 x1.2.1),()),()))])))) none) none) none) none) (
   kx (ae.L1.bq (n2_2,n3L_2,n3L_3,n3_2,n36_2,n91)).1 (ae.L1.bq (n2_2,n3L_2,n3L_3,n3_2,n36_2,n91)).2):=by kernel_rfl
theorem ae.L2.run:bD ae.L2.call ae.L2.aC ae.L2.add ae.L2.F:=eG (eE [.d fD,.d ti,.d ti,.d (.pair ti .unit),.n,.n,.d (.pair ti .unit),.d ti,.n,.d (.slice eg),.d (.slice fg),.d (.slice eV)] fun _=>by kernel_rfl)
theorem ae.L2.aG:fR @ae.L2.R ae.L2.st ae.L2.aC ae.L2.add ae.L2.F ae.L2.bq ae.L2.Ok:=fU
theorem ae.L2.step{R:Type}(t_4:eH)(i_3:Int)(kv:Int)(n2_3:(Int×Unit))(n3L_4:Nat)(n3L_5:Nat)(n3_3:(Int×Unit))(n7:Int)(n7L:Nat)(n36_3:(List eU))(n84:(List gf))(n91_2:(List fM))(kn:AS→Option R)(kx:Exit→AS→Option R):ae.L2.R (t_4,i_3,kv,n2_3,n3L_4,n3L_5,n3_3,n7,n7L,n36_3,n84,n91_2) kn kx=
  aK (eh i_3 (((List.length t_4.2.1):Nat):Int)) (
  aK ((gb kv (((List.length (nth eV t_4.2.1 (Int.toNat i_3)).2.1.1):Nat):Int))) (
   aK (eh i_3 (((List.length t_4.2.1):Nat):Int)) (
   aK (eh kv (((List.length (nth eV t_4.2.1 (Int.toNat i_3)).2.1.1):Nat):Int)) (
   aK (dj (0+(List.length (nth fg (nth eV t_4.2.1 (Int.toNat i_3)).2.1.1 (Int.toNat kv)).1)) 8) (
   aK (decide (0=0∧(0+(0+(List.length (nth fg (nth eV t_4.2.1 (Int.toNat i_3)).2.1.1 (Int.toNat kv)).1)))≤(List.length ((List.take 0 (List.replicate 0 (0:Int)))++(nth fg (nth eV t_4.2.1 (Int.toNat i_3)).2.1.1 (Int.toNat kv)).1)))) (
   aK (decide (n7L≤(List.length n84))) (
   aK (dj (n7L+1) 48) (
   kn (ae.L2.st (t_4,i_3,(bK .i64 kv (1:Int)),n2_3,n3L_4,n3L_5,n3_3,n7,(n7L+1),n36_3,((List.take n7L n84)++ [((cut ((List.take 0 (List.replicate 0 (0:Int)))++(nth fg (nth eV t_4.2.1 (Int.toNat i_3)).2.1.1 (Int.toNat kv)).1) 0 (0+(List.length (nth fg (nth eV t_4.2.1 (Int.toNat i_3)).2.1.1 (Int.toNat kv)).1))),(nth fg (nth eV t_4.2.1 (Int.toNat i_3)).2.1.1 (Int.toNat kv)).2)]),n91_2))) none) none) none) none) none) none) (
   kx (ae.L2.bq ((t_4,i_3,n2_3,n3L_4,n3L_5,n3_3,n7,n36_3,n91_2),(n7L,n84))).1 (ae.L2.bq ((t_4,i_3,n2_3,n3L_4,n3L_5,n3_3,n7,n36_3,n91_2),(n7L,n84))).2)) none:=by kernel_rfl
theorem ae.eq{R:Type}(t:eH)(k:aZ→Option R):ae.A t k=
 aj (ae.L0.call (t,(0:Int),((0:Int),()),0,(t.2.2.1,()),([]:List eU))) fun x1=>
 aj (ae.L1.call (x1.1.1,(0:Int),x1.1.2.1,x1.2.1,0,x1.1.2.2,x1.2.2,([]:List fM))) fun x4=>
 k (ae.out (x4.2.1,x4.2.2.1,x4.2.2.2.1,x4.2.2.2.2.1,x4.2.2.2.2.2)):=by kernel_rfl
theorem ae.L0.ok:ae.L0.Ok:=by
 refine ae.L0.aG (fun(t,i,u,L,v,r)=>(t.1).length - Int.toNat i) ?_
 rintro⟨t,i,u,L,v,r⟩ ⟨hlen,k,hk,rfl,rfl,hrow,hx⟩
 have hlen:(t.1).length≤1000000:=hlen
 have hk:k≤(t.1).length:=hk
 have hrow:(r).length≤1000000+k:=hrow
 have hx:∀x∈t.1,x.2.1.2.1.length≤1000000:=hx
 by_cases h:k < (t.1).length
 ·left
  have n1:nth eg t.1 k=t.1[k]:=cj (t:=eg) h
  have hd:List.drop k t.1=t.1[k]::List.drop (k+1) t.1:=List.drop_eq_getElem_cons h
  refine⟨(t,((k+1:Nat):Int),u,(r).length+1,v,r++ [(fun x:eU=>x) t.1[k]]),⟨hlen,k+1,by omega,rfl,by rw[List.length_append];rfl,by rw[List.length_append];show(r).length+1≤_;omega,hx⟩,by simp only[Int.toNat_natCast];omega,?_,fun kn kx=> ?_⟩
  ·simp only[ae.L0.add,ae.L0.F,Int.toNat_natCast,hd,List.map_cons,List.length_cons,List.append_assoc,List.singleton_append]
   rw[show ∀a c:Nat,a+1+c=a+(c+1) from fun a c=>by omega]
  ·rw[ae.L0.step,bw (by omega),bh (show(0:Int)≤(k:Int) by omega) (by omega),Int.toNat_natCast,n1]
   simp only[ax]
   have e:=hx _ (List.getElem_mem h)
   have hr:dj t.1[k].2.1.2.1.length 16=true:=eF (by omega) (by omega)
   simp only[Nat.zero_add,List.take_zero,List.nil_append,hr,ax,Nat.le_refl,and_self,decide_true,fc]
   rw[eF (by omega) (by omega),N.kk (by omega),List.take_length]
   rfl
 ·right
  obtain rfl:k=(t.1).length:=by omega
  intro R kn kx
  rw[ae.L0.step,bn (by omega),aw]
  simp only[ae.L0.add,ae.L0.F,Int.toNat_natCast,List.drop_length,List.map_nil,List.append_nil,List.length_nil,Nat.add_zero]
theorem ae.L2.ok:ae.L2.Ok:=by
 refine ae.L2.aG (fun(t,j,i,u,L4,L5,v,am,L,is,r,os)=>((nth eV t.2.1 (Int.toNat j)).2.1.1).length - Int.toNat i) ?_
 rintro⟨t,j,i,u,L4,L5,v,am,L,is,r,os⟩ ⟨hlen,k,hk,rfl,rfl,hrow,hj,hx⟩
 have hlen:((nth eV t.2.1 (Int.toNat j)).2.1.1).length≤1000000:=hlen
 have hk:k≤((nth eV t.2.1 (Int.toNat j)).2.1.1).length:=hk
 have hrow:(r).length≤1000000+k:=hrow
 have hj:0≤j∧j < (t.2.1.length:Int):=hj
 have hx:∀x∈(nth eV t.2.1 (Int.toNat j)).2.1.1,x.1.length≤1000000:=hx
 by_cases h:k < ((nth eV t.2.1 (Int.toNat j)).2.1.1).length
 ·left
  have n1:nth fg (nth eV t.2.1 (Int.toNat j)).2.1.1 k=(nth eV t.2.1 (Int.toNat j)).2.1.1[k]:=cj (t:=fg) h
  have hd:List.drop k (nth eV t.2.1 (Int.toNat j)).2.1.1=(nth eV t.2.1 (Int.toNat j)).2.1.1[k]::List.drop (k+1) (nth eV t.2.1 (Int.toNat j)).2.1.1:=List.drop_eq_getElem_cons h
  refine⟨(t,j,((k+1:Nat):Int),u,L4,L5,v,am,(r).length+1,is,r++ [(fun x:gf=>x) (nth eV t.2.1 (Int.toNat j)).2.1.1[k]],os),⟨hlen,k+1,by omega,rfl,by rw[List.length_append];rfl,by rw[List.length_append];show(r).length+1≤_;omega,hj,hx⟩,by simp only[Int.toNat_natCast];omega,?_,fun kn kx=> ?_⟩
  ·simp only[ae.L2.add,ae.L2.F,Int.toNat_natCast,hd,List.map_cons,List.length_cons,List.append_assoc,List.singleton_append]
   rw[show ∀a c:Nat,a+1+c=a+(c+1) from fun a c=>by omega]
  ·rw[ae.L2.step,bh hj.1 hj.2,ax,bw (by omega),bh (show(0:Int)≤(k:Int) by omega) (by omega),Int.toNat_natCast,n1]
   simp only[ax]
   have e:=hx _ (List.getElem_mem h)
   have hr:dj (nth eV t.2.1 (Int.toNat j)).2.1.1[k].1.length 8=true:=eF (by omega) (by omega)
   simp only[Nat.zero_add,List.take_zero,List.nil_append,hr,ax,Nat.le_refl,and_self,decide_true,fc]
   rw[eF (by omega) (by omega),N.kk (by omega),List.take_length]
   rfl
 ·right
  obtain rfl:k=((nth eV t.2.1 (Int.toNat j)).2.1.1).length:=by omega
  intro R kn kx
  rw[ae.L2.step,bh hj.1 hj.2,ax,bn (by omega),aw]
  simp only[ae.L2.add,ae.L2.F,Int.toNat_natCast,List.drop_length,List.map_nil,List.append_nil,List.length_nil,Nat.add_zero]
theorem ae.L1.ok:ae.L1.Ok:=by
 refine ae.L1.aG (fun(t,i,u,L3,L,v,is,r)=>t.2.1.length - i.toNat) ?_
 rintro⟨t,i,u,L3,L,v,is,r⟩ ⟨⟨hl,hx⟩,k,hk,rfl,rfl,hrk⟩
 have hl:t.2.1.length≤1000:=hl
 have hk:k≤t.2.1.length:=hk
 have hrk:r.length=k:=hrk
 by_cases h:k < t.2.1.length
 ·left
  have e:=hx _ (List.getElem_mem h)
  have n1:nth eV t.2.1 k=t.2.1[k]:=cj (t:=eV) h
  have hd:t.2.1.drop k=t.2.1[k]::t.2.1.drop (k+1):=List.drop_eq_getElem_cons h
  have e1:(nth eV t.2.1 (Int.toNat (k:Int))).2.1.1=t.2.1[k].2.1.1:=by rw[Int.toNat_natCast,n1]
  refine⟨(t,((k+1:Nat):Int),u,L3,r.length+1,v,is,r++ [t.2.1[k]]),⟨⟨hl,hx⟩,k+1,by omega,rfl,by rw[List.length_append];rfl,by rw[List.length_append];show r.length+1=_;omega⟩,by simp only[Int.toNat_natCast];omega,?_,fun kn kx=> ?_⟩
  ·simp only[ae.L1.add,ae.L1.F,Int.toNat_natCast,hd,List.length_cons,List.append_assoc,List.singleton_append]
   rw[show ∀a c:Nat,a+1+c=a+(c+1) from fun a c=>by omega]
  ·rw[ae.L1.step,bw (by omega),bh (by omega) (by omega),Int.toNat_natCast,n1]
   simp only[ax]
   rw[ae.L2.run (d:=(t,(k:Int),0,u,L3,r.length,v,t.2.1[k].1,0,is,[],r)) ⟨by rw[e1];omega,0,Nat.zero_le _,rfl,rfl,Nat.zero_le _,⟨by show(0:Int)≤(k:Int);omega,by show(k:Int) < (t.2.1.length:Int);omega⟩,by rw[e1];exact e.2⟩]
   simp only[ab,ae.L2.add,ae.L2.F,e1,Int.toNat_zero,List.drop_zero,List.nil_append,Nat.zero_add,List.map_id',Nat.le_refl,and_self,decide_true,ax,fc]
   rw[eF (by omega) (by omega),N.kk (by omega),List.take_length]
   rfl
 ·right
  obtain rfl:k=t.2.1.length:=by omega
  intro R kn kx
  rw[ae.L1.step,bn (by omega),aw]
  simp only[ae.L1.add,ae.L1.F,Int.toNat_natCast,List.drop_length,List.append_nil,List.length_nil,Nat.add_zero]
theorem ae.ok:ae.Ok:=by
 rintro⟨is,os,nt,u⟩ ⟨⟨h1,h2⟩,h3,h4⟩
 have h1:is.length≤1000:=h1
 have h3:os.length≤1000:=h3
 rw[ae.eq,ae.L0.run (d:=((is,os,nt,u),0,(0,()),0,(nt,()),[])) ⟨by show is.length≤_;omega,0,Nat.zero_le _,rfl,rfl,Nat.zero_le _,h2⟩]
 simp only[ab,ae.L0.add,ae.L0.F,Int.toNat_zero,List.drop_zero,List.nil_append,Nat.zero_add,List.map_id']
 rw[ae.L1.run (d:=((is,os,nt,u),0,(0,()),is.length,0,(nt,()),is,[])) ⟨⟨h3,h4⟩,0,Nat.zero_le _,rfl,rfl,rfl⟩]
 simp only[ab,ae.L1.add,ae.L1.F,Int.toNat_zero,List.drop_zero,List.nil_append,Nat.zero_add]
 rfl
noncomputable def ae.E:=Entry.ct [some fD] ae.st ae.aC ae.add ae.F ae.out
noncomputable def ae.call:ae.D→Option ae.X:=bH ae.E ae.st
theorem ae.run:bD ae.call ae.aC ae.add ae.F:=cO (cM [.d fD] fun _=>by kernel_rfl)
noncomputable def ae.sg:SG Tryz.prog:=⟨23,aV,ae.E,.fn 3 (by kernel_rfl) ae.ok (And.intro (.ct ae.L0.ok (by kernel_rfl)) (And.intro (.ct ae.L1.ok (by kernel_rfl)) (And.intro (.ct ae.L2.ok (by kernel_rfl)) trivial)))⟩
set_option synthInstance.maxSize 5000
def oZ:eN:=([],true,())
def ir(r:eN):Prop:=r.1.length≤1000000000∧Bytes r.1
def gw(n:Nat)(r:eN):List Int×eN:=if r.2.1=true∨r.1.length < n then([],oZ) else(r.1.take n,(r.1.drop n,r.2))
def oF(l:List Int):Int:=l.foldl (fun n b=>n*256+b) 0
def iC(r:eN):Int×eN:=(oF (gw 8 r).1,(gw 8 r).2)
theorem uv:ir oZ:=⟨Nat.zero_le _,fun x hx=>by cases hx⟩
theorem kB{n:Nat}{r:eN}(h:ir r):(gw n r).1.length≤n∧Bytes (gw n r).1∧ir (gw n r).2:=by
 unfold gw
 split
 ·exact⟨Nat.zero_le _,fun x hx=>(by cases hx),uv⟩
 ·refine⟨by rw[List.length_take];omega,fun x hx=>h.2 x (List.mem_of_mem_take hx),?_,fun x hx=>h.2 x (List.mem_of_mem_drop hx)⟩
  show(r.1.drop n).length≤_
  rw[List.length_drop]
  have:=h.1
  omega
theorem zK(l:List Int)(b:Int):oF (l++ [b])=oF l*256+b:=by unfold oF;rw[List.foldl_append];rfl
theorem wq:∀(l:List Int) (n:Int) (k:Nat),Bytes l→0≤n→n < 256^k→0≤l.foldl (fun n b=>n*256+b) n∧l.foldl (fun n b=>n*256+b) n < 256^(k+l.length)
 |[],n,k,_,h0,h1=>⟨h0,h1⟩
 |b::l,n,k,hb,h0,h1=>by
  obtain⟨hx1,hx2⟩:=hb b List.mem_cons_self
  have e:(256:Int)^(k+1)=256^k*256:=Int.pow_succ 256 k
  have:=wq l (n*256+b) (k+1) (fun x hx=>hb x (List.mem_cons_of_mem _ hx)) (by omega) (by rw[e];omega)
  rw[show k+(b::l).length=k+1+l.length by rw[List.length_cons];omega]
  exact this
theorem yM{l:List Int}(h:Bytes l):0≤oF l∧oF l < 256^l.length:=by
 have:=wq l 0 0 h (Int.le_refl 0) (by decide)
 rw[Nat.zero_add]at this
 exact this
theorem tG{a b:Nat}(h:a≤b):(256:Int)^a≤256^b:=by
 have:((256^a:Nat):Int)≤((256^b:Nat):Int):=Int.ofNat_le.2 (Nat.pow_le_pow_right (by decide) h)
 rw[Int.natCast_pow,Int.natCast_pow]at this
 exact this
theorem C9{l:List Int}(h:Bytes l)(h8:l.length≤8):g9 (oF l):=by
 have e:=yM h
 have e2:=tG h8
 have e3:(256:Int)^8=18446744073709551616:=rfl
 exact⟨e.1,by omega⟩
theorem qp{r:eN}(h:ir r):g9 (iC r).1∧ir (iC r).2:=⟨C9 (kB h).2.1 (kB h).1,(kB h).2.2⟩
theorem D5{n b:Int}(h0:0≤n)(h1:n < 72057594037927936)(hb:ua b):cn .or .u64 (gq .u64 n 8) (dD .u64 b)=n*256+b:=by
 have e:=(qv (n:=n) (b:=b) ⟨h0,by omega⟩ hb).1
 rw[jN 56 (by rfl) (by omega)]at e
 have p:(2:Int)^56=72057594037927936:=rfl
 rw[p]at e
 omega
abbrev dN.D:=eN
def dN.st:dN.D→SA:=fun o0=>([.ptr (.fE 0) 0 [] 0],[.obj 0 false (.d iY o0)])
abbrev dN.Y:=eN
abbrev dN.X:=eN
def dN.out:dN.X→aZ:=fun x=>⟨.nil,[.obj 0 false (.d iY x)],[]⟩
def dN.add:dN.D→dN.Y→dN.X:=fun o0 y=>y
def dN.aC:dN.D→Prop:=fun _=>True
def dN.F:dN.D→dN.Y:=fun _=>oZ
noncomputable def dN.G:dQ:=eR (P:=Tryz.prog) []
noncomputable def dN.an:eC:= {sR:=[⟨0,[.arr],iY⟩]}
noncomputable def dN.A:= @cH Tryz.prog dN.G dN.an 0 Tryz.f113 _ dN.st
abbrev dN.Ok:=cI @dN.A dN.aC dN.add dN.F dN.out
theorem dN.eq{R:Type}(o0:eN)(k:aZ→Option R):dN.A o0 k=
 k (dN.out (([]:List Int),(true,o0.2.2))):=by kernel_rfl
theorem dN.ok:dN.Ok:=by
 intro o _
 rw[dN.eq]
 rfl
noncomputable def dN.E:=Entry.ct [none] dN.st dN.aC dN.add dN.F dN.out
noncomputable def dN.call:dN.D→Option dN.X:=bH dN.E dN.st
theorem dN.run:bD dN.call dN.aC dN.add dN.F:=cO (cM [.d iY] fun _=>by kernel_rfl)
noncomputable def dN.sg:SG Tryz.prog:=⟨113,aV,dN.E,.fn 0 (by kernel_rfl) dN.ok trivial⟩
abbrev dZ.D:=eN
def dZ.st:dZ.D→SA:=fun o0=>([.ptr (.fE 0) 0 [] 0],[.obj 0 false (.d iY o0)])
abbrev dZ.Y:=Int
abbrev dZ.X:=(eN)×(Int)
def dZ.out:dZ.X→aZ:=fun x=>⟨.d ti x.2,[.obj 0 false (.d iY x.1)],[]⟩
def dZ.add:dZ.D→dZ.Y→dZ.X:=fun o0 y=>(o0,y)
def dZ.aC:dZ.D→Prop:=fun _=>True
def dZ.F:dZ.D→dZ.Y:=fun o=>(o.1.length:Int)
noncomputable def dZ.G:dQ:=eR (P:=Tryz.prog) []
noncomputable def dZ.an:eC:= {}
noncomputable def dZ.A:= @cH Tryz.prog dZ.G dZ.an 0 Tryz.f80 _ dZ.st
abbrev dZ.Ok:=cI @dZ.A dZ.aC dZ.add dZ.F dZ.out
theorem dZ.eq{R:Type}(o0:eN)(k:aZ→Option R):dZ.A o0 k=
 k (dZ.out (o0,(((List.length o0.1):Nat):Int))):=by kernel_rfl
theorem dZ.ok:dZ.Ok:=by
 intro o _
 rw[dZ.eq]
 rfl
noncomputable def dZ.E:=Entry.ct [none] dZ.st dZ.aC dZ.add dZ.F dZ.out
noncomputable def dZ.call:dZ.D→Option dZ.X:=bH dZ.E dZ.st
theorem dZ.run:bD dZ.call dZ.aC dZ.add dZ.F:=cO (cM [.d iY] fun _=>by kernel_rfl)
noncomputable def dZ.sg:SG Tryz.prog:=⟨80,aV,dZ.E,.fn 0 (by kernel_rfl) dZ.ok trivial⟩
abbrev fw.D:=eN
def fw.st:fw.D→SA:=fun o0=>([.ptr (.fE 0) 0 [] 0],[.obj 0 false (.d iY o0)])
abbrev fw.Y:=Bool
abbrev fw.X:=(eN)×(Bool)
def fw.out:fw.X→aZ:=fun x=>⟨.d .bool x.2,[.obj 0 false (.d iY x.1)],[]⟩
def fw.add:fw.D→fw.Y→fw.X:=fun o0 y=>(o0,y)
def fw.aC:fw.D→Prop:=fun _=>True
def fw.F:fw.D→fw.Y:=fun o=> !o.2.1
noncomputable def fw.G:dQ:=eR (P:=Tryz.prog) []
noncomputable def fw.an:eC:= {}
noncomputable def fw.A:= @cH Tryz.prog fw.G fw.an 0 Tryz.f79 _ fw.st
abbrev fw.Ok:=cI @fw.A fw.aC fw.add fw.F fw.out
theorem fw.eq{R:Type}(o0:eN)(k:aZ→Option R):fw.A o0 k=
 k (fw.out (o0,(!o0.2.1))):=by kernel_rfl
theorem fw.ok:fw.Ok:=by
 intro o _
 rw[fw.eq]
 rfl
noncomputable def fw.E:=Entry.ct [none] fw.st fw.aC fw.add fw.F fw.out
noncomputable def fw.call:fw.D→Option fw.X:=bH fw.E fw.st
theorem fw.run:bD fw.call fw.aC fw.add fw.F:=cO (cM [.d iY] fun _=>by kernel_rfl)
noncomputable def fw.sg:SG Tryz.prog:=⟨79,aV,fw.E,.fn 0 (by kernel_rfl) fw.ok trivial⟩
abbrev du.D:=Int×eN
def du.st:du.D→SA:=fun(n,o0)=>([.ptr (.fE 0) 0 [] 0,.d ti n],[.obj 0 false (.d iY o0)])
abbrev du.Y:=Bs×eN
abbrev du.X:=Bs×eN
def du.out:du.X→aZ:=fun x=>⟨.d tB x.1,[.obj 0 false (.d iY x.2)],[]⟩
def du.add:du.D→du.Y→du.X:=fun(n,o0) y=>y
def du.aC:du.D→Prop:=fun(n,o)=>0≤n∧o.1.length≤1000000000
def du.F:du.D→du.Y:=fun(n,o)=>gw n.toNat o
noncomputable def du.G:dQ:=eR (P:=Tryz.prog) [dN.sg,cm.sg]
noncomputable def du.an:eC:= {res:=[some tB],sR:=[⟨0,[.arr],iY⟩]}
noncomputable def du.A:= @cH Tryz.prog du.G du.an 0 Tryz.f114 _ du.st
abbrev du.Ok:=cI @du.A du.aC du.add du.F du.out
theorem du.eq{R:Type}(n:Int)(o0:eN)(k:aZ→Option R):du.A (n,o0) k=
  aK (o0.2.1) (
   aj (dN.call o0) fun x1=>
   k (du.out (([]:List Int),x1))) (
   aK ((mN n (((List.length o0.1):Nat):Int))) (
    aj (dN.call o0) fun x2=>
    k (du.out (([]:List Int),x2))) (
    aK (inc n (((List.length o0.1):Nat):Int)) (
    aj (cm.call (cut o0.1 0 ((Int.toNat n) - 0))) fun x3=>
    aK (inc n (((List.length o0.1):Nat):Int)) (
    aK (decide (0=0∧(0+x3.1)≤(List.length x3.2))) (
    k (du.out ((cut x3.2 0 x3.1),((cut o0.1 (Int.toNat n) ((List.length o0.1) - (Int.toNat n))),o0.2)))) none) none) none)):=by kernel_rfl
theorem du.ok:du.Ok:=by
 rintro⟨n,o⟩ ⟨h0,hl⟩
 have h0:0≤n:=h0
 have hl:o.1.length≤1000000000:=hl
 obtain⟨k,rfl⟩:∃k:Nat,n=k:=⟨n.toNat,by omega⟩
 rw[du.eq]
 simp only[du.add,du.F,gw,Int.toNat_natCast,Nat.sub_zero]
 cases h2:o.2.1
 ·by_cases hn:o.1.length < k
  ·rw[dL (by omega),if_pos (Or.inr hn),dN.run (d:=o) trivial];rfl
  ·have e1:cut o.1 0 k=o.1.take k:=rfl
   have e2:cut o.1 k (o.1.length - k)=o.1.drop k:=by unfold cut;rw[List.take_of_length_le];rw[List.length_drop];omega
   rw[dC (by omega),if_neg (by intro x;rcases x with x | x;exact absurd x (by decide);exact hn x),kH (by omega) (by omega),e1,e2,cm.run (d:=o.1.take k) (by show(o.1.take k).length≤_;rw[List.length_take];omega)]
   simp only[aw,ax,ab,cm.add,cm.F,Nat.zero_add,Nat.le_refl,and_self,decide_true,fc]
 ·rw[ax,if_pos (Or.inl rfl),dN.run (d:=o) trivial];rfl
noncomputable def du.E:=Entry.ct [none,some ti] du.st du.aC du.add du.F du.out
noncomputable def du.call:du.D→Option du.X:=bH du.E du.st
theorem du.run:bD du.call du.aC du.add du.F:=cO (cM [.d ti,.d iY] fun _=>by kernel_rfl)
noncomputable def du.sg:SG Tryz.prog:=⟨114,aV,du.E,.fn 0 (by kernel_rfl) du.ok trivial⟩
abbrev cl.L0.D:=Int×Bs×Int×Int×eN
def cl.L0.st:cl.L0.D→AS:=fun(n,t7,t8,t9,o0_2)=>⟨([.undef,.undef,.undef,.d tu n,.undef,.undef,.undef,.d tB t7,.d ti t8,.d ti t9]++a9 10 []),[.obj 0 false (.d iY o0_2)],(List.replicate 20 [])⟩
abbrev cl.L0.Y0:=Int
abbrev cl.L0.X0:=(eN)×(Int)
def cl.L0.bq:cl.L0.X0→Exit×AS:=fun x=>(.exit 0,⟨([.undef,.undef,.undef,.d tu x.2]++a9 16 []),[.obj 0 false (.d iY x.1)],(List.replicate 20 [])⟩)
abbrev cl.L0.X:=cl.L0.X0
abbrev cl.L0.Y:=cl.L0.Y0
def cl.L0.out:cl.L0.X→Out (Exit×AS):=fun x=> .ok (cl.L0.bq x)
def cl.L0.add:cl.L0.D→cl.L0.Y→cl.L0.X:=fun(n,t7,t8,t9,o0_2) y=>(o0_2,y)
abbrev cl.D:=eN
def cl.st:cl.D→SA:=fun o0=>([.ptr (.fE 0) 0 [] 0],[.obj 0 false (.d iY o0)])
abbrev cl.Y:=Int×eN
abbrev cl.X:=Int×eN
def cl.out:cl.X→aZ:=fun x=>⟨.d tu x.1,[.obj 0 false (.d iY x.2)],[]⟩
def cl.add:cl.D→cl.Y→cl.X:=fun o0 y=>y
def cl.L0.aC:cl.L0.D→Prop:=fun(n,l,m,i,o)=>Bytes l∧l.length≤8∧m=l.length∧∃k:Nat,k≤l.length∧i=k∧n=oF (l.take k)
def cl.L0.F:cl.L0.D→cl.L0.Y:=fun(n,l,m,i,o)=>oF l
def cl.aC:cl.D→Prop:=fun o=>ir o
def cl.F:cl.D→cl.Y:=fun o=>iC o
noncomputable def cl.G:dQ:=eR (P:=Tryz.prog) [du.sg]
noncomputable def cl.L0.E:=bN.ct cl.L0.st cl.L0.aC cl.L0.add cl.L0.F cl.L0.out
noncomputable def cl.L0.call:cl.L0.D→Option cl.L0.X:=dh cl.L0.E cl.L0.st
noncomputable def cl.an:eC:= {loops:=jJ [(3,{bm:=[3,7,8,9]})],outs:=jI [(3,{bm:=[3]},{bm:=[2]})],fG:=kh [(3,cl.L0.E)]}
noncomputable def cl.A:= @cH Tryz.prog cl.G cl.an 0 Tryz.f57 _ cl.st
abbrev cl.Ok:=cI @cl.A cl.aC cl.add cl.F cl.out
noncomputable def cl.L0.R:= @bX Tryz.prog cl.G cl.an 0 Tryz.f57 0 _ cl.L0.st
abbrev cl.L0.Ok:=eA Tryz.prog cl.G cl.an 0 Tryz.f57 0 cl.L0.st cl.L0.aC cl.L0.add cl.L0.F cl.L0.out
theorem cl.L0.run:bD cl.L0.call cl.L0.aC cl.L0.add cl.L0.F:=eG (eE [.d tu,.d tB,.d ti,.d ti,.d iY] fun _=>by kernel_rfl)
theorem cl.L0.aG:fR @cl.L0.R cl.L0.st cl.L0.aC cl.L0.add cl.L0.F cl.L0.bq cl.L0.Ok:=fU
theorem cl.L0.step{R:Type}(n:Int)(t7:Bs)(t8:Int)(t9:Int)(o0_2:eN)(kn:AS→Option R)(kx:Exit→AS→Option R):cl.L0.R (n,t7,t8,t9,o0_2) kn kx=
  aK ((gb t9 t8)) (
   aK (eh t9 (((List.length t7):Nat):Int)) (
   kn (cl.L0.st ((cn .or .u64 (gq .u64 n (8:Int)) (dD .u64 (nth tb t7 (Int.toNat t9)))),t7,t8,(bK .i64 t9 (1:Int)),o0_2))) none) (
   kx (cl.L0.bq (o0_2,n)).1 (cl.L0.bq (o0_2,n)).2):=by kernel_rfl
theorem cl.eq{R:Type}(o0:eN)(k:aZ→Option R):cl.A o0 k=
 aj (du.call ((8:Int),o0)) fun x1=>
 aj (cl.L0.call ((0:Int),x1.1,(((List.length x1.1):Nat):Int),(0:Int),x1.2)) fun x2=>
 k (cl.out (x2.2,x2.1)):=by kernel_rfl
theorem cl.L0.ok:cl.L0.Ok:=by
 refine cl.L0.aG (fun(n,l,m,i,o)=>l.length - i.toNat) ?_
 rintro⟨n,l,m,i,o⟩ ⟨hb,h8,rfl,k,hk,rfl,rfl⟩
 have h8:l.length≤8:=h8
 have hk:k≤l.length:=hk
 by_cases h:k < l.length
 ·left
  have hx:=hb _ (List.getElem_mem h)
  have n1:nth (.int .u8) l k=l[k]:=cj (t:= .int .u8) h
  have ht:(l.take k).length=k:=by rw[List.length_take];omega
  have b0:=yM (l:=l.take k) fun x hx=>hb x (List.mem_of_mem_take hx)
  rw[ht]at b0
  have b1:=tG (show k≤7 by omega)
  have b2:(256:Int)^7=72057594037927936:=rfl
  refine⟨(oF (l.take (k+1)),l,l.length,((k+1:Nat):Int),o),⟨hb,h8,rfl,k+1,by omega,rfl,rfl⟩,by simp only[Int.toNat_natCast];omega,rfl,fun kn kx=> ?_⟩
  rw[cl.L0.step,bw (by omega),bh (by omega) (by omega),Int.toNat_natCast,n1,N.kk (by omega),D5 b0.1 (by omega) hx,List.take_succ_eq_append_getElem h,zK]
  rfl
 ·right
  obtain rfl:k=l.length:=by omega
  intro R kn kx
  rw[cl.L0.step,bn (by omega),aw,List.take_length]
  rfl
theorem cl.ok:cl.Ok:=by
 intro o h
 have h:ir o:=h
 have t:=kB (n:=8) h
 rw[cl.eq,du.run (d:=(8,o)) ⟨by decide,h.1⟩]
 simp only[ab,du.add,du.F]
 rw[show Int.toNat 8=8 from rfl,cl.L0.run (d:=(0,(gw 8 o).1,(gw 8 o).1.length,0,(gw 8 o).2)) ⟨t.2.1,t.1,rfl,0,Nat.zero_le _,rfl,rfl⟩]
 rfl
noncomputable def cl.E:=Entry.ct [none] cl.st cl.aC cl.add cl.F cl.out
noncomputable def cl.call:cl.D→Option cl.X:=bH cl.E cl.st
theorem cl.run:bD cl.call cl.aC cl.add cl.F:=cO (cM [.d iY] fun _=>by kernel_rfl)
noncomputable def cl.sg:SG Tryz.prog:=⟨57,aV,cl.E,.fn 1 (by kernel_rfl) cl.ok (And.intro (.ct cl.L0.ok (by kernel_rfl)) trivial)⟩
abbrev dH.D:=Bs
def dH.st:dH.D→SA:=fun b=>([.d tB b],[])
abbrev dH.Y:=eN
abbrev dH.X:=eN
def dH.out:dH.X→aZ:=fun x=>⟨.ptr (.new 0 0) 0 [] 0,[],[.obj 0 false (.d iY x)]⟩
def dH.add:dH.D→dH.Y→dH.X:=fun b y=>y
def dH.aC:dH.D→Prop:=fun b=>b.length≤1000000000
def dH.F:dH.D→dH.Y:=fun b=>(b,false,())
noncomputable def dH.G:dQ:=eR (P:=Tryz.prog) [cm.sg]
noncomputable def dH.an:eC:= {bI:=[6],sR:=[⟨2,[.arr],iY⟩]}
noncomputable def dH.A:= @cH Tryz.prog dH.G dH.an 0 Tryz.f55 _ dH.st
abbrev dH.Ok:=cI @dH.A dH.aC dH.add dH.F dH.out
theorem dH.eq{R:Type}(b:Bs)(k:aZ→Option R):dH.A b k=
 aj (cm.call b) fun x1=>
 aK (decide (0=0∧(0+x1.1)≤(List.length x1.2))) (
 k (dH.out ((cut x1.2 0 x1.1),(false,())))) none:=by kernel_rfl
theorem dH.ok:dH.Ok:=by
 intro b hb
 have hb:b.length≤1000000000:=hb
 rw[dH.eq,cm.run (d:=b) (by show b.length≤_;omega)]
 simp only[ab,cm.add,cm.F,Nat.zero_add,Nat.le_refl,and_self,decide_true,ax,fc]
 rfl
noncomputable def dH.E:=Entry.ct [some tB] dH.st dH.aC dH.add dH.F dH.out
noncomputable def dH.call:dH.D→Option dH.X:=bH dH.E dH.st
theorem dH.run:bD dH.call dH.aC dH.add dH.F:=cO (cM [.d tB] fun _=>by kernel_rfl)
noncomputable def dH.sg:SG Tryz.prog:=⟨55,aV,dH.E,.fn 0 (by kernel_rfl) dH.ok trivial⟩
abbrev cG.D:=Int×eN
def cG.st:cG.D→SA:=fun(o0,o2)=>([.ptr (.fE 0) 0 [] 0,.ptr (.fE 1) 0 [] 0],[.obj 0 false (.d ti o0),.obj 0 false (.ptr (.fE 2) 0 [] 0),.obj 0 false (.d iY o2)])
abbrev cG.Y:=Bool
abbrev cG.X:=(Int×eN)×(Bool)
def cG.out:cG.X→aZ:=fun x=>⟨.d .bool x.2,[.obj 0 false (.d ti x.1.1),.obj 0 false (.ptr (.fE 2) 0 [] 0),.obj 0 false (.d iY x.1.2)],[]⟩
def cG.add:cG.D→cG.Y→cG.X:=fun(o0,o2) y=>((o0,o2),y)
def cG.aC:cG.D→Prop:=fun(a,o)=>0≤a
def cG.F:cG.D→cG.Y:=fun(a,o)=>decide (o.1.length≤a.toNat∨8 < a.toNat∨(0 < a.toNat∧nth (.int .u8) o.1 a.toNat=0))
noncomputable def cG.G:dQ:=eR (P:=Tryz.prog) []
noncomputable def cG.an:eC:= {}
noncomputable def cG.A:= @cH Tryz.prog cG.G cG.an 0 Tryz.f112 _ cG.st
abbrev cG.Ok:=cI @cG.A cG.aC cG.add cG.F cG.out
theorem cG.eq{R:Type}(o0:Int)(o2:eN)(k:aZ→Option R):cG.A (o0,o2) k=
  aK ((mO o0 (((List.length o2.1):Nat):Int))) (
   k (cG.out ((o0,o2),true))) (
   aK ((mN o0 (8:Int))) (
    k (cG.out ((o0,o2),true))) (
    aK ((mN o0 (0:Int))) (
     aK (eh o0 (((List.length o2.1):Nat):Int)) (
     k (cG.out ((o0,o2),(mM (nth tb o2.1 (Int.toNat o0)) (0:Int))))) none) (
     k (cG.out ((o0,o2),false))))):=by kernel_rfl
theorem cG.ok:cG.Ok:=by
 rintro⟨a,o⟩ h0
 obtain⟨k,rfl⟩:∃k:Nat,a=k:=⟨a.toNat,by have h0:0≤a:=h0;omega⟩
 rw[cG.eq]
 simp only[cG.add,cG.F,Int.toNat_natCast]
 by_cases h1:o.1.length≤k
 ·rw[fX (by omega),aQ (Or.inl h1)];rfl
 by_cases h2:8 < k
 ·rw[eI (by omega),dL (by omega),aQ (Or.inr (Or.inl h2))];rfl
 by_cases h3:0 < k
 ·rw[eI (by omega),dC (by omega),dL (by omega),bh (by omega) (by omega)]
  simp only[aw,ax]
  by_cases h4:nth (.int .u8) o.1 k=0
  ·rw[dm h4,aQ (Or.inr (Or.inr ⟨h3,h4⟩))]
  ·rw[eP h4,aM (by rintro(x | x | x);exact h1 x;exact h2 x;exact h4 x.2)]
 ·rw[eI (by omega),dC (by omega),dC (by omega),aM (by rintro(x | x | x);exact h1 x;exact h2 x;exact h3 x.1)];rfl
noncomputable def cG.E:=Entry.ct [none,none] cG.st cG.aC cG.add cG.F cG.out
noncomputable def cG.call:cG.D→Option cG.X:=bH cG.E cG.st
theorem cG.run:bD cG.call cG.aC cG.add cG.F:=cO (cM [.d ti,.d iY] fun _=>by kernel_rfl)
noncomputable def cG.sg:SG Tryz.prog:=⟨112,aV,cG.E,.fn 0 (by kernel_rfl) cG.ok trivial⟩
set_option synthInstance.maxSize 5000
def kN:List Int→Nat→Int→(Int×Nat)⊕Unit
 |[],_,_=> .inr ()
 |d::l,a,n=>if 8 < a∨(0 < a∧d=0) then .inr () else if d < 128 then .inl (n+d%128*128^a,a+1) else kN l (a+1) (n+d%128*128^a)
def db(r:eN):Int×eN:=match kN r.1 0 0 with | .inl v=>(v.1,(r.1.drop v.2,r.2)) | .inr _=>(0,oZ)
theorem xS(k:Nat):(128:Int)^k=((128^k:Nat):Int):=by rw[Int.natCast_pow];rfl
theorem vE{n d k:Nat}(hk:k≤8)(hn:n < 128^k)(hd:d < 128):cn .or .i64 (n:Int) (gq .i64 (d:Int) ((7*k:Nat):Int))=((n+d*128^k:Nat):Int)∧n+d*128^k < 128^(k+1)∧128^(k+1)≤9223372036854775808:=by
 have p:128^k≤128^8:=Nat.pow_le_pow_right (by decide) hk
 have p8:128^8=72057594037927936:=rfl
 have e1:128^(k+1)=128^k*128:=Nat.pow_succ (n:=128) (m:=k)
 have e2:2^(7*k)=128^k:=by rw[Nat.pow_mul]
 have e3:d*128^k≤127*128^k:=Nat.mul_le_mul_right _ (by omega)
 refine⟨?_,by omega,by omega⟩
 have s:gq .i64 (d:Int) ((7*k:Nat):Int)=((d*128^k:Nat):Int):=by
  rw[gq]
  have e:min (Int.toNat ((7*k:Nat):Int)) IntKind.i64.bits=7*k:=by simp only[IntKind.bits,Int.toNat_natCast];omega
  rw[e,show(2:Int)^(7*k)=((2^(7*k):Nat):Int) by rw[Int.natCast_pow];rfl,e2,←Int.natCast_mul]
  exact jd (by omega) (by omega)
 rw[s]
 have e:(BitVec.ofInt 64 (n:Int) ||| BitVec.ofInt 64 ((d*128^k:Nat):Int)).toNat=n+d*128^k:=by
  rw[BitVec.toNat_or]
  have a:(BitVec.ofInt 64 ((d*128^k:Nat):Int)).toNat=2^(7*k)*d:=by rw[BitVec.ofInt_natCast,BitVec.toNat_ofNat,e2,Nat.mul_comm];exact Nat.mod_eq_of_lt (by rw[Nat.mul_comm];omega)
  have b:(BitVec.ofInt 64 (n:Int)).toNat=n:=by rw[BitVec.ofInt_natCast,BitVec.toNat_ofNat];exact Nat.mod_eq_of_lt (by omega)
  rw[a,b,Nat.or_comm,←Nat.two_pow_add_eq_or_of_lt (by rw[e2];exact hn),e2,Nat.mul_comm]
  omega
 show IntKind.i64.wrap ((BitVec.ofInt 64 (n:Int) ||| BitVec.ofInt 64 ((d*128^k:Nat):Int)).toNat:Int)=_
 rw[e]
 exact jd (by omega) (by omega)
theorem uP:∀(l:List Int) (a:Nat) (n:Int) (v:Int×Nat),Bytes l→a≤9→0≤n→n < 128^a→kN l a n= .inl v→0≤v.1∧v.1 < 9223372036854775808∧a < v.2∧v.2≤a+l.length∧v.2≤9
 |[],a,n,v,_,_,_,_,h=>by cases h
 |d::l,a,n,v,hb,ha,h0,h1,h=>by
  have hx:=hb d List.mem_cons_self
  obtain⟨x1,x2⟩:=hx
  rw[kN]at h
  split at h
  ·cases h
  ·rename_i hc
   have ha8:a≤8:=by omega
   rw[xS]at h1 h
   obtain⟨nn,rfl⟩:∃m:Nat,n=m:=⟨n.toNat,by omega⟩
   obtain⟨dn,hdn⟩:∃m:Nat,d%128=m:=⟨(d%128).toNat,by omega⟩
   have g:=(vE (n:=nn) (d:=dn) ha8 (by omega) (by omega)).2
   rw[hdn]at h
   have ec:((nn:Int)+(dn:Int)*((128^a:Nat):Int))=((nn+dn*128^a:Nat):Int):=by rw[Int.natCast_add,Int.natCast_mul]
   rw[ec]at h
   split at h
   ·cases h
    simp only[List.length_cons]
    exact⟨by omega,by omega,by omega,by omega,by omega⟩
   ·have:=uP l (a+1) _ v (fun x hx=>hb x (List.mem_cons_of_mem _ hx)) (by omega) (by omega) (by rw[xS];omega) h
    simp only[List.length_cons]
    exact⟨this.1,this.2.1,by omega,by omega,this.2.2.2.2⟩
theorem hM{r:eN}(h:ir r):0≤(db r).1∧(db r).1≤9223372036854775807∧ir (db r).2:=by
 unfold db
 cases hf:kN r.1 0 0 with
 |inl v=>
  have:=uP r.1 0 0 v h.2 (by decide) (by decide) (by decide) hf
  refine⟨this.1,by have:=this.2.1;show v.1≤_;omega,?_,fun x hx=>h.2 x (List.mem_of_mem_drop hx)⟩
  show(r.1.drop v.2).length≤_
  rw[List.length_drop]
  have:=h.1
  omega
 |inr _=>exact⟨Int.le_refl 0,(show(0:Int)≤9223372036854775807 by decide),uv⟩
theorem wx:∀(f:Nat) (n:Int) (a:Nat) (m:Int) (rest:List Int),0≤n→n < 128^(f+1)→a+f≤8→(a=0∨0 < n)→
  kN ((eZ f n).1++(eZ f n).2::rest) a m= .inl (m+n*128^a,a+(eZ f n).1.length+1)
 | 0,n,a,m,rest,h0,h1,ha,hp=>by
  have h1:n < 128:=h1
  show kN (n::rest) a m=_
  rw[kN,if_neg (by omega),if_pos h1,Int.emod_eq_of_lt h0 h1]
  rfl
 |f+1,n,a,m,rest,h0,h1,ha,hp=>by
  rw[eZ]
  have e:(128:Int)^(f+1+1)=128^(f+1)*128:=Int.pow_succ 128 (f+1)
  split
  ·rename_i h
   show kN ((n%128+128)::((eZ f (n / 128)).1++(eZ f (n / 128)).2::rest)) a m=_
   rw[kN,if_neg (by omega),if_neg (by omega),wx f (n / 128) (a+1) _ rest (by omega) (by omega) (by omega) (Or.inr (by omega))]
   have e2:(128:Int)^(a+1)=128^a*128:=Int.pow_succ 128 a
   have e3:(n%128+128)%128=n%128:=by omega
   have e4:m+n%128*128^a+n / 128*(128^a*128)=m+n*128^a:=by
    have:n*128^a=(n%128+n / 128*128)*128^a:=by rw[show n%128+n / 128*128=n by omega]
    rw[this,Int.add_mul,Int.mul_assoc (n / 128),Int.mul_comm 128 (128^a),Int.add_assoc]
   rw[e3,e2,e4]
   simp only[List.length_cons]
   rw[show a+1+(eZ f (n / 128)).1.length+1=a+((eZ f (n / 128)).1.length+1)+1 by omega]
  ·rename_i h
   show kN (n::rest) a m=_
   rw[kN,if_neg (by omega),if_pos (by omega),Int.emod_eq_of_lt h0 (by omega)]
   rfl
theorem nu(n:Int)(h:mK n)(rest:List Int)(u:Bool×Unit):db (fj n++rest,u)=(n,(rest,u)):=by
 have h0:=h.1
 have h1:=h.2
 have e8:(128:Int)^(8+1)=9223372036854775808:=rfl
 have e10:(128:Int)^(10+1)=151115727451828646838272:=rfl
 have er:eZ 10 n=eZ 8 n:=nS 10 8 n (by rw[e10];omega) (by rw[e8];omega)
 have el:fj n++rest=(eZ 8 n).1++(eZ 8 n).2::rest:=by unfold fj;rw[er,List.append_assoc];rfl
 have e:=wx 8 n 0 0 rest h0 (by rw[e8];omega) (by decide) (Or.inl rfl)
 unfold db
 show(match kN (fj n++rest) 0 0 with | .inl v=>(v.1,((fj n++rest).drop v.2,u)) | .inr _=>(0,oZ))=_
 rw[el,e]
 show(0+n*128^0,(((eZ 8 n).1++(eZ 8 n).2::rest).drop (0+(eZ 8 n).1.length+1),u))=_
 rw[Int.pow_zero,Int.mul_one,Int.zero_add,Nat.zero_add,List.append_cons,List.drop_left' (by rw[List.length_append];rfl)]
theorem A6(n:Int)(h:g9 n):oF (fL n)=n:=by
 obtain⟨h0,h1⟩:=h
 unfold oF fL
 simp only[List.foldl_cons,List.foldl_nil]
 omega
theorem nG(n:Int)(h:g9 n)(rest:List Int):iC (fL n++rest,false,())=(n,(rest,false,())):=by
 unfold iC gw
 have l8:=bO n
 rw[if_neg (by
  intro x
  rcases x with x | x
  ·have x:false=true:=x
   cases x
  ·have x:(fL n++rest).length < 8:=x
   rw[List.length_append]at x
   omega)]
 show(oF ((fL n++rest).take 8),((fL n++rest).drop 8,false,()))=_
 rw[List.take_left' l8,List.drop_left' l8,A6 n h]
abbrev bG.L0.D:=Int×eN×Int
def bG.L0.st:bG.L0.D→AS:=fun(n,o0_2,n4)=>⟨([.ptr (.fE 0) 0 [] 0,.ptr (.new 1 0) 0 [] 0,.undef,.d ti n,.ptr (.new 4 0) 0 [] 0,.fn 112 (.cons (.ptr (.new 4 0) 0 [] 0) (.cons (.ptr (.new 1 0) 0 [] 0) (.nil)))]++a9 35 []),[.obj 0 false (.d iY o0_2)],([[],[.obj 0 false (.ptr (.fE 0) 0 [] 0)],[],[],[.obj 0 false (.d ti n4)]]++bJ 36 [])⟩
abbrev bG.L0.Y0:=eN
abbrev bG.L0.X0:=eN
def bG.L0.bq:bG.L0.X0→Exit×AS:=fun x=>(.ret,⟨([.ptr (.fE 0) 0 [] 0,.undef,.d ti (0:Int)]++a9 38 []),[.obj 0 false (.d iY x)],(List.replicate 41 [])⟩)
abbrev bG.L0.Y1:=Int×eN×Int
abbrev bG.L0.X1:=Int×eN×Int
def bG.L0.eM:bG.L0.X1→Exit×AS:=fun x=>(.exit 0,⟨([.ptr (.fE 0) 0 [] 0,.ptr (.new 1 0) 0 [] 0,.undef,.d ti x.1,.ptr (.new 4 0) 0 [] 0]++a9 36 []),[.obj 0 false (.d iY x.2.1)],([[],[.obj 0 false (.ptr (.fE 0) 0 [] 0)],[],[],[.obj 0 false (.d ti x.2.2)]]++bJ 36 [])⟩)
abbrev bG.L0.X:=(bG.L0.X0)⊕(bG.L0.X1)
abbrev bG.L0.Y:=(bG.L0.Y0)⊕(bG.L0.Y1)
def bG.L0.out:bG.L0.X→Out (Exit×AS):=fun x=> .br x.isLeft (.get x.getLeft? fun a=> .ok (bG.L0.bq a)) (.get x.getRight? fun b=> .ok (bG.L0.eM b))
def bG.L0.add:bG.L0.D→bG.L0.Y→bG.L0.X:=fun(n,o0_2,n4) y=>match y with | .inl y=> .inl y | .inr z=> .inr (z)
abbrev bG.D:=eN
def bG.st:bG.D→SA:=fun o0=>([.ptr (.fE 0) 0 [] 0],[.obj 0 false (.d iY o0)])
abbrev bG.Y:=Int×eN
abbrev bG.X:=Int×eN
def bG.out:bG.X→aZ:=fun x=>⟨.d ti x.1,[.obj 0 false (.d iY x.2)],[]⟩
def bG.add:bG.D→bG.Y→bG.X:=fun o0 y=>y
def bG.L0.aC:bG.L0.D→Prop:=fun(n,o,i)=>ir o∧∃(k m:Nat),k≤9∧i=k∧n=m∧m < 128^k
def bG.L0.F:bG.L0.D→bG.L0.Y:=fun(n,o,i)=>match kN (o.1.drop i.toNat) i.toNat n with | .inl v=> .inr (v.1,o,(v.2:Int)) | .inr _=> .inl oZ
def bG.aC:bG.D→Prop:=fun o=>ir o
def bG.F:bG.D→bG.Y:=fun o=>db o
noncomputable def bG.G:dQ:=eR (P:=Tryz.prog) [cG.sg,dN.sg]
noncomputable def bG.L0.E:=bN.ct bG.L0.st bG.L0.aC bG.L0.add bG.L0.F bG.L0.out
noncomputable def bG.L0.call:bG.L0.D→Option bG.L0.X:=dh bG.L0.E bG.L0.st
noncomputable def bG.an:eC:= {bI:=[1],loops:=jJ [(3,{bm:=[0,1,3,4,5],sites:=[1,4]})],outs:=jI [(3,{bm:=[0,1,3,4],sites:=[1,4]},{bm:=[0,2]})],fG:=kh [(3,bG.L0.E)],sR:=[⟨0,[.arr],iY⟩]}
noncomputable def bG.A:= @cH Tryz.prog bG.G bG.an 0 Tryz.f56 _ bG.st
abbrev bG.Ok:=cI @bG.A bG.aC bG.add bG.F bG.out
noncomputable def bG.L0.R:= @bX Tryz.prog bG.G bG.an 0 Tryz.f56 0 _ bG.L0.st
abbrev bG.L0.Ok:=eA Tryz.prog bG.G bG.an 0 Tryz.f56 0 bG.L0.st bG.L0.aC bG.L0.add bG.L0.F bG.L0.out
theorem bG.L0.run:bD bG.L0.call bG.L0.aC bG.L0.add bG.L0.F:=eG (eE [.d ti,.d iY,.d ti] fun _=>by kernel_rfl)
theorem bG.L0.aG:iZ @bG.L0.R bG.L0.st bG.L0.aC bG.L0.add bG.L0.F bG.L0.out bG.L0.Ok:=jm
theorem bG.L0.step{R:Type}(n:Int)(o0_2:eN)(n4:Int)(kn:AS→Option R)(kx:Exit→AS→Option R):bG.L0.R (n,o0_2,n4) kn kx=
  aj (cG.call (n4,o0_2)) fun x1=>
  aK (x1.2) (
   aj (dN.call x1.1.2) fun x2=>
   kx (bG.L0.bq x2).1 (bG.L0.bq x2).2) (
   aK (eh x1.1.1 (((List.length x1.1.2.1):Nat):Int)) (
   aK (gI (eS .i64 (7:Int) x1.1.1)) (
   aK ((gb (nth tb x1.1.2.1 (Int.toNat x1.1.1)) (128:Int))) (
    kx (bG.L0.eM ((cn .or .i64 n (gq .i64 (dD .i64 (iX (nth tb x1.1.2.1 (Int.toNat x1.1.1)) (128:Int))) (eS .i64 (7:Int) x1.1.1))),x1.1.2,(bK .i64 x1.1.1 (1:Int)))).1 (bG.L0.eM ((cn .or .i64 n (gq .i64 (dD .i64 (iX (nth tb x1.1.2.1 (Int.toNat x1.1.1)) (128:Int))) (eS .i64 (7:Int) x1.1.1))),x1.1.2,(bK .i64 x1.1.1 (1:Int)))).2) (
    kn (bG.L0.st ((cn .or .i64 n (gq .i64 (dD .i64 (iX (nth tb x1.1.2.1 (Int.toNat x1.1.1)) (128:Int))) (eS .i64 (7:Int) x1.1.1))),x1.1.2,(bK .i64 x1.1.1 (1:Int)))))) none) none):=by kernel_rfl
theorem bG.eq{R:Type}(o0:eN)(k:aZ→Option R):bG.A o0 k=
  aj (bG.L0.call ((0:Int),o0,(0:Int))) fun x3=>
  aK (x3.isLeft) (
   aj (x3.getLeft?) fun a4=>
   k (bG.out ((0:Int),a4))) (
   aj (x3.getRight?) fun b5=>
   aK (inc b5.2.2 (((List.length b5.2.1.1):Nat):Int)) (
   k (bG.out (b5.1,((cut b5.2.1.1 (Int.toNat b5.2.2) ((List.length b5.2.1.1) - (Int.toNat b5.2.2))),b5.2.1.2)))) none):=by kernel_rfl
theorem bG.L0.ok:bG.L0.Ok:=by
 refine bG.L0.aG (fun(n,o,i)=>9 - i.toNat) ?_
 rintro⟨n,o,i⟩ ⟨hr,k,m,hk,rfl,rfl,hm⟩
 have hk:k≤9:=hk
 have hr:ir o:=hr
 by_cases hw:o.1.length≤k∨8 < k∨(0 < k∧nth (.int .u8) o.1 k=0)
 ·right
  have hf:kN (o.1.drop k) k (m:Int)= .inr ():=by
   by_cases h:k < o.1.length
   ·have n1:nth (.int .u8) o.1 k=o.1[k]:=cj (t:= .int .u8) h
    rw[List.drop_eq_getElem_cons h,kN,if_pos (by rw[n1]at hw;rcases hw with x | x | x;exact absurd x (by omega);exact Or.inl x;exact Or.inr x)]
   ·rw[List.drop_of_length_le (by omega)];rfl
  refine⟨bG.L0.bq oZ,?_,fun kn kx=> ?_⟩
  ·simp only[bG.L0.add,bG.L0.F,Int.toNat_natCast,hf]
   rfl
  ·rw[bG.L0.step,cG.run (d:=((k:Int),o)) (Int.natCast_nonneg k)]
   simp only[ab,cG.add,cG.F,Int.toNat_natCast]
   rw[aQ hw,ax,dN.run (d:=o) trivial]
   rfl
 ·have h:k < o.1.length:=by omega
  have hx:=hr.2 _ (List.getElem_mem h)
  obtain⟨x1,x2⟩:=hx
  have n1:nth (.int .u8) o.1 k=o.1[k]:=cj (t:= .int .u8) h
  have hc:¬(8 < k∨(0 < k∧o.1[k]=0)):=fun x=>hw (x.elim (fun y=> .inr (.inl y)) fun y=> .inr (.inr ⟨y.1,n1.trans y.2⟩))
  obtain⟨dn,hdn⟩:∃d:Nat,o.1[k]=d:=⟨o.1[k].toNat,by omega⟩
  have g:=vE (n:=m) (d:=dn%128) (k:=k) (by omega) hm (by omega)
  have step:∀ {R:Type} (kn:AS→Option R) (kx:Exit→AS→Option R),bG.L0.R ((m:Int),o,(k:Int)) kn kx=aK (gb o.1[k] 128) (kx (bG.L0.eM (((m+dn%128*128^k:Nat):Int),o,((k+1:Nat):Int))).1 (bG.L0.eM (((m+dn%128*128^k:Nat):Int),o,((k+1:Nat):Int))).2) (kn (bG.L0.st (((m+dn%128*128^k:Nat):Int),o,((k+1:Nat):Int)))):=by
   intro R kn kx
   rw[bG.L0.step,cG.run (d:=((k:Int),o)) (Int.natCast_nonneg k)]
   simp only[ab,cG.add,cG.F,Int.toNat_natCast]
   rw[aM hw,aw,bh (by omega) (by omega),n1,hdn,N.Dy (by omega),jW (by omega),N.ED,N.cN (by omega),g.1,N.kk (by omega)]
   rfl
  have ef:kN (o.1.drop k) k (m:Int)=if o.1[k] < 128 then .inl (((m+dn%128*128^k:Nat):Int),k+1) else kN (o.1.drop (k+1)) (k+1) ((m+dn%128*128^k:Nat):Int):=by
   have ec:(m:Int)+o.1[k]%128*128^k=((m+dn%128*128^k:Nat):Int):=by rw[hdn,xS,Int.natCast_add,Int.natCast_mul];rfl
   rw[List.drop_eq_getElem_cons h,kN,if_neg hc,ec]
  by_cases hl:o.1[k] < 128
  ·right
   refine⟨bG.L0.eM (((m+dn%128*128^k:Nat):Int),o,((k+1:Nat):Int)),?_,fun kn kx=> ?_⟩
   ·simp only[bG.L0.add,bG.L0.F,Int.toNat_natCast,ef,if_pos hl]
    rfl
   ·rw[step,bw hl,ax]
  ·left
   refine⟨(((m+dn%128*128^k:Nat):Int),o,((k+1:Nat):Int)),⟨hr,k+1,_,by omega,rfl,rfl,g.2.1⟩,by simp only[Int.toNat_natCast];omega,?_,fun kn kx=> ?_⟩
   ·simp only[bG.L0.add,bG.L0.F,Int.toNat_natCast,ef,if_neg hl]
   ·rw[step,bn hl,aw]
theorem bG.ok:bG.Ok:=by
 intro o h
 have h:ir o:=h
 rw[bG.eq,bG.L0.run (d:=(0,o,0)) ⟨h,0,0,by decide,rfl,rfl,by decide⟩]
 simp only[ab,bG.L0.add,bG.L0.F,Int.toNat_zero,List.drop_zero,bG.add,bG.F,db]
 cases hf:kN o.1 0 0 with
 |inl v=>
  have g:=uP o.1 0 0 v h.2 (by decide) (by decide) (by decide) hf
  have e2:cut o.1 v.2 (o.1.length - v.2)=o.1.drop v.2:=by unfold cut;rw[List.take_of_length_le];rw[List.length_drop];omega
  simp only[Sum.isLeft_inr,Sum.getRight?_inr,aw,ab,Int.toNat_natCast]
  rw[kH (by omega) (by omega),ax,e2]
 |inr _=>rfl
noncomputable def bG.E:=Entry.ct [none] bG.st bG.aC bG.add bG.F bG.out
noncomputable def bG.call:bG.D→Option bG.X:=bH bG.E bG.st
theorem bG.run:bD bG.call bG.aC bG.add bG.F:=cO (cM [.d iY] fun _=>by kernel_rfl)
noncomputable def bG.sg:SG Tryz.prog:=⟨56,aV,bG.E,.fn 1 (by kernel_rfl) bG.ok (And.intro (.ct bG.L0.ok (by kernel_rfl)) trivial)⟩
end Go.Ab
