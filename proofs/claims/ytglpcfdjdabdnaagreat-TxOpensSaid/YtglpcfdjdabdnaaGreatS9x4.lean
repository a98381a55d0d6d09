/-
  Made short by a program of mine (wip/tools/mini.py).
-/
import Derived.Test.YtglpcfdjdabdnaaGreatS9x3
set_option linter.unusedVariables false
set_option linter.unusedSimpArgs false
namespace Go.Ab
open Go.Proofs
set_option maxRecDepth 100000
set_option linter.unusedVariables false
set_option linter.unusedSimpArgs false
set_option synthInstance.maxSize 5000
abbrev cO.D:=Bs
def cO.st:cO.D→SA:=fun sv=>([.d tU sv],[])
abbrev cO.Y:=Bs
abbrev cO.X:=Bs
def cO.out:cO.X→a9:=fun x=>⟨.d tU x,[],[]⟩
def cO.add:cO.D→cO.Y→cO.X:=fun sv y=>y
def cO.aB:cO.D→Prop:=fun l=>l.length≤1000000
def cO.F:cO.D→cO.Y:=fun l=>l
noncomputable def cO.G:dS:=eR (P:=Tryz.prog) []
noncomputable def cO.an:eA:= {bI:=[5],res:=[some tU]}
noncomputable def cO.A:= @cJ Tryz.prog cO.G cO.an 0 Tryz.f135 _ cO.st
abbrev cO.Ok:=cK @cO.A cO.aB cO.add cO.F cO.out
theorem cO.eq{R:Type}(sv:Bs)(k:a9→Option R):cO.A sv k=
  aJ (decide (0 < (List.length sv))) (
   aJ (dm (0+(List.length sv)) 8) (
   aJ (decide (0=0∧(0+(0+(List.length sv)))≤(List.length ((List.take 0 (List.replicate 0 (0:Int)))++sv)))) (
   k (cO.out (cut ((List.take 0 (List.replicate 0 (0:Int)))++sv) 0 (0+(List.length sv))))) none) none) (
   nd (
    k (cO.out ([]:List Int))) (
    aJ (dm (0+(List.length sv)) 8) (
    aJ (decide (0=0∧(0+(0+(List.length sv)))≤(List.length ((List.take 0 (List.replicate 0 (0:Int)))++sv)))) (
    k (cO.out (cut ((List.take 0 (List.replicate 0 (0:Int)))++sv) 0 (0+(List.length sv))))) none) none)):=by kernel_rfl
theorem cO.ok:cO.Ok:=by
 intro l hl
 have hl:l.length≤1000000:=hl
 have hr:dm l.length 8=true:=eE (by omega) (by omega)
 have e0:(List.take 0 (List.replicate 0 0):List Int)=[]:=rfl
 rw[cO.eq]
 simp only[Nat.zero_add,hr,av,e0,List.nil_append,Nat.le_refl,and_self,decide_true,fg,cO.add,cO.F]
 by_cases h:0 < l.length
 ·simp only[aO h,av]
 ·have:l=[]:=List.eq_nil_of_length_eq_zero (by omega)
  subst this
  simp only[List.length_nil,nU,aM (Nat.lt_irrefl 0),ay]
noncomputable def cO.E:=Entry.cz [some tU] cO.st cO.aB cO.add cO.F cO.out
noncomputable def cO.call:cO.D→Option cO.X:=bH cO.E cO.st
theorem cO.run:bC cO.call cO.aB cO.add cO.F:=cQ (cP [.d tU] fun _=>by kernel_rfl)
noncomputable def cO.sg:SG Tryz.prog:=⟨135,aU,cO.E,.fn 0 (by kernel_rfl) cO.ok trivial⟩
def hJ(l:List Int):Lk:=([(l,0,0,0,())],())
def gM(own rev delay:Int):Lk:=([([rev],0,0,0,()),([own],0,delay,0,())],())
def jJ(own:Int):Lk:=([([own],0,0,0,()),([],0,16,0,())],())
abbrev fq.D:=Bs
def fq.st:fq.D→SA:=fun l=>([.d tU l],[])
abbrev fq.Y:=Lk
abbrev fq.X:=Lk
def fq.out:fq.X→a9:=fun x=>⟨.d jo x,[],[]⟩
def fq.add:fq.D→fq.Y→fq.X:=fun l y=>y
def fq.aB:fq.D→Prop:=fun l=>l.length≤1000000
def fq.F:fq.D→fq.Y:=fun l=>hJ l
noncomputable def fq.G:dS:=eR (P:=Tryz.prog) [cO.sg]
noncomputable def fq.an:eA:= {}
noncomputable def fq.A:= @cJ Tryz.prog fq.G fq.an 0 Tryz.f107 _ fq.st
abbrev fq.Ok:=cK @fq.A fq.aB fq.add fq.F fq.out
theorem fq.eq{R:Type}(l:Bs)(k:a9→Option R):fq.A l k=
 ah (cO.call l) fun x1=>
 k (fq.out ([(x1,((0:Int),((0:Int),((0:Int),()))))],())):=by kernel_rfl
theorem fq.ok:fq.Ok:=by
 intro l hl
 rw[fq.eq,cO.run (d:=l) hl]
 rfl
noncomputable def fq.E:=Entry.cz [some tU] fq.st fq.aB fq.add fq.F fq.out
noncomputable def fq.call:fq.D→Option fq.X:=bH fq.E fq.st
theorem fq.run:bC fq.call fq.aB fq.add fq.F:=cQ (cP [.d tU] fun _=>by kernel_rfl)
noncomputable def fq.sg:SG Tryz.prog:=⟨107,aU,fq.E,.fn 0 (by kernel_rfl) fq.ok trivial⟩
abbrev fa.D:=Int
def fa.st:fa.D→SA:=fun p=>([.d tu p],[])
abbrev fa.Y:=Lk
abbrev fa.X:=Lk
def fa.out:fa.X→a9:=fun x=>⟨.d jo x,[],[]⟩
def fa.add:fa.D→fa.Y→fa.X:=fun p y=>y
def fa.aB:fa.D→Prop:=fun _=>True
def fa.F:fa.D→fa.Y:=fun p=>hJ [p]
noncomputable def fa.G:dS:=eR (P:=Tryz.prog) [fq.sg]
noncomputable def fa.an:eA:= {}
noncomputable def fa.A:= @cJ Tryz.prog fa.G fa.an 0 Tryz.f48 _ fa.st
abbrev fa.Ok:=cK @fa.A fa.aB fa.add fa.F fa.out
theorem fa.eq{R:Type}(p:Int)(k:a9→Option R):fa.A p k=
 ah (fq.call [p]) fun x1=>
 k (fa.out x1):=by kernel_rfl
theorem fa.ok:fa.Ok:=by
 intro p _
 rw[fa.eq,fq.run (d:=[p]) (by show [p].length≤_;simp)]
 rfl
noncomputable def fa.E:=Entry.cz [some tu] fa.st fa.aB fa.add fa.F fa.out
noncomputable def fa.call:fa.D→Option fa.X:=bH fa.E fa.st
theorem fa.run:bC fa.call fa.aB fa.add fa.F:=cQ (cP [.d tu] fun _=>by kernel_rfl)
noncomputable def fa.sg:SG Tryz.prog:=⟨48,aU,fa.E,.fn 0 (by kernel_rfl) fa.ok trivial⟩
abbrev dG.D:=Int×Int
def dG.st:dG.D→SA:=fun(a,b)=>([.d tu a,.d tu b],[])
abbrev dG.Y:=Lk
abbrev dG.X:=Lk
def dG.out:dG.X→a9:=fun x=>⟨.d jo x,[],[]⟩
def dG.add:dG.D→dG.Y→dG.X:=fun(a,b) y=>y
def dG.aB:dG.D→Prop:=fun _=>True
def dG.F:dG.D→dG.Y:=fun(p,q)=>hJ [p,q]
noncomputable def dG.G:dS:=eR (P:=Tryz.prog) [fq.sg]
noncomputable def dG.an:eA:= {}
noncomputable def dG.A:= @cJ Tryz.prog dG.G dG.an 0 Tryz.f49 _ dG.st
abbrev dG.Ok:=cK @dG.A dG.aB dG.add dG.F dG.out
theorem dG.eq{R:Type}(a:Int)(b:Int)(k:a9→Option R):dG.A (a,b) k=
 ah (fq.call [a,b]) fun x1=>
 k (dG.out x1):=by kernel_rfl
theorem dG.ok:dG.Ok:=by
 rintro⟨p,q⟩ _
 rw[dG.eq,fq.run (d:=[p,q]) (by show [p,q].length≤_;simp)]
 rfl
noncomputable def dG.E:=Entry.cz [some tu,some tu] dG.st dG.aB dG.add dG.F dG.out
noncomputable def dG.call:dG.D→Option dG.X:=bH dG.E dG.st
theorem dG.run:bC dG.call dG.aB dG.add dG.F:=cQ (cP [.d tu,.d tu] fun _=>by kernel_rfl)
noncomputable def dG.sg:SG Tryz.prog:=⟨49,aU,dG.E,.fn 0 (by kernel_rfl) dG.ok trivial⟩
abbrev dN.D:=Int×Int×Int
def dN.st:dN.D→SA:=fun(own,rev,delay)=>([.d tu own,.d tu rev,.d ti delay],[])
abbrev dN.Y:=Lk
abbrev dN.X:=Lk
def dN.out:dN.X→a9:=fun x=>⟨.d jo x,[],[]⟩
def dN.add:dN.D→dN.Y→dN.X:=fun(own,rev,delay) y=>y
def dN.aB:dN.D→Prop:=fun _=>True
def dN.F:dN.D→dN.Y:=fun(o,r,d)=>gM o r d
noncomputable def dN.G:dS:=eR (P:=Tryz.prog) []
noncomputable def dN.an:eA:= {}
noncomputable def dN.A:= @cJ Tryz.prog dN.G dN.an 0 Tryz.f50 _ dN.st
abbrev dN.Ok:=cK @dN.A dN.aB dN.add dN.F dN.out
theorem dN.eq{R:Type}(own:Int)(rev:Int)(delay:Int)(k:a9→Option R):dN.A (own,rev,delay) k=
 k (dN.out ([([rev],((0:Int),((0:Int),((0:Int),())))),([own],((0:Int),(delay,((0:Int),()))))],())):=by kernel_rfl
theorem dN.ok:dN.Ok:=by
 rintro⟨o,r,d⟩ _
 rw[dN.eq]
 rfl
noncomputable def dN.E:=Entry.cz [some tu,some tu,some ti] dN.st dN.aB dN.add dN.F dN.out
noncomputable def dN.call:dN.D→Option dN.X:=bH dN.E dN.st
theorem dN.run:bC dN.call dN.aB dN.add dN.F:=cQ (cP [.d tu,.d tu,.d ti] fun _=>by kernel_rfl)
noncomputable def dN.sg:SG Tryz.prog:=⟨50,aU,dN.E,.fn 0 (by kernel_rfl) dN.ok trivial⟩
abbrev cq.D:=Int
def cq.st:cq.D→SA:=fun own=>([.d tu own],[])
abbrev cq.Y:=Lk
abbrev cq.X:=Lk
def cq.out:cq.X→a9:=fun x=>⟨.d jo x,[],[]⟩
def cq.add:cq.D→cq.Y→cq.X:=fun own y=>y
def cq.aB:cq.D→Prop:=fun _=>True
def cq.F:cq.D→cq.Y:=fun o=>jJ o
noncomputable def cq.G:dS:=eR (P:=Tryz.prog) []
noncomputable def cq.an:eA:= {}
noncomputable def cq.A:= @cJ Tryz.prog cq.G cq.an 0 Tryz.f53 _ cq.st
abbrev cq.Ok:=cK @cq.A cq.aB cq.add cq.F cq.out
theorem cq.eq{R:Type}(own:Int)(k:a9→Option R):cq.A own k=
 k (cq.out ([([own],((0:Int),((0:Int),((0:Int),())))),(([]:List Int),((0:Int),((16:Int),((0:Int),()))))],())):=by kernel_rfl
theorem cq.ok:cq.Ok:=by
 intro o _
 rw[cq.eq]
 rfl
noncomputable def cq.E:=Entry.cz [some tu] cq.st cq.aB cq.add cq.F cq.out
noncomputable def cq.call:cq.D→Option cq.X:=bH cq.E cq.st
theorem cq.run:bC cq.call cq.aB cq.add cq.F:=cQ (cP [.d tu] fun _=>by kernel_rfl)
noncomputable def cq.sg:SG Tryz.prog:=⟨53,aU,cq.E,.fn 0 (by kernel_rfl) cq.ok trivial⟩
abbrev aQ.L0.D:=Bs×Bs×Int×Int×(Int×Unit)×Int×Nat×(Int×Unit)×(List Sg)
def aQ.L0.st:aQ.L0.D→AS:=fun(keys_2,m_2,i,n8,n8_2,n9,n9L,n9_2,n29)=>⟨([.undef,.d tU keys_2]++bg 4 ([.eG tH m_2,.undef,.ptr (.new 8 0) 0 [] 0,.ptr (.new 9 0) 0 [] 0,.d ti i]++bg 21 [])),[],(bN 8 ([[.obj 0 false (.pr (.d ti n8) (.pr (.cY) (.d (.pair tu .unit) n8_2)))],[.obj 0 false (.pr (.d ti n9) (.pr (.cf (.new 29 0) 0 [] 0 0 n9L) (.d (.pair tu .unit) n9_2)))]]++bN 19 [[.obj 0 false (.vec 60 jm n29)],[],[]]))⟩
abbrev aQ.L0.Y0:=Nat×(List Sg)
abbrev aQ.L0.X0:=(Int×(Int×Unit)×Int×(Int×Unit))×(Nat×(List Sg))
def aQ.L0.bt:aQ.L0.X0→Exit×AS:=fun x=>(.exit 0,⟨(bg 8 ([.ptr (.new 8 0) 0 [] 0,.ptr (.new 9 0) 0 [] 0]++bg 22 [])),[],(bN 8 ([[.obj 0 false (.pr (.d ti x.1.1) (.pr (.cY) (.d (.pair tu .unit) x.1.2.1)))],[.obj 0 false (.pr (.d ti x.1.2.2.1) (.pr (.cf (.new 29 0) 0 [] 0 0 x.2.1) (.d (.pair tu .unit) x.1.2.2.2)))]]++bN 19 [[.obj 0 false (.vec 60 jm x.2.2)],[],[]]))⟩)
abbrev aQ.L0.X:=aQ.L0.X0
abbrev aQ.L0.Y:=aQ.L0.Y0
def aQ.L0.out:aQ.L0.X→Out (Exit×AS):=fun x=> .ok (aQ.L0.bt x)
def aQ.L0.add:aQ.L0.D→aQ.L0.Y→aQ.L0.X:=fun(keys_2,m_2,i,n8,n8_2,n9,n9L,n9_2,n29) y=>((n8,n8_2,n9,n9_2),y)
abbrev aQ.D:=Int×Bs×Bs×Int
def aQ.st:aQ.D→SA:=fun(branch,keys,m,secret)=>([.d ti branch,.d tU keys,.d tH m,.d tu secret],[])
abbrev aQ.Y:=l7
abbrev aQ.X:=l7
def aQ.out:aQ.X→a9:=fun x=>⟨.d s7 x,[],[]⟩
def aQ.add:aQ.D→aQ.Y→aQ.X:=fun(branch,keys,m,secret) y=>y
def aQ.L0.aB:aQ.L0.D→Prop:=fun(ks,m,i,a,b,c,n,d,l)=>iS ks∧Sm m∧ks.length≤1000000∧∃k:Nat,k≤ks.length∧i=k∧k=n∧l=(ks.take k).map fun k=>eF k m
def aQ.L0.F:aQ.L0.D→aQ.L0.Y:=fun(ks,m,i,a,b,c,n,d,l)=>(ks.length,ks.map fun k=>eF k m)
def e7(branch:Int)(ks:List Int)(m:List Int)(secret:Int):l7:=(branch,ks.map (fun k=>eF k m),secret,())
def aQ.aB:aQ.D→Prop:=fun(b,ks,m,s)=>iS ks∧Sm m∧ks.length≤1000000
def aQ.F:aQ.D→aQ.Y:=fun(b,ks,m,s)=>e7 b ks m s
noncomputable def aQ.G:dS:=eR (P:=Tryz.prog) [dC.sg]
noncomputable def aQ.L0.E:=bO.cz aQ.L0.st aQ.L0.aB aQ.L0.add aQ.L0.F aQ.L0.out
noncomputable def aQ.L0.call:aQ.L0.D→Option aQ.L0.X:=dk aQ.L0.E aQ.L0.st
noncomputable def aQ.an:eA:= {loops:=jY [(3,{bm:=[1,6,8,9,10],sites:=[8,9,29],ix:=[⟨9,[.snd,.fst],29,51⟩]})],outs:=jX [(3,{bm:=[8,9],sites:=[8,9,29]},{bm:=[8]})],fJ:=kF [(3,aQ.L0.E)],res:=[some s7]}
noncomputable def aQ.A:= @cJ Tryz.prog aQ.G aQ.an 0 Tryz.f52 _ aQ.st
abbrev aQ.Ok:=cK @aQ.A aQ.aB aQ.add aQ.F aQ.out
noncomputable def aQ.L0.R:= @cg Tryz.prog aQ.G aQ.an 0 Tryz.f52 0 _ aQ.L0.st
abbrev aQ.L0.Ok:=eB Tryz.prog aQ.G aQ.an 0 Tryz.f52 0 aQ.L0.st aQ.L0.aB aQ.L0.add aQ.L0.F aQ.L0.out
theorem aQ.L0.run:bC aQ.L0.call aQ.L0.aB aQ.L0.add aQ.L0.F:=eI (eD [.d tU,.d tH,.d ti,.d ti,.d (.pair tu .unit),.d ti,.n,.d (.pair tu .unit),.d (.slice jm)] fun _=>by kernel_rfl)
theorem aQ.L0.aG:fR @aQ.L0.R aQ.L0.st aQ.L0.aB aQ.L0.add aQ.L0.F aQ.L0.bt aQ.L0.Ok:=fV
theorem aQ.L0.step{R:Type}(keys_2:Bs)(m_2:Bs)(i:Int)(n8:Int)(n8_2:(Int×Unit))(n9:Int)(n9L:Nat)(n9_2:(Int×Unit))(n29:(List Sg))(kn:AS→Option R)(kx:Exit→AS→Option R):aQ.L0.R (keys_2,m_2,i,n8,n8_2,n9,n9L,n9_2,n29) kn kx=
  aJ ((fZ i (((List.length keys_2):Nat):Int))) (
   aJ (ei i (((List.length keys_2):Nat):Int)) (
   ah (dC.call ((nth tu keys_2 (Int.toNat i)),m_2)) fun x1=>
   aJ (decide (n9L≤(List.length n29))) (
   aJ (dm (n9L+1) 16) (
   kn (aQ.L0.st (keys_2,m_2,(bM .i64 i (1:Int)),n8,n8_2,n9,(n9L+1),n9_2,((List.take n9L n29)++ [x1])))) none) none) none) (
   kx (aQ.L0.bt ((n8,n8_2,n9,n9_2),(n9L,n29))).1 (aQ.L0.bt ((n8,n8_2,n9,n9_2),(n9L,n29))).2):=by kernel_rfl
theorem aQ.eq{R:Type}(branch:Int)(keys:Bs)(m:Bs)(secret:Int)(k:a9→Option R):aQ.A (branch,keys,m,secret) k=
 ah (aQ.L0.call (keys,m,(0:Int),(0:Int),((0:Int),()),branch,0,(secret,()),([]:List Sg))) fun x3=>
 aJ (decide (0=0∧(0+x3.2.1)≤(List.length x3.2.2))) (
 k (aQ.out (x3.1.2.2.1,((cut x3.2.2 0 x3.2.1),x3.1.2.2.2)))) none:=by kernel_rfl
theorem aQ.L0.ok:aQ.L0.Ok:=by
 refine aQ.L0.aG (fun(ks,m,i,a,b,c,n,d,l)=>ks.length - i.toNat) ?_
 rintro⟨ks,m,i,a,b,c,n,d,l⟩ ⟨hl,hm,hb,k,hk,rfl,rfl,rfl⟩
 have hb:ks.length≤1000000:=hb
 have hk:k≤ks.length:=hk
 have ll:((ks.take k).map fun k=>eF k m).length=k:=by rw[List.length_map,List.length_take];omega
 by_cases h:k < ks.length
 ·left
  have hx:=hl _ (List.getElem_mem h)
  have n1:nth (.int .u64) ks k=ks[k]:=cC (t:= .int .u64) h
  refine⟨(ks,m,((k+1:Nat):Int),a,b,c,k+1,d,(ks.take (k+1)).map fun k=>eF k m),⟨hl,hm,hb,k+1,by omega,rfl,rfl,rfl⟩,by simp only[Int.toNat_natCast];omega,rfl,fun kn kx=> ?_⟩
  rw[aQ.L0.step]
  simp(disch:=omega) only[↓S1,↓if_pos,↓if_neg,if_pos,if_neg,if_true,if_false,S2,n1]
  rw[dC.run (d:=(ks[k],m)) ⟨hx,hm⟩]
  have e:(ks.take (k+1)).map (fun k=>eF k m)=(ks.take k).map (fun k=>eF k m)++ [eF ks[k] m]:=by rw[List.take_succ_eq_append_getElem h,List.map_append];rfl
  rw[e]
  simp(disch:=omega) only[↓S1,↓if_pos,↓if_neg,if_pos,if_neg,if_true,if_false,S2,dC.add,dC.F,ll,Nat.le_refl,List.take_of_length_le (Nat.le_of_eq ll)]
 ·right
  obtain rfl:k=ks.length:=by omega
  intro R kn kx
  rw[aQ.L0.step]
  simp(disch:=omega) only[↓S1,↓if_pos,↓if_neg,if_pos,if_neg,if_true,if_false,S2,aQ.L0.add,aQ.L0.F,List.take_length]
theorem aQ.ok:aQ.Ok:=by
 rintro⟨b,ks,m,s⟩ ⟨hl,hm,hb⟩
 rw[aQ.eq,aQ.L0.run (d:=(ks,m,0,0,(0,()),b,0,(s,()),[])) ⟨hl,hm,hb,0,by omega,rfl,rfl,rfl⟩]
 simp only[aa,aQ.L0.add,aQ.L0.F,List.length_map,Nat.zero_add,Nat.le_refl,and_self,decide_true,av]
 rw[fg (l:=List.map (fun k=>eF k m) ks) (by rw[List.length_map])]
 rfl
noncomputable def aQ.E:=Entry.cz [some ti,some tU,some tH,some tu] aQ.st aQ.aB aQ.add aQ.F aQ.out
noncomputable def aQ.call:aQ.D→Option aQ.X:=bH aQ.E aQ.st
theorem aQ.run:bC aQ.call aQ.aB aQ.add aQ.F:=cQ (cP [.d ti,.d tU,.d tB,.d tu] fun _=>by kernel_rfl)
noncomputable def aQ.sg:SG Tryz.prog:=⟨52,aU,aQ.E,.fn 1 (by kernel_rfl) aQ.ok (And.intro (.cz aQ.L0.ok (by kernel_rfl)) trivial)⟩
set_option synthInstance.maxSize 5000
abbrev bZ.L0.D:=Lk×Int
def bZ.L0.st:bZ.L0.D→AS:=fun(l_2,i)=>⟨([.undef,.eG jo l_2,.undef,.d ti i]++bg 23 []),[],(List.replicate 27 [])⟩
abbrev bZ.L0.Y0:=Unit
abbrev bZ.L0.X0:=Unit
def bZ.L0.bt:bZ.L0.X0→Exit×AS:=fun x=>(.ret,⟨([.undef,.undef,.d .bool false]++bg 24 []),[],(List.replicate 27 [])⟩)
abbrev bZ.L0.Y1:=Unit
abbrev bZ.L0.X1:=Lk
def bZ.L0.eS:bZ.L0.X1→Exit×AS:=fun x=>(.exit 0,⟨([.undef,.eG jo x]++bg 25 []),[],(List.replicate 27 [])⟩)
abbrev bZ.L0.X:=(bZ.L0.X0)⊕(bZ.L0.X1)
abbrev bZ.L0.Y:=(bZ.L0.Y0)⊕(bZ.L0.Y1)
def bZ.L0.out:bZ.L0.X→Out (Exit×AS):=fun x=> .br x.isLeft (.get x.getLeft? fun a=> .ok (bZ.L0.bt a)) (.get x.getRight? fun b=> .ok (bZ.L0.eS b))
def bZ.L0.add:bZ.L0.D→bZ.L0.Y→bZ.L0.X:=fun(l_2,i) y=>match y with | .inl y=> .inl y | .inr z=> .inr (l_2)
abbrev bZ.D:=Lk
def bZ.st:bZ.D→SA:=fun l=>([.d jo l],[])
abbrev bZ.Y:=Bool
abbrev bZ.X:=Bool
def bZ.out:bZ.X→a9:=fun x=>⟨.d .bool x,[],[]⟩
def bZ.add:bZ.D→bZ.Y→bZ.X:=fun l y=>y
def nP(bs:List fU):Bool:=bs.all fun b=>decide (b.1.length≤20)
def D9(l:Lk):Bool:=nP (l.1.take 7) && decide (l.1.length≤6)
def bZ.L0.aB:bZ.L0.D→Prop:=fun(l,i)=>∃k:Nat,k≤l.1.length∧k≤7∧i=k
def bZ.L0.F:bZ.L0.D→bZ.L0.Y:=fun(l,i)=>if nP ((l.1.take 7).drop i.toNat) then .inr () else .inl ()
def bZ.aB:bZ.D→Prop:=fun _=>True
def bZ.F:bZ.D→bZ.Y:=fun l=>D9 l
noncomputable def bZ.G:dS:=eR (P:=Tryz.prog) []
noncomputable def bZ.L0.E:=bO.cz bZ.L0.st bZ.L0.aB bZ.L0.add bZ.L0.F bZ.L0.out
noncomputable def bZ.L0.call:bZ.L0.D→Option bZ.L0.X:=dk bZ.L0.E bZ.L0.st
noncomputable def bZ.an:eA:= {loops:=jY [(2,{bm:=[1,3]})],outs:=jX [(2,{bm:=[1]},{bm:=[2]})],fJ:=kF [(2,bZ.L0.E)]}
noncomputable def bZ.A:= @cJ Tryz.prog bZ.G bZ.an 0 Tryz.f10 _ bZ.st
abbrev bZ.Ok:=cK @bZ.A bZ.aB bZ.add bZ.F bZ.out
noncomputable def bZ.L0.R:= @cg Tryz.prog bZ.G bZ.an 0 Tryz.f10 0 _ bZ.L0.st
abbrev bZ.L0.Ok:=eB Tryz.prog bZ.G bZ.an 0 Tryz.f10 0 bZ.L0.st bZ.L0.aB bZ.L0.add bZ.L0.F bZ.L0.out
theorem bZ.L0.run:bC bZ.L0.call bZ.L0.aB bZ.L0.add bZ.L0.F:=eI (eD [.d jo,.d ti] fun _=>by kernel_rfl)
theorem bZ.L0.aG:jt @bZ.L0.R bZ.L0.st bZ.L0.aB bZ.L0.add bZ.L0.F bZ.L0.out bZ.L0.Ok:=jV
theorem bZ.L0.step{R:Type}(l_2:Lk)(i:Int)(kn:AS→Option R)(kx:Exit→AS→Option R):bZ.L0.R (l_2,i) kn kx=
  aJ ((fZ i (((List.length l_2.1):Nat):Int))) (
   aJ ((fZ i (7:Int))) (
    aJ (ei i (((List.length l_2.1):Nat):Int)) (
    aJ ((oJ (((List.length (nth fk l_2.1 (Int.toNat i)).1):Nat):Int) (20:Int))) (
     kx (bZ.L0.bt ()).1 (bZ.L0.bt ()).2) (
     kn (bZ.L0.st (l_2,(bM .i64 i (1:Int)))))) none) (
    kx (bZ.L0.eS l_2).1 (bZ.L0.eS l_2).2)) (
   kx (bZ.L0.eS l_2).1 (bZ.L0.eS l_2).2):=by kernel_rfl
theorem bZ.eq{R:Type}(l:Lk)(k:a9→Option R):bZ.A l k=
  ah (bZ.L0.call (l,(0:Int))) fun x1=>
  aJ (x1.isLeft) (
   ah (x1.getLeft?) fun a2=>
   k (bZ.out false)) (
   ah (x1.getRight?) fun b3=>
   k (bZ.out (zP (((List.length b3.1):Nat):Int) (6:Int)))):=by kernel_rfl
theorem bZ.L0.ok:bZ.L0.Ok:=by
 refine bZ.L0.aG (fun(l,i)=>7 - i.toNat) ?_
 rintro⟨l,i⟩ ⟨k,hk,hk7,rfl⟩
 have hk:k≤l.1.length:=hk
 have hk7:k≤7:=hk7
 by_cases h:k < l.1.length∧k < 7
 ·obtain⟨h,h7⟩:=h
  have ht:k < (l.1.take 7).length:=by rw[List.length_take];omega
  have n1:nth (.pair (.slice (.int .u64)) (.pair (.int .i64) (.pair (.int .i64) (.pair (.int .u64) .unit)))) l.1 k=l.1[k]:=cC (t:=(.pair (.slice (.int .u64)) (.pair (.int .i64) (.pair (.int .i64) (.pair (.int .u64) .unit))))) h
  have hg:(l.1.take 7)[k]=l.1[k]:=List.getElem_take
  have hd:nP ((l.1.take 7).drop k)=(decide (l.1[k].1.length≤20) && nP ((l.1.take 7).drop (k+1))):=by
   unfold nP
   rw[List.drop_eq_getElem_cons ht,List.all_cons,hg]
  have step:∀ {R:Type} (kn:AS→Option R) (kx:Exit→AS→Option R),bZ.L0.R (l,(k:Int)) kn kx=aJ (decide (l.1[k].1.length≤20)) (kn (bZ.L0.st (l,((k+1:Nat):Int)))) (kx (bZ.L0.bt ()).1 (bZ.L0.bt ()).2):=by
   intro R kn kx
   rw[bZ.L0.step,bu (by omega),bu (by omega),bo (by omega) (by omega),Int.toNat_natCast,n1,N.kM (by omega)]
   simp only[av]
   by_cases hc:l.1[k].1.length≤20
   ·rw[dR (by omega),aO hc];rfl
   ·rw[ek (by omega),aM hc];rfl
  cases hp:decide (l.1[k].1.length≤20)
  ·right
   refine⟨bZ.L0.bt (),?_,fun kn kx=> ?_⟩
   ·simp only[bZ.L0.add,bZ.L0.F,Int.toNat_natCast,hd,hp,Bool.false_and,Bool.false_eq_true,if_false]
    rfl
   ·rw[step,hp,ay]
  ·left
   refine⟨(l,((k+1:Nat):Int)),⟨k+1,by omega,by omega,rfl⟩,by simp only[Int.toNat_natCast];omega,?_,fun kn kx=> ?_⟩
   ·simp only[bZ.L0.add,bZ.L0.F,Int.toNat_natCast,hd,hp,Bool.true_and]
   ·rw[step,hp,av]
 ·right
  have ht:(l.1.take 7).length≤k:=by rw[List.length_take];omega
  refine⟨bZ.L0.eS l,?_,fun kn kx=> ?_⟩
  ·simp only[bZ.L0.add,bZ.L0.F,Int.toNat_natCast,List.drop_of_length_le ht]
   rfl
  ·rw[bZ.L0.step]
   by_cases h1:k < l.1.length
   ·rw[bu (by omega),bj (by omega)];rfl
   ·rw[bj (by omega)];rfl
theorem bZ.ok:bZ.Ok:=by
 intro l _
 rw[bZ.eq,bZ.L0.run (d:=(l,0)) ⟨0,by omega,by omega,rfl⟩]
 simp only[aa,bZ.L0.add,bZ.L0.F,Int.toNat_zero,List.drop_zero,bZ.add,bZ.F,D9]
 cases nP (l.1.take 7)
 ·rfl
 ·simp only[if_true,Bool.true_and]
  show some (bZ.out (zP _ _))=_
  by_cases h:l.1.length≤6
  ·rw[nu (by omega),aO h]
  ·rw[kJ (by omega),aM h]
noncomputable def bZ.E:=Entry.cz [some jo] bZ.st bZ.aB bZ.add bZ.F bZ.out
noncomputable def bZ.call:bZ.D→Option bZ.X:=bH bZ.E bZ.st
theorem bZ.run:bC bZ.call bZ.aB bZ.add bZ.F:=cQ (cP [.d jo] fun _=>by kernel_rfl)
noncomputable def bZ.sg:SG Tryz.prog:=⟨10,aU,bZ.E,.fn 1 (by kernel_rfl) bZ.ok (And.intro (.cz bZ.L0.ok (by kernel_rfl)) trivial)⟩
set_option synthInstance.maxSize 5000
def js(o:List Int)(ks:List Int):List Int:=ks.foldl (fun o p=>o++fM p) o
def B6(o:List Int)(b:fU):List Int:=ee (ee (js (ee o b.1.length) b.1) b.2.1) b.2.2.1++fM b.2.2.2.1
def oc(l:Lk):List Int:=if gb l then l.1.foldl B6 (ee [] l.1.length) else []
theorem qq:∀(ks:List Int) (o:List Int),(js o ks).length=o.length+8*ks.length
 |[],o=>rfl
 |k::ks,o=>by
  show(js (o++fM k) ks).length=_
  rw[qq ks,List.length_append,bK,List.length_cons];omega
theorem yO(o:List Int)(b:fU)(h:b.1.length≤12):(B6 o b).length≤o.length+200:=by
 unfold B6
 have h1:=ff o b.1.length
 have h2:=qq b.1 (ee o b.1.length)
 have h3:=ff (js (ee o b.1.length) b.1) b.2.1
 have h4:=ff (ee (js (ee o b.1.length) b.1) b.2.1) b.2.2.1
 rw[List.length_append,bK];omega
def Cb(n:Int):Prop:=n≤9223372036854775807
def ED(b:fU):Prop:=b.1.length≤12∧Cb b.2.1∧Cb b.2.2.1
theorem Dm{b:fU}(h:lQ b=true):ED b:=by
 unfold lQ pk at h
 simp only[Bool.and_eq_true,decide_eq_true_eq]at h
 obtain⟨h1,_,h2,h3,_⟩:=h
 exact⟨h1,by unfold Cb;omega,by unfold Cb;omega⟩
theorem xZ(o:List Int)(ks:List Int)(k:Nat)(h:k < ks.length):js o (ks.drop k)=js (o++fM ks[k]) (ks.drop (k+1)):=by rw[List.drop_eq_getElem_cons h];rfl
abbrev aD.L0.D:=Bs×(List fU)×Int×Int
def aD.L0.st:aD.L0.D→AS:=fun(outv,t16,t17,t18)=>⟨([.undef,.undef,.undef,.d tB outv]++bg 12 ([.d (.slice fk) t16,.d ti t17,.d ti t18]++bg 31 [])),[],(List.replicate 50 [])⟩
abbrev aD.L0.Y0:=Bs
abbrev aD.L0.X0:=Bs
def aD.L0.bt:aD.L0.X0→Exit×AS:=fun x=>(.exit 0,⟨([.undef,.undef,.undef,.d tB x]++bg 46 []),[],(List.replicate 50 [])⟩)
abbrev aD.L0.X:=aD.L0.X0
abbrev aD.L0.Y:=aD.L0.Y0
def aD.L0.out:aD.L0.X→Out (Exit×AS):=fun x=> .ok (aD.L0.bt x)
def aD.L0.add:aD.L0.D→aD.L0.Y→aD.L0.X:=fun(outv,t16,t17,t18) y=>y
abbrev aD.L1.D:=Bs×(List fU)×Int×Int×Bs×Int×Int×fU
def aD.L1.st:aD.L1.D→AS:=fun(outv_2,t16_2,t17_2,t18_2,t28,t29,t30,n5)=>⟨([.undef,.undef,.undef,.d tB outv_2,.undef,.ptr (.new 5 0) 0 [] 0]++bg 10 ([.d (.slice fk) t16_2,.d ti t17_2,.d ti t18_2]++bg 9 ([.d tU t28,.d ti t29,.d ti t30]++bg 19 []))),[],(bN 5 ([[.obj 0 false (.d fk n5)]]++bN 44 []))⟩
abbrev aD.L1.Y0:=Bs
abbrev aD.L1.X0:=((List fU)×Int×Int×fU)×(Bs)
def aD.L1.bt:aD.L1.X0→Exit×AS:=fun x=>(.exit 2,⟨([.undef,.undef,.undef,.d tB x.2,.undef,.ptr (.new 5 0) 0 [] 0]++bg 10 ([.d (.slice fk) x.1.1,.d ti x.1.2.1,.d ti x.1.2.2.1]++bg 31 [])),[],(bN 5 ([[.obj 0 false (.d fk x.1.2.2.2)]]++bN 44 []))⟩)
abbrev aD.L1.X:=aD.L1.X0
abbrev aD.L1.Y:=aD.L1.Y0
def aD.L1.out:aD.L1.X→Out (Exit×AS):=fun x=> .ok (aD.L1.bt x)
def aD.L1.add:aD.L1.D→aD.L1.Y→aD.L1.X:=fun(outv_2,t16_2,t17_2,t18_2,t28,t29,t30,n5) y=>((t16_2,t17_2,t18_2,n5),y)
abbrev aD.D:=Lk
def aD.st:aD.D→SA:=fun l=>([.d jo l],[])
abbrev aD.Y:=Bs
abbrev aD.X:=Bs
def aD.out:aD.X→a9:=fun x=>⟨.d tB x,[],[]⟩
def aD.add:aD.D→aD.Y→aD.X:=fun l y=>y
def aD.L1.aB:aD.L1.D→Prop:=fun(o,bs,n,i,ks,m,j,b)=>ks.length≤12∧o.length+8*ks.length≤80000000+8*j.toNat∧m=ks.length∧∃k:Nat,k≤ks.length∧j=k
def aD.L1.F:aD.L1.D→aD.L1.Y:=fun(o,bs,n,i,ks,m,j,b)=>js o (ks.drop j.toNat)
def aD.L0.aB:aD.L0.D→Prop:=fun(o,bs,n,i)=>(∀b∈bs,ED b)∧bs.length≤4∧o.length≤1000+200*i.toNat∧n=bs.length∧∃k:Nat,k≤bs.length∧i=k
def aD.L0.F:aD.L0.D→aD.L0.Y:=fun(o,bs,n,i)=>(bs.drop i.toNat).foldl B6 o
def aD.aB:aD.D→Prop:=fun l=>qd l∧l.1.length≤1000000000
def aD.F:aD.D→aD.Y:=fun l=>oc l
noncomputable def aD.G:dS:=eR (P:=Tryz.prog) [aK.sg,dy.sg,dq.sg]
noncomputable def aD.L0.E:=bO.cz aD.L0.st aD.L0.aB aD.L0.add aD.L0.F aD.L0.out
noncomputable def aD.L0.call:aD.L0.D→Option aD.L0.X:=dk aD.L0.E aD.L0.st
noncomputable def aD.L1.E:=bO.cz aD.L1.st aD.L1.aB aD.L1.add aD.L1.F aD.L1.out
noncomputable def aD.L1.call:aD.L1.D→Option aD.L1.X:=dk aD.L1.E aD.L1.st
noncomputable def aD.an:eA:= {loops:=jY [(5,{bm:=[3,16,17,18]}),(9,{bm:=[3,5,16,17,18,28,29,30],sites:=[5]})],outs:=jX [(5,{bm:=[3]},{bm:=[2]}),(9,{bm:=[3,5,16,17,18],sites:=[5]},{bm:=[2]})],fJ:=kF [(5,aD.L0.E),(9,aD.L1.E)],res:=[some tB]}
noncomputable def aD.A:= @cJ Tryz.prog aD.G aD.an 0 Tryz.f17 _ aD.st
abbrev aD.Ok:=cK @aD.A aD.aB aD.add aD.F aD.out
noncomputable def aD.L0.R:= @cg Tryz.prog aD.G aD.an 0 Tryz.f17 0 _ aD.L0.st
abbrev aD.L0.Ok:=eB Tryz.prog aD.G aD.an 0 Tryz.f17 0 aD.L0.st aD.L0.aB aD.L0.add aD.L0.F aD.L0.out
noncomputable def aD.L1.R:= @cg Tryz.prog aD.G aD.an 0 Tryz.f17 1 _ aD.L1.st
abbrev aD.L1.Ok:=eB Tryz.prog aD.G aD.an 0 Tryz.f17 1 aD.L1.st aD.L1.aB aD.L1.add aD.L1.F aD.L1.out
theorem aD.L0.run:bC aD.L0.call aD.L0.aB aD.L0.add aD.L0.F:=eI (eD [.d tB,.d (.slice fk),.d ti,.d ti] fun _=>by kernel_rfl)
theorem aD.L0.aG:fR @aD.L0.R aD.L0.st aD.L0.aB aD.L0.add aD.L0.F aD.L0.bt aD.L0.Ok:=fV
theorem aD.L0.step{R:Type}(outv:Bs)(t16:(List fU))(t17:Int)(t18:Int)(kn:AS→Option R)(kx:Exit→AS→Option R):aD.L0.R (outv,t16,t17,t18) kn kx=
  aJ ((fZ t18 t17)) (
   aJ (ei t18 (((List.length t16):Nat):Int)) (
   ah (dy.call (outv,(((List.length (nth fk t16 (Int.toNat t18)).1):Nat):Int))) fun x1=>
   ah (aD.L1.call (x1,t16,t17,t18,(nth fk t16 (Int.toNat t18)).1,(((List.length (nth fk t16 (Int.toNat t18)).1):Nat):Int),(0:Int),(nth fk t16 (Int.toNat t18)))) fun x2=>
   ah (dy.call (x2.2,x2.1.2.2.2.2.1)) fun x3=>
   ah (dy.call (x3,x2.1.2.2.2.2.2.1)) fun x4=>
   ah (dq.call (x4,x2.1.2.2.2.2.2.2.1)) fun x5=>
   kn (aD.L0.st (x5,x2.1.1,x2.1.2.1,(bM .i64 x2.1.2.2.1 (1:Int))))) none) (
   kx (aD.L0.bt outv).1 (aD.L0.bt outv).2):=by kernel_rfl
theorem aD.L1.run:bC aD.L1.call aD.L1.aB aD.L1.add aD.L1.F:=eI (eD [.d tB,.d (.slice fk),.d ti,.d ti,.d tU,.d ti,.d ti,.d fk] fun _=>by kernel_rfl)
theorem aD.L1.aG:fR @aD.L1.R aD.L1.st aD.L1.aB aD.L1.add aD.L1.F aD.L1.bt aD.L1.Ok:=fV
theorem aD.L1.step{R:Type}(outv_2:Bs)(t16_2:(List fU))(t17_2:Int)(t18_2:Int)(t28:Bs)(t29:Int)(t30:Int)(n5:fU)(kn:AS→Option R)(kx:Exit→AS→Option R):aD.L1.R (outv_2,t16_2,t17_2,t18_2,t28,t29,t30,n5) kn kx=
  aJ ((fZ t30 t29)) (
   aJ (ei t30 (((List.length t28):Nat):Int)) (
   ah (dq.call (outv_2,(nth tu t28 (Int.toNat t30)))) fun x1=>
   kn (aD.L1.st (x1,t16_2,t17_2,t18_2,t28,t29,(bM .i64 t30 (1:Int)),n5))) none) (
   kx (aD.L1.bt ((t16_2,t17_2,t18_2,n5),outv_2)).1 (aD.L1.bt ((t16_2,t17_2,t18_2,n5),outv_2)).2):=by kernel_rfl
theorem aD.eq{R:Type}(l:Lk)(k:a9→Option R):aD.A l k=
  ah (aK.call l) fun x1=>
  aJ ((!x1)) (
   k (aD.out ([]:List Int))) (
   ah (dy.call (([]:List Int),(((List.length l.1):Nat):Int))) fun x2=>
   ah (aD.L0.call (x2,l.1,(((List.length l.1):Nat):Int),(0:Int))) fun x9=>
   k (aD.out x9)):=by kernel_rfl
theorem aD.L1.ok:aD.L1.Ok:=by
 refine aD.L1.aG (fun(o,bs,n,i,ks,m,j,b)=>ks.length - j.toNat) ?_
 rintro⟨o,bs,n,i,ks,m,j,b⟩ ⟨hk12,hl,rfl,k,hk,rfl⟩
 have hk12:ks.length≤12:=hk12
 have hk:k≤ks.length:=hk
 have hl:o.length+8*ks.length≤80000000+8*(k:Int).toNat:=hl
 rw[Int.toNat_natCast]at hl
 by_cases h:k < ks.length
 ·left
  have n1:nth (.int .u64) ks k=ks[k]:=cC (t:= .int .u64) h
  refine⟨(o++fM ks[k],bs,n,i,ks,ks.length,((k+1:Nat):Int),b),⟨hk12,by rw[List.length_append,bK,Int.toNat_natCast];omega,rfl,k+1,by omega,rfl⟩,by simp only[Int.toNat_natCast];omega,?_,fun kn kx=> ?_⟩
  ·simp only[aD.L1.add,aD.L1.F,Int.toNat_natCast]
   rw[xZ _ _ _ h]
  ·rw[aD.L1.step]
   simp(disch:=omega) only[↓S1,↓if_pos,↓if_neg,if_pos,if_neg,if_true,if_false,S2,n1]
   rw[dq.run (d:=(o,ks[k])) (by show o.length≤90000000;omega)]
   rfl
 ·right
  obtain rfl:k=ks.length:=by omega
  intro R kn kx
  rw[aD.L1.step]
  simp(disch:=omega) only[↓S1,↓if_pos,↓if_neg,if_pos,if_neg,if_true,if_false,S2,aD.L1.add,aD.L1.F,List.drop_length]
  rfl
theorem aD.L0.ok:aD.L0.Ok:=by
 refine aD.L0.aG (fun(o,bs,n,i)=>bs.length - i.toNat) ?_
 rintro⟨o,bs,n,i⟩ ⟨hb,h4,hl,rfl,k,hk,rfl⟩
 have h4:bs.length≤4:=h4
 have hk:k≤bs.length:=hk
 have hl:o.length≤1000+200*(k:Int).toNat:=hl
 rw[Int.toNat_natCast]at hl
 by_cases h:k < bs.length
 ·left
  have hx:=hb _ (List.getElem_mem h)
  have n1:nth (.pair (.slice (.int .u64)) (.pair (.int .i64) (.pair (.int .i64) (.pair (.int .u64) .unit)))) bs k=bs[k]:=cC (t:=(.pair (.slice (.int .u64)) (.pair (.int .i64) (.pair (.int .i64) (.pair (.int .u64) .unit))))) h
  have e0:=yO o bs[k] hx.1
  refine⟨(B6 o bs[k],bs,bs.length,((k+1:Nat):Int)),⟨hb,h4,by rw[Int.toNat_natCast];omega,rfl,k+1,by omega,rfl⟩,by simp only[Int.toNat_natCast];omega,?_,fun kn kx=> ?_⟩
  ·simp only[aD.L0.add,aD.L0.F,Int.toNat_natCast]
   rw[List.drop_eq_getElem_cons h]
   rfl
  ·rw[aD.L0.step,bu (by omega),bo (by omega) (by omega),Int.toNat_natCast,n1]
   obtain⟨⟨ks,af,dl,sc,u⟩,hbk⟩:∃b,bs[k]=b:=⟨_,rfl⟩
   rw[hbk]at hx e0 ⊢
   obtain⟨h12,ha,hd⟩:=hx
   have h12:ks.length≤12:=h12
   have ha:af≤9223372036854775807:=ha
   have hd:dl≤9223372036854775807:=hd
   have l1:=ff o ks.length
   have l2:=qq ks (ee o ks.length)
   have l3:=ff (js (ee o ks.length) ks) af
   have l4:=ff (ee (js (ee o ks.length) ks) af) dl
   simp only[av]
   rw[dy.run (d:=(o,(ks.length:Int))) ⟨by show o.length≤90000000;omega,by show(ks.length:Int)≤9223372036854775807;omega⟩]
   simp only[aa,dy.add,dy.F]
   rw[aD.L1.run (d:=(ee o ks.length,bs,bs.length,k,ks,ks.length,0,(ks,af,dl,sc,u))) ⟨h12,by show(ee o ks.length).length+8*ks.length≤_;omega,rfl,0,by omega,rfl⟩]
   simp only[aa,aD.L1.add,aD.L1.F,Int.toNat_zero,List.drop_zero]
   rw[dy.run (d:=(js (ee o ks.length) ks,af)) ⟨by show(js (ee o ks.length) ks).length≤90000000;omega,ha⟩]
   simp only[aa,dy.add,dy.F]
   rw[dy.run (d:=(ee (js (ee o ks.length) ks) af,dl)) ⟨by show(ee (js (ee o ks.length) ks) af).length≤90000000;omega,hd⟩]
   simp only[aa,dy.add,dy.F]
   rw[dq.run (d:=(ee (ee (js (ee o ks.length) ks) af) dl,sc)) (by show(ee (ee (js (ee o ks.length) ks) af) dl).length≤90000000;omega)]
   simp only[aa,dq.add,dq.F]
   rw[N.kM (by omega)]
   rfl
 ·right
  obtain rfl:k=bs.length:=by omega
  intro R kn kx
  rw[aD.L0.step]
  simp(disch:=omega) only[↓S1,↓if_pos,↓if_neg,if_pos,if_neg,if_true,if_false,S2,aD.L0.add,aD.L0.F,List.drop_length]
  rfl
theorem Bi{l:Lk}(h:gb l=true):(∀b∈l.1,ED b)∧0 < l.1.length∧l.1.length≤4:=by
 unfold gb at h
 simp only[Bool.and_eq_true,List.all_eq_true,decide_eq_true_eq]at h
 exact⟨fun b hb=>Dm (h.1 b hb),h.2⟩
theorem aD.ok:aD.Ok:=by
 rintro l ⟨hl,hb⟩
 have hl:qd l:=hl
 rw[aD.eq,aK.run (d:=l) ⟨hl,hb⟩]
 simp only[aa,aK.add,aK.F,aD.add,aD.F,oc]
 cases hok:gb l
 ·rfl
 ·obtain⟨h1,h2,h3⟩:=Bi hok
  have l1:=ff [] l.1.length
  have l0:([]:List Int).length=0:=rfl
  simp only[Bool.not_true,ay,if_true]
  rw[dy.run (d:=([],(l.1.length:Int))) ⟨by show([]:List Int).length≤90000000;omega,by show(l.1.length:Int)≤9223372036854775807;omega⟩]
  simp only[aa,dy.add,dy.F]
  rw[aD.L0.run (d:=(ee [] l.1.length,l.1,l.1.length,0)) ⟨h1,h3,by show(ee [] l.1.length).length≤_;omega,rfl,0,by omega,rfl⟩]
  rfl
theorem ml(l:Lk):(oc l).length≤1000:=by
 unfold oc
 split
 ·rename_i h
  obtain⟨h1,h2,h3⟩:=Bi h
  have key:∀(bs:List fU) (o:List Int),(∀b∈bs,ED b)→(bs.foldl B6 o).length≤o.length+200*bs.length:=by
   intro bs
   induction bs with
   |nil=>intro o _;exact Nat.le_refl _
   |cons b bs ih=>
    intro o hb
    have e1:=ih (B6 o b) fun x hx=>hb x (List.mem_cons_of_mem _ hx)
    have e2:=yO o b (hb b List.mem_cons_self).1
    rw[List.foldl_cons,List.length_cons];omega
  have e:=key l.1 (ee [] l.1.length) h1
  have e2:=ff [] l.1.length
  have l0:([]:List Int).length=0:=rfl
  omega
 ·exact Nat.zero_le _
def Em:ByteArray:=⟨#[108,111,99,107]⟩
def Dy(l:Lk):List Int:=if gb l then xt Em [oc l] else List.replicate 32 0
noncomputable def aD.E:=Entry.cz [some jo] aD.st aD.aB aD.add aD.F aD.out
noncomputable def aD.call:aD.D→Option aD.X:=bH aD.E aD.st
theorem aD.run:bC aD.call aD.aB aD.add aD.F:=cQ (cP [.d jo] fun _=>by kernel_rfl)
noncomputable def aD.sg:SG Tryz.prog:=⟨17,aU,aD.E,.fn 2 (by kernel_rfl) aD.ok (And.intro (.cz aD.L0.ok (by kernel_rfl)) (And.intro (.cz aD.L1.ok (by kernel_rfl)) trivial))⟩
abbrev fj.D:=Lk
def fj.st:fj.D→SA:=fun l=>([.d jo l],[])
abbrev fj.Y:=Bs
abbrev fj.X:=Bs
def fj.out:fj.X→a9:=fun x=>⟨.d tH x,[],[]⟩
def fj.add:fj.D→fj.Y→fj.X:=fun l y=>y
def fj.aB:fj.D→Prop:=fun l=>qd l∧l.1.length≤1000000000
def fj.F:fj.D→fj.Y:=fun l=>Dy l
noncomputable def fj.G:dS:=eR (P:=Tryz.prog) [aK.sg,aD.sg,bQ.sg]
noncomputable def fj.an:eA:= {}
noncomputable def fj.A:= @cJ Tryz.prog fj.G fj.an 0 Tryz.f19 _ fj.st
abbrev fj.Ok:=cK @fj.A fj.aB fj.add fj.F fj.out
theorem fj.eq{R:Type}(l:Lk)(k:a9→Option R):fj.A l k=
  ah (aK.call l) fun x1=>
  aJ ((!x1)) (
   k (fj.out (List.replicate 32 (0:Int)))) (
   ah (aD.call l) fun x2=>
   ah (bQ.call ((⟨#[108,111,99,107]⟩:ByteArray),[x2])) fun x3=>
   k (fj.out x3)):=by kernel_rfl
theorem fj.ok:fj.Ok:=by
 rintro l ⟨hl,hb⟩
 have hl:qd l:=hl
 have hlen:=ml l
 rw[fj.eq,aK.run (d:=l) ⟨hl,hb⟩,aD.run (d:=l) ⟨hl,hb⟩]
 simp only[aa,aK.add,aK.F,aD.add,aD.F,fj.add,fj.F,Dy]
 rw[bQ.run (d:=((⟨#[108,111,99,107]⟩:ByteArray),[oc l])) (pZ (by decide) (by omega))]
 cases gb l <;> rfl
noncomputable def fj.E:=Entry.cz [some jo] fj.st fj.aB fj.add fj.F fj.out
noncomputable def fj.call:fj.D→Option fj.X:=bH fj.E fj.st
theorem fj.run:bC fj.call fj.aB fj.add fj.F:=cQ (cP [.d jo] fun _=>by kernel_rfl)
noncomputable def fj.sg:SG Tryz.prog:=⟨19,aU,fj.E,.fn 0 (by kernel_rfl) fj.ok trivial⟩
set_option synthInstance.maxSize 5000
abbrev dX.D:=Bs×Bs
def dX.st:dX.D→SA:=fun(b,h)=>([.d tB b,.d tH h],[])
abbrev dX.Y:=Bs
abbrev dX.X:=Bs
def dX.out:dX.X→a9:=fun x=>⟨.d tB x,[],[]⟩
def dX.add:dX.D→dX.Y→dX.X:=fun(b,h) y=>y
def dX.aB:dX.D→Prop:=fun(b,h)=>b.length+h.length≤100000000∧h.length=32
def dX.F:dX.D→dX.Y:=fun(b,h)=>b++h
noncomputable def dX.G:dS:=eR (P:=Tryz.prog) [du.sg]
noncomputable def dX.an:eA:= {}
noncomputable def dX.A:= @cJ Tryz.prog dX.G dX.an 0 Tryz.f140 _ dX.st
abbrev dX.Ok:=cK @dX.A dX.aB dX.add dX.F dX.out
theorem dX.eq{R:Type}(b:Bs)(h:Bs)(k:a9→Option R):dX.A (b,h) k=
 ah (du.call (b,(cut h 0 32))) fun x1=>
 k (dX.out x1):=by kernel_rfl
theorem dX.ok:dX.Ok:=by
 rintro⟨b,h⟩ ⟨h1,h2⟩
 have h1:b.length+h.length≤100000000:=h1
 have h2:h.length=32:=h2
 rw[dX.eq,fg h2,du.run (d:=(b,h)) h1]
 rfl
noncomputable def dX.E:=Entry.cz [some tB,some tH] dX.st dX.aB dX.add dX.F dX.out
noncomputable def dX.call:dX.D→Option dX.X:=bH dX.E dX.st
theorem dX.run:bC dX.call dX.aB dX.add dX.F:=cQ (cP [.d tB,.d tB] fun _=>by kernel_rfl)
noncomputable def dX.sg:SG Tryz.prog:=⟨140,aU,dX.E,.fn 0 (by kernel_rfl) dX.ok trivial⟩
abbrev dT.D:=Bs×Bs
def dT.st:dT.D→SA:=fun(b,c)=>([.d tB b,.d tB c],[])
abbrev dT.Y:=Bs
abbrev dT.X:=Bs
def dT.out:dT.X→a9:=fun x=>⟨.d tB x,[],[]⟩
def dT.add:dT.D→dT.Y→dT.X:=fun(b,c) y=>y
def dT.aB:dT.D→Prop:=fun(b,c)=>b.length+c.length≤90000000
def dT.F:dT.D→dT.Y:=fun(b,c)=>b++(fB c.length++c)
noncomputable def dT.G:dS:=eR (P:=Tryz.prog) [ct.sg,aw.sg]
noncomputable def dT.an:eA:= {res:=[some tB]}
noncomputable def dT.A:= @cJ Tryz.prog dT.G dT.an 0 Tryz.f141 _ dT.st
abbrev dT.Ok:=cK @dT.A dT.aB dT.add dT.F dT.out
theorem dT.eq{R:Type}(b:Bs)(c:Bs)(k:a9→Option R):dT.A (b,c) k=
 ah (ct.call (((List.length c):Nat):Int)) fun x1=>
 ah (aw.call [b,x1,c]) fun x2=>
 k (dT.out x2):=by kernel_rfl
theorem dT.ok:dT.Ok:=by
 rintro⟨b,c⟩ h
 have h:b.length+c.length≤90000000:=h
 have hl:=gN c.length
 rw[dT.eq,ct.run (d:=(c.length:Int)) ⟨by omega,by omega⟩]
 simp only[aa,ct.add,ct.F]
 rw[aw.run (d:=[b,fB c.length,c]) ⟨by show [b,fB c.length,c].length≤_;simp,by show jf [b,fB c.length,c]≤_;simp only[jf,List.flatten_cons,List.flatten_nil,List.append_nil,List.length_append];omega⟩]
 simp only[aa,aw.add,aw.F,dT.add,dT.F,List.flatten_cons,List.flatten_nil,List.append_nil]
noncomputable def dT.E:=Entry.cz [some tB,some tB] dT.st dT.aB dT.add dT.F dT.out
noncomputable def dT.call:dT.D→Option dT.X:=bH dT.E dT.st
theorem dT.run:bC dT.call dT.aB dT.add dT.F:=cQ (cP [.d tB,.d tB] fun _=>by kernel_rfl)
noncomputable def dT.sg:SG Tryz.prog:=⟨141,aU,dT.E,.fn 0 (by kernel_rfl) dT.ok trivial⟩
def rv(b:List Int)(x:fD):List Int:=ee (b++x.1.1) x.1.2.1
def ri(b:List Int)(o:gh):List Int:=ee b o.1++(fB (oc o.2.1).length++oc o.2.1)
def ki(t:fb):List Int:=ee (t.2.1.foldl ri (ee (t.1.foldl rv (ee [] t.1.length)) t.2.1.length)) t.2.2.1
def sN(b:List Int)(s:Sg):List Int:=b++fM s.1++fM s.2.1
def yE(b:List Int)(x:fD):List Int:=x.2.1.2.1.foldl sN (ee (ee b x.2.1.1) x.2.1.2.1.length)++fM x.2.1.2.2.1
def BW(t:fb):List Int:=if gn t then t.1.foldl yE (ki t) else []
def tx(t:fb):List Int:=if gn t then tag (bh (⟨#[116,120]⟩:ByteArray)) [ki t] else List.replicate 32 0
def Fs(x:fD):Prop:=Sm x.1.1∧l9 x.2.1∧x.2.1.2.1.length≤1000000000
def rH(t:fb):Prop:=EG t∧(∀x∈t.1,Fs x)∧t.2.2.1≤9223372036854775807
theorem g8:∀(l:List fD) (m:List (kg×Bool)),rf m l=true→∀x∈l,si x=true
 |[],_,_,x,hx=>by cases hx
 |y::l,m,h,x,hx=>by
  rw[rf,Bool.and_eq_true,Bool.and_eq_true]at h
  rcases List.mem_cons.1 hx with rfl | hx
  ·exact h.1.2
  ·exact g8 l _ h.2 x hx
theorem iR:∀(l:List gh) (s:Int),mv s l=true→∀o∈l,(0≤o.1∧o.1≤1125899906842624)∧gb o.2.1=true
 |[],_,_,o,ho=>by cases ho
 |y::l,s,h,o,ho=>by
  rw[mv,Bool.and_eq_true,Bool.and_eq_true]at h
  rcases List.mem_cons.1 ho with rfl | ho
  ·have h1:=h.1.1
   unfold oZ ni at h1
   simp only[Bool.and_eq_true,decide_eq_true_eq]at h1
   exact⟨h1.2.1,h.1.2⟩
  ·exact iR l _ h.2 o ho
theorem mj{x:fD}(h:si x=true):0≤x.1.2.1∧x.1.2.1 < 64∧0≤x.2.1.1∧x.2.1.1 < 4∧x.2.1.2.1.length≤12:=by
 unfold si mO at h
 simp only[Bool.and_eq_true,decide_eq_true_eq]at h
 exact⟨h.1.1,h.1.2,h.2.1.1,h.2.1.2,h.2.2⟩
theorem jE{t:fb}(h:gn t=true):(1≤t.1.length∧t.1.length≤64∧t.2.1.length≤64∧0≤t.2.2.1)∧rf [] t.1=true∧mv 0 t.2.1=true:=by
 unfold gn vz at h
 simp only[Bool.and_eq_true,decide_eq_true_eq]at h
 exact h
theorem yU(b:List Int)(x:fD):(rv b x).length≤b.length+x.1.1.length+11:=by
 have:=ff (b++x.1.1) x.1.2.1
 rw[List.length_append]at this
 exact this
theorem wU(b:List Int)(o:gh):(ri b o).length≤b.length+1022:=by
 have h1:=ff b o.1
 have h2:=gN (oc o.2.1).length
 have h3:=ml o.2.1
 unfold ri
 rw[List.length_append,List.length_append]
 omega
theorem xk(b:List Int)(s:Sg):(sN b s).length=b.length+16:=by
 unfold sN
 rw[List.length_append,List.length_append,bK,bK]
abbrev aE.L0.D:=fb×Bs×(List fD)×Int×Int
def aE.L0.st:aE.L0.D→AS:=fun(t_2,b,t13,t14,t15)=>⟨([.undef,.eG gg t_2,.undef,.d tB b]++bg 9 ([.d (.slice eH) t13,.d ti t14,.d ti t15]++bg 38 [])),[],(List.replicate 54 [])⟩
abbrev aE.L0.Y0:=Bs
abbrev aE.L0.X0:=(fb)×(Bs)
def aE.L0.bt:aE.L0.X0→Exit×AS:=fun x=>(.exit 0,⟨([.undef,.eG gg x.1,.undef,.d tB x.2]++bg 50 []),[],(List.replicate 54 [])⟩)
abbrev aE.L0.X:=aE.L0.X0
abbrev aE.L0.Y:=aE.L0.Y0
def aE.L0.out:aE.L0.X→Out (Exit×AS):=fun x=> .ok (aE.L0.bt x)
def aE.L0.add:aE.L0.D→aE.L0.Y→aE.L0.X:=fun(t_2,b,t13,t14,t15) y=>(t_2,y)
abbrev aE.L1.D:=fb×Bs×(List gh)×Int×Int
def aE.L1.st:aE.L1.D→AS:=fun(t_3,b_2,t35,t36,t37)=>⟨([.undef,.eG gg t_3,.undef,.d tB b_2]++bg 31 ([.d (.slice eU) t35,.d ti t36,.d ti t37]++bg 16 [])),[],(List.replicate 54 [])⟩
abbrev aE.L1.Y0:=Bs
abbrev aE.L1.X0:=(fb)×(Bs)
def aE.L1.bt:aE.L1.X0→Exit×AS:=fun x=>(.exit 2,⟨([.undef,.eG gg x.1,.undef,.d tB x.2]++bg 50 []),[],(List.replicate 54 [])⟩)
abbrev aE.L1.X:=aE.L1.X0
abbrev aE.L1.Y:=aE.L1.Y0
def aE.L1.out:aE.L1.X→Out (Exit×AS):=fun x=> .ok (aE.L1.bt x)
def aE.L1.add:aE.L1.D→aE.L1.Y→aE.L1.X:=fun(t_3,b_2,t35,t36,t37) y=>(t_3,y)
abbrev aE.D:=fb
def aE.st:aE.D→SA:=fun t=>([.d gg t],[])
abbrev aE.Y:=Bs
abbrev aE.X:=Bs
def aE.out:aE.X→a9:=fun x=>⟨.d tB x,[],[]⟩
def aE.add:aE.D→aE.Y→aE.X:=fun t y=>y
def aE.L0.aB:aE.L0.D→Prop:=fun(t,b,l,n,i)=>(l).length≤1000000000∧∃k:Nat,k≤(l).length∧i=k∧n=(l).length∧(l.length≤64)∧(∀x∈l,x.1.1.length=32∧x.1.2.1≤9223372036854775807)∧(b.length≤100+50*k)
def aE.L0.F:aE.L0.D→aE.L0.Y:=fun(t,b,l,n,i)=>(List.drop (Int.toNat i) l).foldl rv b
def aE.L1.aB:aE.L1.D→Prop:=fun(t,b,l,n,i)=>(l).length≤1000000000∧∃k:Nat,k≤(l).length∧i=k∧n=(l).length∧(l.length≤64)∧(∀o∈l,o.1≤9223372036854775807∧Df o.2.1)∧(b.length≤4000+1100*k)
def aE.L1.F:aE.L1.D→aE.L1.Y:=fun(t,b,l,n,i)=>(List.drop (Int.toNat i) l).foldl ri b
def aE.aB:aE.D→Prop:=fun t=>gn t=true∧rH t
def aE.F:aE.D→aE.Y:=fun t=>ki t
noncomputable def aE.G:dS:=eR (P:=Tryz.prog) [dy.sg,dX.sg,aD.sg,dT.sg]
noncomputable def aE.L0.E:=bO.cz aE.L0.st aE.L0.aB aE.L0.add aE.L0.F aE.L0.out
noncomputable def aE.L0.call:aE.L0.D→Option aE.L0.X:=dk aE.L0.E aE.L0.st
noncomputable def aE.L1.E:=bO.cz aE.L1.st aE.L1.aB aE.L1.add aE.L1.F aE.L1.out
noncomputable def aE.L1.call:aE.L1.D→Option aE.L1.X:=dk aE.L1.E aE.L1.st
noncomputable def aE.an:eA:= {loops:=jY [(3,{bm:=[1,3,13,14,15]}),(9,{bm:=[1,3,35,36,37]})],outs:=jX [(3,{bm:=[1,3]},{bm:=[2]}),(9,{bm:=[1,3]},{bm:=[2]})],fJ:=kF [(3,aE.L0.E),(9,aE.L1.E)],res:=[some tB]}
noncomputable def aE.A:= @cJ Tryz.prog aE.G aE.an 0 Tryz.f97 _ aE.st
abbrev aE.Ok:=cK @aE.A aE.aB aE.add aE.F aE.out
noncomputable def aE.L0.R:= @cg Tryz.prog aE.G aE.an 0 Tryz.f97 0 _ aE.L0.st
abbrev aE.L0.Ok:=eB Tryz.prog aE.G aE.an 0 Tryz.f97 0 aE.L0.st aE.L0.aB aE.L0.add aE.L0.F aE.L0.out
noncomputable def aE.L1.R:= @cg Tryz.prog aE.G aE.an 0 Tryz.f97 1 _ aE.L1.st
abbrev aE.L1.Ok:=eB Tryz.prog aE.G aE.an 0 Tryz.f97 1 aE.L1.st aE.L1.aB aE.L1.add aE.L1.F aE.L1.out
theorem aE.L0.run:bC aE.L0.call aE.L0.aB aE.L0.add aE.L0.F:=eI (eD [.d gg,.d tB,.d (.slice eH),.d ti,.d ti] fun _=>by kernel_rfl)
theorem aE.L0.aG:fR @aE.L0.R aE.L0.st aE.L0.aB aE.L0.add aE.L0.F aE.L0.bt aE.L0.Ok:=fV
theorem aE.L0.step{R:Type}(t_2:fb)(b:Bs)(t13:(List fD))(t14:Int)(t15:Int)(kn:AS→Option R)(kx:Exit→AS→Option R):aE.L0.R (t_2,b,t13,t14,t15) kn kx=
  aJ ((fZ t15 t14)) (
   aJ (ei t15 (((List.length t13):Nat):Int)) (
   ah (dX.call (b,(nth eH t13 (Int.toNat t15)).1.1)) fun x1=>
   ah (dy.call (x1,(nth eH t13 (Int.toNat t15)).1.2.1)) fun x2=>
   kn (aE.L0.st (t_2,x2,t13,t14,(bM .i64 t15 (1:Int))))) none) (
   kx (aE.L0.bt (t_2,b)).1 (aE.L0.bt (t_2,b)).2):=by kernel_rfl
theorem aE.L1.run:bC aE.L1.call aE.L1.aB aE.L1.add aE.L1.F:=eI (eD [.d gg,.d tB,.d (.slice eU),.d ti,.d ti] fun _=>by kernel_rfl)
theorem aE.L1.aG:fR @aE.L1.R aE.L1.st aE.L1.aB aE.L1.add aE.L1.F aE.L1.bt aE.L1.Ok:=fV
theorem aE.L1.step{R:Type}(t_3:fb)(b_2:Bs)(t35:(List gh))(t36:Int)(t37:Int)(kn:AS→Option R)(kx:Exit→AS→Option R):aE.L1.R (t_3,b_2,t35,t36,t37) kn kx=
  aJ ((fZ t37 t36)) (
   aJ (ei t37 (((List.length t35):Nat):Int)) (
   ah (dy.call (b_2,(nth eU t35 (Int.toNat t37)).1)) fun x1=>
   ah (aD.call (nth eU t35 (Int.toNat t37)).2.1) fun x2=>
   ah (dT.call (x1,x2)) fun x3=>
   kn (aE.L1.st (t_3,x3,t35,t36,(bM .i64 t37 (1:Int))))) none) (
   kx (aE.L1.bt (t_3,b_2)).1 (aE.L1.bt (t_3,b_2)).2):=by kernel_rfl
theorem aE.eq{R:Type}(t:fb)(k:a9→Option R):aE.A t k=
 ah (dy.call (([]:List Int),(((List.length t.1):Nat):Int))) fun x1=>
 ah (aE.L0.call (t,x1,t.1,(((List.length t.1):Nat):Int),(0:Int))) fun x4=>
 ah (dy.call (x4.2,(((List.length x4.1.2.1):Nat):Int))) fun x5=>
 ah (aE.L1.call (x4.1,x5,x4.1.2.1,(((List.length x4.1.2.1):Nat):Int),(0:Int))) fun x9=>
 ah (dy.call (x9.2,x9.1.2.2.1)) fun x10=>
 k (aE.out x10):=by kernel_rfl
theorem aE.L0.ok:aE.L0.Ok:=by
 refine aE.L0.aG (fun(t,b,l,n,i)=>(l).length - Int.toNat i) ?_
 rintro⟨t,b,l,n,i⟩ ⟨hlen,k,hk,rfl,rfl,h64,hx,hb⟩
 have hlen:(l).length≤1000000000:=hlen
 have hk:k≤(l).length:=hk
 have h64:l.length≤64:=h64
 have hx:∀x∈l,x.1.1.length=32∧x.1.2.1≤9223372036854775807:=hx
 have hb:b.length≤100+50*k:=hb
 by_cases h:k < (l).length
 ·left
  have n1:nth eH l k=l[k]:=cC (t:=eH) h
  have hd:List.drop k l=l[k]::List.drop (k+1) l:=List.drop_eq_getElem_cons h
  refine⟨(t,(rv b l[k]),l,((l).length:Int),((k+1:Nat):Int)),⟨hlen,k+1,by omega,rfl,rfl,h64,hx,by have:=yU b l[k];have:=(hx _ (List.getElem_mem h)).1;omega⟩,by simp only[Int.toNat_natCast];omega,?_,fun kn kx=> ?_⟩
  ·simp only[aE.L0.add,aE.L0.F,Int.toNat_natCast,hd,List.foldl_cons]
  ·rw[aE.L0.step,bu (by omega),bo (by omega) (by omega),Int.toNat_natCast,n1]
   simp only[av]
   have e:=hx _ (List.getElem_mem h)
   have e2:(b++l[k].1.1).length=b.length+l[k].1.1.length:=List.length_append
   rw[dX.run (d:=(b,l[k].1.1)) ⟨by show b.length+l[k].1.1.length≤_;omega,e.1⟩]
   simp only[aa,dX.add,dX.F]
   rw[dy.run (d:=(b++l[k].1.1,l[k].1.2.1)) ⟨by show(b++l[k].1.1).length≤_;omega,e.2⟩]
   simp only[aa,dy.add,dy.F]
   rw[N.kM (by omega)]
   rfl
 ·right
  obtain rfl:k=(l).length:=by omega
  intro R kn kx
  rw[aE.L0.step,bj (by omega),ay]
  simp only[aE.L0.add,aE.L0.F,Int.toNat_natCast,List.drop_length,List.foldl_nil]
theorem aE.L1.ok:aE.L1.Ok:=by
 refine aE.L1.aG (fun(t,b,l,n,i)=>(l).length - Int.toNat i) ?_
 rintro⟨t,b,l,n,i⟩ ⟨hlen,k,hk,rfl,rfl,h64,hx,hb⟩
 have hlen:(l).length≤1000000000:=hlen
 have hk:k≤(l).length:=hk
 have h64:l.length≤64:=h64
 have hx:∀o∈l,o.1≤9223372036854775807∧Df o.2.1:=hx
 have hb:b.length≤4000+1100*k:=hb
 by_cases h:k < (l).length
 ·left
  have n1:nth eU l k=l[k]:=cC (t:=eU) h
  have hd:List.drop k l=l[k]::List.drop (k+1) l:=List.drop_eq_getElem_cons h
  refine⟨(t,(ri b l[k]),l,((l).length:Int),((k+1:Nat):Int)),⟨hlen,k+1,by omega,rfl,rfl,h64,hx,by have:=wU b l[k];omega⟩,by simp only[Int.toNat_natCast];omega,?_,fun kn kx=> ?_⟩
  ·simp only[aE.L1.add,aE.L1.F,Int.toNat_natCast,hd,List.foldl_cons]
  ·rw[aE.L1.step,bu (by omega),bo (by omega) (by omega),Int.toNat_natCast,n1]
   simp only[av]
   have e:=hx _ (List.getElem_mem h)
   have e1:=ff b l[k].1
   have e2:=ml l[k].2.1
   rw[dy.run (d:=(b,l[k].1)) ⟨by show b.length≤_;omega,e.1⟩]
   simp only[aa,dy.add,dy.F]
   rw[aD.run (d:=l[k].2.1) e.2]
   simp only[aa,aD.add,aD.F]
   rw[dT.run (d:=(ee b l[k].1,oc l[k].2.1)) (by show(ee b l[k].1).length+(oc l[k].2.1).length≤_;omega)]
   simp only[aa,dT.add,dT.F]
   rw[N.kM (by omega)]
   rfl
 ·right
  obtain rfl:k=(l).length:=by omega
  intro R kn kx
  rw[aE.L1.step,bj (by omega),ay]
  simp only[aE.L1.add,aE.L1.F,Int.toNat_natCast,List.drop_length,List.foldl_nil]
theorem u6:∀(l:List fD) (b:List Int),(∀x∈l,x.1.1.length=32)→(l.foldl rv b).length≤b.length+43*l.length
 |[],b,_=>Nat.le_refl _
 |x::l,b,h=>by
  have h1:=yU b x
  have h2:=h x List.mem_cons_self
  have h3:=u6 l (rv b x) fun y hy=>h y (List.mem_cons_of_mem _ hy)
  rw[List.foldl_cons,List.length_cons]
  omega
theorem sB:∀(l:List gh) (b:List Int),(l.foldl ri b).length≤b.length+1022*l.length
 |[],b=>Nat.le_refl _
 |x::l,b=>by
  have h1:=wU b x
  have h3:=sB l (ri b x)
  rw[List.foldl_cons,List.length_cons]
  omega
theorem sD{t:fb}(hok:gn t=true)(hv:rH t):(ki t).length≤70000:=by
 obtain⟨⟨_,a2,a3,_⟩,_,_⟩:=jE hok
 have h1:=u6 t.1 (ee [] t.1.length) fun x hx=>(hv.2.1 x hx).1.1
 have h2:=ff [] t.1.length
 have h3:=ff (t.1.foldl rv (ee [] t.1.length)) t.2.1.length
 have h4:=sB t.2.1 (ee (t.1.foldl rv (ee [] t.1.length)) t.2.1.length)
 have h5:=ff (t.2.1.foldl ri (ee (t.1.foldl rv (ee [] t.1.length)) t.2.1.length)) t.2.2.1
 have h0:([]:List Int).length=0:=rfl
 unfold ki
 omega
theorem aE.ok:aE.Ok:=by
 rintro t ⟨hok,hv⟩
 have hv:rH t:=hv
 obtain⟨⟨_,a2,a3,_⟩,b1,b2⟩:=jE hok
 have h0:([]:List Int).length=0:=rfl
 have l0:=ff [] t.1.length
 have l1:=u6 t.1 (ee [] t.1.length) fun x hx=>(hv.2.1 x hx).1.1
 have l2:=ff (t.1.foldl rv (ee [] t.1.length)) t.2.1.length
 have l3:=sB t.2.1 (ee (t.1.foldl rv (ee [] t.1.length)) t.2.1.length)
 rw[aE.eq,dy.run (d:=([],(t.1.length:Int))) ⟨by show([]:List Int).length≤_;omega,by show(t.1.length:Int)≤_;omega⟩]
 simp only[aa,dy.add,dy.F]
 rw[aE.L0.run (d:=(t,ee [] t.1.length,t.1,t.1.length,0)) ⟨by show t.1.length≤_;omega,0,Nat.zero_le _,rfl,rfl,a2,fun x hx=>⟨(hv.2.1 x hx).1.1,by have:=mj (g8 _ _ b1 x hx);omega⟩,by show(ee [] t.1.length).length≤_;omega⟩]
 simp only[aa,aE.L0.add,aE.L0.F,Int.toNat_zero,List.drop_zero]
 rw[dy.run (d:=(t.1.foldl rv (ee [] t.1.length),(t.2.1.length:Int))) ⟨by show(t.1.foldl rv (ee [] t.1.length)).length≤_;omega,by show(t.2.1.length:Int)≤_;omega⟩]
 simp only[aa,dy.add,dy.F]
 rw[aE.L1.run (d:=(t,ee (t.1.foldl rv (ee [] t.1.length)) t.2.1.length,t.2.1,t.2.1.length,0)) ⟨by show t.2.1.length≤_;omega,0,Nat.zero_le _,rfl,rfl,a3,fun o ho=>⟨by have:=(iR _ _ b2 o ho).1;omega,hv.1.1 o ho⟩,by show(ee (t.1.foldl rv (ee [] t.1.length)) t.2.1.length).length≤_;omega⟩]
 simp only[aa,aE.L1.add,aE.L1.F,Int.toNat_zero,List.drop_zero]
 rw[dy.run (d:=(t.2.1.foldl ri (ee (t.1.foldl rv (ee [] t.1.length)) t.2.1.length),t.2.2.1)) ⟨by show(t.2.1.foldl ri (ee (t.1.foldl rv (ee [] t.1.length)) t.2.1.length)).length≤_;omega,hv.2.2⟩]
 rfl
noncomputable def aE.E:=Entry.cz [some gg] aE.st aE.aB aE.add aE.F aE.out
noncomputable def aE.call:aE.D→Option aE.X:=bH aE.E aE.st
theorem aE.run:bC aE.call aE.aB aE.add aE.F:=cQ (cP [.d gg] fun _=>by kernel_rfl)
noncomputable def aE.sg:SG Tryz.prog:=⟨97,aU,aE.E,.fn 2 (by kernel_rfl) aE.ok (And.intro (.cz aE.L0.ok (by kernel_rfl)) (And.intro (.cz aE.L1.ok (by kernel_rfl)) trivial))⟩
set_option synthInstance.maxSize 5000
def qK(n:Int)(x:fD):Int:=n+(10+8*x.2.1.2.1.length)+(if x.2.1.2.2.1=0 then 0 else 4)
def vB(t:fb):Int:=if gn t then t.1.foldl qK (10+8*t.2.1.length) else 0
def jS(t:fb):List kg:=if gn t then t.1.map (·.1) else []
def qR(id:List Int)(k n:Nat):List kg:=(List.range' k n).map fun i:Nat=>(id,((i:Int),()))
def om(t:fb):List kg:=if gn t then qR (tx t) 0 t.2.1.length else []
abbrev tid.D:=fb
def tid.st:tid.D→SA:=fun t=>([.d gg t],[])
abbrev tid.Y:=Bs
abbrev tid.X:=Bs
def tid.out:tid.X→a9:=fun x=>⟨.d tH x,[],[]⟩
def tid.add:tid.D→tid.Y→tid.X:=fun t y=>y
def tid.aB:tid.D→Prop:=fun t=>rH t
def tid.F:tid.D→tid.Y:=fun t=>tx t
noncomputable def tid.G:dS:=eR (P:=Tryz.prog) [aq.sg,aE.sg,bQ.sg]
noncomputable def tid.an:eA:= {}
noncomputable def tid.A:= @cJ Tryz.prog tid.G tid.an 0 Tryz.f31 _ tid.st
abbrev tid.Ok:=cK @tid.A tid.aB tid.add tid.F tid.out
theorem tid.eq{R:Type}(t:fb)(k:a9→Option R):tid.A t k=
  ah (aq.call t) fun x1=>
  aJ ((!x1)) (
   k (tid.out (List.replicate 32 (0:Int)))) (
   ah (aE.call t) fun x2=>
   ah (bQ.call ((⟨#[116,120]⟩:ByteArray),[x2])) fun x3=>
   k (tid.out x3)):=by kernel_rfl
theorem tid.ok:tid.Ok:=by
 intro t hv
 have hv:rH t:=hv
 rw[tid.eq,aq.run (d:=t) hv.1]
 simp only[aa,aq.add,aq.F,tid.add,tid.F,tx]
 cases hok:gn t
 ·rfl
 ·have hl:=sD hok hv
  rw[aE.run (d:=t) ⟨hok,hv⟩]
  simp only[Bool.not_true,ay,if_true,aa,aE.add,aE.F]
  rw[bQ.run (d:=((⟨#[116,120]⟩:ByteArray),[ki t])) (pZ (by decide) (by omega))]
  rfl
noncomputable def tid.E:=Entry.cz [some gg] tid.st tid.aB tid.add tid.F tid.out
noncomputable def tid.call:tid.D→Option tid.X:=bH tid.E tid.st
theorem tid.run:bC tid.call tid.aB tid.add tid.F:=cQ (cP [.d gg] fun _=>by kernel_rfl)
noncomputable def tid.sg:SG Tryz.prog:=⟨31,aU,tid.E,.fn 0 (by kernel_rfl) tid.ok trivial⟩
abbrev aN.L0.D:=Int×(List fD)×Int×Int
def aN.L0.st:aN.L0.D→AS:=fun(n,t15,t16,t17)=>⟨([.undef,.undef,.undef,.d ti n]++bg 11 ([.d (.slice eH) t15,.d ti t16,.d ti t17]++bg 19 [])),[],(List.replicate 37 [])⟩
abbrev aN.L0.Y0:=Int
abbrev aN.L0.X0:=Int
def aN.L0.bt:aN.L0.X0→Exit×AS:=fun x=>(.exit 0,⟨([.undef,.undef,.undef,.d ti x]++bg 33 []),[],(List.replicate 37 [])⟩)
abbrev aN.L0.X:=aN.L0.X0
abbrev aN.L0.Y:=aN.L0.Y0
def aN.L0.out:aN.L0.X→Out (Exit×AS):=fun x=> .ok (aN.L0.bt x)
def aN.L0.add:aN.L0.D→aN.L0.Y→aN.L0.X:=fun(n,t15,t16,t17) y=>y
abbrev aN.D:=fb
def aN.st:aN.D→SA:=fun t=>([.d gg t],[])
abbrev aN.Y:=Int
abbrev aN.X:=Int
def aN.out:aN.X→a9:=fun x=>⟨.d ti x,[],[]⟩
def aN.add:aN.D→aN.Y→aN.X:=fun t y=>y
def aN.L0.aB:aN.L0.D→Prop:=fun(n,l,m,i)=>(l).length≤1000000000∧∃k:Nat,k≤(l).length∧i=k∧m=(l).length∧(l.length≤64)∧(∀x∈l,x.2.1.2.1.length≤12)∧(0≤n)∧(n≤1000+200*(k:Int))
def aN.L0.F:aN.L0.D→aN.L0.Y:=fun(n,l,m,i)=>(List.drop (Int.toNat i) l).foldl qK n
def aN.aB:aN.D→Prop:=fun t=>rH t
def aN.F:aN.D→aN.Y:=fun t=>vB t
noncomputable def aN.G:dS:=eR (P:=Tryz.prog) [aq.sg]
noncomputable def aN.L0.E:=bO.cz aN.L0.st aN.L0.aB aN.L0.add aN.L0.F aN.L0.out
noncomputable def aN.L0.call:aN.L0.D→Option aN.L0.X:=dk aN.L0.E aN.L0.st
noncomputable def aN.an:eA:= {loops:=jY [(5,{bm:=[3,15,16,17]})],outs:=jX [(5,{bm:=[3]},{bm:=[2]})],fJ:=kF [(5,aN.L0.E)]}
noncomputable def aN.A:= @cJ Tryz.prog aN.G aN.an 0 Tryz.f33 _ aN.st
abbrev aN.Ok:=cK @aN.A aN.aB aN.add aN.F aN.out
noncomputable def aN.L0.R:= @cg Tryz.prog aN.G aN.an 0 Tryz.f33 0 _ aN.L0.st
abbrev aN.L0.Ok:=eB Tryz.prog aN.G aN.an 0 Tryz.f33 0 aN.L0.st aN.L0.aB aN.L0.add aN.L0.F aN.L0.out
theorem aN.L0.run:bC aN.L0.call aN.L0.aB aN.L0.add aN.L0.F:=eI (eD [.d ti,.d (.slice eH),.d ti,.d ti] fun _=>by kernel_rfl)
theorem aN.L0.aG:fR @aN.L0.R aN.L0.st aN.L0.aB aN.L0.add aN.L0.F aN.L0.bt aN.L0.Ok:=fV
theorem aN.L0.step{R:Type}(n:Int)(t15:(List fD))(t16:Int)(t17:Int)(kn:AS→Option R)(kx:Exit→AS→Option R):aN.L0.R (n,t15,t16,t17) kn kx=
  aJ ((fZ t17 t16)) (
   aJ (ei t17 (((List.length t15):Nat):Int)) (
   aJ ((jw (nth eH t15 (Int.toNat t17)).2.1.2.2.1 (0:Int))) (
    kn (aN.L0.st ((bM .i64 (bM .i64 n (bM .i64 (10:Int) (eW .i64 (8:Int) (((List.length (nth eH t15 (Int.toNat t17)).2.1.2.1):Nat):Int)))) (4:Int)),t15,t16,(bM .i64 t17 (1:Int))))) (
    kn (aN.L0.st ((bM .i64 n (bM .i64 (10:Int) (eW .i64 (8:Int) (((List.length (nth eH t15 (Int.toNat t17)).2.1.2.1):Nat):Int)))),t15,t16,(bM .i64 t17 (1:Int)))))) none) (
   kx (aN.L0.bt n).1 (aN.L0.bt n).2):=by kernel_rfl
theorem aN.eq{R:Type}(t:fb)(k:a9→Option R):aN.A t k=
  ah (aq.call t) fun x1=>
  aJ ((!x1)) (
   k (aN.out (0:Int))) (
   ah (aN.L0.call ((bM .i64 (10:Int) (eW .i64 (8:Int) (((List.length t.2.1):Nat):Int))),t.1,(((List.length t.1):Nat):Int),(0:Int))) fun x2=>
   k (aN.out x2)):=by kernel_rfl
theorem aN.L0.ok:aN.L0.Ok:=by
 refine aN.L0.aG (fun(n,l,m,i)=>(l).length - Int.toNat i) ?_
 rintro⟨n,l,m,i⟩ ⟨hlen,k,hk,rfl,rfl,h64,hx,h0,h1⟩
 have hlen:(l).length≤1000000000:=hlen
 have hk:k≤(l).length:=hk
 have h64:l.length≤64:=h64
 have hx:∀x∈l,x.2.1.2.1.length≤12:=hx
 have h0:0≤n:=h0
 have h1:n≤1000+200*(k:Int):=h1
 by_cases h:k < (l).length
 ·left
  have n1:nth eH l k=l[k]:=cC (t:=eH) h
  have hd:List.drop k l=l[k]::List.drop (k+1) l:=List.drop_eq_getElem_cons h
  refine⟨((qK n l[k]),l,((l).length:Int),((k+1:Nat):Int)),⟨hlen,k+1,by omega,rfl,rfl,h64,hx,by unfold qK;split <;> omega,by have:=hx _ (List.getElem_mem h);unfold qK;split <;> omega⟩,by simp only[Int.toNat_natCast];omega,?_,fun kn kx=> ?_⟩
  ·simp only[aN.L0.add,aN.L0.F,Int.toNat_natCast,hd,List.foldl_cons]
  ·rw[aN.L0.step,bu (by omega),bo (by omega) (by omega),Int.toNat_natCast,n1]
   simp only[av]
   have e:=hx _ (List.getElem_mem h)
   rw[N.Ej (by omega)]
   have e2:bM .i64 10 ((8*l[k].2.1.2.1.length:Nat):Int)=10+8*(l[k].2.1.2.1.length:Int):=by rw[gL (by omega) (by omega)];omega
   rw[e2,gL (x:=n) (by omega) (by omega),N.kM (by omega)]
   unfold qK
   by_cases hs:l[k].2.1.2.2.1=0
   ·rw[bR hs,ay,if_pos hs,Int.add_zero]
   ·rw[dA hs,av,if_neg hs,gL (by omega) (by omega)]
 ·right
  obtain rfl:k=(l).length:=by omega
  intro R kn kx
  rw[aN.L0.step,bj (by omega),ay]
  simp only[aN.L0.add,aN.L0.F,Int.toNat_natCast,List.drop_length,List.foldl_nil]
theorem aN.ok:aN.Ok:=by
 intro t hv
 have hv:rH t:=hv
 rw[aN.eq,aq.run (d:=t) hv.1]
 simp only[aa,aq.add,aq.F,aN.add,aN.F,vB]
 cases hok:gn t
 ·rfl
 ·obtain⟨⟨_,a2,a3,_⟩,b1,b2⟩:=jE hok
  rw[N.Ej (by omega),gL (by omega) (by omega),aN.L0.run (d:=(10+((8*t.2.1.length:Nat):Int),t.1,t.1.length,0)) ⟨by show t.1.length≤_;omega,0,Nat.zero_le _,rfl,rfl,a2,fun x hx=>(mj (g8 _ _ b1 x hx)).2.2.2.2,by show(0:Int)≤10+((8*t.2.1.length:Nat):Int);omega,by show 10+((8*t.2.1.length:Nat):Int)≤_;omega⟩]
  simp only[aa,aN.L0.add,aN.L0.F,Int.toNat_zero,List.drop_zero,Bool.not_true,ay,if_true,Int.natCast_mul]
  rfl
noncomputable def aN.E:=Entry.cz [some gg] aN.st aN.aB aN.add aN.F aN.out
noncomputable def aN.call:aN.D→Option aN.X:=bH aN.E aN.st
theorem aN.run:bC aN.call aN.aB aN.add aN.F:=cQ (cP [.d gg] fun _=>by kernel_rfl)
noncomputable def aN.sg:SG Tryz.prog:=⟨33,aU,aN.E,.fn 1 (by kernel_rfl) aN.ok (And.intro (.cz aN.L0.ok (by kernel_rfl)) trivial)⟩
abbrev aI.L0.D:=Bs×(List fD)×Int×Int
def aI.L0.st:aI.L0.D→AS:=fun(b,t14,t15,t16)=>⟨([.undef,.undef,.undef,.d tB b]++bg 10 ([.d (.slice eH) t14,.d ti t15,.d ti t16]++bg 36 [])),[],(List.replicate 53 [])⟩
abbrev aI.L0.Y0:=Bs
abbrev aI.L0.X0:=Bs
def aI.L0.bt:aI.L0.X0→Exit×AS:=fun x=>(.exit 0,⟨([.undef,.undef,.undef,.d tB x]++bg 49 []),[],(List.replicate 53 [])⟩)
abbrev aI.L0.X:=aI.L0.X0
abbrev aI.L0.Y:=aI.L0.Y0
def aI.L0.out:aI.L0.X→Out (Exit×AS):=fun x=> .ok (aI.L0.bt x)
def aI.L0.add:aI.L0.D→aI.L0.Y→aI.L0.X:=fun(b,t14,t15,t16) y=>y
abbrev aI.L1.D:=Bs×(List fD)×Int×Int×(List Sg)×Int×Int×fD
def aI.L1.st:aI.L1.D→AS:=fun(b_2,t14_2,t15_2,t16_2,t32,t33,t34,n5)=>⟨([.undef,.undef,.undef,.d tB b_2,.undef,.ptr (.new 5 0) 0 [] 0]++bg 8 ([.d (.slice eH) t14_2,.d ti t15_2,.d ti t16_2]++bg 15 ([.d (.slice jm) t32,.d ti t33,.d ti t34]++bg 18 []))),[],(bN 5 ([[.obj 0 false (.d eH n5)]]++bN 47 []))⟩
abbrev aI.L1.Y0:=Bs
abbrev aI.L1.X0:=((List fD)×Int×Int×fD)×(Bs)
def aI.L1.bt:aI.L1.X0→Exit×AS:=fun x=>(.exit 2,⟨([.undef,.undef,.undef,.d tB x.2,.undef,.ptr (.new 5 0) 0 [] 0]++bg 8 ([.d (.slice eH) x.1.1,.d ti x.1.2.1,.d ti x.1.2.2.1]++bg 36 [])),[],(bN 5 ([[.obj 0 false (.d eH x.1.2.2.2)]]++bN 47 []))⟩)
abbrev aI.L1.X:=aI.L1.X0
abbrev aI.L1.Y:=aI.L1.Y0
def aI.L1.out:aI.L1.X→Out (Exit×AS):=fun x=> .ok (aI.L1.bt x)
def aI.L1.add:aI.L1.D→aI.L1.Y→aI.L1.X:=fun(b_2,t14_2,t15_2,t16_2,t32,t33,t34,n5) y=>((t14_2,t15_2,t16_2,n5),y)
abbrev aI.D:=fb
def aI.st:aI.D→SA:=fun t=>([.d gg t],[])
abbrev aI.Y:=Bs
abbrev aI.X:=Bs
def aI.out:aI.X→a9:=fun x=>⟨.d tB x,[],[]⟩
def aI.add:aI.D→aI.Y→aI.X:=fun t y=>y
def aI.L1.aB:aI.L1.D→Prop:=fun(b,l1,n1v,i1,l,n,i,x)=>(l).length≤1000000000∧∃k:Nat,k≤(l).length∧i=k∧n=(l).length∧(l.length≤12)∧(b.length≤80000000+16*k)
def aI.L1.F:aI.L1.D→aI.L1.Y:=fun(b,l1,n1v,i1,l,n,i,x)=>(List.drop (Int.toNat i) l).foldl sN b
def aI.L0.aB:aI.L0.D→Prop:=fun(b,l,n,i)=>(l).length≤1000000000∧∃k:Nat,k≤(l).length∧i=k∧n=(l).length∧(l.length≤64)∧(∀x∈l,x.2.1.2.1.length≤12∧x.2.1.1≤9223372036854775807)∧(b.length≤100000+1000*k)
def aI.L0.F:aI.L0.D→aI.L0.Y:=fun(b,l,n,i)=>(List.drop (Int.toNat i) l).foldl yE b
theorem sP:∀(l:List Sg) (b:List Int),(l.foldl sN b).length=b.length+16*l.length
 |[],b=>rfl
 |x::l,b=>by
  have h1:=xk b x
  have h3:=sP l (sN b x)
  rw[List.foldl_cons,List.length_cons]
  omega
theorem B3(b:List Int)(x:fD)(h:x.2.1.2.1.length≤12):(yE b x).length≤b.length+300:=by
 have e1:=ff b x.2.1.1
 have e2:=ff (ee b x.2.1.1) x.2.1.2.1.length
 have e3:=sP x.2.1.2.1 (ee (ee b x.2.1.1) x.2.1.2.1.length)
 unfold yE
 rw[List.length_append,bK]
 omega
def aI.aB:aI.D→Prop:=fun t=>rH t
def aI.F:aI.D→aI.Y:=fun t=>BW t
noncomputable def aI.G:dS:=eR (P:=Tryz.prog) [aq.sg,aE.sg,dy.sg,dq.sg]
noncomputable def aI.L0.E:=bO.cz aI.L0.st aI.L0.aB aI.L0.add aI.L0.F aI.L0.out
noncomputable def aI.L0.call:aI.L0.D→Option aI.L0.X:=dk aI.L0.E aI.L0.st
noncomputable def aI.L1.E:=bO.cz aI.L1.st aI.L1.aB aI.L1.add aI.L1.F aI.L1.out
noncomputable def aI.L1.call:aI.L1.D→Option aI.L1.X:=dk aI.L1.E aI.L1.st
noncomputable def aI.an:eA:= {loops:=jY [(5,{bm:=[3,14,15,16]}),(9,{bm:=[3,5,14,15,16,32,33,34],sites:=[5]})],outs:=jX [(5,{bm:=[3]},{bm:=[2]}),(9,{bm:=[3,5,14,15,16],sites:=[5]},{bm:=[2]})],fJ:=kF [(5,aI.L0.E),(9,aI.L1.E)],res:=[some tB]}
noncomputable def aI.A:= @cJ Tryz.prog aI.G aI.an 0 Tryz.f35 _ aI.st
abbrev aI.Ok:=cK @aI.A aI.aB aI.add aI.F aI.out
noncomputable def aI.L0.R:= @cg Tryz.prog aI.G aI.an 0 Tryz.f35 0 _ aI.L0.st
abbrev aI.L0.Ok:=eB Tryz.prog aI.G aI.an 0 Tryz.f35 0 aI.L0.st aI.L0.aB aI.L0.add aI.L0.F aI.L0.out
noncomputable def aI.L1.R:= @cg Tryz.prog aI.G aI.an 0 Tryz.f35 1 _ aI.L1.st
abbrev aI.L1.Ok:=eB Tryz.prog aI.G aI.an 0 Tryz.f35 1 aI.L1.st aI.L1.aB aI.L1.add aI.L1.F aI.L1.out
theorem aI.L0.run:bC aI.L0.call aI.L0.aB aI.L0.add aI.L0.F:=eI (eD [.d tB,.d (.slice eH),.d ti,.d ti] fun _=>by kernel_rfl)
theorem aI.L0.aG:fR @aI.L0.R aI.L0.st aI.L0.aB aI.L0.add aI.L0.F aI.L0.bt aI.L0.Ok:=fV
theorem aI.L0.step{R:Type}(b:Bs)(t14:(List fD))(t15:Int)(t16:Int)(kn:AS→Option R)(kx:Exit→AS→Option R):aI.L0.R (b,t14,t15,t16) kn kx=
  aJ ((fZ t16 t15)) (
   aJ (ei t16 (((List.length t14):Nat):Int)) (
   ah (dy.call (b,(nth eH t14 (Int.toNat t16)).2.1.1)) fun x1=>
   ah (dy.call (x1,(((List.length (nth eH t14 (Int.toNat t16)).2.1.2.1):Nat):Int))) fun x2=>
   ah (aI.L1.call (x2,t14,t15,t16,(nth eH t14 (Int.toNat t16)).2.1.2.1,(((List.length (nth eH t14 (Int.toNat t16)).2.1.2.1):Nat):Int),(0:Int),(nth eH t14 (Int.toNat t16)))) fun x3=>
   ah (dq.call (x3.2,x3.1.2.2.2.2.1.2.2.1)) fun x4=>
   kn (aI.L0.st (x4,x3.1.1,x3.1.2.1,(bM .i64 x3.1.2.2.1 (1:Int))))) none) (
   kx (aI.L0.bt b).1 (aI.L0.bt b).2):=by kernel_rfl
theorem aI.L1.run:bC aI.L1.call aI.L1.aB aI.L1.add aI.L1.F:=eI (eD [.d tB,.d (.slice eH),.d ti,.d ti,.d (.slice jm),.d ti,.d ti,.d eH] fun _=>by kernel_rfl)
theorem aI.L1.aG:fR @aI.L1.R aI.L1.st aI.L1.aB aI.L1.add aI.L1.F aI.L1.bt aI.L1.Ok:=fV
theorem aI.L1.step{R:Type}(b_2:Bs)(t14_2:(List fD))(t15_2:Int)(t16_2:Int)(t32:(List Sg))(t33:Int)(t34:Int)(n5:fD)(kn:AS→Option R)(kx:Exit→AS→Option R):aI.L1.R (b_2,t14_2,t15_2,t16_2,t32,t33,t34,n5) kn kx=
  aJ ((fZ t34 t33)) (
   aJ (ei t34 (((List.length t32):Nat):Int)) (
   ah (dq.call (b_2,(nth jm t32 (Int.toNat t34)).1)) fun x1=>
   ah (dq.call (x1,(nth jm t32 (Int.toNat t34)).2.1)) fun x2=>
   kn (aI.L1.st (x2,t14_2,t15_2,t16_2,t32,t33,(bM .i64 t34 (1:Int)),n5))) none) (
   kx (aI.L1.bt ((t14_2,t15_2,t16_2,n5),b_2)).1 (aI.L1.bt ((t14_2,t15_2,t16_2,n5),b_2)).2):=by kernel_rfl
theorem aI.eq{R:Type}(t:fb)(k:a9→Option R):aI.A t k=
  ah (aq.call t) fun x1=>
  aJ ((!x1)) (
   k (aI.out ([]:List Int))) (
   ah (aE.call t) fun x2=>
   ah (aI.L0.call (x2,t.1,(((List.length t.1):Nat):Int),(0:Int))) fun x9=>
   k (aI.out x9)):=by kernel_rfl
theorem aI.L1.ok:aI.L1.Ok:=by
 refine aI.L1.aG (fun(b,l1,n1v,i1,l,n,i,x)=>(l).length - Int.toNat i) ?_
 rintro⟨b,l1,n1v,i1,l,n,i,x⟩ ⟨hlen,k,hk,rfl,rfl,h12,hb⟩
 have hlen:(l).length≤1000000000:=hlen
 have hk:k≤(l).length:=hk
 have h12:l.length≤12:=h12
 have hb:b.length≤80000000+16*k:=hb
 by_cases h:k < (l).length
 ·left
  have n1:nth jm l k=l[k]:=cC (t:=jm) h
  have hd:List.drop k l=l[k]::List.drop (k+1) l:=List.drop_eq_getElem_cons h
  refine⟨((sN b l[k]),l1,n1v,i1,l,((l).length:Int),((k+1:Nat):Int),x),⟨hlen,k+1,by omega,rfl,rfl,h12,by have:=xk b l[k];omega⟩,by simp only[Int.toNat_natCast];omega,?_,fun kn kx=> ?_⟩
  ·simp only[aI.L1.add,aI.L1.F,Int.toNat_natCast,hd,List.foldl_cons]
  ·rw[aI.L1.step,bu (by omega),bo (by omega) (by omega),Int.toNat_natCast,n1]
   simp only[av]
   rw[dq.run (d:=(b,l[k].1)) (by show b.length≤_;omega)]
   simp only[aa,dq.add,dq.F]
   rw[dq.run (d:=(b++fM l[k].1,l[k].2.1)) (by show(b++fM l[k].1).length≤_;rw[List.length_append,bK];omega)]
   simp only[aa,dq.add,dq.F]
   rw[N.kM (by omega)]
   rfl
 ·right
  obtain rfl:k=(l).length:=by omega
  intro R kn kx
  rw[aI.L1.step,bj (by omega),ay]
  simp only[aI.L1.add,aI.L1.F,Int.toNat_natCast,List.drop_length,List.foldl_nil]
theorem aI.L0.ok:aI.L0.Ok:=by
 refine aI.L0.aG (fun(b,l,n,i)=>(l).length - Int.toNat i) ?_
 rintro⟨b,l,n,i⟩ ⟨hlen,k,hk,rfl,rfl,h64,hx,hb⟩
 have hlen:(l).length≤1000000000:=hlen
 have hk:k≤(l).length:=hk
 have h64:l.length≤64:=h64
 have hx:∀x∈l,x.2.1.2.1.length≤12∧x.2.1.1≤9223372036854775807:=hx
 have hb:b.length≤100000+1000*k:=hb
 by_cases h:k < (l).length
 ·left
  have n1:nth eH l k=l[k]:=cC (t:=eH) h
  have hd:List.drop k l=l[k]::List.drop (k+1) l:=List.drop_eq_getElem_cons h
  refine⟨((yE b l[k]),l,((l).length:Int),((k+1:Nat):Int)),⟨hlen,k+1,by omega,rfl,rfl,h64,hx,by have:=B3 b l[k] (hx _ (List.getElem_mem h)).1;omega⟩,by simp only[Int.toNat_natCast];omega,?_,fun kn kx=> ?_⟩
  ·simp only[aI.L0.add,aI.L0.F,Int.toNat_natCast,hd,List.foldl_cons]
  ·rw[aI.L0.step,bu (by omega),bo (by omega) (by omega),Int.toNat_natCast,n1]
   simp only[av]
   have e:=hx _ (List.getElem_mem h)
   have e1:=ff b l[k].2.1.1
   have e2:=ff (ee b l[k].2.1.1) l[k].2.1.2.1.length
   have e3:=sP l[k].2.1.2.1 (ee (ee b l[k].2.1.1) l[k].2.1.2.1.length)
   rw[dy.run (d:=(b,l[k].2.1.1)) ⟨by show b.length≤_;omega,e.2⟩]
   simp only[aa,dy.add,dy.F]
   rw[dy.run (d:=(ee b l[k].2.1.1,(l[k].2.1.2.1.length:Int))) ⟨by show(ee b l[k].2.1.1).length≤_;omega,by show(l[k].2.1.2.1.length:Int)≤_;omega⟩]
   simp only[aa,dy.add,dy.F]
   rw[aI.L1.run (d:=(ee (ee b l[k].2.1.1) l[k].2.1.2.1.length,l,l.length,k,l[k].2.1.2.1,l[k].2.1.2.1.length,0,l[k])) ⟨by show l[k].2.1.2.1.length≤_;omega,0,Nat.zero_le _,rfl,rfl,e.1,by show(ee (ee b l[k].2.1.1) l[k].2.1.2.1.length).length≤_;omega⟩]
   simp only[aa,aI.L1.add,aI.L1.F,Int.toNat_zero,List.drop_zero]
   rw[dq.run (d:=(l[k].2.1.2.1.foldl sN (ee (ee b l[k].2.1.1) l[k].2.1.2.1.length),l[k].2.1.2.2.1)) (by show(l[k].2.1.2.1.foldl sN (ee (ee b l[k].2.1.1) l[k].2.1.2.1.length)).length≤_;omega)]
   simp only[aa,dq.add,dq.F]
   rw[N.kM (by omega)]
   rfl
 ·right
  obtain rfl:k=(l).length:=by omega
  intro R kn kx
  rw[aI.L0.step,bj (by omega),ay]
  simp only[aI.L0.add,aI.L0.F,Int.toNat_natCast,List.drop_length,List.foldl_nil]
theorem aI.ok:aI.Ok:=by
 intro t hv
 have hv:rH t:=hv
 rw[aI.eq,aq.run (d:=t) hv.1]
 simp only[aa,aq.add,aq.F,aI.add,aI.F,BW]
 cases hok:gn t
 ·rfl
 ·obtain⟨⟨_,a2,a3,_⟩,b1,b2⟩:=jE hok
  have hl:=sD hok hv
  rw[aE.run (d:=t) ⟨hok,hv⟩]
  simp only[Bool.not_true,ay,if_true,aa,aE.add,aE.F]
  rw[aI.L0.run (d:=(ki t,t.1,t.1.length,0)) ⟨by show t.1.length≤_;omega,0,Nat.zero_le _,rfl,rfl,a2,fun x hx=>by have:=mj (g8 _ _ b1 x hx);exact⟨this.2.2.2.2,by omega⟩,by show(ki t).length≤_;omega⟩]
  rfl
noncomputable def aI.E:=Entry.cz [some gg] aI.st aI.aB aI.add aI.F aI.out
noncomputable def aI.call:aI.D→Option aI.X:=bH aI.E aI.st
theorem aI.run:bC aI.call aI.aB aI.add aI.F:=cQ (cP [.d gg] fun _=>by kernel_rfl)
noncomputable def aI.sg:SG Tryz.prog:=⟨35,aU,aI.E,.fn 2 (by kernel_rfl) aI.ok (And.intro (.cz aI.L0.ok (by kernel_rfl)) (And.intro (.cz aI.L1.ok (by kernel_rfl)) trivial))⟩
abbrev aP.L0.D:=Nat×(List fD)×Int×Int×(List kg)
def aP.L0.st:aP.L0.D→AS:=fun(lL,t9,t10,t11,n19)=>⟨([.undef,.undef,.cf (.new 19 0) 0 [] 0 0 lL]++bg 6 ([.d (.slice eH) t9,.d ti t10,.d ti t11]++bg 10 [])),[],(bN 19 [[.obj 0 false (.vec 55 kG n19)],[],[]])⟩
abbrev aP.L0.Y0:=Nat×(List kg)
abbrev aP.L0.X0:=Nat×(List kg)
def aP.L0.bt:aP.L0.X0→Exit×AS:=fun x=>(.exit 0,⟨([.undef,.undef,.cf (.new 19 0) 0 [] 0 0 x.1]++bg 19 []),[],(bN 19 [[.obj 0 false (.vec 55 kG x.2)],[],[]])⟩)
abbrev aP.L0.X:=aP.L0.X0
abbrev aP.L0.Y:=aP.L0.Y0
def aP.L0.out:aP.L0.X→Out (Exit×AS):=fun x=> .ok (aP.L0.bt x)
def aP.L0.add:aP.L0.D→aP.L0.Y→aP.L0.X:=fun(lL,t9,t10,t11,n19) y=>y
abbrev aP.D:=fb
def aP.st:aP.D→SA:=fun t=>([.d gg t],[])
abbrev aP.Y:=(List kg)
abbrev aP.X:=(List kg)
def aP.out:aP.X→a9:=fun x=>⟨.d (.slice kG) x,[],[]⟩
def aP.add:aP.D→aP.Y→aP.X:=fun t y=>y
def aP.L0.aB:aP.L0.D→Prop:=fun(L,l,n,i,r)=>(l).length≤1000000∧∃k:Nat,k≤(l).length∧i=k∧n=(l).length∧L=(r).length∧(r).length≤1000000+k
def aP.L0.F:aP.L0.D→aP.L0.Y:=fun(L,l,n,i,r)=>(L+(List.drop (Int.toNat i) l).length,r++(List.drop (Int.toNat i) l).map (fun x:fD=>x.1))
def aP.aB:aP.D→Prop:=fun t=>EG t
def aP.F:aP.D→aP.Y:=fun t=>jS t
noncomputable def aP.G:dS:=eR (P:=Tryz.prog) [aq.sg]
noncomputable def aP.L0.E:=bO.cz aP.L0.st aP.L0.aB aP.L0.add aP.L0.F aP.L0.out
noncomputable def aP.L0.call:aP.L0.D→Option aP.L0.X:=dk aP.L0.E aP.L0.st
noncomputable def aP.an:eA:= {loops:=jY [(4,{bm:=[2,9,10,11],sites:=[19],ix:=[⟨2,[],19,67⟩]})],outs:=jX [(4,{bm:=[2],sites:=[19]},{bm:=[2]})],fJ:=kF [(4,aP.L0.E)],res:=[some (.slice kG)]}
noncomputable def aP.A:= @cJ Tryz.prog aP.G aP.an 0 Tryz.f38 _ aP.st
abbrev aP.Ok:=cK @aP.A aP.aB aP.add aP.F aP.out
noncomputable def aP.L0.R:= @cg Tryz.prog aP.G aP.an 0 Tryz.f38 0 _ aP.L0.st
abbrev aP.L0.Ok:=eB Tryz.prog aP.G aP.an 0 Tryz.f38 0 aP.L0.st aP.L0.aB aP.L0.add aP.L0.F aP.L0.out
theorem aP.L0.run:bC aP.L0.call aP.L0.aB aP.L0.add aP.L0.F:=eI (eD [.n,.d (.slice eH),.d ti,.d ti,.d (.slice kG)] fun _=>by kernel_rfl)
theorem aP.L0.aG:fR @aP.L0.R aP.L0.st aP.L0.aB aP.L0.add aP.L0.F aP.L0.bt aP.L0.Ok:=fV
theorem aP.L0.step{R:Type}(lL:Nat)(t9:(List fD))(t10:Int)(t11:Int)(n19:(List kg))(kn:AS→Option R)(kx:Exit→AS→Option R):aP.L0.R (lL,t9,t10,t11,n19) kn kx=
  aJ ((fZ t11 t10)) (
   aJ (ei t11 (((List.length t9):Nat):Int)) (
   aJ (decide (lL≤(List.length n19))) (
   aJ (dm (lL+1) 40) (
   kn (aP.L0.st ((lL+1),t9,t10,(bM .i64 t11 (1:Int)),((List.take lL n19)++ [(nth eH t9 (Int.toNat t11)).1])))) none) none) none) (
   kx (aP.L0.bt (lL,n19)).1 (aP.L0.bt (lL,n19)).2):=by kernel_rfl
theorem aP.eq{R:Type}(t:fb)(k:a9→Option R):aP.A t k=
  ah (aq.call t) fun x1=>
  aJ ((!x1)) (
   k (aP.out ([]:List kg))) (
   ah (aP.L0.call (0,t.1,(((List.length t.1):Nat):Int),(0:Int),([]:List kg))) fun x2=>
   aJ (decide (0=0∧(0+x2.1)≤(List.length x2.2))) (
   k (aP.out (cut x2.2 0 x2.1))) none):=by kernel_rfl
theorem aP.L0.ok:aP.L0.Ok:=by
 refine aP.L0.aG (fun(L,l,n,i,r)=>(l).length - Int.toNat i) ?_
 rintro⟨L,l,n,i,r⟩ ⟨hlen,k,hk,rfl,rfl,rfl,hrow⟩
 have hlen:(l).length≤1000000:=hlen
 have hk:k≤(l).length:=hk
 have hrow:(r).length≤1000000+k:=hrow
 by_cases h:k < (l).length
 ·left
  have n1:nth eH l k=l[k]:=cC (t:=eH) h
  have hd:List.drop k l=l[k]::List.drop (k+1) l:=List.drop_eq_getElem_cons h
  refine⟨((r).length+1,l,((l).length:Int),((k+1:Nat):Int),r++ [(fun x:fD=>x.1) l[k]]),⟨hlen,k+1,by omega,rfl,rfl,by rw[List.length_append];rfl,by rw[List.length_append];show(r).length+1≤_;omega⟩,by simp only[Int.toNat_natCast];omega,?_,fun kn kx=> ?_⟩
  ·simp only[aP.L0.add,aP.L0.F,Int.toNat_natCast,hd,List.map_cons,List.length_cons,List.append_assoc,List.singleton_append]
   rw[show ∀a c:Nat,a+1+c=a+(c+1) from fun a c=>by omega]
  ·rw[aP.L0.step,bu (by omega),bo (show(0:Int)≤(k:Int) by omega) (by omega),Int.toNat_natCast,n1]
   simp only[av]
   rw[aO (Nat.le_refl _),eE (by omega) (by omega),N.kM (by omega),List.take_length]
   rfl
 ·right
  obtain rfl:k=(l).length:=by omega
  intro R kn kx
  rw[aP.L0.step,bj (by omega),ay]
  simp only[aP.L0.add,aP.L0.F,Int.toNat_natCast,List.drop_length,List.map_nil,List.append_nil,List.length_nil,Nat.add_zero]
theorem aP.ok:aP.Ok:=by
 intro t hv
 have hv:EG t:=hv
 rw[aP.eq,aq.run (d:=t) hv]
 simp only[aa,aq.add,aq.F,aP.add,aP.F,jS]
 cases hok:gn t
 ·rfl
 ·obtain⟨⟨_,a2,a3,_⟩,b1,b2⟩:=jE hok
  rw[aP.L0.run (d:=(0,t.1,t.1.length,0,[])) ⟨by show t.1.length≤_;omega,0,Nat.zero_le _,rfl,rfl,rfl,Nat.zero_le _⟩]
  simp only[Bool.not_true,ay,if_true,aa,aP.L0.add,aP.L0.F,Int.toNat_zero,List.drop_zero,List.nil_append,Nat.zero_add]
  rw[aO ⟨by trivial,by rw[List.length_map];exact Nat.le_refl _⟩,av,fg (by rw[List.length_map])]
noncomputable def aP.E:=Entry.cz [some gg] aP.st aP.aB aP.add aP.F aP.out
noncomputable def aP.call:aP.D→Option aP.X:=bH aP.E aP.st
theorem aP.run:bC aP.call aP.aB aP.add aP.F:=cQ (cP [.d gg] fun _=>by kernel_rfl)
noncomputable def aP.sg:SG Tryz.prog:=⟨38,aU,aP.E,.fn 1 (by kernel_rfl) aP.ok (And.intro (.cz aP.L0.ok (by kernel_rfl)) trivial)⟩
abbrev bA.L0.D:=Nat×Int×Int×Bs×(List kg)
def bA.L0.st:bA.L0.D→AS:=fun(lL,t12,t13,n3,n21)=>⟨([.undef,.undef,.cf (.new 21 0) 0 [] 0 0 lL,.ptr (.new 3 0) 0 [] 0]++bg 8 ([.d ti t12,.d ti t13]++bg 10 [])),[],([[],[],[],[.obj 0 false (.d tH n3)]]++bN 17 [[.obj 0 false (.vec 55 kG n21)],[],[]])⟩
abbrev bA.L0.Y0:=Nat×(List kg)
abbrev bA.L0.X0:=Nat×(List kg)
def bA.L0.bt:bA.L0.X0→Exit×AS:=fun x=>(.exit 0,⟨([.undef,.undef,.cf (.new 21 0) 0 [] 0 0 x.1]++bg 21 []),[],(bN 21 [[.obj 0 false (.vec 55 kG x.2)],[],[]])⟩)
abbrev bA.L0.X:=bA.L0.X0
abbrev bA.L0.Y:=bA.L0.Y0
def bA.L0.out:bA.L0.X→Out (Exit×AS):=fun x=> .ok (bA.L0.bt x)
def bA.L0.add:bA.L0.D→bA.L0.Y→bA.L0.X:=fun(lL,t12,t13,n3,n21) y=>y
abbrev bA.D:=fb
def bA.st:bA.D→SA:=fun t=>([.d gg t],[])
abbrev bA.Y:=(List kg)
abbrev bA.X:=(List kg)
def bA.out:bA.X→a9:=fun x=>⟨.d (.slice kG) x,[],[]⟩
def bA.add:bA.D→bA.Y→bA.X:=fun t y=>y
def bA.L0.aB:bA.L0.D→Prop:=fun(L,n,i,id,r)=>∃k m:Nat,k≤m∧i=k∧n=m∧m≤1000∧L=r.length∧L=k
def bA.L0.F:bA.L0.D→bA.L0.Y:=fun(L,n,i,id,r)=>(L+(n - i).toNat,r++qR id i.toNat (n - i).toNat)
def bA.aB:bA.D→Prop:=fun t=>rH t
def bA.F:bA.D→bA.Y:=fun t=>om t
noncomputable def bA.G:dS:=eR (P:=Tryz.prog) [tid.sg,aq.sg]
noncomputable def bA.L0.E:=bO.cz bA.L0.st bA.L0.aB bA.L0.add bA.L0.F bA.L0.out
noncomputable def bA.L0.call:bA.L0.D→Option bA.L0.X:=dk bA.L0.E bA.L0.st
noncomputable def bA.an:eA:= {loops:=jY [(5,{bm:=[2,3,12,13],sites:=[3,21],ix:=[⟨2,[],21,67⟩]})],outs:=jX [(5,{bm:=[2],sites:=[21]},{bm:=[2]})],fJ:=kF [(5,bA.L0.E)],res:=[some (.slice kG)]}
noncomputable def bA.A:= @cJ Tryz.prog bA.G bA.an 0 Tryz.f40 _ bA.st
abbrev bA.Ok:=cK @bA.A bA.aB bA.add bA.F bA.out
noncomputable def bA.L0.R:= @cg Tryz.prog bA.G bA.an 0 Tryz.f40 0 _ bA.L0.st
abbrev bA.L0.Ok:=eB Tryz.prog bA.G bA.an 0 Tryz.f40 0 bA.L0.st bA.L0.aB bA.L0.add bA.L0.F bA.L0.out
theorem bA.L0.run:bC bA.L0.call bA.L0.aB bA.L0.add bA.L0.F:=eI (eD [.n,.d ti,.d ti,.d tB,.d (.slice kG)] fun _=>by kernel_rfl)
theorem bA.L0.aG:fR @bA.L0.R bA.L0.st bA.L0.aB bA.L0.add bA.L0.F bA.L0.bt bA.L0.Ok:=fV
theorem bA.L0.step{R:Type}(lL:Nat)(t12:Int)(t13:Int)(n3:Bs)(n21:(List kg))(kn:AS→Option R)(kx:Exit→AS→Option R):bA.L0.R (lL,t12,t13,n3,n21) kn kx=
  aJ ((fZ t13 t12)) (
   aJ (decide (lL≤(List.length n21))) (
   aJ (dm (lL+1) 40) (
   kn (bA.L0.st ((lL+1),t12,(bM .i64 t13 (1:Int)),n3,((List.take lL n21)++ [(n3,(t13,()))])))) none) none) (
   kx (bA.L0.bt (lL,n21)).1 (bA.L0.bt (lL,n21)).2):=by kernel_rfl
theorem bA.eq{R:Type}(t:fb)(k:a9→Option R):bA.A t k=
  ah (tid.call t) fun x1=>
  ah (aq.call t) fun x2=>
  aJ ((!x2)) (
   k (bA.out ([]:List kg))) (
   ah (bA.L0.call (0,(((List.length t.2.1):Nat):Int),(0:Int),x1,([]:List kg))) fun x3=>
   aJ (decide (0=0∧(0+x3.1)≤(List.length x3.2))) (
   k (bA.out (cut x3.2 0 x3.1))) none):=by kernel_rfl
theorem zZ(id:List Int)(k n:Nat):(qR id k n).length=n:=by simp[qR]
theorem yf(id:List Int)(k n:Nat):qR id k (n+1)=(id,((k:Int),()))::qR id (k+1) n:=by
 unfold qR
 rw[List.range'_succ,List.map_cons]
theorem bA.L0.ok:bA.L0.Ok:=by
 refine bA.L0.aG (fun(L,n,i,id,r)=>(n - i).toNat) ?_
 rintro⟨L,n,i,id,r⟩ ⟨k,m,hk,rfl,rfl,hm,rfl,hrk⟩
 have hrk:r.length=k:=hrk
 by_cases h:k < m
 ·left
  have e1:((m:Int) - (k:Int)).toNat=(m - (k+1))+1:=by omega
  have e2:((m:Int) - ((k+1:Nat):Int)).toNat=m - (k+1):=by omega
  refine⟨(r.length+1,(m:Int),((k+1:Nat):Int),id,r++ [(id,((k:Int),()))]),⟨k+1,m,by omega,rfl,rfl,hm,by rw[List.length_append];rfl,by show r.length+1=_;omega⟩,by show((m:Int) - ((k+1:Nat):Int)).toNat < ((m:Int) - (k:Int)).toNat;omega,?_,fun kn kx=> ?_⟩
  ·simp only[bA.L0.add,bA.L0.F,e1,e2,Int.toNat_natCast,yf,List.append_assoc,List.singleton_append]
   rw[show r.length+1+(m - (k+1))=r.length+(m - (k+1)+1) by omega]
  ·rw[bA.L0.step,bu (by omega),aO (Nat.le_refl _),eE (by omega) (by omega),N.kM (by omega),List.take_length]
   rfl
 ·right
  obtain rfl:k=m:=by omega
  intro R kn kx
  rw[bA.L0.step,bj (by omega),ay]
  simp only[bA.L0.add,bA.L0.F,Int.sub_self,Int.toNat_zero,Nat.add_zero]
  rw[show qR id (k:Int).toNat 0=[] from rfl,List.append_nil]
theorem bA.ok:bA.Ok:=by
 intro t hv
 have hv:rH t:=hv
 rw[bA.eq,tid.run (d:=t) hv,aq.run (d:=t) hv.1]
 simp only[aa,tid.add,tid.F,aq.add,aq.F,bA.add,bA.F,om]
 cases hok:gn t
 ·rfl
 ·obtain⟨⟨_,a2,a3,_⟩,b1,b2⟩:=jE hok
  have hl:=zZ (tx t) 0 t.2.1.length
  rw[bA.L0.run (d:=(0,t.2.1.length,0,tx t,[])) ⟨0,t.2.1.length,Nat.zero_le _,rfl,rfl,by omega,rfl,rfl⟩]
  simp only[Bool.not_true,ay,if_true,aa,bA.L0.add,bA.L0.F,Int.sub_zero,Int.toNat_natCast,Int.toNat_zero,List.nil_append,Nat.zero_add]
  rw[aO ⟨by trivial,by rw[hl];exact Nat.le_refl _⟩,av,fg hl]
noncomputable def bA.E:=Entry.cz [some gg] bA.st bA.aB bA.add bA.F bA.out
noncomputable def bA.call:bA.D→Option bA.X:=bH bA.E bA.st
theorem bA.run:bC bA.call bA.aB bA.add bA.F:=cQ (cP [.d gg] fun _=>by kernel_rfl)
noncomputable def bA.sg:SG Tryz.prog:=⟨40,aU,bA.E,.fn 1 (by kernel_rfl) bA.ok (And.intro (.cz bA.L0.ok (by kernel_rfl)) trivial)⟩
set_option synthInstance.maxSize 5000
abbrev fi.D:=(List fD)
def fi.st:fi.D→SA:=fun sv=>([.d (.slice eH) sv],[])
abbrev fi.Y:=Nat×(List fD)
abbrev fi.X:=Nat×(List fD)
def fi.out:fi.X→a9:=fun x=>⟨.cf (.new 0 0) 0 [] 0 0 x.1,[],[.obj 0 false (.vec 57 eH x.2)]⟩
def fi.add:fi.D→fi.Y→fi.X:=fun sv y=>y
def fi.aB:fi.D→Prop:=fun l=>l.length≤1000000
def fi.F:fi.D→fi.Y:=fun l=>(l.length,l)
noncomputable def fi.G:dS:=eR (P:=Tryz.prog) []
noncomputable def fi.an:eA:= {bI:=[5],ix:=[⟨2,[],5,36⟩]}
noncomputable def fi.A:= @cJ Tryz.prog fi.G fi.an 0 Tryz.f131 _ fi.st
abbrev fi.Ok:=cK @fi.A fi.aB fi.add fi.F fi.out
theorem fi.eq{R:Type}(sv:(List fD))(k:a9→Option R):fi.A sv k=
  aJ (decide (0 < (List.length sv))) (
   aJ (dm (0+(List.length sv)) 80) (
   k (fi.out ((0+(List.length sv)),((List.take 0 (List.replicate 0 (((List.replicate 32 (0:Int)),((0:Int),())),(((0:Int),(([]:List Sg),((0:Int),()))),()))))++sv)))) none) (
   nd (
    k (fi.out (0,([]:List fD)))) (
    aJ (dm (0+(List.length sv)) 80) (
    k (fi.out ((0+(List.length sv)),((List.take 0 (List.replicate 0 (((List.replicate 32 (0:Int)),((0:Int),())),(((0:Int),(([]:List Sg),((0:Int),()))),()))))++sv)))) none)):=by kernel_rfl
theorem fi.ok:fi.Ok:=by
 intro l hl
 have hl:l.length≤1000000:=hl
 have hr:dm l.length 80=true:=eE (by omega) (by omega)
 rw[fi.eq]
 simp only[Nat.zero_add,hr,av,List.take_zero,List.nil_append,fi.add,fi.F]
 by_cases h:0 < l.length
 ·simp only[aO h,av]
 ·have:l=[]:=List.eq_nil_of_length_eq_zero (by omega)
  subst this
  simp only[List.length_nil,nU,aM (Nat.lt_irrefl 0),ay]
noncomputable def fi.E:=Entry.cz [some (.slice eH)] fi.st fi.aB fi.add fi.F fi.out
noncomputable def fi.call:fi.D→Option fi.X:=bH fi.E fi.st
theorem fi.run:bC fi.call fi.aB fi.add fi.F:=cQ (cP [.d (.slice eH)] fun _=>by kernel_rfl)
noncomputable def fi.sg:SG Tryz.prog:=⟨131,aU,fi.E,.fn 0 (by kernel_rfl) fi.ok trivial⟩
abbrev dK.D:=(List gh)
def dK.st:dK.D→SA:=fun sv=>([.d (.slice eU) sv],[])
abbrev dK.Y:=Nat×(List gh)
abbrev dK.X:=Nat×(List gh)
def dK.out:dK.X→a9:=fun x=>⟨.cf (.new 0 0) 0 [] 0 0 x.1,[],[.obj 0 false (.vec 62 eU x.2)]⟩
def dK.add:dK.D→dK.Y→dK.X:=fun sv y=>y
def dK.aB:dK.D→Prop:=fun l=>l.length≤1000000
def dK.F:dK.D→dK.Y:=fun l=>(l.length,l)
noncomputable def dK.G:dS:=eR (P:=Tryz.prog) []
noncomputable def dK.an:eA:= {bI:=[5],ix:=[⟨2,[],5,37⟩]}
noncomputable def dK.A:= @cJ Tryz.prog dK.G dK.an 0 Tryz.f132 _ dK.st
abbrev dK.Ok:=cK @dK.A dK.aB dK.add dK.F dK.out
theorem dK.eq{R:Type}(sv:(List gh))(k:a9→Option R):dK.A sv k=
  aJ (decide (0 < (List.length sv))) (
   aJ (dm (0+(List.length sv)) 32) (
   k (dK.out ((0+(List.length sv)),((List.take 0 (List.replicate 0 ((0:Int),((([]:List fU),()),()))))++sv)))) none) (
   nd (
    k (dK.out (0,([]:List gh)))) (
    aJ (dm (0+(List.length sv)) 32) (
    k (dK.out ((0+(List.length sv)),((List.take 0 (List.replicate 0 ((0:Int),((([]:List fU),()),()))))++sv)))) none)):=by kernel_rfl
theorem dK.ok:dK.Ok:=by
 intro l hl
 have hl:l.length≤1000000:=hl
 have hr:dm l.length 32=true:=eE (by omega) (by omega)
 rw[dK.eq]
 simp only[Nat.zero_add,hr,av,List.take_zero,List.nil_append,dK.add,dK.F]
 by_cases h:0 < l.length
 ·simp only[aO h,av]
 ·have:l=[]:=List.eq_nil_of_length_eq_zero (by omega)
  subst this
  simp only[List.length_nil,nU,aM (Nat.lt_irrefl 0),ay]
noncomputable def dK.E:=Entry.cz [some (.slice eU)] dK.st dK.aB dK.add dK.F dK.out
noncomputable def dK.call:dK.D→Option dK.X:=bH dK.E dK.st
theorem dK.run:bC dK.call dK.aB dK.add dK.F:=cQ (cP [.d (.slice eU)] fun _=>by kernel_rfl)
noncomputable def dK.sg:SG Tryz.prog:=⟨132,aU,dK.E,.fn 0 (by kernel_rfl) dK.ok trivial⟩
abbrev fh.D:=(List fU)
def fh.st:fh.D→SA:=fun sv=>([.d (.slice fk) sv],[])
abbrev fh.Y:=Nat×(List fU)
abbrev fh.X:=Nat×(List fU)
def fh.out:fh.X→a9:=fun x=>⟨.cf (.new 0 0) 0 [] 0 0 x.1,[],[.obj 0 false (.vec 85 fk x.2)]⟩
def fh.add:fh.D→fh.Y→fh.X:=fun sv y=>y
def fh.aB:fh.D→Prop:=fun l=>l.length≤1000000
def fh.F:fh.D→fh.Y:=fun l=>(l.length,l)
noncomputable def fh.G:dS:=eR (P:=Tryz.prog) []
noncomputable def fh.an:eA:= {bI:=[5],ix:=[⟨2,[],5,22⟩]}
noncomputable def fh.A:= @cJ Tryz.prog fh.G fh.an 0 Tryz.f134 _ fh.st
abbrev fh.Ok:=cK @fh.A fh.aB fh.add fh.F fh.out
theorem fh.eq{R:Type}(sv:(List fU))(k:a9→Option R):fh.A sv k=
  aJ (decide (0 < (List.length sv))) (
   aJ (dm (0+(List.length sv)) 48) (
   k (fh.out ((0+(List.length sv)),((List.take 0 (List.replicate 0 (([]:List Int),((0:Int),((0:Int),((0:Int),()))))))++sv)))) none) (
   nd (
    k (fh.out (0,([]:List fU)))) (
    aJ (dm (0+(List.length sv)) 48) (
    k (fh.out ((0+(List.length sv)),((List.take 0 (List.replicate 0 (([]:List Int),((0:Int),((0:Int),((0:Int),()))))))++sv)))) none)):=by kernel_rfl
theorem fh.ok:fh.Ok:=by
 intro l hl
 have hl:l.length≤1000000:=hl
 have hr:dm l.length 48=true:=eE (by omega) (by omega)
 rw[fh.eq]
 simp only[Nat.zero_add,hr,av,List.take_zero,List.nil_append,fh.add,fh.F]
 by_cases h:0 < l.length
 ·simp only[aO h,av]
 ·have:l=[]:=List.eq_nil_of_length_eq_zero (by omega)
  subst this
  simp only[List.length_nil,nU,aM (Nat.lt_irrefl 0),ay]
noncomputable def fh.E:=Entry.cz [some (.slice fk)] fh.st fh.aB fh.add fh.F fh.out
noncomputable def fh.call:fh.D→Option fh.X:=bH fh.E fh.st
theorem fh.run:bC fh.call fh.aB fh.add fh.F:=cQ (cP [.d (.slice fk)] fun _=>by kernel_rfl)
noncomputable def fh.sg:SG Tryz.prog:=⟨134,aU,fh.E,.fn 0 (by kernel_rfl) fh.ok trivial⟩
abbrev dL.D:=(List Sg)
def dL.st:dL.D→SA:=fun sv=>([.d (.slice jm) sv],[])
abbrev dL.Y:=(List Sg)
abbrev dL.X:=(List Sg)
def dL.out:dL.X→a9:=fun x=>⟨.d (.slice jm) x,[],[]⟩
def dL.add:dL.D→dL.Y→dL.X:=fun sv y=>y
def dL.aB:dL.D→Prop:=fun l=>l.length≤1000000
def dL.F:dL.D→dL.Y:=fun l=>l
noncomputable def dL.G:dS:=eR (P:=Tryz.prog) []
noncomputable def dL.an:eA:= {bI:=[5],res:=[some (.slice jm)]}
noncomputable def dL.A:= @cJ Tryz.prog dL.G dL.an 0 Tryz.f133 _ dL.st
abbrev dL.Ok:=cK @dL.A dL.aB dL.add dL.F dL.out
theorem dL.eq{R:Type}(sv:(List Sg))(k:a9→Option R):dL.A sv k=
  aJ (decide (0 < (List.length sv))) (
   aJ (dm (0+(List.length sv)) 16) (
   aJ (decide (0=0∧(0+(0+(List.length sv)))≤(List.length ((List.take 0 (List.replicate 0 ((0:Int),((0:Int),()))))++sv)))) (
   k (dL.out (cut ((List.take 0 (List.replicate 0 ((0:Int),((0:Int),()))))++sv) 0 (0+(List.length sv))))) none) none) (
   nd (
    k (dL.out ([]:List Sg))) (
    aJ (dm (0+(List.length sv)) 16) (
    aJ (decide (0=0∧(0+(0+(List.length sv)))≤(List.length ((List.take 0 (List.replicate 0 ((0:Int),((0:Int),()))))++sv)))) (
    k (dL.out (cut ((List.take 0 (List.replicate 0 ((0:Int),((0:Int),()))))++sv) 0 (0+(List.length sv))))) none) none)):=by kernel_rfl
theorem dL.ok:dL.Ok:=by
 intro l hl
 have hl:l.length≤1000000:=hl
 have hr:dm l.length 16=true:=eE (by omega) (by omega)
 rw[dL.eq]
 simp only[Nat.zero_add,hr,av,List.take_zero,List.nil_append,Nat.le_refl,and_self,decide_true,fg,dL.add,dL.F]
 by_cases h:0 < l.length
 ·simp only[aO h,av]
 ·have:l=[]:=List.eq_nil_of_length_eq_zero (by omega)
  subst this
  simp only[List.length_nil,nU,aM (Nat.lt_irrefl 0),ay]
noncomputable def dL.E:=Entry.cz [some (.slice jm)] dL.st dL.aB dL.add dL.F dL.out
noncomputable def dL.call:dL.D→Option dL.X:=bH dL.E dL.st
theorem dL.run:bC dL.call dL.aB dL.add dL.F:=cQ (cP [.d (.slice jm)] fun _=>by kernel_rfl)
noncomputable def dL.sg:SG Tryz.prog:=⟨133,aU,dL.E,.fn 0 (by kernel_rfl) dL.ok trivial⟩
abbrev ag.L0.D:=Int×Int×Nat×Nat×(Int×Unit)×(Int×Unit)×(List fD)×(List gh)
def ag.L0.st:ag.L0.D→AS:=fun(t17,t18,n1L,n1L_2,n1,n2,n9,n12)=>⟨([.undef,.ptr (.new 1 0) 0 [] 0,.ptr (.new 2 0) 0 [] 0]++bg 14 ([.d ti t17,.d ti t18]++bg 56 [])),[],([[],[.obj 0 false (.pr (.cf (.new 9 0) 0 [] 0 0 n1L) (.pr (.cf (.new 12 0) 0 [] 0 0 n1L_2) (.d (.pair ti .unit) n1)))],[.obj 0 false (.pr (.cY) (.pr (.cY) (.d (.pair ti .unit) n2)))]]++bN 6 ([[.obj 0 false (.vec 57 eH n9)],[],[],[.obj 0 false (.vec 62 eU n12)]]++bN 62 []))⟩
abbrev ag.L0.Y0:=(List fD)
abbrev ag.L0.X0:=(Nat×Nat×(Int×Unit)×(Int×Unit)×(List gh))×((List fD))
def ag.L0.bt:ag.L0.X0→Exit×AS:=fun x=>(.exit 0,⟨([.undef,.ptr (.new 1 0) 0 [] 0,.ptr (.new 2 0) 0 [] 0]++bg 72 []),[],([[],[.obj 0 false (.pr (.cf (.new 9 0) 0 [] 0 0 x.1.1) (.pr (.cf (.new 12 0) 0 [] 0 0 x.1.2.1) (.d (.pair ti .unit) x.1.2.2.1)))],[.obj 0 false (.pr (.cY) (.pr (.cY) (.d (.pair ti .unit) x.1.2.2.2.1)))]]++bN 6 ([[.obj 0 false (.vec 57 eH x.2)],[],[],[.obj 0 false (.vec 62 eU x.1.2.2.2.2)]]++bN 62 []))⟩)
abbrev ag.L0.X:=ag.L0.X0
abbrev ag.L0.Y:=ag.L0.Y0
def ag.L0.out:ag.L0.X→Out (Exit×AS):=fun x=> .ok (ag.L0.bt x)
def ag.L0.add:ag.L0.D→ag.L0.Y→ag.L0.X:=fun(t17,t18,n1L,n1L_2,n1,n2,n9,n12) y=>((n1L,n1L_2,n1,n2,n12),y)
abbrev ag.L1.D:=Int×Int×Nat×Nat×(Int×Unit)×(Int×Unit)×(List fD)×(List gh)
def ag.L1.st:ag.L1.D→AS:=fun(t38,t39,n1L_3,n1L_4,n1_2,n2_2,n9_2,n12_2)=>⟨([.undef,.ptr (.new 1 0) 0 [] 0,.ptr (.new 2 0) 0 [] 0]++bg 35 ([.d ti t38,.d ti t39]++bg 35 [])),[],([[],[.obj 0 false (.pr (.cf (.new 9 0) 0 [] 0 0 n1L_3) (.pr (.cf (.new 12 0) 0 [] 0 0 n1L_4) (.d (.pair ti .unit) n1_2)))],[.obj 0 false (.pr (.cY) (.pr (.cY) (.d (.pair ti .unit) n2_2)))]]++bN 6 ([[.obj 0 false (.vec 57 eH n9_2)],[],[],[.obj 0 false (.vec 62 eU n12_2)]]++bN 62 []))⟩
abbrev ag.L1.Y0:=Nat×Nat×(Int×Unit)×(Int×Unit)×(List fD)×(List gh)
abbrev ag.L1.X0:=Nat×Nat×(Int×Unit)×(Int×Unit)×(List fD)×(List gh)
def ag.L1.bt:ag.L1.X0→Exit×AS:=fun x=>(.exit 2,⟨([.undef,.ptr (.new 1 0) 0 [] 0,.ptr (.new 2 0) 0 [] 0]++bg 72 []),[],([[],[.obj 0 false (.pr (.cf (.new 9 0) 0 [] 0 0 x.1) (.pr (.cf (.new 12 0) 0 [] 0 0 x.2.1) (.d (.pair ti .unit) x.2.2.1)))],[.obj 0 false (.pr (.cY) (.pr (.cY) (.d (.pair ti .unit) x.2.2.2.1)))]]++bN 6 ([[.obj 0 false (.vec 57 eH x.2.2.2.2.1)],[],[],[.obj 0 false (.vec 62 eU x.2.2.2.2.2)]]++bN 62 []))⟩)
abbrev ag.L1.X:=ag.L1.X0
abbrev ag.L1.Y:=ag.L1.Y0
def ag.L1.out:ag.L1.X→Out (Exit×AS):=fun x=> .ok (ag.L1.bt x)
def ag.L1.add:ag.L1.D→ag.L1.Y→ag.L1.X:=fun(t38,t39,n1L_3,n1L_4,n1_2,n2_2,n9_2,n12_2) y=>y
abbrev ag.L2.D:=Int×Nat×Int×Int×Int×Int×Nat×Nat×(Int×Unit)×(Int×Unit)×(List fD)×(List gh)×(List fU)
def ag.L2.st:ag.L2.D→AS:=fun(kv,lL,t38_2,t39_2,t51,t52,n1L_5,n1L_6,n1_3,n2_3,n9_3,n12_3,n49)=>⟨([.undef,.ptr (.new 1 0) 0 [] 0,.ptr (.new 2 0) 0 [] 0,.undef,.d ti kv,.cf (.new 49 0) 0 [] 0 0 lL]++bg 32 ([.d ti t38_2,.d ti t39_2]++bg 11 ([.d ti t51,.d ti t52]++bg 22 []))),[],([[],[.obj 0 false (.pr (.cf (.new 9 0) 0 [] 0 0 n1L_5) (.pr (.cf (.new 12 0) 0 [] 0 0 n1L_6) (.d (.pair ti .unit) n1_3)))],[.obj 0 false (.pr (.cY) (.pr (.cY) (.d (.pair ti .unit) n2_3)))]]++bN 6 ([[.obj 0 false (.vec 57 eH n9_3)],[],[],[.obj 0 false (.vec 62 eU n12_3)]]++bN 36 ([[.obj 0 false (.vec 85 fk n49)]]++bN 25 [])))⟩
abbrev ag.L2.Y0:=(List fU)×(List fU)
abbrev ag.L2.X0:=(Int×Int×Int×Nat×Nat×(Int×Unit)×(Int×Unit)×(List fD)×(List gh))×((List fU)×(List fU))
def ag.L2.bt:ag.L2.X0→Exit×AS:=fun x=>(.exit 4,⟨([.undef,.ptr (.new 1 0) 0 [] 0,.ptr (.new 2 0) 0 [] 0,.undef,.d ti x.1.1,.d (.slice fk) x.2.1]++bg 32 ([.d ti x.1.2.1,.d ti x.1.2.2.1]++bg 35 [])),[],([[],[.obj 0 false (.pr (.cf (.new 9 0) 0 [] 0 0 x.1.2.2.2.1) (.pr (.cf (.new 12 0) 0 [] 0 0 x.1.2.2.2.2.1) (.d (.pair ti .unit) x.1.2.2.2.2.2.1)))],[.obj 0 false (.pr (.cY) (.pr (.cY) (.d (.pair ti .unit) x.1.2.2.2.2.2.2.1)))]]++bN 6 ([[.obj 0 false (.vec 57 eH x.1.2.2.2.2.2.2.2.1)],[],[],[.obj 0 false (.vec 62 eU x.1.2.2.2.2.2.2.2.2)]]++bN 36 ([[.obj 0 true (.vec 85 fk x.2.2)]]++bN 25 [])))⟩)
abbrev ag.L2.X:=ag.L2.X0
abbrev ag.L2.Y:=ag.L2.Y0
def ag.L2.out:ag.L2.X→Out (Exit×AS):=fun x=> .ok (ag.L2.bt x)
def ag.L2.add:ag.L2.D→ag.L2.Y→ag.L2.X:=fun(kv,lL,t38_2,t39_2,t51,t52,n1L_5,n1L_6,n1_3,n2_3,n9_3,n12_3,n49) y=>((kv,t38_2,t39_2,n1L_5,n1L_6,n1_3,n2_3,n9_3,n12_3),y)
abbrev ag.D:=fb
def ag.st:ag.D→SA:=fun t=>([.d gg t],[])
abbrev ag.Y:=Nat×((List gh)×(Int×Unit))×(List fD)
abbrev ag.X:=Nat×((List gh)×(Int×Unit))×(List fD)
def ag.out:ag.X→a9:=fun x=>⟨.pr (.cf (.new 0 0) 0 [] 0 0 x.1) (.d (.pair (.slice eU) (.pair ti .unit)) x.2.1),[],[.obj 0 false (.vec 57 eH x.2.2)]⟩
def ag.add:ag.D→ag.Y→ag.X:=fun t y=>y
def ag.L0.aB:ag.L0.D→Prop:=fun(m,i,L,L2,u,v,l,os)=>(l.length≤1000∧∀x∈l,x.2.1.2.1.length≤1000000)∧∃k:Nat,k≤l.length∧i=k∧m=l.length∧L=l.length
def ag.L0.F:ag.L0.D→ag.L0.Y:=fun(m,i,L,L2,u,v,l,os)=>l
def ag.L2.aB:ag.L2.D→Prop:=fun(kv,L,m1,i1,m,i,L5,L6,u,v,ls,os,bs)=>(bs.length≤1000∧∀x∈bs,x.1.length≤1000000)∧∃k:Nat,k≤bs.length∧i=k∧m=bs.length∧L=bs.length
def ag.L2.F:ag.L2.D→ag.L2.Y:=fun(kv,L,m1,i1,m,i,L5,L6,u,v,ls,os,bs)=>(bs,bs)
def ag.L1.aB:ag.L1.D→Prop:=fun(m,i,L3,L,u,v,ls,os)=>(os.length≤1000∧∀x∈os,x.2.1.1.length≤1000∧∀b∈x.2.1.1,b.1.length≤1000000)∧∃k:Nat,k≤os.length∧i=k∧m=os.length∧L=os.length
def ag.L1.F:ag.L1.D→ag.L1.Y:=fun(m,i,L3,L,u,v,ls,os)=>(L3,L,u,v,ls,os)
def ag.aB:ag.D→Prop:=fun t=>gn t=true
def ag.F:ag.D→ag.Y:=fun t=>(t.1.length,(t.2.1,t.2.2),t.1)
noncomputable def ag.G:dS:=eR (P:=Tryz.prog) [fi.sg,dK.sg,dL.sg,fh.sg,cO.sg]
noncomputable def ag.L0.E:=bO.cz ag.L0.st ag.L0.aB ag.L0.add ag.L0.F ag.L0.out
noncomputable def ag.L0.call:ag.L0.D→Option ag.L0.X:=dk ag.L0.E ag.L0.st
noncomputable def ag.L1.E:=bO.cz ag.L1.st ag.L1.aB ag.L1.add ag.L1.F ag.L1.out
noncomputable def ag.L1.call:ag.L1.D→Option ag.L1.X:=dk ag.L1.E ag.L1.st
noncomputable def ag.L2.E:=bO.cz ag.L2.st ag.L2.aB ag.L2.add ag.L2.F ag.L2.out
noncomputable def ag.L2.call:ag.L2.D→Option ag.L2.X:=dk ag.L2.E ag.L2.st
noncomputable def ag.an:eA:= {bI:=[1],loops:=jY [(3,{bm:=[1,2,17,18],sites:=[1,2,9,12]}),(8,{bm:=[1,2,38,39],sites:=[1,2,9,12]}),(12,{bm:=[1,2,4,5,38,39,51,52],sites:=[1,2,9,12,49]})],outs:=jX [(3,{bm:=[1,2],sites:=[1,2,9,12]},{bm:=[2]}),(8,{bm:=[1,2],sites:=[1,2,9,12]},{bm:=[2]}),(12,{bm:=[1,2,4,5,38,39],sites:=[1,2,9,12,49],data:=[(5,(.slice fk))]},{bm:=[2]})],fJ:=kF [(3,ag.L0.E),(8,ag.L1.E),(12,ag.L2.E)],td:=[⟨2,[.snd,.fst],(.slice eU)⟩]}
noncomputable def ag.A:= @cJ Tryz.prog ag.G ag.an 0 Tryz.f92 _ ag.st
abbrev ag.Ok:=cK @ag.A ag.aB ag.add ag.F ag.out
noncomputable def ag.L0.R:= @cg Tryz.prog ag.G ag.an 0 Tryz.f92 0 _ ag.L0.st
abbrev ag.L0.Ok:=eB Tryz.prog ag.G ag.an 0 Tryz.f92 0 ag.L0.st ag.L0.aB ag.L0.add ag.L0.F ag.L0.out
noncomputable def ag.L1.R:= @cg Tryz.prog ag.G ag.an 0 Tryz.f92 1 _ ag.L1.st
abbrev ag.L1.Ok:=eB Tryz.prog ag.G ag.an 0 Tryz.f92 1 ag.L1.st ag.L1.aB ag.L1.add ag.L1.F ag.L1.out
noncomputable def ag.L2.R:= @cg Tryz.prog ag.G ag.an 0 Tryz.f92 2 _ ag.L2.st
abbrev ag.L2.Ok:=eB Tryz.prog ag.G ag.an 0 Tryz.f92 2 ag.L2.st ag.L2.aB ag.L2.add ag.L2.F ag.L2.out
theorem ag.L0.run:bC ag.L0.call ag.L0.aB ag.L0.add ag.L0.F:=eI (eD [.d ti,.d ti,.n,.n,.d (.pair ti .unit),.d (.pair ti .unit),.d (.slice eH),.d (.slice eU)] fun _=>by kernel_rfl)
theorem ag.L0.aG:fR @ag.L0.R ag.L0.st ag.L0.aB ag.L0.add ag.L0.F ag.L0.bt ag.L0.Ok:=fV
theorem ag.L0.step{R:Type}(t17:Int)(t18:Int)(n1L:Nat)(n1L_2:Nat)(n1:(Int×Unit))(n2:(Int×Unit))(n9:(List fD))(n12:(List gh))(kn:AS→Option R)(kx:Exit→AS→Option R):ag.L0.R (t17,t18,n1L,n1L_2,n1,n2,n9,n12) kn kx=
  aJ ((fZ t18 t17)) (
   aJ (ei t18 ((n1L:Nat):Int)) (
   aJ (decide ((0+(Int.toNat t18)) < (List.length n9))) (
   aJ (decide ((((0+(Int.toNat t18))*36)+34)=(((0+((Int.toNat t18)*36))+33)+1))) (
   ah (dL.call (nth eH n9 (0+(Int.toNat t18))).2.1.2.1) fun x1=>
   aJ (ei t18 ((n1L:Nat):Int)) (
   aJ (decide ((0+(Int.toNat t18)) < (List.length n9))) (
   aJ (decide ((((0+(Int.toNat t18))*36)+34)=(((0+((Int.toNat t18)*36))+33)+1))) (
   aJ (decide ((0+(Int.toNat t18)) < (List.length n9))) (
   kn (ag.L0.st (t17,(bM .i64 t18 (1:Int)),n1L,n1L_2,n1,n2,(List.set n9 (0+(Int.toNat t18)) ((nth eH n9 (0+(Int.toNat t18))).1,(((nth eH n9 (0+(Int.toNat t18))).2.1.1,(x1,(nth eH n9 (0+(Int.toNat t18))).2.1.2.2)),(nth eH n9 (0+(Int.toNat t18))).2.2))),n12))) none) none) none) none) none) none) none) (
   kx (ag.L0.bt ((n1L,n1L_2,n1,n2,n12),n9)).1 (ag.L0.bt ((n1L,n1L_2,n1,n2,n12),n9)).2):=by kernel_rfl
theorem ag.L1.run:bC ag.L1.call ag.L1.aB ag.L1.add ag.L1.F:=eI (eD [.d ti,.d ti,.n,.n,.d (.pair ti .unit),.d (.pair ti .unit),.d (.slice eH),.d (.slice eU)] fun _=>by kernel_rfl)
theorem ag.L1.aG:fR @ag.L1.R ag.L1.st ag.L1.aB ag.L1.add ag.L1.F ag.L1.bt ag.L1.Ok:=fV
theorem ag.L1.step{R:Type}(t38:Int)(t39:Int)(n1L_3:Nat)(n1L_4:Nat)(n1_2:(Int×Unit))(n2_2:(Int×Unit))(n9_2:(List fD))(n12_2:(List gh))(kn:AS→Option R)(kx:Exit→AS→Option R):ag.L1.R (t38,t39,n1L_3,n1L_4,n1_2,n2_2,n9_2,n12_2) kn kx=
  aJ ((fZ t39 t38)) (
   aJ (ei t39 ((n1L_4:Nat):Int)) (
   aJ (decide ((0+(Int.toNat t39)) < (List.length n12_2))) (
   aJ (decide ((((0+(Int.toNat t39))*2)+1)=(((0+((Int.toNat t39)*2))+1)+0))) (
   ah (fh.call (nth eU n12_2 (0+(Int.toNat t39))).2.1.1) fun x1=>
   ah (ag.L2.call (t39,x1.1,t38,t39,((x1.1:Nat):Int),(0:Int),n1L_3,n1L_4,n1_2,n2_2,n9_2,n12_2,x1.2)) fun x2=>
   aJ (ei x2.1.1 ((x2.1.2.2.2.2.1:Nat):Int)) (
   aJ (decide ((0+(Int.toNat x2.1.1)) < (List.length x2.1.2.2.2.2.2.2.2.2))) (
   aJ (decide ((((0+(Int.toNat x2.1.1))*2)+1)=(((0+((Int.toNat x2.1.1)*2))+1)+0))) (
   aJ (decide ((0+(Int.toNat x2.1.1)) < (List.length x2.1.2.2.2.2.2.2.2.2))) (
   kn (ag.L1.st (x2.1.2.1,(bM .i64 x2.1.2.2.1 (1:Int)),x2.1.2.2.2.1,x2.1.2.2.2.2.1,x2.1.2.2.2.2.2.1,x2.1.2.2.2.2.2.2.1,x2.1.2.2.2.2.2.2.2.1,(List.set x2.1.2.2.2.2.2.2.2.2 (0+(Int.toNat x2.1.1)) ((nth eU x2.1.2.2.2.2.2.2.2.2 (0+(Int.toNat x2.1.1))).1,((x2.2.1,(nth eU x2.1.2.2.2.2.2.2.2.2 (0+(Int.toNat x2.1.1))).2.1.2),(nth eU x2.1.2.2.2.2.2.2.2.2 (0+(Int.toNat x2.1.1))).2.2)))))) none) none) none) none) none) none) none) (
   kx (ag.L1.bt (n1L_3,n1L_4,n1_2,n2_2,n9_2,n12_2)).1 (ag.L1.bt (n1L_3,n1L_4,n1_2,n2_2,n9_2,n12_2)).2):=by kernel_rfl
theorem ag.L2.run:bC ag.L2.call ag.L2.aB ag.L2.add ag.L2.F:=eI (eD [.d ti,.n,.d ti,.d ti,.d ti,.d ti,.n,.n,.d (.pair ti .unit),.d (.pair ti .unit),.d (.slice eH),.d (.slice eU),.d (.slice fk)] fun _=>by kernel_rfl)
theorem ag.L2.aG:fR @ag.L2.R ag.L2.st ag.L2.aB ag.L2.add ag.L2.F ag.L2.bt ag.L2.Ok:=fV
theorem ag.L2.step{R:Type}(kv:Int)(lL:Nat)(t38_2:Int)(t39_2:Int)(t51:Int)(t52:Int)(n1L_5:Nat)(n1L_6:Nat)(n1_3:(Int×Unit))(n2_3:(Int×Unit))(n9_3:(List fD))(n12_3:(List gh))(n49:(List fU))(kn:AS→Option R)(kx:Exit→AS→Option R):ag.L2.R (kv,lL,t38_2,t39_2,t51,t52,n1L_5,n1L_6,n1_3,n2_3,n9_3,n12_3,n49) kn kx=
  aJ ((fZ t52 t51)) (
   aJ (ei t52 ((lL:Nat):Int)) (
   aJ (decide ((0+(Int.toNat t52)) < (List.length n49))) (
   aJ (decide ((((0+(Int.toNat t52))*4)+0)=((0+((Int.toNat t52)*4))+0))) (
   ah (cO.call (nth fk n49 (0+(Int.toNat t52))).1) fun x1=>
   aJ (ei t52 ((lL:Nat):Int)) (
   aJ (decide ((0+(Int.toNat t52)) < (List.length n49))) (
   aJ (decide ((((0+(Int.toNat t52))*4)+0)=((0+((Int.toNat t52)*4))+0))) (
   aJ (decide ((0+(Int.toNat t52)) < (List.length n49))) (
   kn (ag.L2.st (kv,lL,t38_2,t39_2,t51,(bM .i64 t52 (1:Int)),n1L_5,n1L_6,n1_3,n2_3,n9_3,n12_3,(List.set n49 (0+(Int.toNat t52)) (x1,(nth fk n49 (0+(Int.toNat t52))).2))))) none) none) none) none) none) none) none) (
   aJ (decide (0=0∧(0+lL)≤(List.length n49))) (
   kx (ag.L2.bt ((kv,t38_2,t39_2,n1L_5,n1L_6,n1_3,n2_3,n9_3,n12_3),((cut n49 0 lL),n49))).1 (ag.L2.bt ((kv,t38_2,t39_2,n1L_5,n1L_6,n1_3,n2_3,n9_3,n12_3),((cut n49 0 lL),n49))).2) none):=by kernel_rfl
theorem ag.eq{R:Type}(t:fb)(k:a9→Option R):ag.A t k=
 ah (fi.call t.1) fun x1=>
 ah (dK.call t.2.1) fun x2=>
 ah (ag.L0.call (((x1.1:Nat):Int),(0:Int),x1.1,x2.1,t.2.2,((0:Int),()),x1.2,x2.2)) fun x4=>
 ah (ag.L1.call (((x4.1.2.1:Nat):Int),(0:Int),x4.1.1,x4.1.2.1,x4.1.2.2.1,x4.1.2.2.2.1,x4.2,x4.1.2.2.2.2)) fun x8=>
 aJ (decide (0=0∧(0+x8.2.1)≤(List.length x8.2.2.2.2.2))) (
 k (ag.out (x8.1,((cut x8.2.2.2.2.2 0 x8.2.1),x8.2.2.1),x8.2.2.2.2.1))) none:=by kernel_rfl
theorem ag.L0.ok:ag.L0.Ok:=by
 refine ag.L0.aG (fun(m,i,L,L2,u,v,l,os)=>l.length - Int.toNat i) ?_
 rintro⟨m,i,L,L2,u,v,l,os⟩ ⟨⟨hlen,hx⟩,k,hk,rfl,rfl,rfl⟩
 have hlen:l.length≤1000:=hlen
 have hk:k≤l.length:=hk
 by_cases h:k < l.length
 ·left
  have n1:nth eH l k=l[k]:=cC (t:=eH) h
  have hs:l.set k l[k]=l:=List.set_getElem_self h
  have e:=hx _ (List.getElem_mem h)
  refine⟨((l.length:Int),((k+1:Nat):Int),l.length,L2,u,v,l,os),⟨⟨hlen,hx⟩,k+1,by omega,rfl,rfl,rfl⟩,by simp only[Int.toNat_natCast];omega,rfl,fun kn kx=> ?_⟩
  rw[ag.L0.step,bu (by omega),bo (by omega) (by omega)]
  simp only[Int.toNat_natCast,Nat.zero_add,Nat.add_zero,Nat.add_assoc,Nat.reduceAdd,av,aO h,decide_true,n1]
  rw[dL.run (d:=l[k].2.1.2.1) e]
  simp only[aa,dL.add,dL.F]
  rw[N.kM (by omega)]
  exact congrArg (fun z=>kn (ag.L0.st (_,_,_,_,_,_,z,_))) hs
 ·right
  obtain rfl:k=l.length:=by omega
  intro R kn kx
  rw[ag.L0.step,bj (by omega),ay]
  rfl
theorem ag.L2.ok:ag.L2.Ok:=by
 refine ag.L2.aG (fun(kv,L,m1,i1,m,i,L5,L6,u,v,ls,os,bs)=>bs.length - Int.toNat i) ?_
 rintro⟨kv,L,m1,i1,m,i,L5,L6,u,v,ls,os,bs⟩ ⟨⟨hlen,hx⟩,k,hk,rfl,rfl,rfl⟩
 have hlen:bs.length≤1000:=hlen
 have hk:k≤bs.length:=hk
 by_cases h:k < bs.length
 ·left
  have n1:nth fk bs k=bs[k]:=cC (t:=fk) h
  have hs:bs.set k bs[k]=bs:=List.set_getElem_self h
  have e:=hx _ (List.getElem_mem h)
  refine⟨(kv,bs.length,m1,i1,(bs.length:Int),((k+1:Nat):Int),L5,L6,u,v,ls,os,bs),⟨⟨hlen,hx⟩,k+1,by omega,rfl,rfl,rfl⟩,by simp only[Int.toNat_natCast];omega,rfl,fun kn kx=> ?_⟩
  rw[ag.L2.step,bu (by omega),bo (by omega) (by omega)]
  simp only[Int.toNat_natCast,Nat.zero_add,Nat.add_zero,Nat.add_assoc,Nat.reduceAdd,av,aO h,decide_true,n1]
  rw[cO.run (d:=bs[k].1) e]
  simp only[aa,cO.add,cO.F]
  rw[N.kM (by omega)]
  exact congrArg (fun z=>kn (ag.L2.st (_,_,_,_,_,_,_,_,_,_,_,_,z))) hs
 ·right
  obtain rfl:k=bs.length:=by omega
  intro R kn kx
  rw[ag.L2.step,bj (by omega),ay]
  simp only[Nat.zero_add,Nat.le_refl,and_self,decide_true,av,fg]
  rfl
theorem ag.L1.ok:ag.L1.Ok:=by
 refine ag.L1.aG (fun(m,i,L3,L,u,v,ls,os)=>os.length - Int.toNat i) ?_
 rintro⟨m,i,L3,L,u,v,ls,os⟩ ⟨⟨hlen,hx⟩,k,hk,rfl,rfl,rfl⟩
 have hlen:os.length≤1000:=hlen
 have hk:k≤os.length:=hk
 by_cases h:k < os.length
 ·left
  have n1:nth eU os k=os[k]:=cC (t:=eU) h
  have hs:os.set k os[k]=os:=List.set_getElem_self h
  have e:=hx _ (List.getElem_mem h)
  refine⟨((os.length:Int),((k+1:Nat):Int),L3,os.length,u,v,ls,os),⟨⟨hlen,hx⟩,k+1,by omega,rfl,rfl,rfl⟩,by simp only[Int.toNat_natCast];omega,rfl,fun kn kx=> ?_⟩
  rw[ag.L1.step,bu (by omega),bo (by omega) (by omega)]
  simp only[Int.toNat_natCast,Nat.zero_add,Nat.add_zero,Nat.add_assoc,Nat.reduceAdd,av,aO h,decide_true,n1]
  rw[fh.run (d:=os[k].2.1.1) (by show os[k].2.1.1.length≤_;have:=e.1;omega)]
  simp only[aa,fh.add,fh.F]
  rw[ag.L2.run (d:=((k:Int),os[k].2.1.1.length,(os.length:Int),(k:Int),(os[k].2.1.1.length:Int),0,L3,os.length,u,v,ls,os,os[k].2.1.1)) ⟨e,0,Nat.zero_le _,rfl,rfl,rfl⟩]
  simp only[aa,ag.L2.add,ag.L2.F,Int.toNat_natCast,n1,av,aO h,bo (show(0:Int)≤(k:Int) by omega) (show(k:Int) < (os.length:Int) by omega)]
  rw[N.kM (by omega)]
  exact congrArg (fun z=>kn (ag.L1.st (_,_,_,_,_,_,_,z))) hs
 ·right
  obtain rfl:k=os.length:=by omega
  intro R kn kx
  rw[ag.L1.step,bj (by omega),ay]
  rfl
theorem Bj{l:Lk}(h:gb l=true):l.1.length≤4∧∀b∈l.1,b.1.length≤12:=by
 unfold gb at h
 simp only[Bool.and_eq_true,List.all_eq_true,decide_eq_true_eq]at h
 refine⟨h.2.2,fun b hb=> ?_⟩
 have:=h.1 b hb
 unfold lQ at this
 simp only[Bool.and_eq_true,decide_eq_true_eq]at this
 exact this.1
theorem ag.ok:ag.Ok:=by
 rintro⟨is,os,nt,u⟩ hok
 obtain⟨⟨_,a2,a3,_⟩,b1,b2⟩:=jE hok
 have a2:is.length≤64:=a2
 have a3:os.length≤64:=a3
 rw[ag.eq,fi.run (d:=is) (by show is.length≤_;omega),dK.run (d:=os) (by show os.length≤_;omega)]
 simp only[aa,fi.add,fi.F,dK.add,dK.F]
 rw[ag.L0.run (d:=(is.length,0,is.length,os.length,(nt,u),(0,()),is,os)) ⟨⟨by show is.length≤_;omega,fun x hx=>by have:=(mj (g8 _ _ b1 x hx)).2.2.2.2;omega⟩,0,Nat.zero_le _,rfl,rfl,rfl⟩]
 simp only[aa,ag.L0.add,ag.L0.F]
 rw[ag.L1.run (d:=(os.length,0,is.length,os.length,(nt,u),(0,()),is,os)) ⟨⟨by show os.length≤_;omega,fun x hx=>by
  have:=Bj (iR _ _ b2 x hx).2
  exact⟨by omega,fun b hb=>by have:=this.2 b hb;omega⟩⟩,0,Nat.zero_le _,rfl,rfl,rfl⟩]
 simp only[aa,ag.L1.add,ag.L1.F,Nat.zero_add,Nat.le_refl,and_self,decide_true,av,fg]
 rfl
noncomputable def ag.E:=Entry.cz [some gg] ag.st ag.aB ag.add ag.F ag.out
noncomputable def ag.call:ag.D→Option ag.X:=bH ag.E ag.st
theorem ag.run:bC ag.call ag.aB ag.add ag.F:=cQ (cP [.d gg] fun _=>by kernel_rfl)
noncomputable def ag.sg:SG Tryz.prog:=⟨92,aU,ag.E,.fn 3 (by kernel_rfl) ag.ok (And.intro (.cz ag.L0.ok (by kernel_rfl)) (And.intro (.cz ag.L1.ok (by kernel_rfl)) (And.intro (.cz ag.L2.ok (by kernel_rfl)) trivial)))⟩
set_option synthInstance.maxSize 5000
theorem pH(x:Int)(m:Int):∀k:Nat,(x%m)^k%m=x^k%m
 | 0=>by rw[Int.pow_zero,Int.pow_zero]
 |k+1=>by rw[Int.pow_succ,Int.pow_succ,Int.mul_emod,pH x m k,Int.emod_emod_of_dvd _ (Int.dvd_refl m),←Int.mul_emod]
theorem DN(a:Int)(k:Nat):(a*a)^k=a^(2*k):=by
 rw[Int.pow_mul,Int.pow_succ,Int.pow_succ,Int.pow_zero,Int.one_mul]
theorem BB:∀(f:Nat) (a:Int) (n:Nat) (out:Int),n < 2^f→Pn out→zd f a n out=out*a^n%4611686018427377339
 | 0,a,n,out,h,ho=>by
  obtain rfl:n=0:=by omega
  rw[lZ,Int.pow_zero,Int.mul_one,Int.emod_eq_of_lt ho.1 ho.2]
 |f+1,a,n,out,h,ho=>by
  have e:(2:Nat)^(f+1)=2^f*2:=Nat.pow_succ 2 f
  rw[zd]
  split
  ·rename_i h0
   subst h0
   rw[Int.pow_zero,Int.mul_one,Int.emod_eq_of_lt ho.1 ho.2]
  ·have hp:Pn (if n%2=1 then jq out a else out):=by
    split
    ·exact lq _ _
    ·exact ho
   rw[BB f _ _ _ (by omega) hp,Int.mul_emod]
   have e1:(jq a a)^(n / 2)%4611686018427377339=a^(2*(n / 2))%4611686018427377339:=by
    unfold jq
    rw[pH,DN]
   have e2:(if n%2=1 then jq out a else out)%4611686018427377339=(out*a^(n%2))%4611686018427377339:=by
    split
    ·rename_i h1
     rw[h1,Int.pow_succ,Int.pow_zero,Int.one_mul]
     exact Int.emod_emod_of_dvd _ (Int.dvd_refl _)
    ·have h1:n%2=0:=by omega
     rw[h1,Int.pow_zero,Int.mul_one]
   rw[e1,e2,←Int.mul_emod,Int.mul_assoc,←Int.pow_add]
   have e3:n%2+2*(n / 2)=n:=by omega
   rw[e3]
theorem sE(a:Int)(n:Nat)(h:n < 18446744073709551616):pw a n=a^n%4611686018427377339:=by
 unfold pw
 rw[BB 64 a n 1 h ⟨by omega,by omega⟩,Int.one_mul]
theorem one_pow(k:Nat):(1:Int)^k=1:=Int.one_pow
theorem BD(a:Int)(k q:Nat)(hk:k < 18446744073709551616)(hq:q < 18446744073709551616)(h:pw a q=1):pw (pw a k) q=1:=by
 rw[sE _ _ hq]at h
 rw[sE _ _ hq,sE _ _ hk,pH,←Int.pow_mul,Nat.mul_comm,Int.pow_mul,←pH,h,one_pow]
 rfl
theorem tQ:pw 4 2305843009213688669=1:=by decide+kernel
theorem Ac:pw 1 2305843009213688669=1:=by decide+kernel
theorem Cw:lh 4=true:=by rw[lh,tQ];rfl
theorem pq:lh 1=true:=by rw[lh,Ac];rfl
theorem CA:wJ 1=1:=by
 have e:pw 1 2305843009213688668=1:=by decide+kernel
 rw[wJ,tk,pq]
 exact e
theorem vl{a:Int}(h:Pn a)(q:Nat)(hq:0 < q)(hq2:q < 18446744073709551616)(hp:pw a q=1):0 < a:=by
 rcases Int.lt_or_eq_of_le h.1 with h0 | h0
 ·exact h0
 ·subst h0
  rw[sE _ _ hq2,Int.zero_pow (by omega)]at hp
  cases hp
theorem Dv{a:Int}(h:Pn a)(hp:pw a 2305843009213688669=1):lh a=true:=by
 have h0:=vl h 2305843009213688669 (by decide) (by decide) hp
 rw[lh,hp,decide_eq_true ⟨h0,h.2⟩];rfl
theorem zR{a:Int}(h:lh a=true):pw a 2305843009213688669=1∧Pn a:=by
 rw[lh,Bool.and_eq_true,decide_eq_true_eq,decide_eq_true_eq]at h
 exact⟨h.2,by omega,h.1.2⟩
theorem Dw{a:Int}(h:lh a=true)(k:Nat)(hk:k < 18446744073709551616):lh (pw a k)=true:=
 Dv (ue _ _) (BD a k _ hk (by decide) (zR h).1)
theorem Dx(a:Int):lh (tk a)=true:=by
 unfold tk
 cases h:lh a
 ·exact pq
 ·exact h
theorem zS(p k:Int):lh (mA p k)=true:=Dw (Dx p) _ (by omega)
theorem sV{a:Int}(h:lh a=true):tk a=a:=by rw[tk,h];rfl
theorem po(k:Int):lh (cS k)=true:=zS 4 k
theorem wI{a:Int}(h:Pn a):jq a 1=a:=by rw[jq,Int.mul_one,Int.emod_eq_of_lt h.1 h.2]
set_option synthInstance.maxSize 5000
def pm(m:Nat):Nat→Nat→Nat→Nat→Nat
 | 0,_,_,out=>out%m
 |f+1,a,n,out=>if n=0 then out%m else pm m f (a*a%m) (n / 2) (if n%2=1 then out*a%m else out)
theorem Dc(m:Nat):∀(f a n out:Nat),n < 2^f→pm m f a n out=out*a^n%m
 | 0,a,n,out,h=>by
  obtain rfl:n=0:=by omega
  rw[pm,Nat.pow_zero,Nat.mul_one]
 |f+1,a,n,out,h=>by
  have e:(2:Nat)^(f+1)=2^f*2:=Nat.pow_succ (n:=2) (m:=f)
  rw[pm]
  split
  ·rename_i h0
   subst h0
   rw[Nat.pow_zero,Nat.mul_one]
  ·rw[Dc m f _ _ _ (by omega),Nat.mul_mod]
   have e1:(a*a%m)^(n / 2)%m=a^(2*(n / 2))%m:=by
    rw[←Nat.pow_mod,Nat.pow_mul,Nat.pow_two]
   have e2:(if n%2=1 then out*a%m else out)%m=(out*a^(n%2))%m:=by
    split
    ·rename_i h1
     rw[h1,Nat.pow_one,Nat.mod_mod]
    ·have h1:n%2=0:=by omega
     rw[h1,Nat.pow_zero,Nat.mul_one]
   rw[e1,e2,←Nat.mul_mod,Nat.mul_assoc,←Nat.pow_add]
   have e3:n%2+2*(n / 2)=n:=by omega
   rw[e3]
theorem A8:∀(r q:Nat) (f:Nat→Nat),(∀i,i < q→f i < r)→(∀i j,i < j→j < q→f i≠f j)→q≤r
 | 0,q,f,h,_=>by
  rcases Nat.eq_zero_or_pos q with h0 | h0
  ·omega
  ·exact absurd (h 0 h0) (Nat.not_lt_zero _)
 |r+1,q,f,h,g=>by
  by_cases hx:∃i,i < q∧f i=r
  ·obtain⟨i,hi,hr⟩:=hx
   have e:=A8 r (q - 1) (fun j=>if j < i then f j else f (j+1)) (fun j hj=>by
    by_cases h1:j < i
    ·have a:=h j (by omega)
     have b:=g j i h1 hi
     simp only[h1,if_true]
     omega
    ·have a:=h (j+1) (by omega)
     have b:=g i (j+1) (by omega) (by omega)
     simp only[h1,if_false]
     omega) (fun j k hjk hk=>by
    by_cases h1:j < i
    ·by_cases h2:k < i
     ·simp only[h1,h2,if_true]
      exact g j k hjk (by omega)
     ·simp only[h1,h2,if_true,if_false]
      exact g j (k+1) (by omega) (by omega)
    ·have h2:¬k < i:=by omega
     simp only[h1,h2,if_false]
     exact g (j+1) (k+1) (by omega) (by omega))
   omega
  ·have e:=A8 r q f (fun i hi=>by
    have a:=h i hi
    have b:f i≠r:=fun x=>hx ⟨i,hi,x⟩
    omega) g
   omega
theorem za(a m:Nat)(h1:1%m=1):∀i j:Nat,a^i%m=1→a^j%m=1→a^(Nat.gcd i j)%m=1:=by
 intro i
 induction i using Nat.strongRecOn with
 |ind i ih=>
  intro j hi hj
  rcases Nat.eq_zero_or_pos i with h0 | h0
  ·subst h0;rw[Nat.gcd_zero_left];exact hj
  ·rw[Nat.gcd_rec]
   refine ih (j%i) (Nat.mod_lt _ h0) i ?_ hi
   have e:a^j=(a^i)^(j / i)*a^(j%i):=by rw[←Nat.pow_mul,←Nat.pow_add,Nat.div_add_mod]
   rw[e,Nat.mul_mod,Nat.pow_mod,hi,Nat.one_pow,h1,Nat.one_mul,Nat.mod_mod]at hj
   exact hj
def Ay(n:Nat):Prop:=∀d,d∣n→d=1∨d=n
theorem zb{n k:Nat}(h:Ay n)(h0:0 < k)(hk:k < n):Nat.gcd k n=1:=by
 rcases h _ (Nat.gcd_dvd_right k n) with h1 | h1
 ·exact h1
 ·have:=Nat.le_of_dvd h0 (Nat.gcd_dvd_left k n);omega
theorem wN{n:Nat}(hn:1 < n)(h:∀r,1 < r→r*r≤n→¬r∣n):Ay n:=by
 intro d hd
 obtain⟨e,he⟩:=hd
 have hd0:0 < d:=Nat.pos_of_ne_zero (by intro x;rw[x,Nat.zero_mul]at he;omega)
 have he0:0 < e:=Nat.pos_of_ne_zero (by intro x;rw[x,Nat.mul_zero]at he;omega)
 by_cases h1:d=1
 ·exact .inl h1
 by_cases h2:e=1
 ·right;rw[he,h2,Nat.mul_one]
 exfalso
 rcases Nat.le_total d e with hle | hle
 ·exact h d (by omega) (by rw[he];exact Nat.mul_le_mul_left d hle) ⟨e,he⟩
 ·exact h e (by omega) (by rw[he];exact Nat.mul_le_mul_right e hle) ⟨d,by rw[he,Nat.mul_comm]⟩
theorem DH{n q b:Nat}(hn:1 < n)(hq:Ay q)(hq1:1 < q)(hqq:n < q*q)(hb:b^q%n=1)(hg:Nat.gcd (b - 1) n=1)(hb0:0 < b):Ay n:=by
 refine wN hn fun r hr hrr hrn=> ?_
 have h1r:1%r=1:=Nat.mod_eq_of_lt hr
 have hbr:b^q%r=1:=by
  have:=Nat.mod_mod_of_dvd (b^q) hrn
  rw[←this,hb,h1r]
 have hne:b%r≠1:=by
  intro hx
  have hd:r∣b - 1:=by have e:=Nat.dvd_sub_mod (n:=r) b;rw[hx]at e;exact e
  have:=Nat.dvd_gcd hd hrn
  rw[hg]at this
  have:=Nat.le_of_dvd (by omega) this
  omega
 have key:q≤r:=by
  refine A8 r q (fun i=>b^i%r) (fun i _=>Nat.mod_lt _ (by omega)) fun i j hij hj he=> ?_
  have e1:b^(j - i)%r=1:=by
   have x1:b^(q - i)*b^i%r=b^(q - i)*b^j%r:=by rw[Nat.mul_mod,he,←Nat.mul_mod]
   rw[←Nat.pow_add,←Nat.pow_add,show q - i+i=q by omega,show q - i+j=q+(j - i) by omega,Nat.pow_add,Nat.mul_mod,hbr,Nat.one_mul,Nat.mod_mod]at x1
   exact x1.symm
  have e2:=za b r h1r (j - i) q e1 hbr
  rw[zb hq (by omega) (by omega),Nat.pow_one]at e2
  exact hne e2
 have:q*q≤r*r:=Nat.mul_le_mul key key
 omega
def Bq(n:Nat):Nat→Bool
 | 0=>true
 |k+1=>n%(k+2) !=0 && Bq n k
theorem wM(n:Nat):∀k,Bq n k=true→∀d,1 < d→d≤k+1→¬d∣n
 | 0,_,d,h1,h2=>by omega
 |k+1,h,d,h1,h2=>by
  rw[Bq,Bool.and_eq_true]at h
  by_cases hd:d=k+2
  ·intro hx
   have:=Nat.mod_eq_zero_of_dvd hx
   rw[hd]at this
   rw[this]at h
   exact absurd h.1 (by decide)
  ·exact wM n k h.2 d h1 (by omega)
theorem E8:Ay 7930907:=by
 refine wN (by decide) fun r hr hrr=>wM 7930907 2820 (by decide+kernel) r hr ?_
 apply Nat.le_of_not_lt
 intro h
 have:2822*2822≤r*r:=Nat.mul_le_mul (by omega) (by omega)
 omega
theorem pI{n q:Nat}(a e:Nat)(hq:Ay q)(hq1:1 < q)(hn:1 < n)(hqq:n < q*q)(he:e < 2^64)(hq2:q < 2^64)(h1:pm n 64 (pm n 64 a e 1) q 1=1)(h2:Nat.gcd (pm n 64 a e 1 - 1) n=1)(h3:0 < pm n 64 a e 1):Ay n:=by
 generalize pm n 64 a e 1=b at*
 rw[Dc _ _ _ _ _ hq2,Nat.one_mul]at h1
 exact DH hn hq hq1 hqq h1 h2 h3
theorem E7:Ay 11864636873:=pI (q:=7930907) 2 1496 E8 (by decide) (by decide) (by decide) (by decide) (by decide) (by decide+kernel) (by decide+kernel) (by decide+kernel)
theorem E6:Ay 1732236983459:=pI (q:=11864636873) 2 146 E7 (by decide) (by decide) (by decide) (by decide) (by decide) (by decide+kernel) (by decide+kernel) (by decide+kernel)
theorem E5:Ay 249442125618097:=pI (q:=1732236983459) 2 144 E6 (by decide) (by decide) (by decide) (by decide) (by decide) (by decide+kernel) (by decide+kernel) (by decide+kernel)
theorem E9:Ay 2305843009213688669:=pI (q:=249442125618097) 2 9244 E5 (by decide) (by decide) (by decide) (by decide) (by decide) (by decide+kernel) (by decide+kernel) (by decide+kernel)
def gP(n:Nat):Int:=((4^n%4611686018427377339:Nat):Int)
theorem tp(a m q:Nat)(h1:1%m=1)(h:a^q%m=1)(n:Nat):a^(n%q)%m=a^n%m:=by
 have e:a^n=(a^q)^(n / q)*a^(n%q):=by rw[←Nat.pow_mul,←Nat.pow_add,Nat.div_add_mod]
 rw[e,Nat.mul_mod,Nat.pow_mod (a^q),h,Nat.one_pow,h1,Nat.one_mul,Nat.mod_mod]
theorem C0:∀q:Nat,q=2305843009213688669→4^q%4611686018427377339=1:=by
 intro q hq
 have h:=tQ
 rw[sE _ _ (by decide)]at h
 rw[←hq]at h
 have e:(((4^q%4611686018427377339:Nat)):Int)=1:=by
  rw[Int.natCast_emod,Int.natCast_pow]
  exact h
 omega
theorem uW(n:Nat):gP (n%2305843009213688669)=gP n:=by
 unfold gP
 obtain⟨q,hq⟩:∃q:Nat,q=2305843009213688669:=⟨_,rfl⟩
 rw[←hq,tp 4 4611686018427377339 q (by decide) (C0 q hq)]
theorem Ec(n:Nat)(h:n < 18446744073709551616):pw 4 n=gP n:=by
 rw[sE _ _ h]
 unfold gP
 rw[Int.natCast_emod,Int.natCast_pow]
 rfl
theorem A4(k:Int)(h:0≤k):(k%2305843009213688669).toNat=k.toNat%2305843009213688669:=by omega
theorem rn(k:Int)(h:0≤k):cS k=gP k.toNat:=by
 show pw (tk 4) _=_
 rw[sV Cw,Ec _ (by omega),A4 k h,uW]
theorem Cn(n:Nat):gP n=cS n:=by rw[rn _ (by omega),Int.toNat_natCast]
theorem r0(n:Nat):lh (gP n)=true:=by rw[Cn];exact po _
theorem xX(a b:Nat):jq (gP a) (gP b)=gP (a+b):=by
 unfold jq gP
 rw[←Int.natCast_mul,Nat.pow_add]
 have e:(4611686018427377339:Int)=((4611686018427377339:Nat):Int):=rfl
 rw[e,←Int.natCast_emod,←Nat.mul_mod]
theorem A5(a:Nat)(c:Int)(h:0≤c):mA (gP a) c=gP (a*c.toNat):=by
 show pw (tk (gP a)) _=_
 rw[sV (r0 a),sE _ _ (by omega),A4 c h]
 obtain⟨b,hb⟩:∃b:Nat,b=c.toNat:=⟨_,rfl⟩
 rw[←hb]
 obtain⟨d,hd⟩:∃d:Nat,d=b%2305843009213688669:=⟨_,rfl⟩
 have hx:gP (a*b)=gP (a*d):=by rw[←uW (a*b),←uW (a*d),Nat.mul_mod a b,Nat.mul_mod a d,hd,Nat.mod_mod]
 rw[hx,←hd]
 unfold gP
 have e:(4611686018427377339:Int)=((4611686018427377339:Nat):Int):=rfl
 rw[e,←Int.natCast_pow,←Int.natCast_emod,←Nat.pow_mod,←Nat.pow_mul]
theorem yS:gP 0=1:=by decide
theorem Eb{n:Nat}(h:0 < n)(hn:n < 2305843009213688669):gP n≠1:=by
 intro he
 unfold gP at he
 have he:4^n%4611686018427377339=1:=by omega
 obtain⟨q,hq⟩:∃q:Nat,q=2305843009213688669:=⟨_,rfl⟩
 have e:=za 4 4611686018427377339 (by decide) n q he (C0 q hq)
 rw[zb (by rw[hq];exact E9) h (by omega)]at e
 exact absurd e (by decide)
theorem zi(k:Int)(m:List Int)(h0:0 < k)(hq:k < 2305843009213688669):kO (cS k) m 1 (eF k m)=true:=by
 obtain⟨kn,hk⟩:∃kn:Nat,kn=k.toNat:=⟨_,rfl⟩
 have hb:cS k=gP kn:=by rw[hk];exact rn k (by omega)
 have hn:=rY (xt yg [fM k,m])
 unfold eF Br
 rw[if_pos ⟨hq,by omega⟩]
 obtain⟨n,hne⟩:∃n,nq (xt yg [fM k,m])=n:=⟨_,rfl⟩
 rw[hne]at hn ⊢
 unfold uF
 have hr:rk [cS n,1]=gP n.toNat:=by
  show jq (jq 1 (tk (cS n))) (tk 1)=_
  rw[sV (po n),sV pq,wI (lq _ _),rn n (by omega),←yS,xX,Nat.zero_add]
 rw[hr,hb]
 have hc:=rO (gP n.toNat) (gP kn) m
 obtain⟨c,hce⟩:∃c,mH (gP n.toNat) (gP kn) m=c:=⟨_,rfl⟩
 rw[hce]at hc ⊢
 have ha:=uD n (vg c k)
 have h1:=hc.1
 have h2:=ha.1
 have h3:=ha.2
 unfold kO
 rw[if_neg (by
  intro h
  rcases h with h | h | h | h | h
  ·exact Eb (by omega) (by omega) h
  ·rw[r0]at h;cases h
  ·rw[pq]at h;cases h
  ·have h:lh (gP n.toNat)=false:=h
   rw[r0]at h;cases h
  ·exact h h3)]
 have e:cS (xF n (vg c k))=rk [gP n.toNat,mA (gP kn) c,wJ 1]:=by
  show _=jq (jq (jq 1 (tk (gP n.toNat))) (tk (mA (gP kn) c))) (tk (wJ 1))
  rw[CA,sV pq,wI (lq _ _),sV (r0 _),A5 _ _ h1,sV (r0 _)]
  rw[show(jq 1 (gP n.toNat))=gP n.toNat by rw[←yS,xX,Nat.zero_add]]
  rw[xX,rn _ h2]
  have hx:(xF n (vg c k)).toNat=(n.toNat+kn*c.toNat)%2305843009213688669:=by
   unfold xF vg Bu
   have g1:c%2305843009213688669=c:=Int.emod_eq_of_lt h1 hc.2
   have g2:k%2305843009213688669=k:=Int.emod_eq_of_lt (by omega) hq
   have g3:n%2305843009213688669=n:=Int.emod_eq_of_lt (by omega) hn.2
   rw[g1,g2,g3,Int.emod_emod_of_dvd _ (Int.dvd_refl _)]
   have g4:((kn*c.toNat:Nat):Int)=c*k:=by
    rw[Int.natCast_mul,hk,Int.toNat_of_nonneg (by omega),Int.toNat_of_nonneg h1,Int.mul_comm]
   have g5:0≤c*k:=by rw[←g4];exact Int.natCast_nonneg _
   obtain⟨z,hz⟩:∃z,c*k=z:=⟨_,rfl⟩
   rw[hz]at g4 g5 ⊢
   obtain⟨zn,hzn⟩:∃zn,kn*c.toNat=zn:=⟨_,rfl⟩
   rw[hzn]at g4 ⊢
   omega
  rw[hx,uW]
 show decide (cS (xF n (vg c k))=rk [gP n.toNat,mA (gP kn) (mH (gP n.toNat) (gP kn) m),wJ 1])=true
 rw[hce]
 exact decide_eq_true e
set_option synthInstance.maxSize 5000
def uY{α:Type}(p:α→Bool):List α→Int→Int⊕Unit
 |[],_=> .inr ()
 |x::xs,i=>if p x then .inl i else uY p xs (i+1)
def Cs{α:Type}(p:α→Bool)(l:List α):Int:=match uY p l 0 with | .inl i=>i | .inr _=> -1
theorem wi{α:Type}(p:α→Bool):∀(l:List α) (i:Int),0≤i→(match uY p l i with | .inl i=>decide (i≥0) | .inr _=>false)=l.any p
 |[],_,_=>rfl
 |x::l,i,h=>by
  rw[uY,List.any_cons]
  cases hp:p x
  ·simp only[Bool.false_eq_true,if_false,Bool.false_or]
   exact wi p l (i+1) (by omega)
  ·simp[h]
theorem Ba{α:Type}(p:α→Bool)(l:List α):mU (Cs p l) 0=l.any p:=by
 have:=wi p l 0 (by omega)
 unfold Cs mU
 cases h:uY p l 0
 ·rw[h]at this;exact this
 ·rw[h]at this;rw[←this];rfl
def pe(k:Int):Bool:=decide (¬(k < 2305843009213688669∧k≠0))
def km(t:fb)(i br:Int)(ks:List Int):Bool:=gn t && (decide (0≤i∧i < t.1.length∧0≤br∧br < 4∧ks.length≤12) && !(ks.any pe))
def BK(t:fb)(i br:Int)(ks:List Int)(sc:Int):fb×Int:=
 if km t i br ks then((t.1.set i.toNat ((nth eH t.1 i.toNat).1,(br,ks.map (fun k=>eF k (tx t)),sc,()),()),t.2),0) else(([],[],0,()),1)
theorem yC{t:fb}:Sm (tx t):=by
 unfold tx
 split
 ·exact vr _ _
 ·exact⟨by rw[List.length_replicate],fun x hx=>by obtain rfl:=(List.mem_replicate.1 hx).2;exact⟨by decide,by decide⟩⟩
abbrev dW.D:=Int
def dW.st:dW.D→SA:=fun kv=>([.d tu kv],[])
abbrev dW.Y:=Bool
abbrev dW.X:=Bool
def dW.out:dW.X→a9:=fun x=>⟨.d .bool x,[],[]⟩
def dW.add:dW.D→dW.Y→dW.X:=fun kv y=>y
def dW.aB:dW.D→Prop:=fun _=>True
def dW.F:dW.D→dW.Y:=fun k=>pe k
noncomputable def dW.G:dS:=eR (P:=Tryz.prog) [cF.sg]
noncomputable def dW.an:eA:= {}
noncomputable def dW.A:= @cJ Tryz.prog dW.G dW.an 0 Tryz.f87 _ dW.st
abbrev dW.Ok:=cK @dW.A dW.aB dW.add dW.F dW.out
theorem dW.eq{R:Type}(kv:Int)(k:a9→Option R):dW.A kv k=
  aJ ((kI kv (0:Int))) (
   k (dW.out true)) (
   ah (cF.call kv) fun x1=>
   k (dW.out (!x1))):=by kernel_rfl
theorem dW.ok:dW.Ok:=by
 intro(k:Int) _
 rw[dW.eq,cF.run (d:=k) trivial]
 simp only[dW.add,dW.F,pe,aa,cF.add,cF.F]
 by_cases h:k=0
 ·rw[cl h,av,aO (by omega)]
 ·rw[eP h,ay]
  by_cases h2:k < 2305843009213688669
  ·rw[bu h2,aM (by omega)];rfl
  ·rw[bj h2,aO (by omega)];rfl
noncomputable def dW.E:=Entry.cz [some tu] dW.st dW.aB dW.add dW.F dW.out
noncomputable def dW.call:dW.D→Option dW.X:=bH dW.E dW.st
theorem dW.run:bC dW.call dW.aB dW.add dW.F:=cQ (cP [.d tu] fun _=>by kernel_rfl)
noncomputable def dW.sg:SG Tryz.prog:=⟨87,aU,dW.E,.fn 0 (by kernel_rfl) dW.ok trivial⟩
abbrev aV.L0.D:=Bs×Int×Int
def aV.L0.st:aV.L0.D→AS:=fun(sv_2,t7,t8)=>⟨([.d tU sv_2,.fn 87 (.nil)]++bg 5 ([.d ti t7,.d ti t8]++bg 10 [])),[],(List.replicate 19 [])⟩
abbrev aV.L0.Y0:=Int
abbrev aV.L0.X0:=Int
def aV.L0.bt:aV.L0.X0→Exit×AS:=fun x=>(.ret,⟨(bg 4 ([.d ti x]++bg 14 [])),[],(List.replicate 19 [])⟩)
abbrev aV.L0.Y1:=Unit
abbrev aV.L0.X1:=Unit
def aV.L0.eS:aV.L0.X1→Exit×AS:=fun x=>(.exit 0,⟨(bg 19 []),[],(List.replicate 19 [])⟩)
abbrev aV.L0.X:=(aV.L0.X0)⊕(aV.L0.X1)
abbrev aV.L0.Y:=(aV.L0.Y0)⊕(aV.L0.Y1)
def aV.L0.out:aV.L0.X→Out (Exit×AS):=fun x=> .br x.isLeft (.get x.getLeft? fun a=> .ok (aV.L0.bt a)) (.get x.getRight? fun b=> .ok (aV.L0.eS b))
def aV.L0.add:aV.L0.D→aV.L0.Y→aV.L0.X:=fun(sv_2,t7,t8) y=>match y with | .inl y=> .inl y | .inr z=> .inr (z)
abbrev aV.D:=Bs
def aV.st:aV.D→SA:=fun sv=>([.d tU sv,.fn 87 (.nil)],[])
abbrev aV.Y:=Int
abbrev aV.X:=Int
def aV.out:aV.X→a9:=fun x=>⟨.d ti x,[],[]⟩
def aV.add:aV.D→aV.Y→aV.X:=fun sv y=>y
def aV.L0.aB:aV.L0.D→Prop:=fun(l,n,i)=>(∀x∈l,True)∧l.length≤1000000000∧n=l.length∧∃k:Nat,k≤l.length∧i=k
def aV.L0.F:aV.L0.D→aV.L0.Y:=fun(l,n,i)=>uY pe (l.drop i.toNat) i
def aV.aB:aV.D→Prop:=fun l=>(∀x∈l,True)∧l.length≤1000000000
def aV.F:aV.D→aV.Y:=fun l=>Cs pe l
noncomputable def aV.G:dS:=eR (P:=Tryz.prog) [dW.sg]
noncomputable def aV.L0.E:=bO.cz aV.L0.st aV.L0.aB aV.L0.add aV.L0.F aV.L0.out
noncomputable def aV.L0.call:aV.L0.D→Option aV.L0.X:=dk aV.L0.E aV.L0.st
noncomputable def aV.an:eA:= {loops:=jY [(2,{bm:=[0,1,7,8]})],outs:=jX [(2,{},{bm:=[4]})],fJ:=kF [(2,aV.L0.E)]}
noncomputable def aV.A:= @cJ Tryz.prog aV.G aV.an 0 Tryz.f127 _ aV.st
abbrev aV.Ok:=cK @aV.A aV.aB aV.add aV.F aV.out
noncomputable def aV.L0.R:= @cg Tryz.prog aV.G aV.an 0 Tryz.f127 0 _ aV.L0.st
abbrev aV.L0.Ok:=eB Tryz.prog aV.G aV.an 0 Tryz.f127 0 aV.L0.st aV.L0.aB aV.L0.add aV.L0.F aV.L0.out
theorem aV.L0.run:bC aV.L0.call aV.L0.aB aV.L0.add aV.L0.F:=eI (eD [.d tU,.d ti,.d ti] fun _=>by kernel_rfl)
theorem aV.L0.aG:jt @aV.L0.R aV.L0.st aV.L0.aB aV.L0.add aV.L0.F aV.L0.out aV.L0.Ok:=jV
theorem aV.L0.step{R:Type}(sv_2:Bs)(t7:Int)(t8:Int)(kn:AS→Option R)(kx:Exit→AS→Option R):aV.L0.R (sv_2,t7,t8) kn kx=
  aJ ((fZ t8 t7)) (
   aJ (ei t8 (((List.length sv_2):Nat):Int)) (
   ah (dW.call (nth tu sv_2 (Int.toNat t8))) fun x1=>
   aJ (x1) (
    kx (aV.L0.bt t8).1 (aV.L0.bt t8).2) (
    kn (aV.L0.st (sv_2,t7,(bM .i64 t8 (1:Int)))))) none) (
   kx (aV.L0.eS ()).1 (aV.L0.eS ()).2):=by kernel_rfl
theorem aV.eq{R:Type}(sv:Bs)(k:a9→Option R):aV.A sv k=
  ah (aV.L0.call (sv,(((List.length sv):Nat):Int),(0:Int))) fun x2=>
  aJ (x2.isLeft) (
   ah (x2.getLeft?) fun a3=>
   k (aV.out a3)) (
   ah (x2.getRight?) fun b4=>
   k (aV.out (-1:Int))):=by kernel_rfl
theorem aV.L0.ok:aV.L0.Ok:=by
 refine aV.L0.aG (fun(l,n,i)=>l.length - i.toNat) ?_
 rintro⟨l,n,i⟩ ⟨hl,hb,rfl,k,hk,rfl⟩
 have hb:l.length≤1000000000:=hb
 have hk:k≤l.length:=hk
 by_cases h:k < l.length
 ·have hx:=hl _ (List.getElem_mem h)
  have n1:nth tu l k=l[k]:=cC (t:=tu) h
  have hd:uY pe (l.drop k) k=if pe l[k] then .inl (k:Int) else uY pe (l.drop (k+1)) ((k+1:Nat):Int):=by rw[List.drop_eq_getElem_cons h];rfl
  have step:∀ {R:Type} (kn:AS→Option R) (kx:Exit→AS→Option R),aV.L0.R (l,(l.length:Int),(k:Int)) kn kx=aJ (pe l[k]) (kx (aV.L0.bt (k:Int)).1 (aV.L0.bt (k:Int)).2) (kn (aV.L0.st (l,(l.length:Int),((k+1:Nat):Int)))):=by
   intro R kn kx
   rw[aV.L0.step,bu (by omega),bo (by omega) (by omega),Int.toNat_natCast,n1,dW.run (d:=l[k]) hx,N.kM (by omega)]
   rfl
  cases hp:pe l[k]
  ·left
   refine⟨(l,l.length,((k+1:Nat):Int)),⟨hl,hb,rfl,k+1,by omega,rfl⟩,by simp only[Int.toNat_natCast];omega,?_,fun kn kx=> ?_⟩
   ·simp only[aV.L0.add,aV.L0.F,Int.toNat_natCast,hd,hp,Bool.false_eq_true,if_false]
   ·rw[step,hp,ay]
  ·right
   refine⟨aV.L0.bt (k:Int),?_,fun kn kx=> ?_⟩
   ·simp only[aV.L0.add,aV.L0.F,Int.toNat_natCast,hd,hp,if_true]
    rfl
   ·rw[step,hp,av]
 ·right
  obtain rfl:k=l.length:=by omega
  refine⟨aV.L0.eS (),?_,fun kn kx=> ?_⟩
  ·simp only[aV.L0.add,aV.L0.F,Int.toNat_natCast,List.drop_length]
   rfl
  ·rw[aV.L0.step,bj (by omega),ay]
theorem aV.ok:aV.Ok:=by
 rintro l ⟨hl,hb⟩
 rw[aV.eq,aV.L0.run (d:=(l,l.length,0)) ⟨hl,hb,rfl,0,by omega,rfl⟩]
 simp only[aa,aV.L0.add,aV.L0.F,Int.toNat_zero,List.drop_zero,aV.add,aV.F,Cs]
 cases uY pe l 0 <;> rfl
noncomputable def aV.E:=Entry.cz [some tU,none] aV.st aV.aB aV.add aV.F aV.out
noncomputable def aV.call:aV.D→Option aV.X:=bH aV.E aV.st
theorem aV.run:bC aV.call aV.aB aV.add aV.F:=cQ (cP [.d tU] fun _=>by kernel_rfl)
noncomputable def aV.sg:SG Tryz.prog:=⟨127,aU,aV.E,.fn 1 (by kernel_rfl) aV.ok (And.intro (.cz aV.L0.ok (by kernel_rfl)) trivial)⟩
abbrev bE.D:=Bs
def bE.st:bE.D→SA:=fun sv=>([.d tU sv,.fn 87 (.nil)],[])
abbrev bE.Y:=Bool
abbrev bE.X:=Bool
def bE.out:bE.X→a9:=fun x=>⟨.d .bool x,[],[]⟩
def bE.add:bE.D→bE.Y→bE.X:=fun sv y=>y
def bE.aB:bE.D→Prop:=fun l=>(∀x∈l,True)∧l.length≤1000000000
def bE.F:bE.D→bE.Y:=fun l=>l.any pe
noncomputable def bE.G:dS:=eR (P:=Tryz.prog) [aV.sg]
noncomputable def bE.an:eA:= {}
noncomputable def bE.A:= @cJ Tryz.prog bE.G bE.an 0 Tryz.f90 _ bE.st
abbrev bE.Ok:=cK @bE.A bE.aB bE.add bE.F bE.out
theorem bE.eq{R:Type}(sv:Bs)(k:a9→Option R):bE.A sv k=
 ah (aV.call sv) fun x1=>
 k (bE.out (mU x1 (0:Int))):=by kernel_rfl
theorem bE.ok:bE.Ok:=by
 rintro l ⟨hl,hb⟩
 rw[bE.eq,aV.run (d:=l) ⟨hl,hb⟩]
 simp only[aa,aV.add,aV.F,Ba]
 rfl
noncomputable def bE.E:=Entry.cz [some tU,none] bE.st bE.aB bE.add bE.F bE.out
noncomputable def bE.call:bE.D→Option bE.X:=bH bE.E bE.st
theorem bE.run:bC bE.call bE.aB bE.add bE.F:=cQ (cP [.d tU] fun _=>by kernel_rfl)
noncomputable def bE.sg:SG Tryz.prog:=⟨90,aU,bE.E,.fn 0 (by kernel_rfl) bE.ok trivial⟩
abbrev bk.L0.D:=Int×Bs×Int×Int×fb×(Int×Unit)×Int×Nat×(Int×Unit)×Bs×(List Sg)
def bk.L0.st:bk.L0.D→AS:=fun(inv_2,t52,t53,t54,n5,n10,n13,n13L,n13_2,n14,n64)=>⟨([.undef,.d ti inv_2,.undef,.undef,.undef,.ptr (.new 5 0) 0 [] 0]++bg 4 ([.ptr (.new 10 0) 0 [] 0,.undef,.undef,.ptr (.new 13 0) 0 [] 0,.ptr (.new 14 0) 0 [] 0]++bg 37 ([.d tU t52,.d ti t53,.d ti t54]++bg 21 []))),[],(bN 5 ([[.obj 0 false (.d gg n5)]]++bN 4 ([[.obj 0 false (.pr (.cY) (.pr (.cY) (.d (.pair ti .unit) n10)))],[],[],[.obj 0 false (.pr (.d ti n13) (.pr (.cf (.new 64 0) 0 [] 0 0 n13L) (.d (.pair tu .unit) n13_2)))],[.obj 0 false (.d tH n14)]]++bN 49 ([[.obj 0 false (.vec 60 jm n64)]]++bN 11 []))))⟩
abbrev bk.L0.Y0:=l7×(List Sg)
abbrev bk.L0.X0:=(Int×fb×(Int×Unit))×(l7×(List Sg))
def bk.L0.bt:bk.L0.X0→Exit×AS:=fun x=>(.exit 0,⟨([.undef,.d ti x.1.1,.undef,.undef,.undef,.ptr (.new 5 0) 0 [] 0]++bg 4 ([.ptr (.new 10 0) 0 [] 0,.undef,.undef,.ptr (.new 13 0) 0 [] 0]++bg 62 [])),[],(bN 5 ([[.obj 0 false (.d gg x.1.2.1)]]++bN 4 ([[.obj 0 false (.pr (.cY) (.pr (.cY) (.d (.pair ti .unit) x.1.2.2)))],[],[],[.obj 0 false (.d s7 x.2.1)]]++bN 50 ([[.obj 0 true (.vec 60 jm x.2.2)]]++bN 11 []))))⟩)
abbrev bk.L0.X:=bk.L0.X0
abbrev bk.L0.Y:=bk.L0.Y0
def bk.L0.out:bk.L0.X→Out (Exit×AS):=fun x=> .ok (bk.L0.bt x)
def bk.L0.add:bk.L0.D→bk.L0.Y→bk.L0.X:=fun(inv_2,t52,t53,t54,n5,n10,n13,n13L,n13_2,n14,n64) y=>((inv_2,n5,n10),y)
abbrev bk.D:=fb×Int×Int×Bs×Int
def bk.st:bk.D→SA:=fun(t,inv,branch,keys,secret)=>([.d gg t,.d ti inv,.d ti branch,.d tU keys,.d tu secret],[])
abbrev bk.Y:=fb×Int
abbrev bk.X:=fb×Int
def bk.out:bk.X→a9:=fun x=>⟨.cons (.d gg x.1) (.cons (.d ti x.2) (.nil)),[],[]⟩
def bk.add:bk.D→bk.Y→bk.X:=fun(t,inv,branch,keys,secret) y=>y
def bk.L0.aB:bk.L0.D→Prop:=fun(i0,l,n,i,t,e,br,L,sc,id,r)=>l.length≤1000∧(∀x∈l,gm x)∧Sm id∧∃k:Nat,k≤l.length∧i=k∧n=l.length∧L=r.length∧r.length≤1000+k
def bk.L0.F:bk.L0.D→bk.L0.Y:=fun(i0,l,n,i,t,e,br,L,sc,id,r)=>((br,r++(l.drop i.toNat).map (fun k=>eF k id),sc),r++(l.drop i.toNat).map (fun k=>eF k id))
def bk.aB:bk.D→Prop:=fun(t,i,br,ks,sc)=>rH t∧(∀x∈ks,gm x)∧ks.length≤1000000000
def bk.F:bk.D→bk.Y:=fun(t,i,br,ks,sc)=>BK t i br ks sc
noncomputable def bk.G:dS:=eR (P:=Tryz.prog) [aq.sg,eT.sg,bE.sg,tid.sg,dC.sg,ag.sg]
noncomputable def bk.L0.E:=bO.cz bk.L0.st bk.L0.aB bk.L0.add bk.L0.F bk.L0.out
noncomputable def bk.L0.call:bk.L0.D→Option bk.L0.X:=dk bk.L0.E bk.L0.st
noncomputable def bk.an:eA:= {bI:=[5],loops:=jY [(7,{bm:=[1,5,10,13,14,52,53,54],sites:=[5,10,13,14,64],ix:=[⟨13,[.snd,.fst],64,51⟩]})],outs:=jX [(7,{bm:=[1,5,10,13],sites:=[5,10,13,64],td:=[⟨13,[.snd,.fst],(.slice jm)⟩]},{bm:=[10,11]})],fJ:=kF [(7,bk.L0.E)],res:=[some gg,none]}
noncomputable def bk.A:= @cJ Tryz.prog bk.G bk.an 0 Tryz.f26 _ bk.st
abbrev bk.Ok:=cK @bk.A bk.aB bk.add bk.F bk.out
noncomputable def bk.L0.R:= @cg Tryz.prog bk.G bk.an 0 Tryz.f26 0 _ bk.L0.st
abbrev bk.L0.Ok:=eB Tryz.prog bk.G bk.an 0 Tryz.f26 0 bk.L0.st bk.L0.aB bk.L0.add bk.L0.F bk.L0.out
theorem bk.L0.run:bC bk.L0.call bk.L0.aB bk.L0.add bk.L0.F:=eI (eD [.d ti,.d tU,.d ti,.d ti,.d gg,.d (.pair ti .unit),.d ti,.n,.d (.pair tu .unit),.d tB,.d (.slice jm)] fun _=>by kernel_rfl)
theorem bk.L0.aG:fR @bk.L0.R bk.L0.st bk.L0.aB bk.L0.add bk.L0.F bk.L0.bt bk.L0.Ok:=fV
theorem bk.L0.step{R:Type}(inv_2:Int)(t52:Bs)(t53:Int)(t54:Int)(n5:fb)(n10:(Int×Unit))(n13:Int)(n13L:Nat)(n13_2:(Int×Unit))(n14:Bs)(n64:(List Sg))(kn:AS→Option R)(kx:Exit→AS→Option R):bk.L0.R (inv_2,t52,t53,t54,n5,n10,n13,n13L,n13_2,n14,n64) kn kx=
  aJ ((fZ t54 t53)) (
   aJ (ei t54 (((List.length t52):Nat):Int)) (
   ah (dC.call ((nth tu t52 (Int.toNat t54)),n14)) fun x4=>
   aJ (decide (n13L≤(List.length n64))) (
   aJ (dm (n13L+1) 16) (
   kn (bk.L0.st (inv_2,t52,t53,(bM .i64 t54 (1:Int)),n5,n10,n13,(n13L+1),n13_2,n14,((List.take n13L n64)++ [x4])))) none) none) none) (
   aJ (decide (0=0∧(0+n13L)≤(List.length n64))) (
   kx (bk.L0.bt ((inv_2,n5,n10),((n13,((cut n64 0 n13L),n13_2)),n64))).1 (bk.L0.bt ((inv_2,n5,n10),((n13,((cut n64 0 n13L),n13_2)),n64))).2) none):=by kernel_rfl
theorem bk.eq{R:Type}(t:fb)(inv:Int)(branch:Int)(keys:Bs)(secret:Int)(k:a9→Option R):bk.A (t,inv,branch,keys,secret) k=
  ah (aq.call t) fun x10=>
  aJ ((!x10)) (
   k (bk.out ((([]:List fD),(([]:List gh),((0:Int),()))),(1:Int)))) (
   aJ ((fZ inv (0:Int))) (
    k (bk.out ((([]:List fD),(([]:List gh),((0:Int),()))),(1:Int)))) (
    aJ ((mU inv (((List.length t.1):Nat):Int))) (
     k (bk.out ((([]:List fD),(([]:List gh),((0:Int),()))),(1:Int)))) (
     ah (eT.call (branch,(([]:List Sg),(secret,())))) fun x11=>
     aJ ((!x11)) (
      k (bk.out ((([]:List fD),(([]:List gh),((0:Int),()))),(1:Int)))) (
      aJ ((oJ (((List.length keys):Nat):Int) (12:Int))) (
       k (bk.out ((([]:List fD),(([]:List gh),((0:Int),()))),(1:Int)))) (
       ah (bE.call keys) fun x12=>
       aJ (x12) (
        k (bk.out ((([]:List fD),(([]:List gh),((0:Int),()))),(1:Int)))) (
        ah (tid.call t) fun x16=>
        ah (bk.L0.call (inv,keys,(((List.length keys):Nat):Int),(0:Int),t,((0:Int),()),branch,0,(secret,()),x16,([]:List Sg))) fun x26=>
        ah (ag.call x26.1.2.1) fun x30=>
        aJ (ei x26.1.1 ((x30.1:Nat):Int)) (
        aJ (decide ((0+(Int.toNat x26.1.1)) < (List.length x30.2.2))) (
        aJ (decide ((((0+(Int.toNat x26.1.1))*36)+33)=((0+((Int.toNat x26.1.1)*36))+33))) (
        aJ (decide ((0+(Int.toNat x26.1.1)) < (List.length x30.2.2))) (
        aJ (decide (0=0∧(0+x30.1)≤(List.length (List.set x30.2.2 (0+(Int.toNat x26.1.1)) ((nth eH x30.2.2 (0+(Int.toNat x26.1.1))).1,(x26.2.1,(nth eH x30.2.2 (0+(Int.toNat x26.1.1))).2.2)))))) (
        k (bk.out (((cut (List.set x30.2.2 (0+(Int.toNat x26.1.1)) ((nth eH x30.2.2 (0+(Int.toNat x26.1.1))).1,(x26.2.1,(nth eH x30.2.2 (0+(Int.toNat x26.1.1))).2.2))) 0 x30.1),x30.2.1),(0:Int)))) none) none) none) none) none)))))):=by kernel_rfl
theorem bk.L0.ok:bk.L0.Ok:=by
 refine bk.L0.aG (fun(i0,l,n,i,t,e,br,L,sc,id,r)=>l.length - i.toNat) ?_
 rintro⟨i0,l,n,i,t,e,br,L,sc,id,r⟩ ⟨hlen,hu,hm,k,hk,rfl,rfl,rfl,hr⟩
 have hlen:l.length≤1000:=hlen
 have hk:k≤l.length:=hk
 have hr:r.length≤1000+k:=hr
 by_cases h:k < l.length
 ·left
  have n1:nth tu l k=l[k]:=cC (t:=tu) h
  have hd:List.drop k l=l[k]::List.drop (k+1) l:=List.drop_eq_getElem_cons h
  refine⟨(i0,l,l.length,((k+1:Nat):Int),t,e,br,r.length+1,sc,id,r++ [eF l[k] id]),⟨hlen,hu,hm,k+1,by omega,rfl,rfl,by rw[List.length_append];rfl,by rw[List.length_append];show r.length+1≤_;omega⟩,by simp only[Int.toNat_natCast];omega,?_,fun kn kx=> ?_⟩
  ·simp only[bk.L0.add,bk.L0.F,Int.toNat_natCast,hd,List.map_cons,List.append_assoc,List.singleton_append]
  ·rw[bk.L0.step,bu (by omega),bo (by omega) (by omega),Int.toNat_natCast,n1,dC.run (d:=(l[k],id)) ⟨hu _ (List.getElem_mem h),hm⟩]
   simp only[av,aa,dC.add,dC.F]
   rw[aO (Nat.le_refl _),eE (by omega) (by omega),N.kM (by omega),List.take_length]
   rfl
 ·right
  obtain rfl:k=l.length:=by omega
  intro R kn kx
  rw[bk.L0.step,bj (by omega),ay]
  simp only[bk.L0.add,bk.L0.F,Int.toNat_natCast,List.drop_length,List.map_nil,List.append_nil,Nat.zero_add,Nat.le_refl,and_self,decide_true,av,fg]
theorem bk.ok:bk.Ok:=by
 rintro⟨⟨is,os,nt,u⟩,i,br,ks,sc⟩ ⟨hv,hu,hl⟩
 have hv:rH (is,os,nt,u):=hv
 have hl:ks.length≤1000000000:=hl
 rw[bk.eq,aq.run (d:=(is,os,nt,u)) hv.1]
 simp only[aa,aq.add,aq.F,bk.add,bk.F,BK,km]
 rcases Bool.eq_false_or_eq_true (gn (is,os,nt,u)) with hok | hok
 rotate_left
 ·simp only[hok];rfl
 obtain⟨⟨_,a2,a3,_⟩,b1,b2⟩:=jE hok
 have a2:is.length≤64:=a2
 simp only[hok,Bool.not_true,ay,Bool.true_and]
 by_cases h1:i < 0
 ·rw[bu h1,av,aM (by omega)];rfl
 rw[bj h1,ay]
 by_cases h2:i≥(is.length:Int)
 ·rw[fX h2,av,aM (by omega)];rfl
 rw[eJ h2,ay,eT.run (d:=(br,([],(sc,())))) trivial]
 simp only[aa,eT.add,eT.F,mO]
 by_cases h3:0≤br∧br < 4
 ·rw[aO h3]
  by_cases h4:ks.length > 12
  ·rw[ek (by omega),aM (p:=0≤i∧i < (is.length:Int)∧0≤br∧br < 4∧ks.length≤12) (by omega)];rfl
  ·rw[dR (by omega),aO (p:=0≤i∧i < (is.length:Int)∧0≤br∧br < 4∧ks.length≤12) (by omega),bE.run (d:=ks) ⟨fun _ _=>trivial,hl⟩]
   simp only[aa,bE.add,bE.F]
   rcases Bool.eq_false_or_eq_true (ks.any pe) with hb | hb
   rotate_left
   ·simp only[hb]
    obtain⟨k,rfl⟩:∃k:Nat,i=k:=⟨i.toNat,by omega⟩
    have hk:k < is.length:=by omega
    simp only[show(([]:List Sg).length≤12)=True from eq_true (Nat.zero_le _),decide_true,Bool.and_self,Bool.not_true,Bool.not_false,ay,Bool.true_and,if_true]
    rw[tid.run (d:=(is,os,nt,u)) hv]
    simp only[aa,tid.add,tid.F]
    rw[bk.L0.run (d:=((k:Int),ks,ks.length,0,(is,os,nt,u),(0,()),br,0,(sc,()),tx (is,os,nt,u),[])) ⟨by show ks.length≤_;omega,hu,yC,0,Nat.zero_le _,rfl,rfl,rfl,Nat.zero_le _⟩]
    simp only[aa,bk.L0.add,bk.L0.F,Int.toNat_zero,List.drop_zero,List.nil_append]
    rw[ag.run (d:=(is,os,nt,u)) hok]
    simp only[aa,ag.add,ag.F,Int.toNat_natCast,Nat.zero_add,Nat.add_zero,bo (show(0:Int)≤(k:Int) by omega) (show(k:Int) < (is.length:Int) by omega),av,aO hk,decide_true,List.length_set,Nat.le_refl,and_self]
    rw[fg (by rw[List.length_set])]
   ·simp only[hb];rfl
 ·rw[aM h3,aM (p:=0≤i∧i < (is.length:Int)∧0≤br∧br < 4∧ks.length≤12) (by omega)];rfl
noncomputable def bk.E:=Entry.cz [some gg,some ti,some ti,some tU,some tu] bk.st bk.aB bk.add bk.F bk.out
noncomputable def bk.call:bk.D→Option bk.X:=bH bk.E bk.st
theorem bk.run:bC bk.call bk.aB bk.add bk.F:=cQ (cP [.d gg,.d ti,.d ti,.d tU,.d tu] fun _=>by kernel_rfl)
noncomputable def bk.sg:SG Tryz.prog:=⟨26,aU,bk.E,.fn 1 (by kernel_rfl) bk.ok (And.intro (.cz bk.L0.ok (by kernel_rfl)) trivial)⟩
set_option synthInstance.maxSize 5000
abbrev bT.L0.D:=Bs×Bs×Int×Int
def bT.L0.st:bT.L0.D→AS:=fun(s1_2,s2_2,t12,t13)=>⟨([.d tB s1_2,.d tB s2_2]++bg 10 ([.d ti t12,.d ti t13]++bg 12 [])),[],(List.replicate 26 [])⟩
abbrev bT.L0.Y0:=Unit
abbrev bT.L0.X0:=Unit
def bT.L0.bt:bT.L0.X0→Exit×AS:=fun x=>(.ret,⟨(bg 4 ([.d .bool false]++bg 21 [])),[],(List.replicate 26 [])⟩)
abbrev bT.L0.Y1:=Unit
abbrev bT.L0.X1:=Unit
def bT.L0.eS:bT.L0.X1→Exit×AS:=fun x=>(.exit 0,⟨(bg 26 []),[],(List.replicate 26 [])⟩)
abbrev bT.L0.X:=(bT.L0.X0)⊕(bT.L0.X1)
abbrev bT.L0.Y:=(bT.L0.Y0)⊕(bT.L0.Y1)
def bT.L0.out:bT.L0.X→Out (Exit×AS):=fun x=> .br x.isLeft (.get x.getLeft? fun a=> .ok (bT.L0.bt a)) (.get x.getRight? fun b=> .ok (bT.L0.eS b))
def bT.L0.add:bT.L0.D→bT.L0.Y→bT.L0.X:=fun(s1_2,s2_2,t12,t13) y=>match y with | .inl y=> .inl y | .inr z=> .inr (z)
abbrev bT.D:=Bs×Bs
def bT.st:bT.D→SA:=fun(s1,s2)=>([.d tB s1,.d tB s2],[])
abbrev bT.Y:=Bool
abbrev bT.X:=Bool
def bT.out:bT.X→a9:=fun x=>⟨.d .bool x,[],[]⟩
def bT.add:bT.D→bT.Y→bT.X:=fun(s1,s2) y=>y
def bT.L0.aB:bT.L0.D→Prop:=fun(a,b,m,i)=>a.length≤1000000000∧a.length=b.length∧m=a.length∧∃k:Nat,k≤a.length∧i=k
def bT.L0.F:bT.L0.D→bT.L0.Y:=fun(a,b,m,i)=>if a.drop i.toNat=b.drop i.toNat then .inr () else .inl ()
def bT.aB:bT.D→Prop:=fun(a,b)=>a.length≤1000000000
def bT.F:bT.D→bT.Y:=fun(a,b)=>decide (a=b)
noncomputable def bT.G:dS:=eR (P:=Tryz.prog) []
noncomputable def bT.L0.E:=bO.cz bT.L0.st bT.L0.aB bT.L0.add bT.L0.F bT.L0.out
noncomputable def bT.L0.call:bT.L0.D→Option bT.L0.X:=dk bT.L0.E bT.L0.st
noncomputable def bT.an:eA:= {loops:=jY [(4,{bm:=[0,1,12,13]})],outs:=jX [(4,{},{bm:=[4]})],fJ:=kF [(4,bT.L0.E)]}
noncomputable def bT.A:= @cJ Tryz.prog bT.G bT.an 0 Tryz.f58 _ bT.st
abbrev bT.Ok:=cK @bT.A bT.aB bT.add bT.F bT.out
noncomputable def bT.L0.R:= @cg Tryz.prog bT.G bT.an 0 Tryz.f58 0 _ bT.L0.st
abbrev bT.L0.Ok:=eB Tryz.prog bT.G bT.an 0 Tryz.f58 0 bT.L0.st bT.L0.aB bT.L0.add bT.L0.F bT.L0.out
theorem bT.L0.run:bC bT.L0.call bT.L0.aB bT.L0.add bT.L0.F:=eI (eD [.d tB,.d tB,.d ti,.d ti] fun _=>by kernel_rfl)
theorem bT.L0.aG:jt @bT.L0.R bT.L0.st bT.L0.aB bT.L0.add bT.L0.F bT.L0.out bT.L0.Ok:=jV
theorem bT.L0.step{R:Type}(s1_2:Bs)(s2_2:Bs)(t12:Int)(t13:Int)(kn:AS→Option R)(kx:Exit→AS→Option R):bT.L0.R (s1_2,s2_2,t12,t13) kn kx=
  aJ ((fZ t13 t12)) (
   aJ (ei t13 (((List.length s1_2):Nat):Int)) (
   aJ (ei t13 (((List.length s2_2):Nat):Int)) (
   aJ ((jw (nth tb s1_2 (Int.toNat t13)) (nth tb s2_2 (Int.toNat t13)))) (
    kx (bT.L0.bt ()).1 (bT.L0.bt ()).2) (
    kn (bT.L0.st (s1_2,s2_2,t12,(bM .i64 t13 (1:Int)))))) none) none) (
   kx (bT.L0.eS ()).1 (bT.L0.eS ()).2):=by kernel_rfl
theorem bT.eq{R:Type}(s1:Bs)(s2:Bs)(k:a9→Option R):bT.A (s1,s2) k=
  aJ ((jw (((List.length s1):Nat):Int) (((List.length s2):Nat):Int))) (
   k (bT.out false)) (
   ah (bT.L0.call (s1,s2,(((List.length s1):Nat):Int),(0:Int))) fun x1=>
   aJ (x1.isLeft) (
    ah (x1.getLeft?) fun a2=>
    k (bT.out false)) (
    ah (x1.getRight?) fun b3=>
    k (bT.out true))):=by kernel_rfl
theorem bT.L0.ok:bT.L0.Ok:=by
 refine bT.L0.aG (fun(a,b,m,i)=>a.length - i.toNat) ?_
 rintro⟨a,b,m,i⟩ ⟨hl,hab,rfl,k,hk,rfl⟩
 have hl:a.length≤1000000000:=hl
 have hab:a.length=b.length:=hab
 have hk:k≤a.length:=hk
 by_cases h:k < a.length
 ·have h2:k < b.length:=by omega
  have n1:nth (.int .u8) a k=a[k]:=cC (t:=(.int .u8)) h
  have n2:nth (.int .u8) b k=b[k]:=cC (t:=(.int .u8)) h2
  have hd:(a.drop k=b.drop k)=(a[k]=b[k]∧a.drop (k+1)=b.drop (k+1)):=by rw[List.drop_eq_getElem_cons h,List.drop_eq_getElem_cons h2,List.cons.injEq]
  have step:∀ {R:Type} (kn:AS→Option R) (kx:Exit→AS→Option R),bT.L0.R (a,b,(a.length:Int),(k:Int)) kn kx=if a[k]=b[k] then kn (bT.L0.st (a,b,(a.length:Int),((k+1:Nat):Int))) else kx (bT.L0.bt ()).1 (bT.L0.bt ()).2:=by
   intro R kn kx
   rw[bT.L0.step,bu (by omega),bo (by omega) (by omega),bo (by omega) (by omega),Int.toNat_natCast,n1,n2,N.kM (by omega)]
   simp only[av]
   by_cases hx:a[k]=b[k]
   ·rw[bR hx,if_pos hx];rfl
   ·rw[dA hx,if_neg hx];rfl
  by_cases hx:a[k]=b[k]
  ·left
   refine⟨(a,b,(a.length:Int),((k+1:Nat):Int)),⟨hl,hab,rfl,k+1,by omega,rfl⟩,by simp only[Int.toNat_natCast];omega,?_,fun kn kx=> ?_⟩
   ·simp only[bT.L0.add,bT.L0.F,Int.toNat_natCast,hd,hx,true_and]
   ·rw[step,if_pos hx]
  ·right
   refine⟨bT.L0.bt (),?_,fun kn kx=> ?_⟩
   ·simp only[bT.L0.add,bT.L0.F,Int.toNat_natCast,hd,hx,false_and,if_false]
    rfl
   ·rw[step,if_neg hx]
 ·right
  obtain rfl:k=a.length:=by omega
  refine⟨bT.L0.eS (),?_,fun kn kx=> ?_⟩
  ·simp only[bT.L0.add,bT.L0.F,Int.toNat_natCast,List.drop_length]
   rw[hab,List.drop_length,if_pos rfl]
   rfl
  ·rw[bT.L0.step,bj (by omega),ay]
theorem bT.ok:bT.Ok:=by
 rintro⟨a,b⟩ hl
 have hl:a.length≤1000000000:=hl
 rw[bT.eq]
 simp only[bT.add,bT.F]
 by_cases h:a.length=b.length
 ·rw[bR (by omega),ay,bT.L0.run (d:=(a,b,(a.length:Int),0)) ⟨hl,h,rfl,0,Nat.zero_le _,rfl⟩]
  simp only[aa,bT.L0.add,bT.L0.F,Int.toNat_zero,List.drop_zero]
  by_cases hx:a=b
  ·rw[if_pos hx,aO hx];rfl
  ·rw[if_neg hx,aM hx];rfl
 ·rw[dA (by omega),aM (fun x=>h (by rw[x]))];rfl
noncomputable def bT.E:=Entry.cz [some tB,some tB] bT.st bT.aB bT.add bT.F bT.out
noncomputable def bT.call:bT.D→Option bT.X:=bH bT.E bT.st
theorem bT.run:bC bT.call bT.aB bT.add bT.F:=cQ (cP [.d tB,.d tB] fun _=>by kernel_rfl)
noncomputable def bT.sg:SG Tryz.prog:=⟨58,aU,bT.E,.fn 1 (by kernel_rfl) bT.ok (And.intro (.cz bT.L0.ok (by kernel_rfl)) trivial)⟩
abbrev ej.L0.D:=Bs×Bs×Int×Int
def ej.L0.st:ej.L0.D→AS:=fun(s1_2,s2_2,t12,t13)=>⟨([.d tU s1_2,.d tU s2_2]++bg 10 ([.d ti t12,.d ti t13]++bg 12 [])),[],(List.replicate 26 [])⟩
abbrev ej.L0.Y0:=Unit
abbrev ej.L0.X0:=Unit
def ej.L0.bt:ej.L0.X0→Exit×AS:=fun x=>(.ret,⟨(bg 4 ([.d .bool false]++bg 21 [])),[],(List.replicate 26 [])⟩)
abbrev ej.L0.Y1:=Unit
abbrev ej.L0.X1:=Unit
def ej.L0.eS:ej.L0.X1→Exit×AS:=fun x=>(.exit 0,⟨(bg 26 []),[],(List.replicate 26 [])⟩)
abbrev ej.L0.X:=(ej.L0.X0)⊕(ej.L0.X1)
abbrev ej.L0.Y:=(ej.L0.Y0)⊕(ej.L0.Y1)
def ej.L0.out:ej.L0.X→Out (Exit×AS):=fun x=> .br x.isLeft (.get x.getLeft? fun a=> .ok (ej.L0.bt a)) (.get x.getRight? fun b=> .ok (ej.L0.eS b))
def ej.L0.add:ej.L0.D→ej.L0.Y→ej.L0.X:=fun(s1_2,s2_2,t12,t13) y=>match y with | .inl y=> .inl y | .inr z=> .inr (z)
abbrev ej.D:=Bs×Bs
def ej.st:ej.D→SA:=fun(s1,s2)=>([.d tU s1,.d tU s2],[])
abbrev ej.Y:=Bool
abbrev ej.X:=Bool
def ej.out:ej.X→a9:=fun x=>⟨.d .bool x,[],[]⟩
def ej.add:ej.D→ej.Y→ej.X:=fun(s1,s2) y=>y
def ej.L0.aB:ej.L0.D→Prop:=fun(a,b,m,i)=>a.length≤1000000000∧a.length=b.length∧m=a.length∧∃k:Nat,k≤a.length∧i=k
def ej.L0.F:ej.L0.D→ej.L0.Y:=fun(a,b,m,i)=>if a.drop i.toNat=b.drop i.toNat then .inr () else .inl ()
def ej.aB:ej.D→Prop:=fun(a,b)=>a.length≤1000000000
def ej.F:ej.D→ej.Y:=fun(a,b)=>decide (a=b)
noncomputable def ej.G:dS:=eR (P:=Tryz.prog) []
noncomputable def ej.L0.E:=bO.cz ej.L0.st ej.L0.aB ej.L0.add ej.L0.F ej.L0.out
noncomputable def ej.L0.call:ej.L0.D→Option ej.L0.X:=dk ej.L0.E ej.L0.st
noncomputable def ej.an:eA:= {loops:=jY [(4,{bm:=[0,1,12,13]})],outs:=jX [(4,{},{bm:=[4]})],fJ:=kF [(4,ej.L0.E)]}
noncomputable def ej.A:= @cJ Tryz.prog ej.G ej.an 0 Tryz.f68 _ ej.st
abbrev ej.Ok:=cK @ej.A ej.aB ej.add ej.F ej.out
noncomputable def ej.L0.R:= @cg Tryz.prog ej.G ej.an 0 Tryz.f68 0 _ ej.L0.st
abbrev ej.L0.Ok:=eB Tryz.prog ej.G ej.an 0 Tryz.f68 0 ej.L0.st ej.L0.aB ej.L0.add ej.L0.F ej.L0.out
theorem ej.L0.run:bC ej.L0.call ej.L0.aB ej.L0.add ej.L0.F:=eI (eD [.d tU,.d tU,.d ti,.d ti] fun _=>by kernel_rfl)
theorem ej.L0.aG:jt @ej.L0.R ej.L0.st ej.L0.aB ej.L0.add ej.L0.F ej.L0.out ej.L0.Ok:=jV
theorem ej.L0.step{R:Type}(s1_2:Bs)(s2_2:Bs)(t12:Int)(t13:Int)(kn:AS→Option R)(kx:Exit→AS→Option R):ej.L0.R (s1_2,s2_2,t12,t13) kn kx=
  aJ ((fZ t13 t12)) (
   aJ (ei t13 (((List.length s1_2):Nat):Int)) (
   aJ (ei t13 (((List.length s2_2):Nat):Int)) (
   aJ ((jw (nth tu s1_2 (Int.toNat t13)) (nth tu s2_2 (Int.toNat t13)))) (
    kx (ej.L0.bt ()).1 (ej.L0.bt ()).2) (
    kn (ej.L0.st (s1_2,s2_2,t12,(bM .i64 t13 (1:Int)))))) none) none) (
   kx (ej.L0.eS ()).1 (ej.L0.eS ()).2):=by kernel_rfl
theorem ej.eq{R:Type}(s1:Bs)(s2:Bs)(k:a9→Option R):ej.A (s1,s2) k=
  aJ ((jw (((List.length s1):Nat):Int) (((List.length s2):Nat):Int))) (
   k (ej.out false)) (
   ah (ej.L0.call (s1,s2,(((List.length s1):Nat):Int),(0:Int))) fun x1=>
   aJ (x1.isLeft) (
    ah (x1.getLeft?) fun a2=>
    k (ej.out false)) (
    ah (x1.getRight?) fun b3=>
    k (ej.out true))):=by kernel_rfl
theorem ej.L0.ok:ej.L0.Ok:=by
 refine ej.L0.aG (fun(a,b,m,i)=>a.length - i.toNat) ?_
 rintro⟨a,b,m,i⟩ ⟨hl,hab,rfl,k,hk,rfl⟩
 have hl:a.length≤1000000000:=hl
 have hab:a.length=b.length:=hab
 have hk:k≤a.length:=hk
 by_cases h:k < a.length
 ·have h2:k < b.length:=by omega
  have n1:nth (.int .u64) a k=a[k]:=cC (t:=(.int .u64)) h
  have n2:nth (.int .u64) b k=b[k]:=cC (t:=(.int .u64)) h2
  have hd:(a.drop k=b.drop k)=(a[k]=b[k]∧a.drop (k+1)=b.drop (k+1)):=by rw[List.drop_eq_getElem_cons h,List.drop_eq_getElem_cons h2,List.cons.injEq]
  have step:∀ {R:Type} (kn:AS→Option R) (kx:Exit→AS→Option R),ej.L0.R (a,b,(a.length:Int),(k:Int)) kn kx=if a[k]=b[k] then kn (ej.L0.st (a,b,(a.length:Int),((k+1:Nat):Int))) else kx (ej.L0.bt ()).1 (ej.L0.bt ()).2:=by
   intro R kn kx
   rw[ej.L0.step,bu (by omega),bo (by omega) (by omega),bo (by omega) (by omega),Int.toNat_natCast,n1,n2,N.kM (by omega)]
   simp only[av]
   by_cases hx:a[k]=b[k]
   ·rw[bR hx,if_pos hx];rfl
   ·rw[dA hx,if_neg hx];rfl
  by_cases hx:a[k]=b[k]
  ·left
   refine⟨(a,b,(a.length:Int),((k+1:Nat):Int)),⟨hl,hab,rfl,k+1,by omega,rfl⟩,by simp only[Int.toNat_natCast];omega,?_,fun kn kx=> ?_⟩
   ·simp only[ej.L0.add,ej.L0.F,Int.toNat_natCast,hd,hx,true_and]
   ·rw[step,if_pos hx]
  ·right
   refine⟨ej.L0.bt (),?_,fun kn kx=> ?_⟩
   ·simp only[ej.L0.add,ej.L0.F,Int.toNat_natCast,hd,hx,false_and,if_false]
    rfl
   ·rw[step,if_neg hx]
 ·right
  obtain rfl:k=a.length:=by omega
  refine⟨ej.L0.eS (),?_,fun kn kx=> ?_⟩
  ·simp only[ej.L0.add,ej.L0.F,Int.toNat_natCast,List.drop_length]
   rw[hab,List.drop_length,if_pos rfl]
   rfl
  ·rw[ej.L0.step,bj (by omega),ay]
theorem ej.ok:ej.Ok:=by
 rintro⟨a,b⟩ hl
 have hl:a.length≤1000000000:=hl
 rw[ej.eq]
 simp only[ej.add,ej.F]
 by_cases h:a.length=b.length
 ·rw[bR (by omega),ay,ej.L0.run (d:=(a,b,(a.length:Int),0)) ⟨hl,h,rfl,0,Nat.zero_le _,rfl⟩]
  simp only[aa,ej.L0.add,ej.L0.F,Int.toNat_zero,List.drop_zero]
  by_cases hx:a=b
  ·rw[if_pos hx,aO hx];rfl
  ·rw[if_neg hx,aM hx];rfl
 ·rw[dA (by omega),aM (fun x=>h (by rw[x]))];rfl
noncomputable def ej.E:=Entry.cz [some tU,some tU] ej.st ej.aB ej.add ej.F ej.out
noncomputable def ej.call:ej.D→Option ej.X:=bH ej.E ej.st
theorem ej.run:bC ej.call ej.aB ej.add ej.F:=cQ (cP [.d tU,.d tU] fun _=>by kernel_rfl)
noncomputable def ej.sg:SG Tryz.prog:=⟨68,aU,ej.E,.fn 1 (by kernel_rfl) ej.ok (And.intro (.cz ej.L0.ok (by kernel_rfl)) trivial)⟩
abbrev cU.D:=fU×fU
def cU.st:cU.D→SA:=fun(x,yv)=>([.d fk x,.d fk yv],[])
abbrev cU.Y:=Bool
abbrev cU.X:=Bool
def cU.out:cU.X→a9:=fun x=>⟨.d .bool x,[],[]⟩
def cU.add:cU.D→cU.Y→cU.X:=fun(x,yv) y=>y
def cU.aB:cU.D→Prop:=fun(x,z)=>x.1.length≤1000000000
def cU.F:cU.D→cU.Y:=fun(x,z)=>decide (x=z)
noncomputable def cU.G:dS:=eR (P:=Tryz.prog) [ej.sg]
noncomputable def cU.an:eA:= {}
noncomputable def cU.A:= @cJ Tryz.prog cU.G cU.an 0 Tryz.f67 _ cU.st
abbrev cU.Ok:=cK @cU.A cU.aB cU.add cU.F cU.out
theorem cU.eq{R:Type}(x:fU)(yv:fU)(k:a9→Option R):cU.A (x,yv) k=
  ah (ej.call (x.1,yv.1)) fun x1=>
  aJ (x1) (
   aJ ((kI x.2.1 yv.2.1)) (
    aJ ((kI x.2.2.1 yv.2.2.1)) (
     k (cU.out (kI x.2.2.2.1 yv.2.2.2.1))) (
     k (cU.out false))) (
    k (cU.out false))) (
   k (cU.out false)):=by kernel_rfl
theorem cU.ok:cU.Ok:=by
 rintro⟨⟨k1,a1,d1,s1,u1⟩,⟨k2,a2,d2,s2,u2⟩⟩ h
 have h:k1.length≤1000000000:=h
 rw[cU.eq,ej.run (d:=(k1,k2)) h]
 simp only[aa,ej.add,ej.F,cU.add,cU.F]
 by_cases e1:k1=k2
 ·by_cases e2:a1=a2
  ·by_cases e3:d1=d2
   ·by_cases e4:s1=s2
    ·rw[aO e1,cl e2,cl e3,cl e4,aO (by rw[e1,e2,e3,e4])];rfl
    ·rw[aO e1,cl e2,cl e3,eP e4,aM (by rintro⟨⟩;exact e4 rfl)];rfl
   ·rw[aO e1,cl e2,eP e3,aM (by rintro⟨⟩;exact e3 rfl)];rfl
  ·rw[aO e1,eP e2,aM (by rintro⟨⟩;exact e2 rfl)];rfl
 ·rw[aM e1,aM (by rintro⟨⟩;exact e1 rfl)];rfl
noncomputable def cU.E:=Entry.cz [some fk,some fk] cU.st cU.aB cU.add cU.F cU.out
noncomputable def cU.call:cU.D→Option cU.X:=bH cU.E cU.st
theorem cU.run:bC cU.call cU.aB cU.add cU.F:=cQ (cP [.d fk,.d fk] fun _=>by kernel_rfl)
noncomputable def cU.sg:SG Tryz.prog:=⟨67,aU,cU.E,.fn 0 (by kernel_rfl) cU.ok trivial⟩
def Dg(l:Lk):Prop:=l.1.length≤1000000000∧∀b∈l.1,b.1.length≤1000000000
abbrev bY.L0.D:=(List fU)×(List fU)×Int×Int
def bY.L0.st:bY.L0.D→AS:=fun(s2_2,t15,t16,t17)=>⟨([.undef,.d (.slice fk) s2_2,.fn 67 (.nil)]++bg 12 ([.d (.slice fk) t15,.d ti t16,.d ti t17]++bg 14 [])),[],(List.replicate 32 [])⟩
abbrev bY.L0.Y0:=Unit
abbrev bY.L0.X0:=Unit
def bY.L0.bt:bY.L0.X0→Exit×AS:=fun x=>(.ret,⟨(bg 6 ([.d .bool false]++bg 25 [])),[],(List.replicate 32 [])⟩)
abbrev bY.L0.Y1:=Unit
abbrev bY.L0.X1:=Unit
def bY.L0.eS:bY.L0.X1→Exit×AS:=fun x=>(.exit 0,⟨(bg 32 []),[],(List.replicate 32 [])⟩)
abbrev bY.L0.X:=(bY.L0.X0)⊕(bY.L0.X1)
abbrev bY.L0.Y:=(bY.L0.Y0)⊕(bY.L0.Y1)
def bY.L0.out:bY.L0.X→Out (Exit×AS):=fun x=> .br x.isLeft (.get x.getLeft? fun a=> .ok (bY.L0.bt a)) (.get x.getRight? fun b=> .ok (bY.L0.eS b))
def bY.L0.add:bY.L0.D→bY.L0.Y→bY.L0.X:=fun(s2_2,t15,t16,t17) y=>match y with | .inl y=> .inl y | .inr z=> .inr (z)
abbrev bY.D:=(List fU)×(List fU)
def bY.st:bY.D→SA:=fun(s1,s2)=>([.d (.slice fk) s1,.d (.slice fk) s2,.fn 67 (.nil)],[])
abbrev bY.Y:=Bool
abbrev bY.X:=Bool
def bY.out:bY.X→a9:=fun x=>⟨.d .bool x,[],[]⟩
def bY.add:bY.D→bY.Y→bY.X:=fun(s1,s2) y=>y
def bY.L0.aB:bY.L0.D→Prop:=fun(b,a,m,i)=>(a.length≤1000000000∧∀x∈a,x.1.length≤1000000000)∧a.length=b.length∧m=a.length∧∃k:Nat,k≤a.length∧i=k
def bY.L0.F:bY.L0.D→bY.L0.Y:=fun(b,a,m,i)=>if a.drop i.toNat=b.drop i.toNat then .inr () else .inl ()
def bY.aB:bY.D→Prop:=fun(a,b)=>a.length≤1000000000∧∀x∈a,x.1.length≤1000000000
def bY.F:bY.D→bY.Y:=fun(a,b)=>decide (a=b)
noncomputable def bY.G:dS:=eR (P:=Tryz.prog) [cU.sg]
noncomputable def bY.L0.E:=bO.cz bY.L0.st bY.L0.aB bY.L0.add bY.L0.F bY.L0.out
noncomputable def bY.L0.call:bY.L0.D→Option bY.L0.X:=dk bY.L0.E bY.L0.st
noncomputable def bY.an:eA:= {loops:=jY [(4,{bm:=[1,2,15,16,17]})],outs:=jX [(4,{},{bm:=[6]})],fJ:=kF [(4,bY.L0.E)]}
noncomputable def bY.A:= @cJ Tryz.prog bY.G bY.an 0 Tryz.f66 _ bY.st
abbrev bY.Ok:=cK @bY.A bY.aB bY.add bY.F bY.out
noncomputable def bY.L0.R:= @cg Tryz.prog bY.G bY.an 0 Tryz.f66 0 _ bY.L0.st
abbrev bY.L0.Ok:=eB Tryz.prog bY.G bY.an 0 Tryz.f66 0 bY.L0.st bY.L0.aB bY.L0.add bY.L0.F bY.L0.out
theorem bY.L0.run:bC bY.L0.call bY.L0.aB bY.L0.add bY.L0.F:=eI (eD [.d (.slice fk),.d (.slice fk),.d ti,.d ti] fun _=>by kernel_rfl)
theorem bY.L0.aG:jt @bY.L0.R bY.L0.st bY.L0.aB bY.L0.add bY.L0.F bY.L0.out bY.L0.Ok:=jV
theorem bY.L0.step{R:Type}(s2_2:(List fU))(t15:(List fU))(t16:Int)(t17:Int)(kn:AS→Option R)(kx:Exit→AS→Option R):bY.L0.R (s2_2,t15,t16,t17) kn kx=
  aJ ((fZ t17 t16)) (
   aJ (ei t17 (((List.length t15):Nat):Int)) (
   aJ (ei t17 (((List.length s2_2):Nat):Int)) (
   ah (cU.call ((nth fk t15 (Int.toNat t17)),(nth fk s2_2 (Int.toNat t17)))) fun x1=>
   aJ ((!x1)) (
    kx (bY.L0.bt ()).1 (bY.L0.bt ()).2) (
    kn (bY.L0.st (s2_2,t15,t16,(bM .i64 t17 (1:Int)))))) none) none) (
   kx (bY.L0.eS ()).1 (bY.L0.eS ()).2):=by kernel_rfl
theorem bY.eq{R:Type}(s1:(List fU))(s2:(List fU))(k:a9→Option R):bY.A (s1,s2) k=
  aJ ((jw (((List.length s1):Nat):Int) (((List.length s2):Nat):Int))) (
   k (bY.out false)) (
   ah (bY.L0.call (s2,s1,(((List.length s1):Nat):Int),(0:Int))) fun x2=>
   aJ (x2.isLeft) (
    ah (x2.getLeft?) fun a3=>
    k (bY.out false)) (
    ah (x2.getRight?) fun b4=>
    k (bY.out true))):=by kernel_rfl
theorem bY.L0.ok:bY.L0.Ok:=by
 refine bY.L0.aG (fun(b,a,m,i)=>a.length - i.toNat) ?_
 rintro⟨b,a,m,i⟩ ⟨⟨hl,he⟩,hab,rfl,k,hk,rfl⟩
 have hl:a.length≤1000000000:=hl
 have hab:a.length=b.length:=hab
 have hk:k≤a.length:=hk
 by_cases h:k < a.length
 ·have h2:k < b.length:=by omega
  have n1:nth (.pair (.slice (.int .u64)) (.pair (.int .i64) (.pair (.int .i64) (.pair (.int .u64) .unit)))) a k=a[k]:=cC (t:=(.pair (.slice (.int .u64)) (.pair (.int .i64) (.pair (.int .i64) (.pair (.int .u64) .unit))))) h
  have n2:nth (.pair (.slice (.int .u64)) (.pair (.int .i64) (.pair (.int .i64) (.pair (.int .u64) .unit)))) b k=b[k]:=cC (t:=(.pair (.slice (.int .u64)) (.pair (.int .i64) (.pair (.int .i64) (.pair (.int .u64) .unit))))) h2
  have hd:(a.drop k=b.drop k)=(a[k]=b[k]∧a.drop (k+1)=b.drop (k+1)):=by rw[List.drop_eq_getElem_cons h,List.drop_eq_getElem_cons h2,List.cons.injEq]
  have step:∀ {R:Type} (kn:AS→Option R) (kx:Exit→AS→Option R),bY.L0.R (b,a,(a.length:Int),(k:Int)) kn kx=if a[k]=b[k] then kn (bY.L0.st (b,a,(a.length:Int),((k+1:Nat):Int))) else kx (bY.L0.bt ()).1 (bY.L0.bt ()).2:=by
   intro R kn kx
   rw[bY.L0.step,bu (by omega),bo (by omega) (by omega),bo (by omega) (by omega),Int.toNat_natCast,n1,n2,N.kM (by omega),cU.run (d:=(a[k],b[k])) (he _ (List.getElem_mem h))]
   simp only[av,aa,cU.add,cU.F]
   by_cases hx:a[k]=b[k]
   ·rw[aO hx,if_pos hx];rfl
   ·rw[aM hx,if_neg hx];rfl
  by_cases hx:a[k]=b[k]
  ·left
   refine⟨(b,a,(a.length:Int),((k+1:Nat):Int)),⟨⟨hl,he⟩,hab,rfl,k+1,by omega,rfl⟩,by simp only[Int.toNat_natCast];omega,?_,fun kn kx=> ?_⟩
   ·simp only[bY.L0.add,bY.L0.F,Int.toNat_natCast,hd,hx,true_and]
   ·rw[step,if_pos hx]
  ·right
   refine⟨bY.L0.bt (),?_,fun kn kx=> ?_⟩
   ·simp only[bY.L0.add,bY.L0.F,Int.toNat_natCast,hd,hx,false_and,if_false]
    rfl
   ·rw[step,if_neg hx]
 ·right
  obtain rfl:k=a.length:=by omega
  refine⟨bY.L0.eS (),?_,fun kn kx=> ?_⟩
  ·simp only[bY.L0.add,bY.L0.F,Int.toNat_natCast,List.drop_length]
   rw[hab,List.drop_length,if_pos rfl]
   rfl
  ·rw[bY.L0.step,bj (by omega),ay]
theorem bY.ok:bY.Ok:=by
 rintro⟨a,b⟩ hl
 have hl1:a.length≤1000000000:=hl.1
 rw[bY.eq]
 simp only[bY.add,bY.F]
 by_cases h:a.length=b.length
 ·rw[bR (by omega),ay,bY.L0.run (d:=(b,a,(a.length:Int),0)) ⟨hl,h,rfl,0,Nat.zero_le _,rfl⟩]
  simp only[aa,bY.L0.add,bY.L0.F,Int.toNat_zero,List.drop_zero]
  by_cases hx:a=b
  ·rw[if_pos hx,aO hx];rfl
  ·rw[if_neg hx,aM hx];rfl
 ·rw[dA (by omega),aM (fun x=>h (by rw[x]))];rfl
noncomputable def bY.E:=Entry.cz [some (.slice fk),some (.slice fk),none] bY.st bY.aB bY.add bY.F bY.out
noncomputable def bY.call:bY.D→Option bY.X:=bH bY.E bY.st
theorem bY.run:bC bY.call bY.aB bY.add bY.F:=cQ (cP [.d (.slice fk),.d (.slice fk)] fun _=>by kernel_rfl)
noncomputable def bY.sg:SG Tryz.prog:=⟨66,aU,bY.E,.fn 1 (by kernel_rfl) bY.ok (And.intro (.cz bY.L0.ok (by kernel_rfl)) trivial)⟩
abbrev ez.D:=Lk×Lk
def ez.st:ez.D→SA:=fun(a,b)=>([.d jo a,.d jo b],[])
abbrev ez.Y:=Bool
abbrev ez.X:=Bool
def ez.out:ez.X→a9:=fun x=>⟨.d .bool x,[],[]⟩
def ez.add:ez.D→ez.Y→ez.X:=fun(a,b) y=>y
def ez.aB:ez.D→Prop:=fun(a,b)=>Dg a
def ez.F:ez.D→ez.Y:=fun(a,b)=>decide (a.1=b.1)
noncomputable def ez.G:dS:=eR (P:=Tryz.prog) [bY.sg]
noncomputable def ez.an:eA:= {}
noncomputable def ez.A:= @cJ Tryz.prog ez.G ez.an 0 Tryz.f15 _ ez.st
abbrev ez.Ok:=cK @ez.A ez.aB ez.add ez.F ez.out
theorem ez.eq{R:Type}(a:Lk)(b:Lk)(k:a9→Option R):ez.A (a,b) k=
 ah (bY.call (a.1,b.1)) fun x1=>
 k (ez.out x1):=by kernel_rfl
theorem ez.ok:ez.Ok:=by
 rintro⟨a,b⟩ h
 rw[ez.eq,bY.run (d:=(a.1,b.1)) h]
 rfl
noncomputable def ez.E:=Entry.cz [some jo,some jo] ez.st ez.aB ez.add ez.F ez.out
noncomputable def ez.call:ez.D→Option ez.X:=bH ez.E ez.st
theorem ez.run:bC ez.call ez.aB ez.add ez.F:=cQ (cP [.d jo,.d jo] fun _=>by kernel_rfl)
noncomputable def ez.sg:SG Tryz.prog:=⟨15,aU,ez.E,.fn 0 (by kernel_rfl) ez.ok trivial⟩
set_option synthInstance.maxSize 5000
theorem py{α:Type}{f:α→α→Bool}(hf:∀x,f x x=true):∀l:List α,gp f l l=true
 |[]=>rfl
 |x::l=>by rw[nA,hf,py hf l];rfl
theorem na:∀(t:Ty) (x:t.den),t.comp=true→t.beq x x=true
 | .int _,x,_=>by simp[Ty.beq]
 | .bool,x,_=>by simp[Ty.beq]
 | .str,x,_=>by simp[Ty.beq]
 | .unit,_,_=>rfl
 | .pair a b,x,h=>by
  simp only[Ty.comp,Bool.and_eq_true]at h
  simp only[Ty.beq,na a x.1 h.1,na b x.2 h.2,Bool.and_self]
 | .arr _ t,l,h=>py (fun x=>na t x h) l
 | .slice _,_,h=>by cases h
 | .fo _,_,h=>by cases h
theorem yL(t:Ty)(hc:t.comp=true)(x y:t.den) [Decidable (x=y)]:t.beq x y=decide (x=y):=by
 by_cases h:x=y
 ·subst h;rw[aO rfl,na t x hc]
 ·rw[aM h]
  cases hb:t.beq x y
  ·rfl
  ·exact absurd (beq_eq t x y hc hb) h
theorem AH(x y:Sg):Ty.beq jm x y=decide (x=y):= @yL jm rfl x y (inferInstanceAs (Decidable (x=y)))
theorem rM(x y:kg):Ty.beq kG x y=decide (x=y):= @yL kG rfl x y (inferInstanceAs (Decidable (x=y)))
abbrev bV.L0.D:=(List Sg)×(List Sg)×Int×Int
def bV.L0.st:bV.L0.D→AS:=fun(s1_2,s2_2,t12,t13)=>⟨([.d (.slice jm) s1_2,.d (.slice jm) s2_2]++bg 10 ([.d ti t12,.d ti t13]++bg 12 [])),[],(List.replicate 26 [])⟩
abbrev bV.L0.Y0:=Unit
abbrev bV.L0.X0:=Unit
def bV.L0.bt:bV.L0.X0→Exit×AS:=fun x=>(.ret,⟨(bg 4 ([.d .bool false]++bg 21 [])),[],(List.replicate 26 [])⟩)
abbrev bV.L0.Y1:=Unit
abbrev bV.L0.X1:=Unit
def bV.L0.eS:bV.L0.X1→Exit×AS:=fun x=>(.exit 0,⟨(bg 26 []),[],(List.replicate 26 [])⟩)
abbrev bV.L0.X:=(bV.L0.X0)⊕(bV.L0.X1)
abbrev bV.L0.Y:=(bV.L0.Y0)⊕(bV.L0.Y1)
def bV.L0.out:bV.L0.X→Out (Exit×AS):=fun x=> .br x.isLeft (.get x.getLeft? fun a=> .ok (bV.L0.bt a)) (.get x.getRight? fun b=> .ok (bV.L0.eS b))
def bV.L0.add:bV.L0.D→bV.L0.Y→bV.L0.X:=fun(s1_2,s2_2,t12,t13) y=>match y with | .inl y=> .inl y | .inr z=> .inr (z)
abbrev bV.D:=(List Sg)×(List Sg)
def bV.st:bV.D→SA:=fun(s1,s2)=>([.d (.slice jm) s1,.d (.slice jm) s2],[])
abbrev bV.Y:=Bool
abbrev bV.X:=Bool
def bV.out:bV.X→a9:=fun x=>⟨.d .bool x,[],[]⟩
def bV.add:bV.D→bV.Y→bV.X:=fun(s1,s2) y=>y
def bV.L0.aB:bV.L0.D→Prop:=fun(a,b,m,i)=>a.length≤1000000000∧a.length=b.length∧m=a.length∧∃k:Nat,k≤a.length∧i=k
def bV.L0.F:bV.L0.D→bV.L0.Y:=fun(a,b,m,i)=>if a.drop i.toNat=b.drop i.toNat then .inr () else .inl ()
def bV.aB:bV.D→Prop:=fun(a,b)=>a.length≤1000000000
def bV.F:bV.D→bV.Y:=fun(a,b)=>decide (a=b)
noncomputable def bV.G:dS:=eR (P:=Tryz.prog) []
noncomputable def bV.L0.E:=bO.cz bV.L0.st bV.L0.aB bV.L0.add bV.L0.F bV.L0.out
noncomputable def bV.L0.call:bV.L0.D→Option bV.L0.X:=dk bV.L0.E bV.L0.st
noncomputable def bV.an:eA:= {loops:=jY [(4,{bm:=[0,1,12,13]})],outs:=jX [(4,{},{bm:=[4]})],fJ:=kF [(4,bV.L0.E)]}
noncomputable def bV.A:= @cJ Tryz.prog bV.G bV.an 0 Tryz.f100 _ bV.st
abbrev bV.Ok:=cK @bV.A bV.aB bV.add bV.F bV.out
noncomputable def bV.L0.R:= @cg Tryz.prog bV.G bV.an 0 Tryz.f100 0 _ bV.L0.st
abbrev bV.L0.Ok:=eB Tryz.prog bV.G bV.an 0 Tryz.f100 0 bV.L0.st bV.L0.aB bV.L0.add bV.L0.F bV.L0.out
theorem bV.L0.run:bC bV.L0.call bV.L0.aB bV.L0.add bV.L0.F:=eI (eD [.d (.slice jm),.d (.slice jm),.d ti,.d ti] fun _=>by kernel_rfl)
theorem bV.L0.aG:jt @bV.L0.R bV.L0.st bV.L0.aB bV.L0.add bV.L0.F bV.L0.out bV.L0.Ok:=jV
theorem bV.L0.step{R:Type}(s1_2:(List Sg))(s2_2:(List Sg))(t12:Int)(t13:Int)(kn:AS→Option R)(kx:Exit→AS→Option R):bV.L0.R (s1_2,s2_2,t12,t13) kn kx=
  aJ ((fZ t13 t12)) (
   aJ (ei t13 (((List.length s1_2):Nat):Int)) (
   aJ (ei t13 (((List.length s2_2):Nat):Int)) (
   aJ ((!(Ty.beq jm (nth jm s1_2 (Int.toNat t13)) (nth jm s2_2 (Int.toNat t13))))) (
    kx (bV.L0.bt ()).1 (bV.L0.bt ()).2) (
    kn (bV.L0.st (s1_2,s2_2,t12,(bM .i64 t13 (1:Int)))))) none) none) (
   kx (bV.L0.eS ()).1 (bV.L0.eS ()).2):=by kernel_rfl
theorem bV.eq{R:Type}(s1:(List Sg))(s2:(List Sg))(k:a9→Option R):bV.A (s1,s2) k=
  aJ ((jw (((List.length s1):Nat):Int) (((List.length s2):Nat):Int))) (
   k (bV.out false)) (
   ah (bV.L0.call (s1,s2,(((List.length s1):Nat):Int),(0:Int))) fun x1=>
   aJ (x1.isLeft) (
    ah (x1.getLeft?) fun a2=>
    k (bV.out false)) (
    ah (x1.getRight?) fun b3=>
    k (bV.out true))):=by kernel_rfl
theorem bV.L0.ok:bV.L0.Ok:=by
 refine bV.L0.aG (fun(a,b,m,i)=>a.length - i.toNat) ?_
 rintro⟨a,b,m,i⟩ ⟨hl,hab,rfl,k,hk,rfl⟩
 have hl:a.length≤1000000000:=hl
 have hab:a.length=b.length:=hab
 have hk:k≤a.length:=hk
 by_cases h:k < a.length
 ·have h2:k < b.length:=by omega
  have n1:nth jm a k=a[k]:=cC (t:=jm) h
  have n2:nth jm b k=b[k]:=cC (t:=jm) h2
  have hd:(a.drop k=b.drop k)=(a[k]=b[k]∧a.drop (k+1)=b.drop (k+1)):=by rw[List.drop_eq_getElem_cons h,List.drop_eq_getElem_cons h2,List.cons.injEq]
  have step:∀ {R:Type} (kn:AS→Option R) (kx:Exit→AS→Option R),bV.L0.R (a,b,(a.length:Int),(k:Int)) kn kx=if a[k]=b[k] then kn (bV.L0.st (a,b,(a.length:Int),((k+1:Nat):Int))) else kx (bV.L0.bt ()).1 (bV.L0.bt ()).2:=by
   intro R kn kx
   rw[bV.L0.step,bu (by omega),bo (by omega) (by omega),bo (by omega) (by omega),Int.toNat_natCast,n1,n2,N.kM (by omega)]
   simp only[av]
   rw[AH]
   by_cases hx:a[k]=b[k]
   ·rw[aO hx,if_pos hx];rfl
   ·rw[aM hx,if_neg hx];rfl
  by_cases hx:a[k]=b[k]
  ·left
   refine⟨(a,b,(a.length:Int),((k+1:Nat):Int)),⟨hl,hab,rfl,k+1,by omega,rfl⟩,by simp only[Int.toNat_natCast];omega,?_,fun kn kx=> ?_⟩
   ·simp only[bV.L0.add,bV.L0.F,Int.toNat_natCast,hd,hx,true_and]
   ·rw[step,if_pos hx]
  ·right
   refine⟨bV.L0.bt (),?_,fun kn kx=> ?_⟩
   ·simp only[bV.L0.add,bV.L0.F,Int.toNat_natCast,hd,hx,false_and,if_false]
    rfl
   ·rw[step,if_neg hx]
 ·right
  obtain rfl:k=a.length:=by omega
  refine⟨bV.L0.eS (),?_,fun kn kx=> ?_⟩
  ·simp only[bV.L0.add,bV.L0.F,Int.toNat_natCast,List.drop_length]
   rw[hab,List.drop_length,if_pos rfl]
   rfl
  ·rw[bV.L0.step,bj (by omega),ay]
theorem bV.ok:bV.Ok:=by
 rintro⟨a,b⟩ hl
 have hl:a.length≤1000000000:=hl
 rw[bV.eq]
 simp only[bV.add,bV.F]
 by_cases h:a.length=b.length
 ·rw[bR (by omega),ay,bV.L0.run (d:=(a,b,(a.length:Int),0)) ⟨hl,h,rfl,0,Nat.zero_le _,rfl⟩]
  simp only[aa,bV.L0.add,bV.L0.F,Int.toNat_zero,List.drop_zero]
  by_cases hx:a=b
  ·rw[if_pos hx,aO hx];rfl
  ·rw[if_neg hx,aM hx];rfl
 ·rw[dA (by omega),aM (fun x=>h (by rw[x]))];rfl
noncomputable def bV.E:=Entry.cz [some (.slice jm),some (.slice jm)] bV.st bV.aB bV.add bV.F bV.out
noncomputable def bV.call:bV.D→Option bV.X:=bH bV.E bV.st
theorem bV.run:bC bV.call bV.aB bV.add bV.F:=cQ (cP [.d (.slice jm),.d (.slice jm)] fun _=>by kernel_rfl)
noncomputable def bV.sg:SG Tryz.prog:=⟨100,aU,bV.E,.fn 1 (by kernel_rfl) bV.ok (And.intro (.cz bV.L0.ok (by kernel_rfl)) trivial)⟩
abbrev cW.D:=fD×fD
def cW.st:cW.D→SA:=fun(x,yv)=>([.d eH x,.d eH yv],[])
abbrev cW.Y:=Bool
abbrev cW.X:=Bool
def cW.out:cW.X→a9:=fun x=>⟨.d .bool x,[],[]⟩
def cW.add:cW.D→cW.Y→cW.X:=fun(x,yv) y=>y
def cW.aB:cW.D→Prop:=fun(x,y)=>x.2.1.2.1.length≤1000000000
def cW.F:cW.D→cW.Y:=fun(x,y)=>decide (x=y)
noncomputable def cW.G:dS:=eR (P:=Tryz.prog) [bV.sg]
noncomputable def cW.an:eA:= {}
noncomputable def cW.A:= @cJ Tryz.prog cW.G cW.an 0 Tryz.f99 _ cW.st
abbrev cW.Ok:=cK @cW.A cW.aB cW.add cW.F cW.out
theorem cW.eq{R:Type}(x:fD)(yv:fD)(k:a9→Option R):cW.A (x,yv) k=
  aJ ((Ty.beq kG x.1 yv.1)) (
   aJ ((kI x.2.1.1 yv.2.1.1)) (
    aJ ((kI x.2.1.2.2.1 yv.2.1.2.2.1)) (
     ah (bV.call (x.2.1.2.1,yv.2.1.2.1)) fun x1=>
     k (cW.out x1)) (
     k (cW.out false))) (
    k (cW.out false))) (
   k (cW.out false)):=by kernel_rfl
theorem cW.ok:cW.Ok:=by
 rintro⟨⟨f1,⟨b1,s1,c1,u1⟩,v1⟩,⟨f2,⟨b2,s2,c2,u2⟩,v2⟩⟩ h
 have h:s1.length≤1000000000:=h
 rw[cW.eq,bV.run (d:=(s1,s2)) h,rM]
 simp only[aa,bV.add,bV.F,cW.add,cW.F]
 by_cases e1:f1=f2
 ·by_cases e2:b1=b2
  ·by_cases e3:c1=c2
   ·by_cases e4:s1=s2
    ·rw[aO e1,cl e2,cl e3,aO e4,aO (by rw[e1,e2,e3,e4])];rfl
    ·rw[aO e1,cl e2,cl e3,aM e4,aM (by rintro⟨⟩;exact e4 rfl)];rfl
   ·rw[aO e1,cl e2,eP e3,aM (p:=(f1,(b1,s1,c1,u1),v1)=(f2,(b2,s2,c2,u2),v2)) (by rintro⟨⟩;exact e3 rfl)];rfl
  ·rw[aO e1,eP e2,aM (p:=(f1,(b1,s1,c1,u1),v1)=(f2,(b2,s2,c2,u2),v2)) (by rintro⟨⟩;exact e2 rfl)];rfl
 ·rw[aM e1,aM (p:=(f1,(b1,s1,c1,u1),v1)=(f2,(b2,s2,c2,u2),v2)) (by rintro⟨⟩;exact e1 rfl)];rfl
noncomputable def cW.E:=Entry.cz [some eH,some eH] cW.st cW.aB cW.add cW.F cW.out
noncomputable def cW.call:cW.D→Option cW.X:=bH cW.E cW.st
theorem cW.run:bC cW.call cW.aB cW.add cW.F:=cQ (cP [.d eH,.d eH] fun _=>by kernel_rfl)
noncomputable def cW.sg:SG Tryz.prog:=⟨99,aU,cW.E,.fn 0 (by kernel_rfl) cW.ok trivial⟩
abbrev cX.D:=fU×fU
def cX.st:cX.D→SA:=fun(x,yv)=>([.d fk x,.d fk yv],[])
abbrev cX.Y:=Bool
abbrev cX.X:=Bool
def cX.out:cX.X→a9:=fun x=>⟨.d .bool x,[],[]⟩
def cX.add:cX.D→cX.Y→cX.X:=fun(x,yv) y=>y
def cX.aB:cX.D→Prop:=fun(x,z)=>x.1.length≤1000000000
def cX.F:cX.D→cX.Y:=fun(x,z)=>decide (x=z)
noncomputable def cX.G:dS:=eR (P:=Tryz.prog) [ej.sg]
noncomputable def cX.an:eA:= {}
noncomputable def cX.A:= @cJ Tryz.prog cX.G cX.an 0 Tryz.f101 _ cX.st
abbrev cX.Ok:=cK @cX.A cX.aB cX.add cX.F cX.out
theorem cX.eq{R:Type}(x:fU)(yv:fU)(k:a9→Option R):cX.A (x,yv) k=
  aJ ((kI x.2.1 yv.2.1)) (
   aJ ((kI x.2.2.1 yv.2.2.1)) (
    aJ ((kI x.2.2.2.1 yv.2.2.2.1)) (
     ah (ej.call (x.1,yv.1)) fun x1=>
     k (cX.out x1)) (
     k (cX.out false))) (
    k (cX.out false))) (
   k (cX.out false)):=by kernel_rfl
theorem cX.ok:cX.Ok:=by
 rintro⟨⟨k1,a1,d1,s1,u1⟩,⟨k2,a2,d2,s2,u2⟩⟩ h
 have h:k1.length≤1000000000:=h
 rw[cX.eq,ej.run (d:=(k1,k2)) h]
 simp only[aa,ej.add,ej.F,cX.add,cX.F]
 by_cases e1:k1=k2
 ·by_cases e2:a1=a2
  ·by_cases e3:d1=d2
   ·by_cases e4:s1=s2
    ·rw[aO e1,cl e2,cl e3,cl e4,aO (by rw[e1,e2,e3,e4])];rfl
    ·rw[cl e2,cl e3,eP e4,aM (p:=(k1,a1,d1,s1,u1)=(k2,a2,d2,s2,u2)) (by rintro⟨⟩;exact e4 rfl)];rfl
   ·rw[cl e2,eP e3,aM (p:=(k1,a1,d1,s1,u1)=(k2,a2,d2,s2,u2)) (by rintro⟨⟩;exact e3 rfl)];rfl
  ·rw[eP e2,aM (p:=(k1,a1,d1,s1,u1)=(k2,a2,d2,s2,u2)) (by rintro⟨⟩;exact e2 rfl)];rfl
 ·rw[aM e1,aM (p:=(k1,a1,d1,s1,u1)=(k2,a2,d2,s2,u2)) (by rintro⟨⟩;exact e1 rfl)]
  cases kI a1 a2 <;> cases kI d1 d2 <;> cases kI s1 s2 <;> rfl
noncomputable def cX.E:=Entry.cz [some fk,some fk] cX.st cX.aB cX.add cX.F cX.out
noncomputable def cX.call:cX.D→Option cX.X:=bH cX.E cX.st
theorem cX.run:bC cX.call cX.aB cX.add cX.F:=cQ (cP [.d fk,.d fk] fun _=>by kernel_rfl)
noncomputable def cX.sg:SG Tryz.prog:=⟨101,aU,cX.E,.fn 0 (by kernel_rfl) cX.ok trivial⟩
abbrev bn.L0.D:=(List fU)×(List fU)×Int×Int
def bn.L0.st:bn.L0.D→AS:=fun(s2_2,t15,t16,t17)=>⟨([.undef,.d (.slice fk) s2_2,.fn 101 (.nil)]++bg 12 ([.d (.slice fk) t15,.d ti t16,.d ti t17]++bg 14 [])),[],(List.replicate 32 [])⟩
abbrev bn.L0.Y0:=Unit
abbrev bn.L0.X0:=Unit
def bn.L0.bt:bn.L0.X0→Exit×AS:=fun x=>(.ret,⟨(bg 6 ([.d .bool false]++bg 25 [])),[],(List.replicate 32 [])⟩)
abbrev bn.L0.Y1:=Unit
abbrev bn.L0.X1:=Unit
def bn.L0.eS:bn.L0.X1→Exit×AS:=fun x=>(.exit 0,⟨(bg 32 []),[],(List.replicate 32 [])⟩)
abbrev bn.L0.X:=(bn.L0.X0)⊕(bn.L0.X1)
abbrev bn.L0.Y:=(bn.L0.Y0)⊕(bn.L0.Y1)
def bn.L0.out:bn.L0.X→Out (Exit×AS):=fun x=> .br x.isLeft (.get x.getLeft? fun a=> .ok (bn.L0.bt a)) (.get x.getRight? fun b=> .ok (bn.L0.eS b))
def bn.L0.add:bn.L0.D→bn.L0.Y→bn.L0.X:=fun(s2_2,t15,t16,t17) y=>match y with | .inl y=> .inl y | .inr z=> .inr (z)
abbrev bn.D:=(List fU)×(List fU)
def bn.st:bn.D→SA:=fun(s1,s2)=>([.d (.slice fk) s1,.d (.slice fk) s2,.fn 101 (.nil)],[])
abbrev bn.Y:=Bool
abbrev bn.X:=Bool
def bn.out:bn.X→a9:=fun x=>⟨.d .bool x,[],[]⟩
def bn.add:bn.D→bn.Y→bn.X:=fun(s1,s2) y=>y
def bn.L0.aB:bn.L0.D→Prop:=fun(b,a,m,i)=>(a.length≤1000000000∧∀x∈a,x.1.length≤1000000000)∧a.length=b.length∧m=a.length∧∃k:Nat,k≤a.length∧i=k
def bn.L0.F:bn.L0.D→bn.L0.Y:=fun(b,a,m,i)=>if a.drop i.toNat=b.drop i.toNat then .inr () else .inl ()
def bn.aB:bn.D→Prop:=fun(a,b)=>a.length≤1000000000∧∀x∈a,x.1.length≤1000000000
def bn.F:bn.D→bn.Y:=fun(a,b)=>decide (a=b)
noncomputable def bn.G:dS:=eR (P:=Tryz.prog) [cX.sg]
noncomputable def bn.L0.E:=bO.cz bn.L0.st bn.L0.aB bn.L0.add bn.L0.F bn.L0.out
noncomputable def bn.L0.call:bn.L0.D→Option bn.L0.X:=dk bn.L0.E bn.L0.st
noncomputable def bn.an:eA:= {loops:=jY [(4,{bm:=[1,2,15,16,17]})],outs:=jX [(4,{},{bm:=[6]})],fJ:=kF [(4,bn.L0.E)]}
noncomputable def bn.A:= @cJ Tryz.prog bn.G bn.an 0 Tryz.f66 _ bn.st
abbrev bn.Ok:=cK @bn.A bn.aB bn.add bn.F bn.out
noncomputable def bn.L0.R:= @cg Tryz.prog bn.G bn.an 0 Tryz.f66 0 _ bn.L0.st
abbrev bn.L0.Ok:=eB Tryz.prog bn.G bn.an 0 Tryz.f66 0 bn.L0.st bn.L0.aB bn.L0.add bn.L0.F bn.L0.out
theorem bn.L0.run:bC bn.L0.call bn.L0.aB bn.L0.add bn.L0.F:=eI (eD [.d (.slice fk),.d (.slice fk),.d ti,.d ti] fun _=>by kernel_rfl)
theorem bn.L0.aG:jt @bn.L0.R bn.L0.st bn.L0.aB bn.L0.add bn.L0.F bn.L0.out bn.L0.Ok:=jV
theorem bn.L0.step{R:Type}(s2_2:(List fU))(t15:(List fU))(t16:Int)(t17:Int)(kn:AS→Option R)(kx:Exit→AS→Option R):bn.L0.R (s2_2,t15,t16,t17) kn kx=
  aJ ((fZ t17 t16)) (
   aJ (ei t17 (((List.length t15):Nat):Int)) (
   aJ (ei t17 (((List.length s2_2):Nat):Int)) (
   ah (cX.call ((nth fk t15 (Int.toNat t17)),(nth fk s2_2 (Int.toNat t17)))) fun x1=>
   aJ ((!x1)) (
    kx (bn.L0.bt ()).1 (bn.L0.bt ()).2) (
    kn (bn.L0.st (s2_2,t15,t16,(bM .i64 t17 (1:Int)))))) none) none) (
   kx (bn.L0.eS ()).1 (bn.L0.eS ()).2):=by kernel_rfl
theorem bn.eq{R:Type}(s1:(List fU))(s2:(List fU))(k:a9→Option R):bn.A (s1,s2) k=
  aJ ((jw (((List.length s1):Nat):Int) (((List.length s2):Nat):Int))) (
   k (bn.out false)) (
   ah (bn.L0.call (s2,s1,(((List.length s1):Nat):Int),(0:Int))) fun x2=>
   aJ (x2.isLeft) (
    ah (x2.getLeft?) fun a3=>
    k (bn.out false)) (
    ah (x2.getRight?) fun b4=>
    k (bn.out true))):=by kernel_rfl
theorem bn.L0.ok:bn.L0.Ok:=by
 refine bn.L0.aG (fun(b,a,m,i)=>a.length - i.toNat) ?_
 rintro⟨b,a,m,i⟩ ⟨⟨hl,he⟩,hab,rfl,k,hk,rfl⟩
 have hl:a.length≤1000000000:=hl
 have hab:a.length=b.length:=hab
 have hk:k≤a.length:=hk
 by_cases h:k < a.length
 ·have h2:k < b.length:=by omega
  have n1:nth fk a k=a[k]:=cC (t:=fk) h
  have n2:nth fk b k=b[k]:=cC (t:=fk) h2
  have hd:(a.drop k=b.drop k)=(a[k]=b[k]∧a.drop (k+1)=b.drop (k+1)):=by rw[List.drop_eq_getElem_cons h,List.drop_eq_getElem_cons h2,List.cons.injEq]
  have step:∀ {R:Type} (kn:AS→Option R) (kx:Exit→AS→Option R),bn.L0.R (b,a,(a.length:Int),(k:Int)) kn kx=if a[k]=b[k] then kn (bn.L0.st (b,a,(a.length:Int),((k+1:Nat):Int))) else kx (bn.L0.bt ()).1 (bn.L0.bt ()).2:=by
   intro R kn kx
   rw[bn.L0.step,bu (by omega),bo (by omega) (by omega),bo (by omega) (by omega),Int.toNat_natCast,n1,n2,N.kM (by omega),cX.run (d:=(a[k],b[k])) (he _ (List.getElem_mem h))]
   simp only[av,aa,cX.add,cX.F]
   by_cases hx:a[k]=b[k]
   ·rw[aO hx,if_pos hx];rfl
   ·rw[aM hx,if_neg hx];rfl
  by_cases hx:a[k]=b[k]
  ·left
   refine⟨(b,a,(a.length:Int),((k+1:Nat):Int)),⟨⟨hl,he⟩,hab,rfl,k+1,by omega,rfl⟩,by simp only[Int.toNat_natCast];omega,?_,fun kn kx=> ?_⟩
   ·simp only[bn.L0.add,bn.L0.F,Int.toNat_natCast,hd,hx,true_and]
   ·rw[step,if_pos hx]
  ·right
   refine⟨bn.L0.bt (),?_,fun kn kx=> ?_⟩
   ·simp only[bn.L0.add,bn.L0.F,Int.toNat_natCast,hd,hx,false_and,if_false]
    rfl
   ·rw[step,if_neg hx]
 ·right
  obtain rfl:k=a.length:=by omega
  refine⟨bn.L0.eS (),?_,fun kn kx=> ?_⟩
  ·simp only[bn.L0.add,bn.L0.F,Int.toNat_natCast,List.drop_length]
   rw[hab,List.drop_length,if_pos rfl]
   rfl
  ·rw[bn.L0.step,bj (by omega),ay]
theorem bn.ok:bn.Ok:=by
 rintro⟨a,b⟩ hl
 have hl1:a.length≤1000000000:=hl.1
 rw[bn.eq]
 simp only[bn.add,bn.F]
 by_cases h:a.length=b.length
 ·rw[bR (by omega),ay,bn.L0.run (d:=(b,a,(a.length:Int),0)) ⟨hl,h,rfl,0,Nat.zero_le _,rfl⟩]
  simp only[aa,bn.L0.add,bn.L0.F,Int.toNat_zero,List.drop_zero]
  by_cases hx:a=b
  ·rw[if_pos hx,aO hx];rfl
  ·rw[if_neg hx,aM hx];rfl
 ·rw[dA (by omega),aM (fun x=>h (by rw[x]))];rfl
noncomputable def bn.E:=Entry.cz [some (.slice fk),some (.slice fk),none] bn.st bn.aB bn.add bn.F bn.out
noncomputable def bn.call:bn.D→Option bn.X:=bH bn.E bn.st
theorem bn.run:bC bn.call bn.aB bn.add bn.F:=cQ (cP [.d (.slice fk),.d (.slice fk)] fun _=>by kernel_rfl)
noncomputable def bn.sg:SG Tryz.prog:=⟨66,aU,bn.E,.fn 1 (by kernel_rfl) bn.ok (And.intro (.cz bn.L0.ok (by kernel_rfl)) trivial)⟩
abbrev de.D:=gh×gh
def de.st:de.D→SA:=fun(x,yv)=>([.d eU x,.d eU yv,.ptr (.fG 0) 0 [] 0],[.obj 0 false (.fn 101 (.nil))])
abbrev de.Y:=Bool
abbrev de.X:=Bool
def de.out:de.X→a9:=fun x=>⟨.d .bool x,[.obj 0 false (.fn 101 (.nil))],[]⟩
def de.add:de.D→de.Y→de.X:=fun(x,yv) y=>y
def de.aB:de.D→Prop:=fun(x,y)=>x.2.1.1.length≤1000000000∧∀b∈x.2.1.1,b.1.length≤1000000000
def de.F:de.D→de.Y:=fun(x,y)=>decide (x=y)
noncomputable def de.G:dS:=eR (P:=Tryz.prog) [bn.sg]
noncomputable def de.an:eA:= {}
noncomputable def de.A:= @cJ Tryz.prog de.G de.an 0 Tryz.f102 _ de.st
abbrev de.Ok:=cK @de.A de.aB de.add de.F de.out
theorem de.eq{R:Type}(x:gh)(yv:gh)(k:a9→Option R):de.A (x,yv) k=
  aJ ((kI x.1 yv.1)) (
   ah (bn.call (x.2.1.1,yv.2.1.1)) fun x1=>
   k (de.out x1)) (
   k (de.out false)):=by kernel_rfl
theorem de.ok:de.Ok:=by
 rintro⟨⟨n1,⟨b1,w1⟩,u1⟩,⟨n2,⟨b2,w2⟩,u2⟩⟩ h
 rw[de.eq,bn.run (d:=(b1,b2)) h]
 simp only[aa,bn.add,bn.F,de.add,de.F]
 by_cases e1:n1=n2
 ·by_cases e2:b1=b2
  ·rw[cl e1,aO e2,aO (by rw[e1,e2])];rfl
  ·rw[cl e1,aM e2,aM (by rintro⟨⟩;exact e2 rfl)];rfl
 ·rw[eP e1,aM (p:=(n1,(b1,w1),u1)=(n2,(b2,w2),u2)) (by rintro⟨⟩;exact e1 rfl)];rfl
noncomputable def de.E:=Entry.cz [some eU,some eU,none] de.st de.aB de.add de.F de.out
noncomputable def de.call:de.D→Option de.X:=bH de.E de.st
theorem de.run:bC de.call de.aB de.add de.F:=cQ (cP [.d eU,.d eU] fun _=>by kernel_rfl)
noncomputable def de.sg:SG Tryz.prog:=⟨102,aU,de.E,.fn 0 (by kernel_rfl) de.ok trivial⟩
abbrev bU.L0.D:=(List fD)×(List fD)×Int×Int
def bU.L0.st:bU.L0.D→AS:=fun(s2_2,t15,t16,t17)=>⟨([.undef,.d (.slice eH) s2_2,.fn 99 (.nil)]++bg 12 ([.d (.slice eH) t15,.d ti t16,.d ti t17]++bg 14 [])),[],(List.replicate 32 [])⟩
abbrev bU.L0.Y0:=Unit
abbrev bU.L0.X0:=Unit
def bU.L0.bt:bU.L0.X0→Exit×AS:=fun x=>(.ret,⟨(bg 6 ([.d .bool false]++bg 25 [])),[],(List.replicate 32 [])⟩)
abbrev bU.L0.Y1:=Unit
abbrev bU.L0.X1:=Unit
def bU.L0.eS:bU.L0.X1→Exit×AS:=fun x=>(.exit 0,⟨(bg 32 []),[],(List.replicate 32 [])⟩)
abbrev bU.L0.X:=(bU.L0.X0)⊕(bU.L0.X1)
abbrev bU.L0.Y:=(bU.L0.Y0)⊕(bU.L0.Y1)
def bU.L0.out:bU.L0.X→Out (Exit×AS):=fun x=> .br x.isLeft (.get x.getLeft? fun a=> .ok (bU.L0.bt a)) (.get x.getRight? fun b=> .ok (bU.L0.eS b))
def bU.L0.add:bU.L0.D→bU.L0.Y→bU.L0.X:=fun(s2_2,t15,t16,t17) y=>match y with | .inl y=> .inl y | .inr z=> .inr (z)
abbrev bU.D:=(List fD)×(List fD)
def bU.st:bU.D→SA:=fun(s1,s2)=>([.d (.slice eH) s1,.d (.slice eH) s2,.fn 99 (.nil)],[])
abbrev bU.Y:=Bool
abbrev bU.X:=Bool
def bU.out:bU.X→a9:=fun x=>⟨.d .bool x,[],[]⟩
def bU.add:bU.D→bU.Y→bU.X:=fun(s1,s2) y=>y
def bU.L0.aB:bU.L0.D→Prop:=fun(b,a,m,i)=>(a.length≤1000000000∧∀x∈a,x.2.1.2.1.length≤1000000000)∧a.length=b.length∧m=a.length∧∃k:Nat,k≤a.length∧i=k
def bU.L0.F:bU.L0.D→bU.L0.Y:=fun(b,a,m,i)=>if a.drop i.toNat=b.drop i.toNat then .inr () else .inl ()
def bU.aB:bU.D→Prop:=fun(a,b)=>a.length≤1000000000∧∀x∈a,x.2.1.2.1.length≤1000000000
def bU.F:bU.D→bU.Y:=fun(a,b)=>decide (a=b)
noncomputable def bU.G:dS:=eR (P:=Tryz.prog) [cW.sg]
noncomputable def bU.L0.E:=bO.cz bU.L0.st bU.L0.aB bU.L0.add bU.L0.F bU.L0.out
noncomputable def bU.L0.call:bU.L0.D→Option bU.L0.X:=dk bU.L0.E bU.L0.st
noncomputable def bU.an:eA:= {loops:=jY [(4,{bm:=[1,2,15,16,17]})],outs:=jX [(4,{},{bm:=[6]})],fJ:=kF [(4,bU.L0.E)]}
noncomputable def bU.A:= @cJ Tryz.prog bU.G bU.an 0 Tryz.f103 _ bU.st
abbrev bU.Ok:=cK @bU.A bU.aB bU.add bU.F bU.out
noncomputable def bU.L0.R:= @cg Tryz.prog bU.G bU.an 0 Tryz.f103 0 _ bU.L0.st
abbrev bU.L0.Ok:=eB Tryz.prog bU.G bU.an 0 Tryz.f103 0 bU.L0.st bU.L0.aB bU.L0.add bU.L0.F bU.L0.out
theorem bU.L0.run:bC bU.L0.call bU.L0.aB bU.L0.add bU.L0.F:=eI (eD [.d (.slice eH),.d (.slice eH),.d ti,.d ti] fun _=>by kernel_rfl)
theorem bU.L0.aG:jt @bU.L0.R bU.L0.st bU.L0.aB bU.L0.add bU.L0.F bU.L0.out bU.L0.Ok:=jV
theorem bU.L0.step{R:Type}(s2_2:(List fD))(t15:(List fD))(t16:Int)(t17:Int)(kn:AS→Option R)(kx:Exit→AS→Option R):bU.L0.R (s2_2,t15,t16,t17) kn kx=
  aJ ((fZ t17 t16)) (
   aJ (ei t17 (((List.length t15):Nat):Int)) (
   aJ (ei t17 (((List.length s2_2):Nat):Int)) (
   ah (cW.call ((nth eH t15 (Int.toNat t17)),(nth eH s2_2 (Int.toNat t17)))) fun x1=>
   aJ ((!x1)) (
    kx (bU.L0.bt ()).1 (bU.L0.bt ()).2) (
    kn (bU.L0.st (s2_2,t15,t16,(bM .i64 t17 (1:Int)))))) none) none) (
   kx (bU.L0.eS ()).1 (bU.L0.eS ()).2):=by kernel_rfl
theorem bU.eq{R:Type}(s1:(List fD))(s2:(List fD))(k:a9→Option R):bU.A (s1,s2) k=
  aJ ((jw (((List.length s1):Nat):Int) (((List.length s2):Nat):Int))) (
   k (bU.out false)) (
   ah (bU.L0.call (s2,s1,(((List.length s1):Nat):Int),(0:Int))) fun x2=>
   aJ (x2.isLeft) (
    ah (x2.getLeft?) fun a3=>
    k (bU.out false)) (
    ah (x2.getRight?) fun b4=>
    k (bU.out true))):=by kernel_rfl
theorem bU.L0.ok:bU.L0.Ok:=by
 refine bU.L0.aG (fun(b,a,m,i)=>a.length - i.toNat) ?_
 rintro⟨b,a,m,i⟩ ⟨⟨hl,he⟩,hab,rfl,k,hk,rfl⟩
 have hl:a.length≤1000000000:=hl
 have hab:a.length=b.length:=hab
 have hk:k≤a.length:=hk
 by_cases h:k < a.length
 ·have h2:k < b.length:=by omega
  have n1:nth eH a k=a[k]:=cC (t:=eH) h
  have n2:nth eH b k=b[k]:=cC (t:=eH) h2
  have hd:(a.drop k=b.drop k)=(a[k]=b[k]∧a.drop (k+1)=b.drop (k+1)):=by rw[List.drop_eq_getElem_cons h,List.drop_eq_getElem_cons h2,List.cons.injEq]
  have step:∀ {R:Type} (kn:AS→Option R) (kx:Exit→AS→Option R),bU.L0.R (b,a,(a.length:Int),(k:Int)) kn kx=if a[k]=b[k] then kn (bU.L0.st (b,a,(a.length:Int),((k+1:Nat):Int))) else kx (bU.L0.bt ()).1 (bU.L0.bt ()).2:=by
   intro R kn kx
   rw[bU.L0.step,bu (by omega),bo (by omega) (by omega),bo (by omega) (by omega),Int.toNat_natCast,n1,n2,N.kM (by omega),cW.run (d:=(a[k],b[k])) (he _ (List.getElem_mem h))]
   simp only[av,aa,cW.add,cW.F]
   by_cases hx:a[k]=b[k]
   ·rw[aO hx,if_pos hx];rfl
   ·rw[aM hx,if_neg hx];rfl
  by_cases hx:a[k]=b[k]
  ·left
   refine⟨(b,a,(a.length:Int),((k+1:Nat):Int)),⟨⟨hl,he⟩,hab,rfl,k+1,by omega,rfl⟩,by simp only[Int.toNat_natCast];omega,?_,fun kn kx=> ?_⟩
   ·simp only[bU.L0.add,bU.L0.F,Int.toNat_natCast,hd,hx,true_and]
   ·rw[step,if_pos hx]
  ·right
   refine⟨bU.L0.bt (),?_,fun kn kx=> ?_⟩
   ·simp only[bU.L0.add,bU.L0.F,Int.toNat_natCast,hd,hx,false_and,if_false]
    rfl
   ·rw[step,if_neg hx]
 ·right
  obtain rfl:k=a.length:=by omega
  refine⟨bU.L0.eS (),?_,fun kn kx=> ?_⟩
  ·simp only[bU.L0.add,bU.L0.F,Int.toNat_natCast,List.drop_length]
   rw[hab,List.drop_length,if_pos rfl]
   rfl
  ·rw[bU.L0.step,bj (by omega),ay]
theorem bU.ok:bU.Ok:=by
 rintro⟨a,b⟩ hl
 have hl1:a.length≤1000000000:=hl.1
 rw[bU.eq]
 simp only[bU.add,bU.F]
 by_cases h:a.length=b.length
 ·rw[bR (by omega),ay,bU.L0.run (d:=(b,a,(a.length:Int),0)) ⟨hl,h,rfl,0,Nat.zero_le _,rfl⟩]
  simp only[aa,bU.L0.add,bU.L0.F,Int.toNat_zero,List.drop_zero]
  by_cases hx:a=b
  ·rw[if_pos hx,aO hx];rfl
  ·rw[if_neg hx,aM hx];rfl
 ·rw[dA (by omega),aM (fun x=>h (by rw[x]))];rfl
noncomputable def bU.E:=Entry.cz [some (.slice eH),some (.slice eH),none] bU.st bU.aB bU.add bU.F bU.out
noncomputable def bU.call:bU.D→Option bU.X:=bH bU.E bU.st
theorem bU.run:bC bU.call bU.aB bU.add bU.F:=cQ (cP [.d (.slice eH),.d (.slice eH)] fun _=>by kernel_rfl)
noncomputable def bU.sg:SG Tryz.prog:=⟨103,aU,bU.E,.fn 1 (by kernel_rfl) bU.ok (And.intro (.cz bU.L0.ok (by kernel_rfl)) trivial)⟩
abbrev bp.L0.D:=(List gh)×(List gh)×Int×Int
def bp.L0.st:bp.L0.D→AS:=fun(s2_2,t15,t16,t17)=>⟨([.undef,.d (.slice eU) s2_2,.fn 102 (.cons (.ptr (.fG 0) 0 [] 0) (.nil))]++bg 12 ([.d (.slice eU) t15,.d ti t16,.d ti t17]++bg 14 [])),[.obj 0 false (.fn 101 (.nil))],(List.replicate 32 [])⟩
abbrev bp.L0.Y0:=Unit
abbrev bp.L0.X0:=Unit
def bp.L0.bt:bp.L0.X0→Exit×AS:=fun x=>(.ret,⟨(bg 6 ([.d .bool false]++bg 25 [])),[.obj 0 false (.fn 101 (.nil))],(List.replicate 32 [])⟩)
abbrev bp.L0.Y1:=Unit
abbrev bp.L0.X1:=Unit
def bp.L0.eS:bp.L0.X1→Exit×AS:=fun x=>(.exit 0,⟨(bg 32 []),[.obj 0 false (.fn 101 (.nil))],(List.replicate 32 [])⟩)
abbrev bp.L0.X:=(bp.L0.X0)⊕(bp.L0.X1)
abbrev bp.L0.Y:=(bp.L0.Y0)⊕(bp.L0.Y1)
def bp.L0.out:bp.L0.X→Out (Exit×AS):=fun x=> .br x.isLeft (.get x.getLeft? fun a=> .ok (bp.L0.bt a)) (.get x.getRight? fun b=> .ok (bp.L0.eS b))
def bp.L0.add:bp.L0.D→bp.L0.Y→bp.L0.X:=fun(s2_2,t15,t16,t17) y=>match y with | .inl y=> .inl y | .inr z=> .inr (z)
abbrev bp.D:=(List gh)×(List gh)
def bp.st:bp.D→SA:=fun(s1,s2)=>([.d (.slice eU) s1,.d (.slice eU) s2,.fn 102 (.cons (.ptr (.fG 0) 0 [] 0) (.nil))],[.obj 0 false (.fn 101 (.nil))])
abbrev bp.Y:=Bool
abbrev bp.X:=Bool
def bp.out:bp.X→a9:=fun x=>⟨.d .bool x,[.obj 0 false (.fn 101 (.nil))],[]⟩
def bp.add:bp.D→bp.Y→bp.X:=fun(s1,s2) y=>y
def bp.L0.aB:bp.L0.D→Prop:=fun(b,a,m,i)=>(a.length≤1000000000∧∀x∈a,x.2.1.1.length≤1000000000∧∀b∈x.2.1.1,b.1.length≤1000000000)∧a.length=b.length∧m=a.length∧∃k:Nat,k≤a.length∧i=k
def bp.L0.F:bp.L0.D→bp.L0.Y:=fun(b,a,m,i)=>if a.drop i.toNat=b.drop i.toNat then .inr () else .inl ()
def bp.aB:bp.D→Prop:=fun(a,b)=>a.length≤1000000000∧∀x∈a,x.2.1.1.length≤1000000000∧∀b∈x.2.1.1,b.1.length≤1000000000
def bp.F:bp.D→bp.Y:=fun(a,b)=>decide (a=b)
noncomputable def bp.G:dS:=eR (P:=Tryz.prog) [de.sg]
noncomputable def bp.L0.E:=bO.cz bp.L0.st bp.L0.aB bp.L0.add bp.L0.F bp.L0.out
noncomputable def bp.L0.call:bp.L0.D→Option bp.L0.X:=dk bp.L0.E bp.L0.st
noncomputable def bp.an:eA:= {loops:=jY [(4,{bm:=[1,2,15,16,17]})],outs:=jX [(4,{},{bm:=[6]})],fJ:=kF [(4,bp.L0.E)]}
noncomputable def bp.A:= @cJ Tryz.prog bp.G bp.an 0 Tryz.f104 _ bp.st
abbrev bp.Ok:=cK @bp.A bp.aB bp.add bp.F bp.out
noncomputable def bp.L0.R:= @cg Tryz.prog bp.G bp.an 0 Tryz.f104 0 _ bp.L0.st
abbrev bp.L0.Ok:=eB Tryz.prog bp.G bp.an 0 Tryz.f104 0 bp.L0.st bp.L0.aB bp.L0.add bp.L0.F bp.L0.out
theorem bp.L0.run:bC bp.L0.call bp.L0.aB bp.L0.add bp.L0.F:=eI (eD [.d (.slice eU),.d (.slice eU),.d ti,.d ti] fun _=>by kernel_rfl)
theorem bp.L0.aG:jt @bp.L0.R bp.L0.st bp.L0.aB bp.L0.add bp.L0.F bp.L0.out bp.L0.Ok:=jV
theorem bp.L0.step{R:Type}(s2_2:(List gh))(t15:(List gh))(t16:Int)(t17:Int)(kn:AS→Option R)(kx:Exit→AS→Option R):bp.L0.R (s2_2,t15,t16,t17) kn kx=
  aJ ((fZ t17 t16)) (
   aJ (ei t17 (((List.length t15):Nat):Int)) (
   aJ (ei t17 (((List.length s2_2):Nat):Int)) (
   ah (de.call ((nth eU t15 (Int.toNat t17)),(nth eU s2_2 (Int.toNat t17)))) fun x1=>
   aJ ((!x1)) (
    kx (bp.L0.bt ()).1 (bp.L0.bt ()).2) (
    kn (bp.L0.st (s2_2,t15,t16,(bM .i64 t17 (1:Int)))))) none) none) (
   kx (bp.L0.eS ()).1 (bp.L0.eS ()).2):=by kernel_rfl
theorem bp.eq{R:Type}(s1:(List gh))(s2:(List gh))(k:a9→Option R):bp.A (s1,s2) k=
  aJ ((jw (((List.length s1):Nat):Int) (((List.length s2):Nat):Int))) (
   k (bp.out false)) (
   ah (bp.L0.call (s2,s1,(((List.length s1):Nat):Int),(0:Int))) fun x2=>
   aJ (x2.isLeft) (
    ah (x2.getLeft?) fun a3=>
    k (bp.out false)) (
    ah (x2.getRight?) fun b4=>
    k (bp.out true))):=by kernel_rfl
theorem bp.L0.ok:bp.L0.Ok:=by
 refine bp.L0.aG (fun(b,a,m,i)=>a.length - i.toNat) ?_
 rintro⟨b,a,m,i⟩ ⟨⟨hl,he⟩,hab,rfl,k,hk,rfl⟩
 have hl:a.length≤1000000000:=hl
 have hab:a.length=b.length:=hab
 have hk:k≤a.length:=hk
 by_cases h:k < a.length
 ·have h2:k < b.length:=by omega
  have n1:nth eU a k=a[k]:=cC (t:=eU) h
  have n2:nth eU b k=b[k]:=cC (t:=eU) h2
  have hd:(a.drop k=b.drop k)=(a[k]=b[k]∧a.drop (k+1)=b.drop (k+1)):=by rw[List.drop_eq_getElem_cons h,List.drop_eq_getElem_cons h2,List.cons.injEq]
  have step:∀ {R:Type} (kn:AS→Option R) (kx:Exit→AS→Option R),bp.L0.R (b,a,(a.length:Int),(k:Int)) kn kx=if a[k]=b[k] then kn (bp.L0.st (b,a,(a.length:Int),((k+1:Nat):Int))) else kx (bp.L0.bt ()).1 (bp.L0.bt ()).2:=by
   intro R kn kx
   rw[bp.L0.step,bu (by omega),bo (by omega) (by omega),bo (by omega) (by omega),Int.toNat_natCast,n1,n2,N.kM (by omega),de.run (d:=(a[k],b[k])) (he _ (List.getElem_mem h))]
   simp only[av,aa,de.add,de.F]
   by_cases hx:a[k]=b[k]
   ·rw[aO hx,if_pos hx];rfl
   ·rw[aM hx,if_neg hx];rfl
  by_cases hx:a[k]=b[k]
  ·left
   refine⟨(b,a,(a.length:Int),((k+1:Nat):Int)),⟨⟨hl,he⟩,hab,rfl,k+1,by omega,rfl⟩,by simp only[Int.toNat_natCast];omega,?_,fun kn kx=> ?_⟩
   ·simp only[bp.L0.add,bp.L0.F,Int.toNat_natCast,hd,hx,true_and]
   ·rw[step,if_pos hx]
  ·right
   refine⟨bp.L0.bt (),?_,fun kn kx=> ?_⟩
   ·simp only[bp.L0.add,bp.L0.F,Int.toNat_natCast,hd,hx,false_and,if_false]
    rfl
   ·rw[step,if_neg hx]
 ·right
  obtain rfl:k=a.length:=by omega
  refine⟨bp.L0.eS (),?_,fun kn kx=> ?_⟩
  ·simp only[bp.L0.add,bp.L0.F,Int.toNat_natCast,List.drop_length]
   rw[hab,List.drop_length,if_pos rfl]
   rfl
  ·rw[bp.L0.step,bj (by omega),ay]
theorem bp.ok:bp.Ok:=by
 rintro⟨a,b⟩ hl
 have hl1:a.length≤1000000000:=hl.1
 rw[bp.eq]
 simp only[bp.add,bp.F]
 by_cases h:a.length=b.length
 ·rw[bR (by omega),ay,bp.L0.run (d:=(b,a,(a.length:Int),0)) ⟨hl,h,rfl,0,Nat.zero_le _,rfl⟩]
  simp only[aa,bp.L0.add,bp.L0.F,Int.toNat_zero,List.drop_zero]
  by_cases hx:a=b
  ·rw[if_pos hx,aO hx];rfl
  ·rw[if_neg hx,aM hx];rfl
 ·rw[dA (by omega),aM (fun x=>h (by rw[x]))];rfl
noncomputable def bp.E:=Entry.cz [some (.slice eU),some (.slice eU),none] bp.st bp.aB bp.add bp.F bp.out
noncomputable def bp.call:bp.D→Option bp.X:=bH bp.E bp.st
theorem bp.run:bC bp.call bp.aB bp.add bp.F:=cQ (cP [.d (.slice eU),.d (.slice eU)] fun _=>by kernel_rfl)
noncomputable def bp.sg:SG Tryz.prog:=⟨104,aU,bp.E,.fn 1 (by kernel_rfl) bp.ok (And.intro (.cz bp.L0.ok (by kernel_rfl)) trivial)⟩
def qe(t:fb):Prop:=(t.1.length≤1000000000∧∀x∈t.1,x.2.1.2.1.length≤1000000000)∧t.2.1.length≤1000000000∧∀x∈t.2.1,x.2.1.1.length≤1000000000∧∀b∈x.2.1.1,b.1.length≤1000000000
abbrev dx.D:=fb×fb
def dx.st:dx.D→SA:=fun(a,b)=>([.d gg a,.d gg b],[])
abbrev dx.Y:=Bool
abbrev dx.X:=Bool
def dx.out:dx.X→a9:=fun x=>⟨.d .bool x,[],[]⟩
def dx.add:dx.D→dx.Y→dx.X:=fun(a,b) y=>y
def dx.aB:dx.D→Prop:=fun(a,b)=>qe a
def dx.F:dx.D→dx.Y:=fun(a,b)=>decide (a=b)
noncomputable def dx.G:dS:=eR (P:=Tryz.prog) [bU.sg,bp.sg]
noncomputable def dx.an:eA:= {}
noncomputable def dx.A:= @cJ Tryz.prog dx.G dx.an 0 Tryz.f42 _ dx.st
abbrev dx.Ok:=cK @dx.A dx.aB dx.add dx.F dx.out
theorem dx.eq{R:Type}(a:fb)(b:fb)(k:a9→Option R):dx.A (a,b) k=
  aJ ((kI a.2.2.1 b.2.2.1)) (
   ah (bU.call (a.1,b.1)) fun x1=>
   aJ (x1) (
    ah (bp.call (a.2.1,b.2.1)) fun x2=>
    k (dx.out x2)) (
    k (dx.out false))) (
   k (dx.out false)):=by kernel_rfl
theorem dx.ok:dx.Ok:=by
 rintro⟨⟨i1,o1,n1,u1⟩,⟨i2,o2,n2,u2⟩⟩ h
 have h:qe (i1,o1,n1,u1):=h
 rw[dx.eq,bU.run (d:=(i1,i2)) h.1,bp.run (d:=(o1,o2)) h.2]
 simp only[aa,bU.add,bU.F,bp.add,bp.F,dx.add,dx.F]
 by_cases e1:n1=n2
 ·by_cases e2:i1=i2
  ·by_cases e3:o1=o2
   ·rw[cl e1,aO e2,aO e3,aO (by rw[e1,e2,e3])];rfl
   ·rw[cl e1,aO e2,aM e3,aM (by rintro⟨⟩;exact e3 rfl)];rfl
  ·rw[cl e1,aM e2,aM (p:=(i1,o1,n1,u1)=(i2,o2,n2,u2)) (by rintro⟨⟩;exact e2 rfl)];rfl
 ·rw[eP e1,aM (p:=(i1,o1,n1,u1)=(i2,o2,n2,u2)) (by rintro⟨⟩;exact e1 rfl)];rfl
noncomputable def dx.E:=Entry.cz [some gg,some gg] dx.st dx.aB dx.add dx.F dx.out
noncomputable def dx.call:dx.D→Option dx.X:=bH dx.E dx.st
theorem dx.run:bC dx.call dx.aB dx.add dx.F:=cQ (cP [.d gg,.d gg] fun _=>by kernel_rfl)
noncomputable def dx.sg:SG Tryz.prog:=⟨42,aU,dx.E,.fn 0 (by kernel_rfl) dx.ok trivial⟩
set_option synthInstance.maxSize 5000
def jR(x:fD):Bool:=decide (x.2.1.2.1.length≤14)
def jQ(b:fU):Bool:=decide (b.1.length≤14)
def iA(o:gh):Bool:=decide (o.2.1.1.length≤6) && o.2.1.1.all jQ
def qF(t:fb):Bool:=decide (t.1.length≤66∧t.2.1.length≤66) && (t.1.all jR && t.2.1.all iA)
abbrev ab.L0.D:=fb×Int
def ab.L0.st:ab.L0.D→AS:=fun(t_2,i)=>⟨([.undef,.eG gg t_2,.undef,.d ti i]++bg 69 []),[],(List.replicate 73 [])⟩
abbrev ab.L0.Y0:=Unit
abbrev ab.L0.X0:=Unit
def ab.L0.bt:ab.L0.X0→Exit×AS:=fun x=>(.ret,⟨([.undef,.undef,.d .bool false]++bg 70 []),[],(List.replicate 73 [])⟩)
abbrev ab.L0.Y1:=Unit
abbrev ab.L0.X1:=fb
def ab.L0.eS:ab.L0.X1→Exit×AS:=fun x=>(.exit 0,⟨([.undef,.eG gg x]++bg 71 []),[],(List.replicate 73 [])⟩)
abbrev ab.L0.X:=(ab.L0.X0)⊕(ab.L0.X1)
abbrev ab.L0.Y:=(ab.L0.Y0)⊕(ab.L0.Y1)
def ab.L0.out:ab.L0.X→Out (Exit×AS):=fun x=> .br x.isLeft (.get x.getLeft? fun a=> .ok (ab.L0.bt a)) (.get x.getRight? fun b=> .ok (ab.L0.eS b))
def ab.L0.add:ab.L0.D→ab.L0.Y→ab.L0.X:=fun(t_2,i) y=>match y with | .inl y=> .inl y | .inr z=> .inr (t_2)
abbrev ab.L1.D:=fb×Int
def ab.L1.st:ab.L1.D→AS:=fun(t_3,i_2)=>⟨([.undef,.eG gg t_3,.undef,.undef,.d ti i_2]++bg 68 []),[],(List.replicate 73 [])⟩
abbrev ab.L1.Y0:=Unit
abbrev ab.L1.X0:=Unit
def ab.L1.bt:ab.L1.X0→Exit×AS:=fun x=>(.ret,⟨([.undef,.undef,.d .bool false]++bg 70 []),[],(List.replicate 73 [])⟩)
abbrev ab.L1.Y1:=Unit
abbrev ab.L1.X1:=Unit
def ab.L1.eS:ab.L1.X1→Exit×AS:=fun x=>(.exit 2,⟨(bg 73 []),[],(List.replicate 73 [])⟩)
abbrev ab.L1.X:=(ab.L1.X0)⊕(ab.L1.X1)
abbrev ab.L1.Y:=(ab.L1.Y0)⊕(ab.L1.Y1)
def ab.L1.out:ab.L1.X→Out (Exit×AS):=fun x=> .br x.isLeft (.get x.getLeft? fun a=> .ok (ab.L1.bt a)) (.get x.getRight? fun b=> .ok (ab.L1.eS b))
def ab.L1.add:ab.L1.D→ab.L1.Y→ab.L1.X:=fun(t_3,i_2) y=>match y with | .inl y=> .inl y | .inr z=> .inr (z)
abbrev ab.L2.D:=fb×Int×Int
def ab.L2.st:ab.L2.D→AS:=fun(t_4,i_3,kv)=>⟨([.undef,.eG gg t_4,.undef,.undef,.d ti i_3,.d ti kv]++bg 67 []),[],(List.replicate 73 [])⟩
abbrev ab.L2.Y0:=Unit
abbrev ab.L2.X0:=Unit
def ab.L2.bt:ab.L2.X0→Exit×AS:=fun x=>(.ret,⟨([.undef,.undef,.d .bool false]++bg 70 []),[],(List.replicate 73 [])⟩)
abbrev ab.L2.Y1:=Unit
abbrev ab.L2.X1:=fb×Int
def ab.L2.eS:ab.L2.X1→Exit×AS:=fun x=>(.exit 4,⟨([.undef,.eG gg x.1,.undef,.undef,.d ti x.2]++bg 68 []),[],(List.replicate 73 [])⟩)
abbrev ab.L2.X:=(ab.L2.X0)⊕(ab.L2.X1)
abbrev ab.L2.Y:=(ab.L2.Y0)⊕(ab.L2.Y1)
def ab.L2.out:ab.L2.X→Out (Exit×AS):=fun x=> .br x.isLeft (.get x.getLeft? fun a=> .ok (ab.L2.bt a)) (.get x.getRight? fun b=> .ok (ab.L2.eS b))
def ab.L2.add:ab.L2.D→ab.L2.Y→ab.L2.X:=fun(t_4,i_3,kv) y=>match y with | .inl y=> .inl y | .inr z=> .inr ((t_4,i_3))
abbrev ab.D:=fb
def ab.st:ab.D→SA:=fun t=>([.d gg t],[])
abbrev ab.Y:=Bool
abbrev ab.X:=Bool
def ab.out:ab.X→a9:=fun x=>⟨.d .bool x,[],[]⟩
def ab.add:ab.D→ab.Y→ab.X:=fun t y=>y
def ab.L0.aB:ab.L0.D→Prop:=fun(t,i)=>t.1.length≤1000000000∧∃k:Nat,k≤t.1.length∧i=k
def ab.L0.F:ab.L0.D→ab.L0.Y:=fun(t,i)=>if(List.drop (Int.toNat i) t.1).all jR then .inr () else .inl ()
def ab.L2.aB:ab.L2.D→Prop:=fun(t,j,i)=>(nth eU t.2.1 (Int.toNat j)).2.1.1.length≤1000000000∧∃k:Nat,k≤(nth eU t.2.1 (Int.toNat j)).2.1.1.length∧i=k∧(0≤j∧j < (t.2.1.length:Int))
def ab.L2.F:ab.L2.D→ab.L2.Y:=fun(t,j,i)=>if(List.drop (Int.toNat i) (nth eU t.2.1 (Int.toNat j)).2.1.1).all jQ then .inr () else .inl ()
def ab.L1.aB:ab.L1.D→Prop:=fun(t,i)=>t.2.1.length≤1000000000∧∃k:Nat,k≤t.2.1.length∧i=k
def ab.L1.F:ab.L1.D→ab.L1.Y:=fun(t,i)=>if(List.drop (Int.toNat i) t.2.1).all iA then .inr () else .inl ()
def ab.aB:ab.D→Prop:=fun _=>True
def ab.F:ab.D→ab.Y:=fun t=>qF t
noncomputable def ab.G:dS:=eR (P:=Tryz.prog) []
noncomputable def ab.L0.E:=bO.cz ab.L0.st ab.L0.aB ab.L0.add ab.L0.F ab.L0.out
noncomputable def ab.L0.call:ab.L0.D→Option ab.L0.X:=dk ab.L0.E ab.L0.st
noncomputable def ab.L1.E:=bO.cz ab.L1.st ab.L1.aB ab.L1.add ab.L1.F ab.L1.out
noncomputable def ab.L1.call:ab.L1.D→Option ab.L1.X:=dk ab.L1.E ab.L1.st
noncomputable def ab.L2.E:=bO.cz ab.L2.st ab.L2.aB ab.L2.add ab.L2.F ab.L2.out
noncomputable def ab.L2.call:ab.L2.D→Option ab.L2.X:=dk ab.L2.E ab.L2.st
noncomputable def ab.an:eA:= {loops:=jY [(4,{bm:=[1,3]}),(9,{bm:=[1,4]}),(14,{bm:=[1,4,5]})],outs:=jX [(4,{bm:=[1]},{bm:=[2]}),(9,{},{bm:=[2]}),(14,{bm:=[1,4]},{bm:=[2]})],fJ:=kF [(4,ab.L0.E),(9,ab.L1.E),(14,ab.L2.E)]}
noncomputable def ab.A:= @cJ Tryz.prog ab.G ab.an 0 Tryz.f22 _ ab.st
abbrev ab.Ok:=cK @ab.A ab.aB ab.add ab.F ab.out
noncomputable def ab.L0.R:= @cg Tryz.prog ab.G ab.an 0 Tryz.f22 0 _ ab.L0.st
abbrev ab.L0.Ok:=eB Tryz.prog ab.G ab.an 0 Tryz.f22 0 ab.L0.st ab.L0.aB ab.L0.add ab.L0.F ab.L0.out
noncomputable def ab.L1.R:= @cg Tryz.prog ab.G ab.an 0 Tryz.f22 1 _ ab.L1.st
abbrev ab.L1.Ok:=eB Tryz.prog ab.G ab.an 0 Tryz.f22 1 ab.L1.st ab.L1.aB ab.L1.add ab.L1.F ab.L1.out
noncomputable def ab.L2.R:= @cg Tryz.prog ab.G ab.an 0 Tryz.f22 2 _ ab.L2.st
abbrev ab.L2.Ok:=eB Tryz.prog ab.G ab.an 0 Tryz.f22 2 ab.L2.st ab.L2.aB ab.L2.add ab.L2.F ab.L2.out
theorem ab.L0.run:bC ab.L0.call ab.L0.aB ab.L0.add ab.L0.F:=eI (eD [.d gg,.d ti] fun _=>by kernel_rfl)
theorem ab.L0.aG:jt @ab.L0.R ab.L0.st ab.L0.aB ab.L0.add ab.L0.F ab.L0.out ab.L0.Ok:=jV
theorem ab.L0.step{R:Type}(t_2:fb)(i:Int)(kn:AS→Option R)(kx:Exit→AS→Option R):ab.L0.R (t_2,i) kn kx=
  aJ ((fZ i (((List.length t_2.1):Nat):Int))) (
   aJ (ei i (((List.length t_2.1):Nat):Int)) (
   aJ ((oJ (((List.length (nth eH t_2.1 (Int.toNat i)).2.1.2.1):Nat):Int) (14:Int))) (
    kx (ab.L0.bt ()).1 (ab.L0.bt ()).2) (
    kn (ab.L0.st (t_2,(bM .i64 i (1:Int)))))) none) (
   kx (ab.L0.eS t_2).1 (ab.L0.eS t_2).2):=by kernel_rfl
theorem ab.L1.run:bC ab.L1.call ab.L1.aB ab.L1.add ab.L1.F:=eI (eD [.d gg,.d ti] fun _=>by kernel_rfl)
theorem ab.L1.aG:jt @ab.L1.R ab.L1.st ab.L1.aB ab.L1.add ab.L1.F ab.L1.out ab.L1.Ok:=jV
theorem ab.L1.step{R:Type}(t_3:fb)(i_2:Int)(kn:AS→Option R)(kx:Exit→AS→Option R):ab.L1.R (t_3,i_2) kn kx=
  aJ ((fZ i_2 (((List.length t_3.2.1):Nat):Int))) (
   aJ (ei i_2 (((List.length t_3.2.1):Nat):Int)) (
   aJ ((oJ (((List.length (nth eU t_3.2.1 (Int.toNat i_2)).2.1.1):Nat):Int) (6:Int))) (
    kx (ab.L1.bt ()).1 (ab.L1.bt ()).2) (
    ah (ab.L2.call (t_3,i_2,(0:Int))) fun x1=>
    aJ (x1.isLeft) (
     ah (x1.getLeft?) fun a2=>
     kx (ab.L1.bt ()).1 (ab.L1.bt ()).2) (
     ah (x1.getRight?) fun b3=>
     kn (ab.L1.st (b3.1,(bM .i64 b3.2 (1:Int))))))) none) (
   kx (ab.L1.eS ()).1 (ab.L1.eS ()).2):=by kernel_rfl
theorem ab.L2.run:bC ab.L2.call ab.L2.aB ab.L2.add ab.L2.F:=eI (eD [.d gg,.d ti,.d ti] fun _=>by kernel_rfl)
theorem ab.L2.aG:jt @ab.L2.R ab.L2.st ab.L2.aB ab.L2.add ab.L2.F ab.L2.out ab.L2.Ok:=jV
theorem ab.L2.step{R:Type}(t_4:fb)(i_3:Int)(kv:Int)(kn:AS→Option R)(kx:Exit→AS→Option R):ab.L2.R (t_4,i_3,kv) kn kx=
  aJ (ei i_3 (((List.length t_4.2.1):Nat):Int)) (
  aJ ((fZ kv (((List.length (nth eU t_4.2.1 (Int.toNat i_3)).2.1.1):Nat):Int))) (
   aJ (ei i_3 (((List.length t_4.2.1):Nat):Int)) (
   aJ (ei kv (((List.length (nth eU t_4.2.1 (Int.toNat i_3)).2.1.1):Nat):Int)) (
   aJ ((oJ (((List.length (nth fk (nth eU t_4.2.1 (Int.toNat i_3)).2.1.1 (Int.toNat kv)).1):Nat):Int) (14:Int))) (
    kx (ab.L2.bt ()).1 (ab.L2.bt ()).2) (
    kn (ab.L2.st (t_4,i_3,(bM .i64 kv (1:Int)))))) none) none) (
   kx (ab.L2.eS (t_4,i_3)).1 (ab.L2.eS (t_4,i_3)).2)) none:=by kernel_rfl
theorem ab.eq{R:Type}(t:fb)(k:a9→Option R):ab.A t k=
  aJ ((oJ (((List.length t.1):Nat):Int) (66:Int))) (
   k (ab.out false)) (
   aJ ((oJ (((List.length t.2.1):Nat):Int) (66:Int))) (
    k (ab.out false)) (
    ah (ab.L0.call (t,(0:Int))) fun x1=>
    aJ (x1.isLeft) (
     ah (x1.getLeft?) fun a2=>
     k (ab.out false)) (
     ah (x1.getRight?) fun b3=>
     ah (ab.L1.call (b3,(0:Int))) fun x7=>
     aJ (x7.isLeft) (
      ah (x7.getLeft?) fun a8=>
      k (ab.out false)) (
      ah (x7.getRight?) fun b9=>
      k (ab.out true))))):=by kernel_rfl
theorem ab.L0.ok:ab.L0.Ok:=by
 refine ab.L0.aG (fun(t,i)=>t.1.length - Int.toNat i) ?_
 rintro⟨t,i⟩ ⟨hlen,k,hk,rfl⟩
 have hlen:t.1.length≤1000000000:=hlen
 have hk:k≤t.1.length:=hk
 by_cases h:k < t.1.length
 ·have n1:nth eH t.1 k=t.1[k]:=cC (t:=eH) h
  have hd:(List.drop k t.1).all jR=(jR t.1[k] && (List.drop (k+1) t.1).all jR):=by rw[List.drop_eq_getElem_cons h,List.all_cons]
  have step:∀ {R:Type} (kn:AS→Option R) (kx:Exit→AS→Option R),ab.L0.R (t,(k:Int)) kn kx=aJ (jR t.1[k]) (kn (ab.L0.st (t,((k+1:Nat):Int)))) (kx (ab.L0.bt ()).1 (ab.L0.bt ()).2):=by
   intro R kn kx
   rw[ab.L0.step,bu (by omega),bo (show(0:Int)≤(k:Int) by omega) (by omega),Int.toNat_natCast,n1]
   simp only[av]
   rw[N.kM (by omega)]
   unfold jR
   by_cases hs:t.1[k].2.1.2.1.length≤14
   ·rw[dR (by omega),aO hs];rfl
   ·rw[ek (by omega),aM hs];rfl
  cases hp:jR t.1[k]
  ·right
   refine⟨ab.L0.bt (),?_,fun kn kx=> ?_⟩
   ·simp only[ab.L0.add,ab.L0.F,Int.toNat_natCast,hd,hp,Bool.false_and,Bool.false_eq_true,if_false]
    rfl
   ·rw[step,hp,ay]
  ·left
   refine⟨(t,((k+1:Nat):Int)),⟨hlen,k+1,by omega,rfl⟩,by simp only[Int.toNat_natCast];omega,?_,fun kn kx=> ?_⟩
   ·simp only[ab.L0.add,ab.L0.F,Int.toNat_natCast,hd,hp,Bool.true_and]
   ·rw[step,hp,av]
 ·right
  obtain rfl:k=t.1.length:=by omega
  refine⟨ab.L0.eS t,?_,fun kn kx=> ?_⟩
  ·simp only[ab.L0.add,ab.L0.F,Int.toNat_natCast,List.drop_length]
   rfl
  ·rw[ab.L0.step,bj (by omega),ay]
theorem ab.L2.ok:ab.L2.Ok:=by
 refine ab.L2.aG (fun(t,j,i)=>(nth eU t.2.1 (Int.toNat j)).2.1.1.length - Int.toNat i) ?_
 rintro⟨t,j,i⟩ ⟨hlen,k,hk,rfl,hj⟩
 have hlen:(nth eU t.2.1 (Int.toNat j)).2.1.1.length≤1000000000:=hlen
 have hk:k≤(nth eU t.2.1 (Int.toNat j)).2.1.1.length:=hk
 have hj:0≤j∧j < (t.2.1.length:Int):=hj
 by_cases h:k < (nth eU t.2.1 (Int.toNat j)).2.1.1.length
 ·have n1:nth fk (nth eU t.2.1 (Int.toNat j)).2.1.1 k=(nth eU t.2.1 (Int.toNat j)).2.1.1[k]:=cC (t:=fk) h
  have hd:(List.drop k (nth eU t.2.1 (Int.toNat j)).2.1.1).all jQ=(jQ (nth eU t.2.1 (Int.toNat j)).2.1.1[k] && (List.drop (k+1) (nth eU t.2.1 (Int.toNat j)).2.1.1).all jQ):=by rw[List.drop_eq_getElem_cons h,List.all_cons]
  have step:∀ {R:Type} (kn:AS→Option R) (kx:Exit→AS→Option R),ab.L2.R (t,j,(k:Int)) kn kx=aJ (jQ (nth eU t.2.1 (Int.toNat j)).2.1.1[k]) (kn (ab.L2.st (t,j,((k+1:Nat):Int)))) (kx (ab.L2.bt ()).1 (ab.L2.bt ()).2):=by
   intro R kn kx
   rw[ab.L2.step,bo hj.1 hj.2,av,bu (by omega),bo (show(0:Int)≤(k:Int) by omega) (by omega),Int.toNat_natCast,n1]
   simp only[av]
   rw[N.kM (by omega)]
   unfold jQ
   by_cases hs:(nth eU t.2.1 (Int.toNat j)).2.1.1[k].1.length≤14
   ·rw[dR (by omega),aO hs];rfl
   ·rw[ek (by omega),aM hs];rfl
  cases hp:jQ (nth eU t.2.1 (Int.toNat j)).2.1.1[k]
  ·right
   refine⟨ab.L2.bt (),?_,fun kn kx=> ?_⟩
   ·simp only[ab.L2.add,ab.L2.F,Int.toNat_natCast,hd,hp,Bool.false_and,Bool.false_eq_true,if_false]
    rfl
   ·rw[step,hp,ay]
  ·left
   refine⟨(t,j,((k+1:Nat):Int)),⟨hlen,k+1,by omega,rfl,hj⟩,by simp only[Int.toNat_natCast];omega,?_,fun kn kx=> ?_⟩
   ·simp only[ab.L2.add,ab.L2.F,Int.toNat_natCast,hd,hp,Bool.true_and]
   ·rw[step,hp,av]
 ·right
  obtain rfl:k=(nth eU t.2.1 (Int.toNat j)).2.1.1.length:=by omega
  refine⟨ab.L2.eS (t,j),?_,fun kn kx=> ?_⟩
  ·simp only[ab.L2.add,ab.L2.F,Int.toNat_natCast,List.drop_length]
   rfl
  ·rw[ab.L2.step,bo hj.1 hj.2,av,bj (by omega),ay]
theorem ab.L1.ok:ab.L1.Ok:=by
 refine ab.L1.aG (fun(t,i)=>t.2.1.length - Int.toNat i) ?_
 rintro⟨t,i⟩ ⟨hlen,k,hk,rfl⟩
 have hlen:t.2.1.length≤1000000000:=hlen
 have hk:k≤t.2.1.length:=hk
 by_cases h:k < t.2.1.length
 ·have n1:nth eU t.2.1 k=t.2.1[k]:=cC (t:=eU) h
  have hd:(List.drop k t.2.1).all iA=(iA t.2.1[k] && (List.drop (k+1) t.2.1).all iA):=by rw[List.drop_eq_getElem_cons h,List.all_cons]
  have step:∀ {R:Type} (kn:AS→Option R) (kx:Exit→AS→Option R),ab.L1.R (t,(k:Int)) kn kx=aJ (iA t.2.1[k]) (kn (ab.L1.st (t,((k+1:Nat):Int)))) (kx (ab.L1.bt ()).1 (ab.L1.bt ()).2):=by
   intro R kn kx
   rw[ab.L1.step,bu (by omega),bo (show(0:Int)≤(k:Int) by omega) (by omega),Int.toNat_natCast,n1]
   simp only[av]
   unfold iA
   by_cases hs:t.2.1[k].2.1.1.length≤6
   ·rw[dR (by omega),aO hs,ay,ab.L2.run (d:=(t,(k:Int),0)) ⟨by rw[Int.toNat_natCast,n1];show t.2.1[k].2.1.1.length≤_;omega,0,Nat.zero_le _,rfl,by show(0:Int)≤(k:Int);omega,by show(k:Int) < (t.2.1.length:Int);omega⟩]
    simp only[aa,ab.L2.add,ab.L2.F,Int.toNat_natCast,n1,Int.toNat_zero,List.drop_zero,Bool.true_and]
    cases t.2.1[k].2.1.1.all jQ
    ·rfl
    ·simp only[if_true,Sum.isLeft_inr,Sum.getRight?_inr,ay,aa,av]
     rw[N.kM (by omega)]
   ·rw[ek (by omega),aM hs];rfl
  cases hp:iA t.2.1[k]
  ·right
   refine⟨ab.L1.bt (),?_,fun kn kx=> ?_⟩
   ·simp only[ab.L1.add,ab.L1.F,Int.toNat_natCast,hd,hp,Bool.false_and,Bool.false_eq_true,if_false]
    rfl
   ·rw[step,hp,ay]
  ·left
   refine⟨(t,((k+1:Nat):Int)),⟨hlen,k+1,by omega,rfl⟩,by simp only[Int.toNat_natCast];omega,?_,fun kn kx=> ?_⟩
   ·simp only[ab.L1.add,ab.L1.F,Int.toNat_natCast,hd,hp,Bool.true_and]
   ·rw[step,hp,av]
 ·right
  obtain rfl:k=t.2.1.length:=by omega
  refine⟨ab.L1.eS (),?_,fun kn kx=> ?_⟩
  ·simp only[ab.L1.add,ab.L1.F,Int.toNat_natCast,List.drop_length]
   rfl
  ·rw[ab.L1.step,bj (by omega),ay]
theorem ab.ok:ab.Ok:=by
 intro t _
 rw[ab.eq]
 simp only[ab.add,ab.F,qF]
 by_cases h1:t.1.length≤66
 ·by_cases h2:t.2.1.length≤66
  ·rw[dR (by omega),dR (by omega),ay,ay,aO ⟨h1,h2⟩,ab.L0.run (d:=(t,0)) ⟨by show t.1.length≤_;omega,0,Nat.zero_le _,rfl⟩]
   simp only[aa,ab.L0.add,ab.L0.F,Int.toNat_zero,List.drop_zero,Bool.true_and]
   cases t.1.all jR
   ·rfl
   ·simp only[if_true,Sum.isLeft_inr,Sum.getRight?_inr,ay,aa,Bool.true_and]
    rw[ab.L1.run (d:=(t,0)) ⟨by show t.2.1.length≤_;omega,0,Nat.zero_le _,rfl⟩]
    simp only[aa,ab.L1.add,ab.L1.F,Int.toNat_zero,List.drop_zero]
    cases t.2.1.all iA <;> rfl
  ·rw[dR (by omega),ek (by omega),aM (fun x=>h2 x.2)];rfl
 ·rw[ek (by omega),aM (fun x=>h1 x.1)];rfl
noncomputable def ab.E:=Entry.cz [some gg] ab.st ab.aB ab.add ab.F ab.out
noncomputable def ab.call:ab.D→Option ab.X:=bH ab.E ab.st
theorem ab.run:bC ab.call ab.aB ab.add ab.F:=cQ (cP [.d gg] fun _=>by kernel_rfl)
noncomputable def ab.sg:SG Tryz.prog:=⟨22,aU,ab.E,.fn 3 (by kernel_rfl) ab.ok (And.intro (.cz ab.L0.ok (by kernel_rfl)) (And.intro (.cz ab.L1.ok (by kernel_rfl)) (And.intro (.cz ab.L2.ok (by kernel_rfl)) trivial)))⟩
abbrev aT.L0.D:=l7×l7×Int
def aT.L0.st:aT.L0.D→AS:=fun(a_2,b_2,i)=>⟨([.undef,.undef,.eG s7 a_2,.eG s7 b_2,.undef,.d ti i]++bg 39 []),[],(List.replicate 45 [])⟩
abbrev aT.L0.Y0:=Unit
abbrev aT.L0.X0:=Unit
def aT.L0.bt:aT.L0.X0→Exit×AS:=fun x=>(.ret,⟨(bg 4 ([.d .bool false]++bg 40 [])),[],(List.replicate 45 [])⟩)
abbrev aT.L0.Y1:=Unit
abbrev aT.L0.X1:=Unit
def aT.L0.eS:aT.L0.X1→Exit×AS:=fun x=>(.exit 0,⟨(bg 45 []),[],(List.replicate 45 [])⟩)
abbrev aT.L0.X:=(aT.L0.X0)⊕(aT.L0.X1)
abbrev aT.L0.Y:=(aT.L0.Y0)⊕(aT.L0.Y1)
def aT.L0.out:aT.L0.X→Out (Exit×AS):=fun x=> .br x.isLeft (.get x.getLeft? fun a=> .ok (aT.L0.bt a)) (.get x.getRight? fun b=> .ok (aT.L0.eS b))
def aT.L0.add:aT.L0.D→aT.L0.Y→aT.L0.X:=fun(a_2,b_2,i) y=>match y with | .inl y=> .inl y | .inr z=> .inr (z)
abbrev aT.D:=l7×l7
def aT.st:aT.D→SA:=fun(a,b)=>([.d s7 a,.d s7 b],[])
abbrev aT.Y:=Bool
abbrev aT.X:=Bool
def aT.out:aT.X→a9:=fun x=>⟨.d .bool x,[],[]⟩
def aT.add:aT.D→aT.Y→aT.X:=fun(a,b) y=>y
def aT.L0.aB:aT.L0.D→Prop:=fun(a,b,i)=>a.2.1.length≤1000000000∧a.2.1.length=b.2.1.length∧∃k:Nat,k≤a.2.1.length∧i=k
def aT.L0.F:aT.L0.D→aT.L0.Y:=fun(a,b,i)=>if List.drop (Int.toNat i) a.2.1=List.drop (Int.toNat i) b.2.1 then .inr () else .inl ()
def aT.aB:aT.D→Prop:=fun(a,b)=>a.2.1.length≤1000000000
def aT.F:aT.D→aT.Y:=fun(a,b)=>decide (a=b)
noncomputable def aT.G:dS:=eR (P:=Tryz.prog) []
noncomputable def aT.L0.E:=bO.cz aT.L0.st aT.L0.aB aT.L0.add aT.L0.F aT.L0.out
noncomputable def aT.L0.call:aT.L0.D→Option aT.L0.X:=dk aT.L0.E aT.L0.st
noncomputable def aT.an:eA:= {loops:=jY [(4,{bm:=[2,3,5]})],outs:=jX [(4,{},{bm:=[4]})],fJ:=kF [(4,aT.L0.E)]}
noncomputable def aT.A:= @cJ Tryz.prog aT.G aT.an 0 Tryz.f45 _ aT.st
abbrev aT.Ok:=cK @aT.A aT.aB aT.add aT.F aT.out
noncomputable def aT.L0.R:= @cg Tryz.prog aT.G aT.an 0 Tryz.f45 0 _ aT.L0.st
abbrev aT.L0.Ok:=eB Tryz.prog aT.G aT.an 0 Tryz.f45 0 aT.L0.st aT.L0.aB aT.L0.add aT.L0.F aT.L0.out
theorem aT.L0.run:bC aT.L0.call aT.L0.aB aT.L0.add aT.L0.F:=eI (eD [.d s7,.d s7,.d ti] fun _=>by kernel_rfl)
theorem aT.L0.aG:jt @aT.L0.R aT.L0.st aT.L0.aB aT.L0.add aT.L0.F aT.L0.out aT.L0.Ok:=jV
theorem aT.L0.step{R:Type}(a_2:l7)(b_2:l7)(i:Int)(kn:AS→Option R)(kx:Exit→AS→Option R):aT.L0.R (a_2,b_2,i) kn kx=
  aJ ((fZ i (((List.length a_2.2.1):Nat):Int))) (
   aJ (ei i (((List.length a_2.2.1):Nat):Int)) (
   aJ (ei i (((List.length b_2.2.1):Nat):Int)) (
   aJ ((!(Ty.beq jm (nth jm a_2.2.1 (Int.toNat i)) (nth jm b_2.2.1 (Int.toNat i))))) (
    kx (aT.L0.bt ()).1 (aT.L0.bt ()).2) (
    kn (aT.L0.st (a_2,b_2,(bM .i64 i (1:Int)))))) none) none) (
   kx (aT.L0.eS ()).1 (aT.L0.eS ()).2):=by kernel_rfl
theorem aT.eq{R:Type}(a:l7)(b:l7)(k:a9→Option R):aT.A (a,b) k=
  aJ ((jw a.1 b.1)) (
   k (aT.out false)) (
   aJ ((jw a.2.2.1 b.2.2.1)) (
    k (aT.out false)) (
    aJ ((jw (((List.length a.2.1):Nat):Int) (((List.length b.2.1):Nat):Int))) (
     k (aT.out false)) (
     ah (aT.L0.call (a,b,(0:Int))) fun x1=>
     aJ (x1.isLeft) (
      ah (x1.getLeft?) fun a2=>
      k (aT.out false)) (
      ah (x1.getRight?) fun b3=>
      k (aT.out true))))):=by kernel_rfl
theorem aT.L0.ok:aT.L0.Ok:=by
 refine aT.L0.aG (fun(a,b,i)=>a.2.1.length - Int.toNat i) ?_
 rintro⟨a,b,i⟩ ⟨hlen,hab,k,hk,rfl⟩
 have hlen:a.2.1.length≤1000000000:=hlen
 have hab:a.2.1.length=b.2.1.length:=hab
 have hk:k≤a.2.1.length:=hk
 by_cases h:k < a.2.1.length
 ·have h2:k < b.2.1.length:=by omega
  have n1:nth jm a.2.1 k=a.2.1[k]:=cC (t:=jm) h
  have n2:nth jm b.2.1 k=b.2.1[k]:=cC (t:=jm) h2
  have hd:(List.drop k a.2.1=List.drop k b.2.1)=(a.2.1[k]=b.2.1[k]∧List.drop (k+1) a.2.1=List.drop (k+1) b.2.1):=by rw[List.drop_eq_getElem_cons h,List.drop_eq_getElem_cons h2,List.cons.injEq]
  have step:∀ {R:Type} (kn:AS→Option R) (kx:Exit→AS→Option R),aT.L0.R (a,b,(k:Int)) kn kx=if a.2.1[k]=b.2.1[k] then kn (aT.L0.st (a,b,((k+1:Nat):Int))) else kx (aT.L0.bt ()).1 (aT.L0.bt ()).2:=by
   intro R kn kx
   rw[aT.L0.step,bu (by omega),bo (by omega) (by omega),bo (by omega) (by omega),Int.toNat_natCast,n1,n2]
   simp only[av]
   rw[AH,N.kM (by omega)]
   by_cases hx:a.2.1[k]=b.2.1[k]
   ·rw[aO hx,if_pos hx];rfl
   ·rw[aM hx,if_neg hx];rfl
  by_cases hx:a.2.1[k]=b.2.1[k]
  ·left
   refine⟨(a,b,((k+1:Nat):Int)),⟨hlen,hab,k+1,by omega,rfl⟩,by simp only[Int.toNat_natCast];omega,?_,fun kn kx=> ?_⟩
   ·simp only[aT.L0.add,aT.L0.F,Int.toNat_natCast,hd,hx,true_and]
   ·rw[step,if_pos hx]
  ·right
   refine⟨aT.L0.bt (),?_,fun kn kx=> ?_⟩
   ·simp only[aT.L0.add,aT.L0.F,Int.toNat_natCast,hd,hx,false_and,if_false]
    rfl
   ·rw[step,if_neg hx]
 ·right
  obtain rfl:k=a.2.1.length:=by omega
  refine⟨aT.L0.eS (),?_,fun kn kx=> ?_⟩
  ·simp only[aT.L0.add,aT.L0.F,Int.toNat_natCast,List.drop_length]
   rw[hab,List.drop_length,if_pos rfl]
   rfl
  ·rw[aT.L0.step,bj (by omega),ay]
theorem aT.ok:aT.Ok:=by
 rintro⟨⟨b1,s1,c1,u1⟩,⟨b2,s2,c2,u2⟩⟩ h
 have h:s1.length≤1000000000:=h
 rw[aT.eq]
 simp only[aT.add,aT.F]
 by_cases e1:b1=b2
 ·by_cases e2:c1=c2
  ·by_cases e3:s1.length=s2.length
   ·rw[bR e1,bR e2,bR (by omega),aT.L0.run (d:=((b1,s1,c1,u1),(b2,s2,c2,u2),0)) ⟨h,e3,0,Nat.zero_le _,rfl⟩]
    simp only[aa,aT.L0.add,aT.L0.F,Int.toNat_zero,List.drop_zero,ay]
    by_cases e4:s1=s2
    ·rw[if_pos e4,aO (by rw[e1,e2,e4])];rfl
    ·rw[if_neg e4,aM (by rintro⟨⟩;exact e4 rfl)];rfl
   ·rw[bR e1,bR e2,dA (by omega),aM (by rintro⟨⟩;exact e3 rfl)];rfl
  ·rw[bR e1,dA e2,aM (by rintro⟨⟩;exact e2 rfl)];rfl
 ·rw[dA e1,aM (by rintro⟨⟩;exact e1 rfl)];rfl
noncomputable def aT.E:=Entry.cz [some s7,some s7] aT.st aT.aB aT.add aT.F aT.out
noncomputable def aT.call:aT.D→Option aT.X:=bH aT.E aT.st
theorem aT.run:bC aT.call aT.aB aT.add aT.F:=cQ (cP [.d s7,.d s7] fun _=>by kernel_rfl)
noncomputable def aT.sg:SG Tryz.prog:=⟨45,aU,aT.E,.fn 1 (by kernel_rfl) aT.ok (And.intro (.cz aT.L0.ok (by kernel_rfl)) trivial)⟩
abbrev aj.L0.D:=Lk×Lk×Int
def aj.L0.st:aj.L0.D→AS:=fun(a_2,b_2,i)=>⟨([.undef,.undef,.eG jo a_2,.eG jo b_2,.undef,.d ti i]++bg 73 []),[],(List.replicate 79 [])⟩
abbrev aj.L0.Y0:=Unit
abbrev aj.L0.X0:=Unit
def aj.L0.bt:aj.L0.X0→Exit×AS:=fun x=>(.ret,⟨(bg 4 ([.d .bool false]++bg 74 [])),[],(List.replicate 79 [])⟩)
abbrev aj.L0.Y1:=Unit
abbrev aj.L0.X1:=Unit
def aj.L0.eS:aj.L0.X1→Exit×AS:=fun x=>(.exit 0,⟨(bg 79 []),[],(List.replicate 79 [])⟩)
abbrev aj.L0.X:=(aj.L0.X0)⊕(aj.L0.X1)
abbrev aj.L0.Y:=(aj.L0.Y0)⊕(aj.L0.Y1)
def aj.L0.out:aj.L0.X→Out (Exit×AS):=fun x=> .br x.isLeft (.get x.getLeft? fun a=> .ok (aj.L0.bt a)) (.get x.getRight? fun b=> .ok (aj.L0.eS b))
def aj.L0.add:aj.L0.D→aj.L0.Y→aj.L0.X:=fun(a_2,b_2,i) y=>match y with | .inl y=> .inl y | .inr z=> .inr (z)
abbrev aj.L1.D:=Lk×Lk×Int×Int×fU×fU
def aj.L1.st:aj.L1.D→AS:=fun(a_3,b_3,i_2,kv,n6,n7)=>⟨([.undef,.undef,.eG jo a_3,.eG jo b_3,.undef,.d ti i_2,.ptr (.new 6 0) 0 [] 0,.ptr (.new 7 0) 0 [] 0,.d ti kv]++bg 70 []),[],(bN 6 ([[.obj 0 false (.d fk n6)],[.obj 0 false (.d fk n7)]]++bN 71 []))⟩
abbrev aj.L1.Y0:=Unit
abbrev aj.L1.X0:=Unit
def aj.L1.bt:aj.L1.X0→Exit×AS:=fun x=>(.ret,⟨(bg 4 ([.d .bool false]++bg 74 [])),[],(List.replicate 79 [])⟩)
abbrev aj.L1.Y1:=Unit
abbrev aj.L1.X1:=Lk×Lk×Int
def aj.L1.eS:aj.L1.X1→Exit×AS:=fun x=>(.exit 2,⟨([.undef,.undef,.eG jo x.1,.eG jo x.2.1,.undef,.d ti x.2.2]++bg 73 []),[],(List.replicate 79 [])⟩)
abbrev aj.L1.X:=(aj.L1.X0)⊕(aj.L1.X1)
abbrev aj.L1.Y:=(aj.L1.Y0)⊕(aj.L1.Y1)
def aj.L1.out:aj.L1.X→Out (Exit×AS):=fun x=> .br x.isLeft (.get x.getLeft? fun a=> .ok (aj.L1.bt a)) (.get x.getRight? fun b=> .ok (aj.L1.eS b))
def aj.L1.add:aj.L1.D→aj.L1.Y→aj.L1.X:=fun(a_3,b_3,i_2,kv,n6,n7) y=>match y with | .inl y=> .inl y | .inr z=> .inr ((a_3,b_3,i_2))
abbrev aj.D:=Lk×Lk
def aj.st:aj.D→SA:=fun(a,b)=>([.d jo a,.d jo b],[])
abbrev aj.Y:=Bool
abbrev aj.X:=Bool
def aj.out:aj.X→a9:=fun x=>⟨.d .bool x,[],[]⟩
def aj.add:aj.D→aj.Y→aj.X:=fun(a,b) y=>y
def aj.L1.aB:aj.L1.D→Prop:=fun(a,b,j,i,x,y)=>x.1.length≤1000000000∧x.1.length=y.1.length∧∃k:Nat,k≤x.1.length∧i=k
def aj.L1.F:aj.L1.D→aj.L1.Y:=fun(a,b,j,i,x,y)=>if List.drop (Int.toNat i) x.1=List.drop (Int.toNat i) y.1 then .inr () else .inl ()
def aj.L0.aB:aj.L0.D→Prop:=fun(a,b,i)=>a.1.length≤1000000000∧a.1.length=b.1.length∧(∀x∈a.1,x.1.length≤1000000000)∧∃k:Nat,k≤a.1.length∧i=k
def aj.L0.F:aj.L0.D→aj.L0.Y:=fun(a,b,i)=>if List.drop (Int.toNat i) a.1=List.drop (Int.toNat i) b.1 then .inr () else .inl ()
def aj.aB:aj.D→Prop:=fun(a,b)=>a.1.length≤1000000000∧∀x∈a.1,x.1.length≤1000000000
def aj.F:aj.D→aj.Y:=fun(a,b)=>decide (a.1=b.1)
noncomputable def aj.G:dS:=eR (P:=Tryz.prog) []
noncomputable def aj.L0.E:=bO.cz aj.L0.st aj.L0.aB aj.L0.add aj.L0.F aj.L0.out
noncomputable def aj.L0.call:aj.L0.D→Option aj.L0.X:=dk aj.L0.E aj.L0.st
noncomputable def aj.L1.E:=bO.cz aj.L1.st aj.L1.aB aj.L1.add aj.L1.F aj.L1.out
noncomputable def aj.L1.call:aj.L1.D→Option aj.L1.X:=dk aj.L1.E aj.L1.st
noncomputable def aj.an:eA:= {loops:=jY [(4,{bm:=[2,3,5]}),(11,{bm:=[2,3,5,6,7,8],sites:=[6,7]})],outs:=jX [(4,{},{bm:=[4]}),(11,{bm:=[2,3,5]},{bm:=[4]})],fJ:=kF [(4,aj.L0.E),(11,aj.L1.E)]}
noncomputable def aj.A:= @cJ Tryz.prog aj.G aj.an 0 Tryz.f94 _ aj.st
abbrev aj.Ok:=cK @aj.A aj.aB aj.add aj.F aj.out
noncomputable def aj.L0.R:= @cg Tryz.prog aj.G aj.an 0 Tryz.f94 0 _ aj.L0.st
abbrev aj.L0.Ok:=eB Tryz.prog aj.G aj.an 0 Tryz.f94 0 aj.L0.st aj.L0.aB aj.L0.add aj.L0.F aj.L0.out
noncomputable def aj.L1.R:= @cg Tryz.prog aj.G aj.an 0 Tryz.f94 1 _ aj.L1.st
abbrev aj.L1.Ok:=eB Tryz.prog aj.G aj.an 0 Tryz.f94 1 aj.L1.st aj.L1.aB aj.L1.add aj.L1.F aj.L1.out
theorem aj.L0.run:bC aj.L0.call aj.L0.aB aj.L0.add aj.L0.F:=eI (eD [.d jo,.d jo,.d ti] fun _=>by kernel_rfl)
theorem aj.L0.aG:jt @aj.L0.R aj.L0.st aj.L0.aB aj.L0.add aj.L0.F aj.L0.out aj.L0.Ok:=jV
theorem aj.L0.step{R:Type}(a_2:Lk)(b_2:Lk)(i:Int)(kn:AS→Option R)(kx:Exit→AS→Option R):aj.L0.R (a_2,b_2,i) kn kx=
  aJ ((fZ i (((List.length a_2.1):Nat):Int))) (
   aJ (ei i (((List.length a_2.1):Nat):Int)) (
   aJ (ei i (((List.length b_2.1):Nat):Int)) (
   aJ ((jw (nth fk a_2.1 (Int.toNat i)).2.1 (nth fk b_2.1 (Int.toNat i)).2.1)) (
    kx (aj.L0.bt ()).1 (aj.L0.bt ()).2) (
    aJ ((jw (nth fk a_2.1 (Int.toNat i)).2.2.1 (nth fk b_2.1 (Int.toNat i)).2.2.1)) (
     kx (aj.L0.bt ()).1 (aj.L0.bt ()).2) (
     aJ ((jw (nth fk a_2.1 (Int.toNat i)).2.2.2.1 (nth fk b_2.1 (Int.toNat i)).2.2.2.1)) (
      kx (aj.L0.bt ()).1 (aj.L0.bt ()).2) (
      aJ ((jw (((List.length (nth fk a_2.1 (Int.toNat i)).1):Nat):Int) (((List.length (nth fk b_2.1 (Int.toNat i)).1):Nat):Int))) (
       kx (aj.L0.bt ()).1 (aj.L0.bt ()).2) (
       ah (aj.L1.call (a_2,b_2,i,(0:Int),(nth fk a_2.1 (Int.toNat i)),(nth fk b_2.1 (Int.toNat i)))) fun x1=>
       aJ (x1.isLeft) (
        ah (x1.getLeft?) fun a2=>
        kx (aj.L0.bt ()).1 (aj.L0.bt ()).2) (
        ah (x1.getRight?) fun b3=>
        kn (aj.L0.st (b3.1,b3.2.1,(bM .i64 b3.2.2 (1:Int)))))))))) none) none) (
   kx (aj.L0.eS ()).1 (aj.L0.eS ()).2):=by kernel_rfl
theorem aj.L1.run:bC aj.L1.call aj.L1.aB aj.L1.add aj.L1.F:=eI (eD [.d jo,.d jo,.d ti,.d ti,.d fk,.d fk] fun _=>by kernel_rfl)
theorem aj.L1.aG:jt @aj.L1.R aj.L1.st aj.L1.aB aj.L1.add aj.L1.F aj.L1.out aj.L1.Ok:=jV
theorem aj.L1.step{R:Type}(a_3:Lk)(b_3:Lk)(i_2:Int)(kv:Int)(n6:fU)(n7:fU)(kn:AS→Option R)(kx:Exit→AS→Option R):aj.L1.R (a_3,b_3,i_2,kv,n6,n7) kn kx=
  aJ ((fZ kv (((List.length n6.1):Nat):Int))) (
   aJ (ei kv (((List.length n6.1):Nat):Int)) (
   aJ (ei kv (((List.length n7.1):Nat):Int)) (
   aJ ((jw (nth tu n6.1 (Int.toNat kv)) (nth tu n7.1 (Int.toNat kv)))) (
    kx (aj.L1.bt ()).1 (aj.L1.bt ()).2) (
    kn (aj.L1.st (a_3,b_3,i_2,(bM .i64 kv (1:Int)),n6,n7)))) none) none) (
   kx (aj.L1.eS (a_3,b_3,i_2)).1 (aj.L1.eS (a_3,b_3,i_2)).2):=by kernel_rfl
theorem aj.eq{R:Type}(a:Lk)(b:Lk)(k:a9→Option R):aj.A (a,b) k=
  aJ ((jw (((List.length a.1):Nat):Int) (((List.length b.1):Nat):Int))) (
   k (aj.out false)) (
   ah (aj.L0.call (a,b,(0:Int))) fun x4=>
   aJ (x4.isLeft) (
    ah (x4.getLeft?) fun a5=>
    k (aj.out false)) (
    ah (x4.getRight?) fun b6=>
    k (aj.out true))):=by kernel_rfl
theorem aj.L1.ok:aj.L1.Ok:=by
 refine aj.L1.aG (fun(a,b,j,i,x,y)=>x.1.length - Int.toNat i) ?_
 rintro⟨a,b,j,i,x,y⟩ ⟨hlen,hab,k,hk,rfl⟩
 have hlen:x.1.length≤1000000000:=hlen
 have hab:x.1.length=y.1.length:=hab
 have hk:k≤x.1.length:=hk
 by_cases h:k < x.1.length
 ·have h2:k < y.1.length:=by omega
  have n1:nth tu x.1 k=x.1[k]:=cC (t:=tu) h
  have n2:nth tu y.1 k=y.1[k]:=cC (t:=tu) h2
  have hd:(List.drop k x.1=List.drop k y.1)=(x.1[k]=y.1[k]∧List.drop (k+1) x.1=List.drop (k+1) y.1):=by rw[List.drop_eq_getElem_cons h,List.drop_eq_getElem_cons h2,List.cons.injEq]
  have step:∀ {R:Type} (kn:AS→Option R) (kx:Exit→AS→Option R),aj.L1.R (a,b,j,(k:Int),x,y) kn kx=if x.1[k]=y.1[k] then kn (aj.L1.st (a,b,j,((k+1:Nat):Int),x,y)) else kx (aj.L1.bt ()).1 (aj.L1.bt ()).2:=by
   intro R kn kx
   rw[aj.L1.step,bu (by omega),bo (by omega) (by omega),bo (by omega) (by omega),Int.toNat_natCast,n1,n2]
   simp only[av]
   rw[N.kM (by omega)]
   by_cases hx:x.1[k]=y.1[k]
   ·rw[bR hx,if_pos hx];rfl
   ·rw[dA hx,if_neg hx];rfl
  by_cases hx:x.1[k]=y.1[k]
  ·left
   refine⟨(a,b,j,((k+1:Nat):Int),x,y),⟨hlen,hab,k+1,by omega,rfl⟩,by simp only[Int.toNat_natCast];omega,?_,fun kn kx=> ?_⟩
   ·simp only[aj.L1.add,aj.L1.F,Int.toNat_natCast,hd,hx,true_and]
   ·rw[step,if_pos hx]
  ·right
   refine⟨aj.L1.bt (),?_,fun kn kx=> ?_⟩
   ·simp only[aj.L1.add,aj.L1.F,Int.toNat_natCast,hd,hx,false_and,if_false]
    rfl
   ·rw[step,if_neg hx]
 ·right
  obtain rfl:k=x.1.length:=by omega
  refine⟨aj.L1.eS (a,b,j),?_,fun kn kx=> ?_⟩
  ·simp only[aj.L1.add,aj.L1.F,Int.toNat_natCast,List.drop_length]
   rw[hab,List.drop_length,if_pos rfl]
   rfl
  ·rw[aj.L1.step,bj (by omega),ay]
theorem aj.L0.ok:aj.L0.Ok:=by
 refine aj.L0.aG (fun(a,b,i)=>a.1.length - Int.toNat i) ?_
 rintro⟨a,b,i⟩ ⟨hlen,hab,hs,k,hk,rfl⟩
 have hlen:a.1.length≤1000000000:=hlen
 have hab:a.1.length=b.1.length:=hab
 have hk:k≤a.1.length:=hk
 have hs:∀x∈a.1,x.1.length≤1000000000:=hs
 by_cases h:k < a.1.length
 ·have h2:k < b.1.length:=by omega
  have n1:nth fk a.1 k=a.1[k]:=cC (t:=fk) h
  have n2:nth fk b.1 k=b.1[k]:=cC (t:=fk) h2
  have hd:(List.drop k a.1=List.drop k b.1)=(a.1[k]=b.1[k]∧List.drop (k+1) a.1=List.drop (k+1) b.1):=by rw[List.drop_eq_getElem_cons h,List.drop_eq_getElem_cons h2,List.cons.injEq]
  have step:∀ {R:Type} (kn:AS→Option R) (kx:Exit→AS→Option R),aj.L0.R (a,b,(k:Int)) kn kx=if a.1[k]=b.1[k] then kn (aj.L0.st (a,b,((k+1:Nat):Int))) else kx (aj.L0.bt ()).1 (aj.L0.bt ()).2:=by
   intro R kn kx
   rw[aj.L0.step,bu (by omega),bo (by omega) (by omega),bo (by omega) (by omega),Int.toNat_natCast,n1,n2]
   simp only[av]
   have hsk:=hs _ (List.getElem_mem h)
   obtain⟨⟨k1,a1,d1,s1,u1⟩,e1⟩:∃x,a.1[k]=x:=⟨_,rfl⟩
   obtain⟨⟨k2,a2,d2,s2,u2⟩,e2⟩:∃x,b.1[k]=x:=⟨_,rfl⟩
   rw[e1]at hsk ⊢
   rw[e2]
   dsimp only
   have hsk:k1.length≤1000000000:=hsk
   by_cases q2:a1=a2
   ·by_cases q3:d1=d2
    ·by_cases q4:s1=s2
     ·by_cases q1:k1.length=k2.length
      ·rw[bR q2,bR q3,bR q4,bR (by omega),aj.L1.run (d:=(a,b,(k:Int),0,(k1,a1,d1,s1,u1),(k2,a2,d2,s2,u2))) ⟨hsk,q1,0,Nat.zero_le _,rfl⟩]
       simp only[ay,aa,aj.L1.add,aj.L1.F,Int.toNat_zero,List.drop_zero]
       by_cases q5:k1=k2
       ·rw[if_pos q5,if_pos (by rw[q5,q2,q3,q4])]
        simp only[Sum.isLeft_inr,Sum.getRight?_inr,ay,aa]
        rw[N.kM (by omega)]
       ·rw[if_neg q5,if_neg (by rintro⟨⟩;exact q5 rfl)]
        rfl
      ·rw[bR q2,bR q3,bR q4,dA (by omega),if_neg (by rintro⟨⟩;exact q1 rfl)];rfl
     ·rw[bR q2,bR q3,dA q4,if_neg (by rintro⟨⟩;exact q4 rfl)];rfl
    ·rw[bR q2,dA q3,if_neg (by rintro⟨⟩;exact q3 rfl)];rfl
   ·rw[dA q2,if_neg (by rintro⟨⟩;exact q2 rfl)];rfl
  by_cases hx:a.1[k]=b.1[k]
  ·left
   refine⟨(a,b,((k+1:Nat):Int)),⟨hlen,hab,hs,k+1,by omega,rfl⟩,by simp only[Int.toNat_natCast];omega,?_,fun kn kx=> ?_⟩
   ·simp only[aj.L0.add,aj.L0.F,Int.toNat_natCast,hd,hx,true_and]
   ·rw[step,if_pos hx]
  ·right
   refine⟨aj.L0.bt (),?_,fun kn kx=> ?_⟩
   ·simp only[aj.L0.add,aj.L0.F,Int.toNat_natCast,hd,hx,false_and,if_false]
    rfl
   ·rw[step,if_neg hx]
 ·right
  obtain rfl:k=a.1.length:=by omega
  refine⟨aj.L0.eS (),?_,fun kn kx=> ?_⟩
  ·simp only[aj.L0.add,aj.L0.F,Int.toNat_natCast,List.drop_length]
   rw[hab,List.drop_length,if_pos rfl]
   rfl
  ·rw[aj.L0.step,bj (by omega),ay]
theorem aj.ok:aj.Ok:=by
 rintro⟨a,b⟩ ⟨h,hs⟩
 have h:a.1.length≤1000000000:=h
 rw[aj.eq]
 simp only[aj.add,aj.F]
 by_cases e3:a.1.length=b.1.length
 ·rw[bR (by omega),aj.L0.run (d:=(a,b,0)) ⟨h,e3,hs,0,Nat.zero_le _,rfl⟩]
  simp only[aa,aj.L0.add,aj.L0.F,Int.toNat_zero,List.drop_zero,ay]
  by_cases e4:a.1=b.1
  ·rw[if_pos e4,aO e4];rfl
  ·rw[if_neg e4,aM e4];rfl
 ·rw[dA (by omega),aM (fun x=>e3 (by rw[x]))];rfl
noncomputable def aj.E:=Entry.cz [some jo,some jo] aj.st aj.aB aj.add aj.F aj.out
noncomputable def aj.call:aj.D→Option aj.X:=bH aj.E aj.st
theorem aj.run:bC aj.call aj.aB aj.add aj.F:=cQ (cP [.d jo,.d jo] fun _=>by kernel_rfl)
noncomputable def aj.sg:SG Tryz.prog:=⟨94,aU,aj.E,.fn 2 (by kernel_rfl) aj.ok (And.intro (.cz aj.L0.ok (by kernel_rfl)) (And.intro (.cz aj.L1.ok (by kernel_rfl)) trivial))⟩
abbrev ak.L0.D:=fb×fb×Int
def ak.L0.st:ak.L0.D→AS:=fun(a_2,b_2,i)=>⟨([.undef,.undef,.eG gg a_2,.eG gg b_2,.undef,.d ti i]++bg 96 []),[],(List.replicate 102 [])⟩
abbrev ak.L0.Y0:=Unit
abbrev ak.L0.X0:=Unit
def ak.L0.bt:ak.L0.X0→Exit×AS:=fun x=>(.ret,⟨(bg 4 ([.d .bool false]++bg 97 [])),[],(List.replicate 102 [])⟩)
abbrev ak.L0.Y1:=Unit
abbrev ak.L0.X1:=fb×fb
def ak.L0.eS:ak.L0.X1→Exit×AS:=fun x=>(.exit 0,⟨([.undef,.undef,.eG gg x.1,.eG gg x.2]++bg 98 []),[],(List.replicate 102 [])⟩)
abbrev ak.L0.X:=(ak.L0.X0)⊕(ak.L0.X1)
abbrev ak.L0.Y:=(ak.L0.Y0)⊕(ak.L0.Y1)
def ak.L0.out:ak.L0.X→Out (Exit×AS):=fun x=> .br x.isLeft (.get x.getLeft? fun a=> .ok (ak.L0.bt a)) (.get x.getRight? fun b=> .ok (ak.L0.eS b))
def ak.L0.add:ak.L0.D→ak.L0.Y→ak.L0.X:=fun(a_2,b_2,i) y=>match y with | .inl y=> .inl y | .inr z=> .inr ((a_2,b_2))
abbrev ak.L1.D:=fb×fb×Int
def ak.L1.st:ak.L1.D→AS:=fun(a_3,b_3,i_2)=>⟨([.undef,.undef,.eG gg a_3,.eG gg b_3,.undef,.undef,.d ti i_2]++bg 95 []),[],(List.replicate 102 [])⟩
abbrev ak.L1.Y0:=Unit
abbrev ak.L1.X0:=Unit
def ak.L1.bt:ak.L1.X0→Exit×AS:=fun x=>(.ret,⟨(bg 4 ([.d .bool false]++bg 97 [])),[],(List.replicate 102 [])⟩)
abbrev ak.L1.Y1:=Unit
abbrev ak.L1.X1:=Unit
def ak.L1.eS:ak.L1.X1→Exit×AS:=fun x=>(.exit 2,⟨(bg 102 []),[],(List.replicate 102 [])⟩)
abbrev ak.L1.X:=(ak.L1.X0)⊕(ak.L1.X1)
abbrev ak.L1.Y:=(ak.L1.Y0)⊕(ak.L1.Y1)
def ak.L1.out:ak.L1.X→Out (Exit×AS):=fun x=> .br x.isLeft (.get x.getLeft? fun a=> .ok (ak.L1.bt a)) (.get x.getRight? fun b=> .ok (ak.L1.eS b))
def ak.L1.add:ak.L1.D→ak.L1.Y→ak.L1.X:=fun(a_3,b_3,i_2) y=>match y with | .inl y=> .inl y | .inr z=> .inr (z)
abbrev ak.D:=fb×fb
def ak.st:ak.D→SA:=fun(a,b)=>([.d gg a,.d gg b],[])
abbrev ak.Y:=Bool
abbrev ak.X:=Bool
def ak.out:ak.X→a9:=fun x=>⟨.d .bool x,[],[]⟩
def ak.add:ak.D→ak.Y→ak.X:=fun(a,b) y=>y
def ak.L0.aB:ak.L0.D→Prop:=fun(a,b,i)=>a.1.length≤1000000000∧a.1.length=b.1.length∧(∀x∈a.1,x.2.1.2.1.length≤1000000000)∧∃k:Nat,k≤a.1.length∧i=k
def ak.L0.F:ak.L0.D→ak.L0.Y:=fun(a,b,i)=>if List.drop (Int.toNat i) a.1=List.drop (Int.toNat i) b.1 then .inr () else .inl ()
def ak.L1.aB:ak.L1.D→Prop:=fun(a,b,i)=>a.2.1.length≤1000000000∧a.2.1.length=b.2.1.length∧(∀x∈a.2.1,x.2.1.1.length≤1000000000∧∀b∈x.2.1.1,b.1.length≤1000000000)∧∃k:Nat,k≤a.2.1.length∧i=k
def ak.L1.F:ak.L1.D→ak.L1.Y:=fun(a,b,i)=>if List.drop (Int.toNat i) a.2.1=List.drop (Int.toNat i) b.2.1 then .inr () else .inl ()
def ak.aB:ak.D→Prop:=fun(a,b)=>qe a
def ak.F:ak.D→ak.Y:=fun(a,b)=>decide (a=b)
noncomputable def ak.G:dS:=eR (P:=Tryz.prog) [aT.sg,aj.sg]
noncomputable def ak.L0.E:=bO.cz ak.L0.st ak.L0.aB ak.L0.add ak.L0.F ak.L0.out
noncomputable def ak.L0.call:ak.L0.D→Option ak.L0.X:=dk ak.L0.E ak.L0.st
noncomputable def ak.L1.E:=bO.cz ak.L1.st ak.L1.aB ak.L1.add ak.L1.F ak.L1.out
noncomputable def ak.L1.call:ak.L1.D→Option ak.L1.X:=dk ak.L1.E ak.L1.st
noncomputable def ak.an:eA:= {loops:=jY [(4,{bm:=[2,3,5]}),(9,{bm:=[2,3,6]})],outs:=jX [(4,{bm:=[2,3]},{bm:=[4]}),(9,{},{bm:=[4]})],fJ:=kF [(4,ak.L0.E),(9,ak.L1.E)]}
noncomputable def ak.A:= @cJ Tryz.prog ak.G ak.an 0 Tryz.f28 _ ak.st
abbrev ak.Ok:=cK @ak.A ak.aB ak.add ak.F ak.out
noncomputable def ak.L0.R:= @cg Tryz.prog ak.G ak.an 0 Tryz.f28 0 _ ak.L0.st
abbrev ak.L0.Ok:=eB Tryz.prog ak.G ak.an 0 Tryz.f28 0 ak.L0.st ak.L0.aB ak.L0.add ak.L0.F ak.L0.out
noncomputable def ak.L1.R:= @cg Tryz.prog ak.G ak.an 0 Tryz.f28 1 _ ak.L1.st
abbrev ak.L1.Ok:=eB Tryz.prog ak.G ak.an 0 Tryz.f28 1 ak.L1.st ak.L1.aB ak.L1.add ak.L1.F ak.L1.out
theorem ak.L0.run:bC ak.L0.call ak.L0.aB ak.L0.add ak.L0.F:=eI (eD [.d gg,.d gg,.d ti] fun _=>by kernel_rfl)
theorem ak.L0.aG:jt @ak.L0.R ak.L0.st ak.L0.aB ak.L0.add ak.L0.F ak.L0.out ak.L0.Ok:=jV
theorem ak.L0.step{R:Type}(a_2:fb)(b_2:fb)(i:Int)(kn:AS→Option R)(kx:Exit→AS→Option R):ak.L0.R (a_2,b_2,i) kn kx=
  aJ ((fZ i (((List.length a_2.1):Nat):Int))) (
   aJ (ei i (((List.length a_2.1):Nat):Int)) (
   aJ (ei i (((List.length b_2.1):Nat):Int)) (
   aJ ((!(Ty.beq kG (nth eH a_2.1 (Int.toNat i)).1 (nth eH b_2.1 (Int.toNat i)).1))) (
    kx (ak.L0.bt ()).1 (ak.L0.bt ()).2) (
    aJ (ei i (((List.length a_2.1):Nat):Int)) (
    aJ (ei i (((List.length b_2.1):Nat):Int)) (
    ah (aT.call ((nth eH a_2.1 (Int.toNat i)).2.1,(nth eH b_2.1 (Int.toNat i)).2.1)) fun x1=>
    aJ ((!x1)) (
     kx (ak.L0.bt ()).1 (ak.L0.bt ()).2) (
     kn (ak.L0.st (a_2,b_2,(bM .i64 i (1:Int)))))) none) none)) none) none) (
   kx (ak.L0.eS (a_2,b_2)).1 (ak.L0.eS (a_2,b_2)).2):=by kernel_rfl
theorem ak.L1.run:bC ak.L1.call ak.L1.aB ak.L1.add ak.L1.F:=eI (eD [.d gg,.d gg,.d ti] fun _=>by kernel_rfl)
theorem ak.L1.aG:jt @ak.L1.R ak.L1.st ak.L1.aB ak.L1.add ak.L1.F ak.L1.out ak.L1.Ok:=jV
theorem ak.L1.step{R:Type}(a_3:fb)(b_3:fb)(i_2:Int)(kn:AS→Option R)(kx:Exit→AS→Option R):ak.L1.R (a_3,b_3,i_2) kn kx=
  aJ ((fZ i_2 (((List.length a_3.2.1):Nat):Int))) (
   aJ (ei i_2 (((List.length a_3.2.1):Nat):Int)) (
   aJ (ei i_2 (((List.length b_3.2.1):Nat):Int)) (
   aJ ((jw (nth eU a_3.2.1 (Int.toNat i_2)).1 (nth eU b_3.2.1 (Int.toNat i_2)).1)) (
    kx (ak.L1.bt ()).1 (ak.L1.bt ()).2) (
    aJ (ei i_2 (((List.length a_3.2.1):Nat):Int)) (
    aJ (ei i_2 (((List.length b_3.2.1):Nat):Int)) (
    ah (aj.call ((nth eU a_3.2.1 (Int.toNat i_2)).2.1,(nth eU b_3.2.1 (Int.toNat i_2)).2.1)) fun x1=>
    aJ ((!x1)) (
     kx (ak.L1.bt ()).1 (ak.L1.bt ()).2) (
     kn (ak.L1.st (a_3,b_3,(bM .i64 i_2 (1:Int)))))) none) none)) none) none) (
   kx (ak.L1.eS ()).1 (ak.L1.eS ()).2):=by kernel_rfl
theorem ak.eq{R:Type}(a:fb)(b:fb)(k:a9→Option R):ak.A (a,b) k=
  aJ ((jw a.2.2.1 b.2.2.1)) (
   k (ak.out false)) (
   aJ ((jw (((List.length a.1):Nat):Int) (((List.length b.1):Nat):Int))) (
    k (ak.out false)) (
    aJ ((jw (((List.length a.2.1):Nat):Int) (((List.length b.2.1):Nat):Int))) (
     k (ak.out false)) (
     ah (ak.L0.call (a,b,(0:Int))) fun x2=>
     aJ (x2.isLeft) (
      ah (x2.getLeft?) fun a3=>
      k (ak.out false)) (
      ah (x2.getRight?) fun b4=>
      ah (ak.L1.call (b4.1,b4.2,(0:Int))) fun x6=>
      aJ (x6.isLeft) (
       ah (x6.getLeft?) fun a7=>
       k (ak.out false)) (
       ah (x6.getRight?) fun b8=>
       k (ak.out true)))))):=by kernel_rfl
theorem ak.L0.ok:ak.L0.Ok:=by
 refine ak.L0.aG (fun(a,b,i)=>a.1.length - Int.toNat i) ?_
 rintro⟨a,b,i⟩ ⟨hlen,hab,hs,k,hk,rfl⟩
 have hlen:a.1.length≤1000000000:=hlen
 have hab:a.1.length=b.1.length:=hab
 have hk:k≤a.1.length:=hk
 have hs:∀x∈a.1,x.2.1.2.1.length≤1000000000:=hs
 by_cases h:k < a.1.length
 ·have h2:k < b.1.length:=by omega
  have n1:nth eH a.1 k=a.1[k]:=cC (t:=eH) h
  have n2:nth eH b.1 k=b.1[k]:=cC (t:=eH) h2
  have hd:(List.drop k a.1=List.drop k b.1)=(a.1[k]=b.1[k]∧List.drop (k+1) a.1=List.drop (k+1) b.1):=by rw[List.drop_eq_getElem_cons h,List.drop_eq_getElem_cons h2,List.cons.injEq]
  have step:∀ {R:Type} (kn:AS→Option R) (kx:Exit→AS→Option R),ak.L0.R (a,b,(k:Int)) kn kx=if a.1[k]=b.1[k] then kn (ak.L0.st (a,b,((k+1:Nat):Int))) else kx (ak.L0.bt ()).1 (ak.L0.bt ()).2:=by
   intro R kn kx
   rw[ak.L0.step,bu (by omega),bo (by omega) (by omega),bo (by omega) (by omega),Int.toNat_natCast,n1,n2]
   simp only[av]
   have e:=hs _ (List.getElem_mem h)
   rw[rM,N.kM (by omega),aT.run (d:=(a.1[k].2.1,b.1[k].2.1)) e]
   simp only[aa,aT.add,aT.F]
   obtain⟨⟨f1,w1,u1⟩,e1⟩:∃x,a.1[k]=x:=⟨_,rfl⟩
   obtain⟨⟨f2,w2,u2⟩,e2⟩:∃x,b.1[k]=x:=⟨_,rfl⟩
   rw[e1,e2]
   by_cases q1:f1=f2
   ·by_cases q2:w1=w2
    ·rw[aO q1,aO q2,if_pos (by rw[q1,q2])];rfl
    ·rw[aO q1,aM q2,if_neg (by rintro⟨⟩;exact q2 rfl)];rfl
   ·rw[aM q1,if_neg (by rintro⟨⟩;exact q1 rfl)];rfl
  by_cases hx:a.1[k]=b.1[k]
  ·left
   refine⟨(a,b,((k+1:Nat):Int)),⟨hlen,hab,hs,k+1,by omega,rfl⟩,by simp only[Int.toNat_natCast];omega,?_,fun kn kx=> ?_⟩
   ·simp only[ak.L0.add,ak.L0.F,Int.toNat_natCast,hd,hx,true_and]
   ·rw[step,if_pos hx]
  ·right
   refine⟨ak.L0.bt (),?_,fun kn kx=> ?_⟩
   ·simp only[ak.L0.add,ak.L0.F,Int.toNat_natCast,hd,hx,false_and,if_false]
    rfl
   ·rw[step,if_neg hx]
 ·right
  obtain rfl:k=a.1.length:=by omega
  refine⟨ak.L0.eS (a,b),?_,fun kn kx=> ?_⟩
  ·simp only[ak.L0.add,ak.L0.F,Int.toNat_natCast,List.drop_length]
   rw[hab,List.drop_length,if_pos rfl]
   rfl
  ·rw[ak.L0.step,bj (by omega),ay]
theorem ak.L1.ok:ak.L1.Ok:=by
 refine ak.L1.aG (fun(a,b,i)=>a.2.1.length - Int.toNat i) ?_
 rintro⟨a,b,i⟩ ⟨hlen,hab,hs,k,hk,rfl⟩
 have hlen:a.2.1.length≤1000000000:=hlen
 have hab:a.2.1.length=b.2.1.length:=hab
 have hk:k≤a.2.1.length:=hk
 have hs:∀x∈a.2.1,x.2.1.1.length≤1000000000∧∀b∈x.2.1.1,b.1.length≤1000000000:=hs
 by_cases h:k < a.2.1.length
 ·have h2:k < b.2.1.length:=by omega
  have n1:nth eU a.2.1 k=a.2.1[k]:=cC (t:=eU) h
  have n2:nth eU b.2.1 k=b.2.1[k]:=cC (t:=eU) h2
  have hd:(List.drop k a.2.1=List.drop k b.2.1)=(a.2.1[k]=b.2.1[k]∧List.drop (k+1) a.2.1=List.drop (k+1) b.2.1):=by rw[List.drop_eq_getElem_cons h,List.drop_eq_getElem_cons h2,List.cons.injEq]
  have step:∀ {R:Type} (kn:AS→Option R) (kx:Exit→AS→Option R),ak.L1.R (a,b,(k:Int)) kn kx=if a.2.1[k]=b.2.1[k] then kn (ak.L1.st (a,b,((k+1:Nat):Int))) else kx (ak.L1.bt ()).1 (ak.L1.bt ()).2:=by
   intro R kn kx
   rw[ak.L1.step,bu (by omega),bo (by omega) (by omega),bo (by omega) (by omega),Int.toNat_natCast,n1,n2]
   simp only[av]
   have e:=hs _ (List.getElem_mem h)
   rw[N.kM (by omega),aj.run (d:=(a.2.1[k].2.1,b.2.1[k].2.1)) e]
   simp only[aa,aj.add,aj.F]
   obtain⟨⟨n1,⟨l1,v1⟩,u1⟩,e1⟩:∃x,a.2.1[k]=x:=⟨_,rfl⟩
   obtain⟨⟨n2,⟨l2,v2⟩,u2⟩,e2⟩:∃x,b.2.1[k]=x:=⟨_,rfl⟩
   rw[e1,e2]
   by_cases q1:n1=n2
   ·by_cases q2:l1=l2
    ·rw[bR q1,aO q2,if_pos (by rw[q1,q2])];rfl
    ·rw[bR q1,aM q2,if_neg (by rintro⟨⟩;exact q2 rfl)];rfl
   ·rw[dA q1,if_neg (by rintro⟨⟩;exact q1 rfl)];rfl
  by_cases hx:a.2.1[k]=b.2.1[k]
  ·left
   refine⟨(a,b,((k+1:Nat):Int)),⟨hlen,hab,hs,k+1,by omega,rfl⟩,by simp only[Int.toNat_natCast];omega,?_,fun kn kx=> ?_⟩
   ·simp only[ak.L1.add,ak.L1.F,Int.toNat_natCast,hd,hx,true_and]
   ·rw[step,if_pos hx]
  ·right
   refine⟨ak.L1.bt (),?_,fun kn kx=> ?_⟩
   ·simp only[ak.L1.add,ak.L1.F,Int.toNat_natCast,hd,hx,false_and,if_false]
    rfl
   ·rw[step,if_neg hx]
 ·right
  obtain rfl:k=a.2.1.length:=by omega
  refine⟨ak.L1.eS (),?_,fun kn kx=> ?_⟩
  ·simp only[ak.L1.add,ak.L1.F,Int.toNat_natCast,List.drop_length]
   rw[hab,List.drop_length,if_pos rfl]
   rfl
  ·rw[ak.L1.step,bj (by omega),ay]
theorem ak.ok:ak.Ok:=by
 rintro⟨⟨i1,o1,n1,u1⟩,⟨i2,o2,n2,u2⟩⟩ h
 have h:qe (i1,o1,n1,u1):=h
 have hi:i1.length≤1000000000:=h.1.1
 have ho:o1.length≤1000000000:=h.2.1
 rw[ak.eq]
 simp only[ak.add,ak.F]
 by_cases e1:n1=n2
 ·by_cases e2:i1.length=i2.length
  ·by_cases e3:o1.length=o2.length
   ·rw[bR e1,bR (by omega),bR (by omega),ak.L0.run (d:=((i1,o1,n1,u1),(i2,o2,n2,u2),0)) ⟨hi,e2,h.1.2,0,Nat.zero_le _,rfl⟩]
    simp only[aa,ak.L0.add,ak.L0.F,Int.toNat_zero,List.drop_zero,ay]
    by_cases e4:i1=i2
    ·rw[if_pos e4]
     simp only[Sum.isLeft_inr,Sum.getRight?_inr,ay,aa]
     rw[ak.L1.run (d:=((i1,o1,n1,u1),(i2,o2,n2,u2),0)) ⟨ho,e3,h.2.2,0,Nat.zero_le _,rfl⟩]
     simp only[aa,ak.L1.add,ak.L1.F,Int.toNat_zero,List.drop_zero]
     by_cases e5:o1=o2
     ·rw[if_pos e5,aO (by rw[e1,e4,e5])];rfl
     ·rw[if_neg e5,aM (by rintro⟨⟩;exact e5 rfl)];rfl
    ·rw[if_neg e4,aM (by rintro⟨⟩;exact e4 rfl)];rfl
   ·rw[bR e1,bR (by omega),dA (by omega),aM (by rintro⟨⟩;exact e3 rfl)];rfl
  ·rw[bR e1,dA (by omega),aM (by rintro⟨⟩;exact e2 rfl)];rfl
 ·rw[dA e1,aM (by rintro⟨⟩;exact e1 rfl)];rfl
noncomputable def ak.E:=Entry.cz [some gg,some gg] ak.st ak.aB ak.add ak.F ak.out
noncomputable def ak.call:ak.D→Option ak.X:=bH ak.E ak.st
theorem ak.run:bC ak.call ak.aB ak.add ak.F:=cQ (cP [.d gg,.d gg] fun _=>by kernel_rfl)
noncomputable def ak.sg:SG Tryz.prog:=⟨28,aU,ak.E,.fn 2 (by kernel_rfl) ak.ok (And.intro (.cz ak.L0.ok (by kernel_rfl)) (And.intro (.cz ak.L1.ok (by kernel_rfl)) trivial))⟩
abbrev az.L0.D:=(List kg)×(List kg)×Int
def az.L0.st:az.L0.D→AS:=fun(a_2,b_2,i)=>⟨([.d (.slice kG) a_2,.d (.slice kG) b_2,.undef,.undef,.undef,.d ti i]++bg 20 []),[],(List.replicate 26 [])⟩
abbrev az.L0.Y0:=Unit
abbrev az.L0.X0:=Unit
def az.L0.bt:az.L0.X0→Exit×AS:=fun x=>(.ret,⟨(bg 4 ([.d .bool false]++bg 21 [])),[],(List.replicate 26 [])⟩)
abbrev az.L0.Y1:=Unit
abbrev az.L0.X1:=Unit
def az.L0.eS:az.L0.X1→Exit×AS:=fun x=>(.exit 0,⟨(bg 26 []),[],(List.replicate 26 [])⟩)
abbrev az.L0.X:=(az.L0.X0)⊕(az.L0.X1)
abbrev az.L0.Y:=(az.L0.Y0)⊕(az.L0.Y1)
def az.L0.out:az.L0.X→Out (Exit×AS):=fun x=> .br x.isLeft (.get x.getLeft? fun a=> .ok (az.L0.bt a)) (.get x.getRight? fun b=> .ok (az.L0.eS b))
def az.L0.add:az.L0.D→az.L0.Y→az.L0.X:=fun(a_2,b_2,i) y=>match y with | .inl y=> .inl y | .inr z=> .inr (z)
abbrev az.D:=(List kg)×(List kg)
def az.st:az.D→SA:=fun(a,b)=>([.d (.slice kG) a,.d (.slice kG) b],[])
abbrev az.Y:=Bool
abbrev az.X:=Bool
def az.out:az.X→a9:=fun x=>⟨.d .bool x,[],[]⟩
def az.add:az.D→az.Y→az.X:=fun(a,b) y=>y
def az.L0.aB:az.L0.D→Prop:=fun(a,b,i)=>a.length≤1000000000∧a.length=b.length∧∃k:Nat,k≤a.length∧i=k
def az.L0.F:az.L0.D→az.L0.Y:=fun(a,b,i)=>if List.drop (Int.toNat i) a=List.drop (Int.toNat i) b then .inr () else .inl ()
def az.aB:az.D→Prop:=fun(a,b)=>a.length≤1000000000
def az.F:az.D→az.Y:=fun(a,b)=>decide (a=b)
noncomputable def az.G:dS:=eR (P:=Tryz.prog) []
noncomputable def az.L0.E:=bO.cz az.L0.st az.L0.aB az.L0.add az.L0.F az.L0.out
noncomputable def az.L0.call:az.L0.D→Option az.L0.X:=dk az.L0.E az.L0.st
noncomputable def az.an:eA:= {loops:=jY [(4,{bm:=[0,1,5]})],outs:=jX [(4,{},{bm:=[4]})],fJ:=kF [(4,az.L0.E)]}
noncomputable def az.A:= @cJ Tryz.prog az.G az.an 0 Tryz.f37 _ az.st
abbrev az.Ok:=cK @az.A az.aB az.add az.F az.out
noncomputable def az.L0.R:= @cg Tryz.prog az.G az.an 0 Tryz.f37 0 _ az.L0.st
abbrev az.L0.Ok:=eB Tryz.prog az.G az.an 0 Tryz.f37 0 az.L0.st az.L0.aB az.L0.add az.L0.F az.L0.out
theorem az.L0.run:bC az.L0.call az.L0.aB az.L0.add az.L0.F:=eI (eD [.d (.slice kG),.d (.slice kG),.d ti] fun _=>by kernel_rfl)
theorem az.L0.aG:jt @az.L0.R az.L0.st az.L0.aB az.L0.add az.L0.F az.L0.out az.L0.Ok:=jV
theorem az.L0.step{R:Type}(a_2:(List kg))(b_2:(List kg))(i:Int)(kn:AS→Option R)(kx:Exit→AS→Option R):az.L0.R (a_2,b_2,i) kn kx=
  aJ ((fZ i (((List.length a_2):Nat):Int))) (
   aJ (ei i (((List.length a_2):Nat):Int)) (
   aJ (ei i (((List.length b_2):Nat):Int)) (
   aJ ((!(Ty.beq kG (nth kG a_2 (Int.toNat i)) (nth kG b_2 (Int.toNat i))))) (
    kx (az.L0.bt ()).1 (az.L0.bt ()).2) (
    kn (az.L0.st (a_2,b_2,(bM .i64 i (1:Int)))))) none) none) (
   kx (az.L0.eS ()).1 (az.L0.eS ()).2):=by kernel_rfl
theorem az.eq{R:Type}(a:(List kg))(b:(List kg))(k:a9→Option R):az.A (a,b) k=
  aJ ((jw (((List.length a):Nat):Int) (((List.length b):Nat):Int))) (
   k (az.out false)) (
   ah (az.L0.call (a,b,(0:Int))) fun x1=>
   aJ (x1.isLeft) (
    ah (x1.getLeft?) fun a2=>
    k (az.out false)) (
    ah (x1.getRight?) fun b3=>
    k (az.out true))):=by kernel_rfl
theorem az.L0.ok:az.L0.Ok:=by
 refine az.L0.aG (fun(a,b,i)=>a.length - Int.toNat i) ?_
 rintro⟨a,b,i⟩ ⟨hlen,hab,k,hk,rfl⟩
 have hlen:a.length≤1000000000:=hlen
 have hab:a.length=b.length:=hab
 have hk:k≤a.length:=hk
 by_cases h:k < a.length
 ·have h2:k < b.length:=by omega
  have n1:nth kG a k=a[k]:=cC (t:=kG) h
  have n2:nth kG b k=b[k]:=cC (t:=kG) h2
  have hd:(List.drop k a=List.drop k b)=(a[k]=b[k]∧List.drop (k+1) a=List.drop (k+1) b):=by rw[List.drop_eq_getElem_cons h,List.drop_eq_getElem_cons h2,List.cons.injEq]
  have step:∀ {R:Type} (kn:AS→Option R) (kx:Exit→AS→Option R),az.L0.R (a,b,(k:Int)) kn kx=if a[k]=b[k] then kn (az.L0.st (a,b,((k+1:Nat):Int))) else kx (az.L0.bt ()).1 (az.L0.bt ()).2:=by
   intro R kn kx
   rw[az.L0.step,bu (by omega),bo (by omega) (by omega),bo (by omega) (by omega),Int.toNat_natCast,n1,n2]
   simp only[av]
   rw[rM,N.kM (by omega)]
   by_cases hx:a[k]=b[k]
   ·rw[aO hx,if_pos hx];rfl
   ·rw[aM hx,if_neg hx];rfl
  by_cases hx:a[k]=b[k]
  ·left
   refine⟨(a,b,((k+1:Nat):Int)),⟨hlen,hab,k+1,by omega,rfl⟩,by simp only[Int.toNat_natCast];omega,?_,fun kn kx=> ?_⟩
   ·simp only[az.L0.add,az.L0.F,Int.toNat_natCast,hd,hx,true_and]
   ·rw[step,if_pos hx]
  ·right
   refine⟨az.L0.bt (),?_,fun kn kx=> ?_⟩
   ·simp only[az.L0.add,az.L0.F,Int.toNat_natCast,hd,hx,false_and,if_false]
    rfl
   ·rw[step,if_neg hx]
 ·right
  obtain rfl:k=a.length:=by omega
  refine⟨az.L0.eS (),?_,fun kn kx=> ?_⟩
  ·simp only[az.L0.add,az.L0.F,Int.toNat_natCast,List.drop_length]
   rw[hab,List.drop_length,if_pos rfl]
   rfl
  ·rw[az.L0.step,bj (by omega),ay]
theorem az.ok:az.Ok:=by
 rintro⟨a,b⟩ h
 have h:a.length≤1000000000:=h
 rw[az.eq]
 simp only[az.add,az.F]
 by_cases e3:a.length=b.length
 ·rw[bR (by omega),az.L0.run (d:=(a,b,0)) ⟨h,e3,0,Nat.zero_le _,rfl⟩]
  simp only[aa,az.L0.add,az.L0.F,Int.toNat_zero,List.drop_zero,ay]
  by_cases e4:a=b
  ·rw[if_pos e4,aO e4];rfl
  ·rw[if_neg e4,aM e4];rfl
 ·rw[dA (by omega),aM (fun x=>e3 (by rw[x]))];rfl
noncomputable def az.E:=Entry.cz [some (.slice kG),some (.slice kG)] az.st az.aB az.add az.F az.out
noncomputable def az.call:az.D→Option az.X:=bH az.E az.st
theorem az.run:bC az.call az.aB az.add az.F:=cQ (cP [.d (.slice kG),.d (.slice kG)] fun _=>by kernel_rfl)
noncomputable def az.sg:SG Tryz.prog:=⟨37,aU,az.E,.fn 1 (by kernel_rfl) az.ok (And.intro (.cz az.L0.ok (by kernel_rfl)) trivial)⟩
set_option synthInstance.maxSize 5000
abbrev ae.L0.D:=fb×Int×(Int×Unit)×Nat×(Int×Unit)×(List fD)
def ae.L0.st:ae.L0.D→AS:=fun(t_2,i,n2,n3L,n3,n36)=>⟨([.undef,.eG gg t_2,.ptr (.new 2 0) 0 [] 0,.ptr (.new 3 0) 0 [] 0,.d ti i]++bg 89 []),[],([[],[],[.obj 0 false (.pr (.cY) (.pr (.cY) (.d (.pair ti .unit) n2)))],[.obj 0 false (.pr (.cf (.new 36 0) 0 [] 0 0 n3L) (.pr (.cY) (.d (.pair ti .unit) n3)))]]++bN 32 ([[.obj 0 false (.vec 57 eH n36)]]++bN 57 []))⟩
abbrev ae.L0.Y0:=Nat×(List fD)
abbrev ae.L0.X0:=(fb×(Int×Unit)×(Int×Unit))×(Nat×(List fD))
def ae.L0.bt:ae.L0.X0→Exit×AS:=fun x=>(.exit 0,⟨([.undef,.eG gg x.1.1,.ptr (.new 2 0) 0 [] 0,.ptr (.new 3 0) 0 [] 0]++bg 90 []),[],([[],[],[.obj 0 false (.pr (.cY) (.pr (.cY) (.d (.pair ti .unit) x.1.2.1)))],[.obj 0 false (.pr (.cf (.new 36 0) 0 [] 0 0 x.2.1) (.pr (.cY) (.d (.pair ti .unit) x.1.2.2)))]]++bN 32 ([[.obj 0 false (.vec 57 eH x.2.2)]]++bN 57 []))⟩)
abbrev ae.L0.X:=ae.L0.X0
abbrev ae.L0.Y:=ae.L0.Y0
def ae.L0.out:ae.L0.X→Out (Exit×AS):=fun x=> .ok (ae.L0.bt x)
def ae.L0.add:ae.L0.D→ae.L0.Y→ae.L0.X:=fun(t_2,i,n2,n3L,n3,n36) y=>((t_2,n2,n3),y)
abbrev ae.L1.D:=fb×Int×(Int×Unit)×Nat×Nat×(Int×Unit)×(List fD)×(List gh)
def ae.L1.st:ae.L1.D→AS:=fun(t_3,i_2,n2_2,n3L_2,n3L_3,n3_2,n36_2,n91)=>⟨([.undef,.eG gg t_3,.ptr (.new 2 0) 0 [] 0,.ptr (.new 3 0) 0 [] 0,.undef,.undef,.d ti i_2]++bg 87 []),[],([[],[],[.obj 0 false (.pr (.cY) (.pr (.cY) (.d (.pair ti .unit) n2_2)))],[.obj 0 false (.pr (.cf (.new 36 0) 0 [] 0 0 n3L_2) (.pr (.cf (.new 91 0) 0 [] 0 0 n3L_3) (.d (.pair ti .unit) n3_2)))]]++bN 32 ([[.obj 0 false (.vec 57 eH n36_2)]]++bN 54 [[.obj 0 false (.vec 62 eU n91)],[],[]]))⟩
abbrev ae.L1.Y0:=(Int×Unit)×Nat×Nat×(Int×Unit)×(List fD)×(List gh)
abbrev ae.L1.X0:=(Int×Unit)×Nat×Nat×(Int×Unit)×(List fD)×(List gh)
def ae.L1.bt:ae.L1.X0→Exit×AS:=fun x=>(.exit 2,⟨([.undef,.undef,.ptr (.new 2 0) 0 [] 0,.ptr (.new 3 0) 0 [] 0]++bg 90 []),[],([[],[],[.obj 0 false (.pr (.cY) (.pr (.cY) (.d (.pair ti .unit) x.1)))],[.obj 0 false (.pr (.cf (.new 36 0) 0 [] 0 0 x.2.1) (.pr (.cf (.new 91 0) 0 [] 0 0 x.2.2.1) (.d (.pair ti .unit) x.2.2.2.1)))]]++bN 32 ([[.obj 0 false (.vec 57 eH x.2.2.2.2.1)]]++bN 54 [[.obj 0 false (.vec 62 eU x.2.2.2.2.2)],[],[]]))⟩)
abbrev ae.L1.X:=ae.L1.X0
abbrev ae.L1.Y:=ae.L1.Y0
def ae.L1.out:ae.L1.X→Out (Exit×AS):=fun x=> .ok (ae.L1.bt x)
def ae.L1.add:ae.L1.D→ae.L1.Y→ae.L1.X:=fun(t_3,i_2,n2_2,n3L_2,n3L_3,n3_2,n36_2,n91) y=>y
abbrev ae.L2.D:=fb×Int×Int×(Int×Unit)×Nat×Nat×(Int×Unit)×Int×Nat×(List fD)×(List fU)×(List gh)
def ae.L2.st:ae.L2.D→AS:=fun(t_4,i_3,kv,n2_3,n3L_4,n3L_5,n3_3,n7,n7L,n36_3,n84,n91_2)=>⟨([.undef,.eG gg t_4,.ptr (.new 2 0) 0 [] 0,.ptr (.new 3 0) 0 [] 0,.undef,.undef,.d ti i_3,.ptr (.new 7 0) 0 [] 0,.d ti kv]++bg 85 []),[],([[],[],[.obj 0 false (.pr (.cY) (.pr (.cY) (.d (.pair ti .unit) n2_3)))],[.obj 0 false (.pr (.cf (.new 36 0) 0 [] 0 0 n3L_4) (.pr (.cf (.new 91 0) 0 [] 0 0 n3L_5) (.d (.pair ti .unit) n3_3)))],[],[],[],[.obj 0 false (.pr (.d ti n7) (.pr (.pr (.cf (.new 84 0) 0 [] 0 0 n7L) (.d .unit ())) (.d .unit ())))]]++bN 28 ([[.obj 0 false (.vec 57 eH n36_3)]]++bN 47 ([[.obj 0 false (.vec 85 fk n84)]]++bN 6 [[.obj 0 false (.vec 62 eU n91_2)],[],[]])))⟩
abbrev ae.L2.Y0:=Nat×(List fU)
abbrev ae.L2.X0:=(fb×Int×(Int×Unit)×Nat×Nat×(Int×Unit)×Int×(List fD)×(List gh))×(Nat×(List fU))
def ae.L2.bt:ae.L2.X0→Exit×AS:=fun x=>(.exit 4,⟨([.undef,.eG gg x.1.1,.ptr (.new 2 0) 0 [] 0,.ptr (.new 3 0) 0 [] 0,.undef,.undef,.d ti x.1.2.1,.ptr (.new 7 0) 0 [] 0]++bg 86 []),[],([[],[],[.obj 0 false (.pr (.cY) (.pr (.cY) (.d (.pair ti .unit) x.1.2.2.1)))],[.obj 0 false (.pr (.cf (.new 36 0) 0 [] 0 0 x.1.2.2.2.1) (.pr (.cf (.new 91 0) 0 [] 0 0 x.1.2.2.2.2.1) (.d (.pair ti .unit) x.1.2.2.2.2.2.1)))],[],[],[],[.obj 0 false (.pr (.d ti x.1.2.2.2.2.2.2.1) (.pr (.pr (.cf (.new 84 0) 0 [] 0 0 x.2.1) (.d .unit ())) (.d .unit ())))]]++bN 28 ([[.obj 0 false (.vec 57 eH x.1.2.2.2.2.2.2.2.1)]]++bN 47 ([[.obj 0 false (.vec 85 fk x.2.2)]]++bN 6 [[.obj 0 false (.vec 62 eU x.1.2.2.2.2.2.2.2.2)],[],[]])))⟩)
abbrev ae.L2.X:=ae.L2.X0
abbrev ae.L2.Y:=ae.L2.Y0
def ae.L2.out:ae.L2.X→Out (Exit×AS):=fun x=> .ok (ae.L2.bt x)
def ae.L2.add:ae.L2.D→ae.L2.Y→ae.L2.X:=fun(t_4,i_3,kv,n2_3,n3L_4,n3L_5,n3_3,n7,n7L,n36_3,n84,n91_2) y=>((t_4,i_3,n2_3,n3L_4,n3L_5,n3_3,n7,n36_3,n91_2),y)
abbrev ae.D:=fb
def ae.st:ae.D→SA:=fun t=>([.d gg t],[])
abbrev ae.Y:=Nat×Nat×(Int×Unit)×(List fD)×(List gh)
abbrev ae.X:=Nat×Nat×(Int×Unit)×(List fD)×(List gh)
def ae.out:ae.X→a9:=fun x=>⟨.pr (.cf (.new 0 0) 0 [] 0 0 x.1) (.pr (.cf (.new 0 1) 0 [] 0 0 x.2.1) (.d (.pair ti .unit) x.2.2.1)),[],[.obj 0 false (.vec 57 eH x.2.2.2.1),.obj 0 false (.vec 62 eU x.2.2.2.2)]⟩
def ae.add:ae.D→ae.Y→ae.X:=fun t y=>y
def ae.L0.aB:ae.L0.D→Prop:=fun(t,i,u,L,v,r)=>(t.1).length≤1000000∧∃k:Nat,k≤(t.1).length∧i=k∧L=(r).length∧(r).length≤1000000+k∧(∀x∈t.1,x.2.1.2.1.length≤1000000)
def ae.L0.F:ae.L0.D→ae.L0.Y:=fun(t,i,u,L,v,r)=>(L+(List.drop (Int.toNat i) t.1).length,r++(List.drop (Int.toNat i) t.1).map (fun x:fD=>x))
def ae.L2.aB:ae.L2.D→Prop:=fun(t,j,i,u,L4,L5,v,am,L,is,r,os)=>((nth eU t.2.1 (Int.toNat j)).2.1.1).length≤1000000∧∃k:Nat,k≤((nth eU t.2.1 (Int.toNat j)).2.1.1).length∧i=k∧L=(r).length∧(r).length≤1000000+k∧(0≤j∧j < (t.2.1.length:Int))∧(∀x∈(nth eU t.2.1 (Int.toNat j)).2.1.1,x.1.length≤1000000)
def ae.L2.F:ae.L2.D→ae.L2.Y:=fun(t,j,i,u,L4,L5,v,am,L,is,r,os)=>(L+(List.drop (Int.toNat i) (nth eU t.2.1 (Int.toNat j)).2.1.1).length,r++(List.drop (Int.toNat i) (nth eU t.2.1 (Int.toNat j)).2.1.1).map (fun x:fU=>x))
def ae.L1.aB:ae.L1.D→Prop:=fun(t,i,u,L3,L,v,is,r)=>(t.2.1.length≤1000∧∀x∈t.2.1,x.2.1.1.length≤1000∧∀b∈x.2.1.1,b.1.length≤1000000)∧∃k:Nat,k≤t.2.1.length∧i=k∧L=r.length∧r.length=k
def ae.L1.F:ae.L1.D→ae.L1.Y:=fun(t,i,u,L3,L,v,is,r)=>(u,L3,L+(t.2.1.drop i.toNat).length,v,is,r++t.2.1.drop i.toNat)
def CT(t:fb):Prop:=(t.1.length≤1000∧∀x∈t.1,x.2.1.2.1.length≤1000000)∧t.2.1.length≤1000∧∀x∈t.2.1,x.2.1.1.length≤1000∧∀b∈x.2.1.1,b.1.length≤1000000
def ae.aB:ae.D→Prop:=fun t=>CT t
def ae.F:ae.D→ae.Y:=fun t=>(t.1.length,t.2.1.length,(t.2.2.1,()),t.1,t.2.1)
noncomputable def ae.G:dS:=eR (P:=Tryz.prog) []
noncomputable def ae.L0.E:=bO.cz ae.L0.st ae.L0.aB ae.L0.add ae.L0.F ae.L0.out
noncomputable def ae.L0.call:ae.L0.D→Option ae.L0.X:=dk ae.L0.E ae.L0.st
noncomputable def ae.L1.E:=bO.cz ae.L1.st ae.L1.aB ae.L1.add ae.L1.F ae.L1.out
noncomputable def ae.L1.call:ae.L1.D→Option ae.L1.X:=dk ae.L1.E ae.L1.st
noncomputable def ae.L2.E:=bO.cz ae.L2.st ae.L2.aB ae.L2.add ae.L2.F ae.L2.out
noncomputable def ae.L2.call:ae.L2.D→Option ae.L2.X:=dk ae.L2.E ae.L2.st
noncomputable def ae.an:eA:= {bI:=[25,74],loops:=jY [(3,{bm:=[1,2,3,4],sites:=[2,3,36],ix:=[⟨3,[.fst],36,36⟩]}),(9,{bm:=[1,2,3,6],sites:=[2,3,36,91],ix:=[⟨3,[.snd,.fst],91,37⟩]}),(13,{bm:=[1,2,3,6,7,8],sites:=[2,3,7,36,84,91],ix:=[⟨7,[.snd,.fst,.fst],84,22⟩]})],outs:=jX [(3,{bm:=[1,2,3],sites:=[2,3,36]},{bm:=[2]}),(9,{bm:=[2,3],sites:=[2,3,36,91]},{bm:=[2]}),(13,{bm:=[1,2,3,6,7],sites:=[2,3,7,36,84,91]},{bm:=[2]})],fJ:=kF [(3,ae.L0.E),(9,ae.L1.E),(13,ae.L2.E)]}
noncomputable def ae.A:= @cJ Tryz.prog ae.G ae.an 0 Tryz.f23 _ ae.st
abbrev ae.Ok:=cK @ae.A ae.aB ae.add ae.F ae.out
noncomputable def ae.L0.R:= @cg Tryz.prog ae.G ae.an 0 Tryz.f23 0 _ ae.L0.st
abbrev ae.L0.Ok:=eB Tryz.prog ae.G ae.an 0 Tryz.f23 0 ae.L0.st ae.L0.aB ae.L0.add ae.L0.F ae.L0.out
noncomputable def ae.L1.R:= @cg Tryz.prog ae.G ae.an 0 Tryz.f23 1 _ ae.L1.st
abbrev ae.L1.Ok:=eB Tryz.prog ae.G ae.an 0 Tryz.f23 1 ae.L1.st ae.L1.aB ae.L1.add ae.L1.F ae.L1.out
noncomputable def ae.L2.R:= @cg Tryz.prog ae.G ae.an 0 Tryz.f23 2 _ ae.L2.st
abbrev ae.L2.Ok:=eB Tryz.prog ae.G ae.an 0 Tryz.f23 2 ae.L2.st ae.L2.aB ae.L2.add ae.L2.F ae.L2.out
theorem ae.L0.run:bC ae.L0.call ae.L0.aB ae.L0.add ae.L0.F:=eI (eD [.d gg,.d ti,.d (.pair ti .unit),.n,.d (.pair ti .unit),.d (.slice eH)] fun _=>by kernel_rfl)
theorem ae.L0.aG:fR @ae.L0.R ae.L0.st ae.L0.aB ae.L0.add ae.L0.F ae.L0.bt ae.L0.Ok:=fV
theorem ae.L0.step{R:Type}(t_2:fb)(i:Int)(n2:(Int×Unit))(n3L:Nat)(n3:(Int×Unit))(n36:(List fD))(kn:AS→Option R)(kx:Exit→AS→Option R):ae.L0.R (t_2,i,n2,n3L,n3,n36) kn kx=
  aJ ((fZ i (((List.length t_2.1):Nat):Int))) (
   aJ (ei i (((List.length t_2.1):Nat):Int)) (
   aJ (dm (0+(List.length (nth eH t_2.1 (Int.toNat i)).2.1.2.1)) 16) (
   aJ (decide (0=0∧(0+(0+(List.length (nth eH t_2.1 (Int.toNat i)).2.1.2.1)))≤(List.length ((List.take 0 (List.replicate 0 ((0:Int),((0:Int),()))))++(nth eH t_2.1 (Int.toNat i)).2.1.2.1)))) (
   aJ (decide (n3L≤(List.length n36))) (
   aJ (dm (n3L+1) 80) (
   kn (ae.L0.st (t_2,(bM .i64 i (1:Int)),n2,(n3L+1),n3,((List.take n3L n36)++ [((nth eH t_2.1 (Int.toNat i)).1,(((nth eH t_2.1 (Int.toNat i)).2.1.1,((cut ((List.take 0 (List.replicate 0 ((0:Int),((0:Int),()))))++(nth eH t_2.1 (Int.toNat i)).2.1.2.1) 0 (0+(List.length (nth eH t_2.1 (Int.toNat i)).2.1.2.1))),(nth eH t_2.1 (Int.toNat i)).2.1.2.2)),(nth eH t_2.1 (Int.toNat i)).2.2))])))) none) none) none) none) none) (
   kx (ae.L0.bt ((t_2,n2,n3),(n3L,n36))).1 (ae.L0.bt ((t_2,n2,n3),(n3L,n36))).2):=by kernel_rfl
theorem ae.L1.run:bC ae.L1.call ae.L1.aB ae.L1.add ae.L1.F:=eI (eD [.d gg,.d ti,.d (.pair ti .unit),.n,.n,.d (.pair ti .unit),.d (.slice eH),.d (.slice eU)] fun _=>by kernel_rfl)
theorem ae.L1.aG:fR @ae.L1.R ae.L1.st ae.L1.aB ae.L1.add ae.L1.F ae.L1.bt ae.L1.Ok:=fV
theorem ae.L1.step{R:Type}(t_3:fb)(i_2:Int)(n2_2:(Int×Unit))(n3L_2:Nat)(n3L_3:Nat)(n3_2:(Int×Unit))(n36_2:(List fD))(n91:(List gh))(kn:AS→Option R)(kx:Exit→AS→Option R):ae.L1.R (t_3,i_2,n2_2,n3L_2,n3L_3,n3_2,n36_2,n91) kn kx=
  aJ ((fZ i_2 (((List.length t_3.2.1):Nat):Int))) (
   aJ (ei i_2 (((List.length t_3.2.1):Nat):Int)) (
   ah (ae.L2.call (t_3,i_2,(0:Int),n2_2,n3L_2,n3L_3,n3_2,(nth eU t_3.2.1 (Int.toNat i_2)).1,0,n36_2,([]:List fU),n91)) fun x1=>
   aJ (decide (0=0∧(0+x1.2.1)≤(List.length x1.2.2))) (
   aJ (decide (x1.1.2.2.2.2.1≤(List.length x1.1.2.2.2.2.2.2.2.2))) (
   aJ (dm (x1.1.2.2.2.2.1+1) 32) (
   kn (ae.L1.st (x1.1.1,(bM .i64 x1.1.2.1 (1:Int)),x1.1.2.2.1,x1.1.2.2.2.1,(x1.1.2.2.2.2.1+1),x1.1.2.2.2.2.2.1,x1.1.2.2.2.2.2.2.2.1,((List.take x1.1.2.2.2.2.1 x1.1.2.2.2.2.2.2.2.2)++ [(x1.1.2.2.2.2.2.2.1,(((cut x1.2.2 0 x1.2.1),()),()))])))) none) none) none) none) (
   kx (ae.L1.bt (n2_2,n3L_2,n3L_3,n3_2,n36_2,n91)).1 (ae.L1.bt (n2_2,n3L_2,n3L_3,n3_2,n36_2,n91)).2):=by kernel_rfl
theorem ae.L2.run:bC ae.L2.call ae.L2.aB ae.L2.add ae.L2.F:=eI (eD [.d gg,.d ti,.d ti,.d (.pair ti .unit),.n,.n,.d (.pair ti .unit),.d ti,.n,.d (.slice eH),.d (.slice fk),.d (.slice eU)] fun _=>by kernel_rfl)
theorem ae.L2.aG:fR @ae.L2.R ae.L2.st ae.L2.aB ae.L2.add ae.L2.F ae.L2.bt ae.L2.Ok:=fV
theorem ae.L2.step{R:Type}(t_4:fb)(i_3:Int)(kv:Int)(n2_3:(Int×Unit))(n3L_4:Nat)(n3L_5:Nat)(n3_3:(Int×Unit))(n7:Int)(n7L:Nat)(n36_3:(List fD))(n84:(List fU))(n91_2:(List gh))(kn:AS→Option R)(kx:Exit→AS→Option R):ae.L2.R (t_4,i_3,kv,n2_3,n3L_4,n3L_5,n3_3,n7,n7L,n36_3,n84,n91_2) kn kx=
  aJ (ei i_3 (((List.length t_4.2.1):Nat):Int)) (
  aJ ((fZ kv (((List.length (nth eU t_4.2.1 (Int.toNat i_3)).2.1.1):Nat):Int))) (
   aJ (ei i_3 (((List.length t_4.2.1):Nat):Int)) (
   aJ (ei kv (((List.length (nth eU t_4.2.1 (Int.toNat i_3)).2.1.1):Nat):Int)) (
   aJ (dm (0+(List.length (nth fk (nth eU t_4.2.1 (Int.toNat i_3)).2.1.1 (Int.toNat kv)).1)) 8) (
   aJ (decide (0=0∧(0+(0+(List.length (nth fk (nth eU t_4.2.1 (Int.toNat i_3)).2.1.1 (Int.toNat kv)).1)))≤(List.length ((List.take 0 (List.replicate 0 (0:Int)))++(nth fk (nth eU t_4.2.1 (Int.toNat i_3)).2.1.1 (Int.toNat kv)).1)))) (
   aJ (decide (n7L≤(List.length n84))) (
   aJ (dm (n7L+1) 48) (
   kn (ae.L2.st (t_4,i_3,(bM .i64 kv (1:Int)),n2_3,n3L_4,n3L_5,n3_3,n7,(n7L+1),n36_3,((List.take n7L n84)++ [((cut ((List.take 0 (List.replicate 0 (0:Int)))++(nth fk (nth eU t_4.2.1 (Int.toNat i_3)).2.1.1 (Int.toNat kv)).1) 0 (0+(List.length (nth fk (nth eU t_4.2.1 (Int.toNat i_3)).2.1.1 (Int.toNat kv)).1))),(nth fk (nth eU t_4.2.1 (Int.toNat i_3)).2.1.1 (Int.toNat kv)).2)]),n91_2))) none) none) none) none) none) none) (
   kx (ae.L2.bt ((t_4,i_3,n2_3,n3L_4,n3L_5,n3_3,n7,n36_3,n91_2),(n7L,n84))).1 (ae.L2.bt ((t_4,i_3,n2_3,n3L_4,n3L_5,n3_3,n7,n36_3,n91_2),(n7L,n84))).2)) none:=by kernel_rfl
theorem ae.eq{R:Type}(t:fb)(k:a9→Option R):ae.A t k=
 ah (ae.L0.call (t,(0:Int),((0:Int),()),0,(t.2.2.1,()),([]:List fD))) fun x1=>
 ah (ae.L1.call (x1.1.1,(0:Int),x1.1.2.1,x1.2.1,0,x1.1.2.2,x1.2.2,([]:List gh))) fun x4=>
 k (ae.out (x4.2.1,x4.2.2.1,x4.2.2.2.1,x4.2.2.2.2.1,x4.2.2.2.2.2)):=by kernel_rfl
theorem ae.L0.ok:ae.L0.Ok:=by
 refine ae.L0.aG (fun(t,i,u,L,v,r)=>(t.1).length - Int.toNat i) ?_
 rintro⟨t,i,u,L,v,r⟩ ⟨hlen,k,hk,rfl,rfl,hrow,hx⟩
 have hlen:(t.1).length≤1000000:=hlen
 have hk:k≤(t.1).length:=hk
 have hrow:(r).length≤1000000+k:=hrow
 have hx:∀x∈t.1,x.2.1.2.1.length≤1000000:=hx
 by_cases h:k < (t.1).length
 ·left
  have n1:nth eH t.1 k=t.1[k]:=cC (t:=eH) h
  have hd:List.drop k t.1=t.1[k]::List.drop (k+1) t.1:=List.drop_eq_getElem_cons h
  refine⟨(t,((k+1:Nat):Int),u,(r).length+1,v,r++ [(fun x:fD=>x) t.1[k]]),⟨hlen,k+1,by omega,rfl,by rw[List.length_append];rfl,by rw[List.length_append];show(r).length+1≤_;omega,hx⟩,by simp only[Int.toNat_natCast];omega,?_,fun kn kx=> ?_⟩
  ·simp only[ae.L0.add,ae.L0.F,Int.toNat_natCast,hd,List.map_cons,List.length_cons,List.append_assoc,List.singleton_append]
   rw[show ∀a c:Nat,a+1+c=a+(c+1) from fun a c=>by omega]
  ·rw[ae.L0.step,bu (by omega),bo (show(0:Int)≤(k:Int) by omega) (by omega),Int.toNat_natCast,n1]
   simp only[av]
   have e:=hx _ (List.getElem_mem h)
   have hr:dm t.1[k].2.1.2.1.length 16=true:=eE (by omega) (by omega)
   simp only[Nat.zero_add,List.take_zero,List.nil_append,hr,av,Nat.le_refl,and_self,decide_true,fg]
   rw[eE (by omega) (by omega),N.kM (by omega),List.take_length]
   rfl
 ·right
  obtain rfl:k=(t.1).length:=by omega
  intro R kn kx
  rw[ae.L0.step,bj (by omega),ay]
  simp only[ae.L0.add,ae.L0.F,Int.toNat_natCast,List.drop_length,List.map_nil,List.append_nil,List.length_nil,Nat.add_zero]
theorem ae.L2.ok:ae.L2.Ok:=by
 refine ae.L2.aG (fun(t,j,i,u,L4,L5,v,am,L,is,r,os)=>((nth eU t.2.1 (Int.toNat j)).2.1.1).length - Int.toNat i) ?_
 rintro⟨t,j,i,u,L4,L5,v,am,L,is,r,os⟩ ⟨hlen,k,hk,rfl,rfl,hrow,hj,hx⟩
 have hlen:((nth eU t.2.1 (Int.toNat j)).2.1.1).length≤1000000:=hlen
 have hk:k≤((nth eU t.2.1 (Int.toNat j)).2.1.1).length:=hk
 have hrow:(r).length≤1000000+k:=hrow
 have hj:0≤j∧j < (t.2.1.length:Int):=hj
 have hx:∀x∈(nth eU t.2.1 (Int.toNat j)).2.1.1,x.1.length≤1000000:=hx
 by_cases h:k < ((nth eU t.2.1 (Int.toNat j)).2.1.1).length
 ·left
  have n1:nth fk (nth eU t.2.1 (Int.toNat j)).2.1.1 k=(nth eU t.2.1 (Int.toNat j)).2.1.1[k]:=cC (t:=fk) h
  have hd:List.drop k (nth eU t.2.1 (Int.toNat j)).2.1.1=(nth eU t.2.1 (Int.toNat j)).2.1.1[k]::List.drop (k+1) (nth eU t.2.1 (Int.toNat j)).2.1.1:=List.drop_eq_getElem_cons h
  refine⟨(t,j,((k+1:Nat):Int),u,L4,L5,v,am,(r).length+1,is,r++ [(fun x:fU=>x) (nth eU t.2.1 (Int.toNat j)).2.1.1[k]],os),⟨hlen,k+1,by omega,rfl,by rw[List.length_append];rfl,by rw[List.length_append];show(r).length+1≤_;omega,hj,hx⟩,by simp only[Int.toNat_natCast];omega,?_,fun kn kx=> ?_⟩
  ·simp only[ae.L2.add,ae.L2.F,Int.toNat_natCast,hd,List.map_cons,List.length_cons,List.append_assoc,List.singleton_append]
   rw[show ∀a c:Nat,a+1+c=a+(c+1) from fun a c=>by omega]
  ·rw[ae.L2.step,bo hj.1 hj.2,av,bu (by omega),bo (show(0:Int)≤(k:Int) by omega) (by omega),Int.toNat_natCast,n1]
   simp only[av]
   have e:=hx _ (List.getElem_mem h)
   have hr:dm (nth eU t.2.1 (Int.toNat j)).2.1.1[k].1.length 8=true:=eE (by omega) (by omega)
   simp only[Nat.zero_add,List.take_zero,List.nil_append,hr,av,Nat.le_refl,and_self,decide_true,fg]
   rw[eE (by omega) (by omega),N.kM (by omega),List.take_length]
   rfl
 ·right
  obtain rfl:k=((nth eU t.2.1 (Int.toNat j)).2.1.1).length:=by omega
  intro R kn kx
  rw[ae.L2.step,bo hj.1 hj.2,av,bj (by omega),ay]
  simp only[ae.L2.add,ae.L2.F,Int.toNat_natCast,List.drop_length,List.map_nil,List.append_nil,List.length_nil,Nat.add_zero]
theorem ae.L1.ok:ae.L1.Ok:=by
 refine ae.L1.aG (fun(t,i,u,L3,L,v,is,r)=>t.2.1.length - i.toNat) ?_
 rintro⟨t,i,u,L3,L,v,is,r⟩ ⟨⟨hl,hx⟩,k,hk,rfl,rfl,hrk⟩
 have hl:t.2.1.length≤1000:=hl
 have hk:k≤t.2.1.length:=hk
 have hrk:r.length=k:=hrk
 by_cases h:k < t.2.1.length
 ·left
  have e:=hx _ (List.getElem_mem h)
  have n1:nth eU t.2.1 k=t.2.1[k]:=cC (t:=eU) h
  have hd:t.2.1.drop k=t.2.1[k]::t.2.1.drop (k+1):=List.drop_eq_getElem_cons h
  have e1:(nth eU t.2.1 (Int.toNat (k:Int))).2.1.1=t.2.1[k].2.1.1:=by rw[Int.toNat_natCast,n1]
  refine⟨(t,((k+1:Nat):Int),u,L3,r.length+1,v,is,r++ [t.2.1[k]]),⟨⟨hl,hx⟩,k+1,by omega,rfl,by rw[List.length_append];rfl,by rw[List.length_append];show r.length+1=_;omega⟩,by simp only[Int.toNat_natCast];omega,?_,fun kn kx=> ?_⟩
  ·simp only[ae.L1.add,ae.L1.F,Int.toNat_natCast,hd,List.length_cons,List.append_assoc,List.singleton_append]
   rw[show ∀a c:Nat,a+1+c=a+(c+1) from fun a c=>by omega]
  ·rw[ae.L1.step,bu (by omega),bo (by omega) (by omega),Int.toNat_natCast,n1]
   simp only[av]
   rw[ae.L2.run (d:=(t,(k:Int),0,u,L3,r.length,v,t.2.1[k].1,0,is,[],r)) ⟨by rw[e1];omega,0,Nat.zero_le _,rfl,rfl,Nat.zero_le _,⟨by show(0:Int)≤(k:Int);omega,by show(k:Int) < (t.2.1.length:Int);omega⟩,by rw[e1];exact e.2⟩]
   simp only[aa,ae.L2.add,ae.L2.F,e1,Int.toNat_zero,List.drop_zero,List.nil_append,Nat.zero_add,List.map_id',Nat.le_refl,and_self,decide_true,av,fg]
   rw[eE (by omega) (by omega),N.kM (by omega),List.take_length]
   rfl
 ·right
  obtain rfl:k=t.2.1.length:=by omega
  intro R kn kx
  rw[ae.L1.step,bj (by omega),ay]
  simp only[ae.L1.add,ae.L1.F,Int.toNat_natCast,List.drop_length,List.append_nil,List.length_nil,Nat.add_zero]
theorem ae.ok:ae.Ok:=by
 rintro⟨is,os,nt,u⟩ ⟨⟨h1,h2⟩,h3,h4⟩
 have h1:is.length≤1000:=h1
 have h3:os.length≤1000:=h3
 rw[ae.eq,ae.L0.run (d:=((is,os,nt,u),0,(0,()),0,(nt,()),[])) ⟨by show is.length≤_;omega,0,Nat.zero_le _,rfl,rfl,Nat.zero_le _,h2⟩]
 simp only[aa,ae.L0.add,ae.L0.F,Int.toNat_zero,List.drop_zero,List.nil_append,Nat.zero_add,List.map_id']
 rw[ae.L1.run (d:=((is,os,nt,u),0,(0,()),is.length,0,(nt,()),is,[])) ⟨⟨h3,h4⟩,0,Nat.zero_le _,rfl,rfl,rfl⟩]
 simp only[aa,ae.L1.add,ae.L1.F,Int.toNat_zero,List.drop_zero,List.nil_append,Nat.zero_add]
 rfl
noncomputable def ae.E:=Entry.cz [some gg] ae.st ae.aB ae.add ae.F ae.out
noncomputable def ae.call:ae.D→Option ae.X:=bH ae.E ae.st
theorem ae.run:bC ae.call ae.aB ae.add ae.F:=cQ (cP [.d gg] fun _=>by kernel_rfl)
noncomputable def ae.sg:SG Tryz.prog:=⟨23,aU,ae.E,.fn 3 (by kernel_rfl) ae.ok (And.intro (.cz ae.L0.ok (by kernel_rfl)) (And.intro (.cz ae.L1.ok (by kernel_rfl)) (And.intro (.cz ae.L2.ok (by kernel_rfl)) trivial)))⟩
set_option synthInstance.maxSize 5000
def ph:eN:=([],true,())
def ir(r:eN):Prop:=r.1.length≤1000000000∧Bytes r.1
def gA(n:Nat)(r:eN):List Int×eN:=if r.2.1=true∨r.1.length < n then([],ph) else(r.1.take n,(r.1.drop n,r.2))
def oN(l:List Int):Int:=l.foldl (fun n b=>n*256+b) 0
def iC(r:eN):Int×eN:=(oN (gA 8 r).1,(gA 8 r).2)
theorem uR:ir ph:=⟨Nat.zero_le _,fun x hx=>by cases hx⟩
theorem kH{n:Nat}{r:eN}(h:ir r):(gA n r).1.length≤n∧Bytes (gA n r).1∧ir (gA n r).2:=by
 unfold gA
 split
 ·exact⟨Nat.zero_le _,fun x hx=>(by cases hx),uR⟩
 ·refine⟨by rw[List.length_take];omega,fun x hx=>h.2 x (List.mem_of_mem_take hx),?_,fun x hx=>h.2 x (List.mem_of_mem_drop hx)⟩
  show(r.1.drop n).length≤_
  rw[List.length_drop]
  have:=h.1
  omega
theorem z8(l:List Int)(b:Int):oN (l++ [b])=oN l*256+b:=by unfold oN;rw[List.foldl_append];rfl
theorem wO:∀(l:List Int) (n:Int) (k:Nat),Bytes l→0≤n→n < 256^k→0≤l.foldl (fun n b=>n*256+b) n∧l.foldl (fun n b=>n*256+b) n < 256^(k+l.length)
 |[],n,k,_,h0,h1=>⟨h0,h1⟩
 |b::l,n,k,hb,h0,h1=>by
  obtain⟨hx1,hx2⟩:=hb b List.mem_cons_self
  have e:(256:Int)^(k+1)=256^k*256:=Int.pow_succ 256 k
  have:=wO l (n*256+b) (k+1) (fun x hx=>hb x (List.mem_cons_of_mem _ hx)) (by omega) (by rw[e];omega)
  rw[show k+(b::l).length=k+1+l.length by rw[List.length_cons];omega]
  exact this
theorem y5{l:List Int}(h:Bytes l):0≤oN l∧oN l < 256^l.length:=by
 have:=wO l 0 0 h (Int.le_refl 0) (by decide)
 rw[Nat.zero_add]at this
 exact this
theorem ud{a b:Nat}(h:a≤b):(256:Int)^a≤256^b:=by
 have:((256^a:Nat):Int)≤((256^b:Nat):Int):=Int.ofNat_le.2 (Nat.pow_le_pow_right (by decide) h)
 rw[Int.natCast_pow,Int.natCast_pow]at this
 exact this
theorem DF{l:List Int}(h:Bytes l)(h8:l.length≤8):gm (oN l):=by
 have e:=y5 h
 have e2:=ud h8
 have e3:(256:Int)^8=18446744073709551616:=rfl
 exact⟨e.1,by omega⟩
theorem qI{r:eN}(h:ir r):gm (iC r).1∧ir (iC r).2:=⟨DF (kH h).2.1 (kH h).1,(kH h).2.2⟩
theorem Ez{n b:Int}(h0:0≤n)(h1:n < 72057594037927936)(hb:uz b):cn .or .u64 (gw .u64 n 8) (dD .u64 b)=n*256+b:=by
 have e:=(qN (n:=n) (b:=b) ⟨h0,by omega⟩ hb).1
 rw[jP 56 (by rfl) (by omega)]at e
 have p:(2:Int)^56=72057594037927936:=rfl
 rw[p]at e
 omega
abbrev dO.D:=eN
def dO.st:dO.D→SA:=fun o0=>([.ptr (.fG 0) 0 [] 0],[.obj 0 false (.d ja o0)])
abbrev dO.Y:=eN
abbrev dO.X:=eN
def dO.out:dO.X→a9:=fun x=>⟨.nil,[.obj 0 false (.d ja x)],[]⟩
def dO.add:dO.D→dO.Y→dO.X:=fun o0 y=>y
def dO.aB:dO.D→Prop:=fun _=>True
def dO.F:dO.D→dO.Y:=fun _=>ph
noncomputable def dO.G:dS:=eR (P:=Tryz.prog) []
noncomputable def dO.an:eA:= {td:=[⟨0,[.arr],ja⟩]}
noncomputable def dO.A:= @cJ Tryz.prog dO.G dO.an 0 Tryz.f113 _ dO.st
abbrev dO.Ok:=cK @dO.A dO.aB dO.add dO.F dO.out
theorem dO.eq{R:Type}(o0:eN)(k:a9→Option R):dO.A o0 k=
 k (dO.out (([]:List Int),(true,o0.2.2))):=by kernel_rfl
theorem dO.ok:dO.Ok:=by
 intro o _
 rw[dO.eq]
 rfl
noncomputable def dO.E:=Entry.cz [none] dO.st dO.aB dO.add dO.F dO.out
noncomputable def dO.call:dO.D→Option dO.X:=bH dO.E dO.st
theorem dO.run:bC dO.call dO.aB dO.add dO.F:=cQ (cP [.d ja] fun _=>by kernel_rfl)
noncomputable def dO.sg:SG Tryz.prog:=⟨113,aU,dO.E,.fn 0 (by kernel_rfl) dO.ok trivial⟩
abbrev ed.D:=eN
def ed.st:ed.D→SA:=fun o0=>([.ptr (.fG 0) 0 [] 0],[.obj 0 false (.d ja o0)])
abbrev ed.Y:=Int
abbrev ed.X:=(eN)×(Int)
def ed.out:ed.X→a9:=fun x=>⟨.d ti x.2,[.obj 0 false (.d ja x.1)],[]⟩
def ed.add:ed.D→ed.Y→ed.X:=fun o0 y=>(o0,y)
def ed.aB:ed.D→Prop:=fun _=>True
def ed.F:ed.D→ed.Y:=fun o=>(o.1.length:Int)
noncomputable def ed.G:dS:=eR (P:=Tryz.prog) []
noncomputable def ed.an:eA:= {}
noncomputable def ed.A:= @cJ Tryz.prog ed.G ed.an 0 Tryz.f80 _ ed.st
abbrev ed.Ok:=cK @ed.A ed.aB ed.add ed.F ed.out
theorem ed.eq{R:Type}(o0:eN)(k:a9→Option R):ed.A o0 k=
 k (ed.out (o0,(((List.length o0.1):Nat):Int))):=by kernel_rfl
theorem ed.ok:ed.Ok:=by
 intro o _
 rw[ed.eq]
 rfl
noncomputable def ed.E:=Entry.cz [none] ed.st ed.aB ed.add ed.F ed.out
noncomputable def ed.call:ed.D→Option ed.X:=bH ed.E ed.st
theorem ed.run:bC ed.call ed.aB ed.add ed.F:=cQ (cP [.d ja] fun _=>by kernel_rfl)
noncomputable def ed.sg:SG Tryz.prog:=⟨80,aU,ed.E,.fn 0 (by kernel_rfl) ed.ok trivial⟩
abbrev fA.D:=eN
def fA.st:fA.D→SA:=fun o0=>([.ptr (.fG 0) 0 [] 0],[.obj 0 false (.d ja o0)])
abbrev fA.Y:=Bool
abbrev fA.X:=(eN)×(Bool)
def fA.out:fA.X→a9:=fun x=>⟨.d .bool x.2,[.obj 0 false (.d ja x.1)],[]⟩
def fA.add:fA.D→fA.Y→fA.X:=fun o0 y=>(o0,y)
def fA.aB:fA.D→Prop:=fun _=>True
def fA.F:fA.D→fA.Y:=fun o=> !o.2.1
noncomputable def fA.G:dS:=eR (P:=Tryz.prog) []
noncomputable def fA.an:eA:= {}
noncomputable def fA.A:= @cJ Tryz.prog fA.G fA.an 0 Tryz.f79 _ fA.st
abbrev fA.Ok:=cK @fA.A fA.aB fA.add fA.F fA.out
theorem fA.eq{R:Type}(o0:eN)(k:a9→Option R):fA.A o0 k=
 k (fA.out (o0,(!o0.2.1))):=by kernel_rfl
theorem fA.ok:fA.Ok:=by
 intro o _
 rw[fA.eq]
 rfl
noncomputable def fA.E:=Entry.cz [none] fA.st fA.aB fA.add fA.F fA.out
noncomputable def fA.call:fA.D→Option fA.X:=bH fA.E fA.st
theorem fA.run:bC fA.call fA.aB fA.add fA.F:=cQ (cP [.d ja] fun _=>by kernel_rfl)
noncomputable def fA.sg:SG Tryz.prog:=⟨79,aU,fA.E,.fn 0 (by kernel_rfl) fA.ok trivial⟩
abbrev dv.D:=Int×eN
def dv.st:dv.D→SA:=fun(n,o0)=>([.ptr (.fG 0) 0 [] 0,.d ti n],[.obj 0 false (.d ja o0)])
abbrev dv.Y:=Bs×eN
abbrev dv.X:=Bs×eN
def dv.out:dv.X→a9:=fun x=>⟨.d tB x.1,[.obj 0 false (.d ja x.2)],[]⟩
def dv.add:dv.D→dv.Y→dv.X:=fun(n,o0) y=>y
def dv.aB:dv.D→Prop:=fun(n,o)=>0≤n∧o.1.length≤1000000000
def dv.F:dv.D→dv.Y:=fun(n,o)=>gA n.toNat o
noncomputable def dv.G:dS:=eR (P:=Tryz.prog) [dO.sg,cm.sg]
noncomputable def dv.an:eA:= {res:=[some tB],td:=[⟨0,[.arr],ja⟩]}
noncomputable def dv.A:= @cJ Tryz.prog dv.G dv.an 0 Tryz.f114 _ dv.st
abbrev dv.Ok:=cK @dv.A dv.aB dv.add dv.F dv.out
theorem dv.eq{R:Type}(n:Int)(o0:eN)(k:a9→Option R):dv.A (n,o0) k=
  aJ (o0.2.1) (
   ah (dO.call o0) fun x1=>
   k (dv.out (([]:List Int),x1))) (
   aJ ((oJ n (((List.length o0.1):Nat):Int))) (
    ah (dO.call o0) fun x2=>
    k (dv.out (([]:List Int),x2))) (
    aJ (inc n (((List.length o0.1):Nat):Int)) (
    ah (cm.call (cut o0.1 0 ((Int.toNat n) - 0))) fun x3=>
    aJ (inc n (((List.length o0.1):Nat):Int)) (
    aJ (decide (0=0∧(0+x3.1)≤(List.length x3.2))) (
    k (dv.out ((cut x3.2 0 x3.1),((cut o0.1 (Int.toNat n) ((List.length o0.1) - (Int.toNat n))),o0.2)))) none) none) none)):=by kernel_rfl
theorem dv.ok:dv.Ok:=by
 rintro⟨n,o⟩ ⟨h0,hl⟩
 have h0:0≤n:=h0
 have hl:o.1.length≤1000000000:=hl
 obtain⟨k,rfl⟩:∃k:Nat,n=k:=⟨n.toNat,by omega⟩
 rw[dv.eq]
 simp only[dv.add,dv.F,gA,Int.toNat_natCast,Nat.sub_zero]
 cases h2:o.2.1
 ·by_cases hn:o.1.length < k
  ·rw[ek (by omega),if_pos (Or.inr hn),dO.run (d:=o) trivial];rfl
  ·have e1:cut o.1 0 k=o.1.take k:=rfl
   have e2:cut o.1 k (o.1.length - k)=o.1.drop k:=by unfold cut;rw[List.take_of_length_le];rw[List.length_drop];omega
   rw[dR (by omega),if_neg (by intro x;rcases x with x | x;exact absurd x (by decide);exact hn x),kQ (by omega) (by omega),e1,e2,cm.run (d:=o.1.take k) (by show(o.1.take k).length≤_;rw[List.length_take];omega)]
   simp only[ay,av,aa,cm.add,cm.F,Nat.zero_add,Nat.le_refl,and_self,decide_true,fg]
 ·rw[av,if_pos (Or.inl rfl),dO.run (d:=o) trivial];rfl
noncomputable def dv.E:=Entry.cz [none,some ti] dv.st dv.aB dv.add dv.F dv.out
noncomputable def dv.call:dv.D→Option dv.X:=bH dv.E dv.st
theorem dv.run:bC dv.call dv.aB dv.add dv.F:=cQ (cP [.d ti,.d ja] fun _=>by kernel_rfl)
noncomputable def dv.sg:SG Tryz.prog:=⟨114,aU,dv.E,.fn 0 (by kernel_rfl) dv.ok trivial⟩
abbrev ck.L0.D:=Int×Bs×Int×Int×eN
def ck.L0.st:ck.L0.D→AS:=fun(n,t7,t8,t9,o0_2)=>⟨([.undef,.undef,.undef,.d tu n,.undef,.undef,.undef,.d tB t7,.d ti t8,.d ti t9]++bg 10 []),[.obj 0 false (.d ja o0_2)],(List.replicate 20 [])⟩
abbrev ck.L0.Y0:=Int
abbrev ck.L0.X0:=(eN)×(Int)
def ck.L0.bt:ck.L0.X0→Exit×AS:=fun x=>(.exit 0,⟨([.undef,.undef,.undef,.d tu x.2]++bg 16 []),[.obj 0 false (.d ja x.1)],(List.replicate 20 [])⟩)
abbrev ck.L0.X:=ck.L0.X0
abbrev ck.L0.Y:=ck.L0.Y0
def ck.L0.out:ck.L0.X→Out (Exit×AS):=fun x=> .ok (ck.L0.bt x)
def ck.L0.add:ck.L0.D→ck.L0.Y→ck.L0.X:=fun(n,t7,t8,t9,o0_2) y=>(o0_2,y)
abbrev ck.D:=eN
def ck.st:ck.D→SA:=fun o0=>([.ptr (.fG 0) 0 [] 0],[.obj 0 false (.d ja o0)])
abbrev ck.Y:=Int×eN
abbrev ck.X:=Int×eN
def ck.out:ck.X→a9:=fun x=>⟨.d tu x.1,[.obj 0 false (.d ja x.2)],[]⟩
def ck.add:ck.D→ck.Y→ck.X:=fun o0 y=>y
def ck.L0.aB:ck.L0.D→Prop:=fun(n,l,m,i,o)=>Bytes l∧l.length≤8∧m=l.length∧∃k:Nat,k≤l.length∧i=k∧n=oN (l.take k)
def ck.L0.F:ck.L0.D→ck.L0.Y:=fun(n,l,m,i,o)=>oN l
def ck.aB:ck.D→Prop:=fun o=>ir o
def ck.F:ck.D→ck.Y:=fun o=>iC o
noncomputable def ck.G:dS:=eR (P:=Tryz.prog) [dv.sg]
noncomputable def ck.L0.E:=bO.cz ck.L0.st ck.L0.aB ck.L0.add ck.L0.F ck.L0.out
noncomputable def ck.L0.call:ck.L0.D→Option ck.L0.X:=dk ck.L0.E ck.L0.st
noncomputable def ck.an:eA:= {loops:=jY [(3,{bm:=[3,7,8,9]})],outs:=jX [(3,{bm:=[3]},{bm:=[2]})],fJ:=kF [(3,ck.L0.E)]}
noncomputable def ck.A:= @cJ Tryz.prog ck.G ck.an 0 Tryz.f57 _ ck.st
abbrev ck.Ok:=cK @ck.A ck.aB ck.add ck.F ck.out
noncomputable def ck.L0.R:= @cg Tryz.prog ck.G ck.an 0 Tryz.f57 0 _ ck.L0.st
abbrev ck.L0.Ok:=eB Tryz.prog ck.G ck.an 0 Tryz.f57 0 ck.L0.st ck.L0.aB ck.L0.add ck.L0.F ck.L0.out
theorem ck.L0.run:bC ck.L0.call ck.L0.aB ck.L0.add ck.L0.F:=eI (eD [.d tu,.d tB,.d ti,.d ti,.d ja] fun _=>by kernel_rfl)
theorem ck.L0.aG:fR @ck.L0.R ck.L0.st ck.L0.aB ck.L0.add ck.L0.F ck.L0.bt ck.L0.Ok:=fV
theorem ck.L0.step{R:Type}(n:Int)(t7:Bs)(t8:Int)(t9:Int)(o0_2:eN)(kn:AS→Option R)(kx:Exit→AS→Option R):ck.L0.R (n,t7,t8,t9,o0_2) kn kx=
  aJ ((fZ t9 t8)) (
   aJ (ei t9 (((List.length t7):Nat):Int)) (
   kn (ck.L0.st ((cn .or .u64 (gw .u64 n (8:Int)) (dD .u64 (nth tb t7 (Int.toNat t9)))),t7,t8,(bM .i64 t9 (1:Int)),o0_2))) none) (
   kx (ck.L0.bt (o0_2,n)).1 (ck.L0.bt (o0_2,n)).2):=by kernel_rfl
theorem ck.eq{R:Type}(o0:eN)(k:a9→Option R):ck.A o0 k=
 ah (dv.call ((8:Int),o0)) fun x1=>
 ah (ck.L0.call ((0:Int),x1.1,(((List.length x1.1):Nat):Int),(0:Int),x1.2)) fun x2=>
 k (ck.out (x2.2,x2.1)):=by kernel_rfl
theorem ck.L0.ok:ck.L0.Ok:=by
 refine ck.L0.aG (fun(n,l,m,i,o)=>l.length - i.toNat) ?_
 rintro⟨n,l,m,i,o⟩ ⟨hb,h8,rfl,k,hk,rfl,rfl⟩
 have h8:l.length≤8:=h8
 have hk:k≤l.length:=hk
 by_cases h:k < l.length
 ·left
  have hx:=hb _ (List.getElem_mem h)
  have n1:nth (.int .u8) l k=l[k]:=cC (t:= .int .u8) h
  have ht:(l.take k).length=k:=by rw[List.length_take];omega
  have b0:=y5 (l:=l.take k) fun x hx=>hb x (List.mem_of_mem_take hx)
  rw[ht]at b0
  have b1:=ud (show k≤7 by omega)
  have b2:(256:Int)^7=72057594037927936:=rfl
  refine⟨(oN (l.take (k+1)),l,l.length,((k+1:Nat):Int),o),⟨hb,h8,rfl,k+1,by omega,rfl,rfl⟩,by simp only[Int.toNat_natCast];omega,rfl,fun kn kx=> ?_⟩
  rw[ck.L0.step,bu (by omega),bo (by omega) (by omega),Int.toNat_natCast,n1,N.kM (by omega),Ez b0.1 (by omega) hx,List.take_succ_eq_append_getElem h,z8]
  rfl
 ·right
  obtain rfl:k=l.length:=by omega
  intro R kn kx
  rw[ck.L0.step,bj (by omega),ay,List.take_length]
  rfl
theorem ck.ok:ck.Ok:=by
 intro o h
 have h:ir o:=h
 have t:=kH (n:=8) h
 rw[ck.eq,dv.run (d:=(8,o)) ⟨by decide,h.1⟩]
 simp only[aa,dv.add,dv.F]
 rw[show Int.toNat 8=8 from rfl,ck.L0.run (d:=(0,(gA 8 o).1,(gA 8 o).1.length,0,(gA 8 o).2)) ⟨t.2.1,t.1,rfl,0,Nat.zero_le _,rfl,rfl⟩]
 rfl
noncomputable def ck.E:=Entry.cz [none] ck.st ck.aB ck.add ck.F ck.out
noncomputable def ck.call:ck.D→Option ck.X:=bH ck.E ck.st
theorem ck.run:bC ck.call ck.aB ck.add ck.F:=cQ (cP [.d ja] fun _=>by kernel_rfl)
noncomputable def ck.sg:SG Tryz.prog:=⟨57,aU,ck.E,.fn 1 (by kernel_rfl) ck.ok (And.intro (.cz ck.L0.ok (by kernel_rfl)) trivial)⟩
abbrev dI.D:=Bs
def dI.st:dI.D→SA:=fun b=>([.d tB b],[])
abbrev dI.Y:=eN
abbrev dI.X:=eN
def dI.out:dI.X→a9:=fun x=>⟨.ptr (.new 0 0) 0 [] 0,[],[.obj 0 false (.d ja x)]⟩
def dI.add:dI.D→dI.Y→dI.X:=fun b y=>y
def dI.aB:dI.D→Prop:=fun b=>b.length≤1000000000
def dI.F:dI.D→dI.Y:=fun b=>(b,false,())
noncomputable def dI.G:dS:=eR (P:=Tryz.prog) [cm.sg]
noncomputable def dI.an:eA:= {bI:=[6],td:=[⟨2,[.arr],ja⟩]}
noncomputable def dI.A:= @cJ Tryz.prog dI.G dI.an 0 Tryz.f55 _ dI.st
abbrev dI.Ok:=cK @dI.A dI.aB dI.add dI.F dI.out
theorem dI.eq{R:Type}(b:Bs)(k:a9→Option R):dI.A b k=
 ah (cm.call b) fun x1=>
 aJ (decide (0=0∧(0+x1.1)≤(List.length x1.2))) (
 k (dI.out ((cut x1.2 0 x1.1),(false,())))) none:=by kernel_rfl
theorem dI.ok:dI.Ok:=by
 intro b hb
 have hb:b.length≤1000000000:=hb
 rw[dI.eq,cm.run (d:=b) (by show b.length≤_;omega)]
 simp only[aa,cm.add,cm.F,Nat.zero_add,Nat.le_refl,and_self,decide_true,av,fg]
 rfl
noncomputable def dI.E:=Entry.cz [some tB] dI.st dI.aB dI.add dI.F dI.out
noncomputable def dI.call:dI.D→Option dI.X:=bH dI.E dI.st
theorem dI.run:bC dI.call dI.aB dI.add dI.F:=cQ (cP [.d tB] fun _=>by kernel_rfl)
noncomputable def dI.sg:SG Tryz.prog:=⟨55,aU,dI.E,.fn 0 (by kernel_rfl) dI.ok trivial⟩
abbrev cI.D:=Int×eN
def cI.st:cI.D→SA:=fun(o0,o2)=>([.ptr (.fG 0) 0 [] 0,.ptr (.fG 1) 0 [] 0],[.obj 0 false (.d ti o0),.obj 0 false (.ptr (.fG 2) 0 [] 0),.obj 0 false (.d ja o2)])
abbrev cI.Y:=Bool
abbrev cI.X:=(Int×eN)×(Bool)
def cI.out:cI.X→a9:=fun x=>⟨.d .bool x.2,[.obj 0 false (.d ti x.1.1),.obj 0 false (.ptr (.fG 2) 0 [] 0),.obj 0 false (.d ja x.1.2)],[]⟩
def cI.add:cI.D→cI.Y→cI.X:=fun(o0,o2) y=>((o0,o2),y)
def cI.aB:cI.D→Prop:=fun(a,o)=>0≤a
def cI.F:cI.D→cI.Y:=fun(a,o)=>decide (o.1.length≤a.toNat∨8 < a.toNat∨(0 < a.toNat∧nth (.int .u8) o.1 a.toNat=0))
noncomputable def cI.G:dS:=eR (P:=Tryz.prog) []
noncomputable def cI.an:eA:= {}
noncomputable def cI.A:= @cJ Tryz.prog cI.G cI.an 0 Tryz.f112 _ cI.st
abbrev cI.Ok:=cK @cI.A cI.aB cI.add cI.F cI.out
theorem cI.eq{R:Type}(o0:Int)(o2:eN)(k:a9→Option R):cI.A (o0,o2) k=
  aJ ((mU o0 (((List.length o2.1):Nat):Int))) (
   k (cI.out ((o0,o2),true))) (
   aJ ((oJ o0 (8:Int))) (
    k (cI.out ((o0,o2),true))) (
    aJ ((oJ o0 (0:Int))) (
     aJ (ei o0 (((List.length o2.1):Nat):Int)) (
     k (cI.out ((o0,o2),(kI (nth tb o2.1 (Int.toNat o0)) (0:Int))))) none) (
     k (cI.out ((o0,o2),false))))):=by kernel_rfl
theorem cI.ok:cI.Ok:=by
 rintro⟨a,o⟩ h0
 obtain⟨k,rfl⟩:∃k:Nat,a=k:=⟨a.toNat,by have h0:0≤a:=h0;omega⟩
 rw[cI.eq]
 simp only[cI.add,cI.F,Int.toNat_natCast]
 by_cases h1:o.1.length≤k
 ·rw[fX (by omega),aO (Or.inl h1)];rfl
 by_cases h2:8 < k
 ·rw[eJ (by omega),ek (by omega),aO (Or.inr (Or.inl h2))];rfl
 by_cases h3:0 < k
 ·rw[eJ (by omega),dR (by omega),ek (by omega),bo (by omega) (by omega)]
  simp only[ay,av]
  by_cases h4:nth (.int .u8) o.1 k=0
  ·rw[cl h4,aO (Or.inr (Or.inr ⟨h3,h4⟩))]
  ·rw[eP h4,aM (by rintro(x | x | x);exact h1 x;exact h2 x;exact h4 x.2)]
 ·rw[eJ (by omega),dR (by omega),dR (by omega),aM (by rintro(x | x | x);exact h1 x;exact h2 x;exact h3 x.1)];rfl
noncomputable def cI.E:=Entry.cz [none,none] cI.st cI.aB cI.add cI.F cI.out
noncomputable def cI.call:cI.D→Option cI.X:=bH cI.E cI.st
theorem cI.run:bC cI.call cI.aB cI.add cI.F:=cQ (cP [.d ti,.d ja] fun _=>by kernel_rfl)
noncomputable def cI.sg:SG Tryz.prog:=⟨112,aU,cI.E,.fn 0 (by kernel_rfl) cI.ok trivial⟩
set_option synthInstance.maxSize 5000
def kV:List Int→Nat→Int→(Int×Nat)⊕Unit
 |[],_,_=> .inr ()
 |d::l,a,n=>if 8 < a∨(0 < a∧d=0) then .inr () else if d < 128 then .inl (n+d%128*128^a,a+1) else kV l (a+1) (n+d%128*128^a)
def dh(r:eN):Int×eN:=match kV r.1 0 0 with | .inl v=>(v.1,(r.1.drop v.2,r.2)) | .inr _=>(0,ph)
theorem yp(k:Nat):(128:Int)^k=((128^k:Nat):Int):=by rw[Int.natCast_pow];rfl
theorem v3{n d k:Nat}(hk:k≤8)(hn:n < 128^k)(hd:d < 128):cn .or .i64 (n:Int) (gw .i64 (d:Int) ((7*k:Nat):Int))=((n+d*128^k:Nat):Int)∧n+d*128^k < 128^(k+1)∧128^(k+1)≤9223372036854775808:=by
 have p:128^k≤128^8:=Nat.pow_le_pow_right (by decide) hk
 have p8:128^8=72057594037927936:=rfl
 have e1:128^(k+1)=128^k*128:=Nat.pow_succ (n:=128) (m:=k)
 have e2:2^(7*k)=128^k:=by rw[Nat.pow_mul]
 have e3:d*128^k≤127*128^k:=Nat.mul_le_mul_right _ (by omega)
 refine⟨?_,by omega,by omega⟩
 have s:gw .i64 (d:Int) ((7*k:Nat):Int)=((d*128^k:Nat):Int):=by
  rw[gw]
  have e:min (Int.toNat ((7*k:Nat):Int)) IntKind.i64.bits=7*k:=by simp only[IntKind.bits,Int.toNat_natCast];omega
  rw[e,show(2:Int)^(7*k)=((2^(7*k):Nat):Int) by rw[Int.natCast_pow];rfl,e2,←Int.natCast_mul]
  exact je (by omega) (by omega)
 rw[s]
 have e:(BitVec.ofInt 64 (n:Int) ||| BitVec.ofInt 64 ((d*128^k:Nat):Int)).toNat=n+d*128^k:=by
  rw[BitVec.toNat_or]
  have a:(BitVec.ofInt 64 ((d*128^k:Nat):Int)).toNat=2^(7*k)*d:=by rw[BitVec.ofInt_natCast,BitVec.toNat_ofNat,e2,Nat.mul_comm];exact Nat.mod_eq_of_lt (by rw[Nat.mul_comm];omega)
  have b:(BitVec.ofInt 64 (n:Int)).toNat=n:=by rw[BitVec.ofInt_natCast,BitVec.toNat_ofNat];exact Nat.mod_eq_of_lt (by omega)
  rw[a,b,Nat.or_comm,←Nat.two_pow_add_eq_or_of_lt (by rw[e2];exact hn),e2,Nat.mul_comm]
  omega
 show IntKind.i64.wrap ((BitVec.ofInt 64 (n:Int) ||| BitVec.ofInt 64 ((d*128^k:Nat):Int)).toNat:Int)=_
 rw[e]
 exact je (by omega) (by omega)
theorem vi:∀(l:List Int) (a:Nat) (n:Int) (v:Int×Nat),Bytes l→a≤9→0≤n→n < 128^a→kV l a n= .inl v→0≤v.1∧v.1 < 9223372036854775808∧a < v.2∧v.2≤a+l.length∧v.2≤9
 |[],a,n,v,_,_,_,_,h=>by cases h
 |d::l,a,n,v,hb,ha,h0,h1,h=>by
  have hx:=hb d List.mem_cons_self
  obtain⟨x1,x2⟩:=hx
  rw[kV]at h
  split at h
  ·cases h
  ·rename_i hc
   have ha8:a≤8:=by omega
   rw[yp]at h1 h
   obtain⟨nn,rfl⟩:∃m:Nat,n=m:=⟨n.toNat,by omega⟩
   obtain⟨dn,hdn⟩:∃m:Nat,d%128=m:=⟨(d%128).toNat,by omega⟩
   have g:=(v3 (n:=nn) (d:=dn) ha8 (by omega) (by omega)).2
   rw[hdn]at h
   have ec:((nn:Int)+(dn:Int)*((128^a:Nat):Int))=((nn+dn*128^a:Nat):Int):=by rw[Int.natCast_add,Int.natCast_mul]
   rw[ec]at h
   split at h
   ·cases h
    simp only[List.length_cons]
    exact⟨by omega,by omega,by omega,by omega,by omega⟩
   ·have:=vi l (a+1) _ v (fun x hx=>hb x (List.mem_cons_of_mem _ hx)) (by omega) (by omega) (by rw[yp];omega) h
    simp only[List.length_cons]
    exact⟨this.1,this.2.1,by omega,by omega,this.2.2.2.2⟩
theorem iF{r:eN}(h:ir r):0≤(dh r).1∧(dh r).1≤9223372036854775807∧ir (dh r).2:=by
 unfold dh
 cases hf:kV r.1 0 0 with
 |inl v=>
  have:=vi r.1 0 0 v h.2 (by decide) (by decide) (by decide) hf
  refine⟨this.1,by have:=this.2.1;show v.1≤_;omega,?_,fun x hx=>h.2 x (List.mem_of_mem_drop hx)⟩
  show(r.1.drop v.2).length≤_
  rw[List.length_drop]
  have:=h.1
  omega
 |inr _=>exact⟨Int.le_refl 0,(show(0:Int)≤9223372036854775807 by decide),uR⟩
theorem wQ:∀(f:Nat) (n:Int) (a:Nat) (m:Int) (rest:List Int),0≤n→n < 128^(f+1)→a+f≤8→(a=0∨0 < n)→
  kV ((eZ f n).1++(eZ f n).2::rest) a m= .inl (m+n*128^a,a+(eZ f n).1.length+1)
 | 0,n,a,m,rest,h0,h1,ha,hp=>by
  have h1:n < 128:=h1
  show kV (n::rest) a m=_
  rw[kV,if_neg (by omega),if_pos h1,Int.emod_eq_of_lt h0 h1]
  rfl
 |f+1,n,a,m,rest,h0,h1,ha,hp=>by
  rw[eZ]
  have e:(128:Int)^(f+1+1)=128^(f+1)*128:=Int.pow_succ 128 (f+1)
  split
  ·rename_i h
   show kV ((n%128+128)::((eZ f (n / 128)).1++(eZ f (n / 128)).2::rest)) a m=_
   rw[kV,if_neg (by omega),if_neg (by omega),wQ f (n / 128) (a+1) _ rest (by omega) (by omega) (by omega) (Or.inr (by omega))]
   have e2:(128:Int)^(a+1)=128^a*128:=Int.pow_succ 128 a
   have e3:(n%128+128)%128=n%128:=by omega
   have e4:m+n%128*128^a+n / 128*(128^a*128)=m+n*128^a:=by
    have:n*128^a=(n%128+n / 128*128)*128^a:=by rw[show n%128+n / 128*128=n by omega]
    rw[this,Int.add_mul,Int.mul_assoc (n / 128),Int.mul_comm 128 (128^a),Int.add_assoc]
   rw[e3,e2,e4]
   simp only[List.length_cons]
   rw[show a+1+(eZ f (n / 128)).1.length+1=a+((eZ f (n / 128)).1.length+1)+1 by omega]
  ·rename_i h
   show kV (n::rest) a m=_
   rw[kV,if_neg (by omega),if_pos (by omega),Int.emod_eq_of_lt h0 (by omega)]
   rfl
theorem nE(n:Int)(h:mR n)(rest:List Int)(u:Bool×Unit):dh (fB n++rest,u)=(n,(rest,u)):=by
 have h0:=h.1
 have h1:=h.2
 have e8:(128:Int)^(8+1)=9223372036854775808:=rfl
 have e10:(128:Int)^(10+1)=151115727451828646838272:=rfl
 have er:eZ 10 n=eZ 8 n:=nW 10 8 n (by rw[e10];omega) (by rw[e8];omega)
 have el:fB n++rest=(eZ 8 n).1++(eZ 8 n).2::rest:=by unfold fB;rw[er,List.append_assoc];rfl
 have e:=wQ 8 n 0 0 rest h0 (by rw[e8];omega) (by decide) (Or.inl rfl)
 unfold dh
 show(match kV (fB n++rest) 0 0 with | .inl v=>(v.1,((fB n++rest).drop v.2,u)) | .inr _=>(0,ph))=_
 rw[el,e]
 show(0+n*128^0,(((eZ 8 n).1++(eZ 8 n).2::rest).drop (0+(eZ 8 n).1.length+1),u))=_
 rw[Int.pow_zero,Int.mul_one,Int.zero_add,Nat.zero_add,List.append_cons,List.drop_left' (by rw[List.length_append];rfl)]
theorem Bt(n:Int)(h:gm n):oN (fM n)=n:=by
 obtain⟨h0,h1⟩:=h
 unfold oN fM
 simp only[List.foldl_cons,List.foldl_nil]
 omega
theorem nL(n:Int)(h:gm n)(rest:List Int):iC (fM n++rest,false,())=(n,(rest,false,())):=by
 unfold iC gA
 have l8:=bK n
 rw[if_neg (by
  intro x
  rcases x with x | x
  ·have x:false=true:=x
   cases x
  ·have x:(fM n++rest).length < 8:=x
   rw[List.length_append]at x
   omega)]
 show(oN ((fM n++rest).take 8),((fM n++rest).drop 8,false,()))=_
 rw[List.take_left' l8,List.drop_left' l8,Bt n h]
abbrev bF.L0.D:=Int×eN×Int
def bF.L0.st:bF.L0.D→AS:=fun(n,o0_2,n4)=>⟨([.ptr (.fG 0) 0 [] 0,.ptr (.new 1 0) 0 [] 0,.undef,.d ti n,.ptr (.new 4 0) 0 [] 0,.fn 112 (.cons (.ptr (.new 4 0) 0 [] 0) (.cons (.ptr (.new 1 0) 0 [] 0) (.nil)))]++bg 35 []),[.obj 0 false (.d ja o0_2)],([[],[.obj 0 false (.ptr (.fG 0) 0 [] 0)],[],[],[.obj 0 false (.d ti n4)]]++bN 36 [])⟩
abbrev bF.L0.Y0:=eN
abbrev bF.L0.X0:=eN
def bF.L0.bt:bF.L0.X0→Exit×AS:=fun x=>(.ret,⟨([.ptr (.fG 0) 0 [] 0,.undef,.d ti (0:Int)]++bg 38 []),[.obj 0 false (.d ja x)],(List.replicate 41 [])⟩)
abbrev bF.L0.Y1:=Int×eN×Int
abbrev bF.L0.X1:=Int×eN×Int
def bF.L0.eS:bF.L0.X1→Exit×AS:=fun x=>(.exit 0,⟨([.ptr (.fG 0) 0 [] 0,.ptr (.new 1 0) 0 [] 0,.undef,.d ti x.1,.ptr (.new 4 0) 0 [] 0]++bg 36 []),[.obj 0 false (.d ja x.2.1)],([[],[.obj 0 false (.ptr (.fG 0) 0 [] 0)],[],[],[.obj 0 false (.d ti x.2.2)]]++bN 36 [])⟩)
abbrev bF.L0.X:=(bF.L0.X0)⊕(bF.L0.X1)
abbrev bF.L0.Y:=(bF.L0.Y0)⊕(bF.L0.Y1)
def bF.L0.out:bF.L0.X→Out (Exit×AS):=fun x=> .br x.isLeft (.get x.getLeft? fun a=> .ok (bF.L0.bt a)) (.get x.getRight? fun b=> .ok (bF.L0.eS b))
def bF.L0.add:bF.L0.D→bF.L0.Y→bF.L0.X:=fun(n,o0_2,n4) y=>match y with | .inl y=> .inl y | .inr z=> .inr (z)
abbrev bF.D:=eN
def bF.st:bF.D→SA:=fun o0=>([.ptr (.fG 0) 0 [] 0],[.obj 0 false (.d ja o0)])
abbrev bF.Y:=Int×eN
abbrev bF.X:=Int×eN
def bF.out:bF.X→a9:=fun x=>⟨.d ti x.1,[.obj 0 false (.d ja x.2)],[]⟩
def bF.add:bF.D→bF.Y→bF.X:=fun o0 y=>y
def bF.L0.aB:bF.L0.D→Prop:=fun(n,o,i)=>ir o∧∃(k m:Nat),k≤9∧i=k∧n=m∧m < 128^k
def bF.L0.F:bF.L0.D→bF.L0.Y:=fun(n,o,i)=>match kV (o.1.drop i.toNat) i.toNat n with | .inl v=> .inr (v.1,o,(v.2:Int)) | .inr _=> .inl ph
def bF.aB:bF.D→Prop:=fun o=>ir o
def bF.F:bF.D→bF.Y:=fun o=>dh o
noncomputable def bF.G:dS:=eR (P:=Tryz.prog) [cI.sg,dO.sg]
noncomputable def bF.L0.E:=bO.cz bF.L0.st bF.L0.aB bF.L0.add bF.L0.F bF.L0.out
noncomputable def bF.L0.call:bF.L0.D→Option bF.L0.X:=dk bF.L0.E bF.L0.st
noncomputable def bF.an:eA:= {bI:=[1],loops:=jY [(3,{bm:=[0,1,3,4,5],sites:=[1,4]})],outs:=jX [(3,{bm:=[0,1,3,4],sites:=[1,4]},{bm:=[0,2]})],fJ:=kF [(3,bF.L0.E)],td:=[⟨0,[.arr],ja⟩]}
noncomputable def bF.A:= @cJ Tryz.prog bF.G bF.an 0 Tryz.f56 _ bF.st
abbrev bF.Ok:=cK @bF.A bF.aB bF.add bF.F bF.out
noncomputable def bF.L0.R:= @cg Tryz.prog bF.G bF.an 0 Tryz.f56 0 _ bF.L0.st
abbrev bF.L0.Ok:=eB Tryz.prog bF.G bF.an 0 Tryz.f56 0 bF.L0.st bF.L0.aB bF.L0.add bF.L0.F bF.L0.out
theorem bF.L0.run:bC bF.L0.call bF.L0.aB bF.L0.add bF.L0.F:=eI (eD [.d ti,.d ja,.d ti] fun _=>by kernel_rfl)
theorem bF.L0.aG:jt @bF.L0.R bF.L0.st bF.L0.aB bF.L0.add bF.L0.F bF.L0.out bF.L0.Ok:=jV
theorem bF.L0.step{R:Type}(n:Int)(o0_2:eN)(n4:Int)(kn:AS→Option R)(kx:Exit→AS→Option R):bF.L0.R (n,o0_2,n4) kn kx=
  ah (cI.call (n4,o0_2)) fun x1=>
  aJ (x1.2) (
   ah (dO.call x1.1.2) fun x2=>
   kx (bF.L0.bt x2).1 (bF.L0.bt x2).2) (
   aJ (ei x1.1.1 (((List.length x1.1.2.1):Nat):Int)) (
   aJ (gJ (eW .i64 (7:Int) x1.1.1)) (
   aJ ((fZ (nth tb x1.1.2.1 (Int.toNat x1.1.1)) (128:Int))) (
    kx (bF.L0.eS ((cn .or .i64 n (gw .i64 (dD .i64 (iZ (nth tb x1.1.2.1 (Int.toNat x1.1.1)) (128:Int))) (eW .i64 (7:Int) x1.1.1))),x1.1.2,(bM .i64 x1.1.1 (1:Int)))).1 (bF.L0.eS ((cn .or .i64 n (gw .i64 (dD .i64 (iZ (nth tb x1.1.2.1 (Int.toNat x1.1.1)) (128:Int))) (eW .i64 (7:Int) x1.1.1))),x1.1.2,(bM .i64 x1.1.1 (1:Int)))).2) (
    kn (bF.L0.st ((cn .or .i64 n (gw .i64 (dD .i64 (iZ (nth tb x1.1.2.1 (Int.toNat x1.1.1)) (128:Int))) (eW .i64 (7:Int) x1.1.1))),x1.1.2,(bM .i64 x1.1.1 (1:Int)))))) none) none):=by kernel_rfl
theorem bF.eq{R:Type}(o0:eN)(k:a9→Option R):bF.A o0 k=
  ah (bF.L0.call ((0:Int),o0,(0:Int))) fun x3=>
  aJ (x3.isLeft) (
   ah (x3.getLeft?) fun a4=>
   k (bF.out ((0:Int),a4))) (
   ah (x3.getRight?) fun b5=>
   aJ (inc b5.2.2 (((List.length b5.2.1.1):Nat):Int)) (
   k (bF.out (b5.1,((cut b5.2.1.1 (Int.toNat b5.2.2) ((List.length b5.2.1.1) - (Int.toNat b5.2.2))),b5.2.1.2)))) none):=by kernel_rfl
theorem bF.L0.ok:bF.L0.Ok:=by
 refine bF.L0.aG (fun(n,o,i)=>9 - i.toNat) ?_
 rintro⟨n,o,i⟩ ⟨hr,k,m,hk,rfl,rfl,hm⟩
 have hk:k≤9:=hk
 have hr:ir o:=hr
 by_cases hw:o.1.length≤k∨8 < k∨(0 < k∧nth (.int .u8) o.1 k=0)
 ·right
  have hf:kV (o.1.drop k) k (m:Int)= .inr ():=by
   by_cases h:k < o.1.length
   ·have n1:nth (.int .u8) o.1 k=o.1[k]:=cC (t:= .int .u8) h
    rw[List.drop_eq_getElem_cons h,kV,if_pos (by rw[n1]at hw;rcases hw with x | x | x;exact absurd x (by omega);exact Or.inl x;exact Or.inr x)]
   ·rw[List.drop_of_length_le (by omega)];rfl
  refine⟨bF.L0.bt ph,?_,fun kn kx=> ?_⟩
  ·simp only[bF.L0.add,bF.L0.F,Int.toNat_natCast,hf]
   rfl
  ·rw[bF.L0.step,cI.run (d:=((k:Int),o)) (Int.natCast_nonneg k)]
   simp only[aa,cI.add,cI.F,Int.toNat_natCast]
   rw[aO hw,av,dO.run (d:=o) trivial]
   rfl
 ·have h:k < o.1.length:=by omega
  have hx:=hr.2 _ (List.getElem_mem h)
  obtain⟨x1,x2⟩:=hx
  have n1:nth (.int .u8) o.1 k=o.1[k]:=cC (t:= .int .u8) h
  have hc:¬(8 < k∨(0 < k∧o.1[k]=0)):=fun x=>hw (x.elim (fun y=> .inr (.inl y)) fun y=> .inr (.inr ⟨y.1,n1.trans y.2⟩))
  obtain⟨dn,hdn⟩:∃d:Nat,o.1[k]=d:=⟨o.1[k].toNat,by omega⟩
  have g:=v3 (n:=m) (d:=dn%128) (k:=k) (by omega) hm (by omega)
  have step:∀ {R:Type} (kn:AS→Option R) (kx:Exit→AS→Option R),bF.L0.R ((m:Int),o,(k:Int)) kn kx=aJ (fZ o.1[k] 128) (kx (bF.L0.eS (((m+dn%128*128^k:Nat):Int),o,((k+1:Nat):Int))).1 (bF.L0.eS (((m+dn%128*128^k:Nat):Int),o,((k+1:Nat):Int))).2) (kn (bF.L0.st (((m+dn%128*128^k:Nat):Int),o,((k+1:Nat):Int)))):=by
   intro R kn kx
   rw[bF.L0.step,cI.run (d:=((k:Int),o)) (Int.natCast_nonneg k)]
   simp only[aa,cI.add,cI.F,Int.toNat_natCast]
   rw[aM hw,ay,bo (by omega) (by omega),n1,hdn,N.Ej (by omega),j3 (by omega),N.Fb,N.cN (by omega),g.1,N.kM (by omega)]
   rfl
  have ef:kV (o.1.drop k) k (m:Int)=if o.1[k] < 128 then .inl (((m+dn%128*128^k:Nat):Int),k+1) else kV (o.1.drop (k+1)) (k+1) ((m+dn%128*128^k:Nat):Int):=by
   have ec:(m:Int)+o.1[k]%128*128^k=((m+dn%128*128^k:Nat):Int):=by rw[hdn,yp,Int.natCast_add,Int.natCast_mul];rfl
   rw[List.drop_eq_getElem_cons h,kV,if_neg hc,ec]
  by_cases hl:o.1[k] < 128
  ·right
   refine⟨bF.L0.eS (((m+dn%128*128^k:Nat):Int),o,((k+1:Nat):Int)),?_,fun kn kx=> ?_⟩
   ·simp only[bF.L0.add,bF.L0.F,Int.toNat_natCast,ef,if_pos hl]
    rfl
   ·rw[step,bu hl,av]
  ·left
   refine⟨(((m+dn%128*128^k:Nat):Int),o,((k+1:Nat):Int)),⟨hr,k+1,_,by omega,rfl,rfl,g.2.1⟩,by simp only[Int.toNat_natCast];omega,?_,fun kn kx=> ?_⟩
   ·simp only[bF.L0.add,bF.L0.F,Int.toNat_natCast,ef,if_neg hl]
   ·rw[step,bj hl,ay]
theorem bF.ok:bF.Ok:=by
 intro o h
 have h:ir o:=h
 rw[bF.eq,bF.L0.run (d:=(0,o,0)) ⟨h,0,0,by decide,rfl,rfl,by decide⟩]
 simp only[aa,bF.L0.add,bF.L0.F,Int.toNat_zero,List.drop_zero,bF.add,bF.F,dh]
 cases hf:kV o.1 0 0 with
 |inl v=>
  have g:=vi o.1 0 0 v h.2 (by decide) (by decide) (by decide) hf
  have e2:cut o.1 v.2 (o.1.length - v.2)=o.1.drop v.2:=by unfold cut;rw[List.take_of_length_le];rw[List.length_drop];omega
  simp only[Sum.isLeft_inr,Sum.getRight?_inr,ay,aa,Int.toNat_natCast]
  rw[kQ (by omega) (by omega),av,e2]
 |inr _=>rfl
noncomputable def bF.E:=Entry.cz [none] bF.st bF.aB bF.add bF.F bF.out
noncomputable def bF.call:bF.D→Option bF.X:=bH bF.E bF.st
theorem bF.run:bC bF.call bF.aB bF.add bF.F:=cQ (cP [.d ja] fun _=>by kernel_rfl)
noncomputable def bF.sg:SG Tryz.prog:=⟨56,aU,bF.E,.fn 1 (by kernel_rfl) bF.ok (And.intro (.cz bF.L0.ok (by kernel_rfl)) trivial)⟩
end Go.Ab
