/-
  Made short by a program of mine (wip/tools/mini.py).
-/
import Derived.Test.YtglpcfdjdabdnaaGreatS11x3
set_option linter.unusedVariables false
set_option linter.unusedSimpArgs false
namespace Go.Ab
open Go.Proofs
set_option maxRecDepth 100000
set_option linter.unusedVariables false
set_option linter.unusedSimpArgs false
set_option synthInstance.maxSize 5000
abbrev cS.D:=Bs
def cS.st:cS.D→SA:=fun sv=>([.d tU sv],[])
abbrev cS.Y:=Bs
abbrev cS.X:=Bs
def cS.out:cS.X→aZ:=fun x=>⟨.d tU x,[],[]⟩
def cS.add:cS.D→cS.Y→cS.X:=fun sv y=>y
def cS.aD:cS.D→Prop:=fun l=>l.length≤1000000
def cS.F:cS.D→cS.Y:=fun l=>l
noncomputable def cS.G:dV:=eY (P:=Tryz.prog) []
noncomputable def cS.an:eJ:= {bN:=[5],res:=[some tU]}
noncomputable def cS.A:= @cK Tryz.prog cS.G cS.an 0 Tryz.f135 _ cS.st
abbrev cS.Ok:=cM @cS.A cS.aD cS.add cS.F cS.out
theorem cS.eq{R:Type}(sv:Bs)(k:aZ→Option R):cS.A sv k=
  aF (decide (0 < (List.length sv))) (
   aF (du (0+(List.length sv)) 8) (
   aF (decide (0=0∧(0+(0+(List.length sv)))≤(List.length ((List.take 0 (List.replicate 0 (0:Int)))++sv)))) (
   k (cS.out (cut ((List.take 0 (List.replicate 0 (0:Int)))++sv) 0 (0+(List.length sv))))) none) none) (
   nd (
    k (cS.out ([]:List Int))) (
    aF (du (0+(List.length sv)) 8) (
    aF (decide (0=0∧(0+(0+(List.length sv)))≤(List.length ((List.take 0 (List.replicate 0 (0:Int)))++sv)))) (
    k (cS.out (cut ((List.take 0 (List.replicate 0 (0:Int)))++sv) 0 (0+(List.length sv))))) none) none)):=by kernel_rfl
theorem cS.ok:cS.Ok:=by
 intro l hl
 have hl:l.length≤1000000:=hl
 have hr:du l.length 8=true:=eN (by omega) (by omega)
 have e0:(List.take 0 (List.replicate 0 0):List Int)=[]:=rfl
 rw[cS.eq]
 simp only[Nat.zero_add,hr,ay,e0,List.nil_append,Nat.le_refl,and_self,decide_true,eV,cS.add,cS.F]
 by_cases h:0 < l.length
 ·simp only[aR h,ay]
 ·have:l=[]:=List.eq_nil_of_length_eq_zero (by omega)
  subst this
  simp only[List.length_nil,od,aO (Nat.lt_irrefl 0),ao]
noncomputable def cS.E:=Entry.cv [some tU] cS.st cS.aD cS.add cS.F cS.out
noncomputable def cS.call:cS.D→Option cS.X:=bJ cS.E cS.st
theorem cS.run:bE cS.call cS.aD cS.add cS.F:=cQ (cP [.d tU] fun _=>by kernel_rfl)
noncomputable def cS.sg:SG Tryz.prog:=⟨135,aW,cS.E,.fn 0 (by kernel_rfl) cS.ok trivial⟩
def C4(l:List Int):Lk:=([(l,0,0,0,())],())
def D8(own rev delay:Int):Lk:=([([rev],0,0,0,()),([own],0,delay,0,())],())
def B3(own:Int):Lk:=([([own],0,0,0,()),([],0,16,0,())],())
abbrev fx.D:=Bs
def fx.st:fx.D→SA:=fun l=>([.d tU l],[])
abbrev fx.Y:=Lk
abbrev fx.X:=Lk
def fx.out:fx.X→aZ:=fun x=>⟨.d kq x,[],[]⟩
def fx.add:fx.D→fx.Y→fx.X:=fun l y=>y
def fx.aD:fx.D→Prop:=fun l=>l.length≤1000000
def fx.F:fx.D→fx.Y:=fun l=>C4 l
noncomputable def fx.G:dV:=eY (P:=Tryz.prog) [cS.sg]
noncomputable def fx.an:eJ:= {}
noncomputable def fx.A:= @cK Tryz.prog fx.G fx.an 0 Tryz.f107 _ fx.st
abbrev fx.Ok:=cM @fx.A fx.aD fx.add fx.F fx.out
theorem fx.eq{R:Type}(l:Bs)(k:aZ→Option R):fx.A l k=
 ae (cS.call l) fun x1=>
 k (fx.out ([(x1,((0:Int),((0:Int),((0:Int),()))))],())):=by kernel_rfl
theorem fx.ok:fx.Ok:=by
 intro l hl
 rw[fx.eq,cS.run (d:=l) hl]
 rfl
noncomputable def fx.E:=Entry.cv [some tU] fx.st fx.aD fx.add fx.F fx.out
noncomputable def fx.call:fx.D→Option fx.X:=bJ fx.E fx.st
theorem fx.run:bE fx.call fx.aD fx.add fx.F:=cQ (cP [.d tU] fun _=>by kernel_rfl)
noncomputable def fx.sg:SG Tryz.prog:=⟨107,aW,fx.E,.fn 0 (by kernel_rfl) fx.ok trivial⟩
abbrev fO.D:=Int
def fO.st:fO.D→SA:=fun p=>([.d tu p],[])
abbrev fO.Y:=Lk
abbrev fO.X:=Lk
def fO.out:fO.X→aZ:=fun x=>⟨.d kq x,[],[]⟩
def fO.add:fO.D→fO.Y→fO.X:=fun p y=>y
def fO.aD:fO.D→Prop:=fun _=>True
def fO.F:fO.D→fO.Y:=fun p=>C4 [p]
noncomputable def fO.G:dV:=eY (P:=Tryz.prog) [fx.sg]
noncomputable def fO.an:eJ:= {}
noncomputable def fO.A:= @cK Tryz.prog fO.G fO.an 0 Tryz.f48 _ fO.st
abbrev fO.Ok:=cM @fO.A fO.aD fO.add fO.F fO.out
theorem fO.eq{R:Type}(p:Int)(k:aZ→Option R):fO.A p k=
 ae (fx.call [p]) fun x1=>
 k (fO.out x1):=by kernel_rfl
theorem fO.ok:fO.Ok:=by
 intro p _
 rw[fO.eq,fx.run (d:=[p]) (by show [p].length≤_;simp)]
 rfl
noncomputable def fO.E:=Entry.cv [some tu] fO.st fO.aD fO.add fO.F fO.out
noncomputable def fO.call:fO.D→Option fO.X:=bJ fO.E fO.st
theorem fO.run:bE fO.call fO.aD fO.add fO.F:=cQ (cP [.d tu] fun _=>by kernel_rfl)
noncomputable def fO.sg:SG Tryz.prog:=⟨48,aW,fO.E,.fn 0 (by kernel_rfl) fO.ok trivial⟩
abbrev eF.D:=Int×Int
def eF.st:eF.D→SA:=fun(a,b)=>([.d tu a,.d tu b],[])
abbrev eF.Y:=Lk
abbrev eF.X:=Lk
def eF.out:eF.X→aZ:=fun x=>⟨.d kq x,[],[]⟩
def eF.add:eF.D→eF.Y→eF.X:=fun(a,b) y=>y
def eF.aD:eF.D→Prop:=fun _=>True
def eF.F:eF.D→eF.Y:=fun(p,q)=>C4 [p,q]
noncomputable def eF.G:dV:=eY (P:=Tryz.prog) [fx.sg]
noncomputable def eF.an:eJ:= {}
noncomputable def eF.A:= @cK Tryz.prog eF.G eF.an 0 Tryz.f49 _ eF.st
abbrev eF.Ok:=cM @eF.A eF.aD eF.add eF.F eF.out
theorem eF.eq{R:Type}(a:Int)(b:Int)(k:aZ→Option R):eF.A (a,b) k=
 ae (fx.call [a,b]) fun x1=>
 k (eF.out x1):=by kernel_rfl
theorem eF.ok:eF.Ok:=by
 rintro⟨p,q⟩ _
 rw[eF.eq,fx.run (d:=[p,q]) (by show [p,q].length≤_;simp)]
 rfl
noncomputable def eF.E:=Entry.cv [some tu,some tu] eF.st eF.aD eF.add eF.F eF.out
noncomputable def eF.call:eF.D→Option eF.X:=bJ eF.E eF.st
theorem eF.run:bE eF.call eF.aD eF.add eF.F:=cQ (cP [.d tu,.d tu] fun _=>by kernel_rfl)
noncomputable def eF.sg:SG Tryz.prog:=⟨49,aW,eF.E,.fn 0 (by kernel_rfl) eF.ok trivial⟩
abbrev eG.D:=Int×Int×Int
def eG.st:eG.D→SA:=fun(own,rev,delay)=>([.d tu own,.d tu rev,.d ti delay],[])
abbrev eG.Y:=Lk
abbrev eG.X:=Lk
def eG.out:eG.X→aZ:=fun x=>⟨.d kq x,[],[]⟩
def eG.add:eG.D→eG.Y→eG.X:=fun(own,rev,delay) y=>y
def eG.aD:eG.D→Prop:=fun _=>True
def eG.F:eG.D→eG.Y:=fun(o,r,d)=>D8 o r d
noncomputable def eG.G:dV:=eY (P:=Tryz.prog) []
noncomputable def eG.an:eJ:= {}
noncomputable def eG.A:= @cK Tryz.prog eG.G eG.an 0 Tryz.f50 _ eG.st
abbrev eG.Ok:=cM @eG.A eG.aD eG.add eG.F eG.out
theorem eG.eq{R:Type}(own:Int)(rev:Int)(delay:Int)(k:aZ→Option R):eG.A (own,rev,delay) k=
 k (eG.out ([([rev],((0:Int),((0:Int),((0:Int),())))),([own],((0:Int),(delay,((0:Int),()))))],())):=by kernel_rfl
theorem eG.ok:eG.Ok:=by
 rintro⟨o,r,d⟩ _
 rw[eG.eq]
 rfl
noncomputable def eG.E:=Entry.cv [some tu,some tu,some ti] eG.st eG.aD eG.add eG.F eG.out
noncomputable def eG.call:eG.D→Option eG.X:=bJ eG.E eG.st
theorem eG.run:bE eG.call eG.aD eG.add eG.F:=cQ (cP [.d tu,.d tu,.d ti] fun _=>by kernel_rfl)
noncomputable def eG.sg:SG Tryz.prog:=⟨50,aW,eG.E,.fn 0 (by kernel_rfl) eG.ok trivial⟩
abbrev cJ.D:=Int
def cJ.st:cJ.D→SA:=fun own=>([.d tu own],[])
abbrev cJ.Y:=Lk
abbrev cJ.X:=Lk
def cJ.out:cJ.X→aZ:=fun x=>⟨.d kq x,[],[]⟩
def cJ.add:cJ.D→cJ.Y→cJ.X:=fun own y=>y
def cJ.aD:cJ.D→Prop:=fun _=>True
def cJ.F:cJ.D→cJ.Y:=fun o=>B3 o
noncomputable def cJ.G:dV:=eY (P:=Tryz.prog) []
noncomputable def cJ.an:eJ:= {}
noncomputable def cJ.A:= @cK Tryz.prog cJ.G cJ.an 0 Tryz.f53 _ cJ.st
abbrev cJ.Ok:=cM @cJ.A cJ.aD cJ.add cJ.F cJ.out
theorem cJ.eq{R:Type}(own:Int)(k:aZ→Option R):cJ.A own k=
 k (cJ.out ([([own],((0:Int),((0:Int),((0:Int),())))),(([]:List Int),((0:Int),((16:Int),((0:Int),()))))],())):=by kernel_rfl
theorem cJ.ok:cJ.Ok:=by
 intro o _
 rw[cJ.eq]
 rfl
noncomputable def cJ.E:=Entry.cv [some tu] cJ.st cJ.aD cJ.add cJ.F cJ.out
noncomputable def cJ.call:cJ.D→Option cJ.X:=bJ cJ.E cJ.st
theorem cJ.run:bE cJ.call cJ.aD cJ.add cJ.F:=cQ (cP [.d tu] fun _=>by kernel_rfl)
noncomputable def cJ.sg:SG Tryz.prog:=⟨53,aW,cJ.E,.fn 0 (by kernel_rfl) cJ.ok trivial⟩
abbrev aV.L0.D:=Bs×Bs×Int×Int×(Int×Unit)×Int×Nat×(Int×Unit)×(List Sg)
def aV.L0.st:aV.L0.D→AS:=fun(keys_2,m_2,i,n8,n8_2,n9,n9L,n9_2,n29)=>⟨([.undef,.d tU keys_2]++ba 4 ([.ej tH m_2,.undef,.ptr (.new 8 0) 0 [] 0,.ptr (.new 9 0) 0 [] 0,.d ti i]++ba 21 [])),[],(bK 8 ([[.obj 0 false (.pr (.d ti n8) (.pr (.da) (.d (.pair tu .unit) n8_2)))],[.obj 0 false (.pr (.d ti n9) (.pr (.bU (.new 29 0) 0 [] 0 0 n9L) (.d (.pair tu .unit) n9_2)))]]++bK 19 [[.obj 0 false (.vec 60 jc n29)],[],[]]))⟩
abbrev aV.L0.Y0:=Nat×(List Sg)
abbrev aV.L0.X0:=(Int×(Int×Unit)×Int×(Int×Unit))×(Nat×(List Sg))
def aV.L0.bw:aV.L0.X0→Exit×AS:=fun x=>(.exit 0,⟨(ba 8 ([.ptr (.new 8 0) 0 [] 0,.ptr (.new 9 0) 0 [] 0]++ba 22 [])),[],(bK 8 ([[.obj 0 false (.pr (.d ti x.1.1) (.pr (.da) (.d (.pair tu .unit) x.1.2.1)))],[.obj 0 false (.pr (.d ti x.1.2.2.1) (.pr (.bU (.new 29 0) 0 [] 0 0 x.2.1) (.d (.pair tu .unit) x.1.2.2.2)))]]++bK 19 [[.obj 0 false (.vec 60 jc x.2.2)],[],[]]))⟩)
abbrev aV.L0.X:=aV.L0.X0
abbrev aV.L0.Y:=aV.L0.Y0
def aV.L0.out:aV.L0.X→Out (Exit×AS):=fun x=> .ok (aV.L0.bw x)
def aV.L0.add:aV.L0.D→aV.L0.Y→aV.L0.X:=fun(keys_2,m_2,i,n8,n8_2,n9,n9L,n9_2,n29) y=>((n8,n8_2,n9,n9_2),y)
abbrev aV.D:=Int×Bs×Bs×Int
def aV.st:aV.D→SA:=fun(branch,keys,m,secret)=>([.d ti branch,.d tU keys,.d tH m,.d tu secret],[])
abbrev aV.Y:=j6
abbrev aV.X:=j6
def aV.out:aV.X→aZ:=fun x=>⟨.d mK x,[],[]⟩
def aV.add:aV.D→aV.Y→aV.X:=fun(branch,keys,m,secret) y=>y
def aV.L0.aD:aV.L0.D→Prop:=fun(ks,m,i,a,b,c,n,d,l)=>nc ks∧Sm m∧ks.length≤1000000∧∃k:Nat,k≤ks.length∧i=k∧k=n∧l=(ks.take k).map fun k=>gE k m
def aV.L0.F:aV.L0.D→aV.L0.Y:=fun(ks,m,i,a,b,c,n,d,l)=>(ks.length,ks.map fun k=>gE k m)
def Cz(branch:Int)(ks:List Int)(m:List Int)(secret:Int):j6:=(branch,ks.map (fun k=>gE k m),secret,())
def aV.aD:aV.D→Prop:=fun(b,ks,m,s)=>nc ks∧Sm m∧ks.length≤1000000
def aV.F:aV.D→aV.Y:=fun(b,ks,m,s)=>Cz b ks m s
noncomputable def aV.G:dV:=eY (P:=Tryz.prog) [dI.sg]
noncomputable def aV.L0.E:=bP.cv aV.L0.st aV.L0.aD aV.L0.add aV.L0.F aV.L0.out
noncomputable def aV.L0.call:aV.L0.D→Option aV.L0.X:=dk aV.L0.E aV.L0.st
noncomputable def aV.an:eJ:= {loops:=jJ [(3,{bn:=[1,6,8,9,10],sites:=[8,9,29],iH:=[⟨9,[.snd,.fst],29,51⟩]})],outs:=jI [(3,{bn:=[8,9],sites:=[8,9,29]},{bn:=[8]})],fJ:=kz [(3,aV.L0.E)],res:=[some mK]}
noncomputable def aV.A:= @cK Tryz.prog aV.G aV.an 0 Tryz.f52 _ aV.st
abbrev aV.Ok:=cM @aV.A aV.aD aV.add aV.F aV.out
noncomputable def aV.L0.R:= @bV Tryz.prog aV.G aV.an 0 Tryz.f52 0 _ aV.L0.st
abbrev aV.L0.Ok:=eA Tryz.prog aV.G aV.an 0 Tryz.f52 0 aV.L0.st aV.L0.aD aV.L0.add aV.L0.F aV.L0.out
theorem aV.L0.run:bE aV.L0.call aV.L0.aD aV.L0.add aV.L0.F:=eK (eI [.d tU,.d tH,.d ti,.d ti,.d (.pair tu .unit),.d ti,.n,.d (.pair tu .unit),.d (.slice jc)] fun _=>by kernel_rfl)
theorem aV.L0.aG:fX @aV.L0.R aV.L0.st aV.L0.aD aV.L0.add aV.L0.F aV.L0.bw aV.L0.Ok:=gf
theorem aV.L0.step{R:Type}(keys_2:Bs)(m_2:Bs)(i:Int)(n8:Int)(n8_2:(Int×Unit))(n9:Int)(n9L:Nat)(n9_2:(Int×Unit))(n29:(List Sg))(kn:AS→Option R)(kx:Exit→AS→Option R):aV.L0.R (keys_2,m_2,i,n8,n8_2,n9,n9L,n9_2,n29) kn kx=
  aF ((gb i (((List.length keys_2):Nat):Int))) (
   aF (dS i (((List.length keys_2):Nat):Int)) (
   ae (dI.call ((nth tu keys_2 (Int.toNat i)),m_2)) fun x1=>
   aF (decide (n9L≤(List.length n29))) (
   aF (du (n9L+1) 16) (
   kn (aV.L0.st (keys_2,m_2,(bO .i64 i (1:Int)),n8,n8_2,n9,(n9L+1),n9_2,((List.take n9L n29)++ [x1])))) none) none) none) (
   kx (aV.L0.bw ((n8,n8_2,n9,n9_2),(n9L,n29))).1 (aV.L0.bw ((n8,n8_2,n9,n9_2),(n9L,n29))).2):=by kernel_rfl
theorem aV.eq{R:Type}(branch:Int)(keys:Bs)(m:Bs)(secret:Int)(k:aZ→Option R):aV.A (branch,keys,m,secret) k=
 ae (aV.L0.call (keys,m,(0:Int),(0:Int),((0:Int),()),branch,0,(secret,()),([]:List Sg))) fun x3=>
 aF (decide (0=0∧(0+x3.2.1)≤(List.length x3.2.2))) (
 k (aV.out (x3.1.2.2.1,((cut x3.2.2 0 x3.2.1),x3.1.2.2.2)))) none:=by kernel_rfl
theorem aV.L0.ok:aV.L0.Ok:=by
 refine aV.L0.aG (fun(ks,m,i,a,b,c,n,d,l)=>ks.length - i.toNat) ?_
 rintro⟨ks,m,i,a,b,c,n,d,l⟩ ⟨hl,hm,hb,k,hk,rfl,rfl,rfl⟩
 have hb:ks.length≤1000000:=hb
 have hk:k≤ks.length:=hk
 have ll:((ks.take k).map fun k=>gE k m).length=k:=by rw[List.length_map,List.length_take];omega
 by_cases h:k < ks.length
 ·left
  have hx:=hl _ (List.getElem_mem h)
  have n1:nth (.int .u64) ks k=ks[k]:=bZ (t:= .int .u64) h
  refine⟨(ks,m,((k+1:Nat):Int),a,b,c,k+1,d,(ks.take (k+1)).map fun k=>gE k m),⟨hl,hm,hb,k+1,by omega,rfl,rfl,rfl⟩,by simp only[Int.toNat_natCast];omega,rfl,fun kn kx=> ?_⟩
  rw[aV.L0.step]
  simp(disch:=omega) only[↓S1,↓if_pos,↓if_neg,if_pos,if_neg,if_true,if_false,S2,n1]
  rw[dI.run (d:=(ks[k],m)) ⟨hx,hm⟩]
  have e:(ks.take (k+1)).map (fun k=>gE k m)=(ks.take k).map (fun k=>gE k m)++ [gE ks[k] m]:=by rw[List.take_succ_eq_append_getElem h,List.map_append];rfl
  rw[e]
  simp(disch:=omega) only[↓S1,↓if_pos,↓if_neg,if_pos,if_neg,if_true,if_false,S2,dI.add,dI.F,ll,Nat.le_refl,List.take_of_length_le (Nat.le_of_eq ll)]
 ·right
  obtain rfl:k=ks.length:=by omega
  intro R kn kx
  rw[aV.L0.step]
  simp(disch:=omega) only[↓S1,↓if_pos,↓if_neg,if_pos,if_neg,if_true,if_false,S2,aV.L0.add,aV.L0.F,List.take_length]
theorem aV.ok:aV.Ok:=by
 rintro⟨b,ks,m,s⟩ ⟨hl,hm,hb⟩
 rw[aV.eq,aV.L0.run (d:=(ks,m,0,0,(0,()),b,0,(s,()),[])) ⟨hl,hm,hb,0,by omega,rfl,rfl,rfl⟩]
 simp only[aa,aV.L0.add,aV.L0.F,List.length_map,Nat.zero_add,Nat.le_refl,and_self,decide_true,ay]
 rw[eV (l:=List.map (fun k=>gE k m) ks) (by rw[List.length_map])]
 rfl
noncomputable def aV.E:=Entry.cv [some ti,some tU,some tH,some tu] aV.st aV.aD aV.add aV.F aV.out
noncomputable def aV.call:aV.D→Option aV.X:=bJ aV.E aV.st
theorem aV.run:bE aV.call aV.aD aV.add aV.F:=cQ (cP [.d ti,.d tU,.d tB,.d tu] fun _=>by kernel_rfl)
noncomputable def aV.sg:SG Tryz.prog:=⟨52,aW,aV.E,.fn 1 (by kernel_rfl) aV.ok (And.intro (.cv aV.L0.ok (by kernel_rfl)) trivial)⟩
set_option synthInstance.maxSize 5000
abbrev cj.L0.D:=Lk×Int
def cj.L0.st:cj.L0.D→AS:=fun(l_2,i)=>⟨([.undef,.ej kq l_2,.undef,.d ti i]++ba 23 []),[],(List.replicate 27 [])⟩
abbrev cj.L0.Y0:=Unit
abbrev cj.L0.X0:=Unit
def cj.L0.bw:cj.L0.X0→Exit×AS:=fun x=>(.ret,⟨([.undef,.undef,.d .bool false]++ba 24 []),[],(List.replicate 27 [])⟩)
abbrev cj.L0.Y1:=Unit
abbrev cj.L0.X1:=Lk
def cj.L0.eO:cj.L0.X1→Exit×AS:=fun x=>(.exit 0,⟨([.undef,.ej kq x]++ba 25 []),[],(List.replicate 27 [])⟩)
abbrev cj.L0.X:=(cj.L0.X0)⊕(cj.L0.X1)
abbrev cj.L0.Y:=(cj.L0.Y0)⊕(cj.L0.Y1)
def cj.L0.out:cj.L0.X→Out (Exit×AS):=fun x=> .br x.isLeft (.get x.getLeft? fun a=> .ok (cj.L0.bw a)) (.get x.getRight? fun b=> .ok (cj.L0.eO b))
def cj.L0.add:cj.L0.D→cj.L0.Y→cj.L0.X:=fun(l_2,i) y=>match y with | .inl y=> .inl y | .inr z=> .inr (l_2)
abbrev cj.D:=Lk
def cj.st:cj.D→SA:=fun l=>([.d kq l],[])
abbrev cj.Y:=Bool
abbrev cj.X:=Bool
def cj.out:cj.X→aZ:=fun x=>⟨.d .bool x,[],[]⟩
def cj.add:cj.D→cj.Y→cj.X:=fun l y=>y
def nW(bs:List gm):Bool:=bs.all fun b=>decide (b.1.length≤20)
def DZ(l:Lk):Bool:=nW (l.1.take 7) && decide (l.1.length≤6)
def cj.L0.aD:cj.L0.D→Prop:=fun(l,i)=>∃k:Nat,k≤l.1.length∧k≤7∧i=k
def cj.L0.F:cj.L0.D→cj.L0.Y:=fun(l,i)=>if nW ((l.1.take 7).drop i.toNat) then .inr () else .inl ()
def cj.aD:cj.D→Prop:=fun _=>True
def cj.F:cj.D→cj.Y:=fun l=>DZ l
noncomputable def cj.G:dV:=eY (P:=Tryz.prog) []
noncomputable def cj.L0.E:=bP.cv cj.L0.st cj.L0.aD cj.L0.add cj.L0.F cj.L0.out
noncomputable def cj.L0.call:cj.L0.D→Option cj.L0.X:=dk cj.L0.E cj.L0.st
noncomputable def cj.an:eJ:= {loops:=jJ [(2,{bn:=[1,3]})],outs:=jI [(2,{bn:=[1]},{bn:=[2]})],fJ:=kz [(2,cj.L0.E)]}
noncomputable def cj.A:= @cK Tryz.prog cj.G cj.an 0 Tryz.f10 _ cj.st
abbrev cj.Ok:=cM @cj.A cj.aD cj.add cj.F cj.out
noncomputable def cj.L0.R:= @bV Tryz.prog cj.G cj.an 0 Tryz.f10 0 _ cj.L0.st
abbrev cj.L0.Ok:=eA Tryz.prog cj.G cj.an 0 Tryz.f10 0 cj.L0.st cj.L0.aD cj.L0.add cj.L0.F cj.L0.out
theorem cj.L0.run:bE cj.L0.call cj.L0.aD cj.L0.add cj.L0.F:=eK (eI [.d kq,.d ti] fun _=>by kernel_rfl)
theorem cj.L0.aG:iO @cj.L0.R cj.L0.st cj.L0.aD cj.L0.add cj.L0.F cj.L0.out cj.L0.Ok:=jk
theorem cj.L0.step{R:Type}(l_2:Lk)(i:Int)(kn:AS→Option R)(kx:Exit→AS→Option R):cj.L0.R (l_2,i) kn kx=
  aF ((gb i (((List.length l_2.1):Nat):Int))) (
   aF ((gb i (7:Int))) (
    aF (dS i (((List.length l_2.1):Nat):Int)) (
    aF ((mv (((List.length (nth fo l_2.1 (Int.toNat i)).1):Nat):Int) (20:Int))) (
     kx (cj.L0.bw ()).1 (cj.L0.bw ()).2) (
     kn (cj.L0.st (l_2,(bO .i64 i (1:Int)))))) none) (
    kx (cj.L0.eO l_2).1 (cj.L0.eO l_2).2)) (
   kx (cj.L0.eO l_2).1 (cj.L0.eO l_2).2):=by kernel_rfl
theorem cj.eq{R:Type}(l:Lk)(k:aZ→Option R):cj.A l k=
  ae (cj.L0.call (l,(0:Int))) fun x1=>
  aF (x1.isLeft) (
   ae (x1.getLeft?) fun a2=>
   k (cj.out false)) (
   ae (x1.getRight?) fun b3=>
   k (cj.out (tK (((List.length b3.1):Nat):Int) (6:Int)))):=by kernel_rfl
theorem cj.L0.ok:cj.L0.Ok:=by
 refine cj.L0.aG (fun(l,i)=>7 - i.toNat) ?_
 rintro⟨l,i⟩ ⟨k,hk,hk7,rfl⟩
 have hk:k≤l.1.length:=hk
 have hk7:k≤7:=hk7
 by_cases h:k < l.1.length∧k < 7
 ·obtain⟨h,h7⟩:=h
  have ht:k < (l.1.take 7).length:=by rw[List.length_take];omega
  have n1:nth (.pair (.slice (.int .u64)) (.pair (.int .i64) (.pair (.int .i64) (.pair (.int .u64) .unit)))) l.1 k=l.1[k]:=bZ (t:=(.pair (.slice (.int .u64)) (.pair (.int .i64) (.pair (.int .i64) (.pair (.int .u64) .unit))))) h
  have hg:(l.1.take 7)[k]=l.1[k]:=List.getElem_take
  have hd:nW ((l.1.take 7).drop k)=(decide (l.1[k].1.length≤20) && nW ((l.1.take 7).drop (k+1))):=by
   unfold nW
   rw[List.drop_eq_getElem_cons ht,List.all_cons,hg]
  have step:∀ {R:Type} (kn:AS→Option R) (kx:Exit→AS→Option R),cj.L0.R (l,(k:Int)) kn kx=aF (decide (l.1[k].1.length≤20)) (kn (cj.L0.st (l,((k+1:Nat):Int)))) (kx (cj.L0.bw ()).1 (cj.L0.bw ()).2):=by
   intro R kn kx
   rw[cj.L0.step,bA (by omega),bA (by omega),bh (by omega) (by omega),Int.toNat_natCast,n1,N.kr (by omega)]
   simp only[ay]
   by_cases hc:l.1[k].1.length≤20
   ·rw[dx (by omega),aR hc];rfl
   ·rw[dG (by omega),aO hc];rfl
  cases hp:decide (l.1[k].1.length≤20)
  ·right
   refine⟨cj.L0.bw (),?_,fun kn kx=> ?_⟩
   ·simp only[cj.L0.add,cj.L0.F,Int.toNat_natCast,hd,hp,Bool.false_and,Bool.false_eq_true,if_false]
    rfl
   ·rw[step,hp,ao]
  ·left
   refine⟨(l,((k+1:Nat):Int)),⟨k+1,by omega,by omega,rfl⟩,by simp only[Int.toNat_natCast];omega,?_,fun kn kx=> ?_⟩
   ·simp only[cj.L0.add,cj.L0.F,Int.toNat_natCast,hd,hp,Bool.true_and]
   ·rw[step,hp,ay]
 ·right
  have ht:(l.1.take 7).length≤k:=by rw[List.length_take];omega
  refine⟨cj.L0.eO l,?_,fun kn kx=> ?_⟩
  ·simp only[cj.L0.add,cj.L0.F,Int.toNat_natCast,List.drop_of_length_le ht]
   rfl
  ·rw[cj.L0.step]
   by_cases h1:k < l.1.length
   ·rw[bA (by omega),bm (by omega)];rfl
   ·rw[bm (by omega)];rfl
theorem cj.ok:cj.Ok:=by
 intro l _
 rw[cj.eq,cj.L0.run (d:=(l,0)) ⟨0,by omega,by omega,rfl⟩]
 simp only[aa,cj.L0.add,cj.L0.F,Int.toNat_zero,List.drop_zero,cj.add,cj.F,DZ]
 cases nW (l.1.take 7)
 ·rfl
 ·simp only[if_true,Bool.true_and]
  show some (cj.out (tK _ _))=_
  by_cases h:l.1.length≤6
  ·rw[j7 (by omega),aR h]
  ·rw[je (by omega),aO h]
noncomputable def cj.E:=Entry.cv [some kq] cj.st cj.aD cj.add cj.F cj.out
noncomputable def cj.call:cj.D→Option cj.X:=bJ cj.E cj.st
theorem cj.run:bE cj.call cj.aD cj.add cj.F:=cQ (cP [.d kq] fun _=>by kernel_rfl)
noncomputable def cj.sg:SG Tryz.prog:=⟨10,aW,cj.E,.fn 1 (by kernel_rfl) cj.ok (And.intro (.cv cj.L0.ok (by kernel_rfl)) trivial)⟩
set_option synthInstance.maxSize 5000
def jE(o:List Int)(ks:List Int):List Int:=ks.foldl (fun o p=>o++fR p) o
def BW(o:List Int)(b:gm):List Int:=ek (ek (jE (ek o b.1.length) b.1) b.2.1) b.2.2.1++fR b.2.2.2.1
def px(l:Lk):List Int:=if iZ l then l.1.foldl BW (ek [] l.1.length) else []
theorem qk:∀(ks:List Int) (o:List Int),(jE o ks).length=o.length+8*ks.length
 |[],o=>rfl
 |k::ks,o=>by
  show(jE (o++fR k) ks).length=_
  rw[qk ks,List.length_append,bR,List.length_cons];omega
theorem yJ(o:List Int)(b:gm)(h:b.1.length≤12):(BW o b).length≤o.length+200:=by
 unfold BW
 have h1:=fj o b.1.length
 have h2:=qk b.1 (ek o b.1.length)
 have h3:=fj (jE (ek o b.1.length) b.1) b.2.1
 have h4:=fj (ek (jE (ek o b.1.length) b.1) b.2.1) b.2.2.1
 rw[List.length_append,bR];omega
def B1(n:Int):Prop:=n≤9223372036854775807
def Er(b:gm):Prop:=b.1.length≤12∧B1 b.2.1∧B1 b.2.2.1
theorem C9{b:gm}(h:oE b=true):Er b:=by
 unfold oE v9 at h
 simp only[Bool.and_eq_true,decide_eq_true_eq]at h
 obtain⟨h1,_,h2,h3,_⟩:=h
 exact⟨h1,by unfold B1;omega,by unfold B1;omega⟩
theorem xU(o:List Int)(ks:List Int)(k:Nat)(h:k < ks.length):jE o (ks.drop k)=jE (o++fR ks[k]) (ks.drop (k+1)):=by rw[List.drop_eq_getElem_cons h];rfl
abbrev aH.L0.D:=Bs×(List gm)×Int×Int
def aH.L0.st:aH.L0.D→AS:=fun(outv,t16,t17,t18)=>⟨([.undef,.undef,.undef,.d tB outv]++ba 12 ([.d (.slice fo) t16,.d ti t17,.d ti t18]++ba 31 [])),[],(List.replicate 50 [])⟩
abbrev aH.L0.Y0:=Bs
abbrev aH.L0.X0:=Bs
def aH.L0.bw:aH.L0.X0→Exit×AS:=fun x=>(.exit 0,⟨([.undef,.undef,.undef,.d tB x]++ba 46 []),[],(List.replicate 50 [])⟩)
abbrev aH.L0.X:=aH.L0.X0
abbrev aH.L0.Y:=aH.L0.Y0
def aH.L0.out:aH.L0.X→Out (Exit×AS):=fun x=> .ok (aH.L0.bw x)
def aH.L0.add:aH.L0.D→aH.L0.Y→aH.L0.X:=fun(outv,t16,t17,t18) y=>y
abbrev aH.L1.D:=Bs×(List gm)×Int×Int×Bs×Int×Int×gm
def aH.L1.st:aH.L1.D→AS:=fun(outv_2,t16_2,t17_2,t18_2,t28,t29,t30,n5)=>⟨([.undef,.undef,.undef,.d tB outv_2,.undef,.ptr (.new 5 0) 0 [] 0]++ba 10 ([.d (.slice fo) t16_2,.d ti t17_2,.d ti t18_2]++ba 9 ([.d tU t28,.d ti t29,.d ti t30]++ba 19 []))),[],(bK 5 ([[.obj 0 false (.d fo n5)]]++bK 44 []))⟩
abbrev aH.L1.Y0:=Bs
abbrev aH.L1.X0:=((List gm)×Int×Int×gm)×(Bs)
def aH.L1.bw:aH.L1.X0→Exit×AS:=fun x=>(.exit 2,⟨([.undef,.undef,.undef,.d tB x.2,.undef,.ptr (.new 5 0) 0 [] 0]++ba 10 ([.d (.slice fo) x.1.1,.d ti x.1.2.1,.d ti x.1.2.2.1]++ba 31 [])),[],(bK 5 ([[.obj 0 false (.d fo x.1.2.2.2)]]++bK 44 []))⟩)
abbrev aH.L1.X:=aH.L1.X0
abbrev aH.L1.Y:=aH.L1.Y0
def aH.L1.out:aH.L1.X→Out (Exit×AS):=fun x=> .ok (aH.L1.bw x)
def aH.L1.add:aH.L1.D→aH.L1.Y→aH.L1.X:=fun(outv_2,t16_2,t17_2,t18_2,t28,t29,t30,n5) y=>((t16_2,t17_2,t18_2,n5),y)
abbrev aH.D:=Lk
def aH.st:aH.D→SA:=fun l=>([.d kq l],[])
abbrev aH.Y:=Bs
abbrev aH.X:=Bs
def aH.out:aH.X→aZ:=fun x=>⟨.d tB x,[],[]⟩
def aH.add:aH.D→aH.Y→aH.X:=fun l y=>y
def aH.L1.aD:aH.L1.D→Prop:=fun(o,bs,n,i,ks,m,j,b)=>ks.length≤12∧o.length+8*ks.length≤80000000+8*j.toNat∧m=ks.length∧∃k:Nat,k≤ks.length∧j=k
def aH.L1.F:aH.L1.D→aH.L1.Y:=fun(o,bs,n,i,ks,m,j,b)=>jE o (ks.drop j.toNat)
def aH.L0.aD:aH.L0.D→Prop:=fun(o,bs,n,i)=>(∀b∈bs,Er b)∧bs.length≤4∧o.length≤1000+200*i.toNat∧n=bs.length∧∃k:Nat,k≤bs.length∧i=k
def aH.L0.F:aH.L0.D→aH.L0.Y:=fun(o,bs,n,i)=>(bs.drop i.toNat).foldl BW o
def aH.aD:aH.D→Prop:=fun l=>yB l∧l.1.length≤1000000000
def aH.F:aH.D→aH.Y:=fun l=>px l
noncomputable def aH.G:dV:=eY (P:=Tryz.prog) [aQ.sg,dE.sg,dw.sg]
noncomputable def aH.L0.E:=bP.cv aH.L0.st aH.L0.aD aH.L0.add aH.L0.F aH.L0.out
noncomputable def aH.L0.call:aH.L0.D→Option aH.L0.X:=dk aH.L0.E aH.L0.st
noncomputable def aH.L1.E:=bP.cv aH.L1.st aH.L1.aD aH.L1.add aH.L1.F aH.L1.out
noncomputable def aH.L1.call:aH.L1.D→Option aH.L1.X:=dk aH.L1.E aH.L1.st
noncomputable def aH.an:eJ:= {loops:=jJ [(5,{bn:=[3,16,17,18]}),(9,{bn:=[3,5,16,17,18,28,29,30],sites:=[5]})],outs:=jI [(5,{bn:=[3]},{bn:=[2]}),(9,{bn:=[3,5,16,17,18],sites:=[5]},{bn:=[2]})],fJ:=kz [(5,aH.L0.E),(9,aH.L1.E)],res:=[some tB]}
noncomputable def aH.A:= @cK Tryz.prog aH.G aH.an 0 Tryz.f17 _ aH.st
abbrev aH.Ok:=cM @aH.A aH.aD aH.add aH.F aH.out
noncomputable def aH.L0.R:= @bV Tryz.prog aH.G aH.an 0 Tryz.f17 0 _ aH.L0.st
abbrev aH.L0.Ok:=eA Tryz.prog aH.G aH.an 0 Tryz.f17 0 aH.L0.st aH.L0.aD aH.L0.add aH.L0.F aH.L0.out
noncomputable def aH.L1.R:= @bV Tryz.prog aH.G aH.an 0 Tryz.f17 1 _ aH.L1.st
abbrev aH.L1.Ok:=eA Tryz.prog aH.G aH.an 0 Tryz.f17 1 aH.L1.st aH.L1.aD aH.L1.add aH.L1.F aH.L1.out
theorem aH.L0.run:bE aH.L0.call aH.L0.aD aH.L0.add aH.L0.F:=eK (eI [.d tB,.d (.slice fo),.d ti,.d ti] fun _=>by kernel_rfl)
theorem aH.L0.aG:fX @aH.L0.R aH.L0.st aH.L0.aD aH.L0.add aH.L0.F aH.L0.bw aH.L0.Ok:=gf
theorem aH.L0.step{R:Type}(outv:Bs)(t16:(List gm))(t17:Int)(t18:Int)(kn:AS→Option R)(kx:Exit→AS→Option R):aH.L0.R (outv,t16,t17,t18) kn kx=
  aF ((gb t18 t17)) (
   aF (dS t18 (((List.length t16):Nat):Int)) (
   ae (dE.call (outv,(((List.length (nth fo t16 (Int.toNat t18)).1):Nat):Int))) fun x1=>
   ae (aH.L1.call (x1,t16,t17,t18,(nth fo t16 (Int.toNat t18)).1,(((List.length (nth fo t16 (Int.toNat t18)).1):Nat):Int),(0:Int),(nth fo t16 (Int.toNat t18)))) fun x2=>
   ae (dE.call (x2.2,x2.1.2.2.2.2.1)) fun x3=>
   ae (dE.call (x3,x2.1.2.2.2.2.2.1)) fun x4=>
   ae (dw.call (x4,x2.1.2.2.2.2.2.2.1)) fun x5=>
   kn (aH.L0.st (x5,x2.1.1,x2.1.2.1,(bO .i64 x2.1.2.2.1 (1:Int))))) none) (
   kx (aH.L0.bw outv).1 (aH.L0.bw outv).2):=by kernel_rfl
theorem aH.L1.run:bE aH.L1.call aH.L1.aD aH.L1.add aH.L1.F:=eK (eI [.d tB,.d (.slice fo),.d ti,.d ti,.d tU,.d ti,.d ti,.d fo] fun _=>by kernel_rfl)
theorem aH.L1.aG:fX @aH.L1.R aH.L1.st aH.L1.aD aH.L1.add aH.L1.F aH.L1.bw aH.L1.Ok:=gf
theorem aH.L1.step{R:Type}(outv_2:Bs)(t16_2:(List gm))(t17_2:Int)(t18_2:Int)(t28:Bs)(t29:Int)(t30:Int)(n5:gm)(kn:AS→Option R)(kx:Exit→AS→Option R):aH.L1.R (outv_2,t16_2,t17_2,t18_2,t28,t29,t30,n5) kn kx=
  aF ((gb t30 t29)) (
   aF (dS t30 (((List.length t28):Nat):Int)) (
   ae (dw.call (outv_2,(nth tu t28 (Int.toNat t30)))) fun x1=>
   kn (aH.L1.st (x1,t16_2,t17_2,t18_2,t28,t29,(bO .i64 t30 (1:Int)),n5))) none) (
   kx (aH.L1.bw ((t16_2,t17_2,t18_2,n5),outv_2)).1 (aH.L1.bw ((t16_2,t17_2,t18_2,n5),outv_2)).2):=by kernel_rfl
theorem aH.eq{R:Type}(l:Lk)(k:aZ→Option R):aH.A l k=
  ae (aQ.call l) fun x1=>
  aF ((!x1)) (
   k (aH.out ([]:List Int))) (
   ae (dE.call (([]:List Int),(((List.length l.1):Nat):Int))) fun x2=>
   ae (aH.L0.call (x2,l.1,(((List.length l.1):Nat):Int),(0:Int))) fun x9=>
   k (aH.out x9)):=by kernel_rfl
theorem aH.L1.ok:aH.L1.Ok:=by
 refine aH.L1.aG (fun(o,bs,n,i,ks,m,j,b)=>ks.length - j.toNat) ?_
 rintro⟨o,bs,n,i,ks,m,j,b⟩ ⟨hk12,hl,rfl,k,hk,rfl⟩
 have hk12:ks.length≤12:=hk12
 have hk:k≤ks.length:=hk
 have hl:o.length+8*ks.length≤80000000+8*(k:Int).toNat:=hl
 rw[Int.toNat_natCast]at hl
 by_cases h:k < ks.length
 ·left
  have n1:nth (.int .u64) ks k=ks[k]:=bZ (t:= .int .u64) h
  refine⟨(o++fR ks[k],bs,n,i,ks,ks.length,((k+1:Nat):Int),b),⟨hk12,by rw[List.length_append,bR,Int.toNat_natCast];omega,rfl,k+1,by omega,rfl⟩,by simp only[Int.toNat_natCast];omega,?_,fun kn kx=> ?_⟩
  ·simp only[aH.L1.add,aH.L1.F,Int.toNat_natCast]
   rw[xU _ _ _ h]
  ·rw[aH.L1.step]
   simp(disch:=omega) only[↓S1,↓if_pos,↓if_neg,if_pos,if_neg,if_true,if_false,S2,n1]
   rw[dw.run (d:=(o,ks[k])) (by show o.length≤90000000;omega)]
   rfl
 ·right
  obtain rfl:k=ks.length:=by omega
  intro R kn kx
  rw[aH.L1.step]
  simp(disch:=omega) only[↓S1,↓if_pos,↓if_neg,if_pos,if_neg,if_true,if_false,S2,aH.L1.add,aH.L1.F,List.drop_length]
  rfl
theorem aH.L0.ok:aH.L0.Ok:=by
 refine aH.L0.aG (fun(o,bs,n,i)=>bs.length - i.toNat) ?_
 rintro⟨o,bs,n,i⟩ ⟨hb,h4,hl,rfl,k,hk,rfl⟩
 have h4:bs.length≤4:=h4
 have hk:k≤bs.length:=hk
 have hl:o.length≤1000+200*(k:Int).toNat:=hl
 rw[Int.toNat_natCast]at hl
 by_cases h:k < bs.length
 ·left
  have hx:=hb _ (List.getElem_mem h)
  have n1:nth (.pair (.slice (.int .u64)) (.pair (.int .i64) (.pair (.int .i64) (.pair (.int .u64) .unit)))) bs k=bs[k]:=bZ (t:=(.pair (.slice (.int .u64)) (.pair (.int .i64) (.pair (.int .i64) (.pair (.int .u64) .unit))))) h
  have e0:=yJ o bs[k] hx.1
  refine⟨(BW o bs[k],bs,bs.length,((k+1:Nat):Int)),⟨hb,h4,by rw[Int.toNat_natCast];omega,rfl,k+1,by omega,rfl⟩,by simp only[Int.toNat_natCast];omega,?_,fun kn kx=> ?_⟩
  ·simp only[aH.L0.add,aH.L0.F,Int.toNat_natCast]
   rw[List.drop_eq_getElem_cons h]
   rfl
  ·rw[aH.L0.step,bA (by omega),bh (by omega) (by omega),Int.toNat_natCast,n1]
   obtain⟨⟨ks,af,dl,sc,u⟩,hbk⟩:∃b,bs[k]=b:=⟨_,rfl⟩
   rw[hbk]at hx e0 ⊢
   obtain⟨h12,ha,hd⟩:=hx
   have h12:ks.length≤12:=h12
   have ha:af≤9223372036854775807:=ha
   have hd:dl≤9223372036854775807:=hd
   have l1:=fj o ks.length
   have l2:=qk ks (ek o ks.length)
   have l3:=fj (jE (ek o ks.length) ks) af
   have l4:=fj (ek (jE (ek o ks.length) ks) af) dl
   simp only[ay]
   rw[dE.run (d:=(o,(ks.length:Int))) ⟨by show o.length≤90000000;omega,by show(ks.length:Int)≤9223372036854775807;omega⟩]
   simp only[aa,dE.add,dE.F]
   rw[aH.L1.run (d:=(ek o ks.length,bs,bs.length,k,ks,ks.length,0,(ks,af,dl,sc,u))) ⟨h12,by show(ek o ks.length).length+8*ks.length≤_;omega,rfl,0,by omega,rfl⟩]
   simp only[aa,aH.L1.add,aH.L1.F,Int.toNat_zero,List.drop_zero]
   rw[dE.run (d:=(jE (ek o ks.length) ks,af)) ⟨by show(jE (ek o ks.length) ks).length≤90000000;omega,ha⟩]
   simp only[aa,dE.add,dE.F]
   rw[dE.run (d:=(ek (jE (ek o ks.length) ks) af,dl)) ⟨by show(ek (jE (ek o ks.length) ks) af).length≤90000000;omega,hd⟩]
   simp only[aa,dE.add,dE.F]
   rw[dw.run (d:=(ek (ek (jE (ek o ks.length) ks) af) dl,sc)) (by show(ek (ek (jE (ek o ks.length) ks) af) dl).length≤90000000;omega)]
   simp only[aa,dw.add,dw.F]
   rw[N.kr (by omega)]
   rfl
 ·right
  obtain rfl:k=bs.length:=by omega
  intro R kn kx
  rw[aH.L0.step]
  simp(disch:=omega) only[↓S1,↓if_pos,↓if_neg,if_pos,if_neg,if_true,if_false,S2,aH.L0.add,aH.L0.F,List.drop_length]
  rfl
theorem Bf{l:Lk}(h:iZ l=true):(∀b∈l.1,Er b)∧0 < l.1.length∧l.1.length≤4:=by
 unfold iZ at h
 simp only[Bool.and_eq_true,List.all_eq_true,decide_eq_true_eq]at h
 exact⟨fun b hb=>C9 (h.1 b hb),h.2⟩
theorem aH.ok:aH.Ok:=by
 rintro l ⟨hl,hb⟩
 have hl:yB l:=hl
 rw[aH.eq,aQ.run (d:=l) ⟨hl,hb⟩]
 simp only[aa,aQ.add,aQ.F,aH.add,aH.F,px]
 cases hok:iZ l
 ·rfl
 ·obtain⟨h1,h2,h3⟩:=Bf hok
  have l1:=fj [] l.1.length
  have l0:([]:List Int).length=0:=rfl
  simp only[Bool.not_true,ao,if_true]
  rw[dE.run (d:=([],(l.1.length:Int))) ⟨by show([]:List Int).length≤90000000;omega,by show(l.1.length:Int)≤9223372036854775807;omega⟩]
  simp only[aa,dE.add,dE.F]
  rw[aH.L0.run (d:=(ek [] l.1.length,l.1,l.1.length,0)) ⟨h1,h3,by show(ek [] l.1.length).length≤_;omega,rfl,0,by omega,rfl⟩]
  rfl
theorem oc(l:Lk):(px l).length≤1000:=by
 unfold px
 split
 ·rename_i h
  obtain⟨h1,h2,h3⟩:=Bf h
  have key:∀(bs:List gm) (o:List Int),(∀b∈bs,Er b)→(bs.foldl BW o).length≤o.length+200*bs.length:=by
   intro bs
   induction bs with
   |nil=>intro o _;exact Nat.le_refl _
   |cons b bs ih=>
    intro o hb
    have e1:=ih (BW o b) fun x hx=>hb x (List.mem_cons_of_mem _ hx)
    have e2:=yJ o b (hb b List.mem_cons_self).1
    rw[List.foldl_cons,List.length_cons];omega
  have e:=key l.1 (ek [] l.1.length) h1
  have e2:=fj [] l.1.length
  have l0:([]:List Int).length=0:=rfl
  omega
 ·exact Nat.zero_le _
def Eb:ByteArray:=⟨#[108,111,99,107]⟩
def Fc(l:Lk):List Int:=if iZ l then xk Eb [px l] else List.replicate 32 0
noncomputable def aH.E:=Entry.cv [some kq] aH.st aH.aD aH.add aH.F aH.out
noncomputable def aH.call:aH.D→Option aH.X:=bJ aH.E aH.st
theorem aH.run:bE aH.call aH.aD aH.add aH.F:=cQ (cP [.d kq] fun _=>by kernel_rfl)
noncomputable def aH.sg:SG Tryz.prog:=⟨17,aW,aH.E,.fn 2 (by kernel_rfl) aH.ok (And.intro (.cv aH.L0.ok (by kernel_rfl)) (And.intro (.cv aH.L1.ok (by kernel_rfl)) trivial))⟩
abbrev fI.D:=Lk
def fI.st:fI.D→SA:=fun l=>([.d kq l],[])
abbrev fI.Y:=Bs
abbrev fI.X:=Bs
def fI.out:fI.X→aZ:=fun x=>⟨.d tH x,[],[]⟩
def fI.add:fI.D→fI.Y→fI.X:=fun l y=>y
def fI.aD:fI.D→Prop:=fun l=>yB l∧l.1.length≤1000000000
def fI.F:fI.D→fI.Y:=fun l=>Fc l
noncomputable def fI.G:dV:=eY (P:=Tryz.prog) [aQ.sg,aH.sg,bW.sg]
noncomputable def fI.an:eJ:= {}
noncomputable def fI.A:= @cK Tryz.prog fI.G fI.an 0 Tryz.f19 _ fI.st
abbrev fI.Ok:=cM @fI.A fI.aD fI.add fI.F fI.out
theorem fI.eq{R:Type}(l:Lk)(k:aZ→Option R):fI.A l k=
  ae (aQ.call l) fun x1=>
  aF ((!x1)) (
   k (fI.out (List.replicate 32 (0:Int)))) (
   ae (aH.call l) fun x2=>
   ae (bW.call ((⟨#[108,111,99,107]⟩:ByteArray),[x2])) fun x3=>
   k (fI.out x3)):=by kernel_rfl
theorem fI.ok:fI.Ok:=by
 rintro l ⟨hl,hb⟩
 have hl:yB l:=hl
 have hlen:=oc l
 rw[fI.eq,aQ.run (d:=l) ⟨hl,hb⟩,aH.run (d:=l) ⟨hl,hb⟩]
 simp only[aa,aQ.add,aQ.F,aH.add,aH.F,fI.add,fI.F,Fc]
 rw[bW.run (d:=((⟨#[108,111,99,107]⟩:ByteArray),[px l])) (sM (by decide) (by omega))]
 cases iZ l <;> rfl
noncomputable def fI.E:=Entry.cv [some kq] fI.st fI.aD fI.add fI.F fI.out
noncomputable def fI.call:fI.D→Option fI.X:=bJ fI.E fI.st
theorem fI.run:bE fI.call fI.aD fI.add fI.F:=cQ (cP [.d kq] fun _=>by kernel_rfl)
noncomputable def fI.sg:SG Tryz.prog:=⟨19,aW,fI.E,.fn 0 (by kernel_rfl) fI.ok trivial⟩
set_option synthInstance.maxSize 5000
abbrev ed.D:=Bs×Bs
def ed.st:ed.D→SA:=fun(b,h)=>([.d tB b,.d tH h],[])
abbrev ed.Y:=Bs
abbrev ed.X:=Bs
def ed.out:ed.X→aZ:=fun x=>⟨.d tB x,[],[]⟩
def ed.add:ed.D→ed.Y→ed.X:=fun(b,h) y=>y
def ed.aD:ed.D→Prop:=fun(b,h)=>b.length+h.length≤100000000∧h.length=32
def ed.F:ed.D→ed.Y:=fun(b,h)=>b++h
noncomputable def ed.G:dV:=eY (P:=Tryz.prog) [dz.sg]
noncomputable def ed.an:eJ:= {}
noncomputable def ed.A:= @cK Tryz.prog ed.G ed.an 0 Tryz.f140 _ ed.st
abbrev ed.Ok:=cM @ed.A ed.aD ed.add ed.F ed.out
theorem ed.eq{R:Type}(b:Bs)(h:Bs)(k:aZ→Option R):ed.A (b,h) k=
 ae (dz.call (b,(cut h 0 32))) fun x1=>
 k (ed.out x1):=by kernel_rfl
theorem ed.ok:ed.Ok:=by
 rintro⟨b,h⟩ ⟨h1,h2⟩
 have h1:b.length+h.length≤100000000:=h1
 have h2:h.length=32:=h2
 rw[ed.eq,eV h2,dz.run (d:=(b,h)) h1]
 rfl
noncomputable def ed.E:=Entry.cv [some tB,some tH] ed.st ed.aD ed.add ed.F ed.out
noncomputable def ed.call:ed.D→Option ed.X:=bJ ed.E ed.st
theorem ed.run:bE ed.call ed.aD ed.add ed.F:=cQ (cP [.d tB,.d tB] fun _=>by kernel_rfl)
noncomputable def ed.sg:SG Tryz.prog:=⟨140,aW,ed.E,.fn 0 (by kernel_rfl) ed.ok trivial⟩
abbrev dX.D:=Bs×Bs
def dX.st:dX.D→SA:=fun(b,c)=>([.d tB b,.d tB c],[])
abbrev dX.Y:=Bs
abbrev dX.X:=Bs
def dX.out:dX.X→aZ:=fun x=>⟨.d tB x,[],[]⟩
def dX.add:dX.D→dX.Y→dX.X:=fun(b,c) y=>y
def dX.aD:dX.D→Prop:=fun(b,c)=>b.length+c.length≤90000000
def dX.F:dX.D→dX.Y:=fun(b,c)=>b++(fu c.length++c)
noncomputable def dX.G:dV:=eY (P:=Tryz.prog) [cz.sg,aA.sg]
noncomputable def dX.an:eJ:= {res:=[some tB]}
noncomputable def dX.A:= @cK Tryz.prog dX.G dX.an 0 Tryz.f141 _ dX.st
abbrev dX.Ok:=cM @dX.A dX.aD dX.add dX.F dX.out
theorem dX.eq{R:Type}(b:Bs)(c:Bs)(k:aZ→Option R):dX.A (b,c) k=
 ae (cz.call (((List.length c):Nat):Int)) fun x1=>
 ae (aA.call [b,x1,c]) fun x2=>
 k (dX.out x2):=by kernel_rfl
theorem dX.ok:dX.Ok:=by
 rintro⟨b,c⟩ h
 have h:b.length+c.length≤90000000:=h
 have hl:=gT c.length
 rw[dX.eq,cz.run (d:=(c.length:Int)) ⟨by omega,by omega⟩]
 simp only[aa,cz.add,cz.F]
 rw[aA.run (d:=[b,fu c.length,c]) ⟨by show [b,fu c.length,c].length≤_;simp,by show js [b,fu c.length,c]≤_;simp only[js,List.flatten_cons,List.flatten_nil,List.append_nil,List.length_append];omega⟩]
 simp only[aa,aA.add,aA.F,dX.add,dX.F,List.flatten_cons,List.flatten_nil,List.append_nil]
noncomputable def dX.E:=Entry.cv [some tB,some tB] dX.st dX.aD dX.add dX.F dX.out
noncomputable def dX.call:dX.D→Option dX.X:=bJ dX.E dX.st
theorem dX.run:bE dX.call dX.aD dX.add dX.F:=cQ (cP [.d tB,.d tB] fun _=>by kernel_rfl)
noncomputable def dX.sg:SG Tryz.prog:=⟨141,aW,dX.E,.fn 0 (by kernel_rfl) dX.ok trivial⟩
def rk(b:List Int)(x:eR):List Int:=ek (b++x.1.1) x.1.2.1
def q9(b:List Int)(o:fL):List Int:=ek b o.1++(fu (px o.2.1).length++px o.2.1)
def kA(t:eD):List Int:=ek (t.2.1.foldl q9 (ek (t.1.foldl rk (ek [] t.1.length)) t.2.1.length)) t.2.2.1
def sE(b:List Int)(s:Sg):List Int:=b++fR s.1++fR s.2.1
def yy(b:List Int)(x:eR):List Int:=x.2.1.2.1.foldl sE (ek (ek b x.2.1.1) x.2.1.2.1.length)++fR x.2.1.2.2.1
def sT(t:eD):List Int:=if fg t then t.1.foldl yy (kA t) else []
def oY(t:eD):List Int:=if fg t then tag (bk (⟨#[116,120]⟩:ByteArray)) [kA t] else List.replicate 32 0
def E8(x:eR):Prop:=Sm x.1.1∧oo x.2.1∧x.2.1.2.1.length≤1000000000
def qF(t:eD):Prop:=Eu t∧(∀x∈t.1,E8 x)∧t.2.2.1≤9223372036854775807
theorem gh:∀(l:List eR) (m:List (jB×Bool)),qY m l=true→∀x∈l,qX x=true
 |[],_,_,x,hx=>by cases hx
 |y::l,m,h,x,hx=>by
  rw[qY,Bool.and_eq_true,Bool.and_eq_true]at h
  rcases List.mem_cons.1 hx with rfl | hx
  ·exact h.1.2
  ·exact gh l _ h.2 x hx
theorem jb:∀(l:List fL) (s:Int),mC s l=true→∀o∈l,(0≤o.1∧o.1≤1125899906842624)∧iZ o.2.1=true
 |[],_,_,o,ho=>by cases ho
 |y::l,s,h,o,ho=>by
  rw[mC,Bool.and_eq_true,Bool.and_eq_true]at h
  rcases List.mem_cons.1 ho with rfl | ho
  ·have h1:=h.1.1
   unfold pb nr at h1
   simp only[Bool.and_eq_true,decide_eq_true_eq]at h1
   exact⟨h1.2.1,h.1.2⟩
  ·exact jb l _ h.2 o ho
theorem ky{x:eR}(h:qX x=true):0≤x.1.2.1∧x.1.2.1 < 64∧0≤x.2.1.1∧x.2.1.1 < 4∧x.2.1.2.1.length≤12:=by
 unfold qX gn at h
 simp only[Bool.and_eq_true,decide_eq_true_eq]at h
 exact⟨h.1.1,h.1.2,h.2.1.1,h.2.1.2,h.2.2⟩
theorem gS{t:eD}(h:fg t=true):(1≤t.1.length∧t.1.length≤64∧t.2.1.length≤64∧0≤t.2.2.1)∧qY [] t.1=true∧mC 0 t.2.1=true:=by
 unfold fg vm at h
 simp only[Bool.and_eq_true,decide_eq_true_eq]at h
 exact h
theorem yQ(b:List Int)(x:eR):(rk b x).length≤b.length+x.1.1.length+11:=by
 have:=fj (b++x.1.1) x.1.2.1
 rw[List.length_append]at this
 exact this
theorem wQ(b:List Int)(o:fL):(q9 b o).length≤b.length+1022:=by
 have h1:=fj b o.1
 have h2:=gT (px o.2.1).length
 have h3:=oc o.2.1
 unfold q9
 rw[List.length_append,List.length_append]
 omega
theorem xc(b:List Int)(s:Sg):(sE b s).length=b.length+16:=by
 unfold sE
 rw[List.length_append,List.length_append,bR,bR]
abbrev aK.L0.D:=eD×Bs×(List eR)×Int×Int
def aK.L0.st:aK.L0.D→AS:=fun(t_2,b,t13,t14,t15)=>⟨([.undef,.ej fw t_2,.undef,.d tB b]++ba 9 ([.d (.slice cH) t13,.d ti t14,.d ti t15]++ba 38 [])),[],(List.replicate 54 [])⟩
abbrev aK.L0.Y0:=Bs
abbrev aK.L0.X0:=(eD)×(Bs)
def aK.L0.bw:aK.L0.X0→Exit×AS:=fun x=>(.exit 0,⟨([.undef,.ej fw x.1,.undef,.d tB x.2]++ba 50 []),[],(List.replicate 54 [])⟩)
abbrev aK.L0.X:=aK.L0.X0
abbrev aK.L0.Y:=aK.L0.Y0
def aK.L0.out:aK.L0.X→Out (Exit×AS):=fun x=> .ok (aK.L0.bw x)
def aK.L0.add:aK.L0.D→aK.L0.Y→aK.L0.X:=fun(t_2,b,t13,t14,t15) y=>(t_2,y)
abbrev aK.L1.D:=eD×Bs×(List fL)×Int×Int
def aK.L1.st:aK.L1.D→AS:=fun(t_3,b_2,t35,t36,t37)=>⟨([.undef,.ej fw t_3,.undef,.d tB b_2]++ba 31 ([.d (.slice eX) t35,.d ti t36,.d ti t37]++ba 16 [])),[],(List.replicate 54 [])⟩
abbrev aK.L1.Y0:=Bs
abbrev aK.L1.X0:=(eD)×(Bs)
def aK.L1.bw:aK.L1.X0→Exit×AS:=fun x=>(.exit 2,⟨([.undef,.ej fw x.1,.undef,.d tB x.2]++ba 50 []),[],(List.replicate 54 [])⟩)
abbrev aK.L1.X:=aK.L1.X0
abbrev aK.L1.Y:=aK.L1.Y0
def aK.L1.out:aK.L1.X→Out (Exit×AS):=fun x=> .ok (aK.L1.bw x)
def aK.L1.add:aK.L1.D→aK.L1.Y→aK.L1.X:=fun(t_3,b_2,t35,t36,t37) y=>(t_3,y)
abbrev aK.D:=eD
def aK.st:aK.D→SA:=fun t=>([.d fw t],[])
abbrev aK.Y:=Bs
abbrev aK.X:=Bs
def aK.out:aK.X→aZ:=fun x=>⟨.d tB x,[],[]⟩
def aK.add:aK.D→aK.Y→aK.X:=fun t y=>y
def aK.L0.aD:aK.L0.D→Prop:=fun(t,b,l,n,i)=>(l).length≤1000000000∧∃k:Nat,k≤(l).length∧i=k∧n=(l).length∧(l.length≤64)∧(∀x∈l,x.1.1.length=32∧x.1.2.1≤9223372036854775807)∧(b.length≤100+50*k)
def aK.L0.F:aK.L0.D→aK.L0.Y:=fun(t,b,l,n,i)=>(List.drop (Int.toNat i) l).foldl rk b
def aK.L1.aD:aK.L1.D→Prop:=fun(t,b,l,n,i)=>(l).length≤1000000000∧∃k:Nat,k≤(l).length∧i=k∧n=(l).length∧(l.length≤64)∧(∀o∈l,o.1≤9223372036854775807∧C0 o.2.1)∧(b.length≤4000+1100*k)
def aK.L1.F:aK.L1.D→aK.L1.Y:=fun(t,b,l,n,i)=>(List.drop (Int.toNat i) l).foldl q9 b
def aK.aD:aK.D→Prop:=fun t=>fg t=true∧qF t
def aK.F:aK.D→aK.Y:=fun t=>kA t
noncomputable def aK.G:dV:=eY (P:=Tryz.prog) [dE.sg,ed.sg,aH.sg,dX.sg]
noncomputable def aK.L0.E:=bP.cv aK.L0.st aK.L0.aD aK.L0.add aK.L0.F aK.L0.out
noncomputable def aK.L0.call:aK.L0.D→Option aK.L0.X:=dk aK.L0.E aK.L0.st
noncomputable def aK.L1.E:=bP.cv aK.L1.st aK.L1.aD aK.L1.add aK.L1.F aK.L1.out
noncomputable def aK.L1.call:aK.L1.D→Option aK.L1.X:=dk aK.L1.E aK.L1.st
noncomputable def aK.an:eJ:= {loops:=jJ [(3,{bn:=[1,3,13,14,15]}),(9,{bn:=[1,3,35,36,37]})],outs:=jI [(3,{bn:=[1,3]},{bn:=[2]}),(9,{bn:=[1,3]},{bn:=[2]})],fJ:=kz [(3,aK.L0.E),(9,aK.L1.E)],res:=[some tB]}
noncomputable def aK.A:= @cK Tryz.prog aK.G aK.an 0 Tryz.f97 _ aK.st
abbrev aK.Ok:=cM @aK.A aK.aD aK.add aK.F aK.out
noncomputable def aK.L0.R:= @bV Tryz.prog aK.G aK.an 0 Tryz.f97 0 _ aK.L0.st
abbrev aK.L0.Ok:=eA Tryz.prog aK.G aK.an 0 Tryz.f97 0 aK.L0.st aK.L0.aD aK.L0.add aK.L0.F aK.L0.out
noncomputable def aK.L1.R:= @bV Tryz.prog aK.G aK.an 0 Tryz.f97 1 _ aK.L1.st
abbrev aK.L1.Ok:=eA Tryz.prog aK.G aK.an 0 Tryz.f97 1 aK.L1.st aK.L1.aD aK.L1.add aK.L1.F aK.L1.out
theorem aK.L0.run:bE aK.L0.call aK.L0.aD aK.L0.add aK.L0.F:=eK (eI [.d fw,.d tB,.d (.slice cH),.d ti,.d ti] fun _=>by kernel_rfl)
theorem aK.L0.aG:fX @aK.L0.R aK.L0.st aK.L0.aD aK.L0.add aK.L0.F aK.L0.bw aK.L0.Ok:=gf
theorem aK.L0.step{R:Type}(t_2:eD)(b:Bs)(t13:(List eR))(t14:Int)(t15:Int)(kn:AS→Option R)(kx:Exit→AS→Option R):aK.L0.R (t_2,b,t13,t14,t15) kn kx=
  aF ((gb t15 t14)) (
   aF (dS t15 (((List.length t13):Nat):Int)) (
   ae (ed.call (b,(nth cH t13 (Int.toNat t15)).1.1)) fun x1=>
   ae (dE.call (x1,(nth cH t13 (Int.toNat t15)).1.2.1)) fun x2=>
   kn (aK.L0.st (t_2,x2,t13,t14,(bO .i64 t15 (1:Int))))) none) (
   kx (aK.L0.bw (t_2,b)).1 (aK.L0.bw (t_2,b)).2):=by kernel_rfl
theorem aK.L1.run:bE aK.L1.call aK.L1.aD aK.L1.add aK.L1.F:=eK (eI [.d fw,.d tB,.d (.slice eX),.d ti,.d ti] fun _=>by kernel_rfl)
theorem aK.L1.aG:fX @aK.L1.R aK.L1.st aK.L1.aD aK.L1.add aK.L1.F aK.L1.bw aK.L1.Ok:=gf
theorem aK.L1.step{R:Type}(t_3:eD)(b_2:Bs)(t35:(List fL))(t36:Int)(t37:Int)(kn:AS→Option R)(kx:Exit→AS→Option R):aK.L1.R (t_3,b_2,t35,t36,t37) kn kx=
  aF ((gb t37 t36)) (
   aF (dS t37 (((List.length t35):Nat):Int)) (
   ae (dE.call (b_2,(nth eX t35 (Int.toNat t37)).1)) fun x1=>
   ae (aH.call (nth eX t35 (Int.toNat t37)).2.1) fun x2=>
   ae (dX.call (x1,x2)) fun x3=>
   kn (aK.L1.st (t_3,x3,t35,t36,(bO .i64 t37 (1:Int))))) none) (
   kx (aK.L1.bw (t_3,b_2)).1 (aK.L1.bw (t_3,b_2)).2):=by kernel_rfl
theorem aK.eq{R:Type}(t:eD)(k:aZ→Option R):aK.A t k=
 ae (dE.call (([]:List Int),(((List.length t.1):Nat):Int))) fun x1=>
 ae (aK.L0.call (t,x1,t.1,(((List.length t.1):Nat):Int),(0:Int))) fun x4=>
 ae (dE.call (x4.2,(((List.length x4.1.2.1):Nat):Int))) fun x5=>
 ae (aK.L1.call (x4.1,x5,x4.1.2.1,(((List.length x4.1.2.1):Nat):Int),(0:Int))) fun x9=>
 ae (dE.call (x9.2,x9.1.2.2.1)) fun x10=>
 k (aK.out x10):=by kernel_rfl
theorem aK.L0.ok:aK.L0.Ok:=by
 refine aK.L0.aG (fun(t,b,l,n,i)=>(l).length - Int.toNat i) ?_
 rintro⟨t,b,l,n,i⟩ ⟨hlen,k,hk,rfl,rfl,h64,hx,hb⟩
 have hlen:(l).length≤1000000000:=hlen
 have hk:k≤(l).length:=hk
 have h64:l.length≤64:=h64
 have hx:∀x∈l,x.1.1.length=32∧x.1.2.1≤9223372036854775807:=hx
 have hb:b.length≤100+50*k:=hb
 by_cases h:k < (l).length
 ·left
  have n1:nth cH l k=l[k]:=bZ (t:=cH) h
  have hd:List.drop k l=l[k]::List.drop (k+1) l:=List.drop_eq_getElem_cons h
  refine⟨(t,(rk b l[k]),l,((l).length:Int),((k+1:Nat):Int)),⟨hlen,k+1,by omega,rfl,rfl,h64,hx,by have:=yQ b l[k];have:=(hx _ (List.getElem_mem h)).1;omega⟩,by simp only[Int.toNat_natCast];omega,?_,fun kn kx=> ?_⟩
  ·simp only[aK.L0.add,aK.L0.F,Int.toNat_natCast,hd,List.foldl_cons]
  ·rw[aK.L0.step,bA (by omega),bh (by omega) (by omega),Int.toNat_natCast,n1]
   simp only[ay]
   have e:=hx _ (List.getElem_mem h)
   have e2:(b++l[k].1.1).length=b.length+l[k].1.1.length:=List.length_append
   rw[ed.run (d:=(b,l[k].1.1)) ⟨by show b.length+l[k].1.1.length≤_;omega,e.1⟩]
   simp only[aa,ed.add,ed.F]
   rw[dE.run (d:=(b++l[k].1.1,l[k].1.2.1)) ⟨by show(b++l[k].1.1).length≤_;omega,e.2⟩]
   simp only[aa,dE.add,dE.F]
   rw[N.kr (by omega)]
   rfl
 ·right
  obtain rfl:k=(l).length:=by omega
  intro R kn kx
  rw[aK.L0.step,bm (by omega),ao]
  simp only[aK.L0.add,aK.L0.F,Int.toNat_natCast,List.drop_length,List.foldl_nil]
theorem aK.L1.ok:aK.L1.Ok:=by
 refine aK.L1.aG (fun(t,b,l,n,i)=>(l).length - Int.toNat i) ?_
 rintro⟨t,b,l,n,i⟩ ⟨hlen,k,hk,rfl,rfl,h64,hx,hb⟩
 have hlen:(l).length≤1000000000:=hlen
 have hk:k≤(l).length:=hk
 have h64:l.length≤64:=h64
 have hx:∀o∈l,o.1≤9223372036854775807∧C0 o.2.1:=hx
 have hb:b.length≤4000+1100*k:=hb
 by_cases h:k < (l).length
 ·left
  have n1:nth eX l k=l[k]:=bZ (t:=eX) h
  have hd:List.drop k l=l[k]::List.drop (k+1) l:=List.drop_eq_getElem_cons h
  refine⟨(t,(q9 b l[k]),l,((l).length:Int),((k+1:Nat):Int)),⟨hlen,k+1,by omega,rfl,rfl,h64,hx,by have:=wQ b l[k];omega⟩,by simp only[Int.toNat_natCast];omega,?_,fun kn kx=> ?_⟩
  ·simp only[aK.L1.add,aK.L1.F,Int.toNat_natCast,hd,List.foldl_cons]
  ·rw[aK.L1.step,bA (by omega),bh (by omega) (by omega),Int.toNat_natCast,n1]
   simp only[ay]
   have e:=hx _ (List.getElem_mem h)
   have e1:=fj b l[k].1
   have e2:=oc l[k].2.1
   rw[dE.run (d:=(b,l[k].1)) ⟨by show b.length≤_;omega,e.1⟩]
   simp only[aa,dE.add,dE.F]
   rw[aH.run (d:=l[k].2.1) e.2]
   simp only[aa,aH.add,aH.F]
   rw[dX.run (d:=(ek b l[k].1,px l[k].2.1)) (by show(ek b l[k].1).length+(px l[k].2.1).length≤_;omega)]
   simp only[aa,dX.add,dX.F]
   rw[N.kr (by omega)]
   rfl
 ·right
  obtain rfl:k=(l).length:=by omega
  intro R kn kx
  rw[aK.L1.step,bm (by omega),ao]
  simp only[aK.L1.add,aK.L1.F,Int.toNat_natCast,List.drop_length,List.foldl_nil]
theorem uQ:∀(l:List eR) (b:List Int),(∀x∈l,x.1.1.length=32)→(l.foldl rk b).length≤b.length+43*l.length
 |[],b,_=>Nat.le_refl _
 |x::l,b,h=>by
  have h1:=yQ b x
  have h2:=h x List.mem_cons_self
  have h3:=uQ l (rk b x) fun y hy=>h y (List.mem_cons_of_mem _ hy)
  rw[List.foldl_cons,List.length_cons]
  omega
theorem si:∀(l:List fL) (b:List Int),(l.foldl q9 b).length≤b.length+1022*l.length
 |[],b=>Nat.le_refl _
 |x::l,b=>by
  have h1:=wQ b x
  have h3:=si l (q9 b x)
  rw[List.foldl_cons,List.length_cons]
  omega
theorem sk{t:eD}(hok:fg t=true)(hv:qF t):(kA t).length≤70000:=by
 obtain⟨⟨_,a2,a3,_⟩,_,_⟩:=gS hok
 have h1:=uQ t.1 (ek [] t.1.length) fun x hx=>(hv.2.1 x hx).1.1
 have h2:=fj [] t.1.length
 have h3:=fj (t.1.foldl rk (ek [] t.1.length)) t.2.1.length
 have h4:=si t.2.1 (ek (t.1.foldl rk (ek [] t.1.length)) t.2.1.length)
 have h5:=fj (t.2.1.foldl q9 (ek (t.1.foldl rk (ek [] t.1.length)) t.2.1.length)) t.2.2.1
 have h0:([]:List Int).length=0:=rfl
 unfold kA
 omega
theorem aK.ok:aK.Ok:=by
 rintro t ⟨hok,hv⟩
 have hv:qF t:=hv
 obtain⟨⟨_,a2,a3,_⟩,b1,b2⟩:=gS hok
 have h0:([]:List Int).length=0:=rfl
 have l0:=fj [] t.1.length
 have l1:=uQ t.1 (ek [] t.1.length) fun x hx=>(hv.2.1 x hx).1.1
 have l2:=fj (t.1.foldl rk (ek [] t.1.length)) t.2.1.length
 have l3:=si t.2.1 (ek (t.1.foldl rk (ek [] t.1.length)) t.2.1.length)
 rw[aK.eq,dE.run (d:=([],(t.1.length:Int))) ⟨by show([]:List Int).length≤_;omega,by show(t.1.length:Int)≤_;omega⟩]
 simp only[aa,dE.add,dE.F]
 rw[aK.L0.run (d:=(t,ek [] t.1.length,t.1,t.1.length,0)) ⟨by show t.1.length≤_;omega,0,Nat.zero_le _,rfl,rfl,a2,fun x hx=>⟨(hv.2.1 x hx).1.1,by have:=ky (gh _ _ b1 x hx);omega⟩,by show(ek [] t.1.length).length≤_;omega⟩]
 simp only[aa,aK.L0.add,aK.L0.F,Int.toNat_zero,List.drop_zero]
 rw[dE.run (d:=(t.1.foldl rk (ek [] t.1.length),(t.2.1.length:Int))) ⟨by show(t.1.foldl rk (ek [] t.1.length)).length≤_;omega,by show(t.2.1.length:Int)≤_;omega⟩]
 simp only[aa,dE.add,dE.F]
 rw[aK.L1.run (d:=(t,ek (t.1.foldl rk (ek [] t.1.length)) t.2.1.length,t.2.1,t.2.1.length,0)) ⟨by show t.2.1.length≤_;omega,0,Nat.zero_le _,rfl,rfl,a3,fun o ho=>⟨by have:=(jb _ _ b2 o ho).1;omega,hv.1.1 o ho⟩,by show(ek (t.1.foldl rk (ek [] t.1.length)) t.2.1.length).length≤_;omega⟩]
 simp only[aa,aK.L1.add,aK.L1.F,Int.toNat_zero,List.drop_zero]
 rw[dE.run (d:=(t.2.1.foldl q9 (ek (t.1.foldl rk (ek [] t.1.length)) t.2.1.length),t.2.2.1)) ⟨by show(t.2.1.foldl q9 (ek (t.1.foldl rk (ek [] t.1.length)) t.2.1.length)).length≤_;omega,hv.2.2⟩]
 rfl
noncomputable def aK.E:=Entry.cv [some fw] aK.st aK.aD aK.add aK.F aK.out
noncomputable def aK.call:aK.D→Option aK.X:=bJ aK.E aK.st
theorem aK.run:bE aK.call aK.aD aK.add aK.F:=cQ (cP [.d fw] fun _=>by kernel_rfl)
noncomputable def aK.sg:SG Tryz.prog:=⟨97,aW,aK.E,.fn 2 (by kernel_rfl) aK.ok (And.intro (.cv aK.L0.ok (by kernel_rfl)) (And.intro (.cv aK.L1.ok (by kernel_rfl)) trivial))⟩
set_option synthInstance.maxSize 5000
def mN(n:Int)(x:eR):Int:=n+(10+8*x.2.1.2.1.length)+(if x.2.1.2.2.1=0 then 0 else 4)
def jA(t:eD):Int:=if fg t then t.1.foldl mN (10+8*t.2.1.length) else 0
def gw(t:eD):List jB:=if fg t then t.1.map (·.1) else []
def l7(id:List Int)(k n:Nat):List jB:=(List.range' k n).map fun i:Nat=>(id,((i:Int),()))
def gv(t:eD):List jB:=if fg t then l7 (oY t) 0 t.2.1.length else []
abbrev tid.D:=eD
def tid.st:tid.D→SA:=fun t=>([.d fw t],[])
abbrev tid.Y:=Bs
abbrev tid.X:=Bs
def tid.out:tid.X→aZ:=fun x=>⟨.d tH x,[],[]⟩
def tid.add:tid.D→tid.Y→tid.X:=fun t y=>y
def tid.aD:tid.D→Prop:=fun t=>qF t
def tid.F:tid.D→tid.Y:=fun t=>oY t
noncomputable def tid.G:dV:=eY (P:=Tryz.prog) [al.sg,aK.sg,bW.sg]
noncomputable def tid.an:eJ:= {}
noncomputable def tid.A:= @cK Tryz.prog tid.G tid.an 0 Tryz.f31 _ tid.st
abbrev tid.Ok:=cM @tid.A tid.aD tid.add tid.F tid.out
theorem tid.eq{R:Type}(t:eD)(k:aZ→Option R):tid.A t k=
  ae (al.call t) fun x1=>
  aF ((!x1)) (
   k (tid.out (List.replicate 32 (0:Int)))) (
   ae (aK.call t) fun x2=>
   ae (bW.call ((⟨#[116,120]⟩:ByteArray),[x2])) fun x3=>
   k (tid.out x3)):=by kernel_rfl
theorem tid.ok:tid.Ok:=by
 intro t hv
 have hv:qF t:=hv
 rw[tid.eq,al.run (d:=t) hv.1]
 simp only[aa,al.add,al.F,tid.add,tid.F,oY]
 cases hok:fg t
 ·rfl
 ·have hl:=sk hok hv
  rw[aK.run (d:=t) ⟨hok,hv⟩]
  simp only[Bool.not_true,ao,if_true,aa,aK.add,aK.F]
  rw[bW.run (d:=((⟨#[116,120]⟩:ByteArray),[kA t])) (sM (by decide) (by omega))]
  rfl
noncomputable def tid.E:=Entry.cv [some fw] tid.st tid.aD tid.add tid.F tid.out
noncomputable def tid.call:tid.D→Option tid.X:=bJ tid.E tid.st
theorem tid.run:bE tid.call tid.aD tid.add tid.F:=cQ (cP [.d fw] fun _=>by kernel_rfl)
noncomputable def tid.sg:SG Tryz.prog:=⟨31,aW,tid.E,.fn 0 (by kernel_rfl) tid.ok trivial⟩
abbrev aJ.L0.D:=Int×(List eR)×Int×Int
def aJ.L0.st:aJ.L0.D→AS:=fun(n,t15,t16,t17)=>⟨([.undef,.undef,.undef,.d ti n]++ba 11 ([.d (.slice cH) t15,.d ti t16,.d ti t17]++ba 19 [])),[],(List.replicate 37 [])⟩
abbrev aJ.L0.Y0:=Int
abbrev aJ.L0.X0:=Int
def aJ.L0.bw:aJ.L0.X0→Exit×AS:=fun x=>(.exit 0,⟨([.undef,.undef,.undef,.d ti x]++ba 33 []),[],(List.replicate 37 [])⟩)
abbrev aJ.L0.X:=aJ.L0.X0
abbrev aJ.L0.Y:=aJ.L0.Y0
def aJ.L0.out:aJ.L0.X→Out (Exit×AS):=fun x=> .ok (aJ.L0.bw x)
def aJ.L0.add:aJ.L0.D→aJ.L0.Y→aJ.L0.X:=fun(n,t15,t16,t17) y=>y
abbrev aJ.D:=eD
def aJ.st:aJ.D→SA:=fun t=>([.d fw t],[])
abbrev aJ.Y:=Int
abbrev aJ.X:=Int
def aJ.out:aJ.X→aZ:=fun x=>⟨.d ti x,[],[]⟩
def aJ.add:aJ.D→aJ.Y→aJ.X:=fun t y=>y
def aJ.L0.aD:aJ.L0.D→Prop:=fun(n,l,m,i)=>(l).length≤1000000000∧∃k:Nat,k≤(l).length∧i=k∧m=(l).length∧(l.length≤64)∧(∀x∈l,x.2.1.2.1.length≤12)∧(0≤n)∧(n≤1000+200*(k:Int))
def aJ.L0.F:aJ.L0.D→aJ.L0.Y:=fun(n,l,m,i)=>(List.drop (Int.toNat i) l).foldl mN n
def aJ.aD:aJ.D→Prop:=fun t=>qF t
def aJ.F:aJ.D→aJ.Y:=fun t=>jA t
noncomputable def aJ.G:dV:=eY (P:=Tryz.prog) [al.sg]
noncomputable def aJ.L0.E:=bP.cv aJ.L0.st aJ.L0.aD aJ.L0.add aJ.L0.F aJ.L0.out
noncomputable def aJ.L0.call:aJ.L0.D→Option aJ.L0.X:=dk aJ.L0.E aJ.L0.st
noncomputable def aJ.an:eJ:= {loops:=jJ [(5,{bn:=[3,15,16,17]})],outs:=jI [(5,{bn:=[3]},{bn:=[2]})],fJ:=kz [(5,aJ.L0.E)]}
noncomputable def aJ.A:= @cK Tryz.prog aJ.G aJ.an 0 Tryz.f33 _ aJ.st
abbrev aJ.Ok:=cM @aJ.A aJ.aD aJ.add aJ.F aJ.out
noncomputable def aJ.L0.R:= @bV Tryz.prog aJ.G aJ.an 0 Tryz.f33 0 _ aJ.L0.st
abbrev aJ.L0.Ok:=eA Tryz.prog aJ.G aJ.an 0 Tryz.f33 0 aJ.L0.st aJ.L0.aD aJ.L0.add aJ.L0.F aJ.L0.out
theorem aJ.L0.run:bE aJ.L0.call aJ.L0.aD aJ.L0.add aJ.L0.F:=eK (eI [.d ti,.d (.slice cH),.d ti,.d ti] fun _=>by kernel_rfl)
theorem aJ.L0.aG:fX @aJ.L0.R aJ.L0.st aJ.L0.aD aJ.L0.add aJ.L0.F aJ.L0.bw aJ.L0.Ok:=gf
theorem aJ.L0.step{R:Type}(n:Int)(t15:(List eR))(t16:Int)(t17:Int)(kn:AS→Option R)(kx:Exit→AS→Option R):aJ.L0.R (n,t15,t16,t17) kn kx=
  aF ((gb t17 t16)) (
   aF (dS t17 (((List.length t15):Nat):Int)) (
   aF ((gM (nth cH t15 (Int.toNat t17)).2.1.2.2.1 (0:Int))) (
    kn (aJ.L0.st ((bO .i64 (bO .i64 n (bO .i64 (10:Int) (eW .i64 (8:Int) (((List.length (nth cH t15 (Int.toNat t17)).2.1.2.1):Nat):Int)))) (4:Int)),t15,t16,(bO .i64 t17 (1:Int))))) (
    kn (aJ.L0.st ((bO .i64 n (bO .i64 (10:Int) (eW .i64 (8:Int) (((List.length (nth cH t15 (Int.toNat t17)).2.1.2.1):Nat):Int)))),t15,t16,(bO .i64 t17 (1:Int)))))) none) (
   kx (aJ.L0.bw n).1 (aJ.L0.bw n).2):=by kernel_rfl
theorem aJ.eq{R:Type}(t:eD)(k:aZ→Option R):aJ.A t k=
  ae (al.call t) fun x1=>
  aF ((!x1)) (
   k (aJ.out (0:Int))) (
   ae (aJ.L0.call ((bO .i64 (10:Int) (eW .i64 (8:Int) (((List.length t.2.1):Nat):Int))),t.1,(((List.length t.1):Nat):Int),(0:Int))) fun x2=>
   k (aJ.out x2)):=by kernel_rfl
theorem aJ.L0.ok:aJ.L0.Ok:=by
 refine aJ.L0.aG (fun(n,l,m,i)=>(l).length - Int.toNat i) ?_
 rintro⟨n,l,m,i⟩ ⟨hlen,k,hk,rfl,rfl,h64,hx,h0,h1⟩
 have hlen:(l).length≤1000000000:=hlen
 have hk:k≤(l).length:=hk
 have h64:l.length≤64:=h64
 have hx:∀x∈l,x.2.1.2.1.length≤12:=hx
 have h0:0≤n:=h0
 have h1:n≤1000+200*(k:Int):=h1
 by_cases h:k < (l).length
 ·left
  have n1:nth cH l k=l[k]:=bZ (t:=cH) h
  have hd:List.drop k l=l[k]::List.drop (k+1) l:=List.drop_eq_getElem_cons h
  refine⟨((mN n l[k]),l,((l).length:Int),((k+1:Nat):Int)),⟨hlen,k+1,by omega,rfl,rfl,h64,hx,by unfold mN;split <;> omega,by have:=hx _ (List.getElem_mem h);unfold mN;split <;> omega⟩,by simp only[Int.toNat_natCast];omega,?_,fun kn kx=> ?_⟩
  ·simp only[aJ.L0.add,aJ.L0.F,Int.toNat_natCast,hd,List.foldl_cons]
  ·rw[aJ.L0.step,bA (by omega),bh (by omega) (by omega),Int.toNat_natCast,n1]
   simp only[ay]
   have e:=hx _ (List.getElem_mem h)
   rw[N.Dl (by omega)]
   have e2:bO .i64 10 ((8*l[k].2.1.2.1.length:Nat):Int)=10+8*(l[k].2.1.2.1.length:Int):=by rw[fS (by omega) (by omega)];omega
   rw[e2,fS (x:=n) (by omega) (by omega),N.kr (by omega)]
   unfold mN
   by_cases hs:l[k].2.1.2.2.1=0
   ·rw[bM hs,ao,if_pos hs,Int.add_zero]
   ·rw[dA hs,ay,if_neg hs,fS (by omega) (by omega)]
 ·right
  obtain rfl:k=(l).length:=by omega
  intro R kn kx
  rw[aJ.L0.step,bm (by omega),ao]
  simp only[aJ.L0.add,aJ.L0.F,Int.toNat_natCast,List.drop_length,List.foldl_nil]
theorem aJ.ok:aJ.Ok:=by
 intro t hv
 have hv:qF t:=hv
 rw[aJ.eq,al.run (d:=t) hv.1]
 simp only[aa,al.add,al.F,aJ.add,aJ.F,jA]
 cases hok:fg t
 ·rfl
 ·obtain⟨⟨_,a2,a3,_⟩,b1,b2⟩:=gS hok
  rw[N.Dl (by omega),fS (by omega) (by omega),aJ.L0.run (d:=(10+((8*t.2.1.length:Nat):Int),t.1,t.1.length,0)) ⟨by show t.1.length≤_;omega,0,Nat.zero_le _,rfl,rfl,a2,fun x hx=>(ky (gh _ _ b1 x hx)).2.2.2.2,by show(0:Int)≤10+((8*t.2.1.length:Nat):Int);omega,by show 10+((8*t.2.1.length:Nat):Int)≤_;omega⟩]
  simp only[aa,aJ.L0.add,aJ.L0.F,Int.toNat_zero,List.drop_zero,Bool.not_true,ao,if_true,Int.natCast_mul]
  rfl
noncomputable def aJ.E:=Entry.cv [some fw] aJ.st aJ.aD aJ.add aJ.F aJ.out
noncomputable def aJ.call:aJ.D→Option aJ.X:=bJ aJ.E aJ.st
theorem aJ.run:bE aJ.call aJ.aD aJ.add aJ.F:=cQ (cP [.d fw] fun _=>by kernel_rfl)
noncomputable def aJ.sg:SG Tryz.prog:=⟨33,aW,aJ.E,.fn 1 (by kernel_rfl) aJ.ok (And.intro (.cv aJ.L0.ok (by kernel_rfl)) trivial)⟩
abbrev aI.L0.D:=Bs×(List eR)×Int×Int
def aI.L0.st:aI.L0.D→AS:=fun(b,t14,t15,t16)=>⟨([.undef,.undef,.undef,.d tB b]++ba 10 ([.d (.slice cH) t14,.d ti t15,.d ti t16]++ba 36 [])),[],(List.replicate 53 [])⟩
abbrev aI.L0.Y0:=Bs
abbrev aI.L0.X0:=Bs
def aI.L0.bw:aI.L0.X0→Exit×AS:=fun x=>(.exit 0,⟨([.undef,.undef,.undef,.d tB x]++ba 49 []),[],(List.replicate 53 [])⟩)
abbrev aI.L0.X:=aI.L0.X0
abbrev aI.L0.Y:=aI.L0.Y0
def aI.L0.out:aI.L0.X→Out (Exit×AS):=fun x=> .ok (aI.L0.bw x)
def aI.L0.add:aI.L0.D→aI.L0.Y→aI.L0.X:=fun(b,t14,t15,t16) y=>y
abbrev aI.L1.D:=Bs×(List eR)×Int×Int×(List Sg)×Int×Int×eR
def aI.L1.st:aI.L1.D→AS:=fun(b_2,t14_2,t15_2,t16_2,t32,t33,t34,n5)=>⟨([.undef,.undef,.undef,.d tB b_2,.undef,.ptr (.new 5 0) 0 [] 0]++ba 8 ([.d (.slice cH) t14_2,.d ti t15_2,.d ti t16_2]++ba 15 ([.d (.slice jc) t32,.d ti t33,.d ti t34]++ba 18 []))),[],(bK 5 ([[.obj 0 false (.d cH n5)]]++bK 47 []))⟩
abbrev aI.L1.Y0:=Bs
abbrev aI.L1.X0:=((List eR)×Int×Int×eR)×(Bs)
def aI.L1.bw:aI.L1.X0→Exit×AS:=fun x=>(.exit 2,⟨([.undef,.undef,.undef,.d tB x.2,.undef,.ptr (.new 5 0) 0 [] 0]++ba 8 ([.d (.slice cH) x.1.1,.d ti x.1.2.1,.d ti x.1.2.2.1]++ba 36 [])),[],(bK 5 ([[.obj 0 false (.d cH x.1.2.2.2)]]++bK 47 []))⟩)
abbrev aI.L1.X:=aI.L1.X0
abbrev aI.L1.Y:=aI.L1.Y0
def aI.L1.out:aI.L1.X→Out (Exit×AS):=fun x=> .ok (aI.L1.bw x)
def aI.L1.add:aI.L1.D→aI.L1.Y→aI.L1.X:=fun(b_2,t14_2,t15_2,t16_2,t32,t33,t34,n5) y=>((t14_2,t15_2,t16_2,n5),y)
abbrev aI.D:=eD
def aI.st:aI.D→SA:=fun t=>([.d fw t],[])
abbrev aI.Y:=Bs
abbrev aI.X:=Bs
def aI.out:aI.X→aZ:=fun x=>⟨.d tB x,[],[]⟩
def aI.add:aI.D→aI.Y→aI.X:=fun t y=>y
def aI.L1.aD:aI.L1.D→Prop:=fun(b,l1,n1v,i1,l,n,i,x)=>(l).length≤1000000000∧∃k:Nat,k≤(l).length∧i=k∧n=(l).length∧(l.length≤12)∧(b.length≤80000000+16*k)
def aI.L1.F:aI.L1.D→aI.L1.Y:=fun(b,l1,n1v,i1,l,n,i,x)=>(List.drop (Int.toNat i) l).foldl sE b
def aI.L0.aD:aI.L0.D→Prop:=fun(b,l,n,i)=>(l).length≤1000000000∧∃k:Nat,k≤(l).length∧i=k∧n=(l).length∧(l.length≤64)∧(∀x∈l,x.2.1.2.1.length≤12∧x.2.1.1≤9223372036854775807)∧(b.length≤100000+1000*k)
def aI.L0.F:aI.L0.D→aI.L0.Y:=fun(b,l,n,i)=>(List.drop (Int.toNat i) l).foldl yy b
theorem sH:∀(l:List Sg) (b:List Int),(l.foldl sE b).length=b.length+16*l.length
 |[],b=>rfl
 |x::l,b=>by
  have h1:=xc b x
  have h3:=sH l (sE b x)
  rw[List.foldl_cons,List.length_cons]
  omega
theorem BT(b:List Int)(x:eR)(h:x.2.1.2.1.length≤12):(yy b x).length≤b.length+300:=by
 have e1:=fj b x.2.1.1
 have e2:=fj (ek b x.2.1.1) x.2.1.2.1.length
 have e3:=sH x.2.1.2.1 (ek (ek b x.2.1.1) x.2.1.2.1.length)
 unfold yy
 rw[List.length_append,bR]
 omega
def aI.aD:aI.D→Prop:=fun t=>qF t
def aI.F:aI.D→aI.Y:=fun t=>sT t
noncomputable def aI.G:dV:=eY (P:=Tryz.prog) [al.sg,aK.sg,dE.sg,dw.sg]
noncomputable def aI.L0.E:=bP.cv aI.L0.st aI.L0.aD aI.L0.add aI.L0.F aI.L0.out
noncomputable def aI.L0.call:aI.L0.D→Option aI.L0.X:=dk aI.L0.E aI.L0.st
noncomputable def aI.L1.E:=bP.cv aI.L1.st aI.L1.aD aI.L1.add aI.L1.F aI.L1.out
noncomputable def aI.L1.call:aI.L1.D→Option aI.L1.X:=dk aI.L1.E aI.L1.st
noncomputable def aI.an:eJ:= {loops:=jJ [(5,{bn:=[3,14,15,16]}),(9,{bn:=[3,5,14,15,16,32,33,34],sites:=[5]})],outs:=jI [(5,{bn:=[3]},{bn:=[2]}),(9,{bn:=[3,5,14,15,16],sites:=[5]},{bn:=[2]})],fJ:=kz [(5,aI.L0.E),(9,aI.L1.E)],res:=[some tB]}
noncomputable def aI.A:= @cK Tryz.prog aI.G aI.an 0 Tryz.f35 _ aI.st
abbrev aI.Ok:=cM @aI.A aI.aD aI.add aI.F aI.out
noncomputable def aI.L0.R:= @bV Tryz.prog aI.G aI.an 0 Tryz.f35 0 _ aI.L0.st
abbrev aI.L0.Ok:=eA Tryz.prog aI.G aI.an 0 Tryz.f35 0 aI.L0.st aI.L0.aD aI.L0.add aI.L0.F aI.L0.out
noncomputable def aI.L1.R:= @bV Tryz.prog aI.G aI.an 0 Tryz.f35 1 _ aI.L1.st
abbrev aI.L1.Ok:=eA Tryz.prog aI.G aI.an 0 Tryz.f35 1 aI.L1.st aI.L1.aD aI.L1.add aI.L1.F aI.L1.out
theorem aI.L0.run:bE aI.L0.call aI.L0.aD aI.L0.add aI.L0.F:=eK (eI [.d tB,.d (.slice cH),.d ti,.d ti] fun _=>by kernel_rfl)
theorem aI.L0.aG:fX @aI.L0.R aI.L0.st aI.L0.aD aI.L0.add aI.L0.F aI.L0.bw aI.L0.Ok:=gf
theorem aI.L0.step{R:Type}(b:Bs)(t14:(List eR))(t15:Int)(t16:Int)(kn:AS→Option R)(kx:Exit→AS→Option R):aI.L0.R (b,t14,t15,t16) kn kx=
  aF ((gb t16 t15)) (
   aF (dS t16 (((List.length t14):Nat):Int)) (
   ae (dE.call (b,(nth cH t14 (Int.toNat t16)).2.1.1)) fun x1=>
   ae (dE.call (x1,(((List.length (nth cH t14 (Int.toNat t16)).2.1.2.1):Nat):Int))) fun x2=>
   ae (aI.L1.call (x2,t14,t15,t16,(nth cH t14 (Int.toNat t16)).2.1.2.1,(((List.length (nth cH t14 (Int.toNat t16)).2.1.2.1):Nat):Int),(0:Int),(nth cH t14 (Int.toNat t16)))) fun x3=>
   ae (dw.call (x3.2,x3.1.2.2.2.2.1.2.2.1)) fun x4=>
   kn (aI.L0.st (x4,x3.1.1,x3.1.2.1,(bO .i64 x3.1.2.2.1 (1:Int))))) none) (
   kx (aI.L0.bw b).1 (aI.L0.bw b).2):=by kernel_rfl
theorem aI.L1.run:bE aI.L1.call aI.L1.aD aI.L1.add aI.L1.F:=eK (eI [.d tB,.d (.slice cH),.d ti,.d ti,.d (.slice jc),.d ti,.d ti,.d cH] fun _=>by kernel_rfl)
theorem aI.L1.aG:fX @aI.L1.R aI.L1.st aI.L1.aD aI.L1.add aI.L1.F aI.L1.bw aI.L1.Ok:=gf
theorem aI.L1.step{R:Type}(b_2:Bs)(t14_2:(List eR))(t15_2:Int)(t16_2:Int)(t32:(List Sg))(t33:Int)(t34:Int)(n5:eR)(kn:AS→Option R)(kx:Exit→AS→Option R):aI.L1.R (b_2,t14_2,t15_2,t16_2,t32,t33,t34,n5) kn kx=
  aF ((gb t34 t33)) (
   aF (dS t34 (((List.length t32):Nat):Int)) (
   ae (dw.call (b_2,(nth jc t32 (Int.toNat t34)).1)) fun x1=>
   ae (dw.call (x1,(nth jc t32 (Int.toNat t34)).2.1)) fun x2=>
   kn (aI.L1.st (x2,t14_2,t15_2,t16_2,t32,t33,(bO .i64 t34 (1:Int)),n5))) none) (
   kx (aI.L1.bw ((t14_2,t15_2,t16_2,n5),b_2)).1 (aI.L1.bw ((t14_2,t15_2,t16_2,n5),b_2)).2):=by kernel_rfl
theorem aI.eq{R:Type}(t:eD)(k:aZ→Option R):aI.A t k=
  ae (al.call t) fun x1=>
  aF ((!x1)) (
   k (aI.out ([]:List Int))) (
   ae (aK.call t) fun x2=>
   ae (aI.L0.call (x2,t.1,(((List.length t.1):Nat):Int),(0:Int))) fun x9=>
   k (aI.out x9)):=by kernel_rfl
theorem aI.L1.ok:aI.L1.Ok:=by
 refine aI.L1.aG (fun(b,l1,n1v,i1,l,n,i,x)=>(l).length - Int.toNat i) ?_
 rintro⟨b,l1,n1v,i1,l,n,i,x⟩ ⟨hlen,k,hk,rfl,rfl,h12,hb⟩
 have hlen:(l).length≤1000000000:=hlen
 have hk:k≤(l).length:=hk
 have h12:l.length≤12:=h12
 have hb:b.length≤80000000+16*k:=hb
 by_cases h:k < (l).length
 ·left
  have n1:nth jc l k=l[k]:=bZ (t:=jc) h
  have hd:List.drop k l=l[k]::List.drop (k+1) l:=List.drop_eq_getElem_cons h
  refine⟨((sE b l[k]),l1,n1v,i1,l,((l).length:Int),((k+1:Nat):Int),x),⟨hlen,k+1,by omega,rfl,rfl,h12,by have:=xc b l[k];omega⟩,by simp only[Int.toNat_natCast];omega,?_,fun kn kx=> ?_⟩
  ·simp only[aI.L1.add,aI.L1.F,Int.toNat_natCast,hd,List.foldl_cons]
  ·rw[aI.L1.step,bA (by omega),bh (by omega) (by omega),Int.toNat_natCast,n1]
   simp only[ay]
   rw[dw.run (d:=(b,l[k].1)) (by show b.length≤_;omega)]
   simp only[aa,dw.add,dw.F]
   rw[dw.run (d:=(b++fR l[k].1,l[k].2.1)) (by show(b++fR l[k].1).length≤_;rw[List.length_append,bR];omega)]
   simp only[aa,dw.add,dw.F]
   rw[N.kr (by omega)]
   rfl
 ·right
  obtain rfl:k=(l).length:=by omega
  intro R kn kx
  rw[aI.L1.step,bm (by omega),ao]
  simp only[aI.L1.add,aI.L1.F,Int.toNat_natCast,List.drop_length,List.foldl_nil]
theorem aI.L0.ok:aI.L0.Ok:=by
 refine aI.L0.aG (fun(b,l,n,i)=>(l).length - Int.toNat i) ?_
 rintro⟨b,l,n,i⟩ ⟨hlen,k,hk,rfl,rfl,h64,hx,hb⟩
 have hlen:(l).length≤1000000000:=hlen
 have hk:k≤(l).length:=hk
 have h64:l.length≤64:=h64
 have hx:∀x∈l,x.2.1.2.1.length≤12∧x.2.1.1≤9223372036854775807:=hx
 have hb:b.length≤100000+1000*k:=hb
 by_cases h:k < (l).length
 ·left
  have n1:nth cH l k=l[k]:=bZ (t:=cH) h
  have hd:List.drop k l=l[k]::List.drop (k+1) l:=List.drop_eq_getElem_cons h
  refine⟨((yy b l[k]),l,((l).length:Int),((k+1:Nat):Int)),⟨hlen,k+1,by omega,rfl,rfl,h64,hx,by have:=BT b l[k] (hx _ (List.getElem_mem h)).1;omega⟩,by simp only[Int.toNat_natCast];omega,?_,fun kn kx=> ?_⟩
  ·simp only[aI.L0.add,aI.L0.F,Int.toNat_natCast,hd,List.foldl_cons]
  ·rw[aI.L0.step,bA (by omega),bh (by omega) (by omega),Int.toNat_natCast,n1]
   simp only[ay]
   have e:=hx _ (List.getElem_mem h)
   have e1:=fj b l[k].2.1.1
   have e2:=fj (ek b l[k].2.1.1) l[k].2.1.2.1.length
   have e3:=sH l[k].2.1.2.1 (ek (ek b l[k].2.1.1) l[k].2.1.2.1.length)
   rw[dE.run (d:=(b,l[k].2.1.1)) ⟨by show b.length≤_;omega,e.2⟩]
   simp only[aa,dE.add,dE.F]
   rw[dE.run (d:=(ek b l[k].2.1.1,(l[k].2.1.2.1.length:Int))) ⟨by show(ek b l[k].2.1.1).length≤_;omega,by show(l[k].2.1.2.1.length:Int)≤_;omega⟩]
   simp only[aa,dE.add,dE.F]
   rw[aI.L1.run (d:=(ek (ek b l[k].2.1.1) l[k].2.1.2.1.length,l,l.length,k,l[k].2.1.2.1,l[k].2.1.2.1.length,0,l[k])) ⟨by show l[k].2.1.2.1.length≤_;omega,0,Nat.zero_le _,rfl,rfl,e.1,by show(ek (ek b l[k].2.1.1) l[k].2.1.2.1.length).length≤_;omega⟩]
   simp only[aa,aI.L1.add,aI.L1.F,Int.toNat_zero,List.drop_zero]
   rw[dw.run (d:=(l[k].2.1.2.1.foldl sE (ek (ek b l[k].2.1.1) l[k].2.1.2.1.length),l[k].2.1.2.2.1)) (by show(l[k].2.1.2.1.foldl sE (ek (ek b l[k].2.1.1) l[k].2.1.2.1.length)).length≤_;omega)]
   simp only[aa,dw.add,dw.F]
   rw[N.kr (by omega)]
   rfl
 ·right
  obtain rfl:k=(l).length:=by omega
  intro R kn kx
  rw[aI.L0.step,bm (by omega),ao]
  simp only[aI.L0.add,aI.L0.F,Int.toNat_natCast,List.drop_length,List.foldl_nil]
theorem aI.ok:aI.Ok:=by
 intro t hv
 have hv:qF t:=hv
 rw[aI.eq,al.run (d:=t) hv.1]
 simp only[aa,al.add,al.F,aI.add,aI.F,sT]
 cases hok:fg t
 ·rfl
 ·obtain⟨⟨_,a2,a3,_⟩,b1,b2⟩:=gS hok
  have hl:=sk hok hv
  rw[aK.run (d:=t) ⟨hok,hv⟩]
  simp only[Bool.not_true,ao,if_true,aa,aK.add,aK.F]
  rw[aI.L0.run (d:=(kA t,t.1,t.1.length,0)) ⟨by show t.1.length≤_;omega,0,Nat.zero_le _,rfl,rfl,a2,fun x hx=>by have:=ky (gh _ _ b1 x hx);exact⟨this.2.2.2.2,by omega⟩,by show(kA t).length≤_;omega⟩]
  rfl
noncomputable def aI.E:=Entry.cv [some fw] aI.st aI.aD aI.add aI.F aI.out
noncomputable def aI.call:aI.D→Option aI.X:=bJ aI.E aI.st
theorem aI.run:bE aI.call aI.aD aI.add aI.F:=cQ (cP [.d fw] fun _=>by kernel_rfl)
noncomputable def aI.sg:SG Tryz.prog:=⟨35,aW,aI.E,.fn 2 (by kernel_rfl) aI.ok (And.intro (.cv aI.L0.ok (by kernel_rfl)) (And.intro (.cv aI.L1.ok (by kernel_rfl)) trivial))⟩
abbrev aN.L0.D:=Nat×(List eR)×Int×Int×(List jB)
def aN.L0.st:aN.L0.D→AS:=fun(lL,t9,t10,t11,n19)=>⟨([.undef,.undef,.bU (.new 19 0) 0 [] 0 0 lL]++ba 6 ([.d (.slice cH) t9,.d ti t10,.d ti t11]++ba 10 [])),[],(bK 19 [[.obj 0 false (.vec 55 iC n19)],[],[]])⟩
abbrev aN.L0.Y0:=Nat×(List jB)
abbrev aN.L0.X0:=Nat×(List jB)
def aN.L0.bw:aN.L0.X0→Exit×AS:=fun x=>(.exit 0,⟨([.undef,.undef,.bU (.new 19 0) 0 [] 0 0 x.1]++ba 19 []),[],(bK 19 [[.obj 0 false (.vec 55 iC x.2)],[],[]])⟩)
abbrev aN.L0.X:=aN.L0.X0
abbrev aN.L0.Y:=aN.L0.Y0
def aN.L0.out:aN.L0.X→Out (Exit×AS):=fun x=> .ok (aN.L0.bw x)
def aN.L0.add:aN.L0.D→aN.L0.Y→aN.L0.X:=fun(lL,t9,t10,t11,n19) y=>y
abbrev aN.D:=eD
def aN.st:aN.D→SA:=fun t=>([.d fw t],[])
abbrev aN.Y:=(List jB)
abbrev aN.X:=(List jB)
def aN.out:aN.X→aZ:=fun x=>⟨.d (.slice iC) x,[],[]⟩
def aN.add:aN.D→aN.Y→aN.X:=fun t y=>y
def aN.L0.aD:aN.L0.D→Prop:=fun(L,l,n,i,r)=>(l).length≤1000000∧∃k:Nat,k≤(l).length∧i=k∧n=(l).length∧L=(r).length∧(r).length≤1000000+k
def aN.L0.F:aN.L0.D→aN.L0.Y:=fun(L,l,n,i,r)=>(L+(List.drop (Int.toNat i) l).length,r++(List.drop (Int.toNat i) l).map (fun x:eR=>x.1))
def aN.aD:aN.D→Prop:=fun t=>Eu t
def aN.F:aN.D→aN.Y:=fun t=>gw t
noncomputable def aN.G:dV:=eY (P:=Tryz.prog) [al.sg]
noncomputable def aN.L0.E:=bP.cv aN.L0.st aN.L0.aD aN.L0.add aN.L0.F aN.L0.out
noncomputable def aN.L0.call:aN.L0.D→Option aN.L0.X:=dk aN.L0.E aN.L0.st
noncomputable def aN.an:eJ:= {loops:=jJ [(4,{bn:=[2,9,10,11],sites:=[19],iH:=[⟨2,[],19,67⟩]})],outs:=jI [(4,{bn:=[2],sites:=[19]},{bn:=[2]})],fJ:=kz [(4,aN.L0.E)],res:=[some (.slice iC)]}
noncomputable def aN.A:= @cK Tryz.prog aN.G aN.an 0 Tryz.f38 _ aN.st
abbrev aN.Ok:=cM @aN.A aN.aD aN.add aN.F aN.out
noncomputable def aN.L0.R:= @bV Tryz.prog aN.G aN.an 0 Tryz.f38 0 _ aN.L0.st
abbrev aN.L0.Ok:=eA Tryz.prog aN.G aN.an 0 Tryz.f38 0 aN.L0.st aN.L0.aD aN.L0.add aN.L0.F aN.L0.out
theorem aN.L0.run:bE aN.L0.call aN.L0.aD aN.L0.add aN.L0.F:=eK (eI [.n,.d (.slice cH),.d ti,.d ti,.d (.slice iC)] fun _=>by kernel_rfl)
theorem aN.L0.aG:fX @aN.L0.R aN.L0.st aN.L0.aD aN.L0.add aN.L0.F aN.L0.bw aN.L0.Ok:=gf
theorem aN.L0.step{R:Type}(lL:Nat)(t9:(List eR))(t10:Int)(t11:Int)(n19:(List jB))(kn:AS→Option R)(kx:Exit→AS→Option R):aN.L0.R (lL,t9,t10,t11,n19) kn kx=
  aF ((gb t11 t10)) (
   aF (dS t11 (((List.length t9):Nat):Int)) (
   aF (decide (lL≤(List.length n19))) (
   aF (du (lL+1) 40) (
   kn (aN.L0.st ((lL+1),t9,t10,(bO .i64 t11 (1:Int)),((List.take lL n19)++ [(nth cH t9 (Int.toNat t11)).1])))) none) none) none) (
   kx (aN.L0.bw (lL,n19)).1 (aN.L0.bw (lL,n19)).2):=by kernel_rfl
theorem aN.eq{R:Type}(t:eD)(k:aZ→Option R):aN.A t k=
  ae (al.call t) fun x1=>
  aF ((!x1)) (
   k (aN.out ([]:List jB))) (
   ae (aN.L0.call (0,t.1,(((List.length t.1):Nat):Int),(0:Int),([]:List jB))) fun x2=>
   aF (decide (0=0∧(0+x2.1)≤(List.length x2.2))) (
   k (aN.out (cut x2.2 0 x2.1))) none):=by kernel_rfl
theorem aN.L0.ok:aN.L0.Ok:=by
 refine aN.L0.aG (fun(L,l,n,i,r)=>(l).length - Int.toNat i) ?_
 rintro⟨L,l,n,i,r⟩ ⟨hlen,k,hk,rfl,rfl,rfl,hrow⟩
 have hlen:(l).length≤1000000:=hlen
 have hk:k≤(l).length:=hk
 have hrow:(r).length≤1000000+k:=hrow
 by_cases h:k < (l).length
 ·left
  have n1:nth cH l k=l[k]:=bZ (t:=cH) h
  have hd:List.drop k l=l[k]::List.drop (k+1) l:=List.drop_eq_getElem_cons h
  refine⟨((r).length+1,l,((l).length:Int),((k+1:Nat):Int),r++ [(fun x:eR=>x.1) l[k]]),⟨hlen,k+1,by omega,rfl,rfl,by rw[List.length_append];rfl,by rw[List.length_append];show(r).length+1≤_;omega⟩,by simp only[Int.toNat_natCast];omega,?_,fun kn kx=> ?_⟩
  ·simp only[aN.L0.add,aN.L0.F,Int.toNat_natCast,hd,List.map_cons,List.length_cons,List.append_assoc,List.singleton_append]
   rw[show ∀a c:Nat,a+1+c=a+(c+1) from fun a c=>by omega]
  ·rw[aN.L0.step,bA (by omega),bh (show(0:Int)≤(k:Int) by omega) (by omega),Int.toNat_natCast,n1]
   simp only[ay]
   rw[aR (Nat.le_refl _),eN (by omega) (by omega),N.kr (by omega),List.take_length]
   rfl
 ·right
  obtain rfl:k=(l).length:=by omega
  intro R kn kx
  rw[aN.L0.step,bm (by omega),ao]
  simp only[aN.L0.add,aN.L0.F,Int.toNat_natCast,List.drop_length,List.map_nil,List.append_nil,List.length_nil,Nat.add_zero]
theorem aN.ok:aN.Ok:=by
 intro t hv
 have hv:Eu t:=hv
 rw[aN.eq,al.run (d:=t) hv]
 simp only[aa,al.add,al.F,aN.add,aN.F,gw]
 cases hok:fg t
 ·rfl
 ·obtain⟨⟨_,a2,a3,_⟩,b1,b2⟩:=gS hok
  rw[aN.L0.run (d:=(0,t.1,t.1.length,0,[])) ⟨by show t.1.length≤_;omega,0,Nat.zero_le _,rfl,rfl,rfl,Nat.zero_le _⟩]
  simp only[Bool.not_true,ao,if_true,aa,aN.L0.add,aN.L0.F,Int.toNat_zero,List.drop_zero,List.nil_append,Nat.zero_add]
  rw[aR ⟨by trivial,by rw[List.length_map];exact Nat.le_refl _⟩,ay,eV (by rw[List.length_map])]
noncomputable def aN.E:=Entry.cv [some fw] aN.st aN.aD aN.add aN.F aN.out
noncomputable def aN.call:aN.D→Option aN.X:=bJ aN.E aN.st
theorem aN.run:bE aN.call aN.aD aN.add aN.F:=cQ (cP [.d fw] fun _=>by kernel_rfl)
noncomputable def aN.sg:SG Tryz.prog:=⟨38,aW,aN.E,.fn 1 (by kernel_rfl) aN.ok (And.intro (.cv aN.L0.ok (by kernel_rfl)) trivial)⟩
abbrev bq.L0.D:=Nat×Int×Int×Bs×(List jB)
def bq.L0.st:bq.L0.D→AS:=fun(lL,t12,t13,n3,n21)=>⟨([.undef,.undef,.bU (.new 21 0) 0 [] 0 0 lL,.ptr (.new 3 0) 0 [] 0]++ba 8 ([.d ti t12,.d ti t13]++ba 10 [])),[],([[],[],[],[.obj 0 false (.d tH n3)]]++bK 17 [[.obj 0 false (.vec 55 iC n21)],[],[]])⟩
abbrev bq.L0.Y0:=Nat×(List jB)
abbrev bq.L0.X0:=Nat×(List jB)
def bq.L0.bw:bq.L0.X0→Exit×AS:=fun x=>(.exit 0,⟨([.undef,.undef,.bU (.new 21 0) 0 [] 0 0 x.1]++ba 21 []),[],(bK 21 [[.obj 0 false (.vec 55 iC x.2)],[],[]])⟩)
abbrev bq.L0.X:=bq.L0.X0
abbrev bq.L0.Y:=bq.L0.Y0
def bq.L0.out:bq.L0.X→Out (Exit×AS):=fun x=> .ok (bq.L0.bw x)
def bq.L0.add:bq.L0.D→bq.L0.Y→bq.L0.X:=fun(lL,t12,t13,n3,n21) y=>y
abbrev bq.D:=eD
def bq.st:bq.D→SA:=fun t=>([.d fw t],[])
abbrev bq.Y:=(List jB)
abbrev bq.X:=(List jB)
def bq.out:bq.X→aZ:=fun x=>⟨.d (.slice iC) x,[],[]⟩
def bq.add:bq.D→bq.Y→bq.X:=fun t y=>y
def bq.L0.aD:bq.L0.D→Prop:=fun(L,n,i,id,r)=>∃k m:Nat,k≤m∧i=k∧n=m∧m≤1000∧L=r.length∧L=k
def bq.L0.F:bq.L0.D→bq.L0.Y:=fun(L,n,i,id,r)=>(L+(n - i).toNat,r++l7 id i.toNat (n - i).toNat)
def bq.aD:bq.D→Prop:=fun t=>qF t
def bq.F:bq.D→bq.Y:=fun t=>gv t
noncomputable def bq.G:dV:=eY (P:=Tryz.prog) [tid.sg,al.sg]
noncomputable def bq.L0.E:=bP.cv bq.L0.st bq.L0.aD bq.L0.add bq.L0.F bq.L0.out
noncomputable def bq.L0.call:bq.L0.D→Option bq.L0.X:=dk bq.L0.E bq.L0.st
noncomputable def bq.an:eJ:= {loops:=jJ [(5,{bn:=[2,3,12,13],sites:=[3,21],iH:=[⟨2,[],21,67⟩]})],outs:=jI [(5,{bn:=[2],sites:=[21]},{bn:=[2]})],fJ:=kz [(5,bq.L0.E)],res:=[some (.slice iC)]}
noncomputable def bq.A:= @cK Tryz.prog bq.G bq.an 0 Tryz.f40 _ bq.st
abbrev bq.Ok:=cM @bq.A bq.aD bq.add bq.F bq.out
noncomputable def bq.L0.R:= @bV Tryz.prog bq.G bq.an 0 Tryz.f40 0 _ bq.L0.st
abbrev bq.L0.Ok:=eA Tryz.prog bq.G bq.an 0 Tryz.f40 0 bq.L0.st bq.L0.aD bq.L0.add bq.L0.F bq.L0.out
theorem bq.L0.run:bE bq.L0.call bq.L0.aD bq.L0.add bq.L0.F:=eK (eI [.n,.d ti,.d ti,.d tB,.d (.slice iC)] fun _=>by kernel_rfl)
theorem bq.L0.aG:fX @bq.L0.R bq.L0.st bq.L0.aD bq.L0.add bq.L0.F bq.L0.bw bq.L0.Ok:=gf
theorem bq.L0.step{R:Type}(lL:Nat)(t12:Int)(t13:Int)(n3:Bs)(n21:(List jB))(kn:AS→Option R)(kx:Exit→AS→Option R):bq.L0.R (lL,t12,t13,n3,n21) kn kx=
  aF ((gb t13 t12)) (
   aF (decide (lL≤(List.length n21))) (
   aF (du (lL+1) 40) (
   kn (bq.L0.st ((lL+1),t12,(bO .i64 t13 (1:Int)),n3,((List.take lL n21)++ [(n3,(t13,()))])))) none) none) (
   kx (bq.L0.bw (lL,n21)).1 (bq.L0.bw (lL,n21)).2):=by kernel_rfl
theorem bq.eq{R:Type}(t:eD)(k:aZ→Option R):bq.A t k=
  ae (tid.call t) fun x1=>
  ae (al.call t) fun x2=>
  aF ((!x2)) (
   k (bq.out ([]:List jB))) (
   ae (bq.L0.call (0,(((List.length t.2.1):Nat):Int),(0:Int),x1,([]:List jB))) fun x3=>
   aF (decide (0=0∧(0+x3.1)≤(List.length x3.2))) (
   k (bq.out (cut x3.2 0 x3.1))) none):=by kernel_rfl
theorem zW(id:List Int)(k n:Nat):(l7 id k n).length=n:=by simp[l7]
theorem xY(id:List Int)(k n:Nat):l7 id k (n+1)=(id,((k:Int),()))::l7 id (k+1) n:=by
 unfold l7
 rw[List.range'_succ,List.map_cons]
theorem bq.L0.ok:bq.L0.Ok:=by
 refine bq.L0.aG (fun(L,n,i,id,r)=>(n - i).toNat) ?_
 rintro⟨L,n,i,id,r⟩ ⟨k,m,hk,rfl,rfl,hm,rfl,hrk⟩
 have hrk:r.length=k:=hrk
 by_cases h:k < m
 ·left
  have e1:((m:Int) - (k:Int)).toNat=(m - (k+1))+1:=by omega
  have e2:((m:Int) - ((k+1:Nat):Int)).toNat=m - (k+1):=by omega
  refine⟨(r.length+1,(m:Int),((k+1:Nat):Int),id,r++ [(id,((k:Int),()))]),⟨k+1,m,by omega,rfl,rfl,hm,by rw[List.length_append];rfl,by show r.length+1=_;omega⟩,by show((m:Int) - ((k+1:Nat):Int)).toNat < ((m:Int) - (k:Int)).toNat;omega,?_,fun kn kx=> ?_⟩
  ·simp only[bq.L0.add,bq.L0.F,e1,e2,Int.toNat_natCast,xY,List.append_assoc,List.singleton_append]
   rw[show r.length+1+(m - (k+1))=r.length+(m - (k+1)+1) by omega]
  ·rw[bq.L0.step,bA (by omega),aR (Nat.le_refl _),eN (by omega) (by omega),N.kr (by omega),List.take_length]
   rfl
 ·right
  obtain rfl:k=m:=by omega
  intro R kn kx
  rw[bq.L0.step,bm (by omega),ao]
  simp only[bq.L0.add,bq.L0.F,Int.sub_self,Int.toNat_zero,Nat.add_zero]
  rw[show l7 id (k:Int).toNat 0=[] from rfl,List.append_nil]
theorem bq.ok:bq.Ok:=by
 intro t hv
 have hv:qF t:=hv
 rw[bq.eq,tid.run (d:=t) hv,al.run (d:=t) hv.1]
 simp only[aa,tid.add,tid.F,al.add,al.F,bq.add,bq.F,gv]
 cases hok:fg t
 ·rfl
 ·obtain⟨⟨_,a2,a3,_⟩,b1,b2⟩:=gS hok
  have hl:=zW (oY t) 0 t.2.1.length
  rw[bq.L0.run (d:=(0,t.2.1.length,0,oY t,[])) ⟨0,t.2.1.length,Nat.zero_le _,rfl,rfl,by omega,rfl,rfl⟩]
  simp only[Bool.not_true,ao,if_true,aa,bq.L0.add,bq.L0.F,Int.sub_zero,Int.toNat_natCast,Int.toNat_zero,List.nil_append,Nat.zero_add]
  rw[aR ⟨by trivial,by rw[hl];exact Nat.le_refl _⟩,ay,eV hl]
noncomputable def bq.E:=Entry.cv [some fw] bq.st bq.aD bq.add bq.F bq.out
noncomputable def bq.call:bq.D→Option bq.X:=bJ bq.E bq.st
theorem bq.run:bE bq.call bq.aD bq.add bq.F:=cQ (cP [.d fw] fun _=>by kernel_rfl)
noncomputable def bq.sg:SG Tryz.prog:=⟨40,aW,bq.E,.fn 1 (by kernel_rfl) bq.ok (And.intro (.cv bq.L0.ok (by kernel_rfl)) trivial)⟩
set_option synthInstance.maxSize 5000
abbrev fm.D:=(List eR)
def fm.st:fm.D→SA:=fun sv=>([.d (.slice cH) sv],[])
abbrev fm.Y:=Nat×(List eR)
abbrev fm.X:=Nat×(List eR)
def fm.out:fm.X→aZ:=fun x=>⟨.bU (.new 0 0) 0 [] 0 0 x.1,[],[.obj 0 false (.vec 57 cH x.2)]⟩
def fm.add:fm.D→fm.Y→fm.X:=fun sv y=>y
def fm.aD:fm.D→Prop:=fun l=>l.length≤1000000
def fm.F:fm.D→fm.Y:=fun l=>(l.length,l)
noncomputable def fm.G:dV:=eY (P:=Tryz.prog) []
noncomputable def fm.an:eJ:= {bN:=[5],iH:=[⟨2,[],5,36⟩]}
noncomputable def fm.A:= @cK Tryz.prog fm.G fm.an 0 Tryz.f131 _ fm.st
abbrev fm.Ok:=cM @fm.A fm.aD fm.add fm.F fm.out
theorem fm.eq{R:Type}(sv:(List eR))(k:aZ→Option R):fm.A sv k=
  aF (decide (0 < (List.length sv))) (
   aF (du (0+(List.length sv)) 80) (
   k (fm.out ((0+(List.length sv)),((List.take 0 (List.replicate 0 (((List.replicate 32 (0:Int)),((0:Int),())),(((0:Int),(([]:List Sg),((0:Int),()))),()))))++sv)))) none) (
   nd (
    k (fm.out (0,([]:List eR)))) (
    aF (du (0+(List.length sv)) 80) (
    k (fm.out ((0+(List.length sv)),((List.take 0 (List.replicate 0 (((List.replicate 32 (0:Int)),((0:Int),())),(((0:Int),(([]:List Sg),((0:Int),()))),()))))++sv)))) none)):=by kernel_rfl
theorem fm.ok:fm.Ok:=by
 intro l hl
 have hl:l.length≤1000000:=hl
 have hr:du l.length 80=true:=eN (by omega) (by omega)
 rw[fm.eq]
 simp only[Nat.zero_add,hr,ay,List.take_zero,List.nil_append,fm.add,fm.F]
 by_cases h:0 < l.length
 ·simp only[aR h,ay]
 ·have:l=[]:=List.eq_nil_of_length_eq_zero (by omega)
  subst this
  simp only[List.length_nil,od,aO (Nat.lt_irrefl 0),ao]
noncomputable def fm.E:=Entry.cv [some (.slice cH)] fm.st fm.aD fm.add fm.F fm.out
noncomputable def fm.call:fm.D→Option fm.X:=bJ fm.E fm.st
theorem fm.run:bE fm.call fm.aD fm.add fm.F:=cQ (cP [.d (.slice cH)] fun _=>by kernel_rfl)
noncomputable def fm.sg:SG Tryz.prog:=⟨131,aW,fm.E,.fn 0 (by kernel_rfl) fm.ok trivial⟩
abbrev dP.D:=(List fL)
def dP.st:dP.D→SA:=fun sv=>([.d (.slice eX) sv],[])
abbrev dP.Y:=Nat×(List fL)
abbrev dP.X:=Nat×(List fL)
def dP.out:dP.X→aZ:=fun x=>⟨.bU (.new 0 0) 0 [] 0 0 x.1,[],[.obj 0 false (.vec 62 eX x.2)]⟩
def dP.add:dP.D→dP.Y→dP.X:=fun sv y=>y
def dP.aD:dP.D→Prop:=fun l=>l.length≤1000000
def dP.F:dP.D→dP.Y:=fun l=>(l.length,l)
noncomputable def dP.G:dV:=eY (P:=Tryz.prog) []
noncomputable def dP.an:eJ:= {bN:=[5],iH:=[⟨2,[],5,37⟩]}
noncomputable def dP.A:= @cK Tryz.prog dP.G dP.an 0 Tryz.f132 _ dP.st
abbrev dP.Ok:=cM @dP.A dP.aD dP.add dP.F dP.out
theorem dP.eq{R:Type}(sv:(List fL))(k:aZ→Option R):dP.A sv k=
  aF (decide (0 < (List.length sv))) (
   aF (du (0+(List.length sv)) 32) (
   k (dP.out ((0+(List.length sv)),((List.take 0 (List.replicate 0 ((0:Int),((([]:List gm),()),()))))++sv)))) none) (
   nd (
    k (dP.out (0,([]:List fL)))) (
    aF (du (0+(List.length sv)) 32) (
    k (dP.out ((0+(List.length sv)),((List.take 0 (List.replicate 0 ((0:Int),((([]:List gm),()),()))))++sv)))) none)):=by kernel_rfl
theorem dP.ok:dP.Ok:=by
 intro l hl
 have hl:l.length≤1000000:=hl
 have hr:du l.length 32=true:=eN (by omega) (by omega)
 rw[dP.eq]
 simp only[Nat.zero_add,hr,ay,List.take_zero,List.nil_append,dP.add,dP.F]
 by_cases h:0 < l.length
 ·simp only[aR h,ay]
 ·have:l=[]:=List.eq_nil_of_length_eq_zero (by omega)
  subst this
  simp only[List.length_nil,od,aO (Nat.lt_irrefl 0),ao]
noncomputable def dP.E:=Entry.cv [some (.slice eX)] dP.st dP.aD dP.add dP.F dP.out
noncomputable def dP.call:dP.D→Option dP.X:=bJ dP.E dP.st
theorem dP.run:bE dP.call dP.aD dP.add dP.F:=cQ (cP [.d (.slice eX)] fun _=>by kernel_rfl)
noncomputable def dP.sg:SG Tryz.prog:=⟨132,aW,dP.E,.fn 0 (by kernel_rfl) dP.ok trivial⟩
abbrev fk.D:=(List gm)
def fk.st:fk.D→SA:=fun sv=>([.d (.slice fo) sv],[])
abbrev fk.Y:=Nat×(List gm)
abbrev fk.X:=Nat×(List gm)
def fk.out:fk.X→aZ:=fun x=>⟨.bU (.new 0 0) 0 [] 0 0 x.1,[],[.obj 0 false (.vec 85 fo x.2)]⟩
def fk.add:fk.D→fk.Y→fk.X:=fun sv y=>y
def fk.aD:fk.D→Prop:=fun l=>l.length≤1000000
def fk.F:fk.D→fk.Y:=fun l=>(l.length,l)
noncomputable def fk.G:dV:=eY (P:=Tryz.prog) []
noncomputable def fk.an:eJ:= {bN:=[5],iH:=[⟨2,[],5,22⟩]}
noncomputable def fk.A:= @cK Tryz.prog fk.G fk.an 0 Tryz.f134 _ fk.st
abbrev fk.Ok:=cM @fk.A fk.aD fk.add fk.F fk.out
theorem fk.eq{R:Type}(sv:(List gm))(k:aZ→Option R):fk.A sv k=
  aF (decide (0 < (List.length sv))) (
   aF (du (0+(List.length sv)) 48) (
   k (fk.out ((0+(List.length sv)),((List.take 0 (List.replicate 0 (([]:List Int),((0:Int),((0:Int),((0:Int),()))))))++sv)))) none) (
   nd (
    k (fk.out (0,([]:List gm)))) (
    aF (du (0+(List.length sv)) 48) (
    k (fk.out ((0+(List.length sv)),((List.take 0 (List.replicate 0 (([]:List Int),((0:Int),((0:Int),((0:Int),()))))))++sv)))) none)):=by kernel_rfl
theorem fk.ok:fk.Ok:=by
 intro l hl
 have hl:l.length≤1000000:=hl
 have hr:du l.length 48=true:=eN (by omega) (by omega)
 rw[fk.eq]
 simp only[Nat.zero_add,hr,ay,List.take_zero,List.nil_append,fk.add,fk.F]
 by_cases h:0 < l.length
 ·simp only[aR h,ay]
 ·have:l=[]:=List.eq_nil_of_length_eq_zero (by omega)
  subst this
  simp only[List.length_nil,od,aO (Nat.lt_irrefl 0),ao]
noncomputable def fk.E:=Entry.cv [some (.slice fo)] fk.st fk.aD fk.add fk.F fk.out
noncomputable def fk.call:fk.D→Option fk.X:=bJ fk.E fk.st
theorem fk.run:bE fk.call fk.aD fk.add fk.F:=cQ (cP [.d (.slice fo)] fun _=>by kernel_rfl)
noncomputable def fk.sg:SG Tryz.prog:=⟨134,aW,fk.E,.fn 0 (by kernel_rfl) fk.ok trivial⟩
abbrev dQ.D:=(List Sg)
def dQ.st:dQ.D→SA:=fun sv=>([.d (.slice jc) sv],[])
abbrev dQ.Y:=(List Sg)
abbrev dQ.X:=(List Sg)
def dQ.out:dQ.X→aZ:=fun x=>⟨.d (.slice jc) x,[],[]⟩
def dQ.add:dQ.D→dQ.Y→dQ.X:=fun sv y=>y
def dQ.aD:dQ.D→Prop:=fun l=>l.length≤1000000
def dQ.F:dQ.D→dQ.Y:=fun l=>l
noncomputable def dQ.G:dV:=eY (P:=Tryz.prog) []
noncomputable def dQ.an:eJ:= {bN:=[5],res:=[some (.slice jc)]}
noncomputable def dQ.A:= @cK Tryz.prog dQ.G dQ.an 0 Tryz.f133 _ dQ.st
abbrev dQ.Ok:=cM @dQ.A dQ.aD dQ.add dQ.F dQ.out
theorem dQ.eq{R:Type}(sv:(List Sg))(k:aZ→Option R):dQ.A sv k=
  aF (decide (0 < (List.length sv))) (
   aF (du (0+(List.length sv)) 16) (
   aF (decide (0=0∧(0+(0+(List.length sv)))≤(List.length ((List.take 0 (List.replicate 0 ((0:Int),((0:Int),()))))++sv)))) (
   k (dQ.out (cut ((List.take 0 (List.replicate 0 ((0:Int),((0:Int),()))))++sv) 0 (0+(List.length sv))))) none) none) (
   nd (
    k (dQ.out ([]:List Sg))) (
    aF (du (0+(List.length sv)) 16) (
    aF (decide (0=0∧(0+(0+(List.length sv)))≤(List.length ((List.take 0 (List.replicate 0 ((0:Int),((0:Int),()))))++sv)))) (
    k (dQ.out (cut ((List.take 0 (List.replicate 0 ((0:Int),((0:Int),()))))++sv) 0 (0+(List.length sv))))) none) none)):=by kernel_rfl
theorem dQ.ok:dQ.Ok:=by
 intro l hl
 have hl:l.length≤1000000:=hl
 have hr:du l.length 16=true:=eN (by omega) (by omega)
 rw[dQ.eq]
 simp only[Nat.zero_add,hr,ay,List.take_zero,List.nil_append,Nat.le_refl,and_self,decide_true,eV,dQ.add,dQ.F]
 by_cases h:0 < l.length
 ·simp only[aR h,ay]
 ·have:l=[]:=List.eq_nil_of_length_eq_zero (by omega)
  subst this
  simp only[List.length_nil,od,aO (Nat.lt_irrefl 0),ao]
noncomputable def dQ.E:=Entry.cv [some (.slice jc)] dQ.st dQ.aD dQ.add dQ.F dQ.out
noncomputable def dQ.call:dQ.D→Option dQ.X:=bJ dQ.E dQ.st
theorem dQ.run:bE dQ.call dQ.aD dQ.add dQ.F:=cQ (cP [.d (.slice jc)] fun _=>by kernel_rfl)
noncomputable def dQ.sg:SG Tryz.prog:=⟨133,aW,dQ.E,.fn 0 (by kernel_rfl) dQ.ok trivial⟩
abbrev ai.L0.D:=Int×Int×Nat×Nat×(Int×Unit)×(Int×Unit)×(List eR)×(List fL)
def ai.L0.st:ai.L0.D→AS:=fun(t17,t18,n1L,n1L_2,n1,n2,n9,n12)=>⟨([.undef,.ptr (.new 1 0) 0 [] 0,.ptr (.new 2 0) 0 [] 0]++ba 14 ([.d ti t17,.d ti t18]++ba 56 [])),[],([[],[.obj 0 false (.pr (.bU (.new 9 0) 0 [] 0 0 n1L) (.pr (.bU (.new 12 0) 0 [] 0 0 n1L_2) (.d (.pair ti .unit) n1)))],[.obj 0 false (.pr (.da) (.pr (.da) (.d (.pair ti .unit) n2)))]]++bK 6 ([[.obj 0 false (.vec 57 cH n9)],[],[],[.obj 0 false (.vec 62 eX n12)]]++bK 62 []))⟩
abbrev ai.L0.Y0:=(List eR)
abbrev ai.L0.X0:=(Nat×Nat×(Int×Unit)×(Int×Unit)×(List fL))×((List eR))
def ai.L0.bw:ai.L0.X0→Exit×AS:=fun x=>(.exit 0,⟨([.undef,.ptr (.new 1 0) 0 [] 0,.ptr (.new 2 0) 0 [] 0]++ba 72 []),[],([[],[.obj 0 false (.pr (.bU (.new 9 0) 0 [] 0 0 x.1.1) (.pr (.bU (.new 12 0) 0 [] 0 0 x.1.2.1) (.d (.pair ti .unit) x.1.2.2.1)))],[.obj 0 false (.pr (.da) (.pr (.da) (.d (.pair ti .unit) x.1.2.2.2.1)))]]++bK 6 ([[.obj 0 false (.vec 57 cH x.2)],[],[],[.obj 0 false (.vec 62 eX x.1.2.2.2.2)]]++bK 62 []))⟩)
abbrev ai.L0.X:=ai.L0.X0
abbrev ai.L0.Y:=ai.L0.Y0
def ai.L0.out:ai.L0.X→Out (Exit×AS):=fun x=> .ok (ai.L0.bw x)
def ai.L0.add:ai.L0.D→ai.L0.Y→ai.L0.X:=fun(t17,t18,n1L,n1L_2,n1,n2,n9,n12) y=>((n1L,n1L_2,n1,n2,n12),y)
abbrev ai.L1.D:=Int×Int×Nat×Nat×(Int×Unit)×(Int×Unit)×(List eR)×(List fL)
def ai.L1.st:ai.L1.D→AS:=fun(t38,t39,n1L_3,n1L_4,n1_2,n2_2,n9_2,n12_2)=>⟨([.undef,.ptr (.new 1 0) 0 [] 0,.ptr (.new 2 0) 0 [] 0]++ba 35 ([.d ti t38,.d ti t39]++ba 35 [])),[],([[],[.obj 0 false (.pr (.bU (.new 9 0) 0 [] 0 0 n1L_3) (.pr (.bU (.new 12 0) 0 [] 0 0 n1L_4) (.d (.pair ti .unit) n1_2)))],[.obj 0 false (.pr (.da) (.pr (.da) (.d (.pair ti .unit) n2_2)))]]++bK 6 ([[.obj 0 false (.vec 57 cH n9_2)],[],[],[.obj 0 false (.vec 62 eX n12_2)]]++bK 62 []))⟩
abbrev ai.L1.Y0:=Nat×Nat×(Int×Unit)×(Int×Unit)×(List eR)×(List fL)
abbrev ai.L1.X0:=Nat×Nat×(Int×Unit)×(Int×Unit)×(List eR)×(List fL)
def ai.L1.bw:ai.L1.X0→Exit×AS:=fun x=>(.exit 2,⟨([.undef,.ptr (.new 1 0) 0 [] 0,.ptr (.new 2 0) 0 [] 0]++ba 72 []),[],([[],[.obj 0 false (.pr (.bU (.new 9 0) 0 [] 0 0 x.1) (.pr (.bU (.new 12 0) 0 [] 0 0 x.2.1) (.d (.pair ti .unit) x.2.2.1)))],[.obj 0 false (.pr (.da) (.pr (.da) (.d (.pair ti .unit) x.2.2.2.1)))]]++bK 6 ([[.obj 0 false (.vec 57 cH x.2.2.2.2.1)],[],[],[.obj 0 false (.vec 62 eX x.2.2.2.2.2)]]++bK 62 []))⟩)
abbrev ai.L1.X:=ai.L1.X0
abbrev ai.L1.Y:=ai.L1.Y0
def ai.L1.out:ai.L1.X→Out (Exit×AS):=fun x=> .ok (ai.L1.bw x)
def ai.L1.add:ai.L1.D→ai.L1.Y→ai.L1.X:=fun(t38,t39,n1L_3,n1L_4,n1_2,n2_2,n9_2,n12_2) y=>y
abbrev ai.L2.D:=Int×Nat×Int×Int×Int×Int×Nat×Nat×(Int×Unit)×(Int×Unit)×(List eR)×(List fL)×(List gm)
def ai.L2.st:ai.L2.D→AS:=fun(kv,lL,t38_2,t39_2,t51,t52,n1L_5,n1L_6,n1_3,n2_3,n9_3,n12_3,n49)=>⟨([.undef,.ptr (.new 1 0) 0 [] 0,.ptr (.new 2 0) 0 [] 0,.undef,.d ti kv,.bU (.new 49 0) 0 [] 0 0 lL]++ba 32 ([.d ti t38_2,.d ti t39_2]++ba 11 ([.d ti t51,.d ti t52]++ba 22 []))),[],([[],[.obj 0 false (.pr (.bU (.new 9 0) 0 [] 0 0 n1L_5) (.pr (.bU (.new 12 0) 0 [] 0 0 n1L_6) (.d (.pair ti .unit) n1_3)))],[.obj 0 false (.pr (.da) (.pr (.da) (.d (.pair ti .unit) n2_3)))]]++bK 6 ([[.obj 0 false (.vec 57 cH n9_3)],[],[],[.obj 0 false (.vec 62 eX n12_3)]]++bK 36 ([[.obj 0 false (.vec 85 fo n49)]]++bK 25 [])))⟩
abbrev ai.L2.Y0:=(List gm)×(List gm)
abbrev ai.L2.X0:=(Int×Int×Int×Nat×Nat×(Int×Unit)×(Int×Unit)×(List eR)×(List fL))×((List gm)×(List gm))
def ai.L2.bw:ai.L2.X0→Exit×AS:=fun x=>(.exit 4,⟨([.undef,.ptr (.new 1 0) 0 [] 0,.ptr (.new 2 0) 0 [] 0,.undef,.d ti x.1.1,.d (.slice fo) x.2.1]++ba 32 ([.d ti x.1.2.1,.d ti x.1.2.2.1]++ba 35 [])),[],([[],[.obj 0 false (.pr (.bU (.new 9 0) 0 [] 0 0 x.1.2.2.2.1) (.pr (.bU (.new 12 0) 0 [] 0 0 x.1.2.2.2.2.1) (.d (.pair ti .unit) x.1.2.2.2.2.2.1)))],[.obj 0 false (.pr (.da) (.pr (.da) (.d (.pair ti .unit) x.1.2.2.2.2.2.2.1)))]]++bK 6 ([[.obj 0 false (.vec 57 cH x.1.2.2.2.2.2.2.2.1)],[],[],[.obj 0 false (.vec 62 eX x.1.2.2.2.2.2.2.2.2)]]++bK 36 ([[.obj 0 true (.vec 85 fo x.2.2)]]++bK 25 [])))⟩)
abbrev ai.L2.X:=ai.L2.X0
abbrev ai.L2.Y:=ai.L2.Y0
def ai.L2.out:ai.L2.X→Out (Exit×AS):=fun x=> .ok (ai.L2.bw x)
def ai.L2.add:ai.L2.D→ai.L2.Y→ai.L2.X:=fun(kv,lL,t38_2,t39_2,t51,t52,n1L_5,n1L_6,n1_3,n2_3,n9_3,n12_3,n49) y=>((kv,t38_2,t39_2,n1L_5,n1L_6,n1_3,n2_3,n9_3,n12_3),y)
abbrev ai.D:=eD
def ai.st:ai.D→SA:=fun t=>([.d fw t],[])
abbrev ai.Y:=Nat×((List fL)×(Int×Unit))×(List eR)
abbrev ai.X:=Nat×((List fL)×(Int×Unit))×(List eR)
def ai.out:ai.X→aZ:=fun x=>⟨.pr (.bU (.new 0 0) 0 [] 0 0 x.1) (.d (.pair (.slice eX) (.pair ti .unit)) x.2.1),[],[.obj 0 false (.vec 57 cH x.2.2)]⟩
def ai.add:ai.D→ai.Y→ai.X:=fun t y=>y
def ai.L0.aD:ai.L0.D→Prop:=fun(m,i,L,L2,u,v,l,os)=>(l.length≤1000∧∀x∈l,x.2.1.2.1.length≤1000000)∧∃k:Nat,k≤l.length∧i=k∧m=l.length∧L=l.length
def ai.L0.F:ai.L0.D→ai.L0.Y:=fun(m,i,L,L2,u,v,l,os)=>l
def ai.L2.aD:ai.L2.D→Prop:=fun(kv,L,m1,i1,m,i,L5,L6,u,v,ls,os,bs)=>(bs.length≤1000∧∀x∈bs,x.1.length≤1000000)∧∃k:Nat,k≤bs.length∧i=k∧m=bs.length∧L=bs.length
def ai.L2.F:ai.L2.D→ai.L2.Y:=fun(kv,L,m1,i1,m,i,L5,L6,u,v,ls,os,bs)=>(bs,bs)
def ai.L1.aD:ai.L1.D→Prop:=fun(m,i,L3,L,u,v,ls,os)=>(os.length≤1000∧∀x∈os,x.2.1.1.length≤1000∧∀b∈x.2.1.1,b.1.length≤1000000)∧∃k:Nat,k≤os.length∧i=k∧m=os.length∧L=os.length
def ai.L1.F:ai.L1.D→ai.L1.Y:=fun(m,i,L3,L,u,v,ls,os)=>(L3,L,u,v,ls,os)
def ai.aD:ai.D→Prop:=fun t=>fg t=true
def ai.F:ai.D→ai.Y:=fun t=>(t.1.length,(t.2.1,t.2.2),t.1)
noncomputable def ai.G:dV:=eY (P:=Tryz.prog) [fm.sg,dP.sg,dQ.sg,fk.sg,cS.sg]
noncomputable def ai.L0.E:=bP.cv ai.L0.st ai.L0.aD ai.L0.add ai.L0.F ai.L0.out
noncomputable def ai.L0.call:ai.L0.D→Option ai.L0.X:=dk ai.L0.E ai.L0.st
noncomputable def ai.L1.E:=bP.cv ai.L1.st ai.L1.aD ai.L1.add ai.L1.F ai.L1.out
noncomputable def ai.L1.call:ai.L1.D→Option ai.L1.X:=dk ai.L1.E ai.L1.st
noncomputable def ai.L2.E:=bP.cv ai.L2.st ai.L2.aD ai.L2.add ai.L2.F ai.L2.out
noncomputable def ai.L2.call:ai.L2.D→Option ai.L2.X:=dk ai.L2.E ai.L2.st
noncomputable def ai.an:eJ:= {bN:=[1],loops:=jJ [(3,{bn:=[1,2,17,18],sites:=[1,2,9,12]}),(8,{bn:=[1,2,38,39],sites:=[1,2,9,12]}),(12,{bn:=[1,2,4,5,38,39,51,52],sites:=[1,2,9,12,49]})],outs:=jI [(3,{bn:=[1,2],sites:=[1,2,9,12]},{bn:=[2]}),(8,{bn:=[1,2],sites:=[1,2,9,12]},{bn:=[2]}),(12,{bn:=[1,2,4,5,38,39],sites:=[1,2,9,12,49],data:=[(5,(.slice fo))]},{bn:=[2]})],fJ:=kz [(3,ai.L0.E),(8,ai.L1.E),(12,ai.L2.E)],s6:=[⟨2,[.snd,.fst],(.slice eX)⟩]}
noncomputable def ai.A:= @cK Tryz.prog ai.G ai.an 0 Tryz.f92 _ ai.st
abbrev ai.Ok:=cM @ai.A ai.aD ai.add ai.F ai.out
noncomputable def ai.L0.R:= @bV Tryz.prog ai.G ai.an 0 Tryz.f92 0 _ ai.L0.st
abbrev ai.L0.Ok:=eA Tryz.prog ai.G ai.an 0 Tryz.f92 0 ai.L0.st ai.L0.aD ai.L0.add ai.L0.F ai.L0.out
noncomputable def ai.L1.R:= @bV Tryz.prog ai.G ai.an 0 Tryz.f92 1 _ ai.L1.st
abbrev ai.L1.Ok:=eA Tryz.prog ai.G ai.an 0 Tryz.f92 1 ai.L1.st ai.L1.aD ai.L1.add ai.L1.F ai.L1.out
noncomputable def ai.L2.R:= @bV Tryz.prog ai.G ai.an 0 Tryz.f92 2 _ ai.L2.st
abbrev ai.L2.Ok:=eA Tryz.prog ai.G ai.an 0 Tryz.f92 2 ai.L2.st ai.L2.aD ai.L2.add ai.L2.F ai.L2.out
theorem ai.L0.run:bE ai.L0.call ai.L0.aD ai.L0.add ai.L0.F:=eK (eI [.d ti,.d ti,.n,.n,.d (.pair ti .unit),.d (.pair ti .unit),.d (.slice cH),.d (.slice eX)] fun _=>by kernel_rfl)
theorem ai.L0.aG:fX @ai.L0.R ai.L0.st ai.L0.aD ai.L0.add ai.L0.F ai.L0.bw ai.L0.Ok:=gf
theorem ai.L0.step{R:Type}(t17:Int)(t18:Int)(n1L:Nat)(n1L_2:Nat)(n1:(Int×Unit))(n2:(Int×Unit))(n9:(List eR))(n12:(List fL))(kn:AS→Option R)(kx:Exit→AS→Option R):ai.L0.R (t17,t18,n1L,n1L_2,n1,n2,n9,n12) kn kx=
  aF ((gb t18 t17)) (
   aF (dS t18 ((n1L:Nat):Int)) (
   aF (decide ((0+(Int.toNat t18)) < (List.length n9))) (
   aF (decide ((((0+(Int.toNat t18))*36)+34)=(((0+((Int.toNat t18)*36))+33)+1))) (
   ae (dQ.call (nth cH n9 (0+(Int.toNat t18))).2.1.2.1) fun x1=>
   aF (dS t18 ((n1L:Nat):Int)) (
   aF (decide ((0+(Int.toNat t18)) < (List.length n9))) (
   aF (decide ((((0+(Int.toNat t18))*36)+34)=(((0+((Int.toNat t18)*36))+33)+1))) (
   aF (decide ((0+(Int.toNat t18)) < (List.length n9))) (
   kn (ai.L0.st (t17,(bO .i64 t18 (1:Int)),n1L,n1L_2,n1,n2,(List.set n9 (0+(Int.toNat t18)) ((nth cH n9 (0+(Int.toNat t18))).1,(((nth cH n9 (0+(Int.toNat t18))).2.1.1,(x1,(nth cH n9 (0+(Int.toNat t18))).2.1.2.2)),(nth cH n9 (0+(Int.toNat t18))).2.2))),n12))) none) none) none) none) none) none) none) (
   kx (ai.L0.bw ((n1L,n1L_2,n1,n2,n12),n9)).1 (ai.L0.bw ((n1L,n1L_2,n1,n2,n12),n9)).2):=by kernel_rfl
theorem ai.L1.run:bE ai.L1.call ai.L1.aD ai.L1.add ai.L1.F:=eK (eI [.d ti,.d ti,.n,.n,.d (.pair ti .unit),.d (.pair ti .unit),.d (.slice cH),.d (.slice eX)] fun _=>by kernel_rfl)
theorem ai.L1.aG:fX @ai.L1.R ai.L1.st ai.L1.aD ai.L1.add ai.L1.F ai.L1.bw ai.L1.Ok:=gf
theorem ai.L1.step{R:Type}(t38:Int)(t39:Int)(n1L_3:Nat)(n1L_4:Nat)(n1_2:(Int×Unit))(n2_2:(Int×Unit))(n9_2:(List eR))(n12_2:(List fL))(kn:AS→Option R)(kx:Exit→AS→Option R):ai.L1.R (t38,t39,n1L_3,n1L_4,n1_2,n2_2,n9_2,n12_2) kn kx=
  aF ((gb t39 t38)) (
   aF (dS t39 ((n1L_4:Nat):Int)) (
   aF (decide ((0+(Int.toNat t39)) < (List.length n12_2))) (
   aF (decide ((((0+(Int.toNat t39))*2)+1)=(((0+((Int.toNat t39)*2))+1)+0))) (
   ae (fk.call (nth eX n12_2 (0+(Int.toNat t39))).2.1.1) fun x1=>
   ae (ai.L2.call (t39,x1.1,t38,t39,((x1.1:Nat):Int),(0:Int),n1L_3,n1L_4,n1_2,n2_2,n9_2,n12_2,x1.2)) fun x2=>
   aF (dS x2.1.1 ((x2.1.2.2.2.2.1:Nat):Int)) (
   aF (decide ((0+(Int.toNat x2.1.1)) < (List.length x2.1.2.2.2.2.2.2.2.2))) (
   aF (decide ((((0+(Int.toNat x2.1.1))*2)+1)=(((0+((Int.toNat x2.1.1)*2))+1)+0))) (
   aF (decide ((0+(Int.toNat x2.1.1)) < (List.length x2.1.2.2.2.2.2.2.2.2))) (
   kn (ai.L1.st (x2.1.2.1,(bO .i64 x2.1.2.2.1 (1:Int)),x2.1.2.2.2.1,x2.1.2.2.2.2.1,x2.1.2.2.2.2.2.1,x2.1.2.2.2.2.2.2.1,x2.1.2.2.2.2.2.2.2.1,(List.set x2.1.2.2.2.2.2.2.2.2 (0+(Int.toNat x2.1.1)) ((nth eX x2.1.2.2.2.2.2.2.2.2 (0+(Int.toNat x2.1.1))).1,((x2.2.1,(nth eX x2.1.2.2.2.2.2.2.2.2 (0+(Int.toNat x2.1.1))).2.1.2),(nth eX x2.1.2.2.2.2.2.2.2.2 (0+(Int.toNat x2.1.1))).2.2)))))) none) none) none) none) none) none) none) (
   kx (ai.L1.bw (n1L_3,n1L_4,n1_2,n2_2,n9_2,n12_2)).1 (ai.L1.bw (n1L_3,n1L_4,n1_2,n2_2,n9_2,n12_2)).2):=by kernel_rfl
theorem ai.L2.run:bE ai.L2.call ai.L2.aD ai.L2.add ai.L2.F:=eK (eI [.d ti,.n,.d ti,.d ti,.d ti,.d ti,.n,.n,.d (.pair ti .unit),.d (.pair ti .unit),.d (.slice cH),.d (.slice eX),.d (.slice fo)] fun _=>by kernel_rfl)
theorem ai.L2.aG:fX @ai.L2.R ai.L2.st ai.L2.aD ai.L2.add ai.L2.F ai.L2.bw ai.L2.Ok:=gf
theorem ai.L2.step{R:Type}(kv:Int)(lL:Nat)(t38_2:Int)(t39_2:Int)(t51:Int)(t52:Int)(n1L_5:Nat)(n1L_6:Nat)(n1_3:(Int×Unit))(n2_3:(Int×Unit))(n9_3:(List eR))(n12_3:(List fL))(n49:(List gm))(kn:AS→Option R)(kx:Exit→AS→Option R):ai.L2.R (kv,lL,t38_2,t39_2,t51,t52,n1L_5,n1L_6,n1_3,n2_3,n9_3,n12_3,n49) kn kx=
  aF ((gb t52 t51)) (
   aF (dS t52 ((lL:Nat):Int)) (
   aF (decide ((0+(Int.toNat t52)) < (List.length n49))) (
   aF (decide ((((0+(Int.toNat t52))*4)+0)=((0+((Int.toNat t52)*4))+0))) (
   ae (cS.call (nth fo n49 (0+(Int.toNat t52))).1) fun x1=>
   aF (dS t52 ((lL:Nat):Int)) (
   aF (decide ((0+(Int.toNat t52)) < (List.length n49))) (
   aF (decide ((((0+(Int.toNat t52))*4)+0)=((0+((Int.toNat t52)*4))+0))) (
   aF (decide ((0+(Int.toNat t52)) < (List.length n49))) (
   kn (ai.L2.st (kv,lL,t38_2,t39_2,t51,(bO .i64 t52 (1:Int)),n1L_5,n1L_6,n1_3,n2_3,n9_3,n12_3,(List.set n49 (0+(Int.toNat t52)) (x1,(nth fo n49 (0+(Int.toNat t52))).2))))) none) none) none) none) none) none) none) (
   aF (decide (0=0∧(0+lL)≤(List.length n49))) (
   kx (ai.L2.bw ((kv,t38_2,t39_2,n1L_5,n1L_6,n1_3,n2_3,n9_3,n12_3),((cut n49 0 lL),n49))).1 (ai.L2.bw ((kv,t38_2,t39_2,n1L_5,n1L_6,n1_3,n2_3,n9_3,n12_3),((cut n49 0 lL),n49))).2) none):=by kernel_rfl
theorem ai.eq{R:Type}(t:eD)(k:aZ→Option R):ai.A t k=
 ae (fm.call t.1) fun x1=>
 ae (dP.call t.2.1) fun x2=>
 ae (ai.L0.call (((x1.1:Nat):Int),(0:Int),x1.1,x2.1,t.2.2,((0:Int),()),x1.2,x2.2)) fun x4=>
 ae (ai.L1.call (((x4.1.2.1:Nat):Int),(0:Int),x4.1.1,x4.1.2.1,x4.1.2.2.1,x4.1.2.2.2.1,x4.2,x4.1.2.2.2.2)) fun x8=>
 aF (decide (0=0∧(0+x8.2.1)≤(List.length x8.2.2.2.2.2))) (
 k (ai.out (x8.1,((cut x8.2.2.2.2.2 0 x8.2.1),x8.2.2.1),x8.2.2.2.2.1))) none:=by kernel_rfl
theorem ai.L0.ok:ai.L0.Ok:=by
 refine ai.L0.aG (fun(m,i,L,L2,u,v,l,os)=>l.length - Int.toNat i) ?_
 rintro⟨m,i,L,L2,u,v,l,os⟩ ⟨⟨hlen,hx⟩,k,hk,rfl,rfl,rfl⟩
 have hlen:l.length≤1000:=hlen
 have hk:k≤l.length:=hk
 by_cases h:k < l.length
 ·left
  have n1:nth cH l k=l[k]:=bZ (t:=cH) h
  have hs:l.set k l[k]=l:=List.set_getElem_self h
  have e:=hx _ (List.getElem_mem h)
  refine⟨((l.length:Int),((k+1:Nat):Int),l.length,L2,u,v,l,os),⟨⟨hlen,hx⟩,k+1,by omega,rfl,rfl,rfl⟩,by simp only[Int.toNat_natCast];omega,rfl,fun kn kx=> ?_⟩
  rw[ai.L0.step,bA (by omega),bh (by omega) (by omega)]
  simp only[Int.toNat_natCast,Nat.zero_add,Nat.add_zero,Nat.add_assoc,Nat.reduceAdd,ay,aR h,decide_true,n1]
  rw[dQ.run (d:=l[k].2.1.2.1) e]
  simp only[aa,dQ.add,dQ.F]
  rw[N.kr (by omega)]
  exact congrArg (fun z=>kn (ai.L0.st (_,_,_,_,_,_,z,_))) hs
 ·right
  obtain rfl:k=l.length:=by omega
  intro R kn kx
  rw[ai.L0.step,bm (by omega),ao]
  rfl
theorem ai.L2.ok:ai.L2.Ok:=by
 refine ai.L2.aG (fun(kv,L,m1,i1,m,i,L5,L6,u,v,ls,os,bs)=>bs.length - Int.toNat i) ?_
 rintro⟨kv,L,m1,i1,m,i,L5,L6,u,v,ls,os,bs⟩ ⟨⟨hlen,hx⟩,k,hk,rfl,rfl,rfl⟩
 have hlen:bs.length≤1000:=hlen
 have hk:k≤bs.length:=hk
 by_cases h:k < bs.length
 ·left
  have n1:nth fo bs k=bs[k]:=bZ (t:=fo) h
  have hs:bs.set k bs[k]=bs:=List.set_getElem_self h
  have e:=hx _ (List.getElem_mem h)
  refine⟨(kv,bs.length,m1,i1,(bs.length:Int),((k+1:Nat):Int),L5,L6,u,v,ls,os,bs),⟨⟨hlen,hx⟩,k+1,by omega,rfl,rfl,rfl⟩,by simp only[Int.toNat_natCast];omega,rfl,fun kn kx=> ?_⟩
  rw[ai.L2.step,bA (by omega),bh (by omega) (by omega)]
  simp only[Int.toNat_natCast,Nat.zero_add,Nat.add_zero,Nat.add_assoc,Nat.reduceAdd,ay,aR h,decide_true,n1]
  rw[cS.run (d:=bs[k].1) e]
  simp only[aa,cS.add,cS.F]
  rw[N.kr (by omega)]
  exact congrArg (fun z=>kn (ai.L2.st (_,_,_,_,_,_,_,_,_,_,_,_,z))) hs
 ·right
  obtain rfl:k=bs.length:=by omega
  intro R kn kx
  rw[ai.L2.step,bm (by omega),ao]
  simp only[Nat.zero_add,Nat.le_refl,and_self,decide_true,ay,eV]
  rfl
theorem ai.L1.ok:ai.L1.Ok:=by
 refine ai.L1.aG (fun(m,i,L3,L,u,v,ls,os)=>os.length - Int.toNat i) ?_
 rintro⟨m,i,L3,L,u,v,ls,os⟩ ⟨⟨hlen,hx⟩,k,hk,rfl,rfl,rfl⟩
 have hlen:os.length≤1000:=hlen
 have hk:k≤os.length:=hk
 by_cases h:k < os.length
 ·left
  have n1:nth eX os k=os[k]:=bZ (t:=eX) h
  have hs:os.set k os[k]=os:=List.set_getElem_self h
  have e:=hx _ (List.getElem_mem h)
  refine⟨((os.length:Int),((k+1:Nat):Int),L3,os.length,u,v,ls,os),⟨⟨hlen,hx⟩,k+1,by omega,rfl,rfl,rfl⟩,by simp only[Int.toNat_natCast];omega,rfl,fun kn kx=> ?_⟩
  rw[ai.L1.step,bA (by omega),bh (by omega) (by omega)]
  simp only[Int.toNat_natCast,Nat.zero_add,Nat.add_zero,Nat.add_assoc,Nat.reduceAdd,ay,aR h,decide_true,n1]
  rw[fk.run (d:=os[k].2.1.1) (by show os[k].2.1.1.length≤_;have:=e.1;omega)]
  simp only[aa,fk.add,fk.F]
  rw[ai.L2.run (d:=((k:Int),os[k].2.1.1.length,(os.length:Int),(k:Int),(os[k].2.1.1.length:Int),0,L3,os.length,u,v,ls,os,os[k].2.1.1)) ⟨e,0,Nat.zero_le _,rfl,rfl,rfl⟩]
  simp only[aa,ai.L2.add,ai.L2.F,Int.toNat_natCast,n1,ay,aR h,bh (show(0:Int)≤(k:Int) by omega) (show(k:Int) < (os.length:Int) by omega)]
  rw[N.kr (by omega)]
  exact congrArg (fun z=>kn (ai.L1.st (_,_,_,_,_,_,_,z))) hs
 ·right
  obtain rfl:k=os.length:=by omega
  intro R kn kx
  rw[ai.L1.step,bm (by omega),ao]
  rfl
theorem Bg{l:Lk}(h:iZ l=true):l.1.length≤4∧∀b∈l.1,b.1.length≤12:=by
 unfold iZ at h
 simp only[Bool.and_eq_true,List.all_eq_true,decide_eq_true_eq]at h
 refine⟨h.2.2,fun b hb=> ?_⟩
 have:=h.1 b hb
 unfold oE at this
 simp only[Bool.and_eq_true,decide_eq_true_eq]at this
 exact this.1
theorem ai.ok:ai.Ok:=by
 rintro⟨is,os,nt,u⟩ hok
 obtain⟨⟨_,a2,a3,_⟩,b1,b2⟩:=gS hok
 have a2:is.length≤64:=a2
 have a3:os.length≤64:=a3
 rw[ai.eq,fm.run (d:=is) (by show is.length≤_;omega),dP.run (d:=os) (by show os.length≤_;omega)]
 simp only[aa,fm.add,fm.F,dP.add,dP.F]
 rw[ai.L0.run (d:=(is.length,0,is.length,os.length,(nt,u),(0,()),is,os)) ⟨⟨by show is.length≤_;omega,fun x hx=>by have:=(ky (gh _ _ b1 x hx)).2.2.2.2;omega⟩,0,Nat.zero_le _,rfl,rfl,rfl⟩]
 simp only[aa,ai.L0.add,ai.L0.F]
 rw[ai.L1.run (d:=(os.length,0,is.length,os.length,(nt,u),(0,()),is,os)) ⟨⟨by show os.length≤_;omega,fun x hx=>by
  have:=Bg (jb _ _ b2 x hx).2
  exact⟨by omega,fun b hb=>by have:=this.2 b hb;omega⟩⟩,0,Nat.zero_le _,rfl,rfl,rfl⟩]
 simp only[aa,ai.L1.add,ai.L1.F,Nat.zero_add,Nat.le_refl,and_self,decide_true,ay,eV]
 rfl
noncomputable def ai.E:=Entry.cv [some fw] ai.st ai.aD ai.add ai.F ai.out
noncomputable def ai.call:ai.D→Option ai.X:=bJ ai.E ai.st
theorem ai.run:bE ai.call ai.aD ai.add ai.F:=cQ (cP [.d fw] fun _=>by kernel_rfl)
noncomputable def ai.sg:SG Tryz.prog:=⟨92,aW,ai.E,.fn 3 (by kernel_rfl) ai.ok (And.intro (.cv ai.L0.ok (by kernel_rfl)) (And.intro (.cv ai.L1.ok (by kernel_rfl)) (And.intro (.cv ai.L2.ok (by kernel_rfl)) trivial)))⟩
set_option synthInstance.maxSize 5000
theorem pE(x:Int)(m:Int):∀k:Nat,(x%m)^k%m=x^k%m
 | 0=>by rw[Int.pow_zero,Int.pow_zero]
 |k+1=>by rw[Int.pow_succ,Int.pow_succ,Int.mul_emod,pE x m k,Int.emod_emod_of_dvd _ (Int.dvd_refl m),←Int.mul_emod]
theorem DC(a:Int)(k:Nat):(a*a)^k=a^(2*k):=by
 rw[Int.pow_mul,Int.pow_succ,Int.pow_succ,Int.pow_zero,Int.one_mul]
theorem Bx:∀(f:Nat) (a:Int) (n:Nat) (out:Int),n < 2^f→Pn out→zb f a n out=out*a^n%4611686018427377339
 | 0,a,n,out,h,ho=>by
  obtain rfl:n=0:=by omega
  rw[mc,Int.pow_zero,Int.mul_one,Int.emod_eq_of_lt ho.1 ho.2]
 |f+1,a,n,out,h,ho=>by
  have e:(2:Nat)^(f+1)=2^f*2:=Nat.pow_succ 2 f
  rw[zb]
  split
  ·rename_i h0
   subst h0
   rw[Int.pow_zero,Int.mul_one,Int.emod_eq_of_lt ho.1 ho.2]
  ·have hp:Pn (if n%2=1 then jC out a else out):=by
    split
    ·exact lA _ _
    ·exact ho
   rw[Bx f _ _ _ (by omega) hp,Int.mul_emod]
   have e1:(jC a a)^(n / 2)%4611686018427377339=a^(2*(n / 2))%4611686018427377339:=by
    unfold jC
    rw[pE,DC]
   have e2:(if n%2=1 then jC out a else out)%4611686018427377339=(out*a^(n%2))%4611686018427377339:=by
    split
    ·rename_i h1
     rw[h1,Int.pow_succ,Int.pow_zero,Int.one_mul]
     exact Int.emod_emod_of_dvd _ (Int.dvd_refl _)
    ·have h1:n%2=0:=by omega
     rw[h1,Int.pow_zero,Int.mul_one]
   rw[e1,e2,←Int.mul_emod,Int.mul_assoc,←Int.pow_add]
   have e3:n%2+2*(n / 2)=n:=by omega
   rw[e3]
theorem sm(a:Int)(n:Nat)(h:n < 18446744073709551616):pw a n=a^n%4611686018427377339:=by
 unfold pw
 rw[Bx 64 a n 1 h ⟨by omega,by omega⟩,Int.one_mul]
theorem one_pow(k:Nat):(1:Int)^k=1:=Int.one_pow
theorem Bz(a:Int)(k q:Nat)(hk:k < 18446744073709551616)(hq:q < 18446744073709551616)(h:pw a q=1):pw (pw a k) q=1:=by
 rw[sm _ _ hq]at h
 rw[sm _ _ hq,sm _ _ hk,pE,←Int.pow_mul,Nat.mul_comm,Int.pow_mul,←pE,h,one_pow]
 rfl
theorem tF:pw 4 2305843009213688669=1:=by decide+kernel
theorem z8:pw 1 2305843009213688669=1:=by decide+kernel
theorem Cn:mg 4=true:=by rw[mg,tF];rfl
theorem pn:mg 1=true:=by rw[mg,z8];rfl
theorem Cs:wF 1=1:=by
 have e:pw 1 2305843009213688668=1:=by decide+kernel
 rw[wF,tk,pn]
 exact e
theorem u9{a:Int}(h:Pn a)(q:Nat)(hq:0 < q)(hq2:q < 18446744073709551616)(hp:pw a q=1):0 < a:=by
 rcases Int.lt_or_eq_of_le h.1 with h0 | h0
 ·exact h0
 ·subst h0
  rw[sm _ _ hq2,Int.zero_pow (by omega)]at hp
  cases hp
theorem Dh{a:Int}(h:Pn a)(hp:pw a 2305843009213688669=1):mg a=true:=by
 have h0:=u9 h 2305843009213688669 (by decide) (by decide) hp
 rw[mg,hp,decide_eq_true ⟨h0,h.2⟩];rfl
theorem zP{a:Int}(h:mg a=true):pw a 2305843009213688669=1∧Pn a:=by
 rw[mg,Bool.and_eq_true,decide_eq_true_eq,decide_eq_true_eq]at h
 exact⟨h.2,by omega,h.1.2⟩
theorem Di{a:Int}(h:mg a=true)(k:Nat)(hk:k < 18446744073709551616):mg (pw a k)=true:=
 Dh (wX _ _) (Bz a k _ hk (by decide) (zP h).1)
theorem Dj(a:Int):mg (tk a)=true:=by
 unfold tk
 cases h:mg a
 ·exact pn
 ·exact h
theorem zQ(p k:Int):mg (mG p k)=true:=Di (Dj p) _ (by omega)
theorem sP{a:Int}(h:mg a=true):tk a=a:=by rw[tk,h];rfl
theorem we(k:Int):mg (gH k)=true:=zQ 4 k
theorem wE{a:Int}(h:Pn a):jC a 1=a:=by rw[jC,Int.mul_one,Int.emod_eq_of_lt h.1 h.2]
set_option synthInstance.maxSize 5000
def pm(m:Nat):Nat→Nat→Nat→Nat→Nat
 | 0,_,_,out=>out%m
 |f+1,a,n,out=>if n=0 then out%m else pm m f (a*a%m) (n / 2) (if n%2=1 then out*a%m else out)
theorem CX(m:Nat):∀(f a n out:Nat),n < 2^f→pm m f a n out=out*a^n%m
 | 0,a,n,out,h=>by
  obtain rfl:n=0:=by omega
  rw[pm,Nat.pow_zero,Nat.mul_one]
 |f+1,a,n,out,h=>by
  have e:(2:Nat)^(f+1)=2^f*2:=Nat.pow_succ (n:=2) (m:=f)
  rw[pm]
  split
  ·rename_i h0
   subst h0
   rw[Nat.pow_zero,Nat.mul_one]
  ·rw[CX m f _ _ _ (by omega),Nat.mul_mod]
   have e1:(a*a%m)^(n / 2)%m=a^(2*(n / 2))%m:=by
    rw[←Nat.pow_mod,Nat.pow_mul,Nat.pow_two]
   have e2:(if n%2=1 then out*a%m else out)%m=(out*a^(n%2))%m:=by
    split
    ·rename_i h1
     rw[h1,Nat.pow_one,Nat.mod_mod]
    ·have h1:n%2=0:=by omega
     rw[h1,Nat.pow_zero,Nat.mul_one]
   rw[e1,e2,←Nat.mul_mod,Nat.mul_assoc,←Nat.pow_add]
   have e3:n%2+2*(n / 2)=n:=by omega
   rw[e3]
theorem A5:∀(r q:Nat) (f:Nat→Nat),(∀i,i < q→f i < r)→(∀i j,i < j→j < q→f i≠f j)→q≤r
 | 0,q,f,h,_=>by
  rcases Nat.eq_zero_or_pos q with h0 | h0
  ·omega
  ·exact absurd (h 0 h0) (Nat.not_lt_zero _)
 |r+1,q,f,h,g=>by
  by_cases hx:∃i,i < q∧f i=r
  ·obtain⟨i,hi,hr⟩:=hx
   have e:=A5 r (q - 1) (fun j=>if j < i then f j else f (j+1)) (fun j hj=>by
    by_cases h1:j < i
    ·have a:=h j (by omega)
     have b:=g j i h1 hi
     simp only[h1,if_true]
     omega
    ·have a:=h (j+1) (by omega)
     have b:=g i (j+1) (by omega) (by omega)
     simp only[h1,if_false]
     omega) (fun j k hjk hk=>by
    by_cases h1:j < i
    ·by_cases h2:k < i
     ·simp only[h1,h2,if_true]
      exact g j k hjk (by omega)
     ·simp only[h1,h2,if_true,if_false]
      exact g j (k+1) (by omega) (by omega)
    ·have h2:¬k < i:=by omega
     simp only[h1,h2,if_false]
     exact g (j+1) (k+1) (by omega) (by omega))
   omega
  ·have e:=A5 r q f (fun i hi=>by
    have a:=h i hi
    have b:f i≠r:=fun x=>hx ⟨i,hi,x⟩
    omega) g
   omega
theorem y9(a m:Nat)(h1:1%m=1):∀i j:Nat,a^i%m=1→a^j%m=1→a^(Nat.gcd i j)%m=1:=by
 intro i
 induction i using Nat.strongRecOn with
 |ind i ih=>
  intro j hi hj
  rcases Nat.eq_zero_or_pos i with h0 | h0
  ·subst h0;rw[Nat.gcd_zero_left];exact hj
  ·rw[Nat.gcd_rec]
   refine ih (j%i) (Nat.mod_lt _ h0) i ?_ hi
   have e:a^j=(a^i)^(j / i)*a^(j%i):=by rw[←Nat.pow_mul,←Nat.pow_add,Nat.div_add_mod]
   rw[e,Nat.mul_mod,Nat.pow_mod,hi,Nat.one_pow,h1,Nat.one_mul,Nat.mod_mod]at hj
   exact hj
def Av(n:Nat):Prop:=∀d,d∣n→d=1∨d=n
theorem za{n k:Nat}(h:Av n)(h0:0 < k)(hk:k < n):Nat.gcd k n=1:=by
 rcases h _ (Nat.gcd_dvd_right k n) with h1 | h1
 ·exact h1
 ·have:=Nat.le_of_dvd h0 (Nat.gcd_dvd_left k n);omega
theorem wI{n:Nat}(hn:1 < n)(h:∀r,1 < r→r*r≤n→¬r∣n):Av n:=by
 intro d hd
 obtain⟨e,he⟩:=hd
 have hd0:0 < d:=Nat.pos_of_ne_zero (by intro x;rw[x,Nat.zero_mul]at he;omega)
 have he0:0 < e:=Nat.pos_of_ne_zero (by intro x;rw[x,Nat.mul_zero]at he;omega)
 by_cases h1:d=1
 ·exact .inl h1
 by_cases h2:e=1
 ·right;rw[he,h2,Nat.mul_one]
 exfalso
 rcases Nat.le_total d e with hle | hle
 ·exact h d (by omega) (by rw[he];exact Nat.mul_le_mul_left d hle) ⟨e,he⟩
 ·exact h e (by omega) (by rw[he];exact Nat.mul_le_mul_right e hle) ⟨d,by rw[he,Nat.mul_comm]⟩
theorem Du{n q b:Nat}(hn:1 < n)(hq:Av q)(hq1:1 < q)(hqq:n < q*q)(hb:b^q%n=1)(hg:Nat.gcd (b - 1) n=1)(hb0:0 < b):Av n:=by
 refine wI hn fun r hr hrr hrn=> ?_
 have h1r:1%r=1:=Nat.mod_eq_of_lt hr
 have hbr:b^q%r=1:=by
  have:=Nat.mod_mod_of_dvd (b^q) hrn
  rw[←this,hb,h1r]
 have hne:b%r≠1:=by
  intro hx
  have hd:r∣b - 1:=by have e:=Nat.dvd_sub_mod (n:=r) b;rw[hx]at e;exact e
  have:=Nat.dvd_gcd hd hrn
  rw[hg]at this
  have:=Nat.le_of_dvd (by omega) this
  omega
 have key:q≤r:=by
  refine A5 r q (fun i=>b^i%r) (fun i _=>Nat.mod_lt _ (by omega)) fun i j hij hj he=> ?_
  have e1:b^(j - i)%r=1:=by
   have x1:b^(q - i)*b^i%r=b^(q - i)*b^j%r:=by rw[Nat.mul_mod,he,←Nat.mul_mod]
   rw[←Nat.pow_add,←Nat.pow_add,show q - i+i=q by omega,show q - i+j=q+(j - i) by omega,Nat.pow_add,Nat.mul_mod,hbr,Nat.one_mul,Nat.mod_mod]at x1
   exact x1.symm
  have e2:=y9 b r h1r (j - i) q e1 hbr
  rw[za hq (by omega) (by omega),Nat.pow_one]at e2
  exact hne e2
 have:q*q≤r*r:=Nat.mul_le_mul key key
 omega
def Bl(n:Nat):Nat→Bool
 | 0=>true
 |k+1=>n%(k+2) !=0 && Bl n k
theorem wH(n:Nat):∀k,Bl n k=true→∀d,1 < d→d≤k+1→¬d∣n
 | 0,_,d,h1,h2=>by omega
 |k+1,h,d,h1,h2=>by
  rw[Bl,Bool.and_eq_true]at h
  by_cases hd:d=k+2
  ·intro hx
   have:=Nat.mod_eq_zero_of_dvd hx
   rw[hd]at this
   rw[this]at h
   exact absurd h.1 (by decide)
  ·exact wH n k h.2 d h1 (by omega)
theorem EP:Av 7930907:=by
 refine wI (by decide) fun r hr hrr=>wH 7930907 2820 (by decide+kernel) r hr ?_
 apply Nat.le_of_not_lt
 intro h
 have:2822*2822≤r*r:=Nat.mul_le_mul (by omega) (by omega)
 omega
theorem pF{n q:Nat}(a e:Nat)(hq:Av q)(hq1:1 < q)(hn:1 < n)(hqq:n < q*q)(he:e < 2^64)(hq2:q < 2^64)(h1:pm n 64 (pm n 64 a e 1) q 1=1)(h2:Nat.gcd (pm n 64 a e 1 - 1) n=1)(h3:0 < pm n 64 a e 1):Av n:=by
 generalize pm n 64 a e 1=b at*
 rw[CX _ _ _ _ _ hq2,Nat.one_mul]at h1
 exact Du hn hq hq1 hqq h1 h2 h3
theorem EO:Av 11864636873:=pF (q:=7930907) 2 1496 EP (by decide) (by decide) (by decide) (by decide) (by decide) (by decide+kernel) (by decide+kernel) (by decide+kernel)
theorem EN:Av 1732236983459:=pF (q:=11864636873) 2 146 EO (by decide) (by decide) (by decide) (by decide) (by decide) (by decide+kernel) (by decide+kernel) (by decide+kernel)
theorem EM:Av 249442125618097:=pF (q:=1732236983459) 2 144 EN (by decide) (by decide) (by decide) (by decide) (by decide) (by decide+kernel) (by decide+kernel) (by decide+kernel)
theorem ER:Av 2305843009213688669:=pF (q:=249442125618097) 2 9244 EM (by decide) (by decide) (by decide) (by decide) (by decide) (by decide+kernel) (by decide+kernel) (by decide+kernel)
def gP(n:Nat):Int:=((4^n%4611686018427377339:Nat):Int)
theorem th(a m q:Nat)(h1:1%m=1)(h:a^q%m=1)(n:Nat):a^(n%q)%m=a^n%m:=by
 have e:a^n=(a^q)^(n / q)*a^(n%q):=by rw[←Nat.pow_mul,←Nat.pow_add,Nat.div_add_mod]
 rw[e,Nat.mul_mod,Nat.pow_mod (a^q),h,Nat.one_pow,h1,Nat.one_mul,Nat.mod_mod]
theorem CL:∀q:Nat,q=2305843009213688669→4^q%4611686018427377339=1:=by
 intro q hq
 have h:=tF
 rw[sm _ _ (by decide)]at h
 rw[←hq]at h
 have e:(((4^q%4611686018427377339:Nat)):Int)=1:=by
  rw[Int.natCast_emod,Int.natCast_pow]
  exact h
 omega
theorem uM(n:Nat):gP (n%2305843009213688669)=gP n:=by
 unfold gP
 obtain⟨q,hq⟩:∃q:Nat,q=2305843009213688669:=⟨_,rfl⟩
 rw[←hq,th 4 4611686018427377339 q (by decide) (CL q hq)]
theorem D2(n:Nat)(h:n < 18446744073709551616):pw 4 n=gP n:=by
 rw[sm _ _ h]
 unfold gP
 rw[Int.natCast_emod,Int.natCast_pow]
 rfl
theorem A1(k:Int)(h:0≤k):(k%2305843009213688669).toNat=k.toNat%2305843009213688669:=by omega
theorem re(k:Int)(h:0≤k):gH k=gP k.toNat:=by
 show pw (tk 4) _=_
 rw[sP Cn,D2 _ (by omega),A1 k h,uM]
theorem Ce(n:Nat):gP n=gH n:=by rw[re _ (by omega),Int.toNat_natCast]
theorem rP(n:Nat):mg (gP n)=true:=by rw[Ce];exact we _
theorem xS(a b:Nat):jC (gP a) (gP b)=gP (a+b):=by
 unfold jC gP
 rw[←Int.natCast_mul,Nat.pow_add]
 have e:(4611686018427377339:Int)=((4611686018427377339:Nat):Int):=rfl
 rw[e,←Int.natCast_emod,←Nat.mul_mod]
theorem A2(a:Nat)(c:Int)(h:0≤c):mG (gP a) c=gP (a*c.toNat):=by
 show pw (tk (gP a)) _=_
 rw[sP (rP a),sm _ _ (by omega),A1 c h]
 obtain⟨b,hb⟩:∃b:Nat,b=c.toNat:=⟨_,rfl⟩
 rw[←hb]
 obtain⟨d,hd⟩:∃d:Nat,d=b%2305843009213688669:=⟨_,rfl⟩
 have hx:gP (a*b)=gP (a*d):=by rw[←uM (a*b),←uM (a*d),Nat.mul_mod a b,Nat.mul_mod a d,hd,Nat.mod_mod]
 rw[hx,←hd]
 unfold gP
 have e:(4611686018427377339:Int)=((4611686018427377339:Nat):Int):=rfl
 rw[e,←Int.natCast_pow,←Int.natCast_emod,←Nat.pow_mod,←Nat.pow_mul]
theorem yO:gP 0=1:=by decide
theorem D1{n:Nat}(h:0 < n)(hn:n < 2305843009213688669):gP n≠1:=by
 intro he
 unfold gP at he
 have he:4^n%4611686018427377339=1:=by omega
 obtain⟨q,hq⟩:∃q:Nat,q=2305843009213688669:=⟨_,rfl⟩
 have e:=y9 4 4611686018427377339 (by decide) n q he (CL q hq)
 rw[za (by rw[hq];exact ER) h (by omega)]at e
 exact absurd e (by decide)
theorem zi(k:Int)(m:List Int)(h0:0 < k)(hq:k < 2305843009213688669):lF (gH k) m 1 (gE k m)=true:=by
 obtain⟨kn,hk⟩:∃kn:Nat,kn=k.toNat:=⟨_,rfl⟩
 have hb:gH k=gP kn:=by rw[hk];exact re k (by omega)
 have hn:=rN (xk xZ [fR k,m])
 unfold gE Bn
 rw[if_pos ⟨hq,by omega⟩]
 obtain⟨n,hne⟩:∃n,nA (xk xZ [fR k,m])=n:=⟨_,rfl⟩
 rw[hne]at hn ⊢
 unfold uu
 have hr:rb [gH n,1]=gP n.toNat:=by
  show jC (jC 1 (tk (gH n))) (tk 1)=_
  rw[sP (we n),sP pn,wE (lA _ _),re n (by omega),←yO,xS,Nat.zero_add]
 rw[hr,hb]
 have hc:=rE (gP n.toNat) (gP kn) m
 obtain⟨c,hce⟩:∃c,mQ (gP n.toNat) (gP kn) m=c:=⟨_,rfl⟩
 rw[hce]at hc ⊢
 have ha:=yD n (uX c k)
 have h1:=hc.1
 have h2:=ha.1
 have h3:=ha.2
 unfold lF
 rw[if_neg (by
  intro h
  rcases h with h | h | h | h | h
  ·exact D1 (by omega) (by omega) h
  ·rw[rP]at h;cases h
  ·rw[pn]at h;cases h
  ·have h:mg (gP n.toNat)=false:=h
   rw[rP]at h;cases h
  ·exact h h3)]
 have e:gH (xx n (uX c k))=rb [gP n.toNat,mG (gP kn) c,wF 1]:=by
  show _=jC (jC (jC 1 (tk (gP n.toNat))) (tk (mG (gP kn) c))) (tk (wF 1))
  rw[Cs,sP pn,wE (lA _ _),sP (rP _),A2 _ _ h1,sP (rP _)]
  rw[show(jC 1 (gP n.toNat))=gP n.toNat by rw[←yO,xS,Nat.zero_add]]
  rw[xS,re _ h2]
  have hx:(xx n (uX c k)).toNat=(n.toNat+kn*c.toNat)%2305843009213688669:=by
   unfold xx uX Bp
   have g1:c%2305843009213688669=c:=Int.emod_eq_of_lt h1 hc.2
   have g2:k%2305843009213688669=k:=Int.emod_eq_of_lt (by omega) hq
   have g3:n%2305843009213688669=n:=Int.emod_eq_of_lt (by omega) hn.2
   rw[g1,g2,g3,Int.emod_emod_of_dvd _ (Int.dvd_refl _)]
   have g4:((kn*c.toNat:Nat):Int)=c*k:=by
    rw[Int.natCast_mul,hk,Int.toNat_of_nonneg (by omega),Int.toNat_of_nonneg h1,Int.mul_comm]
   have g5:0≤c*k:=by rw[←g4];exact Int.natCast_nonneg _
   obtain⟨z,hz⟩:∃z,c*k=z:=⟨_,rfl⟩
   rw[hz]at g4 g5 ⊢
   obtain⟨zn,hzn⟩:∃zn,kn*c.toNat=zn:=⟨_,rfl⟩
   rw[hzn]at g4 ⊢
   omega
  rw[hx,uM]
 show decide (gH (xx n (uX c k))=rb [gP n.toNat,mG (gP kn) (mQ (gP n.toNat) (gP kn) m),wF 1])=true
 rw[hce]
 exact decide_eq_true e
set_option synthInstance.maxSize 5000
def uO{α:Type}(p:α→Bool):List α→Int→Int⊕Unit
 |[],_=> .inr ()
 |x::xs,i=>if p x then .inl i else uO p xs (i+1)
def Cj{α:Type}(p:α→Bool)(l:List α):Int:=match uO p l 0 with | .inl i=>i | .inr _=> -1
theorem wa{α:Type}(p:α→Bool):∀(l:List α) (i:Int),0≤i→(match uO p l i with | .inl i=>decide (i≥0) | .inr _=>false)=l.any p
 |[],_,_=>rfl
 |x::l,i,h=>by
  rw[uO,List.any_cons]
  cases hp:p x
  ·simp only[Bool.false_eq_true,if_false,Bool.false_or]
   exact wa p l (i+1) (by omega)
  ·simp[h]
theorem A7{α:Type}(p:α→Bool)(l:List α):l6 (Cj p l) 0=l.any p:=by
 have:=wa p l 0 (by omega)
 unfold Cj l6
 cases h:uO p l 0
 ·rw[h]at this;exact this
 ·rw[h]at this;rw[←this];rfl
def pe(k:Int):Bool:=decide (¬(k < 2305843009213688669∧k≠0))
def jQ(t:eD)(i br:Int)(ks:List Int):Bool:=fg t && (decide (0≤i∧i < t.1.length∧0≤br∧br < 4∧ks.length≤12) && !(ks.any pe))
def BF(t:eD)(i br:Int)(ks:List Int)(sc:Int):eD×Int:=
 if jQ t i br ks then((t.1.set i.toNat ((nth cH t.1 i.toNat).1,(br,ks.map (fun k=>gE k (oY t)),sc,()),()),t.2),0) else(([],[],0,()),1)
theorem yu{t:eD}:Sm (oY t):=by
 unfold oY
 split
 ·exact vi _ _
 ·exact⟨by rw[List.length_replicate],fun x hx=>by obtain rfl:=(List.mem_replicate.1 hx).2;exact⟨by decide,by decide⟩⟩
abbrev ea.D:=Int
def ea.st:ea.D→SA:=fun kv=>([.d tu kv],[])
abbrev ea.Y:=Bool
abbrev ea.X:=Bool
def ea.out:ea.X→aZ:=fun x=>⟨.d .bool x,[],[]⟩
def ea.add:ea.D→ea.Y→ea.X:=fun kv y=>y
def ea.aD:ea.D→Prop:=fun _=>True
def ea.F:ea.D→ea.Y:=fun k=>pe k
noncomputable def ea.G:dV:=eY (P:=Tryz.prog) [cG.sg]
noncomputable def ea.an:eJ:= {}
noncomputable def ea.A:= @cK Tryz.prog ea.G ea.an 0 Tryz.f87 _ ea.st
abbrev ea.Ok:=cM @ea.A ea.aD ea.add ea.F ea.out
theorem ea.eq{R:Type}(kv:Int)(k:aZ→Option R):ea.A kv k=
  aF ((kR kv (0:Int))) (
   k (ea.out true)) (
   ae (cG.call kv) fun x1=>
   k (ea.out (!x1))):=by kernel_rfl
theorem ea.ok:ea.Ok:=by
 intro(k:Int) _
 rw[ea.eq,cG.run (d:=k) trivial]
 simp only[ea.add,ea.F,pe,aa,cG.add,cG.F]
 by_cases h:k=0
 ·rw[dq h,ay,aR (by omega)]
 ·rw[eC h,ao]
  by_cases h2:k < 2305843009213688669
  ·rw[bA h2,aO (by omega)];rfl
  ·rw[bm h2,aR (by omega)];rfl
noncomputable def ea.E:=Entry.cv [some tu] ea.st ea.aD ea.add ea.F ea.out
noncomputable def ea.call:ea.D→Option ea.X:=bJ ea.E ea.st
theorem ea.run:bE ea.call ea.aD ea.add ea.F:=cQ (cP [.d tu] fun _=>by kernel_rfl)
noncomputable def ea.sg:SG Tryz.prog:=⟨87,aW,ea.E,.fn 0 (by kernel_rfl) ea.ok trivial⟩
abbrev aX.L0.D:=Bs×Int×Int
def aX.L0.st:aX.L0.D→AS:=fun(sv_2,t7,t8)=>⟨([.d tU sv_2,.fn 87 (.nil)]++ba 5 ([.d ti t7,.d ti t8]++ba 10 [])),[],(List.replicate 19 [])⟩
abbrev aX.L0.Y0:=Int
abbrev aX.L0.X0:=Int
def aX.L0.bw:aX.L0.X0→Exit×AS:=fun x=>(.ret,⟨(ba 4 ([.d ti x]++ba 14 [])),[],(List.replicate 19 [])⟩)
abbrev aX.L0.Y1:=Unit
abbrev aX.L0.X1:=Unit
def aX.L0.eO:aX.L0.X1→Exit×AS:=fun x=>(.exit 0,⟨(ba 19 []),[],(List.replicate 19 [])⟩)
abbrev aX.L0.X:=(aX.L0.X0)⊕(aX.L0.X1)
abbrev aX.L0.Y:=(aX.L0.Y0)⊕(aX.L0.Y1)
def aX.L0.out:aX.L0.X→Out (Exit×AS):=fun x=> .br x.isLeft (.get x.getLeft? fun a=> .ok (aX.L0.bw a)) (.get x.getRight? fun b=> .ok (aX.L0.eO b))
def aX.L0.add:aX.L0.D→aX.L0.Y→aX.L0.X:=fun(sv_2,t7,t8) y=>match y with | .inl y=> .inl y | .inr z=> .inr (z)
abbrev aX.D:=Bs
def aX.st:aX.D→SA:=fun sv=>([.d tU sv,.fn 87 (.nil)],[])
abbrev aX.Y:=Int
abbrev aX.X:=Int
def aX.out:aX.X→aZ:=fun x=>⟨.d ti x,[],[]⟩
def aX.add:aX.D→aX.Y→aX.X:=fun sv y=>y
def aX.L0.aD:aX.L0.D→Prop:=fun(l,n,i)=>(∀x∈l,True)∧l.length≤1000000000∧n=l.length∧∃k:Nat,k≤l.length∧i=k
def aX.L0.F:aX.L0.D→aX.L0.Y:=fun(l,n,i)=>uO pe (l.drop i.toNat) i
def aX.aD:aX.D→Prop:=fun l=>(∀x∈l,True)∧l.length≤1000000000
def aX.F:aX.D→aX.Y:=fun l=>Cj pe l
noncomputable def aX.G:dV:=eY (P:=Tryz.prog) [ea.sg]
noncomputable def aX.L0.E:=bP.cv aX.L0.st aX.L0.aD aX.L0.add aX.L0.F aX.L0.out
noncomputable def aX.L0.call:aX.L0.D→Option aX.L0.X:=dk aX.L0.E aX.L0.st
noncomputable def aX.an:eJ:= {loops:=jJ [(2,{bn:=[0,1,7,8]})],outs:=jI [(2,{},{bn:=[4]})],fJ:=kz [(2,aX.L0.E)]}
noncomputable def aX.A:= @cK Tryz.prog aX.G aX.an 0 Tryz.f127 _ aX.st
abbrev aX.Ok:=cM @aX.A aX.aD aX.add aX.F aX.out
noncomputable def aX.L0.R:= @bV Tryz.prog aX.G aX.an 0 Tryz.f127 0 _ aX.L0.st
abbrev aX.L0.Ok:=eA Tryz.prog aX.G aX.an 0 Tryz.f127 0 aX.L0.st aX.L0.aD aX.L0.add aX.L0.F aX.L0.out
theorem aX.L0.run:bE aX.L0.call aX.L0.aD aX.L0.add aX.L0.F:=eK (eI [.d tU,.d ti,.d ti] fun _=>by kernel_rfl)
theorem aX.L0.aG:iO @aX.L0.R aX.L0.st aX.L0.aD aX.L0.add aX.L0.F aX.L0.out aX.L0.Ok:=jk
theorem aX.L0.step{R:Type}(sv_2:Bs)(t7:Int)(t8:Int)(kn:AS→Option R)(kx:Exit→AS→Option R):aX.L0.R (sv_2,t7,t8) kn kx=
  aF ((gb t8 t7)) (
   aF (dS t8 (((List.length sv_2):Nat):Int)) (
   ae (ea.call (nth tu sv_2 (Int.toNat t8))) fun x1=>
   aF (x1) (
    kx (aX.L0.bw t8).1 (aX.L0.bw t8).2) (
    kn (aX.L0.st (sv_2,t7,(bO .i64 t8 (1:Int)))))) none) (
   kx (aX.L0.eO ()).1 (aX.L0.eO ()).2):=by kernel_rfl
theorem aX.eq{R:Type}(sv:Bs)(k:aZ→Option R):aX.A sv k=
  ae (aX.L0.call (sv,(((List.length sv):Nat):Int),(0:Int))) fun x2=>
  aF (x2.isLeft) (
   ae (x2.getLeft?) fun a3=>
   k (aX.out a3)) (
   ae (x2.getRight?) fun b4=>
   k (aX.out (-1:Int))):=by kernel_rfl
theorem aX.L0.ok:aX.L0.Ok:=by
 refine aX.L0.aG (fun(l,n,i)=>l.length - i.toNat) ?_
 rintro⟨l,n,i⟩ ⟨hl,hb,rfl,k,hk,rfl⟩
 have hb:l.length≤1000000000:=hb
 have hk:k≤l.length:=hk
 by_cases h:k < l.length
 ·have hx:=hl _ (List.getElem_mem h)
  have n1:nth tu l k=l[k]:=bZ (t:=tu) h
  have hd:uO pe (l.drop k) k=if pe l[k] then .inl (k:Int) else uO pe (l.drop (k+1)) ((k+1:Nat):Int):=by rw[List.drop_eq_getElem_cons h];rfl
  have step:∀ {R:Type} (kn:AS→Option R) (kx:Exit→AS→Option R),aX.L0.R (l,(l.length:Int),(k:Int)) kn kx=aF (pe l[k]) (kx (aX.L0.bw (k:Int)).1 (aX.L0.bw (k:Int)).2) (kn (aX.L0.st (l,(l.length:Int),((k+1:Nat):Int)))):=by
   intro R kn kx
   rw[aX.L0.step,bA (by omega),bh (by omega) (by omega),Int.toNat_natCast,n1,ea.run (d:=l[k]) hx,N.kr (by omega)]
   rfl
  cases hp:pe l[k]
  ·left
   refine⟨(l,l.length,((k+1:Nat):Int)),⟨hl,hb,rfl,k+1,by omega,rfl⟩,by simp only[Int.toNat_natCast];omega,?_,fun kn kx=> ?_⟩
   ·simp only[aX.L0.add,aX.L0.F,Int.toNat_natCast,hd,hp,Bool.false_eq_true,if_false]
   ·rw[step,hp,ao]
  ·right
   refine⟨aX.L0.bw (k:Int),?_,fun kn kx=> ?_⟩
   ·simp only[aX.L0.add,aX.L0.F,Int.toNat_natCast,hd,hp,if_true]
    rfl
   ·rw[step,hp,ay]
 ·right
  obtain rfl:k=l.length:=by omega
  refine⟨aX.L0.eO (),?_,fun kn kx=> ?_⟩
  ·simp only[aX.L0.add,aX.L0.F,Int.toNat_natCast,List.drop_length]
   rfl
  ·rw[aX.L0.step,bm (by omega),ao]
theorem aX.ok:aX.Ok:=by
 rintro l ⟨hl,hb⟩
 rw[aX.eq,aX.L0.run (d:=(l,l.length,0)) ⟨hl,hb,rfl,0,by omega,rfl⟩]
 simp only[aa,aX.L0.add,aX.L0.F,Int.toNat_zero,List.drop_zero,aX.add,aX.F,Cj]
 cases uO pe l 0 <;> rfl
noncomputable def aX.E:=Entry.cv [some tU,none] aX.st aX.aD aX.add aX.F aX.out
noncomputable def aX.call:aX.D→Option aX.X:=bJ aX.E aX.st
theorem aX.run:bE aX.call aX.aD aX.add aX.F:=cQ (cP [.d tU] fun _=>by kernel_rfl)
noncomputable def aX.sg:SG Tryz.prog:=⟨127,aW,aX.E,.fn 1 (by kernel_rfl) aX.ok (And.intro (.cv aX.L0.ok (by kernel_rfl)) trivial)⟩
abbrev bH.D:=Bs
def bH.st:bH.D→SA:=fun sv=>([.d tU sv,.fn 87 (.nil)],[])
abbrev bH.Y:=Bool
abbrev bH.X:=Bool
def bH.out:bH.X→aZ:=fun x=>⟨.d .bool x,[],[]⟩
def bH.add:bH.D→bH.Y→bH.X:=fun sv y=>y
def bH.aD:bH.D→Prop:=fun l=>(∀x∈l,True)∧l.length≤1000000000
def bH.F:bH.D→bH.Y:=fun l=>l.any pe
noncomputable def bH.G:dV:=eY (P:=Tryz.prog) [aX.sg]
noncomputable def bH.an:eJ:= {}
noncomputable def bH.A:= @cK Tryz.prog bH.G bH.an 0 Tryz.f90 _ bH.st
abbrev bH.Ok:=cM @bH.A bH.aD bH.add bH.F bH.out
theorem bH.eq{R:Type}(sv:Bs)(k:aZ→Option R):bH.A sv k=
 ae (aX.call sv) fun x1=>
 k (bH.out (l6 x1 (0:Int))):=by kernel_rfl
theorem bH.ok:bH.Ok:=by
 rintro l ⟨hl,hb⟩
 rw[bH.eq,aX.run (d:=l) ⟨hl,hb⟩]
 simp only[aa,aX.add,aX.F,A7]
 rfl
noncomputable def bH.E:=Entry.cv [some tU,none] bH.st bH.aD bH.add bH.F bH.out
noncomputable def bH.call:bH.D→Option bH.X:=bJ bH.E bH.st
theorem bH.run:bE bH.call bH.aD bH.add bH.F:=cQ (cP [.d tU] fun _=>by kernel_rfl)
noncomputable def bH.sg:SG Tryz.prog:=⟨90,aW,bH.E,.fn 0 (by kernel_rfl) bH.ok trivial⟩
abbrev bp.L0.D:=Int×Bs×Int×Int×eD×(Int×Unit)×Int×Nat×(Int×Unit)×Bs×(List Sg)
def bp.L0.st:bp.L0.D→AS:=fun(inv_2,t52,t53,t54,n5,n10,n13,n13L,n13_2,n14,n64)=>⟨([.undef,.d ti inv_2,.undef,.undef,.undef,.ptr (.new 5 0) 0 [] 0]++ba 4 ([.ptr (.new 10 0) 0 [] 0,.undef,.undef,.ptr (.new 13 0) 0 [] 0,.ptr (.new 14 0) 0 [] 0]++ba 37 ([.d tU t52,.d ti t53,.d ti t54]++ba 21 []))),[],(bK 5 ([[.obj 0 false (.d fw n5)]]++bK 4 ([[.obj 0 false (.pr (.da) (.pr (.da) (.d (.pair ti .unit) n10)))],[],[],[.obj 0 false (.pr (.d ti n13) (.pr (.bU (.new 64 0) 0 [] 0 0 n13L) (.d (.pair tu .unit) n13_2)))],[.obj 0 false (.d tH n14)]]++bK 49 ([[.obj 0 false (.vec 60 jc n64)]]++bK 11 []))))⟩
abbrev bp.L0.Y0:=j6×(List Sg)
abbrev bp.L0.X0:=(Int×eD×(Int×Unit))×(j6×(List Sg))
def bp.L0.bw:bp.L0.X0→Exit×AS:=fun x=>(.exit 0,⟨([.undef,.d ti x.1.1,.undef,.undef,.undef,.ptr (.new 5 0) 0 [] 0]++ba 4 ([.ptr (.new 10 0) 0 [] 0,.undef,.undef,.ptr (.new 13 0) 0 [] 0]++ba 62 [])),[],(bK 5 ([[.obj 0 false (.d fw x.1.2.1)]]++bK 4 ([[.obj 0 false (.pr (.da) (.pr (.da) (.d (.pair ti .unit) x.1.2.2)))],[],[],[.obj 0 false (.d mK x.2.1)]]++bK 50 ([[.obj 0 true (.vec 60 jc x.2.2)]]++bK 11 []))))⟩)
abbrev bp.L0.X:=bp.L0.X0
abbrev bp.L0.Y:=bp.L0.Y0
def bp.L0.out:bp.L0.X→Out (Exit×AS):=fun x=> .ok (bp.L0.bw x)
def bp.L0.add:bp.L0.D→bp.L0.Y→bp.L0.X:=fun(inv_2,t52,t53,t54,n5,n10,n13,n13L,n13_2,n14,n64) y=>((inv_2,n5,n10),y)
abbrev bp.D:=eD×Int×Int×Bs×Int
def bp.st:bp.D→SA:=fun(t,inv,branch,keys,secret)=>([.d fw t,.d ti inv,.d ti branch,.d tU keys,.d tu secret],[])
abbrev bp.Y:=eD×Int
abbrev bp.X:=eD×Int
def bp.out:bp.X→aZ:=fun x=>⟨.cons (.d fw x.1) (.cons (.d ti x.2) (.nil)),[],[]⟩
def bp.add:bp.D→bp.Y→bp.X:=fun(t,inv,branch,keys,secret) y=>y
def bp.L0.aD:bp.L0.D→Prop:=fun(i0,l,n,i,t,e,br,L,sc,id,r)=>l.length≤1000∧(∀x∈l,ik x)∧Sm id∧∃k:Nat,k≤l.length∧i=k∧n=l.length∧L=r.length∧r.length≤1000+k
def bp.L0.F:bp.L0.D→bp.L0.Y:=fun(i0,l,n,i,t,e,br,L,sc,id,r)=>((br,r++(l.drop i.toNat).map (fun k=>gE k id),sc),r++(l.drop i.toNat).map (fun k=>gE k id))
def bp.aD:bp.D→Prop:=fun(t,i,br,ks,sc)=>qF t∧(∀x∈ks,ik x)∧ks.length≤1000000000
def bp.F:bp.D→bp.Y:=fun(t,i,br,ks,sc)=>BF t i br ks sc
noncomputable def bp.G:dV:=eY (P:=Tryz.prog) [al.sg,e7.sg,bH.sg,tid.sg,dI.sg,ai.sg]
noncomputable def bp.L0.E:=bP.cv bp.L0.st bp.L0.aD bp.L0.add bp.L0.F bp.L0.out
noncomputable def bp.L0.call:bp.L0.D→Option bp.L0.X:=dk bp.L0.E bp.L0.st
noncomputable def bp.an:eJ:= {bN:=[5],loops:=jJ [(7,{bn:=[1,5,10,13,14,52,53,54],sites:=[5,10,13,14,64],iH:=[⟨13,[.snd,.fst],64,51⟩]})],outs:=jI [(7,{bn:=[1,5,10,13],sites:=[5,10,13,64],s6:=[⟨13,[.snd,.fst],(.slice jc)⟩]},{bn:=[10,11]})],fJ:=kz [(7,bp.L0.E)],res:=[some fw,none]}
noncomputable def bp.A:= @cK Tryz.prog bp.G bp.an 0 Tryz.f26 _ bp.st
abbrev bp.Ok:=cM @bp.A bp.aD bp.add bp.F bp.out
noncomputable def bp.L0.R:= @bV Tryz.prog bp.G bp.an 0 Tryz.f26 0 _ bp.L0.st
abbrev bp.L0.Ok:=eA Tryz.prog bp.G bp.an 0 Tryz.f26 0 bp.L0.st bp.L0.aD bp.L0.add bp.L0.F bp.L0.out
theorem bp.L0.run:bE bp.L0.call bp.L0.aD bp.L0.add bp.L0.F:=eK (eI [.d ti,.d tU,.d ti,.d ti,.d fw,.d (.pair ti .unit),.d ti,.n,.d (.pair tu .unit),.d tB,.d (.slice jc)] fun _=>by kernel_rfl)
theorem bp.L0.aG:fX @bp.L0.R bp.L0.st bp.L0.aD bp.L0.add bp.L0.F bp.L0.bw bp.L0.Ok:=gf
theorem bp.L0.step{R:Type}(inv_2:Int)(t52:Bs)(t53:Int)(t54:Int)(n5:eD)(n10:(Int×Unit))(n13:Int)(n13L:Nat)(n13_2:(Int×Unit))(n14:Bs)(n64:(List Sg))(kn:AS→Option R)(kx:Exit→AS→Option R):bp.L0.R (inv_2,t52,t53,t54,n5,n10,n13,n13L,n13_2,n14,n64) kn kx=
  aF ((gb t54 t53)) (
   aF (dS t54 (((List.length t52):Nat):Int)) (
   ae (dI.call ((nth tu t52 (Int.toNat t54)),n14)) fun x4=>
   aF (decide (n13L≤(List.length n64))) (
   aF (du (n13L+1) 16) (
   kn (bp.L0.st (inv_2,t52,t53,(bO .i64 t54 (1:Int)),n5,n10,n13,(n13L+1),n13_2,n14,((List.take n13L n64)++ [x4])))) none) none) none) (
   aF (decide (0=0∧(0+n13L)≤(List.length n64))) (
   kx (bp.L0.bw ((inv_2,n5,n10),((n13,((cut n64 0 n13L),n13_2)),n64))).1 (bp.L0.bw ((inv_2,n5,n10),((n13,((cut n64 0 n13L),n13_2)),n64))).2) none):=by kernel_rfl
theorem bp.eq{R:Type}(t:eD)(inv:Int)(branch:Int)(keys:Bs)(secret:Int)(k:aZ→Option R):bp.A (t,inv,branch,keys,secret) k=
  ae (al.call t) fun x10=>
  aF ((!x10)) (
   k (bp.out ((([]:List eR),(([]:List fL),((0:Int),()))),(1:Int)))) (
   aF ((gb inv (0:Int))) (
    k (bp.out ((([]:List eR),(([]:List fL),((0:Int),()))),(1:Int)))) (
    aF ((l6 inv (((List.length t.1):Nat):Int))) (
     k (bp.out ((([]:List eR),(([]:List fL),((0:Int),()))),(1:Int)))) (
     ae (e7.call (branch,(([]:List Sg),(secret,())))) fun x11=>
     aF ((!x11)) (
      k (bp.out ((([]:List eR),(([]:List fL),((0:Int),()))),(1:Int)))) (
      aF ((mv (((List.length keys):Nat):Int) (12:Int))) (
       k (bp.out ((([]:List eR),(([]:List fL),((0:Int),()))),(1:Int)))) (
       ae (bH.call keys) fun x12=>
       aF (x12) (
        k (bp.out ((([]:List eR),(([]:List fL),((0:Int),()))),(1:Int)))) (
        ae (tid.call t) fun x16=>
        ae (bp.L0.call (inv,keys,(((List.length keys):Nat):Int),(0:Int),t,((0:Int),()),branch,0,(secret,()),x16,([]:List Sg))) fun x26=>
        ae (ai.call x26.1.2.1) fun x30=>
        aF (dS x26.1.1 ((x30.1:Nat):Int)) (
        aF (decide ((0+(Int.toNat x26.1.1)) < (List.length x30.2.2))) (
        aF (decide ((((0+(Int.toNat x26.1.1))*36)+33)=((0+((Int.toNat x26.1.1)*36))+33))) (
        aF (decide ((0+(Int.toNat x26.1.1)) < (List.length x30.2.2))) (
        aF (decide (0=0∧(0+x30.1)≤(List.length (List.set x30.2.2 (0+(Int.toNat x26.1.1)) ((nth cH x30.2.2 (0+(Int.toNat x26.1.1))).1,(x26.2.1,(nth cH x30.2.2 (0+(Int.toNat x26.1.1))).2.2)))))) (
        k (bp.out (((cut (List.set x30.2.2 (0+(Int.toNat x26.1.1)) ((nth cH x30.2.2 (0+(Int.toNat x26.1.1))).1,(x26.2.1,(nth cH x30.2.2 (0+(Int.toNat x26.1.1))).2.2))) 0 x30.1),x30.2.1),(0:Int)))) none) none) none) none) none)))))):=by kernel_rfl
theorem bp.L0.ok:bp.L0.Ok:=by
 refine bp.L0.aG (fun(i0,l,n,i,t,e,br,L,sc,id,r)=>l.length - i.toNat) ?_
 rintro⟨i0,l,n,i,t,e,br,L,sc,id,r⟩ ⟨hlen,hu,hm,k,hk,rfl,rfl,rfl,hr⟩
 have hlen:l.length≤1000:=hlen
 have hk:k≤l.length:=hk
 have hr:r.length≤1000+k:=hr
 by_cases h:k < l.length
 ·left
  have n1:nth tu l k=l[k]:=bZ (t:=tu) h
  have hd:List.drop k l=l[k]::List.drop (k+1) l:=List.drop_eq_getElem_cons h
  refine⟨(i0,l,l.length,((k+1:Nat):Int),t,e,br,r.length+1,sc,id,r++ [gE l[k] id]),⟨hlen,hu,hm,k+1,by omega,rfl,rfl,by rw[List.length_append];rfl,by rw[List.length_append];show r.length+1≤_;omega⟩,by simp only[Int.toNat_natCast];omega,?_,fun kn kx=> ?_⟩
  ·simp only[bp.L0.add,bp.L0.F,Int.toNat_natCast,hd,List.map_cons,List.append_assoc,List.singleton_append]
  ·rw[bp.L0.step,bA (by omega),bh (by omega) (by omega),Int.toNat_natCast,n1,dI.run (d:=(l[k],id)) ⟨hu _ (List.getElem_mem h),hm⟩]
   simp only[ay,aa,dI.add,dI.F]
   rw[aR (Nat.le_refl _),eN (by omega) (by omega),N.kr (by omega),List.take_length]
   rfl
 ·right
  obtain rfl:k=l.length:=by omega
  intro R kn kx
  rw[bp.L0.step,bm (by omega),ao]
  simp only[bp.L0.add,bp.L0.F,Int.toNat_natCast,List.drop_length,List.map_nil,List.append_nil,Nat.zero_add,Nat.le_refl,and_self,decide_true,ay,eV]
theorem bp.ok:bp.Ok:=by
 rintro⟨⟨is,os,nt,u⟩,i,br,ks,sc⟩ ⟨hv,hu,hl⟩
 have hv:qF (is,os,nt,u):=hv
 have hl:ks.length≤1000000000:=hl
 rw[bp.eq,al.run (d:=(is,os,nt,u)) hv.1]
 simp only[aa,al.add,al.F,bp.add,bp.F,BF,jQ]
 rcases Bool.eq_false_or_eq_true (fg (is,os,nt,u)) with hok | hok
 rotate_left
 ·simp only[hok];rfl
 obtain⟨⟨_,a2,a3,_⟩,b1,b2⟩:=gS hok
 have a2:is.length≤64:=a2
 simp only[hok,Bool.not_true,ao,Bool.true_and]
 by_cases h1:i < 0
 ·rw[bA h1,ay,aO (by omega)];rfl
 rw[bm h1,ao]
 by_cases h2:i≥(is.length:Int)
 ·rw[fF h2,ay,aO (by omega)];rfl
 rw[eM h2,ao,e7.run (d:=(br,([],(sc,())))) trivial]
 simp only[aa,e7.add,e7.F,gn]
 by_cases h3:0≤br∧br < 4
 ·rw[aR h3]
  by_cases h4:ks.length > 12
  ·rw[dG (by omega),aO (p:=0≤i∧i < (is.length:Int)∧0≤br∧br < 4∧ks.length≤12) (by omega)];rfl
  ·rw[dx (by omega),aR (p:=0≤i∧i < (is.length:Int)∧0≤br∧br < 4∧ks.length≤12) (by omega),bH.run (d:=ks) ⟨fun _ _=>trivial,hl⟩]
   simp only[aa,bH.add,bH.F]
   rcases Bool.eq_false_or_eq_true (ks.any pe) with hb | hb
   rotate_left
   ·simp only[hb]
    obtain⟨k,rfl⟩:∃k:Nat,i=k:=⟨i.toNat,by omega⟩
    have hk:k < is.length:=by omega
    simp only[show(([]:List Sg).length≤12)=True from eq_true (Nat.zero_le _),decide_true,Bool.and_self,Bool.not_true,Bool.not_false,ao,Bool.true_and,if_true]
    rw[tid.run (d:=(is,os,nt,u)) hv]
    simp only[aa,tid.add,tid.F]
    rw[bp.L0.run (d:=((k:Int),ks,ks.length,0,(is,os,nt,u),(0,()),br,0,(sc,()),oY (is,os,nt,u),[])) ⟨by show ks.length≤_;omega,hu,yu,0,Nat.zero_le _,rfl,rfl,rfl,Nat.zero_le _⟩]
    simp only[aa,bp.L0.add,bp.L0.F,Int.toNat_zero,List.drop_zero,List.nil_append]
    rw[ai.run (d:=(is,os,nt,u)) hok]
    simp only[aa,ai.add,ai.F,Int.toNat_natCast,Nat.zero_add,Nat.add_zero,bh (show(0:Int)≤(k:Int) by omega) (show(k:Int) < (is.length:Int) by omega),ay,aR hk,decide_true,List.length_set,Nat.le_refl,and_self]
    rw[eV (by rw[List.length_set])]
   ·simp only[hb];rfl
 ·rw[aO h3,aO (p:=0≤i∧i < (is.length:Int)∧0≤br∧br < 4∧ks.length≤12) (by omega)];rfl
noncomputable def bp.E:=Entry.cv [some fw,some ti,some ti,some tU,some tu] bp.st bp.aD bp.add bp.F bp.out
noncomputable def bp.call:bp.D→Option bp.X:=bJ bp.E bp.st
theorem bp.run:bE bp.call bp.aD bp.add bp.F:=cQ (cP [.d fw,.d ti,.d ti,.d tU,.d tu] fun _=>by kernel_rfl)
noncomputable def bp.sg:SG Tryz.prog:=⟨26,aW,bp.E,.fn 1 (by kernel_rfl) bp.ok (And.intro (.cv bp.L0.ok (by kernel_rfl)) trivial)⟩
set_option synthInstance.maxSize 5000
abbrev bX.L0.D:=Bs×Bs×Int×Int
def bX.L0.st:bX.L0.D→AS:=fun(s1_2,s2_2,t12,t13)=>⟨([.d tB s1_2,.d tB s2_2]++ba 10 ([.d ti t12,.d ti t13]++ba 12 [])),[],(List.replicate 26 [])⟩
abbrev bX.L0.Y0:=Unit
abbrev bX.L0.X0:=Unit
def bX.L0.bw:bX.L0.X0→Exit×AS:=fun x=>(.ret,⟨(ba 4 ([.d .bool false]++ba 21 [])),[],(List.replicate 26 [])⟩)
abbrev bX.L0.Y1:=Unit
abbrev bX.L0.X1:=Unit
def bX.L0.eO:bX.L0.X1→Exit×AS:=fun x=>(.exit 0,⟨(ba 26 []),[],(List.replicate 26 [])⟩)
abbrev bX.L0.X:=(bX.L0.X0)⊕(bX.L0.X1)
abbrev bX.L0.Y:=(bX.L0.Y0)⊕(bX.L0.Y1)
def bX.L0.out:bX.L0.X→Out (Exit×AS):=fun x=> .br x.isLeft (.get x.getLeft? fun a=> .ok (bX.L0.bw a)) (.get x.getRight? fun b=> .ok (bX.L0.eO b))
def bX.L0.add:bX.L0.D→bX.L0.Y→bX.L0.X:=fun(s1_2,s2_2,t12,t13) y=>match y with | .inl y=> .inl y | .inr z=> .inr (z)
abbrev bX.D:=Bs×Bs
def bX.st:bX.D→SA:=fun(s1,s2)=>([.d tB s1,.d tB s2],[])
abbrev bX.Y:=Bool
abbrev bX.X:=Bool
def bX.out:bX.X→aZ:=fun x=>⟨.d .bool x,[],[]⟩
def bX.add:bX.D→bX.Y→bX.X:=fun(s1,s2) y=>y
def bX.L0.aD:bX.L0.D→Prop:=fun(a,b,m,i)=>a.length≤1000000000∧a.length=b.length∧m=a.length∧∃k:Nat,k≤a.length∧i=k
def bX.L0.F:bX.L0.D→bX.L0.Y:=fun(a,b,m,i)=>if a.drop i.toNat=b.drop i.toNat then .inr () else .inl ()
def bX.aD:bX.D→Prop:=fun(a,b)=>a.length≤1000000000
def bX.F:bX.D→bX.Y:=fun(a,b)=>decide (a=b)
noncomputable def bX.G:dV:=eY (P:=Tryz.prog) []
noncomputable def bX.L0.E:=bP.cv bX.L0.st bX.L0.aD bX.L0.add bX.L0.F bX.L0.out
noncomputable def bX.L0.call:bX.L0.D→Option bX.L0.X:=dk bX.L0.E bX.L0.st
noncomputable def bX.an:eJ:= {loops:=jJ [(4,{bn:=[0,1,12,13]})],outs:=jI [(4,{},{bn:=[4]})],fJ:=kz [(4,bX.L0.E)]}
noncomputable def bX.A:= @cK Tryz.prog bX.G bX.an 0 Tryz.f58 _ bX.st
abbrev bX.Ok:=cM @bX.A bX.aD bX.add bX.F bX.out
noncomputable def bX.L0.R:= @bV Tryz.prog bX.G bX.an 0 Tryz.f58 0 _ bX.L0.st
abbrev bX.L0.Ok:=eA Tryz.prog bX.G bX.an 0 Tryz.f58 0 bX.L0.st bX.L0.aD bX.L0.add bX.L0.F bX.L0.out
theorem bX.L0.run:bE bX.L0.call bX.L0.aD bX.L0.add bX.L0.F:=eK (eI [.d tB,.d tB,.d ti,.d ti] fun _=>by kernel_rfl)
theorem bX.L0.aG:iO @bX.L0.R bX.L0.st bX.L0.aD bX.L0.add bX.L0.F bX.L0.out bX.L0.Ok:=jk
theorem bX.L0.step{R:Type}(s1_2:Bs)(s2_2:Bs)(t12:Int)(t13:Int)(kn:AS→Option R)(kx:Exit→AS→Option R):bX.L0.R (s1_2,s2_2,t12,t13) kn kx=
  aF ((gb t13 t12)) (
   aF (dS t13 (((List.length s1_2):Nat):Int)) (
   aF (dS t13 (((List.length s2_2):Nat):Int)) (
   aF ((gM (nth tb s1_2 (Int.toNat t13)) (nth tb s2_2 (Int.toNat t13)))) (
    kx (bX.L0.bw ()).1 (bX.L0.bw ()).2) (
    kn (bX.L0.st (s1_2,s2_2,t12,(bO .i64 t13 (1:Int)))))) none) none) (
   kx (bX.L0.eO ()).1 (bX.L0.eO ()).2):=by kernel_rfl
theorem bX.eq{R:Type}(s1:Bs)(s2:Bs)(k:aZ→Option R):bX.A (s1,s2) k=
  aF ((gM (((List.length s1):Nat):Int) (((List.length s2):Nat):Int))) (
   k (bX.out false)) (
   ae (bX.L0.call (s1,s2,(((List.length s1):Nat):Int),(0:Int))) fun x1=>
   aF (x1.isLeft) (
    ae (x1.getLeft?) fun a2=>
    k (bX.out false)) (
    ae (x1.getRight?) fun b3=>
    k (bX.out true))):=by kernel_rfl
theorem bX.L0.ok:bX.L0.Ok:=by
 refine bX.L0.aG (fun(a,b,m,i)=>a.length - i.toNat) ?_
 rintro⟨a,b,m,i⟩ ⟨hl,hab,rfl,k,hk,rfl⟩
 have hl:a.length≤1000000000:=hl
 have hab:a.length=b.length:=hab
 have hk:k≤a.length:=hk
 by_cases h:k < a.length
 ·have h2:k < b.length:=by omega
  have n1:nth (.int .u8) a k=a[k]:=bZ (t:=(.int .u8)) h
  have n2:nth (.int .u8) b k=b[k]:=bZ (t:=(.int .u8)) h2
  have hd:(a.drop k=b.drop k)=(a[k]=b[k]∧a.drop (k+1)=b.drop (k+1)):=by rw[List.drop_eq_getElem_cons h,List.drop_eq_getElem_cons h2,List.cons.injEq]
  have step:∀ {R:Type} (kn:AS→Option R) (kx:Exit→AS→Option R),bX.L0.R (a,b,(a.length:Int),(k:Int)) kn kx=if a[k]=b[k] then kn (bX.L0.st (a,b,(a.length:Int),((k+1:Nat):Int))) else kx (bX.L0.bw ()).1 (bX.L0.bw ()).2:=by
   intro R kn kx
   rw[bX.L0.step,bA (by omega),bh (by omega) (by omega),bh (by omega) (by omega),Int.toNat_natCast,n1,n2,N.kr (by omega)]
   simp only[ay]
   by_cases hx:a[k]=b[k]
   ·rw[bM hx,if_pos hx];rfl
   ·rw[dA hx,if_neg hx];rfl
  by_cases hx:a[k]=b[k]
  ·left
   refine⟨(a,b,(a.length:Int),((k+1:Nat):Int)),⟨hl,hab,rfl,k+1,by omega,rfl⟩,by simp only[Int.toNat_natCast];omega,?_,fun kn kx=> ?_⟩
   ·simp only[bX.L0.add,bX.L0.F,Int.toNat_natCast,hd,hx,true_and]
   ·rw[step,if_pos hx]
  ·right
   refine⟨bX.L0.bw (),?_,fun kn kx=> ?_⟩
   ·simp only[bX.L0.add,bX.L0.F,Int.toNat_natCast,hd,hx,false_and,if_false]
    rfl
   ·rw[step,if_neg hx]
 ·right
  obtain rfl:k=a.length:=by omega
  refine⟨bX.L0.eO (),?_,fun kn kx=> ?_⟩
  ·simp only[bX.L0.add,bX.L0.F,Int.toNat_natCast,List.drop_length]
   rw[hab,List.drop_length,if_pos rfl]
   rfl
  ·rw[bX.L0.step,bm (by omega),ao]
theorem bX.ok:bX.Ok:=by
 rintro⟨a,b⟩ hl
 have hl:a.length≤1000000000:=hl
 rw[bX.eq]
 simp only[bX.add,bX.F]
 by_cases h:a.length=b.length
 ·rw[bM (by omega),ao,bX.L0.run (d:=(a,b,(a.length:Int),0)) ⟨hl,h,rfl,0,Nat.zero_le _,rfl⟩]
  simp only[aa,bX.L0.add,bX.L0.F,Int.toNat_zero,List.drop_zero]
  by_cases hx:a=b
  ·rw[if_pos hx,aR hx];rfl
  ·rw[if_neg hx,aO hx];rfl
 ·rw[dA (by omega),aO (fun x=>h (by rw[x]))];rfl
noncomputable def bX.E:=Entry.cv [some tB,some tB] bX.st bX.aD bX.add bX.F bX.out
noncomputable def bX.call:bX.D→Option bX.X:=bJ bX.E bX.st
theorem bX.run:bE bX.call bX.aD bX.add bX.F:=cQ (cP [.d tB,.d tB] fun _=>by kernel_rfl)
noncomputable def bX.sg:SG Tryz.prog:=⟨58,aW,bX.E,.fn 1 (by kernel_rfl) bX.ok (And.intro (.cv bX.L0.ok (by kernel_rfl)) trivial)⟩
abbrev ez.L0.D:=Bs×Bs×Int×Int
def ez.L0.st:ez.L0.D→AS:=fun(s1_2,s2_2,t12,t13)=>⟨([.d tU s1_2,.d tU s2_2]++ba 10 ([.d ti t12,.d ti t13]++ba 12 [])),[],(List.replicate 26 [])⟩
abbrev ez.L0.Y0:=Unit
abbrev ez.L0.X0:=Unit
def ez.L0.bw:ez.L0.X0→Exit×AS:=fun x=>(.ret,⟨(ba 4 ([.d .bool false]++ba 21 [])),[],(List.replicate 26 [])⟩)
abbrev ez.L0.Y1:=Unit
abbrev ez.L0.X1:=Unit
def ez.L0.eO:ez.L0.X1→Exit×AS:=fun x=>(.exit 0,⟨(ba 26 []),[],(List.replicate 26 [])⟩)
abbrev ez.L0.X:=(ez.L0.X0)⊕(ez.L0.X1)
abbrev ez.L0.Y:=(ez.L0.Y0)⊕(ez.L0.Y1)
def ez.L0.out:ez.L0.X→Out (Exit×AS):=fun x=> .br x.isLeft (.get x.getLeft? fun a=> .ok (ez.L0.bw a)) (.get x.getRight? fun b=> .ok (ez.L0.eO b))
def ez.L0.add:ez.L0.D→ez.L0.Y→ez.L0.X:=fun(s1_2,s2_2,t12,t13) y=>match y with | .inl y=> .inl y | .inr z=> .inr (z)
abbrev ez.D:=Bs×Bs
def ez.st:ez.D→SA:=fun(s1,s2)=>([.d tU s1,.d tU s2],[])
abbrev ez.Y:=Bool
abbrev ez.X:=Bool
def ez.out:ez.X→aZ:=fun x=>⟨.d .bool x,[],[]⟩
def ez.add:ez.D→ez.Y→ez.X:=fun(s1,s2) y=>y
def ez.L0.aD:ez.L0.D→Prop:=fun(a,b,m,i)=>a.length≤1000000000∧a.length=b.length∧m=a.length∧∃k:Nat,k≤a.length∧i=k
def ez.L0.F:ez.L0.D→ez.L0.Y:=fun(a,b,m,i)=>if a.drop i.toNat=b.drop i.toNat then .inr () else .inl ()
def ez.aD:ez.D→Prop:=fun(a,b)=>a.length≤1000000000
def ez.F:ez.D→ez.Y:=fun(a,b)=>decide (a=b)
noncomputable def ez.G:dV:=eY (P:=Tryz.prog) []
noncomputable def ez.L0.E:=bP.cv ez.L0.st ez.L0.aD ez.L0.add ez.L0.F ez.L0.out
noncomputable def ez.L0.call:ez.L0.D→Option ez.L0.X:=dk ez.L0.E ez.L0.st
noncomputable def ez.an:eJ:= {loops:=jJ [(4,{bn:=[0,1,12,13]})],outs:=jI [(4,{},{bn:=[4]})],fJ:=kz [(4,ez.L0.E)]}
noncomputable def ez.A:= @cK Tryz.prog ez.G ez.an 0 Tryz.f68 _ ez.st
abbrev ez.Ok:=cM @ez.A ez.aD ez.add ez.F ez.out
noncomputable def ez.L0.R:= @bV Tryz.prog ez.G ez.an 0 Tryz.f68 0 _ ez.L0.st
abbrev ez.L0.Ok:=eA Tryz.prog ez.G ez.an 0 Tryz.f68 0 ez.L0.st ez.L0.aD ez.L0.add ez.L0.F ez.L0.out
theorem ez.L0.run:bE ez.L0.call ez.L0.aD ez.L0.add ez.L0.F:=eK (eI [.d tU,.d tU,.d ti,.d ti] fun _=>by kernel_rfl)
theorem ez.L0.aG:iO @ez.L0.R ez.L0.st ez.L0.aD ez.L0.add ez.L0.F ez.L0.out ez.L0.Ok:=jk
theorem ez.L0.step{R:Type}(s1_2:Bs)(s2_2:Bs)(t12:Int)(t13:Int)(kn:AS→Option R)(kx:Exit→AS→Option R):ez.L0.R (s1_2,s2_2,t12,t13) kn kx=
  aF ((gb t13 t12)) (
   aF (dS t13 (((List.length s1_2):Nat):Int)) (
   aF (dS t13 (((List.length s2_2):Nat):Int)) (
   aF ((gM (nth tu s1_2 (Int.toNat t13)) (nth tu s2_2 (Int.toNat t13)))) (
    kx (ez.L0.bw ()).1 (ez.L0.bw ()).2) (
    kn (ez.L0.st (s1_2,s2_2,t12,(bO .i64 t13 (1:Int)))))) none) none) (
   kx (ez.L0.eO ()).1 (ez.L0.eO ()).2):=by kernel_rfl
theorem ez.eq{R:Type}(s1:Bs)(s2:Bs)(k:aZ→Option R):ez.A (s1,s2) k=
  aF ((gM (((List.length s1):Nat):Int) (((List.length s2):Nat):Int))) (
   k (ez.out false)) (
   ae (ez.L0.call (s1,s2,(((List.length s1):Nat):Int),(0:Int))) fun x1=>
   aF (x1.isLeft) (
    ae (x1.getLeft?) fun a2=>
    k (ez.out false)) (
    ae (x1.getRight?) fun b3=>
    k (ez.out true))):=by kernel_rfl
theorem ez.L0.ok:ez.L0.Ok:=by
 refine ez.L0.aG (fun(a,b,m,i)=>a.length - i.toNat) ?_
 rintro⟨a,b,m,i⟩ ⟨hl,hab,rfl,k,hk,rfl⟩
 have hl:a.length≤1000000000:=hl
 have hab:a.length=b.length:=hab
 have hk:k≤a.length:=hk
 by_cases h:k < a.length
 ·have h2:k < b.length:=by omega
  have n1:nth (.int .u64) a k=a[k]:=bZ (t:=(.int .u64)) h
  have n2:nth (.int .u64) b k=b[k]:=bZ (t:=(.int .u64)) h2
  have hd:(a.drop k=b.drop k)=(a[k]=b[k]∧a.drop (k+1)=b.drop (k+1)):=by rw[List.drop_eq_getElem_cons h,List.drop_eq_getElem_cons h2,List.cons.injEq]
  have step:∀ {R:Type} (kn:AS→Option R) (kx:Exit→AS→Option R),ez.L0.R (a,b,(a.length:Int),(k:Int)) kn kx=if a[k]=b[k] then kn (ez.L0.st (a,b,(a.length:Int),((k+1:Nat):Int))) else kx (ez.L0.bw ()).1 (ez.L0.bw ()).2:=by
   intro R kn kx
   rw[ez.L0.step,bA (by omega),bh (by omega) (by omega),bh (by omega) (by omega),Int.toNat_natCast,n1,n2,N.kr (by omega)]
   simp only[ay]
   by_cases hx:a[k]=b[k]
   ·rw[bM hx,if_pos hx];rfl
   ·rw[dA hx,if_neg hx];rfl
  by_cases hx:a[k]=b[k]
  ·left
   refine⟨(a,b,(a.length:Int),((k+1:Nat):Int)),⟨hl,hab,rfl,k+1,by omega,rfl⟩,by simp only[Int.toNat_natCast];omega,?_,fun kn kx=> ?_⟩
   ·simp only[ez.L0.add,ez.L0.F,Int.toNat_natCast,hd,hx,true_and]
   ·rw[step,if_pos hx]
  ·right
   refine⟨ez.L0.bw (),?_,fun kn kx=> ?_⟩
   ·simp only[ez.L0.add,ez.L0.F,Int.toNat_natCast,hd,hx,false_and,if_false]
    rfl
   ·rw[step,if_neg hx]
 ·right
  obtain rfl:k=a.length:=by omega
  refine⟨ez.L0.eO (),?_,fun kn kx=> ?_⟩
  ·simp only[ez.L0.add,ez.L0.F,Int.toNat_natCast,List.drop_length]
   rw[hab,List.drop_length,if_pos rfl]
   rfl
  ·rw[ez.L0.step,bm (by omega),ao]
theorem ez.ok:ez.Ok:=by
 rintro⟨a,b⟩ hl
 have hl:a.length≤1000000000:=hl
 rw[ez.eq]
 simp only[ez.add,ez.F]
 by_cases h:a.length=b.length
 ·rw[bM (by omega),ao,ez.L0.run (d:=(a,b,(a.length:Int),0)) ⟨hl,h,rfl,0,Nat.zero_le _,rfl⟩]
  simp only[aa,ez.L0.add,ez.L0.F,Int.toNat_zero,List.drop_zero]
  by_cases hx:a=b
  ·rw[if_pos hx,aR hx];rfl
  ·rw[if_neg hx,aO hx];rfl
 ·rw[dA (by omega),aO (fun x=>h (by rw[x]))];rfl
noncomputable def ez.E:=Entry.cv [some tU,some tU] ez.st ez.aD ez.add ez.F ez.out
noncomputable def ez.call:ez.D→Option ez.X:=bJ ez.E ez.st
theorem ez.run:bE ez.call ez.aD ez.add ez.F:=cQ (cP [.d tU,.d tU] fun _=>by kernel_rfl)
noncomputable def ez.sg:SG Tryz.prog:=⟨68,aW,ez.E,.fn 1 (by kernel_rfl) ez.ok (And.intro (.cv ez.L0.ok (by kernel_rfl)) trivial)⟩
abbrev cX.D:=gm×gm
def cX.st:cX.D→SA:=fun(x,yv)=>([.d fo x,.d fo yv],[])
abbrev cX.Y:=Bool
abbrev cX.X:=Bool
def cX.out:cX.X→aZ:=fun x=>⟨.d .bool x,[],[]⟩
def cX.add:cX.D→cX.Y→cX.X:=fun(x,yv) y=>y
def cX.aD:cX.D→Prop:=fun(x,z)=>x.1.length≤1000000000
def cX.F:cX.D→cX.Y:=fun(x,z)=>decide (x=z)
noncomputable def cX.G:dV:=eY (P:=Tryz.prog) [ez.sg]
noncomputable def cX.an:eJ:= {}
noncomputable def cX.A:= @cK Tryz.prog cX.G cX.an 0 Tryz.f67 _ cX.st
abbrev cX.Ok:=cM @cX.A cX.aD cX.add cX.F cX.out
theorem cX.eq{R:Type}(x:gm)(yv:gm)(k:aZ→Option R):cX.A (x,yv) k=
  ae (ez.call (x.1,yv.1)) fun x1=>
  aF (x1) (
   aF ((kR x.2.1 yv.2.1)) (
    aF ((kR x.2.2.1 yv.2.2.1)) (
     k (cX.out (kR x.2.2.2.1 yv.2.2.2.1))) (
     k (cX.out false))) (
    k (cX.out false))) (
   k (cX.out false)):=by kernel_rfl
theorem cX.ok:cX.Ok:=by
 rintro⟨⟨k1,a1,d1,s1,u1⟩,⟨k2,a2,d2,s2,u2⟩⟩ h
 have h:k1.length≤1000000000:=h
 rw[cX.eq,ez.run (d:=(k1,k2)) h]
 simp only[aa,ez.add,ez.F,cX.add,cX.F]
 by_cases e1:k1=k2
 ·by_cases e2:a1=a2
  ·by_cases e3:d1=d2
   ·by_cases e4:s1=s2
    ·rw[aR e1,dq e2,dq e3,dq e4,aR (by rw[e1,e2,e3,e4])];rfl
    ·rw[aR e1,dq e2,dq e3,eC e4,aO (by rintro⟨⟩;exact e4 rfl)];rfl
   ·rw[aR e1,dq e2,eC e3,aO (by rintro⟨⟩;exact e3 rfl)];rfl
  ·rw[aR e1,eC e2,aO (by rintro⟨⟩;exact e2 rfl)];rfl
 ·rw[aO e1,aO (by rintro⟨⟩;exact e1 rfl)];rfl
noncomputable def cX.E:=Entry.cv [some fo,some fo] cX.st cX.aD cX.add cX.F cX.out
noncomputable def cX.call:cX.D→Option cX.X:=bJ cX.E cX.st
theorem cX.run:bE cX.call cX.aD cX.add cX.F:=cQ (cP [.d fo,.d fo] fun _=>by kernel_rfl)
noncomputable def cX.sg:SG Tryz.prog:=⟨67,aW,cX.E,.fn 0 (by kernel_rfl) cX.ok trivial⟩
def C2(l:Lk):Prop:=l.1.length≤1000000000∧∀b∈l.1,b.1.length≤1000000000
abbrev ch.L0.D:=(List gm)×(List gm)×Int×Int
def ch.L0.st:ch.L0.D→AS:=fun(s2_2,t15,t16,t17)=>⟨([.undef,.d (.slice fo) s2_2,.fn 67 (.nil)]++ba 12 ([.d (.slice fo) t15,.d ti t16,.d ti t17]++ba 14 [])),[],(List.replicate 32 [])⟩
abbrev ch.L0.Y0:=Unit
abbrev ch.L0.X0:=Unit
def ch.L0.bw:ch.L0.X0→Exit×AS:=fun x=>(.ret,⟨(ba 6 ([.d .bool false]++ba 25 [])),[],(List.replicate 32 [])⟩)
abbrev ch.L0.Y1:=Unit
abbrev ch.L0.X1:=Unit
def ch.L0.eO:ch.L0.X1→Exit×AS:=fun x=>(.exit 0,⟨(ba 32 []),[],(List.replicate 32 [])⟩)
abbrev ch.L0.X:=(ch.L0.X0)⊕(ch.L0.X1)
abbrev ch.L0.Y:=(ch.L0.Y0)⊕(ch.L0.Y1)
def ch.L0.out:ch.L0.X→Out (Exit×AS):=fun x=> .br x.isLeft (.get x.getLeft? fun a=> .ok (ch.L0.bw a)) (.get x.getRight? fun b=> .ok (ch.L0.eO b))
def ch.L0.add:ch.L0.D→ch.L0.Y→ch.L0.X:=fun(s2_2,t15,t16,t17) y=>match y with | .inl y=> .inl y | .inr z=> .inr (z)
abbrev ch.D:=(List gm)×(List gm)
def ch.st:ch.D→SA:=fun(s1,s2)=>([.d (.slice fo) s1,.d (.slice fo) s2,.fn 67 (.nil)],[])
abbrev ch.Y:=Bool
abbrev ch.X:=Bool
def ch.out:ch.X→aZ:=fun x=>⟨.d .bool x,[],[]⟩
def ch.add:ch.D→ch.Y→ch.X:=fun(s1,s2) y=>y
def ch.L0.aD:ch.L0.D→Prop:=fun(b,a,m,i)=>(a.length≤1000000000∧∀x∈a,x.1.length≤1000000000)∧a.length=b.length∧m=a.length∧∃k:Nat,k≤a.length∧i=k
def ch.L0.F:ch.L0.D→ch.L0.Y:=fun(b,a,m,i)=>if a.drop i.toNat=b.drop i.toNat then .inr () else .inl ()
def ch.aD:ch.D→Prop:=fun(a,b)=>a.length≤1000000000∧∀x∈a,x.1.length≤1000000000
def ch.F:ch.D→ch.Y:=fun(a,b)=>decide (a=b)
noncomputable def ch.G:dV:=eY (P:=Tryz.prog) [cX.sg]
noncomputable def ch.L0.E:=bP.cv ch.L0.st ch.L0.aD ch.L0.add ch.L0.F ch.L0.out
noncomputable def ch.L0.call:ch.L0.D→Option ch.L0.X:=dk ch.L0.E ch.L0.st
noncomputable def ch.an:eJ:= {loops:=jJ [(4,{bn:=[1,2,15,16,17]})],outs:=jI [(4,{},{bn:=[6]})],fJ:=kz [(4,ch.L0.E)]}
noncomputable def ch.A:= @cK Tryz.prog ch.G ch.an 0 Tryz.f66 _ ch.st
abbrev ch.Ok:=cM @ch.A ch.aD ch.add ch.F ch.out
noncomputable def ch.L0.R:= @bV Tryz.prog ch.G ch.an 0 Tryz.f66 0 _ ch.L0.st
abbrev ch.L0.Ok:=eA Tryz.prog ch.G ch.an 0 Tryz.f66 0 ch.L0.st ch.L0.aD ch.L0.add ch.L0.F ch.L0.out
theorem ch.L0.run:bE ch.L0.call ch.L0.aD ch.L0.add ch.L0.F:=eK (eI [.d (.slice fo),.d (.slice fo),.d ti,.d ti] fun _=>by kernel_rfl)
theorem ch.L0.aG:iO @ch.L0.R ch.L0.st ch.L0.aD ch.L0.add ch.L0.F ch.L0.out ch.L0.Ok:=jk
theorem ch.L0.step{R:Type}(s2_2:(List gm))(t15:(List gm))(t16:Int)(t17:Int)(kn:AS→Option R)(kx:Exit→AS→Option R):ch.L0.R (s2_2,t15,t16,t17) kn kx=
  aF ((gb t17 t16)) (
   aF (dS t17 (((List.length t15):Nat):Int)) (
   aF (dS t17 (((List.length s2_2):Nat):Int)) (
   ae (cX.call ((nth fo t15 (Int.toNat t17)),(nth fo s2_2 (Int.toNat t17)))) fun x1=>
   aF ((!x1)) (
    kx (ch.L0.bw ()).1 (ch.L0.bw ()).2) (
    kn (ch.L0.st (s2_2,t15,t16,(bO .i64 t17 (1:Int)))))) none) none) (
   kx (ch.L0.eO ()).1 (ch.L0.eO ()).2):=by kernel_rfl
theorem ch.eq{R:Type}(s1:(List gm))(s2:(List gm))(k:aZ→Option R):ch.A (s1,s2) k=
  aF ((gM (((List.length s1):Nat):Int) (((List.length s2):Nat):Int))) (
   k (ch.out false)) (
   ae (ch.L0.call (s2,s1,(((List.length s1):Nat):Int),(0:Int))) fun x2=>
   aF (x2.isLeft) (
    ae (x2.getLeft?) fun a3=>
    k (ch.out false)) (
    ae (x2.getRight?) fun b4=>
    k (ch.out true))):=by kernel_rfl
theorem ch.L0.ok:ch.L0.Ok:=by
 refine ch.L0.aG (fun(b,a,m,i)=>a.length - i.toNat) ?_
 rintro⟨b,a,m,i⟩ ⟨⟨hl,he⟩,hab,rfl,k,hk,rfl⟩
 have hl:a.length≤1000000000:=hl
 have hab:a.length=b.length:=hab
 have hk:k≤a.length:=hk
 by_cases h:k < a.length
 ·have h2:k < b.length:=by omega
  have n1:nth (.pair (.slice (.int .u64)) (.pair (.int .i64) (.pair (.int .i64) (.pair (.int .u64) .unit)))) a k=a[k]:=bZ (t:=(.pair (.slice (.int .u64)) (.pair (.int .i64) (.pair (.int .i64) (.pair (.int .u64) .unit))))) h
  have n2:nth (.pair (.slice (.int .u64)) (.pair (.int .i64) (.pair (.int .i64) (.pair (.int .u64) .unit)))) b k=b[k]:=bZ (t:=(.pair (.slice (.int .u64)) (.pair (.int .i64) (.pair (.int .i64) (.pair (.int .u64) .unit))))) h2
  have hd:(a.drop k=b.drop k)=(a[k]=b[k]∧a.drop (k+1)=b.drop (k+1)):=by rw[List.drop_eq_getElem_cons h,List.drop_eq_getElem_cons h2,List.cons.injEq]
  have step:∀ {R:Type} (kn:AS→Option R) (kx:Exit→AS→Option R),ch.L0.R (b,a,(a.length:Int),(k:Int)) kn kx=if a[k]=b[k] then kn (ch.L0.st (b,a,(a.length:Int),((k+1:Nat):Int))) else kx (ch.L0.bw ()).1 (ch.L0.bw ()).2:=by
   intro R kn kx
   rw[ch.L0.step,bA (by omega),bh (by omega) (by omega),bh (by omega) (by omega),Int.toNat_natCast,n1,n2,N.kr (by omega),cX.run (d:=(a[k],b[k])) (he _ (List.getElem_mem h))]
   simp only[ay,aa,cX.add,cX.F]
   by_cases hx:a[k]=b[k]
   ·rw[aR hx,if_pos hx];rfl
   ·rw[aO hx,if_neg hx];rfl
  by_cases hx:a[k]=b[k]
  ·left
   refine⟨(b,a,(a.length:Int),((k+1:Nat):Int)),⟨⟨hl,he⟩,hab,rfl,k+1,by omega,rfl⟩,by simp only[Int.toNat_natCast];omega,?_,fun kn kx=> ?_⟩
   ·simp only[ch.L0.add,ch.L0.F,Int.toNat_natCast,hd,hx,true_and]
   ·rw[step,if_pos hx]
  ·right
   refine⟨ch.L0.bw (),?_,fun kn kx=> ?_⟩
   ·simp only[ch.L0.add,ch.L0.F,Int.toNat_natCast,hd,hx,false_and,if_false]
    rfl
   ·rw[step,if_neg hx]
 ·right
  obtain rfl:k=a.length:=by omega
  refine⟨ch.L0.eO (),?_,fun kn kx=> ?_⟩
  ·simp only[ch.L0.add,ch.L0.F,Int.toNat_natCast,List.drop_length]
   rw[hab,List.drop_length,if_pos rfl]
   rfl
  ·rw[ch.L0.step,bm (by omega),ao]
theorem ch.ok:ch.Ok:=by
 rintro⟨a,b⟩ hl
 have hl1:a.length≤1000000000:=hl.1
 rw[ch.eq]
 simp only[ch.add,ch.F]
 by_cases h:a.length=b.length
 ·rw[bM (by omega),ao,ch.L0.run (d:=(b,a,(a.length:Int),0)) ⟨hl,h,rfl,0,Nat.zero_le _,rfl⟩]
  simp only[aa,ch.L0.add,ch.L0.F,Int.toNat_zero,List.drop_zero]
  by_cases hx:a=b
  ·rw[if_pos hx,aR hx];rfl
  ·rw[if_neg hx,aO hx];rfl
 ·rw[dA (by omega),aO (fun x=>h (by rw[x]))];rfl
noncomputable def ch.E:=Entry.cv [some (.slice fo),some (.slice fo),none] ch.st ch.aD ch.add ch.F ch.out
noncomputable def ch.call:ch.D→Option ch.X:=bJ ch.E ch.st
theorem ch.run:bE ch.call ch.aD ch.add ch.F:=cQ (cP [.d (.slice fo),.d (.slice fo)] fun _=>by kernel_rfl)
noncomputable def ch.sg:SG Tryz.prog:=⟨66,aW,ch.E,.fn 1 (by kernel_rfl) ch.ok (And.intro (.cv ch.L0.ok (by kernel_rfl)) trivial)⟩
abbrev eH.D:=Lk×Lk
def eH.st:eH.D→SA:=fun(a,b)=>([.d kq a,.d kq b],[])
abbrev eH.Y:=Bool
abbrev eH.X:=Bool
def eH.out:eH.X→aZ:=fun x=>⟨.d .bool x,[],[]⟩
def eH.add:eH.D→eH.Y→eH.X:=fun(a,b) y=>y
def eH.aD:eH.D→Prop:=fun(a,b)=>C2 a
def eH.F:eH.D→eH.Y:=fun(a,b)=>decide (a.1=b.1)
noncomputable def eH.G:dV:=eY (P:=Tryz.prog) [ch.sg]
noncomputable def eH.an:eJ:= {}
noncomputable def eH.A:= @cK Tryz.prog eH.G eH.an 0 Tryz.f15 _ eH.st
abbrev eH.Ok:=cM @eH.A eH.aD eH.add eH.F eH.out
theorem eH.eq{R:Type}(a:Lk)(b:Lk)(k:aZ→Option R):eH.A (a,b) k=
 ae (ch.call (a.1,b.1)) fun x1=>
 k (eH.out x1):=by kernel_rfl
theorem eH.ok:eH.Ok:=by
 rintro⟨a,b⟩ h
 rw[eH.eq,ch.run (d:=(a.1,b.1)) h]
 rfl
noncomputable def eH.E:=Entry.cv [some kq,some kq] eH.st eH.aD eH.add eH.F eH.out
noncomputable def eH.call:eH.D→Option eH.X:=bJ eH.E eH.st
theorem eH.run:bE eH.call eH.aD eH.add eH.F:=cQ (cP [.d kq,.d kq] fun _=>by kernel_rfl)
noncomputable def eH.sg:SG Tryz.prog:=⟨15,aW,eH.E,.fn 0 (by kernel_rfl) eH.ok trivial⟩
set_option synthInstance.maxSize 5000
theorem pv{α:Type}{f:α→α→Bool}(hf:∀x,f x x=true):∀l:List α,g9 f l l=true
 |[]=>rfl
 |x::l=>by rw[nE,hf,pv hf l];rfl
theorem nh:∀(t:Ty) (x:t.den),t.comp=true→t.beq x x=true
 | .int _,x,_=>by simp[Ty.beq]
 | .bool,x,_=>by simp[Ty.beq]
 | .str,x,_=>by simp[Ty.beq]
 | .unit,_,_=>rfl
 | .pair a b,x,h=>by
  simp only[Ty.comp,Bool.and_eq_true]at h
  simp only[Ty.beq,nh a x.1 h.1,nh b x.2 h.2,Bool.and_self]
 | .arr _ t,l,h=>pv (fun x=>nh t x h) l
 | .slice _,_,h=>by cases h
 | .fq _,_,h=>by cases h
theorem yG(t:Ty)(hc:t.comp=true)(x y:t.den) [Decidable (x=y)]:t.beq x y=decide (x=y):=by
 by_cases h:x=y
 ·subst h;rw[aR rfl,nh t x hc]
 ·rw[aO h]
  cases hb:t.beq x y
  ·rfl
  ·exact absurd (beq_eq t x y hc hb) h
theorem AF(x y:Sg):Ty.beq jc x y=decide (x=y):= @yG jc rfl x y (inferInstanceAs (Decidable (x=y)))
theorem pZ(x y:jB):Ty.beq iC x y=decide (x=y):= @yG iC rfl x y (inferInstanceAs (Decidable (x=y)))
abbrev cd.L0.D:=(List Sg)×(List Sg)×Int×Int
def cd.L0.st:cd.L0.D→AS:=fun(s1_2,s2_2,t12,t13)=>⟨([.d (.slice jc) s1_2,.d (.slice jc) s2_2]++ba 10 ([.d ti t12,.d ti t13]++ba 12 [])),[],(List.replicate 26 [])⟩
abbrev cd.L0.Y0:=Unit
abbrev cd.L0.X0:=Unit
def cd.L0.bw:cd.L0.X0→Exit×AS:=fun x=>(.ret,⟨(ba 4 ([.d .bool false]++ba 21 [])),[],(List.replicate 26 [])⟩)
abbrev cd.L0.Y1:=Unit
abbrev cd.L0.X1:=Unit
def cd.L0.eO:cd.L0.X1→Exit×AS:=fun x=>(.exit 0,⟨(ba 26 []),[],(List.replicate 26 [])⟩)
abbrev cd.L0.X:=(cd.L0.X0)⊕(cd.L0.X1)
abbrev cd.L0.Y:=(cd.L0.Y0)⊕(cd.L0.Y1)
def cd.L0.out:cd.L0.X→Out (Exit×AS):=fun x=> .br x.isLeft (.get x.getLeft? fun a=> .ok (cd.L0.bw a)) (.get x.getRight? fun b=> .ok (cd.L0.eO b))
def cd.L0.add:cd.L0.D→cd.L0.Y→cd.L0.X:=fun(s1_2,s2_2,t12,t13) y=>match y with | .inl y=> .inl y | .inr z=> .inr (z)
abbrev cd.D:=(List Sg)×(List Sg)
def cd.st:cd.D→SA:=fun(s1,s2)=>([.d (.slice jc) s1,.d (.slice jc) s2],[])
abbrev cd.Y:=Bool
abbrev cd.X:=Bool
def cd.out:cd.X→aZ:=fun x=>⟨.d .bool x,[],[]⟩
def cd.add:cd.D→cd.Y→cd.X:=fun(s1,s2) y=>y
def cd.L0.aD:cd.L0.D→Prop:=fun(a,b,m,i)=>a.length≤1000000000∧a.length=b.length∧m=a.length∧∃k:Nat,k≤a.length∧i=k
def cd.L0.F:cd.L0.D→cd.L0.Y:=fun(a,b,m,i)=>if a.drop i.toNat=b.drop i.toNat then .inr () else .inl ()
def cd.aD:cd.D→Prop:=fun(a,b)=>a.length≤1000000000
def cd.F:cd.D→cd.Y:=fun(a,b)=>decide (a=b)
noncomputable def cd.G:dV:=eY (P:=Tryz.prog) []
noncomputable def cd.L0.E:=bP.cv cd.L0.st cd.L0.aD cd.L0.add cd.L0.F cd.L0.out
noncomputable def cd.L0.call:cd.L0.D→Option cd.L0.X:=dk cd.L0.E cd.L0.st
noncomputable def cd.an:eJ:= {loops:=jJ [(4,{bn:=[0,1,12,13]})],outs:=jI [(4,{},{bn:=[4]})],fJ:=kz [(4,cd.L0.E)]}
noncomputable def cd.A:= @cK Tryz.prog cd.G cd.an 0 Tryz.f100 _ cd.st
abbrev cd.Ok:=cM @cd.A cd.aD cd.add cd.F cd.out
noncomputable def cd.L0.R:= @bV Tryz.prog cd.G cd.an 0 Tryz.f100 0 _ cd.L0.st
abbrev cd.L0.Ok:=eA Tryz.prog cd.G cd.an 0 Tryz.f100 0 cd.L0.st cd.L0.aD cd.L0.add cd.L0.F cd.L0.out
theorem cd.L0.run:bE cd.L0.call cd.L0.aD cd.L0.add cd.L0.F:=eK (eI [.d (.slice jc),.d (.slice jc),.d ti,.d ti] fun _=>by kernel_rfl)
theorem cd.L0.aG:iO @cd.L0.R cd.L0.st cd.L0.aD cd.L0.add cd.L0.F cd.L0.out cd.L0.Ok:=jk
theorem cd.L0.step{R:Type}(s1_2:(List Sg))(s2_2:(List Sg))(t12:Int)(t13:Int)(kn:AS→Option R)(kx:Exit→AS→Option R):cd.L0.R (s1_2,s2_2,t12,t13) kn kx=
  aF ((gb t13 t12)) (
   aF (dS t13 (((List.length s1_2):Nat):Int)) (
   aF (dS t13 (((List.length s2_2):Nat):Int)) (
   aF ((!(Ty.beq jc (nth jc s1_2 (Int.toNat t13)) (nth jc s2_2 (Int.toNat t13))))) (
    kx (cd.L0.bw ()).1 (cd.L0.bw ()).2) (
    kn (cd.L0.st (s1_2,s2_2,t12,(bO .i64 t13 (1:Int)))))) none) none) (
   kx (cd.L0.eO ()).1 (cd.L0.eO ()).2):=by kernel_rfl
theorem cd.eq{R:Type}(s1:(List Sg))(s2:(List Sg))(k:aZ→Option R):cd.A (s1,s2) k=
  aF ((gM (((List.length s1):Nat):Int) (((List.length s2):Nat):Int))) (
   k (cd.out false)) (
   ae (cd.L0.call (s1,s2,(((List.length s1):Nat):Int),(0:Int))) fun x1=>
   aF (x1.isLeft) (
    ae (x1.getLeft?) fun a2=>
    k (cd.out false)) (
    ae (x1.getRight?) fun b3=>
    k (cd.out true))):=by kernel_rfl
theorem cd.L0.ok:cd.L0.Ok:=by
 refine cd.L0.aG (fun(a,b,m,i)=>a.length - i.toNat) ?_
 rintro⟨a,b,m,i⟩ ⟨hl,hab,rfl,k,hk,rfl⟩
 have hl:a.length≤1000000000:=hl
 have hab:a.length=b.length:=hab
 have hk:k≤a.length:=hk
 by_cases h:k < a.length
 ·have h2:k < b.length:=by omega
  have n1:nth jc a k=a[k]:=bZ (t:=jc) h
  have n2:nth jc b k=b[k]:=bZ (t:=jc) h2
  have hd:(a.drop k=b.drop k)=(a[k]=b[k]∧a.drop (k+1)=b.drop (k+1)):=by rw[List.drop_eq_getElem_cons h,List.drop_eq_getElem_cons h2,List.cons.injEq]
  have step:∀ {R:Type} (kn:AS→Option R) (kx:Exit→AS→Option R),cd.L0.R (a,b,(a.length:Int),(k:Int)) kn kx=if a[k]=b[k] then kn (cd.L0.st (a,b,(a.length:Int),((k+1:Nat):Int))) else kx (cd.L0.bw ()).1 (cd.L0.bw ()).2:=by
   intro R kn kx
   rw[cd.L0.step,bA (by omega),bh (by omega) (by omega),bh (by omega) (by omega),Int.toNat_natCast,n1,n2,N.kr (by omega)]
   simp only[ay]
   rw[AF]
   by_cases hx:a[k]=b[k]
   ·rw[aR hx,if_pos hx];rfl
   ·rw[aO hx,if_neg hx];rfl
  by_cases hx:a[k]=b[k]
  ·left
   refine⟨(a,b,(a.length:Int),((k+1:Nat):Int)),⟨hl,hab,rfl,k+1,by omega,rfl⟩,by simp only[Int.toNat_natCast];omega,?_,fun kn kx=> ?_⟩
   ·simp only[cd.L0.add,cd.L0.F,Int.toNat_natCast,hd,hx,true_and]
   ·rw[step,if_pos hx]
  ·right
   refine⟨cd.L0.bw (),?_,fun kn kx=> ?_⟩
   ·simp only[cd.L0.add,cd.L0.F,Int.toNat_natCast,hd,hx,false_and,if_false]
    rfl
   ·rw[step,if_neg hx]
 ·right
  obtain rfl:k=a.length:=by omega
  refine⟨cd.L0.eO (),?_,fun kn kx=> ?_⟩
  ·simp only[cd.L0.add,cd.L0.F,Int.toNat_natCast,List.drop_length]
   rw[hab,List.drop_length,if_pos rfl]
   rfl
  ·rw[cd.L0.step,bm (by omega),ao]
theorem cd.ok:cd.Ok:=by
 rintro⟨a,b⟩ hl
 have hl:a.length≤1000000000:=hl
 rw[cd.eq]
 simp only[cd.add,cd.F]
 by_cases h:a.length=b.length
 ·rw[bM (by omega),ao,cd.L0.run (d:=(a,b,(a.length:Int),0)) ⟨hl,h,rfl,0,Nat.zero_le _,rfl⟩]
  simp only[aa,cd.L0.add,cd.L0.F,Int.toNat_zero,List.drop_zero]
  by_cases hx:a=b
  ·rw[if_pos hx,aR hx];rfl
  ·rw[if_neg hx,aO hx];rfl
 ·rw[dA (by omega),aO (fun x=>h (by rw[x]))];rfl
noncomputable def cd.E:=Entry.cv [some (.slice jc),some (.slice jc)] cd.st cd.aD cd.add cd.F cd.out
noncomputable def cd.call:cd.D→Option cd.X:=bJ cd.E cd.st
theorem cd.run:bE cd.call cd.aD cd.add cd.F:=cQ (cP [.d (.slice jc),.d (.slice jc)] fun _=>by kernel_rfl)
noncomputable def cd.sg:SG Tryz.prog:=⟨100,aW,cd.E,.fn 1 (by kernel_rfl) cd.ok (And.intro (.cv cd.L0.ok (by kernel_rfl)) trivial)⟩
abbrev cZ.D:=eR×eR
def cZ.st:cZ.D→SA:=fun(x,yv)=>([.d cH x,.d cH yv],[])
abbrev cZ.Y:=Bool
abbrev cZ.X:=Bool
def cZ.out:cZ.X→aZ:=fun x=>⟨.d .bool x,[],[]⟩
def cZ.add:cZ.D→cZ.Y→cZ.X:=fun(x,yv) y=>y
def cZ.aD:cZ.D→Prop:=fun(x,y)=>x.2.1.2.1.length≤1000000000
def cZ.F:cZ.D→cZ.Y:=fun(x,y)=>decide (x=y)
noncomputable def cZ.G:dV:=eY (P:=Tryz.prog) [cd.sg]
noncomputable def cZ.an:eJ:= {}
noncomputable def cZ.A:= @cK Tryz.prog cZ.G cZ.an 0 Tryz.f99 _ cZ.st
abbrev cZ.Ok:=cM @cZ.A cZ.aD cZ.add cZ.F cZ.out
theorem cZ.eq{R:Type}(x:eR)(yv:eR)(k:aZ→Option R):cZ.A (x,yv) k=
  aF ((Ty.beq iC x.1 yv.1)) (
   aF ((kR x.2.1.1 yv.2.1.1)) (
    aF ((kR x.2.1.2.2.1 yv.2.1.2.2.1)) (
     ae (cd.call (x.2.1.2.1,yv.2.1.2.1)) fun x1=>
     k (cZ.out x1)) (
     k (cZ.out false))) (
    k (cZ.out false))) (
   k (cZ.out false)):=by kernel_rfl
theorem cZ.ok:cZ.Ok:=by
 rintro⟨⟨f1,⟨b1,s1,c1,u1⟩,v1⟩,⟨f2,⟨b2,s2,c2,u2⟩,v2⟩⟩ h
 have h:s1.length≤1000000000:=h
 rw[cZ.eq,cd.run (d:=(s1,s2)) h,pZ]
 simp only[aa,cd.add,cd.F,cZ.add,cZ.F]
 by_cases e1:f1=f2
 ·by_cases e2:b1=b2
  ·by_cases e3:c1=c2
   ·by_cases e4:s1=s2
    ·rw[aR e1,dq e2,dq e3,aR e4,aR (by rw[e1,e2,e3,e4])];rfl
    ·rw[aR e1,dq e2,dq e3,aO e4,aO (by rintro⟨⟩;exact e4 rfl)];rfl
   ·rw[aR e1,dq e2,eC e3,aO (p:=(f1,(b1,s1,c1,u1),v1)=(f2,(b2,s2,c2,u2),v2)) (by rintro⟨⟩;exact e3 rfl)];rfl
  ·rw[aR e1,eC e2,aO (p:=(f1,(b1,s1,c1,u1),v1)=(f2,(b2,s2,c2,u2),v2)) (by rintro⟨⟩;exact e2 rfl)];rfl
 ·rw[aO e1,aO (p:=(f1,(b1,s1,c1,u1),v1)=(f2,(b2,s2,c2,u2),v2)) (by rintro⟨⟩;exact e1 rfl)];rfl
noncomputable def cZ.E:=Entry.cv [some cH,some cH] cZ.st cZ.aD cZ.add cZ.F cZ.out
noncomputable def cZ.call:cZ.D→Option cZ.X:=bJ cZ.E cZ.st
theorem cZ.run:bE cZ.call cZ.aD cZ.add cZ.F:=cQ (cP [.d cH,.d cH] fun _=>by kernel_rfl)
noncomputable def cZ.sg:SG Tryz.prog:=⟨99,aW,cZ.E,.fn 0 (by kernel_rfl) cZ.ok trivial⟩
abbrev c9.D:=gm×gm
def c9.st:c9.D→SA:=fun(x,yv)=>([.d fo x,.d fo yv],[])
abbrev c9.Y:=Bool
abbrev c9.X:=Bool
def c9.out:c9.X→aZ:=fun x=>⟨.d .bool x,[],[]⟩
def c9.add:c9.D→c9.Y→c9.X:=fun(x,yv) y=>y
def c9.aD:c9.D→Prop:=fun(x,z)=>x.1.length≤1000000000
def c9.F:c9.D→c9.Y:=fun(x,z)=>decide (x=z)
noncomputable def c9.G:dV:=eY (P:=Tryz.prog) [ez.sg]
noncomputable def c9.an:eJ:= {}
noncomputable def c9.A:= @cK Tryz.prog c9.G c9.an 0 Tryz.f101 _ c9.st
abbrev c9.Ok:=cM @c9.A c9.aD c9.add c9.F c9.out
theorem c9.eq{R:Type}(x:gm)(yv:gm)(k:aZ→Option R):c9.A (x,yv) k=
  aF ((kR x.2.1 yv.2.1)) (
   aF ((kR x.2.2.1 yv.2.2.1)) (
    aF ((kR x.2.2.2.1 yv.2.2.2.1)) (
     ae (ez.call (x.1,yv.1)) fun x1=>
     k (c9.out x1)) (
     k (c9.out false))) (
    k (c9.out false))) (
   k (c9.out false)):=by kernel_rfl
theorem c9.ok:c9.Ok:=by
 rintro⟨⟨k1,a1,d1,s1,u1⟩,⟨k2,a2,d2,s2,u2⟩⟩ h
 have h:k1.length≤1000000000:=h
 rw[c9.eq,ez.run (d:=(k1,k2)) h]
 simp only[aa,ez.add,ez.F,c9.add,c9.F]
 by_cases e1:k1=k2
 ·by_cases e2:a1=a2
  ·by_cases e3:d1=d2
   ·by_cases e4:s1=s2
    ·rw[aR e1,dq e2,dq e3,dq e4,aR (by rw[e1,e2,e3,e4])];rfl
    ·rw[dq e2,dq e3,eC e4,aO (p:=(k1,a1,d1,s1,u1)=(k2,a2,d2,s2,u2)) (by rintro⟨⟩;exact e4 rfl)];rfl
   ·rw[dq e2,eC e3,aO (p:=(k1,a1,d1,s1,u1)=(k2,a2,d2,s2,u2)) (by rintro⟨⟩;exact e3 rfl)];rfl
  ·rw[eC e2,aO (p:=(k1,a1,d1,s1,u1)=(k2,a2,d2,s2,u2)) (by rintro⟨⟩;exact e2 rfl)];rfl
 ·rw[aO e1,aO (p:=(k1,a1,d1,s1,u1)=(k2,a2,d2,s2,u2)) (by rintro⟨⟩;exact e1 rfl)]
  cases kR a1 a2 <;> cases kR d1 d2 <;> cases kR s1 s2 <;> rfl
noncomputable def c9.E:=Entry.cv [some fo,some fo] c9.st c9.aD c9.add c9.F c9.out
noncomputable def c9.call:c9.D→Option c9.X:=bJ c9.E c9.st
theorem c9.run:bE c9.call c9.aD c9.add c9.F:=cQ (cP [.d fo,.d fo] fun _=>by kernel_rfl)
noncomputable def c9.sg:SG Tryz.prog:=⟨101,aW,c9.E,.fn 0 (by kernel_rfl) c9.ok trivial⟩
abbrev bt.L0.D:=(List gm)×(List gm)×Int×Int
def bt.L0.st:bt.L0.D→AS:=fun(s2_2,t15,t16,t17)=>⟨([.undef,.d (.slice fo) s2_2,.fn 101 (.nil)]++ba 12 ([.d (.slice fo) t15,.d ti t16,.d ti t17]++ba 14 [])),[],(List.replicate 32 [])⟩
abbrev bt.L0.Y0:=Unit
abbrev bt.L0.X0:=Unit
def bt.L0.bw:bt.L0.X0→Exit×AS:=fun x=>(.ret,⟨(ba 6 ([.d .bool false]++ba 25 [])),[],(List.replicate 32 [])⟩)
abbrev bt.L0.Y1:=Unit
abbrev bt.L0.X1:=Unit
def bt.L0.eO:bt.L0.X1→Exit×AS:=fun x=>(.exit 0,⟨(ba 32 []),[],(List.replicate 32 [])⟩)
abbrev bt.L0.X:=(bt.L0.X0)⊕(bt.L0.X1)
abbrev bt.L0.Y:=(bt.L0.Y0)⊕(bt.L0.Y1)
def bt.L0.out:bt.L0.X→Out (Exit×AS):=fun x=> .br x.isLeft (.get x.getLeft? fun a=> .ok (bt.L0.bw a)) (.get x.getRight? fun b=> .ok (bt.L0.eO b))
def bt.L0.add:bt.L0.D→bt.L0.Y→bt.L0.X:=fun(s2_2,t15,t16,t17) y=>match y with | .inl y=> .inl y | .inr z=> .inr (z)
abbrev bt.D:=(List gm)×(List gm)
def bt.st:bt.D→SA:=fun(s1,s2)=>([.d (.slice fo) s1,.d (.slice fo) s2,.fn 101 (.nil)],[])
abbrev bt.Y:=Bool
abbrev bt.X:=Bool
def bt.out:bt.X→aZ:=fun x=>⟨.d .bool x,[],[]⟩
def bt.add:bt.D→bt.Y→bt.X:=fun(s1,s2) y=>y
def bt.L0.aD:bt.L0.D→Prop:=fun(b,a,m,i)=>(a.length≤1000000000∧∀x∈a,x.1.length≤1000000000)∧a.length=b.length∧m=a.length∧∃k:Nat,k≤a.length∧i=k
def bt.L0.F:bt.L0.D→bt.L0.Y:=fun(b,a,m,i)=>if a.drop i.toNat=b.drop i.toNat then .inr () else .inl ()
def bt.aD:bt.D→Prop:=fun(a,b)=>a.length≤1000000000∧∀x∈a,x.1.length≤1000000000
def bt.F:bt.D→bt.Y:=fun(a,b)=>decide (a=b)
noncomputable def bt.G:dV:=eY (P:=Tryz.prog) [c9.sg]
noncomputable def bt.L0.E:=bP.cv bt.L0.st bt.L0.aD bt.L0.add bt.L0.F bt.L0.out
noncomputable def bt.L0.call:bt.L0.D→Option bt.L0.X:=dk bt.L0.E bt.L0.st
noncomputable def bt.an:eJ:= {loops:=jJ [(4,{bn:=[1,2,15,16,17]})],outs:=jI [(4,{},{bn:=[6]})],fJ:=kz [(4,bt.L0.E)]}
noncomputable def bt.A:= @cK Tryz.prog bt.G bt.an 0 Tryz.f66 _ bt.st
abbrev bt.Ok:=cM @bt.A bt.aD bt.add bt.F bt.out
noncomputable def bt.L0.R:= @bV Tryz.prog bt.G bt.an 0 Tryz.f66 0 _ bt.L0.st
abbrev bt.L0.Ok:=eA Tryz.prog bt.G bt.an 0 Tryz.f66 0 bt.L0.st bt.L0.aD bt.L0.add bt.L0.F bt.L0.out
theorem bt.L0.run:bE bt.L0.call bt.L0.aD bt.L0.add bt.L0.F:=eK (eI [.d (.slice fo),.d (.slice fo),.d ti,.d ti] fun _=>by kernel_rfl)
theorem bt.L0.aG:iO @bt.L0.R bt.L0.st bt.L0.aD bt.L0.add bt.L0.F bt.L0.out bt.L0.Ok:=jk
theorem bt.L0.step{R:Type}(s2_2:(List gm))(t15:(List gm))(t16:Int)(t17:Int)(kn:AS→Option R)(kx:Exit→AS→Option R):bt.L0.R (s2_2,t15,t16,t17) kn kx=
  aF ((gb t17 t16)) (
   aF (dS t17 (((List.length t15):Nat):Int)) (
   aF (dS t17 (((List.length s2_2):Nat):Int)) (
   ae (c9.call ((nth fo t15 (Int.toNat t17)),(nth fo s2_2 (Int.toNat t17)))) fun x1=>
   aF ((!x1)) (
    kx (bt.L0.bw ()).1 (bt.L0.bw ()).2) (
    kn (bt.L0.st (s2_2,t15,t16,(bO .i64 t17 (1:Int)))))) none) none) (
   kx (bt.L0.eO ()).1 (bt.L0.eO ()).2):=by kernel_rfl
theorem bt.eq{R:Type}(s1:(List gm))(s2:(List gm))(k:aZ→Option R):bt.A (s1,s2) k=
  aF ((gM (((List.length s1):Nat):Int) (((List.length s2):Nat):Int))) (
   k (bt.out false)) (
   ae (bt.L0.call (s2,s1,(((List.length s1):Nat):Int),(0:Int))) fun x2=>
   aF (x2.isLeft) (
    ae (x2.getLeft?) fun a3=>
    k (bt.out false)) (
    ae (x2.getRight?) fun b4=>
    k (bt.out true))):=by kernel_rfl
theorem bt.L0.ok:bt.L0.Ok:=by
 refine bt.L0.aG (fun(b,a,m,i)=>a.length - i.toNat) ?_
 rintro⟨b,a,m,i⟩ ⟨⟨hl,he⟩,hab,rfl,k,hk,rfl⟩
 have hl:a.length≤1000000000:=hl
 have hab:a.length=b.length:=hab
 have hk:k≤a.length:=hk
 by_cases h:k < a.length
 ·have h2:k < b.length:=by omega
  have n1:nth fo a k=a[k]:=bZ (t:=fo) h
  have n2:nth fo b k=b[k]:=bZ (t:=fo) h2
  have hd:(a.drop k=b.drop k)=(a[k]=b[k]∧a.drop (k+1)=b.drop (k+1)):=by rw[List.drop_eq_getElem_cons h,List.drop_eq_getElem_cons h2,List.cons.injEq]
  have step:∀ {R:Type} (kn:AS→Option R) (kx:Exit→AS→Option R),bt.L0.R (b,a,(a.length:Int),(k:Int)) kn kx=if a[k]=b[k] then kn (bt.L0.st (b,a,(a.length:Int),((k+1:Nat):Int))) else kx (bt.L0.bw ()).1 (bt.L0.bw ()).2:=by
   intro R kn kx
   rw[bt.L0.step,bA (by omega),bh (by omega) (by omega),bh (by omega) (by omega),Int.toNat_natCast,n1,n2,N.kr (by omega),c9.run (d:=(a[k],b[k])) (he _ (List.getElem_mem h))]
   simp only[ay,aa,c9.add,c9.F]
   by_cases hx:a[k]=b[k]
   ·rw[aR hx,if_pos hx];rfl
   ·rw[aO hx,if_neg hx];rfl
  by_cases hx:a[k]=b[k]
  ·left
   refine⟨(b,a,(a.length:Int),((k+1:Nat):Int)),⟨⟨hl,he⟩,hab,rfl,k+1,by omega,rfl⟩,by simp only[Int.toNat_natCast];omega,?_,fun kn kx=> ?_⟩
   ·simp only[bt.L0.add,bt.L0.F,Int.toNat_natCast,hd,hx,true_and]
   ·rw[step,if_pos hx]
  ·right
   refine⟨bt.L0.bw (),?_,fun kn kx=> ?_⟩
   ·simp only[bt.L0.add,bt.L0.F,Int.toNat_natCast,hd,hx,false_and,if_false]
    rfl
   ·rw[step,if_neg hx]
 ·right
  obtain rfl:k=a.length:=by omega
  refine⟨bt.L0.eO (),?_,fun kn kx=> ?_⟩
  ·simp only[bt.L0.add,bt.L0.F,Int.toNat_natCast,List.drop_length]
   rw[hab,List.drop_length,if_pos rfl]
   rfl
  ·rw[bt.L0.step,bm (by omega),ao]
theorem bt.ok:bt.Ok:=by
 rintro⟨a,b⟩ hl
 have hl1:a.length≤1000000000:=hl.1
 rw[bt.eq]
 simp only[bt.add,bt.F]
 by_cases h:a.length=b.length
 ·rw[bM (by omega),ao,bt.L0.run (d:=(b,a,(a.length:Int),0)) ⟨hl,h,rfl,0,Nat.zero_le _,rfl⟩]
  simp only[aa,bt.L0.add,bt.L0.F,Int.toNat_zero,List.drop_zero]
  by_cases hx:a=b
  ·rw[if_pos hx,aR hx];rfl
  ·rw[if_neg hx,aO hx];rfl
 ·rw[dA (by omega),aO (fun x=>h (by rw[x]))];rfl
noncomputable def bt.E:=Entry.cv [some (.slice fo),some (.slice fo),none] bt.st bt.aD bt.add bt.F bt.out
noncomputable def bt.call:bt.D→Option bt.X:=bJ bt.E bt.st
theorem bt.run:bE bt.call bt.aD bt.add bt.F:=cQ (cP [.d (.slice fo),.d (.slice fo)] fun _=>by kernel_rfl)
noncomputable def bt.sg:SG Tryz.prog:=⟨66,aW,bt.E,.fn 1 (by kernel_rfl) bt.ok (And.intro (.cv bt.L0.ok (by kernel_rfl)) trivial)⟩
abbrev dh.D:=fL×fL
def dh.st:dh.D→SA:=fun(x,yv)=>([.d eX x,.d eX yv,.ptr (.fK 0) 0 [] 0],[.obj 0 false (.fn 101 (.nil))])
abbrev dh.Y:=Bool
abbrev dh.X:=Bool
def dh.out:dh.X→aZ:=fun x=>⟨.d .bool x,[.obj 0 false (.fn 101 (.nil))],[]⟩
def dh.add:dh.D→dh.Y→dh.X:=fun(x,yv) y=>y
def dh.aD:dh.D→Prop:=fun(x,y)=>x.2.1.1.length≤1000000000∧∀b∈x.2.1.1,b.1.length≤1000000000
def dh.F:dh.D→dh.Y:=fun(x,y)=>decide (x=y)
noncomputable def dh.G:dV:=eY (P:=Tryz.prog) [bt.sg]
noncomputable def dh.an:eJ:= {}
noncomputable def dh.A:= @cK Tryz.prog dh.G dh.an 0 Tryz.f102 _ dh.st
abbrev dh.Ok:=cM @dh.A dh.aD dh.add dh.F dh.out
theorem dh.eq{R:Type}(x:fL)(yv:fL)(k:aZ→Option R):dh.A (x,yv) k=
  aF ((kR x.1 yv.1)) (
   ae (bt.call (x.2.1.1,yv.2.1.1)) fun x1=>
   k (dh.out x1)) (
   k (dh.out false)):=by kernel_rfl
theorem dh.ok:dh.Ok:=by
 rintro⟨⟨n1,⟨b1,w1⟩,u1⟩,⟨n2,⟨b2,w2⟩,u2⟩⟩ h
 rw[dh.eq,bt.run (d:=(b1,b2)) h]
 simp only[aa,bt.add,bt.F,dh.add,dh.F]
 by_cases e1:n1=n2
 ·by_cases e2:b1=b2
  ·rw[dq e1,aR e2,aR (by rw[e1,e2])];rfl
  ·rw[dq e1,aO e2,aO (by rintro⟨⟩;exact e2 rfl)];rfl
 ·rw[eC e1,aO (p:=(n1,(b1,w1),u1)=(n2,(b2,w2),u2)) (by rintro⟨⟩;exact e1 rfl)];rfl
noncomputable def dh.E:=Entry.cv [some eX,some eX,none] dh.st dh.aD dh.add dh.F dh.out
noncomputable def dh.call:dh.D→Option dh.X:=bJ dh.E dh.st
theorem dh.run:bE dh.call dh.aD dh.add dh.F:=cQ (cP [.d eX,.d eX] fun _=>by kernel_rfl)
noncomputable def dh.sg:SG Tryz.prog:=⟨102,aW,dh.E,.fn 0 (by kernel_rfl) dh.ok trivial⟩
abbrev bY.L0.D:=(List eR)×(List eR)×Int×Int
def bY.L0.st:bY.L0.D→AS:=fun(s2_2,t15,t16,t17)=>⟨([.undef,.d (.slice cH) s2_2,.fn 99 (.nil)]++ba 12 ([.d (.slice cH) t15,.d ti t16,.d ti t17]++ba 14 [])),[],(List.replicate 32 [])⟩
abbrev bY.L0.Y0:=Unit
abbrev bY.L0.X0:=Unit
def bY.L0.bw:bY.L0.X0→Exit×AS:=fun x=>(.ret,⟨(ba 6 ([.d .bool false]++ba 25 [])),[],(List.replicate 32 [])⟩)
abbrev bY.L0.Y1:=Unit
abbrev bY.L0.X1:=Unit
def bY.L0.eO:bY.L0.X1→Exit×AS:=fun x=>(.exit 0,⟨(ba 32 []),[],(List.replicate 32 [])⟩)
abbrev bY.L0.X:=(bY.L0.X0)⊕(bY.L0.X1)
abbrev bY.L0.Y:=(bY.L0.Y0)⊕(bY.L0.Y1)
def bY.L0.out:bY.L0.X→Out (Exit×AS):=fun x=> .br x.isLeft (.get x.getLeft? fun a=> .ok (bY.L0.bw a)) (.get x.getRight? fun b=> .ok (bY.L0.eO b))
def bY.L0.add:bY.L0.D→bY.L0.Y→bY.L0.X:=fun(s2_2,t15,t16,t17) y=>match y with | .inl y=> .inl y | .inr z=> .inr (z)
abbrev bY.D:=(List eR)×(List eR)
def bY.st:bY.D→SA:=fun(s1,s2)=>([.d (.slice cH) s1,.d (.slice cH) s2,.fn 99 (.nil)],[])
abbrev bY.Y:=Bool
abbrev bY.X:=Bool
def bY.out:bY.X→aZ:=fun x=>⟨.d .bool x,[],[]⟩
def bY.add:bY.D→bY.Y→bY.X:=fun(s1,s2) y=>y
def bY.L0.aD:bY.L0.D→Prop:=fun(b,a,m,i)=>(a.length≤1000000000∧∀x∈a,x.2.1.2.1.length≤1000000000)∧a.length=b.length∧m=a.length∧∃k:Nat,k≤a.length∧i=k
def bY.L0.F:bY.L0.D→bY.L0.Y:=fun(b,a,m,i)=>if a.drop i.toNat=b.drop i.toNat then .inr () else .inl ()
def bY.aD:bY.D→Prop:=fun(a,b)=>a.length≤1000000000∧∀x∈a,x.2.1.2.1.length≤1000000000
def bY.F:bY.D→bY.Y:=fun(a,b)=>decide (a=b)
noncomputable def bY.G:dV:=eY (P:=Tryz.prog) [cZ.sg]
noncomputable def bY.L0.E:=bP.cv bY.L0.st bY.L0.aD bY.L0.add bY.L0.F bY.L0.out
noncomputable def bY.L0.call:bY.L0.D→Option bY.L0.X:=dk bY.L0.E bY.L0.st
noncomputable def bY.an:eJ:= {loops:=jJ [(4,{bn:=[1,2,15,16,17]})],outs:=jI [(4,{},{bn:=[6]})],fJ:=kz [(4,bY.L0.E)]}
noncomputable def bY.A:= @cK Tryz.prog bY.G bY.an 0 Tryz.f103 _ bY.st
abbrev bY.Ok:=cM @bY.A bY.aD bY.add bY.F bY.out
noncomputable def bY.L0.R:= @bV Tryz.prog bY.G bY.an 0 Tryz.f103 0 _ bY.L0.st
abbrev bY.L0.Ok:=eA Tryz.prog bY.G bY.an 0 Tryz.f103 0 bY.L0.st bY.L0.aD bY.L0.add bY.L0.F bY.L0.out
theorem bY.L0.run:bE bY.L0.call bY.L0.aD bY.L0.add bY.L0.F:=eK (eI [.d (.slice cH),.d (.slice cH),.d ti,.d ti] fun _=>by kernel_rfl)
theorem bY.L0.aG:iO @bY.L0.R bY.L0.st bY.L0.aD bY.L0.add bY.L0.F bY.L0.out bY.L0.Ok:=jk
theorem bY.L0.step{R:Type}(s2_2:(List eR))(t15:(List eR))(t16:Int)(t17:Int)(kn:AS→Option R)(kx:Exit→AS→Option R):bY.L0.R (s2_2,t15,t16,t17) kn kx=
  aF ((gb t17 t16)) (
   aF (dS t17 (((List.length t15):Nat):Int)) (
   aF (dS t17 (((List.length s2_2):Nat):Int)) (
   ae (cZ.call ((nth cH t15 (Int.toNat t17)),(nth cH s2_2 (Int.toNat t17)))) fun x1=>
   aF ((!x1)) (
    kx (bY.L0.bw ()).1 (bY.L0.bw ()).2) (
    kn (bY.L0.st (s2_2,t15,t16,(bO .i64 t17 (1:Int)))))) none) none) (
   kx (bY.L0.eO ()).1 (bY.L0.eO ()).2):=by kernel_rfl
theorem bY.eq{R:Type}(s1:(List eR))(s2:(List eR))(k:aZ→Option R):bY.A (s1,s2) k=
  aF ((gM (((List.length s1):Nat):Int) (((List.length s2):Nat):Int))) (
   k (bY.out false)) (
   ae (bY.L0.call (s2,s1,(((List.length s1):Nat):Int),(0:Int))) fun x2=>
   aF (x2.isLeft) (
    ae (x2.getLeft?) fun a3=>
    k (bY.out false)) (
    ae (x2.getRight?) fun b4=>
    k (bY.out true))):=by kernel_rfl
theorem bY.L0.ok:bY.L0.Ok:=by
 refine bY.L0.aG (fun(b,a,m,i)=>a.length - i.toNat) ?_
 rintro⟨b,a,m,i⟩ ⟨⟨hl,he⟩,hab,rfl,k,hk,rfl⟩
 have hl:a.length≤1000000000:=hl
 have hab:a.length=b.length:=hab
 have hk:k≤a.length:=hk
 by_cases h:k < a.length
 ·have h2:k < b.length:=by omega
  have n1:nth cH a k=a[k]:=bZ (t:=cH) h
  have n2:nth cH b k=b[k]:=bZ (t:=cH) h2
  have hd:(a.drop k=b.drop k)=(a[k]=b[k]∧a.drop (k+1)=b.drop (k+1)):=by rw[List.drop_eq_getElem_cons h,List.drop_eq_getElem_cons h2,List.cons.injEq]
  have step:∀ {R:Type} (kn:AS→Option R) (kx:Exit→AS→Option R),bY.L0.R (b,a,(a.length:Int),(k:Int)) kn kx=if a[k]=b[k] then kn (bY.L0.st (b,a,(a.length:Int),((k+1:Nat):Int))) else kx (bY.L0.bw ()).1 (bY.L0.bw ()).2:=by
   intro R kn kx
   rw[bY.L0.step,bA (by omega),bh (by omega) (by omega),bh (by omega) (by omega),Int.toNat_natCast,n1,n2,N.kr (by omega),cZ.run (d:=(a[k],b[k])) (he _ (List.getElem_mem h))]
   simp only[ay,aa,cZ.add,cZ.F]
   by_cases hx:a[k]=b[k]
   ·rw[aR hx,if_pos hx];rfl
   ·rw[aO hx,if_neg hx];rfl
  by_cases hx:a[k]=b[k]
  ·left
   refine⟨(b,a,(a.length:Int),((k+1:Nat):Int)),⟨⟨hl,he⟩,hab,rfl,k+1,by omega,rfl⟩,by simp only[Int.toNat_natCast];omega,?_,fun kn kx=> ?_⟩
   ·simp only[bY.L0.add,bY.L0.F,Int.toNat_natCast,hd,hx,true_and]
   ·rw[step,if_pos hx]
  ·right
   refine⟨bY.L0.bw (),?_,fun kn kx=> ?_⟩
   ·simp only[bY.L0.add,bY.L0.F,Int.toNat_natCast,hd,hx,false_and,if_false]
    rfl
   ·rw[step,if_neg hx]
 ·right
  obtain rfl:k=a.length:=by omega
  refine⟨bY.L0.eO (),?_,fun kn kx=> ?_⟩
  ·simp only[bY.L0.add,bY.L0.F,Int.toNat_natCast,List.drop_length]
   rw[hab,List.drop_length,if_pos rfl]
   rfl
  ·rw[bY.L0.step,bm (by omega),ao]
theorem bY.ok:bY.Ok:=by
 rintro⟨a,b⟩ hl
 have hl1:a.length≤1000000000:=hl.1
 rw[bY.eq]
 simp only[bY.add,bY.F]
 by_cases h:a.length=b.length
 ·rw[bM (by omega),ao,bY.L0.run (d:=(b,a,(a.length:Int),0)) ⟨hl,h,rfl,0,Nat.zero_le _,rfl⟩]
  simp only[aa,bY.L0.add,bY.L0.F,Int.toNat_zero,List.drop_zero]
  by_cases hx:a=b
  ·rw[if_pos hx,aR hx];rfl
  ·rw[if_neg hx,aO hx];rfl
 ·rw[dA (by omega),aO (fun x=>h (by rw[x]))];rfl
noncomputable def bY.E:=Entry.cv [some (.slice cH),some (.slice cH),none] bY.st bY.aD bY.add bY.F bY.out
noncomputable def bY.call:bY.D→Option bY.X:=bJ bY.E bY.st
theorem bY.run:bE bY.call bY.aD bY.add bY.F:=cQ (cP [.d (.slice cH),.d (.slice cH)] fun _=>by kernel_rfl)
noncomputable def bY.sg:SG Tryz.prog:=⟨103,aW,bY.E,.fn 1 (by kernel_rfl) bY.ok (And.intro (.cv bY.L0.ok (by kernel_rfl)) trivial)⟩
abbrev bu.L0.D:=(List fL)×(List fL)×Int×Int
def bu.L0.st:bu.L0.D→AS:=fun(s2_2,t15,t16,t17)=>⟨([.undef,.d (.slice eX) s2_2,.fn 102 (.cons (.ptr (.fK 0) 0 [] 0) (.nil))]++ba 12 ([.d (.slice eX) t15,.d ti t16,.d ti t17]++ba 14 [])),[.obj 0 false (.fn 101 (.nil))],(List.replicate 32 [])⟩
abbrev bu.L0.Y0:=Unit
abbrev bu.L0.X0:=Unit
def bu.L0.bw:bu.L0.X0→Exit×AS:=fun x=>(.ret,⟨(ba 6 ([.d .bool false]++ba 25 [])),[.obj 0 false (.fn 101 (.nil))],(List.replicate 32 [])⟩)
abbrev bu.L0.Y1:=Unit
abbrev bu.L0.X1:=Unit
def bu.L0.eO:bu.L0.X1→Exit×AS:=fun x=>(.exit 0,⟨(ba 32 []),[.obj 0 false (.fn 101 (.nil))],(List.replicate 32 [])⟩)
abbrev bu.L0.X:=(bu.L0.X0)⊕(bu.L0.X1)
abbrev bu.L0.Y:=(bu.L0.Y0)⊕(bu.L0.Y1)
def bu.L0.out:bu.L0.X→Out (Exit×AS):=fun x=> .br x.isLeft (.get x.getLeft? fun a=> .ok (bu.L0.bw a)) (.get x.getRight? fun b=> .ok (bu.L0.eO b))
def bu.L0.add:bu.L0.D→bu.L0.Y→bu.L0.X:=fun(s2_2,t15,t16,t17) y=>match y with | .inl y=> .inl y | .inr z=> .inr (z)
abbrev bu.D:=(List fL)×(List fL)
def bu.st:bu.D→SA:=fun(s1,s2)=>([.d (.slice eX) s1,.d (.slice eX) s2,.fn 102 (.cons (.ptr (.fK 0) 0 [] 0) (.nil))],[.obj 0 false (.fn 101 (.nil))])
abbrev bu.Y:=Bool
abbrev bu.X:=Bool
def bu.out:bu.X→aZ:=fun x=>⟨.d .bool x,[.obj 0 false (.fn 101 (.nil))],[]⟩
def bu.add:bu.D→bu.Y→bu.X:=fun(s1,s2) y=>y
def bu.L0.aD:bu.L0.D→Prop:=fun(b,a,m,i)=>(a.length≤1000000000∧∀x∈a,x.2.1.1.length≤1000000000∧∀b∈x.2.1.1,b.1.length≤1000000000)∧a.length=b.length∧m=a.length∧∃k:Nat,k≤a.length∧i=k
def bu.L0.F:bu.L0.D→bu.L0.Y:=fun(b,a,m,i)=>if a.drop i.toNat=b.drop i.toNat then .inr () else .inl ()
def bu.aD:bu.D→Prop:=fun(a,b)=>a.length≤1000000000∧∀x∈a,x.2.1.1.length≤1000000000∧∀b∈x.2.1.1,b.1.length≤1000000000
def bu.F:bu.D→bu.Y:=fun(a,b)=>decide (a=b)
noncomputable def bu.G:dV:=eY (P:=Tryz.prog) [dh.sg]
noncomputable def bu.L0.E:=bP.cv bu.L0.st bu.L0.aD bu.L0.add bu.L0.F bu.L0.out
noncomputable def bu.L0.call:bu.L0.D→Option bu.L0.X:=dk bu.L0.E bu.L0.st
noncomputable def bu.an:eJ:= {loops:=jJ [(4,{bn:=[1,2,15,16,17]})],outs:=jI [(4,{},{bn:=[6]})],fJ:=kz [(4,bu.L0.E)]}
noncomputable def bu.A:= @cK Tryz.prog bu.G bu.an 0 Tryz.f104 _ bu.st
abbrev bu.Ok:=cM @bu.A bu.aD bu.add bu.F bu.out
noncomputable def bu.L0.R:= @bV Tryz.prog bu.G bu.an 0 Tryz.f104 0 _ bu.L0.st
abbrev bu.L0.Ok:=eA Tryz.prog bu.G bu.an 0 Tryz.f104 0 bu.L0.st bu.L0.aD bu.L0.add bu.L0.F bu.L0.out
theorem bu.L0.run:bE bu.L0.call bu.L0.aD bu.L0.add bu.L0.F:=eK (eI [.d (.slice eX),.d (.slice eX),.d ti,.d ti] fun _=>by kernel_rfl)
theorem bu.L0.aG:iO @bu.L0.R bu.L0.st bu.L0.aD bu.L0.add bu.L0.F bu.L0.out bu.L0.Ok:=jk
theorem bu.L0.step{R:Type}(s2_2:(List fL))(t15:(List fL))(t16:Int)(t17:Int)(kn:AS→Option R)(kx:Exit→AS→Option R):bu.L0.R (s2_2,t15,t16,t17) kn kx=
  aF ((gb t17 t16)) (
   aF (dS t17 (((List.length t15):Nat):Int)) (
   aF (dS t17 (((List.length s2_2):Nat):Int)) (
   ae (dh.call ((nth eX t15 (Int.toNat t17)),(nth eX s2_2 (Int.toNat t17)))) fun x1=>
   aF ((!x1)) (
    kx (bu.L0.bw ()).1 (bu.L0.bw ()).2) (
    kn (bu.L0.st (s2_2,t15,t16,(bO .i64 t17 (1:Int)))))) none) none) (
   kx (bu.L0.eO ()).1 (bu.L0.eO ()).2):=by kernel_rfl
theorem bu.eq{R:Type}(s1:(List fL))(s2:(List fL))(k:aZ→Option R):bu.A (s1,s2) k=
  aF ((gM (((List.length s1):Nat):Int) (((List.length s2):Nat):Int))) (
   k (bu.out false)) (
   ae (bu.L0.call (s2,s1,(((List.length s1):Nat):Int),(0:Int))) fun x2=>
   aF (x2.isLeft) (
    ae (x2.getLeft?) fun a3=>
    k (bu.out false)) (
    ae (x2.getRight?) fun b4=>
    k (bu.out true))):=by kernel_rfl
theorem bu.L0.ok:bu.L0.Ok:=by
 refine bu.L0.aG (fun(b,a,m,i)=>a.length - i.toNat) ?_
 rintro⟨b,a,m,i⟩ ⟨⟨hl,he⟩,hab,rfl,k,hk,rfl⟩
 have hl:a.length≤1000000000:=hl
 have hab:a.length=b.length:=hab
 have hk:k≤a.length:=hk
 by_cases h:k < a.length
 ·have h2:k < b.length:=by omega
  have n1:nth eX a k=a[k]:=bZ (t:=eX) h
  have n2:nth eX b k=b[k]:=bZ (t:=eX) h2
  have hd:(a.drop k=b.drop k)=(a[k]=b[k]∧a.drop (k+1)=b.drop (k+1)):=by rw[List.drop_eq_getElem_cons h,List.drop_eq_getElem_cons h2,List.cons.injEq]
  have step:∀ {R:Type} (kn:AS→Option R) (kx:Exit→AS→Option R),bu.L0.R (b,a,(a.length:Int),(k:Int)) kn kx=if a[k]=b[k] then kn (bu.L0.st (b,a,(a.length:Int),((k+1:Nat):Int))) else kx (bu.L0.bw ()).1 (bu.L0.bw ()).2:=by
   intro R kn kx
   rw[bu.L0.step,bA (by omega),bh (by omega) (by omega),bh (by omega) (by omega),Int.toNat_natCast,n1,n2,N.kr (by omega),dh.run (d:=(a[k],b[k])) (he _ (List.getElem_mem h))]
   simp only[ay,aa,dh.add,dh.F]
   by_cases hx:a[k]=b[k]
   ·rw[aR hx,if_pos hx];rfl
   ·rw[aO hx,if_neg hx];rfl
  by_cases hx:a[k]=b[k]
  ·left
   refine⟨(b,a,(a.length:Int),((k+1:Nat):Int)),⟨⟨hl,he⟩,hab,rfl,k+1,by omega,rfl⟩,by simp only[Int.toNat_natCast];omega,?_,fun kn kx=> ?_⟩
   ·simp only[bu.L0.add,bu.L0.F,Int.toNat_natCast,hd,hx,true_and]
   ·rw[step,if_pos hx]
  ·right
   refine⟨bu.L0.bw (),?_,fun kn kx=> ?_⟩
   ·simp only[bu.L0.add,bu.L0.F,Int.toNat_natCast,hd,hx,false_and,if_false]
    rfl
   ·rw[step,if_neg hx]
 ·right
  obtain rfl:k=a.length:=by omega
  refine⟨bu.L0.eO (),?_,fun kn kx=> ?_⟩
  ·simp only[bu.L0.add,bu.L0.F,Int.toNat_natCast,List.drop_length]
   rw[hab,List.drop_length,if_pos rfl]
   rfl
  ·rw[bu.L0.step,bm (by omega),ao]
theorem bu.ok:bu.Ok:=by
 rintro⟨a,b⟩ hl
 have hl1:a.length≤1000000000:=hl.1
 rw[bu.eq]
 simp only[bu.add,bu.F]
 by_cases h:a.length=b.length
 ·rw[bM (by omega),ao,bu.L0.run (d:=(b,a,(a.length:Int),0)) ⟨hl,h,rfl,0,Nat.zero_le _,rfl⟩]
  simp only[aa,bu.L0.add,bu.L0.F,Int.toNat_zero,List.drop_zero]
  by_cases hx:a=b
  ·rw[if_pos hx,aR hx];rfl
  ·rw[if_neg hx,aO hx];rfl
 ·rw[dA (by omega),aO (fun x=>h (by rw[x]))];rfl
noncomputable def bu.E:=Entry.cv [some (.slice eX),some (.slice eX),none] bu.st bu.aD bu.add bu.F bu.out
noncomputable def bu.call:bu.D→Option bu.X:=bJ bu.E bu.st
theorem bu.run:bE bu.call bu.aD bu.add bu.F:=cQ (cP [.d (.slice eX),.d (.slice eX)] fun _=>by kernel_rfl)
noncomputable def bu.sg:SG Tryz.prog:=⟨104,aW,bu.E,.fn 1 (by kernel_rfl) bu.ok (And.intro (.cv bu.L0.ok (by kernel_rfl)) trivial)⟩
def oC(t:eD):Prop:=(t.1.length≤1000000000∧∀x∈t.1,x.2.1.2.1.length≤1000000000)∧t.2.1.length≤1000000000∧∀x∈t.2.1,x.2.1.1.length≤1000000000∧∀b∈x.2.1.1,b.1.length≤1000000000
abbrev dD.D:=eD×eD
def dD.st:dD.D→SA:=fun(a,b)=>([.d fw a,.d fw b],[])
abbrev dD.Y:=Bool
abbrev dD.X:=Bool
def dD.out:dD.X→aZ:=fun x=>⟨.d .bool x,[],[]⟩
def dD.add:dD.D→dD.Y→dD.X:=fun(a,b) y=>y
def dD.aD:dD.D→Prop:=fun(a,b)=>oC a
def dD.F:dD.D→dD.Y:=fun(a,b)=>decide (a=b)
noncomputable def dD.G:dV:=eY (P:=Tryz.prog) [bY.sg,bu.sg]
noncomputable def dD.an:eJ:= {}
noncomputable def dD.A:= @cK Tryz.prog dD.G dD.an 0 Tryz.f42 _ dD.st
abbrev dD.Ok:=cM @dD.A dD.aD dD.add dD.F dD.out
theorem dD.eq{R:Type}(a:eD)(b:eD)(k:aZ→Option R):dD.A (a,b) k=
  aF ((kR a.2.2.1 b.2.2.1)) (
   ae (bY.call (a.1,b.1)) fun x1=>
   aF (x1) (
    ae (bu.call (a.2.1,b.2.1)) fun x2=>
    k (dD.out x2)) (
    k (dD.out false))) (
   k (dD.out false)):=by kernel_rfl
theorem dD.ok:dD.Ok:=by
 rintro⟨⟨i1,o1,n1,u1⟩,⟨i2,o2,n2,u2⟩⟩ h
 have h:oC (i1,o1,n1,u1):=h
 rw[dD.eq,bY.run (d:=(i1,i2)) h.1,bu.run (d:=(o1,o2)) h.2]
 simp only[aa,bY.add,bY.F,bu.add,bu.F,dD.add,dD.F]
 by_cases e1:n1=n2
 ·by_cases e2:i1=i2
  ·by_cases e3:o1=o2
   ·rw[dq e1,aR e2,aR e3,aR (by rw[e1,e2,e3])];rfl
   ·rw[dq e1,aR e2,aO e3,aO (by rintro⟨⟩;exact e3 rfl)];rfl
  ·rw[dq e1,aO e2,aO (p:=(i1,o1,n1,u1)=(i2,o2,n2,u2)) (by rintro⟨⟩;exact e2 rfl)];rfl
 ·rw[eC e1,aO (p:=(i1,o1,n1,u1)=(i2,o2,n2,u2)) (by rintro⟨⟩;exact e1 rfl)];rfl
noncomputable def dD.E:=Entry.cv [some fw,some fw] dD.st dD.aD dD.add dD.F dD.out
noncomputable def dD.call:dD.D→Option dD.X:=bJ dD.E dD.st
theorem dD.run:bE dD.call dD.aD dD.add dD.F:=cQ (cP [.d fw,.d fw] fun _=>by kernel_rfl)
noncomputable def dD.sg:SG Tryz.prog:=⟨42,aW,dD.E,.fn 0 (by kernel_rfl) dD.ok trivial⟩
set_option synthInstance.maxSize 5000
def j3(x:eR):Bool:=decide (x.2.1.2.1.length≤14)
def j2(b:gm):Bool:=decide (b.1.length≤14)
def iJ(o:fL):Bool:=decide (o.2.1.1.length≤6) && o.2.1.1.all j2
def nP(t:eD):Bool:=decide (t.1.length≤66∧t.2.1.length≤66) && (t.1.all j3 && t.2.1.all iJ)
abbrev ab.L0.D:=eD×Int
def ab.L0.st:ab.L0.D→AS:=fun(t_2,i)=>⟨([.undef,.ej fw t_2,.undef,.d ti i]++ba 69 []),[],(List.replicate 73 [])⟩
abbrev ab.L0.Y0:=Unit
abbrev ab.L0.X0:=Unit
def ab.L0.bw:ab.L0.X0→Exit×AS:=fun x=>(.ret,⟨([.undef,.undef,.d .bool false]++ba 70 []),[],(List.replicate 73 [])⟩)
abbrev ab.L0.Y1:=Unit
abbrev ab.L0.X1:=eD
def ab.L0.eO:ab.L0.X1→Exit×AS:=fun x=>(.exit 0,⟨([.undef,.ej fw x]++ba 71 []),[],(List.replicate 73 [])⟩)
abbrev ab.L0.X:=(ab.L0.X0)⊕(ab.L0.X1)
abbrev ab.L0.Y:=(ab.L0.Y0)⊕(ab.L0.Y1)
def ab.L0.out:ab.L0.X→Out (Exit×AS):=fun x=> .br x.isLeft (.get x.getLeft? fun a=> .ok (ab.L0.bw a)) (.get x.getRight? fun b=> .ok (ab.L0.eO b))
def ab.L0.add:ab.L0.D→ab.L0.Y→ab.L0.X:=fun(t_2,i) y=>match y with | .inl y=> .inl y | .inr z=> .inr (t_2)
abbrev ab.L1.D:=eD×Int
def ab.L1.st:ab.L1.D→AS:=fun(t_3,i_2)=>⟨([.undef,.ej fw t_3,.undef,.undef,.d ti i_2]++ba 68 []),[],(List.replicate 73 [])⟩
abbrev ab.L1.Y0:=Unit
abbrev ab.L1.X0:=Unit
def ab.L1.bw:ab.L1.X0→Exit×AS:=fun x=>(.ret,⟨([.undef,.undef,.d .bool false]++ba 70 []),[],(List.replicate 73 [])⟩)
abbrev ab.L1.Y1:=Unit
abbrev ab.L1.X1:=Unit
def ab.L1.eO:ab.L1.X1→Exit×AS:=fun x=>(.exit 2,⟨(ba 73 []),[],(List.replicate 73 [])⟩)
abbrev ab.L1.X:=(ab.L1.X0)⊕(ab.L1.X1)
abbrev ab.L1.Y:=(ab.L1.Y0)⊕(ab.L1.Y1)
def ab.L1.out:ab.L1.X→Out (Exit×AS):=fun x=> .br x.isLeft (.get x.getLeft? fun a=> .ok (ab.L1.bw a)) (.get x.getRight? fun b=> .ok (ab.L1.eO b))
def ab.L1.add:ab.L1.D→ab.L1.Y→ab.L1.X:=fun(t_3,i_2) y=>match y with | .inl y=> .inl y | .inr z=> .inr (z)
abbrev ab.L2.D:=eD×Int×Int
def ab.L2.st:ab.L2.D→AS:=fun(t_4,i_3,kv)=>⟨([.undef,.ej fw t_4,.undef,.undef,.d ti i_3,.d ti kv]++ba 67 []),[],(List.replicate 73 [])⟩
abbrev ab.L2.Y0:=Unit
abbrev ab.L2.X0:=Unit
def ab.L2.bw:ab.L2.X0→Exit×AS:=fun x=>(.ret,⟨([.undef,.undef,.d .bool false]++ba 70 []),[],(List.replicate 73 [])⟩)
abbrev ab.L2.Y1:=Unit
abbrev ab.L2.X1:=eD×Int
def ab.L2.eO:ab.L2.X1→Exit×AS:=fun x=>(.exit 4,⟨([.undef,.ej fw x.1,.undef,.undef,.d ti x.2]++ba 68 []),[],(List.replicate 73 [])⟩)
abbrev ab.L2.X:=(ab.L2.X0)⊕(ab.L2.X1)
abbrev ab.L2.Y:=(ab.L2.Y0)⊕(ab.L2.Y1)
def ab.L2.out:ab.L2.X→Out (Exit×AS):=fun x=> .br x.isLeft (.get x.getLeft? fun a=> .ok (ab.L2.bw a)) (.get x.getRight? fun b=> .ok (ab.L2.eO b))
def ab.L2.add:ab.L2.D→ab.L2.Y→ab.L2.X:=fun(t_4,i_3,kv) y=>match y with | .inl y=> .inl y | .inr z=> .inr ((t_4,i_3))
abbrev ab.D:=eD
def ab.st:ab.D→SA:=fun t=>([.d fw t],[])
abbrev ab.Y:=Bool
abbrev ab.X:=Bool
def ab.out:ab.X→aZ:=fun x=>⟨.d .bool x,[],[]⟩
def ab.add:ab.D→ab.Y→ab.X:=fun t y=>y
def ab.L0.aD:ab.L0.D→Prop:=fun(t,i)=>t.1.length≤1000000000∧∃k:Nat,k≤t.1.length∧i=k
def ab.L0.F:ab.L0.D→ab.L0.Y:=fun(t,i)=>if(List.drop (Int.toNat i) t.1).all j3 then .inr () else .inl ()
def ab.L2.aD:ab.L2.D→Prop:=fun(t,j,i)=>(nth eX t.2.1 (Int.toNat j)).2.1.1.length≤1000000000∧∃k:Nat,k≤(nth eX t.2.1 (Int.toNat j)).2.1.1.length∧i=k∧(0≤j∧j < (t.2.1.length:Int))
def ab.L2.F:ab.L2.D→ab.L2.Y:=fun(t,j,i)=>if(List.drop (Int.toNat i) (nth eX t.2.1 (Int.toNat j)).2.1.1).all j2 then .inr () else .inl ()
def ab.L1.aD:ab.L1.D→Prop:=fun(t,i)=>t.2.1.length≤1000000000∧∃k:Nat,k≤t.2.1.length∧i=k
def ab.L1.F:ab.L1.D→ab.L1.Y:=fun(t,i)=>if(List.drop (Int.toNat i) t.2.1).all iJ then .inr () else .inl ()
def ab.aD:ab.D→Prop:=fun _=>True
def ab.F:ab.D→ab.Y:=fun t=>nP t
noncomputable def ab.G:dV:=eY (P:=Tryz.prog) []
noncomputable def ab.L0.E:=bP.cv ab.L0.st ab.L0.aD ab.L0.add ab.L0.F ab.L0.out
noncomputable def ab.L0.call:ab.L0.D→Option ab.L0.X:=dk ab.L0.E ab.L0.st
noncomputable def ab.L1.E:=bP.cv ab.L1.st ab.L1.aD ab.L1.add ab.L1.F ab.L1.out
noncomputable def ab.L1.call:ab.L1.D→Option ab.L1.X:=dk ab.L1.E ab.L1.st
noncomputable def ab.L2.E:=bP.cv ab.L2.st ab.L2.aD ab.L2.add ab.L2.F ab.L2.out
noncomputable def ab.L2.call:ab.L2.D→Option ab.L2.X:=dk ab.L2.E ab.L2.st
noncomputable def ab.an:eJ:= {loops:=jJ [(4,{bn:=[1,3]}),(9,{bn:=[1,4]}),(14,{bn:=[1,4,5]})],outs:=jI [(4,{bn:=[1]},{bn:=[2]}),(9,{},{bn:=[2]}),(14,{bn:=[1,4]},{bn:=[2]})],fJ:=kz [(4,ab.L0.E),(9,ab.L1.E),(14,ab.L2.E)]}
noncomputable def ab.A:= @cK Tryz.prog ab.G ab.an 0 Tryz.f22 _ ab.st
abbrev ab.Ok:=cM @ab.A ab.aD ab.add ab.F ab.out
noncomputable def ab.L0.R:= @bV Tryz.prog ab.G ab.an 0 Tryz.f22 0 _ ab.L0.st
abbrev ab.L0.Ok:=eA Tryz.prog ab.G ab.an 0 Tryz.f22 0 ab.L0.st ab.L0.aD ab.L0.add ab.L0.F ab.L0.out
noncomputable def ab.L1.R:= @bV Tryz.prog ab.G ab.an 0 Tryz.f22 1 _ ab.L1.st
abbrev ab.L1.Ok:=eA Tryz.prog ab.G ab.an 0 Tryz.f22 1 ab.L1.st ab.L1.aD ab.L1.add ab.L1.F ab.L1.out
noncomputable def ab.L2.R:= @bV Tryz.prog ab.G ab.an 0 Tryz.f22 2 _ ab.L2.st
abbrev ab.L2.Ok:=eA Tryz.prog ab.G ab.an 0 Tryz.f22 2 ab.L2.st ab.L2.aD ab.L2.add ab.L2.F ab.L2.out
theorem ab.L0.run:bE ab.L0.call ab.L0.aD ab.L0.add ab.L0.F:=eK (eI [.d fw,.d ti] fun _=>by kernel_rfl)
theorem ab.L0.aG:iO @ab.L0.R ab.L0.st ab.L0.aD ab.L0.add ab.L0.F ab.L0.out ab.L0.Ok:=jk
theorem ab.L0.step{R:Type}(t_2:eD)(i:Int)(kn:AS→Option R)(kx:Exit→AS→Option R):ab.L0.R (t_2,i) kn kx=
  aF ((gb i (((List.length t_2.1):Nat):Int))) (
   aF (dS i (((List.length t_2.1):Nat):Int)) (
   aF ((mv (((List.length (nth cH t_2.1 (Int.toNat i)).2.1.2.1):Nat):Int) (14:Int))) (
    kx (ab.L0.bw ()).1 (ab.L0.bw ()).2) (
    kn (ab.L0.st (t_2,(bO .i64 i (1:Int)))))) none) (
   kx (ab.L0.eO t_2).1 (ab.L0.eO t_2).2):=by kernel_rfl
theorem ab.L1.run:bE ab.L1.call ab.L1.aD ab.L1.add ab.L1.F:=eK (eI [.d fw,.d ti] fun _=>by kernel_rfl)
theorem ab.L1.aG:iO @ab.L1.R ab.L1.st ab.L1.aD ab.L1.add ab.L1.F ab.L1.out ab.L1.Ok:=jk
theorem ab.L1.step{R:Type}(t_3:eD)(i_2:Int)(kn:AS→Option R)(kx:Exit→AS→Option R):ab.L1.R (t_3,i_2) kn kx=
  aF ((gb i_2 (((List.length t_3.2.1):Nat):Int))) (
   aF (dS i_2 (((List.length t_3.2.1):Nat):Int)) (
   aF ((mv (((List.length (nth eX t_3.2.1 (Int.toNat i_2)).2.1.1):Nat):Int) (6:Int))) (
    kx (ab.L1.bw ()).1 (ab.L1.bw ()).2) (
    ae (ab.L2.call (t_3,i_2,(0:Int))) fun x1=>
    aF (x1.isLeft) (
     ae (x1.getLeft?) fun a2=>
     kx (ab.L1.bw ()).1 (ab.L1.bw ()).2) (
     ae (x1.getRight?) fun b3=>
     kn (ab.L1.st (b3.1,(bO .i64 b3.2 (1:Int))))))) none) (
   kx (ab.L1.eO ()).1 (ab.L1.eO ()).2):=by kernel_rfl
theorem ab.L2.run:bE ab.L2.call ab.L2.aD ab.L2.add ab.L2.F:=eK (eI [.d fw,.d ti,.d ti] fun _=>by kernel_rfl)
theorem ab.L2.aG:iO @ab.L2.R ab.L2.st ab.L2.aD ab.L2.add ab.L2.F ab.L2.out ab.L2.Ok:=jk
theorem ab.L2.step{R:Type}(t_4:eD)(i_3:Int)(kv:Int)(kn:AS→Option R)(kx:Exit→AS→Option R):ab.L2.R (t_4,i_3,kv) kn kx=
  aF (dS i_3 (((List.length t_4.2.1):Nat):Int)) (
  aF ((gb kv (((List.length (nth eX t_4.2.1 (Int.toNat i_3)).2.1.1):Nat):Int))) (
   aF (dS i_3 (((List.length t_4.2.1):Nat):Int)) (
   aF (dS kv (((List.length (nth eX t_4.2.1 (Int.toNat i_3)).2.1.1):Nat):Int)) (
   aF ((mv (((List.length (nth fo (nth eX t_4.2.1 (Int.toNat i_3)).2.1.1 (Int.toNat kv)).1):Nat):Int) (14:Int))) (
    kx (ab.L2.bw ()).1 (ab.L2.bw ()).2) (
    kn (ab.L2.st (t_4,i_3,(bO .i64 kv (1:Int)))))) none) none) (
   kx (ab.L2.eO (t_4,i_3)).1 (ab.L2.eO (t_4,i_3)).2)) none:=by kernel_rfl
theorem ab.eq{R:Type}(t:eD)(k:aZ→Option R):ab.A t k=
  aF ((mv (((List.length t.1):Nat):Int) (66:Int))) (
   k (ab.out false)) (
   aF ((mv (((List.length t.2.1):Nat):Int) (66:Int))) (
    k (ab.out false)) (
    ae (ab.L0.call (t,(0:Int))) fun x1=>
    aF (x1.isLeft) (
     ae (x1.getLeft?) fun a2=>
     k (ab.out false)) (
     ae (x1.getRight?) fun b3=>
     ae (ab.L1.call (b3,(0:Int))) fun x7=>
     aF (x7.isLeft) (
      ae (x7.getLeft?) fun a8=>
      k (ab.out false)) (
      ae (x7.getRight?) fun b9=>
      k (ab.out true))))):=by kernel_rfl
theorem ab.L0.ok:ab.L0.Ok:=by
 refine ab.L0.aG (fun(t,i)=>t.1.length - Int.toNat i) ?_
 rintro⟨t,i⟩ ⟨hlen,k,hk,rfl⟩
 have hlen:t.1.length≤1000000000:=hlen
 have hk:k≤t.1.length:=hk
 by_cases h:k < t.1.length
 ·have n1:nth cH t.1 k=t.1[k]:=bZ (t:=cH) h
  have hd:(List.drop k t.1).all j3=(j3 t.1[k] && (List.drop (k+1) t.1).all j3):=by rw[List.drop_eq_getElem_cons h,List.all_cons]
  have step:∀ {R:Type} (kn:AS→Option R) (kx:Exit→AS→Option R),ab.L0.R (t,(k:Int)) kn kx=aF (j3 t.1[k]) (kn (ab.L0.st (t,((k+1:Nat):Int)))) (kx (ab.L0.bw ()).1 (ab.L0.bw ()).2):=by
   intro R kn kx
   rw[ab.L0.step,bA (by omega),bh (show(0:Int)≤(k:Int) by omega) (by omega),Int.toNat_natCast,n1]
   simp only[ay]
   rw[N.kr (by omega)]
   unfold j3
   by_cases hs:t.1[k].2.1.2.1.length≤14
   ·rw[dx (by omega),aR hs];rfl
   ·rw[dG (by omega),aO hs];rfl
  cases hp:j3 t.1[k]
  ·right
   refine⟨ab.L0.bw (),?_,fun kn kx=> ?_⟩
   ·simp only[ab.L0.add,ab.L0.F,Int.toNat_natCast,hd,hp,Bool.false_and,Bool.false_eq_true,if_false]
    rfl
   ·rw[step,hp,ao]
  ·left
   refine⟨(t,((k+1:Nat):Int)),⟨hlen,k+1,by omega,rfl⟩,by simp only[Int.toNat_natCast];omega,?_,fun kn kx=> ?_⟩
   ·simp only[ab.L0.add,ab.L0.F,Int.toNat_natCast,hd,hp,Bool.true_and]
   ·rw[step,hp,ay]
 ·right
  obtain rfl:k=t.1.length:=by omega
  refine⟨ab.L0.eO t,?_,fun kn kx=> ?_⟩
  ·simp only[ab.L0.add,ab.L0.F,Int.toNat_natCast,List.drop_length]
   rfl
  ·rw[ab.L0.step,bm (by omega),ao]
theorem ab.L2.ok:ab.L2.Ok:=by
 refine ab.L2.aG (fun(t,j,i)=>(nth eX t.2.1 (Int.toNat j)).2.1.1.length - Int.toNat i) ?_
 rintro⟨t,j,i⟩ ⟨hlen,k,hk,rfl,hj⟩
 have hlen:(nth eX t.2.1 (Int.toNat j)).2.1.1.length≤1000000000:=hlen
 have hk:k≤(nth eX t.2.1 (Int.toNat j)).2.1.1.length:=hk
 have hj:0≤j∧j < (t.2.1.length:Int):=hj
 by_cases h:k < (nth eX t.2.1 (Int.toNat j)).2.1.1.length
 ·have n1:nth fo (nth eX t.2.1 (Int.toNat j)).2.1.1 k=(nth eX t.2.1 (Int.toNat j)).2.1.1[k]:=bZ (t:=fo) h
  have hd:(List.drop k (nth eX t.2.1 (Int.toNat j)).2.1.1).all j2=(j2 (nth eX t.2.1 (Int.toNat j)).2.1.1[k] && (List.drop (k+1) (nth eX t.2.1 (Int.toNat j)).2.1.1).all j2):=by rw[List.drop_eq_getElem_cons h,List.all_cons]
  have step:∀ {R:Type} (kn:AS→Option R) (kx:Exit→AS→Option R),ab.L2.R (t,j,(k:Int)) kn kx=aF (j2 (nth eX t.2.1 (Int.toNat j)).2.1.1[k]) (kn (ab.L2.st (t,j,((k+1:Nat):Int)))) (kx (ab.L2.bw ()).1 (ab.L2.bw ()).2):=by
   intro R kn kx
   rw[ab.L2.step,bh hj.1 hj.2,ay,bA (by omega),bh (show(0:Int)≤(k:Int) by omega) (by omega),Int.toNat_natCast,n1]
   simp only[ay]
   rw[N.kr (by omega)]
   unfold j2
   by_cases hs:(nth eX t.2.1 (Int.toNat j)).2.1.1[k].1.length≤14
   ·rw[dx (by omega),aR hs];rfl
   ·rw[dG (by omega),aO hs];rfl
  cases hp:j2 (nth eX t.2.1 (Int.toNat j)).2.1.1[k]
  ·right
   refine⟨ab.L2.bw (),?_,fun kn kx=> ?_⟩
   ·simp only[ab.L2.add,ab.L2.F,Int.toNat_natCast,hd,hp,Bool.false_and,Bool.false_eq_true,if_false]
    rfl
   ·rw[step,hp,ao]
  ·left
   refine⟨(t,j,((k+1:Nat):Int)),⟨hlen,k+1,by omega,rfl,hj⟩,by simp only[Int.toNat_natCast];omega,?_,fun kn kx=> ?_⟩
   ·simp only[ab.L2.add,ab.L2.F,Int.toNat_natCast,hd,hp,Bool.true_and]
   ·rw[step,hp,ay]
 ·right
  obtain rfl:k=(nth eX t.2.1 (Int.toNat j)).2.1.1.length:=by omega
  refine⟨ab.L2.eO (t,j),?_,fun kn kx=> ?_⟩
  ·simp only[ab.L2.add,ab.L2.F,Int.toNat_natCast,List.drop_length]
   rfl
  ·rw[ab.L2.step,bh hj.1 hj.2,ay,bm (by omega),ao]
theorem ab.L1.ok:ab.L1.Ok:=by
 refine ab.L1.aG (fun(t,i)=>t.2.1.length - Int.toNat i) ?_
 rintro⟨t,i⟩ ⟨hlen,k,hk,rfl⟩
 have hlen:t.2.1.length≤1000000000:=hlen
 have hk:k≤t.2.1.length:=hk
 by_cases h:k < t.2.1.length
 ·have n1:nth eX t.2.1 k=t.2.1[k]:=bZ (t:=eX) h
  have hd:(List.drop k t.2.1).all iJ=(iJ t.2.1[k] && (List.drop (k+1) t.2.1).all iJ):=by rw[List.drop_eq_getElem_cons h,List.all_cons]
  have step:∀ {R:Type} (kn:AS→Option R) (kx:Exit→AS→Option R),ab.L1.R (t,(k:Int)) kn kx=aF (iJ t.2.1[k]) (kn (ab.L1.st (t,((k+1:Nat):Int)))) (kx (ab.L1.bw ()).1 (ab.L1.bw ()).2):=by
   intro R kn kx
   rw[ab.L1.step,bA (by omega),bh (show(0:Int)≤(k:Int) by omega) (by omega),Int.toNat_natCast,n1]
   simp only[ay]
   unfold iJ
   by_cases hs:t.2.1[k].2.1.1.length≤6
   ·rw[dx (by omega),aR hs,ao,ab.L2.run (d:=(t,(k:Int),0)) ⟨by rw[Int.toNat_natCast,n1];show t.2.1[k].2.1.1.length≤_;omega,0,Nat.zero_le _,rfl,by show(0:Int)≤(k:Int);omega,by show(k:Int) < (t.2.1.length:Int);omega⟩]
    simp only[aa,ab.L2.add,ab.L2.F,Int.toNat_natCast,n1,Int.toNat_zero,List.drop_zero,Bool.true_and]
    cases t.2.1[k].2.1.1.all j2
    ·rfl
    ·simp only[if_true,Sum.isLeft_inr,Sum.getRight?_inr,ao,aa,ay]
     rw[N.kr (by omega)]
   ·rw[dG (by omega),aO hs];rfl
  cases hp:iJ t.2.1[k]
  ·right
   refine⟨ab.L1.bw (),?_,fun kn kx=> ?_⟩
   ·simp only[ab.L1.add,ab.L1.F,Int.toNat_natCast,hd,hp,Bool.false_and,Bool.false_eq_true,if_false]
    rfl
   ·rw[step,hp,ao]
  ·left
   refine⟨(t,((k+1:Nat):Int)),⟨hlen,k+1,by omega,rfl⟩,by simp only[Int.toNat_natCast];omega,?_,fun kn kx=> ?_⟩
   ·simp only[ab.L1.add,ab.L1.F,Int.toNat_natCast,hd,hp,Bool.true_and]
   ·rw[step,hp,ay]
 ·right
  obtain rfl:k=t.2.1.length:=by omega
  refine⟨ab.L1.eO (),?_,fun kn kx=> ?_⟩
  ·simp only[ab.L1.add,ab.L1.F,Int.toNat_natCast,List.drop_length]
   rfl
  ·rw[ab.L1.step,bm (by omega),ao]
theorem ab.ok:ab.Ok:=by
 intro t _
 rw[ab.eq]
 simp only[ab.add,ab.F,nP]
 by_cases h1:t.1.length≤66
 ·by_cases h2:t.2.1.length≤66
  ·rw[dx (by omega),dx (by omega),ao,ao,aR ⟨h1,h2⟩,ab.L0.run (d:=(t,0)) ⟨by show t.1.length≤_;omega,0,Nat.zero_le _,rfl⟩]
   simp only[aa,ab.L0.add,ab.L0.F,Int.toNat_zero,List.drop_zero,Bool.true_and]
   cases t.1.all j3
   ·rfl
   ·simp only[if_true,Sum.isLeft_inr,Sum.getRight?_inr,ao,aa,Bool.true_and]
    rw[ab.L1.run (d:=(t,0)) ⟨by show t.2.1.length≤_;omega,0,Nat.zero_le _,rfl⟩]
    simp only[aa,ab.L1.add,ab.L1.F,Int.toNat_zero,List.drop_zero]
    cases t.2.1.all iJ <;> rfl
  ·rw[dx (by omega),dG (by omega),aO (fun x=>h2 x.2)];rfl
 ·rw[dG (by omega),aO (fun x=>h1 x.1)];rfl
noncomputable def ab.E:=Entry.cv [some fw] ab.st ab.aD ab.add ab.F ab.out
noncomputable def ab.call:ab.D→Option ab.X:=bJ ab.E ab.st
theorem ab.run:bE ab.call ab.aD ab.add ab.F:=cQ (cP [.d fw] fun _=>by kernel_rfl)
noncomputable def ab.sg:SG Tryz.prog:=⟨22,aW,ab.E,.fn 3 (by kernel_rfl) ab.ok (And.intro (.cv ab.L0.ok (by kernel_rfl)) (And.intro (.cv ab.L1.ok (by kernel_rfl)) (And.intro (.cv ab.L2.ok (by kernel_rfl)) trivial)))⟩
abbrev aU.L0.D:=j6×j6×Int
def aU.L0.st:aU.L0.D→AS:=fun(a_2,b_2,i)=>⟨([.undef,.undef,.ej mK a_2,.ej mK b_2,.undef,.d ti i]++ba 39 []),[],(List.replicate 45 [])⟩
abbrev aU.L0.Y0:=Unit
abbrev aU.L0.X0:=Unit
def aU.L0.bw:aU.L0.X0→Exit×AS:=fun x=>(.ret,⟨(ba 4 ([.d .bool false]++ba 40 [])),[],(List.replicate 45 [])⟩)
abbrev aU.L0.Y1:=Unit
abbrev aU.L0.X1:=Unit
def aU.L0.eO:aU.L0.X1→Exit×AS:=fun x=>(.exit 0,⟨(ba 45 []),[],(List.replicate 45 [])⟩)
abbrev aU.L0.X:=(aU.L0.X0)⊕(aU.L0.X1)
abbrev aU.L0.Y:=(aU.L0.Y0)⊕(aU.L0.Y1)
def aU.L0.out:aU.L0.X→Out (Exit×AS):=fun x=> .br x.isLeft (.get x.getLeft? fun a=> .ok (aU.L0.bw a)) (.get x.getRight? fun b=> .ok (aU.L0.eO b))
def aU.L0.add:aU.L0.D→aU.L0.Y→aU.L0.X:=fun(a_2,b_2,i) y=>match y with | .inl y=> .inl y | .inr z=> .inr (z)
abbrev aU.D:=j6×j6
def aU.st:aU.D→SA:=fun(a,b)=>([.d mK a,.d mK b],[])
abbrev aU.Y:=Bool
abbrev aU.X:=Bool
def aU.out:aU.X→aZ:=fun x=>⟨.d .bool x,[],[]⟩
def aU.add:aU.D→aU.Y→aU.X:=fun(a,b) y=>y
def aU.L0.aD:aU.L0.D→Prop:=fun(a,b,i)=>a.2.1.length≤1000000000∧a.2.1.length=b.2.1.length∧∃k:Nat,k≤a.2.1.length∧i=k
def aU.L0.F:aU.L0.D→aU.L0.Y:=fun(a,b,i)=>if List.drop (Int.toNat i) a.2.1=List.drop (Int.toNat i) b.2.1 then .inr () else .inl ()
def aU.aD:aU.D→Prop:=fun(a,b)=>a.2.1.length≤1000000000
def aU.F:aU.D→aU.Y:=fun(a,b)=>decide (a=b)
noncomputable def aU.G:dV:=eY (P:=Tryz.prog) []
noncomputable def aU.L0.E:=bP.cv aU.L0.st aU.L0.aD aU.L0.add aU.L0.F aU.L0.out
noncomputable def aU.L0.call:aU.L0.D→Option aU.L0.X:=dk aU.L0.E aU.L0.st
noncomputable def aU.an:eJ:= {loops:=jJ [(4,{bn:=[2,3,5]})],outs:=jI [(4,{},{bn:=[4]})],fJ:=kz [(4,aU.L0.E)]}
noncomputable def aU.A:= @cK Tryz.prog aU.G aU.an 0 Tryz.f45 _ aU.st
abbrev aU.Ok:=cM @aU.A aU.aD aU.add aU.F aU.out
noncomputable def aU.L0.R:= @bV Tryz.prog aU.G aU.an 0 Tryz.f45 0 _ aU.L0.st
abbrev aU.L0.Ok:=eA Tryz.prog aU.G aU.an 0 Tryz.f45 0 aU.L0.st aU.L0.aD aU.L0.add aU.L0.F aU.L0.out
theorem aU.L0.run:bE aU.L0.call aU.L0.aD aU.L0.add aU.L0.F:=eK (eI [.d mK,.d mK,.d ti] fun _=>by kernel_rfl)
theorem aU.L0.aG:iO @aU.L0.R aU.L0.st aU.L0.aD aU.L0.add aU.L0.F aU.L0.out aU.L0.Ok:=jk
theorem aU.L0.step{R:Type}(a_2:j6)(b_2:j6)(i:Int)(kn:AS→Option R)(kx:Exit→AS→Option R):aU.L0.R (a_2,b_2,i) kn kx=
  aF ((gb i (((List.length a_2.2.1):Nat):Int))) (
   aF (dS i (((List.length a_2.2.1):Nat):Int)) (
   aF (dS i (((List.length b_2.2.1):Nat):Int)) (
   aF ((!(Ty.beq jc (nth jc a_2.2.1 (Int.toNat i)) (nth jc b_2.2.1 (Int.toNat i))))) (
    kx (aU.L0.bw ()).1 (aU.L0.bw ()).2) (
    kn (aU.L0.st (a_2,b_2,(bO .i64 i (1:Int)))))) none) none) (
   kx (aU.L0.eO ()).1 (aU.L0.eO ()).2):=by kernel_rfl
theorem aU.eq{R:Type}(a:j6)(b:j6)(k:aZ→Option R):aU.A (a,b) k=
  aF ((gM a.1 b.1)) (
   k (aU.out false)) (
   aF ((gM a.2.2.1 b.2.2.1)) (
    k (aU.out false)) (
    aF ((gM (((List.length a.2.1):Nat):Int) (((List.length b.2.1):Nat):Int))) (
     k (aU.out false)) (
     ae (aU.L0.call (a,b,(0:Int))) fun x1=>
     aF (x1.isLeft) (
      ae (x1.getLeft?) fun a2=>
      k (aU.out false)) (
      ae (x1.getRight?) fun b3=>
      k (aU.out true))))):=by kernel_rfl
theorem aU.L0.ok:aU.L0.Ok:=by
 refine aU.L0.aG (fun(a,b,i)=>a.2.1.length - Int.toNat i) ?_
 rintro⟨a,b,i⟩ ⟨hlen,hab,k,hk,rfl⟩
 have hlen:a.2.1.length≤1000000000:=hlen
 have hab:a.2.1.length=b.2.1.length:=hab
 have hk:k≤a.2.1.length:=hk
 by_cases h:k < a.2.1.length
 ·have h2:k < b.2.1.length:=by omega
  have n1:nth jc a.2.1 k=a.2.1[k]:=bZ (t:=jc) h
  have n2:nth jc b.2.1 k=b.2.1[k]:=bZ (t:=jc) h2
  have hd:(List.drop k a.2.1=List.drop k b.2.1)=(a.2.1[k]=b.2.1[k]∧List.drop (k+1) a.2.1=List.drop (k+1) b.2.1):=by rw[List.drop_eq_getElem_cons h,List.drop_eq_getElem_cons h2,List.cons.injEq]
  have step:∀ {R:Type} (kn:AS→Option R) (kx:Exit→AS→Option R),aU.L0.R (a,b,(k:Int)) kn kx=if a.2.1[k]=b.2.1[k] then kn (aU.L0.st (a,b,((k+1:Nat):Int))) else kx (aU.L0.bw ()).1 (aU.L0.bw ()).2:=by
   intro R kn kx
   rw[aU.L0.step,bA (by omega),bh (by omega) (by omega),bh (by omega) (by omega),Int.toNat_natCast,n1,n2]
   simp only[ay]
   rw[AF,N.kr (by omega)]
   by_cases hx:a.2.1[k]=b.2.1[k]
   ·rw[aR hx,if_pos hx];rfl
   ·rw[aO hx,if_neg hx];rfl
  by_cases hx:a.2.1[k]=b.2.1[k]
  ·left
   refine⟨(a,b,((k+1:Nat):Int)),⟨hlen,hab,k+1,by omega,rfl⟩,by simp only[Int.toNat_natCast];omega,?_,fun kn kx=> ?_⟩
   ·simp only[aU.L0.add,aU.L0.F,Int.toNat_natCast,hd,hx,true_and]
   ·rw[step,if_pos hx]
  ·right
   refine⟨aU.L0.bw (),?_,fun kn kx=> ?_⟩
   ·simp only[aU.L0.add,aU.L0.F,Int.toNat_natCast,hd,hx,false_and,if_false]
    rfl
   ·rw[step,if_neg hx]
 ·right
  obtain rfl:k=a.2.1.length:=by omega
  refine⟨aU.L0.eO (),?_,fun kn kx=> ?_⟩
  ·simp only[aU.L0.add,aU.L0.F,Int.toNat_natCast,List.drop_length]
   rw[hab,List.drop_length,if_pos rfl]
   rfl
  ·rw[aU.L0.step,bm (by omega),ao]
theorem aU.ok:aU.Ok:=by
 rintro⟨⟨b1,s1,c1,u1⟩,⟨b2,s2,c2,u2⟩⟩ h
 have h:s1.length≤1000000000:=h
 rw[aU.eq]
 simp only[aU.add,aU.F]
 by_cases e1:b1=b2
 ·by_cases e2:c1=c2
  ·by_cases e3:s1.length=s2.length
   ·rw[bM e1,bM e2,bM (by omega),aU.L0.run (d:=((b1,s1,c1,u1),(b2,s2,c2,u2),0)) ⟨h,e3,0,Nat.zero_le _,rfl⟩]
    simp only[aa,aU.L0.add,aU.L0.F,Int.toNat_zero,List.drop_zero,ao]
    by_cases e4:s1=s2
    ·rw[if_pos e4,aR (by rw[e1,e2,e4])];rfl
    ·rw[if_neg e4,aO (by rintro⟨⟩;exact e4 rfl)];rfl
   ·rw[bM e1,bM e2,dA (by omega),aO (by rintro⟨⟩;exact e3 rfl)];rfl
  ·rw[bM e1,dA e2,aO (by rintro⟨⟩;exact e2 rfl)];rfl
 ·rw[dA e1,aO (by rintro⟨⟩;exact e1 rfl)];rfl
noncomputable def aU.E:=Entry.cv [some mK,some mK] aU.st aU.aD aU.add aU.F aU.out
noncomputable def aU.call:aU.D→Option aU.X:=bJ aU.E aU.st
theorem aU.run:bE aU.call aU.aD aU.add aU.F:=cQ (cP [.d mK,.d mK] fun _=>by kernel_rfl)
noncomputable def aU.sg:SG Tryz.prog:=⟨45,aW,aU.E,.fn 1 (by kernel_rfl) aU.ok (And.intro (.cv aU.L0.ok (by kernel_rfl)) trivial)⟩
abbrev aq.L0.D:=Lk×Lk×Int
def aq.L0.st:aq.L0.D→AS:=fun(a_2,b_2,i)=>⟨([.undef,.undef,.ej kq a_2,.ej kq b_2,.undef,.d ti i]++ba 73 []),[],(List.replicate 79 [])⟩
abbrev aq.L0.Y0:=Unit
abbrev aq.L0.X0:=Unit
def aq.L0.bw:aq.L0.X0→Exit×AS:=fun x=>(.ret,⟨(ba 4 ([.d .bool false]++ba 74 [])),[],(List.replicate 79 [])⟩)
abbrev aq.L0.Y1:=Unit
abbrev aq.L0.X1:=Unit
def aq.L0.eO:aq.L0.X1→Exit×AS:=fun x=>(.exit 0,⟨(ba 79 []),[],(List.replicate 79 [])⟩)
abbrev aq.L0.X:=(aq.L0.X0)⊕(aq.L0.X1)
abbrev aq.L0.Y:=(aq.L0.Y0)⊕(aq.L0.Y1)
def aq.L0.out:aq.L0.X→Out (Exit×AS):=fun x=> .br x.isLeft (.get x.getLeft? fun a=> .ok (aq.L0.bw a)) (.get x.getRight? fun b=> .ok (aq.L0.eO b))
def aq.L0.add:aq.L0.D→aq.L0.Y→aq.L0.X:=fun(a_2,b_2,i) y=>match y with | .inl y=> .inl y | .inr z=> .inr (z)
abbrev aq.L1.D:=Lk×Lk×Int×Int×gm×gm
def aq.L1.st:aq.L1.D→AS:=fun(a_3,b_3,i_2,kv,n6,n7)=>⟨([.undef,.undef,.ej kq a_3,.ej kq b_3,.undef,.d ti i_2,.ptr (.new 6 0) 0 [] 0,.ptr (.new 7 0) 0 [] 0,.d ti kv]++ba 70 []),[],(bK 6 ([[.obj 0 false (.d fo n6)],[.obj 0 false (.d fo n7)]]++bK 71 []))⟩
abbrev aq.L1.Y0:=Unit
abbrev aq.L1.X0:=Unit
def aq.L1.bw:aq.L1.X0→Exit×AS:=fun x=>(.ret,⟨(ba 4 ([.d .bool false]++ba 74 [])),[],(List.replicate 79 [])⟩)
abbrev aq.L1.Y1:=Unit
abbrev aq.L1.X1:=Lk×Lk×Int
def aq.L1.eO:aq.L1.X1→Exit×AS:=fun x=>(.exit 2,⟨([.undef,.undef,.ej kq x.1,.ej kq x.2.1,.undef,.d ti x.2.2]++ba 73 []),[],(List.replicate 79 [])⟩)
abbrev aq.L1.X:=(aq.L1.X0)⊕(aq.L1.X1)
abbrev aq.L1.Y:=(aq.L1.Y0)⊕(aq.L1.Y1)
def aq.L1.out:aq.L1.X→Out (Exit×AS):=fun x=> .br x.isLeft (.get x.getLeft? fun a=> .ok (aq.L1.bw a)) (.get x.getRight? fun b=> .ok (aq.L1.eO b))
def aq.L1.add:aq.L1.D→aq.L1.Y→aq.L1.X:=fun(a_3,b_3,i_2,kv,n6,n7) y=>match y with | .inl y=> .inl y | .inr z=> .inr ((a_3,b_3,i_2))
abbrev aq.D:=Lk×Lk
def aq.st:aq.D→SA:=fun(a,b)=>([.d kq a,.d kq b],[])
abbrev aq.Y:=Bool
abbrev aq.X:=Bool
def aq.out:aq.X→aZ:=fun x=>⟨.d .bool x,[],[]⟩
def aq.add:aq.D→aq.Y→aq.X:=fun(a,b) y=>y
def aq.L1.aD:aq.L1.D→Prop:=fun(a,b,j,i,x,y)=>x.1.length≤1000000000∧x.1.length=y.1.length∧∃k:Nat,k≤x.1.length∧i=k
def aq.L1.F:aq.L1.D→aq.L1.Y:=fun(a,b,j,i,x,y)=>if List.drop (Int.toNat i) x.1=List.drop (Int.toNat i) y.1 then .inr () else .inl ()
def aq.L0.aD:aq.L0.D→Prop:=fun(a,b,i)=>a.1.length≤1000000000∧a.1.length=b.1.length∧(∀x∈a.1,x.1.length≤1000000000)∧∃k:Nat,k≤a.1.length∧i=k
def aq.L0.F:aq.L0.D→aq.L0.Y:=fun(a,b,i)=>if List.drop (Int.toNat i) a.1=List.drop (Int.toNat i) b.1 then .inr () else .inl ()
def aq.aD:aq.D→Prop:=fun(a,b)=>a.1.length≤1000000000∧∀x∈a.1,x.1.length≤1000000000
def aq.F:aq.D→aq.Y:=fun(a,b)=>decide (a.1=b.1)
noncomputable def aq.G:dV:=eY (P:=Tryz.prog) []
noncomputable def aq.L0.E:=bP.cv aq.L0.st aq.L0.aD aq.L0.add aq.L0.F aq.L0.out
noncomputable def aq.L0.call:aq.L0.D→Option aq.L0.X:=dk aq.L0.E aq.L0.st
noncomputable def aq.L1.E:=bP.cv aq.L1.st aq.L1.aD aq.L1.add aq.L1.F aq.L1.out
noncomputable def aq.L1.call:aq.L1.D→Option aq.L1.X:=dk aq.L1.E aq.L1.st
noncomputable def aq.an:eJ:= {loops:=jJ [(4,{bn:=[2,3,5]}),(11,{bn:=[2,3,5,6,7,8],sites:=[6,7]})],outs:=jI [(4,{},{bn:=[4]}),(11,{bn:=[2,3,5]},{bn:=[4]})],fJ:=kz [(4,aq.L0.E),(11,aq.L1.E)]}
noncomputable def aq.A:= @cK Tryz.prog aq.G aq.an 0 Tryz.f94 _ aq.st
abbrev aq.Ok:=cM @aq.A aq.aD aq.add aq.F aq.out
noncomputable def aq.L0.R:= @bV Tryz.prog aq.G aq.an 0 Tryz.f94 0 _ aq.L0.st
abbrev aq.L0.Ok:=eA Tryz.prog aq.G aq.an 0 Tryz.f94 0 aq.L0.st aq.L0.aD aq.L0.add aq.L0.F aq.L0.out
noncomputable def aq.L1.R:= @bV Tryz.prog aq.G aq.an 0 Tryz.f94 1 _ aq.L1.st
abbrev aq.L1.Ok:=eA Tryz.prog aq.G aq.an 0 Tryz.f94 1 aq.L1.st aq.L1.aD aq.L1.add aq.L1.F aq.L1.out
theorem aq.L0.run:bE aq.L0.call aq.L0.aD aq.L0.add aq.L0.F:=eK (eI [.d kq,.d kq,.d ti] fun _=>by kernel_rfl)
theorem aq.L0.aG:iO @aq.L0.R aq.L0.st aq.L0.aD aq.L0.add aq.L0.F aq.L0.out aq.L0.Ok:=jk
theorem aq.L0.step{R:Type}(a_2:Lk)(b_2:Lk)(i:Int)(kn:AS→Option R)(kx:Exit→AS→Option R):aq.L0.R (a_2,b_2,i) kn kx=
  aF ((gb i (((List.length a_2.1):Nat):Int))) (
   aF (dS i (((List.length a_2.1):Nat):Int)) (
   aF (dS i (((List.length b_2.1):Nat):Int)) (
   aF ((gM (nth fo a_2.1 (Int.toNat i)).2.1 (nth fo b_2.1 (Int.toNat i)).2.1)) (
    kx (aq.L0.bw ()).1 (aq.L0.bw ()).2) (
    aF ((gM (nth fo a_2.1 (Int.toNat i)).2.2.1 (nth fo b_2.1 (Int.toNat i)).2.2.1)) (
     kx (aq.L0.bw ()).1 (aq.L0.bw ()).2) (
     aF ((gM (nth fo a_2.1 (Int.toNat i)).2.2.2.1 (nth fo b_2.1 (Int.toNat i)).2.2.2.1)) (
      kx (aq.L0.bw ()).1 (aq.L0.bw ()).2) (
      aF ((gM (((List.length (nth fo a_2.1 (Int.toNat i)).1):Nat):Int) (((List.length (nth fo b_2.1 (Int.toNat i)).1):Nat):Int))) (
       kx (aq.L0.bw ()).1 (aq.L0.bw ()).2) (
       ae (aq.L1.call (a_2,b_2,i,(0:Int),(nth fo a_2.1 (Int.toNat i)),(nth fo b_2.1 (Int.toNat i)))) fun x1=>
       aF (x1.isLeft) (
        ae (x1.getLeft?) fun a2=>
        kx (aq.L0.bw ()).1 (aq.L0.bw ()).2) (
        ae (x1.getRight?) fun b3=>
        kn (aq.L0.st (b3.1,b3.2.1,(bO .i64 b3.2.2 (1:Int)))))))))) none) none) (
   kx (aq.L0.eO ()).1 (aq.L0.eO ()).2):=by kernel_rfl
theorem aq.L1.run:bE aq.L1.call aq.L1.aD aq.L1.add aq.L1.F:=eK (eI [.d kq,.d kq,.d ti,.d ti,.d fo,.d fo] fun _=>by kernel_rfl)
theorem aq.L1.aG:iO @aq.L1.R aq.L1.st aq.L1.aD aq.L1.add aq.L1.F aq.L1.out aq.L1.Ok:=jk
theorem aq.L1.step{R:Type}(a_3:Lk)(b_3:Lk)(i_2:Int)(kv:Int)(n6:gm)(n7:gm)(kn:AS→Option R)(kx:Exit→AS→Option R):aq.L1.R (a_3,b_3,i_2,kv,n6,n7) kn kx=
  aF ((gb kv (((List.length n6.1):Nat):Int))) (
   aF (dS kv (((List.length n6.1):Nat):Int)) (
   aF (dS kv (((List.length n7.1):Nat):Int)) (
   aF ((gM (nth tu n6.1 (Int.toNat kv)) (nth tu n7.1 (Int.toNat kv)))) (
    kx (aq.L1.bw ()).1 (aq.L1.bw ()).2) (
    kn (aq.L1.st (a_3,b_3,i_2,(bO .i64 kv (1:Int)),n6,n7)))) none) none) (
   kx (aq.L1.eO (a_3,b_3,i_2)).1 (aq.L1.eO (a_3,b_3,i_2)).2):=by kernel_rfl
theorem aq.eq{R:Type}(a:Lk)(b:Lk)(k:aZ→Option R):aq.A (a,b) k=
  aF ((gM (((List.length a.1):Nat):Int) (((List.length b.1):Nat):Int))) (
   k (aq.out false)) (
   ae (aq.L0.call (a,b,(0:Int))) fun x4=>
   aF (x4.isLeft) (
    ae (x4.getLeft?) fun a5=>
    k (aq.out false)) (
    ae (x4.getRight?) fun b6=>
    k (aq.out true))):=by kernel_rfl
theorem aq.L1.ok:aq.L1.Ok:=by
 refine aq.L1.aG (fun(a,b,j,i,x,y)=>x.1.length - Int.toNat i) ?_
 rintro⟨a,b,j,i,x,y⟩ ⟨hlen,hab,k,hk,rfl⟩
 have hlen:x.1.length≤1000000000:=hlen
 have hab:x.1.length=y.1.length:=hab
 have hk:k≤x.1.length:=hk
 by_cases h:k < x.1.length
 ·have h2:k < y.1.length:=by omega
  have n1:nth tu x.1 k=x.1[k]:=bZ (t:=tu) h
  have n2:nth tu y.1 k=y.1[k]:=bZ (t:=tu) h2
  have hd:(List.drop k x.1=List.drop k y.1)=(x.1[k]=y.1[k]∧List.drop (k+1) x.1=List.drop (k+1) y.1):=by rw[List.drop_eq_getElem_cons h,List.drop_eq_getElem_cons h2,List.cons.injEq]
  have step:∀ {R:Type} (kn:AS→Option R) (kx:Exit→AS→Option R),aq.L1.R (a,b,j,(k:Int),x,y) kn kx=if x.1[k]=y.1[k] then kn (aq.L1.st (a,b,j,((k+1:Nat):Int),x,y)) else kx (aq.L1.bw ()).1 (aq.L1.bw ()).2:=by
   intro R kn kx
   rw[aq.L1.step,bA (by omega),bh (by omega) (by omega),bh (by omega) (by omega),Int.toNat_natCast,n1,n2]
   simp only[ay]
   rw[N.kr (by omega)]
   by_cases hx:x.1[k]=y.1[k]
   ·rw[bM hx,if_pos hx];rfl
   ·rw[dA hx,if_neg hx];rfl
  by_cases hx:x.1[k]=y.1[k]
  ·left
   refine⟨(a,b,j,((k+1:Nat):Int),x,y),⟨hlen,hab,k+1,by omega,rfl⟩,by simp only[Int.toNat_natCast];omega,?_,fun kn kx=> ?_⟩
   ·simp only[aq.L1.add,aq.L1.F,Int.toNat_natCast,hd,hx,true_and]
   ·rw[step,if_pos hx]
  ·right
   refine⟨aq.L1.bw (),?_,fun kn kx=> ?_⟩
   ·simp only[aq.L1.add,aq.L1.F,Int.toNat_natCast,hd,hx,false_and,if_false]
    rfl
   ·rw[step,if_neg hx]
 ·right
  obtain rfl:k=x.1.length:=by omega
  refine⟨aq.L1.eO (a,b,j),?_,fun kn kx=> ?_⟩
  ·simp only[aq.L1.add,aq.L1.F,Int.toNat_natCast,List.drop_length]
   rw[hab,List.drop_length,if_pos rfl]
   rfl
  ·rw[aq.L1.step,bm (by omega),ao]
theorem aq.L0.ok:aq.L0.Ok:=by
 refine aq.L0.aG (fun(a,b,i)=>a.1.length - Int.toNat i) ?_
 rintro⟨a,b,i⟩ ⟨hlen,hab,hs,k,hk,rfl⟩
 have hlen:a.1.length≤1000000000:=hlen
 have hab:a.1.length=b.1.length:=hab
 have hk:k≤a.1.length:=hk
 have hs:∀x∈a.1,x.1.length≤1000000000:=hs
 by_cases h:k < a.1.length
 ·have h2:k < b.1.length:=by omega
  have n1:nth fo a.1 k=a.1[k]:=bZ (t:=fo) h
  have n2:nth fo b.1 k=b.1[k]:=bZ (t:=fo) h2
  have hd:(List.drop k a.1=List.drop k b.1)=(a.1[k]=b.1[k]∧List.drop (k+1) a.1=List.drop (k+1) b.1):=by rw[List.drop_eq_getElem_cons h,List.drop_eq_getElem_cons h2,List.cons.injEq]
  have step:∀ {R:Type} (kn:AS→Option R) (kx:Exit→AS→Option R),aq.L0.R (a,b,(k:Int)) kn kx=if a.1[k]=b.1[k] then kn (aq.L0.st (a,b,((k+1:Nat):Int))) else kx (aq.L0.bw ()).1 (aq.L0.bw ()).2:=by
   intro R kn kx
   rw[aq.L0.step,bA (by omega),bh (by omega) (by omega),bh (by omega) (by omega),Int.toNat_natCast,n1,n2]
   simp only[ay]
   have hsk:=hs _ (List.getElem_mem h)
   obtain⟨⟨k1,a1,d1,s1,u1⟩,e1⟩:∃x,a.1[k]=x:=⟨_,rfl⟩
   obtain⟨⟨k2,a2,d2,s2,u2⟩,e2⟩:∃x,b.1[k]=x:=⟨_,rfl⟩
   rw[e1]at hsk ⊢
   rw[e2]
   dsimp only
   have hsk:k1.length≤1000000000:=hsk
   by_cases q2:a1=a2
   ·by_cases q3:d1=d2
    ·by_cases q4:s1=s2
     ·by_cases q1:k1.length=k2.length
      ·rw[bM q2,bM q3,bM q4,bM (by omega),aq.L1.run (d:=(a,b,(k:Int),0,(k1,a1,d1,s1,u1),(k2,a2,d2,s2,u2))) ⟨hsk,q1,0,Nat.zero_le _,rfl⟩]
       simp only[ao,aa,aq.L1.add,aq.L1.F,Int.toNat_zero,List.drop_zero]
       by_cases q5:k1=k2
       ·rw[if_pos q5,if_pos (by rw[q5,q2,q3,q4])]
        simp only[Sum.isLeft_inr,Sum.getRight?_inr,ao,aa]
        rw[N.kr (by omega)]
       ·rw[if_neg q5,if_neg (by rintro⟨⟩;exact q5 rfl)]
        rfl
      ·rw[bM q2,bM q3,bM q4,dA (by omega),if_neg (by rintro⟨⟩;exact q1 rfl)];rfl
     ·rw[bM q2,bM q3,dA q4,if_neg (by rintro⟨⟩;exact q4 rfl)];rfl
    ·rw[bM q2,dA q3,if_neg (by rintro⟨⟩;exact q3 rfl)];rfl
   ·rw[dA q2,if_neg (by rintro⟨⟩;exact q2 rfl)];rfl
  by_cases hx:a.1[k]=b.1[k]
  ·left
   refine⟨(a,b,((k+1:Nat):Int)),⟨hlen,hab,hs,k+1,by omega,rfl⟩,by simp only[Int.toNat_natCast];omega,?_,fun kn kx=> ?_⟩
   ·simp only[aq.L0.add,aq.L0.F,Int.toNat_natCast,hd,hx,true_and]
   ·rw[step,if_pos hx]
  ·right
   refine⟨aq.L0.bw (),?_,fun kn kx=> ?_⟩
   ·simp only[aq.L0.add,aq.L0.F,Int.toNat_natCast,hd,hx,false_and,if_false]
    rfl
   ·rw[step,if_neg hx]
 ·right
  obtain rfl:k=a.1.length:=by omega
  refine⟨aq.L0.eO (),?_,fun kn kx=> ?_⟩
  ·simp only[aq.L0.add,aq.L0.F,Int.toNat_natCast,List.drop_length]
   rw[hab,List.drop_length,if_pos rfl]
   rfl
  ·rw[aq.L0.step,bm (by omega),ao]
theorem aq.ok:aq.Ok:=by
 rintro⟨a,b⟩ ⟨h,hs⟩
 have h:a.1.length≤1000000000:=h
 rw[aq.eq]
 simp only[aq.add,aq.F]
 by_cases e3:a.1.length=b.1.length
 ·rw[bM (by omega),aq.L0.run (d:=(a,b,0)) ⟨h,e3,hs,0,Nat.zero_le _,rfl⟩]
  simp only[aa,aq.L0.add,aq.L0.F,Int.toNat_zero,List.drop_zero,ao]
  by_cases e4:a.1=b.1
  ·rw[if_pos e4,aR e4];rfl
  ·rw[if_neg e4,aO e4];rfl
 ·rw[dA (by omega),aO (fun x=>e3 (by rw[x]))];rfl
noncomputable def aq.E:=Entry.cv [some kq,some kq] aq.st aq.aD aq.add aq.F aq.out
noncomputable def aq.call:aq.D→Option aq.X:=bJ aq.E aq.st
theorem aq.run:bE aq.call aq.aD aq.add aq.F:=cQ (cP [.d kq,.d kq] fun _=>by kernel_rfl)
noncomputable def aq.sg:SG Tryz.prog:=⟨94,aW,aq.E,.fn 2 (by kernel_rfl) aq.ok (And.intro (.cv aq.L0.ok (by kernel_rfl)) (And.intro (.cv aq.L1.ok (by kernel_rfl)) trivial))⟩
abbrev aj.L0.D:=eD×eD×Int
def aj.L0.st:aj.L0.D→AS:=fun(a_2,b_2,i)=>⟨([.undef,.undef,.ej fw a_2,.ej fw b_2,.undef,.d ti i]++ba 96 []),[],(List.replicate 102 [])⟩
abbrev aj.L0.Y0:=Unit
abbrev aj.L0.X0:=Unit
def aj.L0.bw:aj.L0.X0→Exit×AS:=fun x=>(.ret,⟨(ba 4 ([.d .bool false]++ba 97 [])),[],(List.replicate 102 [])⟩)
abbrev aj.L0.Y1:=Unit
abbrev aj.L0.X1:=eD×eD
def aj.L0.eO:aj.L0.X1→Exit×AS:=fun x=>(.exit 0,⟨([.undef,.undef,.ej fw x.1,.ej fw x.2]++ba 98 []),[],(List.replicate 102 [])⟩)
abbrev aj.L0.X:=(aj.L0.X0)⊕(aj.L0.X1)
abbrev aj.L0.Y:=(aj.L0.Y0)⊕(aj.L0.Y1)
def aj.L0.out:aj.L0.X→Out (Exit×AS):=fun x=> .br x.isLeft (.get x.getLeft? fun a=> .ok (aj.L0.bw a)) (.get x.getRight? fun b=> .ok (aj.L0.eO b))
def aj.L0.add:aj.L0.D→aj.L0.Y→aj.L0.X:=fun(a_2,b_2,i) y=>match y with | .inl y=> .inl y | .inr z=> .inr ((a_2,b_2))
abbrev aj.L1.D:=eD×eD×Int
def aj.L1.st:aj.L1.D→AS:=fun(a_3,b_3,i_2)=>⟨([.undef,.undef,.ej fw a_3,.ej fw b_3,.undef,.undef,.d ti i_2]++ba 95 []),[],(List.replicate 102 [])⟩
abbrev aj.L1.Y0:=Unit
abbrev aj.L1.X0:=Unit
def aj.L1.bw:aj.L1.X0→Exit×AS:=fun x=>(.ret,⟨(ba 4 ([.d .bool false]++ba 97 [])),[],(List.replicate 102 [])⟩)
abbrev aj.L1.Y1:=Unit
abbrev aj.L1.X1:=Unit
def aj.L1.eO:aj.L1.X1→Exit×AS:=fun x=>(.exit 2,⟨(ba 102 []),[],(List.replicate 102 [])⟩)
abbrev aj.L1.X:=(aj.L1.X0)⊕(aj.L1.X1)
abbrev aj.L1.Y:=(aj.L1.Y0)⊕(aj.L1.Y1)
def aj.L1.out:aj.L1.X→Out (Exit×AS):=fun x=> .br x.isLeft (.get x.getLeft? fun a=> .ok (aj.L1.bw a)) (.get x.getRight? fun b=> .ok (aj.L1.eO b))
def aj.L1.add:aj.L1.D→aj.L1.Y→aj.L1.X:=fun(a_3,b_3,i_2) y=>match y with | .inl y=> .inl y | .inr z=> .inr (z)
abbrev aj.D:=eD×eD
def aj.st:aj.D→SA:=fun(a,b)=>([.d fw a,.d fw b],[])
abbrev aj.Y:=Bool
abbrev aj.X:=Bool
def aj.out:aj.X→aZ:=fun x=>⟨.d .bool x,[],[]⟩
def aj.add:aj.D→aj.Y→aj.X:=fun(a,b) y=>y
def aj.L0.aD:aj.L0.D→Prop:=fun(a,b,i)=>a.1.length≤1000000000∧a.1.length=b.1.length∧(∀x∈a.1,x.2.1.2.1.length≤1000000000)∧∃k:Nat,k≤a.1.length∧i=k
def aj.L0.F:aj.L0.D→aj.L0.Y:=fun(a,b,i)=>if List.drop (Int.toNat i) a.1=List.drop (Int.toNat i) b.1 then .inr () else .inl ()
def aj.L1.aD:aj.L1.D→Prop:=fun(a,b,i)=>a.2.1.length≤1000000000∧a.2.1.length=b.2.1.length∧(∀x∈a.2.1,x.2.1.1.length≤1000000000∧∀b∈x.2.1.1,b.1.length≤1000000000)∧∃k:Nat,k≤a.2.1.length∧i=k
def aj.L1.F:aj.L1.D→aj.L1.Y:=fun(a,b,i)=>if List.drop (Int.toNat i) a.2.1=List.drop (Int.toNat i) b.2.1 then .inr () else .inl ()
def aj.aD:aj.D→Prop:=fun(a,b)=>oC a
def aj.F:aj.D→aj.Y:=fun(a,b)=>decide (a=b)
noncomputable def aj.G:dV:=eY (P:=Tryz.prog) [aU.sg,aq.sg]
noncomputable def aj.L0.E:=bP.cv aj.L0.st aj.L0.aD aj.L0.add aj.L0.F aj.L0.out
noncomputable def aj.L0.call:aj.L0.D→Option aj.L0.X:=dk aj.L0.E aj.L0.st
noncomputable def aj.L1.E:=bP.cv aj.L1.st aj.L1.aD aj.L1.add aj.L1.F aj.L1.out
noncomputable def aj.L1.call:aj.L1.D→Option aj.L1.X:=dk aj.L1.E aj.L1.st
noncomputable def aj.an:eJ:= {loops:=jJ [(4,{bn:=[2,3,5]}),(9,{bn:=[2,3,6]})],outs:=jI [(4,{bn:=[2,3]},{bn:=[4]}),(9,{},{bn:=[4]})],fJ:=kz [(4,aj.L0.E),(9,aj.L1.E)]}
noncomputable def aj.A:= @cK Tryz.prog aj.G aj.an 0 Tryz.f28 _ aj.st
abbrev aj.Ok:=cM @aj.A aj.aD aj.add aj.F aj.out
noncomputable def aj.L0.R:= @bV Tryz.prog aj.G aj.an 0 Tryz.f28 0 _ aj.L0.st
abbrev aj.L0.Ok:=eA Tryz.prog aj.G aj.an 0 Tryz.f28 0 aj.L0.st aj.L0.aD aj.L0.add aj.L0.F aj.L0.out
noncomputable def aj.L1.R:= @bV Tryz.prog aj.G aj.an 0 Tryz.f28 1 _ aj.L1.st
abbrev aj.L1.Ok:=eA Tryz.prog aj.G aj.an 0 Tryz.f28 1 aj.L1.st aj.L1.aD aj.L1.add aj.L1.F aj.L1.out
theorem aj.L0.run:bE aj.L0.call aj.L0.aD aj.L0.add aj.L0.F:=eK (eI [.d fw,.d fw,.d ti] fun _=>by kernel_rfl)
theorem aj.L0.aG:iO @aj.L0.R aj.L0.st aj.L0.aD aj.L0.add aj.L0.F aj.L0.out aj.L0.Ok:=jk
theorem aj.L0.step{R:Type}(a_2:eD)(b_2:eD)(i:Int)(kn:AS→Option R)(kx:Exit→AS→Option R):aj.L0.R (a_2,b_2,i) kn kx=
  aF ((gb i (((List.length a_2.1):Nat):Int))) (
   aF (dS i (((List.length a_2.1):Nat):Int)) (
   aF (dS i (((List.length b_2.1):Nat):Int)) (
   aF ((!(Ty.beq iC (nth cH a_2.1 (Int.toNat i)).1 (nth cH b_2.1 (Int.toNat i)).1))) (
    kx (aj.L0.bw ()).1 (aj.L0.bw ()).2) (
    aF (dS i (((List.length a_2.1):Nat):Int)) (
    aF (dS i (((List.length b_2.1):Nat):Int)) (
    ae (aU.call ((nth cH a_2.1 (Int.toNat i)).2.1,(nth cH b_2.1 (Int.toNat i)).2.1)) fun x1=>
    aF ((!x1)) (
     kx (aj.L0.bw ()).1 (aj.L0.bw ()).2) (
     kn (aj.L0.st (a_2,b_2,(bO .i64 i (1:Int)))))) none) none)) none) none) (
   kx (aj.L0.eO (a_2,b_2)).1 (aj.L0.eO (a_2,b_2)).2):=by kernel_rfl
theorem aj.L1.run:bE aj.L1.call aj.L1.aD aj.L1.add aj.L1.F:=eK (eI [.d fw,.d fw,.d ti] fun _=>by kernel_rfl)
theorem aj.L1.aG:iO @aj.L1.R aj.L1.st aj.L1.aD aj.L1.add aj.L1.F aj.L1.out aj.L1.Ok:=jk
theorem aj.L1.step{R:Type}(a_3:eD)(b_3:eD)(i_2:Int)(kn:AS→Option R)(kx:Exit→AS→Option R):aj.L1.R (a_3,b_3,i_2) kn kx=
  aF ((gb i_2 (((List.length a_3.2.1):Nat):Int))) (
   aF (dS i_2 (((List.length a_3.2.1):Nat):Int)) (
   aF (dS i_2 (((List.length b_3.2.1):Nat):Int)) (
   aF ((gM (nth eX a_3.2.1 (Int.toNat i_2)).1 (nth eX b_3.2.1 (Int.toNat i_2)).1)) (
    kx (aj.L1.bw ()).1 (aj.L1.bw ()).2) (
    aF (dS i_2 (((List.length a_3.2.1):Nat):Int)) (
    aF (dS i_2 (((List.length b_3.2.1):Nat):Int)) (
    ae (aq.call ((nth eX a_3.2.1 (Int.toNat i_2)).2.1,(nth eX b_3.2.1 (Int.toNat i_2)).2.1)) fun x1=>
    aF ((!x1)) (
     kx (aj.L1.bw ()).1 (aj.L1.bw ()).2) (
     kn (aj.L1.st (a_3,b_3,(bO .i64 i_2 (1:Int)))))) none) none)) none) none) (
   kx (aj.L1.eO ()).1 (aj.L1.eO ()).2):=by kernel_rfl
theorem aj.eq{R:Type}(a:eD)(b:eD)(k:aZ→Option R):aj.A (a,b) k=
  aF ((gM a.2.2.1 b.2.2.1)) (
   k (aj.out false)) (
   aF ((gM (((List.length a.1):Nat):Int) (((List.length b.1):Nat):Int))) (
    k (aj.out false)) (
    aF ((gM (((List.length a.2.1):Nat):Int) (((List.length b.2.1):Nat):Int))) (
     k (aj.out false)) (
     ae (aj.L0.call (a,b,(0:Int))) fun x2=>
     aF (x2.isLeft) (
      ae (x2.getLeft?) fun a3=>
      k (aj.out false)) (
      ae (x2.getRight?) fun b4=>
      ae (aj.L1.call (b4.1,b4.2,(0:Int))) fun x6=>
      aF (x6.isLeft) (
       ae (x6.getLeft?) fun a7=>
       k (aj.out false)) (
       ae (x6.getRight?) fun b8=>
       k (aj.out true)))))):=by kernel_rfl
theorem aj.L0.ok:aj.L0.Ok:=by
 refine aj.L0.aG (fun(a,b,i)=>a.1.length - Int.toNat i) ?_
 rintro⟨a,b,i⟩ ⟨hlen,hab,hs,k,hk,rfl⟩
 have hlen:a.1.length≤1000000000:=hlen
 have hab:a.1.length=b.1.length:=hab
 have hk:k≤a.1.length:=hk
 have hs:∀x∈a.1,x.2.1.2.1.length≤1000000000:=hs
 by_cases h:k < a.1.length
 ·have h2:k < b.1.length:=by omega
  have n1:nth cH a.1 k=a.1[k]:=bZ (t:=cH) h
  have n2:nth cH b.1 k=b.1[k]:=bZ (t:=cH) h2
  have hd:(List.drop k a.1=List.drop k b.1)=(a.1[k]=b.1[k]∧List.drop (k+1) a.1=List.drop (k+1) b.1):=by rw[List.drop_eq_getElem_cons h,List.drop_eq_getElem_cons h2,List.cons.injEq]
  have step:∀ {R:Type} (kn:AS→Option R) (kx:Exit→AS→Option R),aj.L0.R (a,b,(k:Int)) kn kx=if a.1[k]=b.1[k] then kn (aj.L0.st (a,b,((k+1:Nat):Int))) else kx (aj.L0.bw ()).1 (aj.L0.bw ()).2:=by
   intro R kn kx
   rw[aj.L0.step,bA (by omega),bh (by omega) (by omega),bh (by omega) (by omega),Int.toNat_natCast,n1,n2]
   simp only[ay]
   have e:=hs _ (List.getElem_mem h)
   rw[pZ,N.kr (by omega),aU.run (d:=(a.1[k].2.1,b.1[k].2.1)) e]
   simp only[aa,aU.add,aU.F]
   obtain⟨⟨f1,w1,u1⟩,e1⟩:∃x,a.1[k]=x:=⟨_,rfl⟩
   obtain⟨⟨f2,w2,u2⟩,e2⟩:∃x,b.1[k]=x:=⟨_,rfl⟩
   rw[e1,e2]
   by_cases q1:f1=f2
   ·by_cases q2:w1=w2
    ·rw[aR q1,aR q2,if_pos (by rw[q1,q2])];rfl
    ·rw[aR q1,aO q2,if_neg (by rintro⟨⟩;exact q2 rfl)];rfl
   ·rw[aO q1,if_neg (by rintro⟨⟩;exact q1 rfl)];rfl
  by_cases hx:a.1[k]=b.1[k]
  ·left
   refine⟨(a,b,((k+1:Nat):Int)),⟨hlen,hab,hs,k+1,by omega,rfl⟩,by simp only[Int.toNat_natCast];omega,?_,fun kn kx=> ?_⟩
   ·simp only[aj.L0.add,aj.L0.F,Int.toNat_natCast,hd,hx,true_and]
   ·rw[step,if_pos hx]
  ·right
   refine⟨aj.L0.bw (),?_,fun kn kx=> ?_⟩
   ·simp only[aj.L0.add,aj.L0.F,Int.toNat_natCast,hd,hx,false_and,if_false]
    rfl
   ·rw[step,if_neg hx]
 ·right
  obtain rfl:k=a.1.length:=by omega
  refine⟨aj.L0.eO (a,b),?_,fun kn kx=> ?_⟩
  ·simp only[aj.L0.add,aj.L0.F,Int.toNat_natCast,List.drop_length]
   rw[hab,List.drop_length,if_pos rfl]
   rfl
  ·rw[aj.L0.step,bm (by omega),ao]
theorem aj.L1.ok:aj.L1.Ok:=by
 refine aj.L1.aG (fun(a,b,i)=>a.2.1.length - Int.toNat i) ?_
 rintro⟨a,b,i⟩ ⟨hlen,hab,hs,k,hk,rfl⟩
 have hlen:a.2.1.length≤1000000000:=hlen
 have hab:a.2.1.length=b.2.1.length:=hab
 have hk:k≤a.2.1.length:=hk
 have hs:∀x∈a.2.1,x.2.1.1.length≤1000000000∧∀b∈x.2.1.1,b.1.length≤1000000000:=hs
 by_cases h:k < a.2.1.length
 ·have h2:k < b.2.1.length:=by omega
  have n1:nth eX a.2.1 k=a.2.1[k]:=bZ (t:=eX) h
  have n2:nth eX b.2.1 k=b.2.1[k]:=bZ (t:=eX) h2
  have hd:(List.drop k a.2.1=List.drop k b.2.1)=(a.2.1[k]=b.2.1[k]∧List.drop (k+1) a.2.1=List.drop (k+1) b.2.1):=by rw[List.drop_eq_getElem_cons h,List.drop_eq_getElem_cons h2,List.cons.injEq]
  have step:∀ {R:Type} (kn:AS→Option R) (kx:Exit→AS→Option R),aj.L1.R (a,b,(k:Int)) kn kx=if a.2.1[k]=b.2.1[k] then kn (aj.L1.st (a,b,((k+1:Nat):Int))) else kx (aj.L1.bw ()).1 (aj.L1.bw ()).2:=by
   intro R kn kx
   rw[aj.L1.step,bA (by omega),bh (by omega) (by omega),bh (by omega) (by omega),Int.toNat_natCast,n1,n2]
   simp only[ay]
   have e:=hs _ (List.getElem_mem h)
   rw[N.kr (by omega),aq.run (d:=(a.2.1[k].2.1,b.2.1[k].2.1)) e]
   simp only[aa,aq.add,aq.F]
   obtain⟨⟨n1,⟨l1,v1⟩,u1⟩,e1⟩:∃x,a.2.1[k]=x:=⟨_,rfl⟩
   obtain⟨⟨n2,⟨l2,v2⟩,u2⟩,e2⟩:∃x,b.2.1[k]=x:=⟨_,rfl⟩
   rw[e1,e2]
   by_cases q1:n1=n2
   ·by_cases q2:l1=l2
    ·rw[bM q1,aR q2,if_pos (by rw[q1,q2])];rfl
    ·rw[bM q1,aO q2,if_neg (by rintro⟨⟩;exact q2 rfl)];rfl
   ·rw[dA q1,if_neg (by rintro⟨⟩;exact q1 rfl)];rfl
  by_cases hx:a.2.1[k]=b.2.1[k]
  ·left
   refine⟨(a,b,((k+1:Nat):Int)),⟨hlen,hab,hs,k+1,by omega,rfl⟩,by simp only[Int.toNat_natCast];omega,?_,fun kn kx=> ?_⟩
   ·simp only[aj.L1.add,aj.L1.F,Int.toNat_natCast,hd,hx,true_and]
   ·rw[step,if_pos hx]
  ·right
   refine⟨aj.L1.bw (),?_,fun kn kx=> ?_⟩
   ·simp only[aj.L1.add,aj.L1.F,Int.toNat_natCast,hd,hx,false_and,if_false]
    rfl
   ·rw[step,if_neg hx]
 ·right
  obtain rfl:k=a.2.1.length:=by omega
  refine⟨aj.L1.eO (),?_,fun kn kx=> ?_⟩
  ·simp only[aj.L1.add,aj.L1.F,Int.toNat_natCast,List.drop_length]
   rw[hab,List.drop_length,if_pos rfl]
   rfl
  ·rw[aj.L1.step,bm (by omega),ao]
theorem aj.ok:aj.Ok:=by
 rintro⟨⟨i1,o1,n1,u1⟩,⟨i2,o2,n2,u2⟩⟩ h
 have h:oC (i1,o1,n1,u1):=h
 have hi:i1.length≤1000000000:=h.1.1
 have ho:o1.length≤1000000000:=h.2.1
 rw[aj.eq]
 simp only[aj.add,aj.F]
 by_cases e1:n1=n2
 ·by_cases e2:i1.length=i2.length
  ·by_cases e3:o1.length=o2.length
   ·rw[bM e1,bM (by omega),bM (by omega),aj.L0.run (d:=((i1,o1,n1,u1),(i2,o2,n2,u2),0)) ⟨hi,e2,h.1.2,0,Nat.zero_le _,rfl⟩]
    simp only[aa,aj.L0.add,aj.L0.F,Int.toNat_zero,List.drop_zero,ao]
    by_cases e4:i1=i2
    ·rw[if_pos e4]
     simp only[Sum.isLeft_inr,Sum.getRight?_inr,ao,aa]
     rw[aj.L1.run (d:=((i1,o1,n1,u1),(i2,o2,n2,u2),0)) ⟨ho,e3,h.2.2,0,Nat.zero_le _,rfl⟩]
     simp only[aa,aj.L1.add,aj.L1.F,Int.toNat_zero,List.drop_zero]
     by_cases e5:o1=o2
     ·rw[if_pos e5,aR (by rw[e1,e4,e5])];rfl
     ·rw[if_neg e5,aO (by rintro⟨⟩;exact e5 rfl)];rfl
    ·rw[if_neg e4,aO (by rintro⟨⟩;exact e4 rfl)];rfl
   ·rw[bM e1,bM (by omega),dA (by omega),aO (by rintro⟨⟩;exact e3 rfl)];rfl
  ·rw[bM e1,dA (by omega),aO (by rintro⟨⟩;exact e2 rfl)];rfl
 ·rw[dA e1,aO (by rintro⟨⟩;exact e1 rfl)];rfl
noncomputable def aj.E:=Entry.cv [some fw,some fw] aj.st aj.aD aj.add aj.F aj.out
noncomputable def aj.call:aj.D→Option aj.X:=bJ aj.E aj.st
theorem aj.run:bE aj.call aj.aD aj.add aj.F:=cQ (cP [.d fw,.d fw] fun _=>by kernel_rfl)
noncomputable def aj.sg:SG Tryz.prog:=⟨28,aW,aj.E,.fn 2 (by kernel_rfl) aj.ok (And.intro (.cv aj.L0.ok (by kernel_rfl)) (And.intro (.cv aj.L1.ok (by kernel_rfl)) trivial))⟩
abbrev az.L0.D:=(List jB)×(List jB)×Int
def az.L0.st:az.L0.D→AS:=fun(a_2,b_2,i)=>⟨([.d (.slice iC) a_2,.d (.slice iC) b_2,.undef,.undef,.undef,.d ti i]++ba 20 []),[],(List.replicate 26 [])⟩
abbrev az.L0.Y0:=Unit
abbrev az.L0.X0:=Unit
def az.L0.bw:az.L0.X0→Exit×AS:=fun x=>(.ret,⟨(ba 4 ([.d .bool false]++ba 21 [])),[],(List.replicate 26 [])⟩)
abbrev az.L0.Y1:=Unit
abbrev az.L0.X1:=Unit
def az.L0.eO:az.L0.X1→Exit×AS:=fun x=>(.exit 0,⟨(ba 26 []),[],(List.replicate 26 [])⟩)
abbrev az.L0.X:=(az.L0.X0)⊕(az.L0.X1)
abbrev az.L0.Y:=(az.L0.Y0)⊕(az.L0.Y1)
def az.L0.out:az.L0.X→Out (Exit×AS):=fun x=> .br x.isLeft (.get x.getLeft? fun a=> .ok (az.L0.bw a)) (.get x.getRight? fun b=> .ok (az.L0.eO b))
def az.L0.add:az.L0.D→az.L0.Y→az.L0.X:=fun(a_2,b_2,i) y=>match y with | .inl y=> .inl y | .inr z=> .inr (z)
abbrev az.D:=(List jB)×(List jB)
def az.st:az.D→SA:=fun(a,b)=>([.d (.slice iC) a,.d (.slice iC) b],[])
abbrev az.Y:=Bool
abbrev az.X:=Bool
def az.out:az.X→aZ:=fun x=>⟨.d .bool x,[],[]⟩
def az.add:az.D→az.Y→az.X:=fun(a,b) y=>y
def az.L0.aD:az.L0.D→Prop:=fun(a,b,i)=>a.length≤1000000000∧a.length=b.length∧∃k:Nat,k≤a.length∧i=k
def az.L0.F:az.L0.D→az.L0.Y:=fun(a,b,i)=>if List.drop (Int.toNat i) a=List.drop (Int.toNat i) b then .inr () else .inl ()
def az.aD:az.D→Prop:=fun(a,b)=>a.length≤1000000000
def az.F:az.D→az.Y:=fun(a,b)=>decide (a=b)
noncomputable def az.G:dV:=eY (P:=Tryz.prog) []
noncomputable def az.L0.E:=bP.cv az.L0.st az.L0.aD az.L0.add az.L0.F az.L0.out
noncomputable def az.L0.call:az.L0.D→Option az.L0.X:=dk az.L0.E az.L0.st
noncomputable def az.an:eJ:= {loops:=jJ [(4,{bn:=[0,1,5]})],outs:=jI [(4,{},{bn:=[4]})],fJ:=kz [(4,az.L0.E)]}
noncomputable def az.A:= @cK Tryz.prog az.G az.an 0 Tryz.f37 _ az.st
abbrev az.Ok:=cM @az.A az.aD az.add az.F az.out
noncomputable def az.L0.R:= @bV Tryz.prog az.G az.an 0 Tryz.f37 0 _ az.L0.st
abbrev az.L0.Ok:=eA Tryz.prog az.G az.an 0 Tryz.f37 0 az.L0.st az.L0.aD az.L0.add az.L0.F az.L0.out
theorem az.L0.run:bE az.L0.call az.L0.aD az.L0.add az.L0.F:=eK (eI [.d (.slice iC),.d (.slice iC),.d ti] fun _=>by kernel_rfl)
theorem az.L0.aG:iO @az.L0.R az.L0.st az.L0.aD az.L0.add az.L0.F az.L0.out az.L0.Ok:=jk
theorem az.L0.step{R:Type}(a_2:(List jB))(b_2:(List jB))(i:Int)(kn:AS→Option R)(kx:Exit→AS→Option R):az.L0.R (a_2,b_2,i) kn kx=
  aF ((gb i (((List.length a_2):Nat):Int))) (
   aF (dS i (((List.length a_2):Nat):Int)) (
   aF (dS i (((List.length b_2):Nat):Int)) (
   aF ((!(Ty.beq iC (nth iC a_2 (Int.toNat i)) (nth iC b_2 (Int.toNat i))))) (
    kx (az.L0.bw ()).1 (az.L0.bw ()).2) (
    kn (az.L0.st (a_2,b_2,(bO .i64 i (1:Int)))))) none) none) (
   kx (az.L0.eO ()).1 (az.L0.eO ()).2):=by kernel_rfl
theorem az.eq{R:Type}(a:(List jB))(b:(List jB))(k:aZ→Option R):az.A (a,b) k=
  aF ((gM (((List.length a):Nat):Int) (((List.length b):Nat):Int))) (
   k (az.out false)) (
   ae (az.L0.call (a,b,(0:Int))) fun x1=>
   aF (x1.isLeft) (
    ae (x1.getLeft?) fun a2=>
    k (az.out false)) (
    ae (x1.getRight?) fun b3=>
    k (az.out true))):=by kernel_rfl
theorem az.L0.ok:az.L0.Ok:=by
 refine az.L0.aG (fun(a,b,i)=>a.length - Int.toNat i) ?_
 rintro⟨a,b,i⟩ ⟨hlen,hab,k,hk,rfl⟩
 have hlen:a.length≤1000000000:=hlen
 have hab:a.length=b.length:=hab
 have hk:k≤a.length:=hk
 by_cases h:k < a.length
 ·have h2:k < b.length:=by omega
  have n1:nth iC a k=a[k]:=bZ (t:=iC) h
  have n2:nth iC b k=b[k]:=bZ (t:=iC) h2
  have hd:(List.drop k a=List.drop k b)=(a[k]=b[k]∧List.drop (k+1) a=List.drop (k+1) b):=by rw[List.drop_eq_getElem_cons h,List.drop_eq_getElem_cons h2,List.cons.injEq]
  have step:∀ {R:Type} (kn:AS→Option R) (kx:Exit→AS→Option R),az.L0.R (a,b,(k:Int)) kn kx=if a[k]=b[k] then kn (az.L0.st (a,b,((k+1:Nat):Int))) else kx (az.L0.bw ()).1 (az.L0.bw ()).2:=by
   intro R kn kx
   rw[az.L0.step,bA (by omega),bh (by omega) (by omega),bh (by omega) (by omega),Int.toNat_natCast,n1,n2]
   simp only[ay]
   rw[pZ,N.kr (by omega)]
   by_cases hx:a[k]=b[k]
   ·rw[aR hx,if_pos hx];rfl
   ·rw[aO hx,if_neg hx];rfl
  by_cases hx:a[k]=b[k]
  ·left
   refine⟨(a,b,((k+1:Nat):Int)),⟨hlen,hab,k+1,by omega,rfl⟩,by simp only[Int.toNat_natCast];omega,?_,fun kn kx=> ?_⟩
   ·simp only[az.L0.add,az.L0.F,Int.toNat_natCast,hd,hx,true_and]
   ·rw[step,if_pos hx]
  ·right
   refine⟨az.L0.bw (),?_,fun kn kx=> ?_⟩
   ·simp only[az.L0.add,az.L0.F,Int.toNat_natCast,hd,hx,false_and,if_false]
    rfl
   ·rw[step,if_neg hx]
 ·right
  obtain rfl:k=a.length:=by omega
  refine⟨az.L0.eO (),?_,fun kn kx=> ?_⟩
  ·simp only[az.L0.add,az.L0.F,Int.toNat_natCast,List.drop_length]
   rw[hab,List.drop_length,if_pos rfl]
   rfl
  ·rw[az.L0.step,bm (by omega),ao]
theorem az.ok:az.Ok:=by
 rintro⟨a,b⟩ h
 have h:a.length≤1000000000:=h
 rw[az.eq]
 simp only[az.add,az.F]
 by_cases e3:a.length=b.length
 ·rw[bM (by omega),az.L0.run (d:=(a,b,0)) ⟨h,e3,0,Nat.zero_le _,rfl⟩]
  simp only[aa,az.L0.add,az.L0.F,Int.toNat_zero,List.drop_zero,ao]
  by_cases e4:a=b
  ·rw[if_pos e4,aR e4];rfl
  ·rw[if_neg e4,aO e4];rfl
 ·rw[dA (by omega),aO (fun x=>e3 (by rw[x]))];rfl
noncomputable def az.E:=Entry.cv [some (.slice iC),some (.slice iC)] az.st az.aD az.add az.F az.out
noncomputable def az.call:az.D→Option az.X:=bJ az.E az.st
theorem az.run:bE az.call az.aD az.add az.F:=cQ (cP [.d (.slice iC),.d (.slice iC)] fun _=>by kernel_rfl)
noncomputable def az.sg:SG Tryz.prog:=⟨37,aW,az.E,.fn 1 (by kernel_rfl) az.ok (And.intro (.cv az.L0.ok (by kernel_rfl)) trivial)⟩
set_option synthInstance.maxSize 5000
abbrev ah.L0.D:=eD×Int×(Int×Unit)×Nat×(Int×Unit)×(List eR)
def ah.L0.st:ah.L0.D→AS:=fun(t_2,i,n2,n3L,n3,n36)=>⟨([.undef,.ej fw t_2,.ptr (.new 2 0) 0 [] 0,.ptr (.new 3 0) 0 [] 0,.d ti i]++ba 89 []),[],([[],[],[.obj 0 false (.pr (.da) (.pr (.da) (.d (.pair ti .unit) n2)))],[.obj 0 false (.pr (.bU (.new 36 0) 0 [] 0 0 n3L) (.pr (.da) (.d (.pair ti .unit) n3)))]]++bK 32 ([[.obj 0 false (.vec 57 cH n36)]]++bK 57 []))⟩
abbrev ah.L0.Y0:=Nat×(List eR)
abbrev ah.L0.X0:=(eD×(Int×Unit)×(Int×Unit))×(Nat×(List eR))
def ah.L0.bw:ah.L0.X0→Exit×AS:=fun x=>(.exit 0,⟨([.undef,.ej fw x.1.1,.ptr (.new 2 0) 0 [] 0,.ptr (.new 3 0) 0 [] 0]++ba 90 []),[],([[],[],[.obj 0 false (.pr (.da) (.pr (.da) (.d (.pair ti .unit) x.1.2.1)))],[.obj 0 false (.pr (.bU (.new 36 0) 0 [] 0 0 x.2.1) (.pr (.da) (.d (.pair ti .unit) x.1.2.2)))]]++bK 32 ([[.obj 0 false (.vec 57 cH x.2.2)]]++bK 57 []))⟩)
abbrev ah.L0.X:=ah.L0.X0
abbrev ah.L0.Y:=ah.L0.Y0
def ah.L0.out:ah.L0.X→Out (Exit×AS):=fun x=> .ok (ah.L0.bw x)
def ah.L0.add:ah.L0.D→ah.L0.Y→ah.L0.X:=fun(t_2,i,n2,n3L,n3,n36) y=>((t_2,n2,n3),y)
abbrev ah.L1.D:=eD×Int×(Int×Unit)×Nat×Nat×(Int×Unit)×(List eR)×(List fL)
def ah.L1.st:ah.L1.D→AS:=fun(t_3,i_2,n2_2,n3L_2,n3L_3,n3_2,n36_2,n91)=>⟨([.undef,.ej fw t_3,.ptr (.new 2 0) 0 [] 0,.ptr (.new 3 0) 0 [] 0,.undef,.undef,.d ti i_2]++ba 87 []),[],([[],[],[.obj 0 false (.pr (.da) (.pr (.da) (.d (.pair ti .unit) n2_2)))],[.obj 0 false (.pr (.bU (.new 36 0) 0 [] 0 0 n3L_2) (.pr (.bU (.new 91 0) 0 [] 0 0 n3L_3) (.d (.pair ti .unit) n3_2)))]]++bK 32 ([[.obj 0 false (.vec 57 cH n36_2)]]++bK 54 [[.obj 0 false (.vec 62 eX n91)],[],[]]))⟩
abbrev ah.L1.Y0:=(Int×Unit)×Nat×Nat×(Int×Unit)×(List eR)×(List fL)
abbrev ah.L1.X0:=(Int×Unit)×Nat×Nat×(Int×Unit)×(List eR)×(List fL)
def ah.L1.bw:ah.L1.X0→Exit×AS:=fun x=>(.exit 2,⟨([.undef,.undef,.ptr (.new 2 0) 0 [] 0,.ptr (.new 3 0) 0 [] 0]++ba 90 []),[],([[],[],[.obj 0 false (.pr (.da) (.pr (.da) (.d (.pair ti .unit) x.1)))],[.obj 0 false (.pr (.bU (.new 36 0) 0 [] 0 0 x.2.1) (.pr (.bU (.new 91 0) 0 [] 0 0 x.2.2.1) (.d (.pair ti .unit) x.2.2.2.1)))]]++bK 32 ([[.obj 0 false (.vec 57 cH x.2.2.2.2.1)]]++bK 54 [[.obj 0 false (.vec 62 eX x.2.2.2.2.2)],[],[]]))⟩)
abbrev ah.L1.X:=ah.L1.X0
abbrev ah.L1.Y:=ah.L1.Y0
def ah.L1.out:ah.L1.X→Out (Exit×AS):=fun x=> .ok (ah.L1.bw x)
def ah.L1.add:ah.L1.D→ah.L1.Y→ah.L1.X:=fun(t_3,i_2,n2_2,n3L_2,n3L_3,n3_2,n36_2,n91) y=>y
abbrev ah.L2.D:=eD×Int×Int×(Int×Unit)×Nat×Nat×(Int×Unit)×Int×Nat×(List eR)×(List gm)×(List fL)
def ah.L2.st:ah.L2.D→AS:=fun(t_4,i_3,kv,n2_3,n3L_4,n3L_5,n3_3,n7,n7L,n36_3,n84,n91_2)=>⟨([.undef,.ej fw t_4,.ptr (.new 2 0) 0 [] 0,.ptr (.new 3 0) 0 [] 0,.undef,.undef,.d ti i_3,.ptr (.new 7 0) 0 [] 0,.d ti kv]++ba 85 []),[],([[],[],[.obj 0 false (.pr (.da) (.pr (.da) (.d (.pair ti .unit) n2_3)))],[.obj 0 false (.pr (.bU (.new 36 0) 0 [] 0 0 n3L_4) (.pr (.bU (.new 91 0) 0 [] 0 0 n3L_5) (.d (.pair ti .unit) n3_3)))],[],[],[],[.obj 0 false (.pr (.d ti n7) (.pr (.pr (.bU (.new 84 0) 0 [] 0 0 n7L) (.d .unit ())) (.d .unit ())))]]++bK 28 ([[.obj 0 false (.vec 57 cH n36_3)]]++bK 47 ([[.obj 0 false (.vec 85 fo n84)]]++bK 6 [[.obj 0 false (.vec 62 eX n91_2)],[],[]])))⟩
abbrev ah.L2.Y0:=Nat×(List gm)
abbrev ah.L2.X0:=(eD×Int×(Int×Unit)×Nat×Nat×(Int×Unit)×Int×(List eR)×(List fL))×(Nat×(List gm))
def ah.L2.bw:ah.L2.X0→Exit×AS:=fun x=>(.exit 4,⟨([.undef,.ej fw x.1.1,.ptr (.new 2 0) 0 [] 0,.ptr (.new 3 0) 0 [] 0,.undef,.undef,.d ti x.1.2.1,.ptr (.new 7 0) 0 [] 0]++ba 86 []),[],([[],[],[.obj 0 false (.pr (.da) (.pr (.da) (.d (.pair ti .unit) x.1.2.2.1)))],[.obj 0 false (.pr (.bU (.new 36 0) 0 [] 0 0 x.1.2.2.2.1) (.pr (.bU (.new 91 0) 0 [] 0 0 x.1.2.2.2.2.1) (.d (.pair ti .unit) x.1.2.2.2.2.2.1)))],[],[],[],[.obj 0 false (.pr (.d ti x.1.2.2.2.2.2.2.1) (.pr (.pr (.bU (.new 84 0) 0 [] 0 0 x.2.1) (.d .unit ())) (.d .unit ())))]]++bK 28 ([[.obj 0 false (.vec 57 cH x.1.2.2.2.2.2.2.2.1)]]++bK 47 ([[.obj 0 false (.vec 85 fo x.2.2)]]++bK 6 [[.obj 0 false (.vec 62 eX x.1.2.2.2.2.2.2.2.2)],[],[]])))⟩)
abbrev ah.L2.X:=ah.L2.X0
abbrev ah.L2.Y:=ah.L2.Y0
def ah.L2.out:ah.L2.X→Out (Exit×AS):=fun x=> .ok (ah.L2.bw x)
def ah.L2.add:ah.L2.D→ah.L2.Y→ah.L2.X:=fun(t_4,i_3,kv,n2_3,n3L_4,n3L_5,n3_3,n7,n7L,n36_3,n84,n91_2) y=>((t_4,i_3,n2_3,n3L_4,n3L_5,n3_3,n7,n36_3,n91_2),y)
abbrev ah.D:=eD
def ah.st:ah.D→SA:=fun t=>([.d fw t],[])
abbrev ah.Y:=Nat×Nat×(Int×Unit)×(List eR)×(List fL)
abbrev ah.X:=Nat×Nat×(Int×Unit)×(List eR)×(List fL)
def ah.out:ah.X→aZ:=fun x=>⟨.pr (.bU (.new 0 0) 0 [] 0 0 x.1) (.pr (.bU (.new 0 1) 0 [] 0 0 x.2.1) (.d (.pair ti .unit) x.2.2.1)),[],[.obj 0 false (.vec 57 cH x.2.2.2.1),.obj 0 false (.vec 62 eX x.2.2.2.2)]⟩
def ah.add:ah.D→ah.Y→ah.X:=fun t y=>y
def ah.L0.aD:ah.L0.D→Prop:=fun(t,i,u,L,v,r)=>(t.1).length≤1000000∧∃k:Nat,k≤(t.1).length∧i=k∧L=(r).length∧(r).length≤1000000+k∧(∀x∈t.1,x.2.1.2.1.length≤1000000)
def ah.L0.F:ah.L0.D→ah.L0.Y:=fun(t,i,u,L,v,r)=>(L+(List.drop (Int.toNat i) t.1).length,r++(List.drop (Int.toNat i) t.1).map (fun x:eR=>x))
def ah.L2.aD:ah.L2.D→Prop:=fun(t,j,i,u,L4,L5,v,am,L,is,r,os)=>((nth eX t.2.1 (Int.toNat j)).2.1.1).length≤1000000∧∃k:Nat,k≤((nth eX t.2.1 (Int.toNat j)).2.1.1).length∧i=k∧L=(r).length∧(r).length≤1000000+k∧(0≤j∧j < (t.2.1.length:Int))∧(∀x∈(nth eX t.2.1 (Int.toNat j)).2.1.1,x.1.length≤1000000)
def ah.L2.F:ah.L2.D→ah.L2.Y:=fun(t,j,i,u,L4,L5,v,am,L,is,r,os)=>(L+(List.drop (Int.toNat i) (nth eX t.2.1 (Int.toNat j)).2.1.1).length,r++(List.drop (Int.toNat i) (nth eX t.2.1 (Int.toNat j)).2.1.1).map (fun x:gm=>x))
def ah.L1.aD:ah.L1.D→Prop:=fun(t,i,u,L3,L,v,is,r)=>(t.2.1.length≤1000∧∀x∈t.2.1,x.2.1.1.length≤1000∧∀b∈x.2.1.1,b.1.length≤1000000)∧∃k:Nat,k≤t.2.1.length∧i=k∧L=r.length∧r.length=k
def ah.L1.F:ah.L1.D→ah.L1.Y:=fun(t,i,u,L3,L,v,is,r)=>(u,L3,L+(t.2.1.drop i.toNat).length,v,is,r++t.2.1.drop i.toNat)
def CH(t:eD):Prop:=(t.1.length≤1000∧∀x∈t.1,x.2.1.2.1.length≤1000000)∧t.2.1.length≤1000∧∀x∈t.2.1,x.2.1.1.length≤1000∧∀b∈x.2.1.1,b.1.length≤1000000
def ah.aD:ah.D→Prop:=fun t=>CH t
def ah.F:ah.D→ah.Y:=fun t=>(t.1.length,t.2.1.length,(t.2.2.1,()),t.1,t.2.1)
noncomputable def ah.G:dV:=eY (P:=Tryz.prog) []
noncomputable def ah.L0.E:=bP.cv ah.L0.st ah.L0.aD ah.L0.add ah.L0.F ah.L0.out
noncomputable def ah.L0.call:ah.L0.D→Option ah.L0.X:=dk ah.L0.E ah.L0.st
noncomputable def ah.L1.E:=bP.cv ah.L1.st ah.L1.aD ah.L1.add ah.L1.F ah.L1.out
noncomputable def ah.L1.call:ah.L1.D→Option ah.L1.X:=dk ah.L1.E ah.L1.st
noncomputable def ah.L2.E:=bP.cv ah.L2.st ah.L2.aD ah.L2.add ah.L2.F ah.L2.out
noncomputable def ah.L2.call:ah.L2.D→Option ah.L2.X:=dk ah.L2.E ah.L2.st
noncomputable def ah.an:eJ:= {bN:=[25,74],loops:=jJ [(3,{bn:=[1,2,3,4],sites:=[2,3,36],iH:=[⟨3,[.fst],36,36⟩]}),(9,{bn:=[1,2,3,6],sites:=[2,3,36,91],iH:=[⟨3,[.snd,.fst],91,37⟩]}),(13,{bn:=[1,2,3,6,7,8],sites:=[2,3,7,36,84,91],iH:=[⟨7,[.snd,.fst,.fst],84,22⟩]})],outs:=jI [(3,{bn:=[1,2,3],sites:=[2,3,36]},{bn:=[2]}),(9,{bn:=[2,3],sites:=[2,3,36,91]},{bn:=[2]}),(13,{bn:=[1,2,3,6,7],sites:=[2,3,7,36,84,91]},{bn:=[2]})],fJ:=kz [(3,ah.L0.E),(9,ah.L1.E),(13,ah.L2.E)]}
noncomputable def ah.A:= @cK Tryz.prog ah.G ah.an 0 Tryz.f23 _ ah.st
abbrev ah.Ok:=cM @ah.A ah.aD ah.add ah.F ah.out
noncomputable def ah.L0.R:= @bV Tryz.prog ah.G ah.an 0 Tryz.f23 0 _ ah.L0.st
abbrev ah.L0.Ok:=eA Tryz.prog ah.G ah.an 0 Tryz.f23 0 ah.L0.st ah.L0.aD ah.L0.add ah.L0.F ah.L0.out
noncomputable def ah.L1.R:= @bV Tryz.prog ah.G ah.an 0 Tryz.f23 1 _ ah.L1.st
abbrev ah.L1.Ok:=eA Tryz.prog ah.G ah.an 0 Tryz.f23 1 ah.L1.st ah.L1.aD ah.L1.add ah.L1.F ah.L1.out
noncomputable def ah.L2.R:= @bV Tryz.prog ah.G ah.an 0 Tryz.f23 2 _ ah.L2.st
abbrev ah.L2.Ok:=eA Tryz.prog ah.G ah.an 0 Tryz.f23 2 ah.L2.st ah.L2.aD ah.L2.add ah.L2.F ah.L2.out
theorem ah.L0.run:bE ah.L0.call ah.L0.aD ah.L0.add ah.L0.F:=eK (eI [.d fw,.d ti,.d (.pair ti .unit),.n,.d (.pair ti .unit),.d (.slice cH)] fun _=>by kernel_rfl)
theorem ah.L0.aG:fX @ah.L0.R ah.L0.st ah.L0.aD ah.L0.add ah.L0.F ah.L0.bw ah.L0.Ok:=gf
theorem ah.L0.step{R:Type}(t_2:eD)(i:Int)(n2:(Int×Unit))(n3L:Nat)(n3:(Int×Unit))(n36:(List eR))(kn:AS→Option R)(kx:Exit→AS→Option R):ah.L0.R (t_2,i,n2,n3L,n3,n36) kn kx=
  aF ((gb i (((List.length t_2.1):Nat):Int))) (
   aF (dS i (((List.length t_2.1):Nat):Int)) (
   aF (du (0+(List.length (nth cH t_2.1 (Int.toNat i)).2.1.2.1)) 16) (
   aF (decide (0=0∧(0+(0+(List.length (nth cH t_2.1 (Int.toNat i)).2.1.2.1)))≤(List.length ((List.take 0 (List.replicate 0 ((0:Int),((0:Int),()))))++(nth cH t_2.1 (Int.toNat i)).2.1.2.1)))) (
   aF (decide (n3L≤(List.length n36))) (
   aF (du (n3L+1) 80) (
   kn (ah.L0.st (t_2,(bO .i64 i (1:Int)),n2,(n3L+1),n3,((List.take n3L n36)++ [((nth cH t_2.1 (Int.toNat i)).1,(((nth cH t_2.1 (Int.toNat i)).2.1.1,((cut ((List.take 0 (List.replicate 0 ((0:Int),((0:Int),()))))++(nth cH t_2.1 (Int.toNat i)).2.1.2.1) 0 (0+(List.length (nth cH t_2.1 (Int.toNat i)).2.1.2.1))),(nth cH t_2.1 (Int.toNat i)).2.1.2.2)),(nth cH t_2.1 (Int.toNat i)).2.2))])))) none) none) none) none) none) (
   kx (ah.L0.bw ((t_2,n2,n3),(n3L,n36))).1 (ah.L0.bw ((t_2,n2,n3),(n3L,n36))).2):=by kernel_rfl
theorem ah.L1.run:bE ah.L1.call ah.L1.aD ah.L1.add ah.L1.F:=eK (eI [.d fw,.d ti,.d (.pair ti .unit),.n,.n,.d (.pair ti .unit),.d (.slice cH),.d (.slice eX)] fun _=>by kernel_rfl)
theorem ah.L1.aG:fX @ah.L1.R ah.L1.st ah.L1.aD ah.L1.add ah.L1.F ah.L1.bw ah.L1.Ok:=gf
theorem ah.L1.step{R:Type}(t_3:eD)(i_2:Int)(n2_2:(Int×Unit))(n3L_2:Nat)(n3L_3:Nat)(n3_2:(Int×Unit))(n36_2:(List eR))(n91:(List fL))(kn:AS→Option R)(kx:Exit→AS→Option R):ah.L1.R (t_3,i_2,n2_2,n3L_2,n3L_3,n3_2,n36_2,n91) kn kx=
  aF ((gb i_2 (((List.length t_3.2.1):Nat):Int))) (
   aF (dS i_2 (((List.length t_3.2.1):Nat):Int)) (
   ae (ah.L2.call (t_3,i_2,(0:Int),n2_2,n3L_2,n3L_3,n3_2,(nth eX t_3.2.1 (Int.toNat i_2)).1,0,n36_2,([]:List gm),n91)) fun x1=>
   aF (decide (0=0∧(0+x1.2.1)≤(List.length x1.2.2))) (
   aF (decide (x1.1.2.2.2.2.1≤(List.length x1.1.2.2.2.2.2.2.2.2))) (
   aF (du (x1.1.2.2.2.2.1+1) 32) (
   kn (ah.L1.st (x1.1.1,(bO .i64 x1.1.2.1 (1:Int)),x1.1.2.2.1,x1.1.2.2.2.1,(x1.1.2.2.2.2.1+1),x1.1.2.2.2.2.2.1,x1.1.2.2.2.2.2.2.2.1,((List.take x1.1.2.2.2.2.1 x1.1.2.2.2.2.2.2.2.2)++ [(x1.1.2.2.2.2.2.2.1,(((cut x1.2.2 0 x1.2.1),()),()))])))) none) none) none) none) (
   kx (ah.L1.bw (n2_2,n3L_2,n3L_3,n3_2,n36_2,n91)).1 (ah.L1.bw (n2_2,n3L_2,n3L_3,n3_2,n36_2,n91)).2):=by kernel_rfl
theorem ah.L2.run:bE ah.L2.call ah.L2.aD ah.L2.add ah.L2.F:=eK (eI [.d fw,.d ti,.d ti,.d (.pair ti .unit),.n,.n,.d (.pair ti .unit),.d ti,.n,.d (.slice cH),.d (.slice fo),.d (.slice eX)] fun _=>by kernel_rfl)
theorem ah.L2.aG:fX @ah.L2.R ah.L2.st ah.L2.aD ah.L2.add ah.L2.F ah.L2.bw ah.L2.Ok:=gf
theorem ah.L2.step{R:Type}(t_4:eD)(i_3:Int)(kv:Int)(n2_3:(Int×Unit))(n3L_4:Nat)(n3L_5:Nat)(n3_3:(Int×Unit))(n7:Int)(n7L:Nat)(n36_3:(List eR))(n84:(List gm))(n91_2:(List fL))(kn:AS→Option R)(kx:Exit→AS→Option R):ah.L2.R (t_4,i_3,kv,n2_3,n3L_4,n3L_5,n3_3,n7,n7L,n36_3,n84,n91_2) kn kx=
  aF (dS i_3 (((List.length t_4.2.1):Nat):Int)) (
  aF ((gb kv (((List.length (nth eX t_4.2.1 (Int.toNat i_3)).2.1.1):Nat):Int))) (
   aF (dS i_3 (((List.length t_4.2.1):Nat):Int)) (
   aF (dS kv (((List.length (nth eX t_4.2.1 (Int.toNat i_3)).2.1.1):Nat):Int)) (
   aF (du (0+(List.length (nth fo (nth eX t_4.2.1 (Int.toNat i_3)).2.1.1 (Int.toNat kv)).1)) 8) (
   aF (decide (0=0∧(0+(0+(List.length (nth fo (nth eX t_4.2.1 (Int.toNat i_3)).2.1.1 (Int.toNat kv)).1)))≤(List.length ((List.take 0 (List.replicate 0 (0:Int)))++(nth fo (nth eX t_4.2.1 (Int.toNat i_3)).2.1.1 (Int.toNat kv)).1)))) (
   aF (decide (n7L≤(List.length n84))) (
   aF (du (n7L+1) 48) (
   kn (ah.L2.st (t_4,i_3,(bO .i64 kv (1:Int)),n2_3,n3L_4,n3L_5,n3_3,n7,(n7L+1),n36_3,((List.take n7L n84)++ [((cut ((List.take 0 (List.replicate 0 (0:Int)))++(nth fo (nth eX t_4.2.1 (Int.toNat i_3)).2.1.1 (Int.toNat kv)).1) 0 (0+(List.length (nth fo (nth eX t_4.2.1 (Int.toNat i_3)).2.1.1 (Int.toNat kv)).1))),(nth fo (nth eX t_4.2.1 (Int.toNat i_3)).2.1.1 (Int.toNat kv)).2)]),n91_2))) none) none) none) none) none) none) (
   kx (ah.L2.bw ((t_4,i_3,n2_3,n3L_4,n3L_5,n3_3,n7,n36_3,n91_2),(n7L,n84))).1 (ah.L2.bw ((t_4,i_3,n2_3,n3L_4,n3L_5,n3_3,n7,n36_3,n91_2),(n7L,n84))).2)) none:=by kernel_rfl
theorem ah.eq{R:Type}(t:eD)(k:aZ→Option R):ah.A t k=
 ae (ah.L0.call (t,(0:Int),((0:Int),()),0,(t.2.2.1,()),([]:List eR))) fun x1=>
 ae (ah.L1.call (x1.1.1,(0:Int),x1.1.2.1,x1.2.1,0,x1.1.2.2,x1.2.2,([]:List fL))) fun x4=>
 k (ah.out (x4.2.1,x4.2.2.1,x4.2.2.2.1,x4.2.2.2.2.1,x4.2.2.2.2.2)):=by kernel_rfl
theorem ah.L0.ok:ah.L0.Ok:=by
 refine ah.L0.aG (fun(t,i,u,L,v,r)=>(t.1).length - Int.toNat i) ?_
 rintro⟨t,i,u,L,v,r⟩ ⟨hlen,k,hk,rfl,rfl,hrow,hx⟩
 have hlen:(t.1).length≤1000000:=hlen
 have hk:k≤(t.1).length:=hk
 have hrow:(r).length≤1000000+k:=hrow
 have hx:∀x∈t.1,x.2.1.2.1.length≤1000000:=hx
 by_cases h:k < (t.1).length
 ·left
  have n1:nth cH t.1 k=t.1[k]:=bZ (t:=cH) h
  have hd:List.drop k t.1=t.1[k]::List.drop (k+1) t.1:=List.drop_eq_getElem_cons h
  refine⟨(t,((k+1:Nat):Int),u,(r).length+1,v,r++ [(fun x:eR=>x) t.1[k]]),⟨hlen,k+1,by omega,rfl,by rw[List.length_append];rfl,by rw[List.length_append];show(r).length+1≤_;omega,hx⟩,by simp only[Int.toNat_natCast];omega,?_,fun kn kx=> ?_⟩
  ·simp only[ah.L0.add,ah.L0.F,Int.toNat_natCast,hd,List.map_cons,List.length_cons,List.append_assoc,List.singleton_append]
   rw[show ∀a c:Nat,a+1+c=a+(c+1) from fun a c=>by omega]
  ·rw[ah.L0.step,bA (by omega),bh (show(0:Int)≤(k:Int) by omega) (by omega),Int.toNat_natCast,n1]
   simp only[ay]
   have e:=hx _ (List.getElem_mem h)
   have hr:du t.1[k].2.1.2.1.length 16=true:=eN (by omega) (by omega)
   simp only[Nat.zero_add,List.take_zero,List.nil_append,hr,ay,Nat.le_refl,and_self,decide_true,eV]
   rw[eN (by omega) (by omega),N.kr (by omega),List.take_length]
   rfl
 ·right
  obtain rfl:k=(t.1).length:=by omega
  intro R kn kx
  rw[ah.L0.step,bm (by omega),ao]
  simp only[ah.L0.add,ah.L0.F,Int.toNat_natCast,List.drop_length,List.map_nil,List.append_nil,List.length_nil,Nat.add_zero]
theorem ah.L2.ok:ah.L2.Ok:=by
 refine ah.L2.aG (fun(t,j,i,u,L4,L5,v,am,L,is,r,os)=>((nth eX t.2.1 (Int.toNat j)).2.1.1).length - Int.toNat i) ?_
 rintro⟨t,j,i,u,L4,L5,v,am,L,is,r,os⟩ ⟨hlen,k,hk,rfl,rfl,hrow,hj,hx⟩
 have hlen:((nth eX t.2.1 (Int.toNat j)).2.1.1).length≤1000000:=hlen
 have hk:k≤((nth eX t.2.1 (Int.toNat j)).2.1.1).length:=hk
 have hrow:(r).length≤1000000+k:=hrow
 have hj:0≤j∧j < (t.2.1.length:Int):=hj
 have hx:∀x∈(nth eX t.2.1 (Int.toNat j)).2.1.1,x.1.length≤1000000:=hx
 by_cases h:k < ((nth eX t.2.1 (Int.toNat j)).2.1.1).length
 ·left
  have n1:nth fo (nth eX t.2.1 (Int.toNat j)).2.1.1 k=(nth eX t.2.1 (Int.toNat j)).2.1.1[k]:=bZ (t:=fo) h
  have hd:List.drop k (nth eX t.2.1 (Int.toNat j)).2.1.1=(nth eX t.2.1 (Int.toNat j)).2.1.1[k]::List.drop (k+1) (nth eX t.2.1 (Int.toNat j)).2.1.1:=List.drop_eq_getElem_cons h
  refine⟨(t,j,((k+1:Nat):Int),u,L4,L5,v,am,(r).length+1,is,r++ [(fun x:gm=>x) (nth eX t.2.1 (Int.toNat j)).2.1.1[k]],os),⟨hlen,k+1,by omega,rfl,by rw[List.length_append];rfl,by rw[List.length_append];show(r).length+1≤_;omega,hj,hx⟩,by simp only[Int.toNat_natCast];omega,?_,fun kn kx=> ?_⟩
  ·simp only[ah.L2.add,ah.L2.F,Int.toNat_natCast,hd,List.map_cons,List.length_cons,List.append_assoc,List.singleton_append]
   rw[show ∀a c:Nat,a+1+c=a+(c+1) from fun a c=>by omega]
  ·rw[ah.L2.step,bh hj.1 hj.2,ay,bA (by omega),bh (show(0:Int)≤(k:Int) by omega) (by omega),Int.toNat_natCast,n1]
   simp only[ay]
   have e:=hx _ (List.getElem_mem h)
   have hr:du (nth eX t.2.1 (Int.toNat j)).2.1.1[k].1.length 8=true:=eN (by omega) (by omega)
   simp only[Nat.zero_add,List.take_zero,List.nil_append,hr,ay,Nat.le_refl,and_self,decide_true,eV]
   rw[eN (by omega) (by omega),N.kr (by omega),List.take_length]
   rfl
 ·right
  obtain rfl:k=((nth eX t.2.1 (Int.toNat j)).2.1.1).length:=by omega
  intro R kn kx
  rw[ah.L2.step,bh hj.1 hj.2,ay,bm (by omega),ao]
  simp only[ah.L2.add,ah.L2.F,Int.toNat_natCast,List.drop_length,List.map_nil,List.append_nil,List.length_nil,Nat.add_zero]
theorem ah.L1.ok:ah.L1.Ok:=by
 refine ah.L1.aG (fun(t,i,u,L3,L,v,is,r)=>t.2.1.length - i.toNat) ?_
 rintro⟨t,i,u,L3,L,v,is,r⟩ ⟨⟨hl,hx⟩,k,hk,rfl,rfl,hrk⟩
 have hl:t.2.1.length≤1000:=hl
 have hk:k≤t.2.1.length:=hk
 have hrk:r.length=k:=hrk
 by_cases h:k < t.2.1.length
 ·left
  have e:=hx _ (List.getElem_mem h)
  have n1:nth eX t.2.1 k=t.2.1[k]:=bZ (t:=eX) h
  have hd:t.2.1.drop k=t.2.1[k]::t.2.1.drop (k+1):=List.drop_eq_getElem_cons h
  have e1:(nth eX t.2.1 (Int.toNat (k:Int))).2.1.1=t.2.1[k].2.1.1:=by rw[Int.toNat_natCast,n1]
  refine⟨(t,((k+1:Nat):Int),u,L3,r.length+1,v,is,r++ [t.2.1[k]]),⟨⟨hl,hx⟩,k+1,by omega,rfl,by rw[List.length_append];rfl,by rw[List.length_append];show r.length+1=_;omega⟩,by simp only[Int.toNat_natCast];omega,?_,fun kn kx=> ?_⟩
  ·simp only[ah.L1.add,ah.L1.F,Int.toNat_natCast,hd,List.length_cons,List.append_assoc,List.singleton_append]
   rw[show ∀a c:Nat,a+1+c=a+(c+1) from fun a c=>by omega]
  ·rw[ah.L1.step,bA (by omega),bh (by omega) (by omega),Int.toNat_natCast,n1]
   simp only[ay]
   rw[ah.L2.run (d:=(t,(k:Int),0,u,L3,r.length,v,t.2.1[k].1,0,is,[],r)) ⟨by rw[e1];omega,0,Nat.zero_le _,rfl,rfl,Nat.zero_le _,⟨by show(0:Int)≤(k:Int);omega,by show(k:Int) < (t.2.1.length:Int);omega⟩,by rw[e1];exact e.2⟩]
   simp only[aa,ah.L2.add,ah.L2.F,e1,Int.toNat_zero,List.drop_zero,List.nil_append,Nat.zero_add,List.map_id',Nat.le_refl,and_self,decide_true,ay,eV]
   rw[eN (by omega) (by omega),N.kr (by omega),List.take_length]
   rfl
 ·right
  obtain rfl:k=t.2.1.length:=by omega
  intro R kn kx
  rw[ah.L1.step,bm (by omega),ao]
  simp only[ah.L1.add,ah.L1.F,Int.toNat_natCast,List.drop_length,List.append_nil,List.length_nil,Nat.add_zero]
theorem ah.ok:ah.Ok:=by
 rintro⟨is,os,nt,u⟩ ⟨⟨h1,h2⟩,h3,h4⟩
 have h1:is.length≤1000:=h1
 have h3:os.length≤1000:=h3
 rw[ah.eq,ah.L0.run (d:=((is,os,nt,u),0,(0,()),0,(nt,()),[])) ⟨by show is.length≤_;omega,0,Nat.zero_le _,rfl,rfl,Nat.zero_le _,h2⟩]
 simp only[aa,ah.L0.add,ah.L0.F,Int.toNat_zero,List.drop_zero,List.nil_append,Nat.zero_add,List.map_id']
 rw[ah.L1.run (d:=((is,os,nt,u),0,(0,()),is.length,0,(nt,()),is,[])) ⟨⟨h3,h4⟩,0,Nat.zero_le _,rfl,rfl,rfl⟩]
 simp only[aa,ah.L1.add,ah.L1.F,Int.toNat_zero,List.drop_zero,List.nil_append,Nat.zero_add]
 rfl
noncomputable def ah.E:=Entry.cv [some fw] ah.st ah.aD ah.add ah.F ah.out
noncomputable def ah.call:ah.D→Option ah.X:=bJ ah.E ah.st
theorem ah.run:bE ah.call ah.aD ah.add ah.F:=cQ (cP [.d fw] fun _=>by kernel_rfl)
noncomputable def ah.sg:SG Tryz.prog:=⟨23,aW,ah.E,.fn 3 (by kernel_rfl) ah.ok (And.intro (.cv ah.L0.ok (by kernel_rfl)) (And.intro (.cv ah.L1.ok (by kernel_rfl)) (And.intro (.cv ah.L2.ok (by kernel_rfl)) trivial)))⟩
set_option synthInstance.maxSize 5000
def ph:eT:=([],true,())
def iD(r:eT):Prop:=r.1.length≤1000000000∧Bytes r.1
def gF(n:Nat)(r:eT):List Int×eT:=if r.2.1=true∨r.1.length < n then([],ph) else(r.1.take n,(r.1.drop n,r.2))
def oS(l:List Int):Int:=l.foldl (fun n b=>n*256+b) 0
def iL(r:eT):Int×eT:=(oS (gF 8 r).1,(gF 8 r).2)
theorem uH:iD ph:=⟨Nat.zero_le _,fun x hx=>by cases hx⟩
theorem kQ{n:Nat}{r:eT}(h:iD r):(gF n r).1.length≤n∧Bytes (gF n r).1∧iD (gF n r).2:=by
 unfold gF
 split
 ·exact⟨Nat.zero_le _,fun x hx=>(by cases hx),uH⟩
 ·refine⟨by rw[List.length_take];omega,fun x hx=>h.2 x (List.mem_of_mem_take hx),?_,fun x hx=>h.2 x (List.mem_of_mem_drop hx)⟩
  show(r.1.drop n).length≤_
  rw[List.length_drop]
  have:=h.1
  omega
theorem z5(l:List Int)(b:Int):oS (l++ [b])=oS l*256+b:=by unfold oS;rw[List.foldl_append];rfl
theorem wJ:∀(l:List Int) (n:Int) (k:Nat),Bytes l→0≤n→n < 256^k→0≤l.foldl (fun n b=>n*256+b) n∧l.foldl (fun n b=>n*256+b) n < 256^(k+l.length)
 |[],n,k,_,h0,h1=>⟨h0,h1⟩
 |b::l,n,k,hb,h0,h1=>by
  obtain⟨hx1,hx2⟩:=hb b List.mem_cons_self
  have e:(256:Int)^(k+1)=256^k*256:=Int.pow_succ 256 k
  have:=wJ l (n*256+b) (k+1) (fun x hx=>hb x (List.mem_cons_of_mem _ hx)) (by omega) (by rw[e];omega)
  rw[show k+(b::l).length=k+1+l.length by rw[List.length_cons];omega]
  exact this
theorem y6{l:List Int}(h:Bytes l):0≤oS l∧oS l < 256^l.length:=by
 have:=wJ l 0 0 h (Int.le_refl 0) (by decide)
 rw[Nat.zero_add]at this
 exact this
theorem tS{a b:Nat}(h:a≤b):(256:Int)^a≤256^b:=by
 have:((256^a:Nat):Int)≤((256^b:Nat):Int):=Int.ofNat_le.2 (Nat.pow_le_pow_right (by decide) h)
 rw[Int.natCast_pow,Int.natCast_pow]at this
 exact this
theorem Dr{l:List Int}(h:Bytes l)(h8:l.length≤8):ik (oS l):=by
 have e:=y6 h
 have e2:=tS h8
 have e3:(256:Int)^8=18446744073709551616:=rfl
 exact⟨e.1,by omega⟩
theorem qB{r:eT}(h:iD r):ik (iL r).1∧iD (iL r).2:=⟨Dr (kQ h).2.1 (kQ h).1,(kQ h).2.2⟩
theorem El{n b:Int}(h0:0≤n)(h1:n < 72057594037927936)(hb:um b):ct .or .u64 (gC .u64 n 8) (dJ .u64 b)=n*256+b:=by
 have e:=(qH (n:=n) (b:=b) ⟨h0,by omega⟩ hb).1
 rw[j1 56 (by rfl) (by omega)]at e
 have p:(2:Int)^56=72057594037927936:=rfl
 rw[p]at e
 omega
abbrev dT.D:=eT
def dT.st:dT.D→SA:=fun o0=>([.ptr (.fK 0) 0 [] 0],[.obj 0 false (.d jm o0)])
abbrev dT.Y:=eT
abbrev dT.X:=eT
def dT.out:dT.X→aZ:=fun x=>⟨.nil,[.obj 0 false (.d jm x)],[]⟩
def dT.add:dT.D→dT.Y→dT.X:=fun o0 y=>y
def dT.aD:dT.D→Prop:=fun _=>True
def dT.F:dT.D→dT.Y:=fun _=>ph
noncomputable def dT.G:dV:=eY (P:=Tryz.prog) []
noncomputable def dT.an:eJ:= {s6:=[⟨0,[.arr],jm⟩]}
noncomputable def dT.A:= @cK Tryz.prog dT.G dT.an 0 Tryz.f113 _ dT.st
abbrev dT.Ok:=cM @dT.A dT.aD dT.add dT.F dT.out
theorem dT.eq{R:Type}(o0:eT)(k:aZ→Option R):dT.A o0 k=
 k (dT.out (([]:List Int),(true,o0.2.2))):=by kernel_rfl
theorem dT.ok:dT.Ok:=by
 intro o _
 rw[dT.eq]
 rfl
noncomputable def dT.E:=Entry.cv [none] dT.st dT.aD dT.add dT.F dT.out
noncomputable def dT.call:dT.D→Option dT.X:=bJ dT.E dT.st
theorem dT.run:bE dT.call dT.aD dT.add dT.F:=cQ (cP [.d jm] fun _=>by kernel_rfl)
noncomputable def dT.sg:SG Tryz.prog:=⟨113,aW,dT.E,.fn 0 (by kernel_rfl) dT.ok trivial⟩
abbrev ei.D:=eT
def ei.st:ei.D→SA:=fun o0=>([.ptr (.fK 0) 0 [] 0],[.obj 0 false (.d jm o0)])
abbrev ei.Y:=Int
abbrev ei.X:=(eT)×(Int)
def ei.out:ei.X→aZ:=fun x=>⟨.d ti x.2,[.obj 0 false (.d jm x.1)],[]⟩
def ei.add:ei.D→ei.Y→ei.X:=fun o0 y=>(o0,y)
def ei.aD:ei.D→Prop:=fun _=>True
def ei.F:ei.D→ei.Y:=fun o=>(o.1.length:Int)
noncomputable def ei.G:dV:=eY (P:=Tryz.prog) []
noncomputable def ei.an:eJ:= {}
noncomputable def ei.A:= @cK Tryz.prog ei.G ei.an 0 Tryz.f80 _ ei.st
abbrev ei.Ok:=cM @ei.A ei.aD ei.add ei.F ei.out
theorem ei.eq{R:Type}(o0:eT)(k:aZ→Option R):ei.A o0 k=
 k (ei.out (o0,(((List.length o0.1):Nat):Int))):=by kernel_rfl
theorem ei.ok:ei.Ok:=by
 intro o _
 rw[ei.eq]
 rfl
noncomputable def ei.E:=Entry.cv [none] ei.st ei.aD ei.add ei.F ei.out
noncomputable def ei.call:ei.D→Option ei.X:=bJ ei.E ei.st
theorem ei.run:bE ei.call ei.aD ei.add ei.F:=cQ (cP [.d jm] fun _=>by kernel_rfl)
noncomputable def ei.sg:SG Tryz.prog:=⟨80,aW,ei.E,.fn 0 (by kernel_rfl) ei.ok trivial⟩
abbrev fE.D:=eT
def fE.st:fE.D→SA:=fun o0=>([.ptr (.fK 0) 0 [] 0],[.obj 0 false (.d jm o0)])
abbrev fE.Y:=Bool
abbrev fE.X:=(eT)×(Bool)
def fE.out:fE.X→aZ:=fun x=>⟨.d .bool x.2,[.obj 0 false (.d jm x.1)],[]⟩
def fE.add:fE.D→fE.Y→fE.X:=fun o0 y=>(o0,y)
def fE.aD:fE.D→Prop:=fun _=>True
def fE.F:fE.D→fE.Y:=fun o=> !o.2.1
noncomputable def fE.G:dV:=eY (P:=Tryz.prog) []
noncomputable def fE.an:eJ:= {}
noncomputable def fE.A:= @cK Tryz.prog fE.G fE.an 0 Tryz.f79 _ fE.st
abbrev fE.Ok:=cM @fE.A fE.aD fE.add fE.F fE.out
theorem fE.eq{R:Type}(o0:eT)(k:aZ→Option R):fE.A o0 k=
 k (fE.out (o0,(!o0.2.1))):=by kernel_rfl
theorem fE.ok:fE.Ok:=by
 intro o _
 rw[fE.eq]
 rfl
noncomputable def fE.E:=Entry.cv [none] fE.st fE.aD fE.add fE.F fE.out
noncomputable def fE.call:fE.D→Option fE.X:=bJ fE.E fE.st
theorem fE.run:bE fE.call fE.aD fE.add fE.F:=cQ (cP [.d jm] fun _=>by kernel_rfl)
noncomputable def fE.sg:SG Tryz.prog:=⟨79,aW,fE.E,.fn 0 (by kernel_rfl) fE.ok trivial⟩
abbrev dB.D:=Int×eT
def dB.st:dB.D→SA:=fun(n,o0)=>([.ptr (.fK 0) 0 [] 0,.d ti n],[.obj 0 false (.d jm o0)])
abbrev dB.Y:=Bs×eT
abbrev dB.X:=Bs×eT
def dB.out:dB.X→aZ:=fun x=>⟨.d tB x.1,[.obj 0 false (.d jm x.2)],[]⟩
def dB.add:dB.D→dB.Y→dB.X:=fun(n,o0) y=>y
def dB.aD:dB.D→Prop:=fun(n,o)=>0≤n∧o.1.length≤1000000000
def dB.F:dB.D→dB.Y:=fun(n,o)=>gF n.toNat o
noncomputable def dB.G:dV:=eY (P:=Tryz.prog) [dT.sg,cr.sg]
noncomputable def dB.an:eJ:= {res:=[some tB],s6:=[⟨0,[.arr],jm⟩]}
noncomputable def dB.A:= @cK Tryz.prog dB.G dB.an 0 Tryz.f114 _ dB.st
abbrev dB.Ok:=cM @dB.A dB.aD dB.add dB.F dB.out
theorem dB.eq{R:Type}(n:Int)(o0:eT)(k:aZ→Option R):dB.A (n,o0) k=
  aF (o0.2.1) (
   ae (dT.call o0) fun x1=>
   k (dB.out (([]:List Int),x1))) (
   aF ((mv n (((List.length o0.1):Nat):Int))) (
    ae (dT.call o0) fun x2=>
    k (dB.out (([]:List Int),x2))) (
    aF (inc n (((List.length o0.1):Nat):Int)) (
    ae (cr.call (cut o0.1 0 ((Int.toNat n) - 0))) fun x3=>
    aF (inc n (((List.length o0.1):Nat):Int)) (
    aF (decide (0=0∧(0+x3.1)≤(List.length x3.2))) (
    k (dB.out ((cut x3.2 0 x3.1),((cut o0.1 (Int.toNat n) ((List.length o0.1) - (Int.toNat n))),o0.2)))) none) none) none)):=by kernel_rfl
theorem dB.ok:dB.Ok:=by
 rintro⟨n,o⟩ ⟨h0,hl⟩
 have h0:0≤n:=h0
 have hl:o.1.length≤1000000000:=hl
 obtain⟨k,rfl⟩:∃k:Nat,n=k:=⟨n.toNat,by omega⟩
 rw[dB.eq]
 simp only[dB.add,dB.F,gF,Int.toNat_natCast,Nat.sub_zero]
 cases h2:o.2.1
 ·by_cases hn:o.1.length < k
  ·rw[dG (by omega),if_pos (Or.inr hn),dT.run (d:=o) trivial];rfl
  ·have e1:cut o.1 0 k=o.1.take k:=rfl
   have e2:cut o.1 k (o.1.length - k)=o.1.drop k:=by unfold cut;rw[List.take_of_length_le];rw[List.length_drop];omega
   rw[dx (by omega),if_neg (by intro x;rcases x with x | x;exact absurd x (by decide);exact hn x),kV (by omega) (by omega),e1,e2,cr.run (d:=o.1.take k) (by show(o.1.take k).length≤_;rw[List.length_take];omega)]
   simp only[ao,ay,aa,cr.add,cr.F,Nat.zero_add,Nat.le_refl,and_self,decide_true,eV]
 ·rw[ay,if_pos (Or.inl rfl),dT.run (d:=o) trivial];rfl
noncomputable def dB.E:=Entry.cv [none,some ti] dB.st dB.aD dB.add dB.F dB.out
noncomputable def dB.call:dB.D→Option dB.X:=bJ dB.E dB.st
theorem dB.run:bE dB.call dB.aD dB.add dB.F:=cQ (cP [.d ti,.d jm] fun _=>by kernel_rfl)
noncomputable def dB.sg:SG Tryz.prog:=⟨114,aW,dB.E,.fn 0 (by kernel_rfl) dB.ok trivial⟩
abbrev cq.L0.D:=Int×Bs×Int×Int×eT
def cq.L0.st:cq.L0.D→AS:=fun(n,t7,t8,t9,o0_2)=>⟨([.undef,.undef,.undef,.d tu n,.undef,.undef,.undef,.d tB t7,.d ti t8,.d ti t9]++ba 10 []),[.obj 0 false (.d jm o0_2)],(List.replicate 20 [])⟩
abbrev cq.L0.Y0:=Int
abbrev cq.L0.X0:=(eT)×(Int)
def cq.L0.bw:cq.L0.X0→Exit×AS:=fun x=>(.exit 0,⟨([.undef,.undef,.undef,.d tu x.2]++ba 16 []),[.obj 0 false (.d jm x.1)],(List.replicate 20 [])⟩)
abbrev cq.L0.X:=cq.L0.X0
abbrev cq.L0.Y:=cq.L0.Y0
def cq.L0.out:cq.L0.X→Out (Exit×AS):=fun x=> .ok (cq.L0.bw x)
def cq.L0.add:cq.L0.D→cq.L0.Y→cq.L0.X:=fun(n,t7,t8,t9,o0_2) y=>(o0_2,y)
abbrev cq.D:=eT
def cq.st:cq.D→SA:=fun o0=>([.ptr (.fK 0) 0 [] 0],[.obj 0 false (.d jm o0)])
abbrev cq.Y:=Int×eT
abbrev cq.X:=Int×eT
def cq.out:cq.X→aZ:=fun x=>⟨.d tu x.1,[.obj 0 false (.d jm x.2)],[]⟩
def cq.add:cq.D→cq.Y→cq.X:=fun o0 y=>y
def cq.L0.aD:cq.L0.D→Prop:=fun(n,l,m,i,o)=>Bytes l∧l.length≤8∧m=l.length∧∃k:Nat,k≤l.length∧i=k∧n=oS (l.take k)
def cq.L0.F:cq.L0.D→cq.L0.Y:=fun(n,l,m,i,o)=>oS l
def cq.aD:cq.D→Prop:=fun o=>iD o
def cq.F:cq.D→cq.Y:=fun o=>iL o
noncomputable def cq.G:dV:=eY (P:=Tryz.prog) [dB.sg]
noncomputable def cq.L0.E:=bP.cv cq.L0.st cq.L0.aD cq.L0.add cq.L0.F cq.L0.out
noncomputable def cq.L0.call:cq.L0.D→Option cq.L0.X:=dk cq.L0.E cq.L0.st
noncomputable def cq.an:eJ:= {loops:=jJ [(3,{bn:=[3,7,8,9]})],outs:=jI [(3,{bn:=[3]},{bn:=[2]})],fJ:=kz [(3,cq.L0.E)]}
noncomputable def cq.A:= @cK Tryz.prog cq.G cq.an 0 Tryz.f57 _ cq.st
abbrev cq.Ok:=cM @cq.A cq.aD cq.add cq.F cq.out
noncomputable def cq.L0.R:= @bV Tryz.prog cq.G cq.an 0 Tryz.f57 0 _ cq.L0.st
abbrev cq.L0.Ok:=eA Tryz.prog cq.G cq.an 0 Tryz.f57 0 cq.L0.st cq.L0.aD cq.L0.add cq.L0.F cq.L0.out
theorem cq.L0.run:bE cq.L0.call cq.L0.aD cq.L0.add cq.L0.F:=eK (eI [.d tu,.d tB,.d ti,.d ti,.d jm] fun _=>by kernel_rfl)
theorem cq.L0.aG:fX @cq.L0.R cq.L0.st cq.L0.aD cq.L0.add cq.L0.F cq.L0.bw cq.L0.Ok:=gf
theorem cq.L0.step{R:Type}(n:Int)(t7:Bs)(t8:Int)(t9:Int)(o0_2:eT)(kn:AS→Option R)(kx:Exit→AS→Option R):cq.L0.R (n,t7,t8,t9,o0_2) kn kx=
  aF ((gb t9 t8)) (
   aF (dS t9 (((List.length t7):Nat):Int)) (
   kn (cq.L0.st ((ct .or .u64 (gC .u64 n (8:Int)) (dJ .u64 (nth tb t7 (Int.toNat t9)))),t7,t8,(bO .i64 t9 (1:Int)),o0_2))) none) (
   kx (cq.L0.bw (o0_2,n)).1 (cq.L0.bw (o0_2,n)).2):=by kernel_rfl
theorem cq.eq{R:Type}(o0:eT)(k:aZ→Option R):cq.A o0 k=
 ae (dB.call ((8:Int),o0)) fun x1=>
 ae (cq.L0.call ((0:Int),x1.1,(((List.length x1.1):Nat):Int),(0:Int),x1.2)) fun x2=>
 k (cq.out (x2.2,x2.1)):=by kernel_rfl
theorem cq.L0.ok:cq.L0.Ok:=by
 refine cq.L0.aG (fun(n,l,m,i,o)=>l.length - i.toNat) ?_
 rintro⟨n,l,m,i,o⟩ ⟨hb,h8,rfl,k,hk,rfl,rfl⟩
 have h8:l.length≤8:=h8
 have hk:k≤l.length:=hk
 by_cases h:k < l.length
 ·left
  have hx:=hb _ (List.getElem_mem h)
  have n1:nth (.int .u8) l k=l[k]:=bZ (t:= .int .u8) h
  have ht:(l.take k).length=k:=by rw[List.length_take];omega
  have b0:=y6 (l:=l.take k) fun x hx=>hb x (List.mem_of_mem_take hx)
  rw[ht]at b0
  have b1:=tS (show k≤7 by omega)
  have b2:(256:Int)^7=72057594037927936:=rfl
  refine⟨(oS (l.take (k+1)),l,l.length,((k+1:Nat):Int),o),⟨hb,h8,rfl,k+1,by omega,rfl,rfl⟩,by simp only[Int.toNat_natCast];omega,rfl,fun kn kx=> ?_⟩
  rw[cq.L0.step,bA (by omega),bh (by omega) (by omega),Int.toNat_natCast,n1,N.kr (by omega),El b0.1 (by omega) hx,List.take_succ_eq_append_getElem h,z5]
  rfl
 ·right
  obtain rfl:k=l.length:=by omega
  intro R kn kx
  rw[cq.L0.step,bm (by omega),ao,List.take_length]
  rfl
theorem cq.ok:cq.Ok:=by
 intro o h
 have h:iD o:=h
 have t:=kQ (n:=8) h
 rw[cq.eq,dB.run (d:=(8,o)) ⟨by decide,h.1⟩]
 simp only[aa,dB.add,dB.F]
 rw[show Int.toNat 8=8 from rfl,cq.L0.run (d:=(0,(gF 8 o).1,(gF 8 o).1.length,0,(gF 8 o).2)) ⟨t.2.1,t.1,rfl,0,Nat.zero_le _,rfl,rfl⟩]
 rfl
noncomputable def cq.E:=Entry.cv [none] cq.st cq.aD cq.add cq.F cq.out
noncomputable def cq.call:cq.D→Option cq.X:=bJ cq.E cq.st
theorem cq.run:bE cq.call cq.aD cq.add cq.F:=cQ (cP [.d jm] fun _=>by kernel_rfl)
noncomputable def cq.sg:SG Tryz.prog:=⟨57,aW,cq.E,.fn 1 (by kernel_rfl) cq.ok (And.intro (.cv cq.L0.ok (by kernel_rfl)) trivial)⟩
abbrev dN.D:=Bs
def dN.st:dN.D→SA:=fun b=>([.d tB b],[])
abbrev dN.Y:=eT
abbrev dN.X:=eT
def dN.out:dN.X→aZ:=fun x=>⟨.ptr (.new 0 0) 0 [] 0,[],[.obj 0 false (.d jm x)]⟩
def dN.add:dN.D→dN.Y→dN.X:=fun b y=>y
def dN.aD:dN.D→Prop:=fun b=>b.length≤1000000000
def dN.F:dN.D→dN.Y:=fun b=>(b,false,())
noncomputable def dN.G:dV:=eY (P:=Tryz.prog) [cr.sg]
noncomputable def dN.an:eJ:= {bN:=[6],s6:=[⟨2,[.arr],jm⟩]}
noncomputable def dN.A:= @cK Tryz.prog dN.G dN.an 0 Tryz.f55 _ dN.st
abbrev dN.Ok:=cM @dN.A dN.aD dN.add dN.F dN.out
theorem dN.eq{R:Type}(b:Bs)(k:aZ→Option R):dN.A b k=
 ae (cr.call b) fun x1=>
 aF (decide (0=0∧(0+x1.1)≤(List.length x1.2))) (
 k (dN.out ((cut x1.2 0 x1.1),(false,())))) none:=by kernel_rfl
theorem dN.ok:dN.Ok:=by
 intro b hb
 have hb:b.length≤1000000000:=hb
 rw[dN.eq,cr.run (d:=b) (by show b.length≤_;omega)]
 simp only[aa,cr.add,cr.F,Nat.zero_add,Nat.le_refl,and_self,decide_true,ay,eV]
 rfl
noncomputable def dN.E:=Entry.cv [some tB] dN.st dN.aD dN.add dN.F dN.out
noncomputable def dN.call:dN.D→Option dN.X:=bJ dN.E dN.st
theorem dN.run:bE dN.call dN.aD dN.add dN.F:=cQ (cP [.d tB] fun _=>by kernel_rfl)
noncomputable def dN.sg:SG Tryz.prog:=⟨55,aW,dN.E,.fn 0 (by kernel_rfl) dN.ok trivial⟩
abbrev cO.D:=Int×eT
def cO.st:cO.D→SA:=fun(o0,o2)=>([.ptr (.fK 0) 0 [] 0,.ptr (.fK 1) 0 [] 0],[.obj 0 false (.d ti o0),.obj 0 false (.ptr (.fK 2) 0 [] 0),.obj 0 false (.d jm o2)])
abbrev cO.Y:=Bool
abbrev cO.X:=(Int×eT)×(Bool)
def cO.out:cO.X→aZ:=fun x=>⟨.d .bool x.2,[.obj 0 false (.d ti x.1.1),.obj 0 false (.ptr (.fK 2) 0 [] 0),.obj 0 false (.d jm x.1.2)],[]⟩
def cO.add:cO.D→cO.Y→cO.X:=fun(o0,o2) y=>((o0,o2),y)
def cO.aD:cO.D→Prop:=fun(a,o)=>0≤a
def cO.F:cO.D→cO.Y:=fun(a,o)=>decide (o.1.length≤a.toNat∨8 < a.toNat∨(0 < a.toNat∧nth (.int .u8) o.1 a.toNat=0))
noncomputable def cO.G:dV:=eY (P:=Tryz.prog) []
noncomputable def cO.an:eJ:= {}
noncomputable def cO.A:= @cK Tryz.prog cO.G cO.an 0 Tryz.f112 _ cO.st
abbrev cO.Ok:=cM @cO.A cO.aD cO.add cO.F cO.out
theorem cO.eq{R:Type}(o0:Int)(o2:eT)(k:aZ→Option R):cO.A (o0,o2) k=
  aF ((l6 o0 (((List.length o2.1):Nat):Int))) (
   k (cO.out ((o0,o2),true))) (
   aF ((mv o0 (8:Int))) (
    k (cO.out ((o0,o2),true))) (
    aF ((mv o0 (0:Int))) (
     aF (dS o0 (((List.length o2.1):Nat):Int)) (
     k (cO.out ((o0,o2),(kR (nth tb o2.1 (Int.toNat o0)) (0:Int))))) none) (
     k (cO.out ((o0,o2),false))))):=by kernel_rfl
theorem cO.ok:cO.Ok:=by
 rintro⟨a,o⟩ h0
 obtain⟨k,rfl⟩:∃k:Nat,a=k:=⟨a.toNat,by have h0:0≤a:=h0;omega⟩
 rw[cO.eq]
 simp only[cO.add,cO.F,Int.toNat_natCast]
 by_cases h1:o.1.length≤k
 ·rw[fF (by omega),aR (Or.inl h1)];rfl
 by_cases h2:8 < k
 ·rw[eM (by omega),dG (by omega),aR (Or.inr (Or.inl h2))];rfl
 by_cases h3:0 < k
 ·rw[eM (by omega),dx (by omega),dG (by omega),bh (by omega) (by omega)]
  simp only[ao,ay]
  by_cases h4:nth (.int .u8) o.1 k=0
  ·rw[dq h4,aR (Or.inr (Or.inr ⟨h3,h4⟩))]
  ·rw[eC h4,aO (by rintro(x | x | x);exact h1 x;exact h2 x;exact h4 x.2)]
 ·rw[eM (by omega),dx (by omega),dx (by omega),aO (by rintro(x | x | x);exact h1 x;exact h2 x;exact h3 x.1)];rfl
noncomputable def cO.E:=Entry.cv [none,none] cO.st cO.aD cO.add cO.F cO.out
noncomputable def cO.call:cO.D→Option cO.X:=bJ cO.E cO.st
theorem cO.run:bE cO.call cO.aD cO.add cO.F:=cQ (cP [.d ti,.d jm] fun _=>by kernel_rfl)
noncomputable def cO.sg:SG Tryz.prog:=⟨112,aW,cO.E,.fn 0 (by kernel_rfl) cO.ok trivial⟩
set_option synthInstance.maxSize 5000
def k7:List Int→Nat→Int→(Int×Nat)⊕Unit
 |[],_,_=> .inr ()
 |d::l,a,n=>if 8 < a∨(0 < a∧d=0) then .inr () else if d < 128 then .inl (n+d%128*128^a,a+1) else k7 l (a+1) (n+d%128*128^a)
def di(r:eT):Int×eT:=match k7 r.1 0 0 with | .inl v=>(v.1,(r.1.drop v.2,r.2)) | .inr _=>(0,ph)
theorem yh(k:Nat):(128:Int)^k=((128^k:Nat):Int):=by rw[Int.natCast_pow];rfl
theorem vS{n d k:Nat}(hk:k≤8)(hn:n < 128^k)(hd:d < 128):ct .or .i64 (n:Int) (gC .i64 (d:Int) ((7*k:Nat):Int))=((n+d*128^k:Nat):Int)∧n+d*128^k < 128^(k+1)∧128^(k+1)≤9223372036854775808:=by
 have p:128^k≤128^8:=Nat.pow_le_pow_right (by decide) hk
 have p8:128^8=72057594037927936:=rfl
 have e1:128^(k+1)=128^k*128:=Nat.pow_succ (n:=128) (m:=k)
 have e2:2^(7*k)=128^k:=by rw[Nat.pow_mul]
 have e3:d*128^k≤127*128^k:=Nat.mul_le_mul_right _ (by omega)
 refine⟨?_,by omega,by omega⟩
 have s:gC .i64 (d:Int) ((7*k:Nat):Int)=((d*128^k:Nat):Int):=by
  rw[gC]
  have e:min (Int.toNat ((7*k:Nat):Int)) IntKind.i64.bits=7*k:=by simp only[IntKind.bits,Int.toNat_natCast];omega
  rw[e,show(2:Int)^(7*k)=((2^(7*k):Nat):Int) by rw[Int.natCast_pow];rfl,e2,←Int.natCast_mul]
  exact jr (by omega) (by omega)
 rw[s]
 have e:(BitVec.ofInt 64 (n:Int) ||| BitVec.ofInt 64 ((d*128^k:Nat):Int)).toNat=n+d*128^k:=by
  rw[BitVec.toNat_or]
  have a:(BitVec.ofInt 64 ((d*128^k:Nat):Int)).toNat=2^(7*k)*d:=by rw[BitVec.ofInt_natCast,BitVec.toNat_ofNat,e2,Nat.mul_comm];exact Nat.mod_eq_of_lt (by rw[Nat.mul_comm];omega)
  have b:(BitVec.ofInt 64 (n:Int)).toNat=n:=by rw[BitVec.ofInt_natCast,BitVec.toNat_ofNat];exact Nat.mod_eq_of_lt (by omega)
  rw[a,b,Nat.or_comm,←Nat.two_pow_add_eq_or_of_lt (by rw[e2];exact hn),e2,Nat.mul_comm]
  omega
 show IntKind.i64.wrap ((BitVec.ofInt 64 (n:Int) ||| BitVec.ofInt 64 ((d*128^k:Nat):Int)).toNat:Int)=_
 rw[e]
 exact jr (by omega) (by omega)
theorem uZ:∀(l:List Int) (a:Nat) (n:Int) (v:Int×Nat),Bytes l→a≤9→0≤n→n < 128^a→k7 l a n= .inl v→0≤v.1∧v.1 < 9223372036854775808∧a < v.2∧v.2≤a+l.length∧v.2≤9
 |[],a,n,v,_,_,_,_,h=>by cases h
 |d::l,a,n,v,hb,ha,h0,h1,h=>by
  have hx:=hb d List.mem_cons_self
  obtain⟨x1,x2⟩:=hx
  rw[k7]at h
  split at h
  ·cases h
  ·rename_i hc
   have ha8:a≤8:=by omega
   rw[yh]at h1 h
   obtain⟨nn,rfl⟩:∃m:Nat,n=m:=⟨n.toNat,by omega⟩
   obtain⟨dn,hdn⟩:∃m:Nat,d%128=m:=⟨(d%128).toNat,by omega⟩
   have g:=(vS (n:=nn) (d:=dn) ha8 (by omega) (by omega)).2
   rw[hdn]at h
   have ec:((nn:Int)+(dn:Int)*((128^a:Nat):Int))=((nn+dn*128^a:Nat):Int):=by rw[Int.natCast_add,Int.natCast_mul]
   rw[ec]at h
   split at h
   ·cases h
    simp only[List.length_cons]
    exact⟨by omega,by omega,by omega,by omega,by omega⟩
   ·have:=uZ l (a+1) _ v (fun x hx=>hb x (List.mem_cons_of_mem _ hx)) (by omega) (by omega) (by rw[yh];omega) h
    simp only[List.length_cons]
    exact⟨this.1,this.2.1,by omega,by omega,this.2.2.2.2⟩
theorem iq{r:eT}(h:iD r):0≤(di r).1∧(di r).1≤9223372036854775807∧iD (di r).2:=by
 unfold di
 cases hf:k7 r.1 0 0 with
 |inl v=>
  have:=uZ r.1 0 0 v h.2 (by decide) (by decide) (by decide) hf
  refine⟨this.1,by have:=this.2.1;show v.1≤_;omega,?_,fun x hx=>h.2 x (List.mem_of_mem_drop hx)⟩
  show(r.1.drop v.2).length≤_
  rw[List.length_drop]
  have:=h.1
  omega
 |inr _=>exact⟨Int.le_refl 0,(show(0:Int)≤9223372036854775807 by decide),uH⟩
theorem wM:∀(f:Nat) (n:Int) (a:Nat) (m:Int) (rest:List Int),0≤n→n < 128^(f+1)→a+f≤8→(a=0∨0 < n)→
  k7 ((ff f n).1++(ff f n).2::rest) a m= .inl (m+n*128^a,a+(ff f n).1.length+1)
 | 0,n,a,m,rest,h0,h1,ha,hp=>by
  have h1:n < 128:=h1
  show k7 (n::rest) a m=_
  rw[k7,if_neg (by omega),if_pos h1,Int.emod_eq_of_lt h0 h1]
  rfl
 |f+1,n,a,m,rest,h0,h1,ha,hp=>by
  rw[ff]
  have e:(128:Int)^(f+1+1)=128^(f+1)*128:=Int.pow_succ 128 (f+1)
  split
  ·rename_i h
   show k7 ((n%128+128)::((ff f (n / 128)).1++(ff f (n / 128)).2::rest)) a m=_
   rw[k7,if_neg (by omega),if_neg (by omega),wM f (n / 128) (a+1) _ rest (by omega) (by omega) (by omega) (Or.inr (by omega))]
   have e2:(128:Int)^(a+1)=128^a*128:=Int.pow_succ 128 a
   have e3:(n%128+128)%128=n%128:=by omega
   have e4:m+n%128*128^a+n / 128*(128^a*128)=m+n*128^a:=by
    have:n*128^a=(n%128+n / 128*128)*128^a:=by rw[show n%128+n / 128*128=n by omega]
    rw[this,Int.add_mul,Int.mul_assoc (n / 128),Int.mul_comm 128 (128^a),Int.add_assoc]
   rw[e3,e2,e4]
   simp only[List.length_cons]
   rw[show a+1+(ff f (n / 128)).1.length+1=a+((ff f (n / 128)).1.length+1)+1 by omega]
  ·rename_i h
   show k7 (n::rest) a m=_
   rw[k7,if_neg (by omega),if_pos (by omega),Int.emod_eq_of_lt h0 (by omega)]
   rfl
theorem nI(n:Int)(h:mZ n)(rest:List Int)(u:Bool×Unit):di (fu n++rest,u)=(n,(rest,u)):=by
 have h0:=h.1
 have h1:=h.2
 have e8:(128:Int)^(8+1)=9223372036854775808:=rfl
 have e10:(128:Int)^(10+1)=151115727451828646838272:=rfl
 have er:ff 10 n=ff 8 n:=og 10 8 n (by rw[e10];omega) (by rw[e8];omega)
 have el:fu n++rest=(ff 8 n).1++(ff 8 n).2::rest:=by unfold fu;rw[er,List.append_assoc];rfl
 have e:=wM 8 n 0 0 rest h0 (by rw[e8];omega) (by decide) (Or.inl rfl)
 unfold di
 show(match k7 (fu n++rest) 0 0 with | .inl v=>(v.1,((fu n++rest).drop v.2,u)) | .inr _=>(0,ph))=_
 rw[el,e]
 show(0+n*128^0,(((ff 8 n).1++(ff 8 n).2::rest).drop (0+(ff 8 n).1.length+1),u))=_
 rw[Int.pow_zero,Int.mul_one,Int.zero_add,Nat.zero_add,List.append_cons,List.drop_left' (by rw[List.length_append];rfl)]
theorem Bo(n:Int)(h:ik n):oS (fR n)=n:=by
 obtain⟨h0,h1⟩:=h
 unfold oS fR
 simp only[List.foldl_cons,List.foldl_nil]
 omega
theorem nS(n:Int)(h:ik n)(rest:List Int):iL (fR n++rest,false,())=(n,(rest,false,())):=by
 unfold iL gF
 have l8:=bR n
 rw[if_neg (by
  intro x
  rcases x with x | x
  ·have x:false=true:=x
   cases x
  ·have x:(fR n++rest).length < 8:=x
   rw[List.length_append]at x
   omega)]
 show(oS ((fR n++rest).take 8),((fR n++rest).drop 8,false,()))=_
 rw[List.take_left' l8,List.drop_left' l8,Bo n h]
abbrev bI.L0.D:=Int×eT×Int
def bI.L0.st:bI.L0.D→AS:=fun(n,o0_2,n4)=>⟨([.ptr (.fK 0) 0 [] 0,.ptr (.new 1 0) 0 [] 0,.undef,.d ti n,.ptr (.new 4 0) 0 [] 0,.fn 112 (.cons (.ptr (.new 4 0) 0 [] 0) (.cons (.ptr (.new 1 0) 0 [] 0) (.nil)))]++ba 35 []),[.obj 0 false (.d jm o0_2)],([[],[.obj 0 false (.ptr (.fK 0) 0 [] 0)],[],[],[.obj 0 false (.d ti n4)]]++bK 36 [])⟩
abbrev bI.L0.Y0:=eT
abbrev bI.L0.X0:=eT
def bI.L0.bw:bI.L0.X0→Exit×AS:=fun x=>(.ret,⟨([.ptr (.fK 0) 0 [] 0,.undef,.d ti (0:Int)]++ba 38 []),[.obj 0 false (.d jm x)],(List.replicate 41 [])⟩)
abbrev bI.L0.Y1:=Int×eT×Int
abbrev bI.L0.X1:=Int×eT×Int
def bI.L0.eO:bI.L0.X1→Exit×AS:=fun x=>(.exit 0,⟨([.ptr (.fK 0) 0 [] 0,.ptr (.new 1 0) 0 [] 0,.undef,.d ti x.1,.ptr (.new 4 0) 0 [] 0]++ba 36 []),[.obj 0 false (.d jm x.2.1)],([[],[.obj 0 false (.ptr (.fK 0) 0 [] 0)],[],[],[.obj 0 false (.d ti x.2.2)]]++bK 36 [])⟩)
abbrev bI.L0.X:=(bI.L0.X0)⊕(bI.L0.X1)
abbrev bI.L0.Y:=(bI.L0.Y0)⊕(bI.L0.Y1)
def bI.L0.out:bI.L0.X→Out (Exit×AS):=fun x=> .br x.isLeft (.get x.getLeft? fun a=> .ok (bI.L0.bw a)) (.get x.getRight? fun b=> .ok (bI.L0.eO b))
def bI.L0.add:bI.L0.D→bI.L0.Y→bI.L0.X:=fun(n,o0_2,n4) y=>match y with | .inl y=> .inl y | .inr z=> .inr (z)
abbrev bI.D:=eT
def bI.st:bI.D→SA:=fun o0=>([.ptr (.fK 0) 0 [] 0],[.obj 0 false (.d jm o0)])
abbrev bI.Y:=Int×eT
abbrev bI.X:=Int×eT
def bI.out:bI.X→aZ:=fun x=>⟨.d ti x.1,[.obj 0 false (.d jm x.2)],[]⟩
def bI.add:bI.D→bI.Y→bI.X:=fun o0 y=>y
def bI.L0.aD:bI.L0.D→Prop:=fun(n,o,i)=>iD o∧∃(k m:Nat),k≤9∧i=k∧n=m∧m < 128^k
def bI.L0.F:bI.L0.D→bI.L0.Y:=fun(n,o,i)=>match k7 (o.1.drop i.toNat) i.toNat n with | .inl v=> .inr (v.1,o,(v.2:Int)) | .inr _=> .inl ph
def bI.aD:bI.D→Prop:=fun o=>iD o
def bI.F:bI.D→bI.Y:=fun o=>di o
noncomputable def bI.G:dV:=eY (P:=Tryz.prog) [cO.sg,dT.sg]
noncomputable def bI.L0.E:=bP.cv bI.L0.st bI.L0.aD bI.L0.add bI.L0.F bI.L0.out
noncomputable def bI.L0.call:bI.L0.D→Option bI.L0.X:=dk bI.L0.E bI.L0.st
noncomputable def bI.an:eJ:= {bN:=[1],loops:=jJ [(3,{bn:=[0,1,3,4,5],sites:=[1,4]})],outs:=jI [(3,{bn:=[0,1,3,4],sites:=[1,4]},{bn:=[0,2]})],fJ:=kz [(3,bI.L0.E)],s6:=[⟨0,[.arr],jm⟩]}
noncomputable def bI.A:= @cK Tryz.prog bI.G bI.an 0 Tryz.f56 _ bI.st
abbrev bI.Ok:=cM @bI.A bI.aD bI.add bI.F bI.out
noncomputable def bI.L0.R:= @bV Tryz.prog bI.G bI.an 0 Tryz.f56 0 _ bI.L0.st
abbrev bI.L0.Ok:=eA Tryz.prog bI.G bI.an 0 Tryz.f56 0 bI.L0.st bI.L0.aD bI.L0.add bI.L0.F bI.L0.out
theorem bI.L0.run:bE bI.L0.call bI.L0.aD bI.L0.add bI.L0.F:=eK (eI [.d ti,.d jm,.d ti] fun _=>by kernel_rfl)
theorem bI.L0.aG:iO @bI.L0.R bI.L0.st bI.L0.aD bI.L0.add bI.L0.F bI.L0.out bI.L0.Ok:=jk
theorem bI.L0.step{R:Type}(n:Int)(o0_2:eT)(n4:Int)(kn:AS→Option R)(kx:Exit→AS→Option R):bI.L0.R (n,o0_2,n4) kn kx=
  ae (cO.call (n4,o0_2)) fun x1=>
  aF (x1.2) (
   ae (dT.call x1.1.2) fun x2=>
   kx (bI.L0.bw x2).1 (bI.L0.bw x2).2) (
   aF (dS x1.1.1 (((List.length x1.1.2.1):Nat):Int)) (
   aF (gR (eW .i64 (7:Int) x1.1.1)) (
   aF ((gb (nth tb x1.1.2.1 (Int.toNat x1.1.1)) (128:Int))) (
    kx (bI.L0.eO ((ct .or .i64 n (gC .i64 (dJ .i64 (jl (nth tb x1.1.2.1 (Int.toNat x1.1.1)) (128:Int))) (eW .i64 (7:Int) x1.1.1))),x1.1.2,(bO .i64 x1.1.1 (1:Int)))).1 (bI.L0.eO ((ct .or .i64 n (gC .i64 (dJ .i64 (jl (nth tb x1.1.2.1 (Int.toNat x1.1.1)) (128:Int))) (eW .i64 (7:Int) x1.1.1))),x1.1.2,(bO .i64 x1.1.1 (1:Int)))).2) (
    kn (bI.L0.st ((ct .or .i64 n (gC .i64 (dJ .i64 (jl (nth tb x1.1.2.1 (Int.toNat x1.1.1)) (128:Int))) (eW .i64 (7:Int) x1.1.1))),x1.1.2,(bO .i64 x1.1.1 (1:Int)))))) none) none):=by kernel_rfl
theorem bI.eq{R:Type}(o0:eT)(k:aZ→Option R):bI.A o0 k=
  ae (bI.L0.call ((0:Int),o0,(0:Int))) fun x3=>
  aF (x3.isLeft) (
   ae (x3.getLeft?) fun a4=>
   k (bI.out ((0:Int),a4))) (
   ae (x3.getRight?) fun b5=>
   aF (inc b5.2.2 (((List.length b5.2.1.1):Nat):Int)) (
   k (bI.out (b5.1,((cut b5.2.1.1 (Int.toNat b5.2.2) ((List.length b5.2.1.1) - (Int.toNat b5.2.2))),b5.2.1.2)))) none):=by kernel_rfl
theorem bI.L0.ok:bI.L0.Ok:=by
 refine bI.L0.aG (fun(n,o,i)=>9 - i.toNat) ?_
 rintro⟨n,o,i⟩ ⟨hr,k,m,hk,rfl,rfl,hm⟩
 have hk:k≤9:=hk
 have hr:iD o:=hr
 by_cases hw:o.1.length≤k∨8 < k∨(0 < k∧nth (.int .u8) o.1 k=0)
 ·right
  have hf:k7 (o.1.drop k) k (m:Int)= .inr ():=by
   by_cases h:k < o.1.length
   ·have n1:nth (.int .u8) o.1 k=o.1[k]:=bZ (t:= .int .u8) h
    rw[List.drop_eq_getElem_cons h,k7,if_pos (by rw[n1]at hw;rcases hw with x | x | x;exact absurd x (by omega);exact Or.inl x;exact Or.inr x)]
   ·rw[List.drop_of_length_le (by omega)];rfl
  refine⟨bI.L0.bw ph,?_,fun kn kx=> ?_⟩
  ·simp only[bI.L0.add,bI.L0.F,Int.toNat_natCast,hf]
   rfl
  ·rw[bI.L0.step,cO.run (d:=((k:Int),o)) (Int.natCast_nonneg k)]
   simp only[aa,cO.add,cO.F,Int.toNat_natCast]
   rw[aR hw,ay,dT.run (d:=o) trivial]
   rfl
 ·have h:k < o.1.length:=by omega
  have hx:=hr.2 _ (List.getElem_mem h)
  obtain⟨x1,x2⟩:=hx
  have n1:nth (.int .u8) o.1 k=o.1[k]:=bZ (t:= .int .u8) h
  have hc:¬(8 < k∨(0 < k∧o.1[k]=0)):=fun x=>hw (x.elim (fun y=> .inr (.inl y)) fun y=> .inr (.inr ⟨y.1,n1.trans y.2⟩))
  obtain⟨dn,hdn⟩:∃d:Nat,o.1[k]=d:=⟨o.1[k].toNat,by omega⟩
  have g:=vS (n:=m) (d:=dn%128) (k:=k) (by omega) hm (by omega)
  have step:∀ {R:Type} (kn:AS→Option R) (kx:Exit→AS→Option R),bI.L0.R ((m:Int),o,(k:Int)) kn kx=aF (gb o.1[k] 128) (kx (bI.L0.eO (((m+dn%128*128^k:Nat):Int),o,((k+1:Nat):Int))).1 (bI.L0.eO (((m+dn%128*128^k:Nat):Int),o,((k+1:Nat):Int))).2) (kn (bI.L0.st (((m+dn%128*128^k:Nat):Int),o,((k+1:Nat):Int)))):=by
   intro R kn kx
   rw[bI.L0.step,cO.run (d:=((k:Int),o)) (Int.natCast_nonneg k)]
   simp only[aa,cO.add,cO.F,Int.toNat_natCast]
   rw[aO hw,ao,bh (by omega) (by omega),n1,hdn,N.Dl (by omega),ke (by omega),N.ET,N.cN (by omega),g.1,N.kr (by omega)]
   rfl
  have ef:k7 (o.1.drop k) k (m:Int)=if o.1[k] < 128 then .inl (((m+dn%128*128^k:Nat):Int),k+1) else k7 (o.1.drop (k+1)) (k+1) ((m+dn%128*128^k:Nat):Int):=by
   have ec:(m:Int)+o.1[k]%128*128^k=((m+dn%128*128^k:Nat):Int):=by rw[hdn,yh,Int.natCast_add,Int.natCast_mul];rfl
   rw[List.drop_eq_getElem_cons h,k7,if_neg hc,ec]
  by_cases hl:o.1[k] < 128
  ·right
   refine⟨bI.L0.eO (((m+dn%128*128^k:Nat):Int),o,((k+1:Nat):Int)),?_,fun kn kx=> ?_⟩
   ·simp only[bI.L0.add,bI.L0.F,Int.toNat_natCast,ef,if_pos hl]
    rfl
   ·rw[step,bA hl,ay]
  ·left
   refine⟨(((m+dn%128*128^k:Nat):Int),o,((k+1:Nat):Int)),⟨hr,k+1,_,by omega,rfl,rfl,g.2.1⟩,by simp only[Int.toNat_natCast];omega,?_,fun kn kx=> ?_⟩
   ·simp only[bI.L0.add,bI.L0.F,Int.toNat_natCast,ef,if_neg hl]
   ·rw[step,bm hl,ao]
theorem bI.ok:bI.Ok:=by
 intro o h
 have h:iD o:=h
 rw[bI.eq,bI.L0.run (d:=(0,o,0)) ⟨h,0,0,by decide,rfl,rfl,by decide⟩]
 simp only[aa,bI.L0.add,bI.L0.F,Int.toNat_zero,List.drop_zero,bI.add,bI.F,di]
 cases hf:k7 o.1 0 0 with
 |inl v=>
  have g:=uZ o.1 0 0 v h.2 (by decide) (by decide) (by decide) hf
  have e2:cut o.1 v.2 (o.1.length - v.2)=o.1.drop v.2:=by unfold cut;rw[List.take_of_length_le];rw[List.length_drop];omega
  simp only[Sum.isLeft_inr,Sum.getRight?_inr,ao,aa,Int.toNat_natCast]
  rw[kV (by omega) (by omega),ay,e2]
 |inr _=>rfl
noncomputable def bI.E:=Entry.cv [none] bI.st bI.aD bI.add bI.F bI.out
noncomputable def bI.call:bI.D→Option bI.X:=bJ bI.E bI.st
theorem bI.run:bE bI.call bI.aD bI.add bI.F:=cQ (cP [.d jm] fun _=>by kernel_rfl)
noncomputable def bI.sg:SG Tryz.prog:=⟨56,aW,bI.E,.fn 1 (by kernel_rfl) bI.ok (And.intro (.cv bI.L0.ok (by kernel_rfl)) trivial)⟩
end Go.Ab
