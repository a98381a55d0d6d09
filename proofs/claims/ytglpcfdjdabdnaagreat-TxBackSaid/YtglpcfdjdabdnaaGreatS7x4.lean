/-
  Made short by a program of mine (wip/tools/mini.py).
-/
import Derived.Test.YtglpcfdjdabdnaaGreatS7x3
set_option linter.unusedVariables false
set_option linter.unusedSimpArgs false
namespace Go.Ab
open Go.Proofs
set_option maxRecDepth 100000
set_option linter.unusedVariables false
set_option linter.unusedSimpArgs false
set_option synthInstance.maxSize 5000
abbrev cH.D:=Bs
def cH.st:cH.D→SA:=fun sv=>([.d tU sv],[])
abbrev cH.Y:=Bs
abbrev cH.X:=Bs
def cH.out:cH.X→aY:=fun x=>⟨.d tU x,[],[]⟩
def cH.add:cH.D→cH.Y→cH.X:=fun sv y=>y
def cH.aB:cH.D→Prop:=fun l=>l.length≤1000000
def cH.F:cH.D→cH.Y:=fun l=>l
noncomputable def cH.G:dR:=eO (P:=Tryz.prog) []
noncomputable def cH.an:eu:= {bH:=[5],res:=[some tU]}
noncomputable def cH.A:= @cI Tryz.prog cH.G cH.an 0 Tryz.f135 _ cH.st
abbrev cH.Ok:=cJ @cH.A cH.aB cH.add cH.F cH.out
theorem cH.eq{R:Type}(sv:Bs)(k:aY→Option R):cH.A sv k=
  aJ (decide (0 < (List.length sv))) (
   aJ (dh (0+(List.length sv)) 8) (
   aJ (decide (0=0∧(0+(0+(List.length sv)))≤(List.length ((List.take 0 (List.replicate 0 (0:Int)))++sv)))) (
   k (cH.out (cut ((List.take 0 (List.replicate 0 (0:Int)))++sv) 0 (0+(List.length sv))))) none) none) (
   nd (
    k (cH.out ([]:List Int))) (
    aJ (dh (0+(List.length sv)) 8) (
    aJ (decide (0=0∧(0+(0+(List.length sv)))≤(List.length ((List.take 0 (List.replicate 0 (0:Int)))++sv)))) (
    k (cH.out (cut ((List.take 0 (List.replicate 0 (0:Int)))++sv) 0 (0+(List.length sv))))) none) none)):=by kernel_rfl
theorem cH.ok:cH.Ok:=by
 intro l hl
 have hl:l.length≤1000000:=hl
 have hr:dh l.length 8=true:=eB (by omega) (by omega)
 have e0:(List.take 0 (List.replicate 0 0):List Int)=[]:=rfl
 rw[cH.eq]
 simp only[Nat.zero_add,hr,az,e0,List.nil_append,Nat.le_refl,and_self,decide_true,fa,cH.add,cH.F]
 by_cases h:0 < l.length
 ·simp only[aO h,az]
 ·have:l=[]:=List.eq_nil_of_length_eq_zero (by omega)
  subst this
  simp only[List.length_nil,nH,aK (Nat.lt_irrefl 0),ay]
noncomputable def cH.E:=Entry.ct [some tU] cH.st cH.aB cH.add cH.F cH.out
noncomputable def cH.call:cH.D→Option cH.X:=bG cH.E cH.st
theorem cH.run:bB cH.call cH.aB cH.add cH.F:=cO (cM [.d tU] fun _=>by kernel_rfl)
noncomputable def cH.sg:SG Tryz.prog:=⟨135,aU,cH.E,.fn 0 (by kernel_rfl) cH.ok trivial⟩
def CB(l:List Int):Lk:=([(l,0,0,0,())],())
def DD(own rev delay:Int):Lk:=([([rev],0,0,0,()),([own],0,delay,0,())],())
def Bx(own:Int):Lk:=([([own],0,0,0,()),([],0,16,0,())],())
abbrev fk.D:=Bs
def fk.st:fk.D→SA:=fun l=>([.d tU l],[])
abbrev fk.Y:=Lk
abbrev fk.X:=Lk
def fk.out:fk.X→aY:=fun x=>⟨.d j3 x,[],[]⟩
def fk.add:fk.D→fk.Y→fk.X:=fun l y=>y
def fk.aB:fk.D→Prop:=fun l=>l.length≤1000000
def fk.F:fk.D→fk.Y:=fun l=>CB l
noncomputable def fk.G:dR:=eO (P:=Tryz.prog) [cH.sg]
noncomputable def fk.an:eu:= {}
noncomputable def fk.A:= @cI Tryz.prog fk.G fk.an 0 Tryz.f107 _ fk.st
abbrev fk.Ok:=cJ @fk.A fk.aB fk.add fk.F fk.out
theorem fk.eq{R:Type}(l:Bs)(k:aY→Option R):fk.A l k=
 aq (cH.call l) fun x1=>
 k (fk.out ([(x1,((0:Int),((0:Int),((0:Int),()))))],())):=by kernel_rfl
theorem fk.ok:fk.Ok:=by
 intro l hl
 rw[fk.eq,cH.run (d:=l) hl]
 rfl
noncomputable def fk.E:=Entry.ct [some tU] fk.st fk.aB fk.add fk.F fk.out
noncomputable def fk.call:fk.D→Option fk.X:=bG fk.E fk.st
theorem fk.run:bB fk.call fk.aB fk.add fk.F:=cO (cM [.d tU] fun _=>by kernel_rfl)
noncomputable def fk.sg:SG Tryz.prog:=⟨107,aU,fk.E,.fn 0 (by kernel_rfl) fk.ok trivial⟩
abbrev fE.D:=Int
def fE.st:fE.D→SA:=fun p=>([.d tu p],[])
abbrev fE.Y:=Lk
abbrev fE.X:=Lk
def fE.out:fE.X→aY:=fun x=>⟨.d j3 x,[],[]⟩
def fE.add:fE.D→fE.Y→fE.X:=fun p y=>y
def fE.aB:fE.D→Prop:=fun _=>True
def fE.F:fE.D→fE.Y:=fun p=>CB [p]
noncomputable def fE.G:dR:=eO (P:=Tryz.prog) [fk.sg]
noncomputable def fE.an:eu:= {}
noncomputable def fE.A:= @cI Tryz.prog fE.G fE.an 0 Tryz.f48 _ fE.st
abbrev fE.Ok:=cJ @fE.A fE.aB fE.add fE.F fE.out
theorem fE.eq{R:Type}(p:Int)(k:aY→Option R):fE.A p k=
 aq (fk.call [p]) fun x1=>
 k (fE.out x1):=by kernel_rfl
theorem fE.ok:fE.Ok:=by
 intro p _
 rw[fE.eq,fk.run (d:=[p]) (by show [p].length≤_;simp)]
 rfl
noncomputable def fE.E:=Entry.ct [some tu] fE.st fE.aB fE.add fE.F fE.out
noncomputable def fE.call:fE.D→Option fE.X:=bG fE.E fE.st
theorem fE.run:bB fE.call fE.aB fE.add fE.F:=cO (cM [.d tu] fun _=>by kernel_rfl)
noncomputable def fE.sg:SG Tryz.prog:=⟨48,aU,fE.E,.fn 0 (by kernel_rfl) fE.ok trivial⟩
abbrev ej.D:=Int×Int
def ej.st:ej.D→SA:=fun(a,b)=>([.d tu a,.d tu b],[])
abbrev ej.Y:=Lk
abbrev ej.X:=Lk
def ej.out:ej.X→aY:=fun x=>⟨.d j3 x,[],[]⟩
def ej.add:ej.D→ej.Y→ej.X:=fun(a,b) y=>y
def ej.aB:ej.D→Prop:=fun _=>True
def ej.F:ej.D→ej.Y:=fun(p,q)=>CB [p,q]
noncomputable def ej.G:dR:=eO (P:=Tryz.prog) [fk.sg]
noncomputable def ej.an:eu:= {}
noncomputable def ej.A:= @cI Tryz.prog ej.G ej.an 0 Tryz.f49 _ ej.st
abbrev ej.Ok:=cJ @ej.A ej.aB ej.add ej.F ej.out
theorem ej.eq{R:Type}(a:Int)(b:Int)(k:aY→Option R):ej.A (a,b) k=
 aq (fk.call [a,b]) fun x1=>
 k (ej.out x1):=by kernel_rfl
theorem ej.ok:ej.Ok:=by
 rintro⟨p,q⟩ _
 rw[ej.eq,fk.run (d:=[p,q]) (by show [p,q].length≤_;simp)]
 rfl
noncomputable def ej.E:=Entry.ct [some tu,some tu] ej.st ej.aB ej.add ej.F ej.out
noncomputable def ej.call:ej.D→Option ej.X:=bG ej.E ej.st
theorem ej.run:bB ej.call ej.aB ej.add ej.F:=cO (cM [.d tu,.d tu] fun _=>by kernel_rfl)
noncomputable def ej.sg:SG Tryz.prog:=⟨49,aU,ej.E,.fn 0 (by kernel_rfl) ej.ok trivial⟩
abbrev ek.D:=Int×Int×Int
def ek.st:ek.D→SA:=fun(own,rev,delay)=>([.d tu own,.d tu rev,.d ti delay],[])
abbrev ek.Y:=Lk
abbrev ek.X:=Lk
def ek.out:ek.X→aY:=fun x=>⟨.d j3 x,[],[]⟩
def ek.add:ek.D→ek.Y→ek.X:=fun(own,rev,delay) y=>y
def ek.aB:ek.D→Prop:=fun _=>True
def ek.F:ek.D→ek.Y:=fun(o,r,d)=>DD o r d
noncomputable def ek.G:dR:=eO (P:=Tryz.prog) []
noncomputable def ek.an:eu:= {}
noncomputable def ek.A:= @cI Tryz.prog ek.G ek.an 0 Tryz.f50 _ ek.st
abbrev ek.Ok:=cJ @ek.A ek.aB ek.add ek.F ek.out
theorem ek.eq{R:Type}(own:Int)(rev:Int)(delay:Int)(k:aY→Option R):ek.A (own,rev,delay) k=
 k (ek.out ([([rev],((0:Int),((0:Int),((0:Int),())))),([own],((0:Int),(delay,((0:Int),()))))],())):=by kernel_rfl
theorem ek.ok:ek.Ok:=by
 rintro⟨o,r,d⟩ _
 rw[ek.eq]
 rfl
noncomputable def ek.E:=Entry.ct [some tu,some tu,some ti] ek.st ek.aB ek.add ek.F ek.out
noncomputable def ek.call:ek.D→Option ek.X:=bG ek.E ek.st
theorem ek.run:bB ek.call ek.aB ek.add ek.F:=cO (cM [.d tu,.d tu,.d ti] fun _=>by kernel_rfl)
noncomputable def ek.sg:SG Tryz.prog:=⟨50,aU,ek.E,.fn 0 (by kernel_rfl) ek.ok trivial⟩
abbrev cE.D:=Int
def cE.st:cE.D→SA:=fun own=>([.d tu own],[])
abbrev cE.Y:=Lk
abbrev cE.X:=Lk
def cE.out:cE.X→aY:=fun x=>⟨.d j3 x,[],[]⟩
def cE.add:cE.D→cE.Y→cE.X:=fun own y=>y
def cE.aB:cE.D→Prop:=fun _=>True
def cE.F:cE.D→cE.Y:=fun o=>Bx o
noncomputable def cE.G:dR:=eO (P:=Tryz.prog) []
noncomputable def cE.an:eu:= {}
noncomputable def cE.A:= @cI Tryz.prog cE.G cE.an 0 Tryz.f53 _ cE.st
abbrev cE.Ok:=cJ @cE.A cE.aB cE.add cE.F cE.out
theorem cE.eq{R:Type}(own:Int)(k:aY→Option R):cE.A own k=
 k (cE.out ([([own],((0:Int),((0:Int),((0:Int),())))),(([]:List Int),((0:Int),((16:Int),((0:Int),()))))],())):=by kernel_rfl
theorem cE.ok:cE.Ok:=by
 intro o _
 rw[cE.eq]
 rfl
noncomputable def cE.E:=Entry.ct [some tu] cE.st cE.aB cE.add cE.F cE.out
noncomputable def cE.call:cE.D→Option cE.X:=bG cE.E cE.st
theorem cE.run:bB cE.call cE.aB cE.add cE.F:=cO (cM [.d tu] fun _=>by kernel_rfl)
noncomputable def cE.sg:SG Tryz.prog:=⟨53,aU,cE.E,.fn 0 (by kernel_rfl) cE.ok trivial⟩
abbrev aS.L0.D:=Bs×Bs×Int×Int×(Int×Unit)×Int×Nat×(Int×Unit)×(List Sg)
def aS.L0.st:aS.L0.D→AS:=fun(keys_2,m_2,i,n8,n8_2,n9,n9L,n9_2,n29)=>⟨([.undef,.d tU keys_2]++ba 4 ([.eC tH m_2,.undef,.ptr (.new 8 0) 0 [] 0,.ptr (.new 9 0) 0 [] 0,.d ti i]++ba 21 [])),[],(bN 8 ([[.obj 0 false (.pr (.d ti n8) (.pr (.cU) (.d (.pair tu .unit) n8_2)))],[.obj 0 false (.pr (.d ti n9) (.pr (.cd (.new 29 0) 0 [] 0 0 n9L) (.d (.pair tu .unit) n9_2)))]]++bN 19 [[.obj 0 false (.vec 60 jg n29)],[],[]]))⟩
abbrev aS.L0.Y0:=Nat×(List Sg)
abbrev aS.L0.X0:=(Int×(Int×Unit)×Int×(Int×Unit))×(Nat×(List Sg))
def aS.L0.bq:aS.L0.X0→Exit×AS:=fun x=>(.exit 0,⟨(ba 8 ([.ptr (.new 8 0) 0 [] 0,.ptr (.new 9 0) 0 [] 0]++ba 22 [])),[],(bN 8 ([[.obj 0 false (.pr (.d ti x.1.1) (.pr (.cU) (.d (.pair tu .unit) x.1.2.1)))],[.obj 0 false (.pr (.d ti x.1.2.2.1) (.pr (.cd (.new 29 0) 0 [] 0 0 x.2.1) (.d (.pair tu .unit) x.1.2.2.2)))]]++bN 19 [[.obj 0 false (.vec 60 jg x.2.2)],[],[]]))⟩)
abbrev aS.L0.X:=aS.L0.X0
abbrev aS.L0.Y:=aS.L0.Y0
def aS.L0.out:aS.L0.X→Out (Exit×AS):=fun x=> .ok (aS.L0.bq x)
def aS.L0.add:aS.L0.D→aS.L0.Y→aS.L0.X:=fun(keys_2,m_2,i,n8,n8_2,n9,n9L,n9_2,n29) y=>((n8,n8_2,n9,n9_2),y)
abbrev aS.D:=Int×Bs×Bs×Int
def aS.st:aS.D→SA:=fun(branch,keys,m,secret)=>([.d ti branch,.d tU keys,.d tH m,.d tu secret],[])
abbrev aS.Y:=mE
abbrev aS.X:=mE
def aS.out:aS.X→aY:=fun x=>⟨.d sC x,[],[]⟩
def aS.add:aS.D→aS.Y→aS.X:=fun(branch,keys,m,secret) y=>y
def aS.L0.aB:aS.L0.D→Prop:=fun(ks,m,i,a,b,c,n,d,l)=>mK ks∧Sm m∧ks.length≤1000000∧∃k:Nat,k≤ks.length∧i=k∧k=n∧l=(ks.take k).map fun k=>gX k m
def aS.L0.F:aS.L0.D→aS.L0.Y:=fun(ks,m,i,a,b,c,n,d,l)=>(ks.length,ks.map fun k=>gX k m)
def B6(branch:Int)(ks:List Int)(m:List Int)(secret:Int):mE:=(branch,ks.map (fun k=>gX k m),secret,())
def aS.aB:aS.D→Prop:=fun(b,ks,m,s)=>mK ks∧Sm m∧ks.length≤1000000
def aS.F:aS.D→aS.Y:=fun(b,ks,m,s)=>B6 b ks m s
noncomputable def aS.G:dR:=eO (P:=Tryz.prog) [dz.sg]
noncomputable def aS.L0.E:=bM.ct aS.L0.st aS.L0.aB aS.L0.add aS.L0.F aS.L0.out
noncomputable def aS.L0.call:aS.L0.D→Option aS.L0.X:=dg aS.L0.E aS.L0.st
noncomputable def aS.an:eu:= {loops:=jO [(3,{bh:=[1,6,8,9,10],sites:=[8,9,29],iu:=[⟨9,[.snd,.fst],29,51⟩]})],outs:=jN [(3,{bh:=[8,9],sites:=[8,9,29]},{bh:=[8]})],fF:=ky [(3,aS.L0.E)],res:=[some sC]}
noncomputable def aS.A:= @cI Tryz.prog aS.G aS.an 0 Tryz.f52 _ aS.st
abbrev aS.Ok:=cJ @aS.A aS.aB aS.add aS.F aS.out
noncomputable def aS.L0.R:= @cf Tryz.prog aS.G aS.an 0 Tryz.f52 0 _ aS.L0.st
abbrev aS.L0.Ok:=ez Tryz.prog aS.G aS.an 0 Tryz.f52 0 aS.L0.st aS.L0.aB aS.L0.add aS.L0.F aS.L0.out
theorem aS.L0.run:bB aS.L0.call aS.L0.aB aS.L0.add aS.L0.F:=eE (eD [.d tU,.d tH,.d ti,.d ti,.d (.pair tu .unit),.d ti,.n,.d (.pair tu .unit),.d (.slice jg)] fun _=>by kernel_rfl)
theorem aS.L0.aH:fP @aS.L0.R aS.L0.st aS.L0.aB aS.L0.add aS.L0.F aS.L0.bq aS.L0.Ok:=fS
theorem aS.L0.step{R:Type}(keys_2:Bs)(m_2:Bs)(i:Int)(n8:Int)(n8_2:(Int×Unit))(n9:Int)(n9L:Nat)(n9_2:(Int×Unit))(n29:(List Sg))(kn:AS→Option R)(kx:Exit→AS→Option R):aS.L0.R (keys_2,m_2,i,n8,n8_2,n9,n9L,n9_2,n29) kn kx=
  aJ ((fY i (((List.length keys_2):Nat):Int))) (
   aJ (eh i (((List.length keys_2):Nat):Int)) (
   aq (dz.call ((nth tu keys_2 (Int.toNat i)),m_2)) fun x1=>
   aJ (decide (n9L≤(List.length n29))) (
   aJ (dh (n9L+1) 16) (
   kn (aS.L0.st (keys_2,m_2,(bK .i64 i (1:Int)),n8,n8_2,n9,(n9L+1),n9_2,((List.take n9L n29)++ [x1])))) none) none) none) (
   kx (aS.L0.bq ((n8,n8_2,n9,n9_2),(n9L,n29))).1 (aS.L0.bq ((n8,n8_2,n9,n9_2),(n9L,n29))).2):=by kernel_rfl
theorem aS.eq{R:Type}(branch:Int)(keys:Bs)(m:Bs)(secret:Int)(k:aY→Option R):aS.A (branch,keys,m,secret) k=
 aq (aS.L0.call (keys,m,(0:Int),(0:Int),((0:Int),()),branch,0,(secret,()),([]:List Sg))) fun x3=>
 aJ (decide (0=0∧(0+x3.2.1)≤(List.length x3.2.2))) (
 k (aS.out (x3.1.2.2.1,((cut x3.2.2 0 x3.2.1),x3.1.2.2.2)))) none:=by kernel_rfl
theorem aS.L0.ok:aS.L0.Ok:=by
 refine aS.L0.aH (fun(ks,m,i,a,b,c,n,d,l)=>ks.length - i.toNat) ?_
 rintro⟨ks,m,i,a,b,c,n,d,l⟩ ⟨hl,hm,hb,k,hk,rfl,rfl,rfl⟩
 have hb:ks.length≤1000000:=hb
 have hk:k≤ks.length:=hk
 have ll:((ks.take k).map fun k=>gX k m).length=k:=by rw[List.length_map,List.length_take];omega
 by_cases h:k < ks.length
 ·left
  have hx:=hl _ (List.getElem_mem h)
  have n1:nth (.int .u64) ks k=ks[k]:=cw (t:= .int .u64) h
  refine⟨(ks,m,((k+1:Nat):Int),a,b,c,k+1,d,(ks.take (k+1)).map fun k=>gX k m),⟨hl,hm,hb,k+1,by omega,rfl,rfl,rfl⟩,by simp only[Int.toNat_natCast];omega,rfl,fun kn kx=> ?_⟩
  rw[aS.L0.step]
  simp(disch:=omega) only[↓S1,↓if_pos,↓if_neg,if_pos,if_neg,if_true,if_false,S2,n1]
  rw[dz.run (d:=(ks[k],m)) ⟨hx,hm⟩]
  have e:(ks.take (k+1)).map (fun k=>gX k m)=(ks.take k).map (fun k=>gX k m)++ [gX ks[k] m]:=by rw[List.take_succ_eq_append_getElem h,List.map_append];rfl
  rw[e]
  simp(disch:=omega) only[↓S1,↓if_pos,↓if_neg,if_pos,if_neg,if_true,if_false,S2,dz.add,dz.F,ll,Nat.le_refl,List.take_of_length_le (Nat.le_of_eq ll)]
 ·right
  obtain rfl:k=ks.length:=by omega
  intro R kn kx
  rw[aS.L0.step]
  simp(disch:=omega) only[↓S1,↓if_pos,↓if_neg,if_pos,if_neg,if_true,if_false,S2,aS.L0.add,aS.L0.F,List.take_length]
theorem aS.ok:aS.Ok:=by
 rintro⟨b,ks,m,s⟩ ⟨hl,hm,hb⟩
 rw[aS.eq,aS.L0.run (d:=(ks,m,0,0,(0,()),b,0,(s,()),[])) ⟨hl,hm,hb,0,by omega,rfl,rfl,rfl⟩]
 simp only[ab,aS.L0.add,aS.L0.F,List.length_map,Nat.zero_add,Nat.le_refl,and_self,decide_true,az]
 rw[fa (l:=List.map (fun k=>gX k m) ks) (by rw[List.length_map])]
 rfl
noncomputable def aS.E:=Entry.ct [some ti,some tU,some tH,some tu] aS.st aS.aB aS.add aS.F aS.out
noncomputable def aS.call:aS.D→Option aS.X:=bG aS.E aS.st
theorem aS.run:bB aS.call aS.aB aS.add aS.F:=cO (cM [.d ti,.d tU,.d tB,.d tu] fun _=>by kernel_rfl)
noncomputable def aS.sg:SG Tryz.prog:=⟨52,aU,aS.E,.fn 1 (by kernel_rfl) aS.ok (And.intro (.ct aS.L0.ok (by kernel_rfl)) trivial)⟩
set_option synthInstance.maxSize 5000
abbrev bX.L0.D:=Lk×Int
def bX.L0.st:bX.L0.D→AS:=fun(l_2,i)=>⟨([.undef,.eC j3 l_2,.undef,.d ti i]++ba 23 []),[],(List.replicate 27 [])⟩
abbrev bX.L0.Y0:=Unit
abbrev bX.L0.X0:=Unit
def bX.L0.bq:bX.L0.X0→Exit×AS:=fun x=>(.ret,⟨([.undef,.undef,.d .bool false]++ba 24 []),[],(List.replicate 27 [])⟩)
abbrev bX.L0.Y1:=Unit
abbrev bX.L0.X1:=Lk
def bX.L0.eP:bX.L0.X1→Exit×AS:=fun x=>(.exit 0,⟨([.undef,.eC j3 x]++ba 25 []),[],(List.replicate 27 [])⟩)
abbrev bX.L0.X:=(bX.L0.X0)⊕(bX.L0.X1)
abbrev bX.L0.Y:=(bX.L0.Y0)⊕(bX.L0.Y1)
def bX.L0.out:bX.L0.X→Out (Exit×AS):=fun x=> .br x.isLeft (.get x.getLeft? fun a=> .ok (bX.L0.bq a)) (.get x.getRight? fun b=> .ok (bX.L0.eP b))
def bX.L0.add:bX.L0.D→bX.L0.Y→bX.L0.X:=fun(l_2,i) y=>match y with | .inl y=> .inl y | .inr z=> .inr (l_2)
abbrev bX.D:=Lk
def bX.st:bX.D→SA:=fun l=>([.d j3 l],[])
abbrev bX.Y:=Bool
abbrev bX.X:=Bool
def bX.out:bX.X→aY:=fun x=>⟨.d .bool x,[],[]⟩
def bX.add:bX.D→bX.Y→bX.X:=fun l y=>y
def nB(bs:List fX):Bool:=bs.all fun b=>decide (b.1.length≤20)
def Dt(l:Lk):Bool:=nB (l.1.take 7) && decide (l.1.length≤6)
def bX.L0.aB:bX.L0.D→Prop:=fun(l,i)=>∃k:Nat,k≤l.1.length∧k≤7∧i=k
def bX.L0.F:bX.L0.D→bX.L0.Y:=fun(l,i)=>if nB ((l.1.take 7).drop i.toNat) then .inr () else .inl ()
def bX.aB:bX.D→Prop:=fun _=>True
def bX.F:bX.D→bX.Y:=fun l=>Dt l
noncomputable def bX.G:dR:=eO (P:=Tryz.prog) []
noncomputable def bX.L0.E:=bM.ct bX.L0.st bX.L0.aB bX.L0.add bX.L0.F bX.L0.out
noncomputable def bX.L0.call:bX.L0.D→Option bX.L0.X:=dg bX.L0.E bX.L0.st
noncomputable def bX.an:eu:= {loops:=jO [(2,{bh:=[1,3]})],outs:=jN [(2,{bh:=[1]},{bh:=[2]})],fF:=ky [(2,bX.L0.E)]}
noncomputable def bX.A:= @cI Tryz.prog bX.G bX.an 0 Tryz.f10 _ bX.st
abbrev bX.Ok:=cJ @bX.A bX.aB bX.add bX.F bX.out
noncomputable def bX.L0.R:= @cf Tryz.prog bX.G bX.an 0 Tryz.f10 0 _ bX.L0.st
abbrev bX.L0.Ok:=ez Tryz.prog bX.G bX.an 0 Tryz.f10 0 bX.L0.st bX.L0.aB bX.L0.add bX.L0.F bX.L0.out
theorem bX.L0.run:bB bX.L0.call bX.L0.aB bX.L0.add bX.L0.F:=eE (eD [.d j3,.d ti] fun _=>by kernel_rfl)
theorem bX.L0.aH:jl @bX.L0.R bX.L0.st bX.L0.aB bX.L0.add bX.L0.F bX.L0.out bX.L0.Ok:=jL
theorem bX.L0.step{R:Type}(l_2:Lk)(i:Int)(kn:AS→Option R)(kx:Exit→AS→Option R):bX.L0.R (l_2,i) kn kx=
  aJ ((fY i (((List.length l_2.1):Nat):Int))) (
   aJ ((fY i (7:Int))) (
    aJ (eh i (((List.length l_2.1):Nat):Int)) (
    aJ ((mG (((List.length (nth fe l_2.1 (Int.toNat i)).1):Nat):Int) (20:Int))) (
     kx (bX.L0.bq ()).1 (bX.L0.bq ()).2) (
     kn (bX.L0.st (l_2,(bK .i64 i (1:Int)))))) none) (
    kx (bX.L0.eP l_2).1 (bX.L0.eP l_2).2)) (
   kx (bX.L0.eP l_2).1 (bX.L0.eP l_2).2):=by kernel_rfl
theorem bX.eq{R:Type}(l:Lk)(k:aY→Option R):bX.A l k=
  aq (bX.L0.call (l,(0:Int))) fun x1=>
  aJ (x1.isLeft) (
   aq (x1.getLeft?) fun a2=>
   k (bX.out false)) (
   aq (x1.getRight?) fun b3=>
   k (bX.out (za (((List.length b3.1):Nat):Int) (6:Int)))):=by kernel_rfl
theorem bX.L0.ok:bX.L0.Ok:=by
 refine bX.L0.aH (fun(l,i)=>7 - i.toNat) ?_
 rintro⟨l,i⟩ ⟨k,hk,hk7,rfl⟩
 have hk:k≤l.1.length:=hk
 have hk7:k≤7:=hk7
 by_cases h:k < l.1.length∧k < 7
 ·obtain⟨h,h7⟩:=h
  have ht:k < (l.1.take 7).length:=by rw[List.length_take];omega
  have n1:nth (.pair (.slice (.int .u64)) (.pair (.int .i64) (.pair (.int .i64) (.pair (.int .u64) .unit)))) l.1 k=l.1[k]:=cw (t:=(.pair (.slice (.int .u64)) (.pair (.int .i64) (.pair (.int .i64) (.pair (.int .u64) .unit))))) h
  have hg:(l.1.take 7)[k]=l.1[k]:=List.getElem_take
  have hd:nB ((l.1.take 7).drop k)=(decide (l.1[k].1.length≤20) && nB ((l.1.take 7).drop (k+1))):=by
   unfold nB
   rw[List.drop_eq_getElem_cons ht,List.all_cons,hg]
  have step:∀ {R:Type} (kn:AS→Option R) (kx:Exit→AS→Option R),bX.L0.R (l,(k:Int)) kn kx=aJ (decide (l.1[k].1.length≤20)) (kn (bX.L0.st (l,((k+1:Nat):Int)))) (kx (bX.L0.bq ()).1 (bX.L0.bq ()).2):=by
   intro R kn kx
   rw[bX.L0.step,bw (by omega),bw (by omega),bn (by omega) (by omega),Int.toNat_natCast,n1,N.kA (by omega)]
   simp only[az]
   by_cases hc:l.1[k].1.length≤20
   ·rw[dE (by omega),aO hc];rfl
   ·rw[dQ (by omega),aK hc];rfl
  cases hp:decide (l.1[k].1.length≤20)
  ·right
   refine⟨bX.L0.bq (),?_,fun kn kx=> ?_⟩
   ·simp only[bX.L0.add,bX.L0.F,Int.toNat_natCast,hd,hp,Bool.false_and,Bool.false_eq_true,if_false]
    rfl
   ·rw[step,hp,ay]
  ·left
   refine⟨(l,((k+1:Nat):Int)),⟨k+1,by omega,by omega,rfl⟩,by simp only[Int.toNat_natCast];omega,?_,fun kn kx=> ?_⟩
   ·simp only[bX.L0.add,bX.L0.F,Int.toNat_natCast,hd,hp,Bool.true_and]
   ·rw[step,hp,az]
 ·right
  have ht:(l.1.take 7).length≤k:=by rw[List.length_take];omega
  refine⟨bX.L0.eP l,?_,fun kn kx=> ?_⟩
  ·simp only[bX.L0.add,bX.L0.F,Int.toNat_natCast,List.drop_of_length_le ht]
   rfl
  ·rw[bX.L0.step]
   by_cases h1:k < l.1.length
   ·rw[bw (by omega),bm (by omega)];rfl
   ·rw[bm (by omega)];rfl
theorem bX.ok:bX.Ok:=by
 intro l _
 rw[bX.eq,bX.L0.run (d:=(l,0)) ⟨0,by omega,by omega,rfl⟩]
 simp only[ab,bX.L0.add,bX.L0.F,Int.toNat_zero,List.drop_zero,bX.add,bX.F,Dt]
 cases nB (l.1.take 7)
 ·rfl
 ·simp only[if_true,Bool.true_and]
  show some (bX.out (za _ _))=_
  by_cases h:l.1.length≤6
  ·rw[m0 (by omega),aO h]
  ·rw[kr (by omega),aK h]
noncomputable def bX.E:=Entry.ct [some j3] bX.st bX.aB bX.add bX.F bX.out
noncomputable def bX.call:bX.D→Option bX.X:=bG bX.E bX.st
theorem bX.run:bB bX.call bX.aB bX.add bX.F:=cO (cM [.d j3] fun _=>by kernel_rfl)
noncomputable def bX.sg:SG Tryz.prog:=⟨10,aU,bX.E,.fn 1 (by kernel_rfl) bX.ok (And.intro (.ct bX.L0.ok (by kernel_rfl)) trivial)⟩
set_option synthInstance.maxSize 5000
def jk(o:List Int)(ks:List Int):List Int:=ks.foldl (fun o p=>o++fJ p) o
def Bp(o:List Int)(b:fX):List Int:=dZ (dZ (jk (dZ o b.1.length) b.1) b.2.1) b.2.2.1++fJ b.2.2.2.1
def oZ(l:Lk):List Int:=if iK l then l.1.foldl Bp (dZ [] l.1.length) else []
theorem pQ:∀(ks:List Int) (o:List Int),(jk o ks).length=o.length+8*ks.length
 |[],o=>rfl
 |k::ks,o=>by
  show(jk (o++fJ k) ks).length=_
  rw[pQ ks,List.length_append,bJ,List.length_cons];omega
theorem xY(o:List Int)(b:fX)(h:b.1.length≤12):(Bp o b).length≤o.length+200:=by
 unfold Bp
 have h1:=e7 o b.1.length
 have h2:=pQ b.1 (dZ o b.1.length)
 have h3:=e7 (jk (dZ o b.1.length) b.1) b.2.1
 have h4:=e7 (dZ (jk (dZ o b.1.length) b.1) b.2.1) b.2.2.1
 rw[List.length_append,bJ];omega
def Bv(n:Int):Prop:=n≤9223372036854775807
def DW(b:fX):Prop:=b.1.length≤12∧Bv b.2.1∧Bv b.2.2.1
theorem CG{b:fX}(h:nZ b=true):DW b:=by
 unfold nZ vE at h
 simp only[Bool.and_eq_true,decide_eq_true_eq]at h
 obtain⟨h1,_,h2,h3,_⟩:=h
 exact⟨h1,by unfold Bv;omega,by unfold Bv;omega⟩
theorem xp(o:List Int)(ks:List Int)(k:Nat)(h:k < ks.length):jk o (ks.drop k)=jk (o++fJ ks[k]) (ks.drop (k+1)):=by rw[List.drop_eq_getElem_cons h];rfl
abbrev aD.L0.D:=Bs×(List fX)×Int×Int
def aD.L0.st:aD.L0.D→AS:=fun(outv,t16,t17,t18)=>⟨([.undef,.undef,.undef,.d tB outv]++ba 12 ([.d (.slice fe) t16,.d ti t17,.d ti t18]++ba 31 [])),[],(List.replicate 50 [])⟩
abbrev aD.L0.Y0:=Bs
abbrev aD.L0.X0:=Bs
def aD.L0.bq:aD.L0.X0→Exit×AS:=fun x=>(.exit 0,⟨([.undef,.undef,.undef,.d tB x]++ba 46 []),[],(List.replicate 50 [])⟩)
abbrev aD.L0.X:=aD.L0.X0
abbrev aD.L0.Y:=aD.L0.Y0
def aD.L0.out:aD.L0.X→Out (Exit×AS):=fun x=> .ok (aD.L0.bq x)
def aD.L0.add:aD.L0.D→aD.L0.Y→aD.L0.X:=fun(outv,t16,t17,t18) y=>y
abbrev aD.L1.D:=Bs×(List fX)×Int×Int×Bs×Int×Int×fX
def aD.L1.st:aD.L1.D→AS:=fun(outv_2,t16_2,t17_2,t18_2,t28,t29,t30,n5)=>⟨([.undef,.undef,.undef,.d tB outv_2,.undef,.ptr (.new 5 0) 0 [] 0]++ba 10 ([.d (.slice fe) t16_2,.d ti t17_2,.d ti t18_2]++ba 9 ([.d tU t28,.d ti t29,.d ti t30]++ba 19 []))),[],(bN 5 ([[.obj 0 false (.d fe n5)]]++bN 44 []))⟩
abbrev aD.L1.Y0:=Bs
abbrev aD.L1.X0:=((List fX)×Int×Int×fX)×(Bs)
def aD.L1.bq:aD.L1.X0→Exit×AS:=fun x=>(.exit 2,⟨([.undef,.undef,.undef,.d tB x.2,.undef,.ptr (.new 5 0) 0 [] 0]++ba 10 ([.d (.slice fe) x.1.1,.d ti x.1.2.1,.d ti x.1.2.2.1]++ba 31 [])),[],(bN 5 ([[.obj 0 false (.d fe x.1.2.2.2)]]++bN 44 []))⟩)
abbrev aD.L1.X:=aD.L1.X0
abbrev aD.L1.Y:=aD.L1.Y0
def aD.L1.out:aD.L1.X→Out (Exit×AS):=fun x=> .ok (aD.L1.bq x)
def aD.L1.add:aD.L1.D→aD.L1.Y→aD.L1.X:=fun(outv_2,t16_2,t17_2,t18_2,t28,t29,t30,n5) y=>((t16_2,t17_2,t18_2,n5),y)
abbrev aD.D:=Lk
def aD.st:aD.D→SA:=fun l=>([.d j3 l],[])
abbrev aD.Y:=Bs
abbrev aD.X:=Bs
def aD.out:aD.X→aY:=fun x=>⟨.d tB x,[],[]⟩
def aD.add:aD.D→aD.Y→aD.X:=fun l y=>y
def aD.L1.aB:aD.L1.D→Prop:=fun(o,bs,n,i,ks,m,j,b)=>ks.length≤12∧o.length+8*ks.length≤80000000+8*j.toNat∧m=ks.length∧∃k:Nat,k≤ks.length∧j=k
def aD.L1.F:aD.L1.D→aD.L1.Y:=fun(o,bs,n,i,ks,m,j,b)=>jk o (ks.drop j.toNat)
def aD.L0.aB:aD.L0.D→Prop:=fun(o,bs,n,i)=>(∀b∈bs,DW b)∧bs.length≤4∧o.length≤1000+200*i.toNat∧n=bs.length∧∃k:Nat,k≤bs.length∧i=k
def aD.L0.F:aD.L0.D→aD.L0.Y:=fun(o,bs,n,i)=>(bs.drop i.toNat).foldl Bp o
def aD.aB:aD.D→Prop:=fun l=>xQ l∧l.1.length≤1000000000
def aD.F:aD.D→aD.Y:=fun l=>oZ l
noncomputable def aD.G:dR:=eO (P:=Tryz.prog) [aM.sg,dw.sg,dk.sg]
noncomputable def aD.L0.E:=bM.ct aD.L0.st aD.L0.aB aD.L0.add aD.L0.F aD.L0.out
noncomputable def aD.L0.call:aD.L0.D→Option aD.L0.X:=dg aD.L0.E aD.L0.st
noncomputable def aD.L1.E:=bM.ct aD.L1.st aD.L1.aB aD.L1.add aD.L1.F aD.L1.out
noncomputable def aD.L1.call:aD.L1.D→Option aD.L1.X:=dg aD.L1.E aD.L1.st
noncomputable def aD.an:eu:= {loops:=jO [(5,{bh:=[3,16,17,18]}),(9,{bh:=[3,5,16,17,18,28,29,30],sites:=[5]})],outs:=jN [(5,{bh:=[3]},{bh:=[2]}),(9,{bh:=[3,5,16,17,18],sites:=[5]},{bh:=[2]})],fF:=ky [(5,aD.L0.E),(9,aD.L1.E)],res:=[some tB]}
noncomputable def aD.A:= @cI Tryz.prog aD.G aD.an 0 Tryz.f17 _ aD.st
abbrev aD.Ok:=cJ @aD.A aD.aB aD.add aD.F aD.out
noncomputable def aD.L0.R:= @cf Tryz.prog aD.G aD.an 0 Tryz.f17 0 _ aD.L0.st
abbrev aD.L0.Ok:=ez Tryz.prog aD.G aD.an 0 Tryz.f17 0 aD.L0.st aD.L0.aB aD.L0.add aD.L0.F aD.L0.out
noncomputable def aD.L1.R:= @cf Tryz.prog aD.G aD.an 0 Tryz.f17 1 _ aD.L1.st
abbrev aD.L1.Ok:=ez Tryz.prog aD.G aD.an 0 Tryz.f17 1 aD.L1.st aD.L1.aB aD.L1.add aD.L1.F aD.L1.out
theorem aD.L0.run:bB aD.L0.call aD.L0.aB aD.L0.add aD.L0.F:=eE (eD [.d tB,.d (.slice fe),.d ti,.d ti] fun _=>by kernel_rfl)
theorem aD.L0.aH:fP @aD.L0.R aD.L0.st aD.L0.aB aD.L0.add aD.L0.F aD.L0.bq aD.L0.Ok:=fS
theorem aD.L0.step{R:Type}(outv:Bs)(t16:(List fX))(t17:Int)(t18:Int)(kn:AS→Option R)(kx:Exit→AS→Option R):aD.L0.R (outv,t16,t17,t18) kn kx=
  aJ ((fY t18 t17)) (
   aJ (eh t18 (((List.length t16):Nat):Int)) (
   aq (dw.call (outv,(((List.length (nth fe t16 (Int.toNat t18)).1):Nat):Int))) fun x1=>
   aq (aD.L1.call (x1,t16,t17,t18,(nth fe t16 (Int.toNat t18)).1,(((List.length (nth fe t16 (Int.toNat t18)).1):Nat):Int),(0:Int),(nth fe t16 (Int.toNat t18)))) fun x2=>
   aq (dw.call (x2.2,x2.1.2.2.2.2.1)) fun x3=>
   aq (dw.call (x3,x2.1.2.2.2.2.2.1)) fun x4=>
   aq (dk.call (x4,x2.1.2.2.2.2.2.2.1)) fun x5=>
   kn (aD.L0.st (x5,x2.1.1,x2.1.2.1,(bK .i64 x2.1.2.2.1 (1:Int))))) none) (
   kx (aD.L0.bq outv).1 (aD.L0.bq outv).2):=by kernel_rfl
theorem aD.L1.run:bB aD.L1.call aD.L1.aB aD.L1.add aD.L1.F:=eE (eD [.d tB,.d (.slice fe),.d ti,.d ti,.d tU,.d ti,.d ti,.d fe] fun _=>by kernel_rfl)
theorem aD.L1.aH:fP @aD.L1.R aD.L1.st aD.L1.aB aD.L1.add aD.L1.F aD.L1.bq aD.L1.Ok:=fS
theorem aD.L1.step{R:Type}(outv_2:Bs)(t16_2:(List fX))(t17_2:Int)(t18_2:Int)(t28:Bs)(t29:Int)(t30:Int)(n5:fX)(kn:AS→Option R)(kx:Exit→AS→Option R):aD.L1.R (outv_2,t16_2,t17_2,t18_2,t28,t29,t30,n5) kn kx=
  aJ ((fY t30 t29)) (
   aJ (eh t30 (((List.length t28):Nat):Int)) (
   aq (dk.call (outv_2,(nth tu t28 (Int.toNat t30)))) fun x1=>
   kn (aD.L1.st (x1,t16_2,t17_2,t18_2,t28,t29,(bK .i64 t30 (1:Int)),n5))) none) (
   kx (aD.L1.bq ((t16_2,t17_2,t18_2,n5),outv_2)).1 (aD.L1.bq ((t16_2,t17_2,t18_2,n5),outv_2)).2):=by kernel_rfl
theorem aD.eq{R:Type}(l:Lk)(k:aY→Option R):aD.A l k=
  aq (aM.call l) fun x1=>
  aJ ((!x1)) (
   k (aD.out ([]:List Int))) (
   aq (dw.call (([]:List Int),(((List.length l.1):Nat):Int))) fun x2=>
   aq (aD.L0.call (x2,l.1,(((List.length l.1):Nat):Int),(0:Int))) fun x9=>
   k (aD.out x9)):=by kernel_rfl
theorem aD.L1.ok:aD.L1.Ok:=by
 refine aD.L1.aH (fun(o,bs,n,i,ks,m,j,b)=>ks.length - j.toNat) ?_
 rintro⟨o,bs,n,i,ks,m,j,b⟩ ⟨hk12,hl,rfl,k,hk,rfl⟩
 have hk12:ks.length≤12:=hk12
 have hk:k≤ks.length:=hk
 have hl:o.length+8*ks.length≤80000000+8*(k:Int).toNat:=hl
 rw[Int.toNat_natCast]at hl
 by_cases h:k < ks.length
 ·left
  have n1:nth (.int .u64) ks k=ks[k]:=cw (t:= .int .u64) h
  refine⟨(o++fJ ks[k],bs,n,i,ks,ks.length,((k+1:Nat):Int),b),⟨hk12,by rw[List.length_append,bJ,Int.toNat_natCast];omega,rfl,k+1,by omega,rfl⟩,by simp only[Int.toNat_natCast];omega,?_,fun kn kx=> ?_⟩
  ·simp only[aD.L1.add,aD.L1.F,Int.toNat_natCast]
   rw[xp _ _ _ h]
  ·rw[aD.L1.step]
   simp(disch:=omega) only[↓S1,↓if_pos,↓if_neg,if_pos,if_neg,if_true,if_false,S2,n1]
   rw[dk.run (d:=(o,ks[k])) (by show o.length≤90000000;omega)]
   rfl
 ·right
  obtain rfl:k=ks.length:=by omega
  intro R kn kx
  rw[aD.L1.step]
  simp(disch:=omega) only[↓S1,↓if_pos,↓if_neg,if_pos,if_neg,if_true,if_false,S2,aD.L1.add,aD.L1.F,List.drop_length]
  rfl
theorem aD.L0.ok:aD.L0.Ok:=by
 refine aD.L0.aH (fun(o,bs,n,i)=>bs.length - i.toNat) ?_
 rintro⟨o,bs,n,i⟩ ⟨hb,h4,hl,rfl,k,hk,rfl⟩
 have h4:bs.length≤4:=h4
 have hk:k≤bs.length:=hk
 have hl:o.length≤1000+200*(k:Int).toNat:=hl
 rw[Int.toNat_natCast]at hl
 by_cases h:k < bs.length
 ·left
  have hx:=hb _ (List.getElem_mem h)
  have n1:nth (.pair (.slice (.int .u64)) (.pair (.int .i64) (.pair (.int .i64) (.pair (.int .u64) .unit)))) bs k=bs[k]:=cw (t:=(.pair (.slice (.int .u64)) (.pair (.int .i64) (.pair (.int .i64) (.pair (.int .u64) .unit))))) h
  have e0:=xY o bs[k] hx.1
  refine⟨(Bp o bs[k],bs,bs.length,((k+1:Nat):Int)),⟨hb,h4,by rw[Int.toNat_natCast];omega,rfl,k+1,by omega,rfl⟩,by simp only[Int.toNat_natCast];omega,?_,fun kn kx=> ?_⟩
  ·simp only[aD.L0.add,aD.L0.F,Int.toNat_natCast]
   rw[List.drop_eq_getElem_cons h]
   rfl
  ·rw[aD.L0.step,bw (by omega),bn (by omega) (by omega),Int.toNat_natCast,n1]
   obtain⟨⟨ks,af,dl,sc,u⟩,hbk⟩:∃b,bs[k]=b:=⟨_,rfl⟩
   rw[hbk]at hx e0 ⊢
   obtain⟨h12,ha,hd⟩:=hx
   have h12:ks.length≤12:=h12
   have ha:af≤9223372036854775807:=ha
   have hd:dl≤9223372036854775807:=hd
   have l1:=e7 o ks.length
   have l2:=pQ ks (dZ o ks.length)
   have l3:=e7 (jk (dZ o ks.length) ks) af
   have l4:=e7 (dZ (jk (dZ o ks.length) ks) af) dl
   simp only[az]
   rw[dw.run (d:=(o,(ks.length:Int))) ⟨by show o.length≤90000000;omega,by show(ks.length:Int)≤9223372036854775807;omega⟩]
   simp only[ab,dw.add,dw.F]
   rw[aD.L1.run (d:=(dZ o ks.length,bs,bs.length,k,ks,ks.length,0,(ks,af,dl,sc,u))) ⟨h12,by show(dZ o ks.length).length+8*ks.length≤_;omega,rfl,0,by omega,rfl⟩]
   simp only[ab,aD.L1.add,aD.L1.F,Int.toNat_zero,List.drop_zero]
   rw[dw.run (d:=(jk (dZ o ks.length) ks,af)) ⟨by show(jk (dZ o ks.length) ks).length≤90000000;omega,ha⟩]
   simp only[ab,dw.add,dw.F]
   rw[dw.run (d:=(dZ (jk (dZ o ks.length) ks) af,dl)) ⟨by show(dZ (jk (dZ o ks.length) ks) af).length≤90000000;omega,hd⟩]
   simp only[ab,dw.add,dw.F]
   rw[dk.run (d:=(dZ (dZ (jk (dZ o ks.length) ks) af) dl,sc)) (by show(dZ (dZ (jk (dZ o ks.length) ks) af) dl).length≤90000000;omega)]
   simp only[ab,dk.add,dk.F]
   rw[N.kA (by omega)]
   rfl
 ·right
  obtain rfl:k=bs.length:=by omega
  intro R kn kx
  rw[aD.L0.step]
  simp(disch:=omega) only[↓S1,↓if_pos,↓if_neg,if_pos,if_neg,if_true,if_false,S2,aD.L0.add,aD.L0.F,List.drop_length]
  rfl
theorem AE{l:Lk}(h:iK l=true):(∀b∈l.1,DW b)∧0 < l.1.length∧l.1.length≤4:=by
 unfold iK at h
 simp only[Bool.and_eq_true,List.all_eq_true,decide_eq_true_eq]at h
 exact⟨fun b hb=>CG (h.1 b hb),h.2⟩
theorem aD.ok:aD.Ok:=by
 rintro l ⟨hl,hb⟩
 have hl:xQ l:=hl
 rw[aD.eq,aM.run (d:=l) ⟨hl,hb⟩]
 simp only[ab,aM.add,aM.F,aD.add,aD.F,oZ]
 cases hok:iK l
 ·rfl
 ·obtain⟨h1,h2,h3⟩:=AE hok
  have l1:=e7 [] l.1.length
  have l0:([]:List Int).length=0:=rfl
  simp only[Bool.not_true,ay,if_true]
  rw[dw.run (d:=([],(l.1.length:Int))) ⟨by show([]:List Int).length≤90000000;omega,by show(l.1.length:Int)≤9223372036854775807;omega⟩]
  simp only[ab,dw.add,dw.F]
  rw[aD.L0.run (d:=(dZ [] l.1.length,l.1,l.1.length,0)) ⟨h1,h3,by show(dZ [] l.1.length).length≤_;omega,rfl,0,by omega,rfl⟩]
  rfl
theorem nG(l:Lk):(oZ l).length≤1000:=by
 unfold oZ
 split
 ·rename_i h
  obtain⟨h1,h2,h3⟩:=AE h
  have key:∀(bs:List fX) (o:List Int),(∀b∈bs,DW b)→(bs.foldl Bp o).length≤o.length+200*bs.length:=by
   intro bs
   induction bs with
   |nil=>intro o _;exact Nat.le_refl _
   |cons b bs ih=>
    intro o hb
    have e1:=ih (Bp o b) fun x hx=>hb x (List.mem_cons_of_mem _ hx)
    have e2:=xY o b (hb b List.mem_cons_self).1
    rw[List.foldl_cons,List.length_cons];omega
  have e:=key l.1 (dZ [] l.1.length) h1
  have e2:=e7 [] l.1.length
  have l0:([]:List Int).length=0:=rfl
  omega
 ·exact Nat.zero_le _
def DH:ByteArray:=⟨#[108,111,99,107]⟩
def EI(l:Lk):List Int:=if iK l then wO DH [oZ l] else List.replicate 32 0
noncomputable def aD.E:=Entry.ct [some j3] aD.st aD.aB aD.add aD.F aD.out
noncomputable def aD.call:aD.D→Option aD.X:=bG aD.E aD.st
theorem aD.run:bB aD.call aD.aB aD.add aD.F:=cO (cM [.d j3] fun _=>by kernel_rfl)
noncomputable def aD.sg:SG Tryz.prog:=⟨17,aU,aD.E,.fn 2 (by kernel_rfl) aD.ok (And.intro (.ct aD.L0.ok (by kernel_rfl)) (And.intro (.ct aD.L1.ok (by kernel_rfl)) trivial))⟩
abbrev fA.D:=Lk
def fA.st:fA.D→SA:=fun l=>([.d j3 l],[])
abbrev fA.Y:=Bs
abbrev fA.X:=Bs
def fA.out:fA.X→aY:=fun x=>⟨.d tH x,[],[]⟩
def fA.add:fA.D→fA.Y→fA.X:=fun l y=>y
def fA.aB:fA.D→Prop:=fun l=>xQ l∧l.1.length≤1000000000
def fA.F:fA.D→fA.Y:=fun l=>EI l
noncomputable def fA.G:dR:=eO (P:=Tryz.prog) [aM.sg,aD.sg,bP.sg]
noncomputable def fA.an:eu:= {}
noncomputable def fA.A:= @cI Tryz.prog fA.G fA.an 0 Tryz.f19 _ fA.st
abbrev fA.Ok:=cJ @fA.A fA.aB fA.add fA.F fA.out
theorem fA.eq{R:Type}(l:Lk)(k:aY→Option R):fA.A l k=
  aq (aM.call l) fun x1=>
  aJ ((!x1)) (
   k (fA.out (List.replicate 32 (0:Int)))) (
   aq (aD.call l) fun x2=>
   aq (bP.call ((⟨#[108,111,99,107]⟩:ByteArray),[x2])) fun x3=>
   k (fA.out x3)):=by kernel_rfl
theorem fA.ok:fA.Ok:=by
 rintro l ⟨hl,hb⟩
 have hl:xQ l:=hl
 have hlen:=nG l
 rw[fA.eq,aM.run (d:=l) ⟨hl,hb⟩,aD.run (d:=l) ⟨hl,hb⟩]
 simp only[ab,aM.add,aM.F,aD.add,aD.F,fA.add,fA.F,EI]
 rw[bP.run (d:=((⟨#[108,111,99,107]⟩:ByteArray),[oZ l])) (sk (by decide) (by omega))]
 cases iK l <;> rfl
noncomputable def fA.E:=Entry.ct [some j3] fA.st fA.aB fA.add fA.F fA.out
noncomputable def fA.call:fA.D→Option fA.X:=bG fA.E fA.st
theorem fA.run:bB fA.call fA.aB fA.add fA.F:=cO (cM [.d j3] fun _=>by kernel_rfl)
noncomputable def fA.sg:SG Tryz.prog:=⟨19,aU,fA.E,.fn 0 (by kernel_rfl) fA.ok trivial⟩
set_option synthInstance.maxSize 5000
abbrev dU.D:=Bs×Bs
def dU.st:dU.D→SA:=fun(b,h)=>([.d tB b,.d tH h],[])
abbrev dU.Y:=Bs
abbrev dU.X:=Bs
def dU.out:dU.X→aY:=fun x=>⟨.d tB x,[],[]⟩
def dU.add:dU.D→dU.Y→dU.X:=fun(b,h) y=>y
def dU.aB:dU.D→Prop:=fun(b,h)=>b.length+h.length≤100000000∧h.length=32
def dU.F:dU.D→dU.Y:=fun(b,h)=>b++h
noncomputable def dU.G:dR:=eO (P:=Tryz.prog) [dp.sg]
noncomputable def dU.an:eu:= {}
noncomputable def dU.A:= @cI Tryz.prog dU.G dU.an 0 Tryz.f140 _ dU.st
abbrev dU.Ok:=cJ @dU.A dU.aB dU.add dU.F dU.out
theorem dU.eq{R:Type}(b:Bs)(h:Bs)(k:aY→Option R):dU.A (b,h) k=
 aq (dp.call (b,(cut h 0 32))) fun x1=>
 k (dU.out x1):=by kernel_rfl
theorem dU.ok:dU.Ok:=by
 rintro⟨b,h⟩ ⟨h1,h2⟩
 have h1:b.length+h.length≤100000000:=h1
 have h2:h.length=32:=h2
 rw[dU.eq,fa h2,dp.run (d:=(b,h)) h1]
 rfl
noncomputable def dU.E:=Entry.ct [some tB,some tH] dU.st dU.aB dU.add dU.F dU.out
noncomputable def dU.call:dU.D→Option dU.X:=bG dU.E dU.st
theorem dU.run:bB dU.call dU.aB dU.add dU.F:=cO (cM [.d tB,.d tB] fun _=>by kernel_rfl)
noncomputable def dU.sg:SG Tryz.prog:=⟨140,aU,dU.E,.fn 0 (by kernel_rfl) dU.ok trivial⟩
abbrev dO.D:=Bs×Bs
def dO.st:dO.D→SA:=fun(b,c)=>([.d tB b,.d tB c],[])
abbrev dO.Y:=Bs
abbrev dO.X:=Bs
def dO.out:dO.X→aY:=fun x=>⟨.d tB x,[],[]⟩
def dO.add:dO.D→dO.Y→dO.X:=fun(b,c) y=>y
def dO.aB:dO.D→Prop:=fun(b,c)=>b.length+c.length≤90000000
def dO.F:dO.D→dO.Y:=fun(b,c)=>b++(fi c.length++c)
noncomputable def dO.G:dR:=eO (P:=Tryz.prog) [cn.sg,av.sg]
noncomputable def dO.an:eu:= {res:=[some tB]}
noncomputable def dO.A:= @cI Tryz.prog dO.G dO.an 0 Tryz.f141 _ dO.st
abbrev dO.Ok:=cJ @dO.A dO.aB dO.add dO.F dO.out
theorem dO.eq{R:Type}(b:Bs)(c:Bs)(k:aY→Option R):dO.A (b,c) k=
 aq (cn.call (((List.length c):Nat):Int)) fun x1=>
 aq (av.call [b,x1,c]) fun x2=>
 k (dO.out x2):=by kernel_rfl
theorem dO.ok:dO.Ok:=by
 rintro⟨b,c⟩ h
 have h:b.length+c.length≤90000000:=h
 have hl:=gG c.length
 rw[dO.eq,cn.run (d:=(c.length:Int)) ⟨by omega,by omega⟩]
 simp only[ab,cn.add,cn.F]
 rw[av.run (d:=[b,fi c.length,c]) ⟨by show [b,fi c.length,c].length≤_;simp,by show iZ [b,fi c.length,c]≤_;simp only[iZ,List.flatten_cons,List.flatten_nil,List.append_nil,List.length_append];omega⟩]
 simp only[ab,av.add,av.F,dO.add,dO.F,List.flatten_cons,List.flatten_nil,List.append_nil]
noncomputable def dO.E:=Entry.ct [some tB,some tB] dO.st dO.aB dO.add dO.F dO.out
noncomputable def dO.call:dO.D→Option dO.X:=bG dO.E dO.st
theorem dO.run:bB dO.call dO.aB dO.add dO.F:=cO (cM [.d tB,.d tB] fun _=>by kernel_rfl)
noncomputable def dO.sg:SG Tryz.prog:=⟨141,aU,dO.E,.fn 0 (by kernel_rfl) dO.ok trivial⟩
def qP(b:List Int)(x:ff):List Int:=dZ (b++x.1.1) x.1.2.1
def qG(b:List Int)(o:fM):List Int:=dZ b o.1++(fi (oZ o.2.1).length++oZ o.2.1)
def j6(t:eX):List Int:=dZ (t.2.1.foldl qG (dZ (t.1.foldl qP (dZ [] t.1.length)) t.2.1.length)) t.2.2.1
def r9(b:List Int)(s:Sg):List Int:=b++fJ s.1++fJ s.2.1
def xN(b:List Int)(x:ff):List Int:=x.2.1.2.1.foldl r9 (dZ (dZ b x.2.1.1) x.2.1.2.1.length)++fJ x.2.1.2.2.1
def sy(t:eX):List Int:=if fH t then t.1.foldl xN (j6 t) else []
def tF(t:eX):List Int:=if fH t then tag (bf (⟨#[116,120]⟩:ByteArray)) [j6 t] else List.replicate 32 0
def EE(x:ff):Prop:=Sm x.1.1∧qB x.2.1∧x.2.1.2.1.length≤1000000000
def qJ(t:eX):Prop:=DZ t∧(∀x∈t.1,EE x)∧t.2.2.1≤9223372036854775807
theorem gU:∀(l:List ff) (m:List (j4×Bool)),qE m l=true→∀x∈l,rC x=true
 |[],_,_,x,hx=>by cases hx
 |y::l,m,h,x,hx=>by
  rw[qE,Bool.and_eq_true,Bool.and_eq_true]at h
  rcases List.mem_cons.1 hx with rfl | hx
  ·exact h.1.2
  ·exact gU l _ h.2 x hx
theorem iM:∀(l:List fM) (s:Int),mc s l=true→∀o∈l,(0≤o.1∧o.1≤1125899906842624)∧iK o.2.1=true
 |[],_,_,o,ho=>by cases ho
 |y::l,s,h,o,ho=>by
  rw[mc,Bool.and_eq_true,Bool.and_eq_true]at h
  rcases List.mem_cons.1 ho with rfl | ho
  ·have h1:=h.1.1
   unfold oL mT at h1
   simp only[Bool.and_eq_true,decide_eq_true_eq]at h1
   exact⟨h1.2.1,h.1.2⟩
  ·exact iM l _ h.2 o ho
theorem l5{x:ff}(h:rC x=true):0≤x.1.2.1∧x.1.2.1 < 64∧0≤x.2.1.1∧x.2.1.1 < 4∧x.2.1.2.1.length≤12:=by
 unfold rC mB at h
 simp only[Bool.and_eq_true,decide_eq_true_eq]at h
 exact⟨h.1.1,h.1.2,h.2.1.1,h.2.1.2,h.2.2⟩
theorem jw{t:eX}(h:fH t=true):(1≤t.1.length∧t.1.length≤64∧t.2.1.length≤64∧0≤t.2.2.1)∧qE [] t.1=true∧mc 0 t.2.1=true:=by
 unfold fH uQ at h
 simp only[Bool.and_eq_true,decide_eq_true_eq]at h
 exact h
theorem yg(b:List Int)(x:ff):(qP b x).length≤b.length+x.1.1.length+11:=by
 have:=e7 (b++x.1.1) x.1.2.1
 rw[List.length_append]at this
 exact this
theorem wh(b:List Int)(o:fM):(qG b o).length≤b.length+1022:=by
 have h1:=e7 b o.1
 have h2:=gG (oZ o.2.1).length
 have h3:=nG o.2.1
 unfold qG
 rw[List.length_append,List.length_append]
 omega
theorem wE(b:List Int)(s:Sg):(r9 b s).length=b.length+16:=by
 unfold r9
 rw[List.length_append,List.length_append,bJ,bJ]
abbrev aF.L0.D:=eX×Bs×(List ff)×Int×Int
def aF.L0.st:aF.L0.D→AS:=fun(t_2,b,t13,t14,t15)=>⟨([.undef,.eC gb t_2,.undef,.d tB b]++ba 9 ([.d (.slice eH) t13,.d ti t14,.d ti t15]++ba 38 [])),[],(List.replicate 54 [])⟩
abbrev aF.L0.Y0:=Bs
abbrev aF.L0.X0:=(eX)×(Bs)
def aF.L0.bq:aF.L0.X0→Exit×AS:=fun x=>(.exit 0,⟨([.undef,.eC gb x.1,.undef,.d tB x.2]++ba 50 []),[],(List.replicate 54 [])⟩)
abbrev aF.L0.X:=aF.L0.X0
abbrev aF.L0.Y:=aF.L0.Y0
def aF.L0.out:aF.L0.X→Out (Exit×AS):=fun x=> .ok (aF.L0.bq x)
def aF.L0.add:aF.L0.D→aF.L0.Y→aF.L0.X:=fun(t_2,b,t13,t14,t15) y=>(t_2,y)
abbrev aF.L1.D:=eX×Bs×(List fM)×Int×Int
def aF.L1.st:aF.L1.D→AS:=fun(t_3,b_2,t35,t36,t37)=>⟨([.undef,.eC gb t_3,.undef,.d tB b_2]++ba 31 ([.d (.slice eR) t35,.d ti t36,.d ti t37]++ba 16 [])),[],(List.replicate 54 [])⟩
abbrev aF.L1.Y0:=Bs
abbrev aF.L1.X0:=(eX)×(Bs)
def aF.L1.bq:aF.L1.X0→Exit×AS:=fun x=>(.exit 2,⟨([.undef,.eC gb x.1,.undef,.d tB x.2]++ba 50 []),[],(List.replicate 54 [])⟩)
abbrev aF.L1.X:=aF.L1.X0
abbrev aF.L1.Y:=aF.L1.Y0
def aF.L1.out:aF.L1.X→Out (Exit×AS):=fun x=> .ok (aF.L1.bq x)
def aF.L1.add:aF.L1.D→aF.L1.Y→aF.L1.X:=fun(t_3,b_2,t35,t36,t37) y=>(t_3,y)
abbrev aF.D:=eX
def aF.st:aF.D→SA:=fun t=>([.d gb t],[])
abbrev aF.Y:=Bs
abbrev aF.X:=Bs
def aF.out:aF.X→aY:=fun x=>⟨.d tB x,[],[]⟩
def aF.add:aF.D→aF.Y→aF.X:=fun t y=>y
def aF.L0.aB:aF.L0.D→Prop:=fun(t,b,l,n,i)=>(l).length≤1000000000∧∃k:Nat,k≤(l).length∧i=k∧n=(l).length∧(l.length≤64)∧(∀x∈l,x.1.1.length=32∧x.1.2.1≤9223372036854775807)∧(b.length≤100+50*k)
def aF.L0.F:aF.L0.D→aF.L0.Y:=fun(t,b,l,n,i)=>(List.drop (Int.toNat i) l).foldl qP b
def aF.L1.aB:aF.L1.D→Prop:=fun(t,b,l,n,i)=>(l).length≤1000000000∧∃k:Nat,k≤(l).length∧i=k∧n=(l).length∧(l.length≤64)∧(∀o∈l,o.1≤9223372036854775807∧Cx o.2.1)∧(b.length≤4000+1100*k)
def aF.L1.F:aF.L1.D→aF.L1.Y:=fun(t,b,l,n,i)=>(List.drop (Int.toNat i) l).foldl qG b
def aF.aB:aF.D→Prop:=fun t=>fH t=true∧qJ t
def aF.F:aF.D→aF.Y:=fun t=>j6 t
noncomputable def aF.G:dR:=eO (P:=Tryz.prog) [dw.sg,dU.sg,aD.sg,dO.sg]
noncomputable def aF.L0.E:=bM.ct aF.L0.st aF.L0.aB aF.L0.add aF.L0.F aF.L0.out
noncomputable def aF.L0.call:aF.L0.D→Option aF.L0.X:=dg aF.L0.E aF.L0.st
noncomputable def aF.L1.E:=bM.ct aF.L1.st aF.L1.aB aF.L1.add aF.L1.F aF.L1.out
noncomputable def aF.L1.call:aF.L1.D→Option aF.L1.X:=dg aF.L1.E aF.L1.st
noncomputable def aF.an:eu:= {loops:=jO [(3,{bh:=[1,3,13,14,15]}),(9,{bh:=[1,3,35,36,37]})],outs:=jN [(3,{bh:=[1,3]},{bh:=[2]}),(9,{bh:=[1,3]},{bh:=[2]})],fF:=ky [(3,aF.L0.E),(9,aF.L1.E)],res:=[some tB]}
noncomputable def aF.A:= @cI Tryz.prog aF.G aF.an 0 Tryz.f97 _ aF.st
abbrev aF.Ok:=cJ @aF.A aF.aB aF.add aF.F aF.out
noncomputable def aF.L0.R:= @cf Tryz.prog aF.G aF.an 0 Tryz.f97 0 _ aF.L0.st
abbrev aF.L0.Ok:=ez Tryz.prog aF.G aF.an 0 Tryz.f97 0 aF.L0.st aF.L0.aB aF.L0.add aF.L0.F aF.L0.out
noncomputable def aF.L1.R:= @cf Tryz.prog aF.G aF.an 0 Tryz.f97 1 _ aF.L1.st
abbrev aF.L1.Ok:=ez Tryz.prog aF.G aF.an 0 Tryz.f97 1 aF.L1.st aF.L1.aB aF.L1.add aF.L1.F aF.L1.out
theorem aF.L0.run:bB aF.L0.call aF.L0.aB aF.L0.add aF.L0.F:=eE (eD [.d gb,.d tB,.d (.slice eH),.d ti,.d ti] fun _=>by kernel_rfl)
theorem aF.L0.aH:fP @aF.L0.R aF.L0.st aF.L0.aB aF.L0.add aF.L0.F aF.L0.bq aF.L0.Ok:=fS
theorem aF.L0.step{R:Type}(t_2:eX)(b:Bs)(t13:(List ff))(t14:Int)(t15:Int)(kn:AS→Option R)(kx:Exit→AS→Option R):aF.L0.R (t_2,b,t13,t14,t15) kn kx=
  aJ ((fY t15 t14)) (
   aJ (eh t15 (((List.length t13):Nat):Int)) (
   aq (dU.call (b,(nth eH t13 (Int.toNat t15)).1.1)) fun x1=>
   aq (dw.call (x1,(nth eH t13 (Int.toNat t15)).1.2.1)) fun x2=>
   kn (aF.L0.st (t_2,x2,t13,t14,(bK .i64 t15 (1:Int))))) none) (
   kx (aF.L0.bq (t_2,b)).1 (aF.L0.bq (t_2,b)).2):=by kernel_rfl
theorem aF.L1.run:bB aF.L1.call aF.L1.aB aF.L1.add aF.L1.F:=eE (eD [.d gb,.d tB,.d (.slice eR),.d ti,.d ti] fun _=>by kernel_rfl)
theorem aF.L1.aH:fP @aF.L1.R aF.L1.st aF.L1.aB aF.L1.add aF.L1.F aF.L1.bq aF.L1.Ok:=fS
theorem aF.L1.step{R:Type}(t_3:eX)(b_2:Bs)(t35:(List fM))(t36:Int)(t37:Int)(kn:AS→Option R)(kx:Exit→AS→Option R):aF.L1.R (t_3,b_2,t35,t36,t37) kn kx=
  aJ ((fY t37 t36)) (
   aJ (eh t37 (((List.length t35):Nat):Int)) (
   aq (dw.call (b_2,(nth eR t35 (Int.toNat t37)).1)) fun x1=>
   aq (aD.call (nth eR t35 (Int.toNat t37)).2.1) fun x2=>
   aq (dO.call (x1,x2)) fun x3=>
   kn (aF.L1.st (t_3,x3,t35,t36,(bK .i64 t37 (1:Int))))) none) (
   kx (aF.L1.bq (t_3,b_2)).1 (aF.L1.bq (t_3,b_2)).2):=by kernel_rfl
theorem aF.eq{R:Type}(t:eX)(k:aY→Option R):aF.A t k=
 aq (dw.call (([]:List Int),(((List.length t.1):Nat):Int))) fun x1=>
 aq (aF.L0.call (t,x1,t.1,(((List.length t.1):Nat):Int),(0:Int))) fun x4=>
 aq (dw.call (x4.2,(((List.length x4.1.2.1):Nat):Int))) fun x5=>
 aq (aF.L1.call (x4.1,x5,x4.1.2.1,(((List.length x4.1.2.1):Nat):Int),(0:Int))) fun x9=>
 aq (dw.call (x9.2,x9.1.2.2.1)) fun x10=>
 k (aF.out x10):=by kernel_rfl
theorem aF.L0.ok:aF.L0.Ok:=by
 refine aF.L0.aH (fun(t,b,l,n,i)=>(l).length - Int.toNat i) ?_
 rintro⟨t,b,l,n,i⟩ ⟨hlen,k,hk,rfl,rfl,h64,hx,hb⟩
 have hlen:(l).length≤1000000000:=hlen
 have hk:k≤(l).length:=hk
 have h64:l.length≤64:=h64
 have hx:∀x∈l,x.1.1.length=32∧x.1.2.1≤9223372036854775807:=hx
 have hb:b.length≤100+50*k:=hb
 by_cases h:k < (l).length
 ·left
  have n1:nth eH l k=l[k]:=cw (t:=eH) h
  have hd:List.drop k l=l[k]::List.drop (k+1) l:=List.drop_eq_getElem_cons h
  refine⟨(t,(qP b l[k]),l,((l).length:Int),((k+1:Nat):Int)),⟨hlen,k+1,by omega,rfl,rfl,h64,hx,by have:=yg b l[k];have:=(hx _ (List.getElem_mem h)).1;omega⟩,by simp only[Int.toNat_natCast];omega,?_,fun kn kx=> ?_⟩
  ·simp only[aF.L0.add,aF.L0.F,Int.toNat_natCast,hd,List.foldl_cons]
  ·rw[aF.L0.step,bw (by omega),bn (by omega) (by omega),Int.toNat_natCast,n1]
   simp only[az]
   have e:=hx _ (List.getElem_mem h)
   have e2:(b++l[k].1.1).length=b.length+l[k].1.1.length:=List.length_append
   rw[dU.run (d:=(b,l[k].1.1)) ⟨by show b.length+l[k].1.1.length≤_;omega,e.1⟩]
   simp only[ab,dU.add,dU.F]
   rw[dw.run (d:=(b++l[k].1.1,l[k].1.2.1)) ⟨by show(b++l[k].1.1).length≤_;omega,e.2⟩]
   simp only[ab,dw.add,dw.F]
   rw[N.kA (by omega)]
   rfl
 ·right
  obtain rfl:k=(l).length:=by omega
  intro R kn kx
  rw[aF.L0.step,bm (by omega),ay]
  simp only[aF.L0.add,aF.L0.F,Int.toNat_natCast,List.drop_length,List.foldl_nil]
theorem aF.L1.ok:aF.L1.Ok:=by
 refine aF.L1.aH (fun(t,b,l,n,i)=>(l).length - Int.toNat i) ?_
 rintro⟨t,b,l,n,i⟩ ⟨hlen,k,hk,rfl,rfl,h64,hx,hb⟩
 have hlen:(l).length≤1000000000:=hlen
 have hk:k≤(l).length:=hk
 have h64:l.length≤64:=h64
 have hx:∀o∈l,o.1≤9223372036854775807∧Cx o.2.1:=hx
 have hb:b.length≤4000+1100*k:=hb
 by_cases h:k < (l).length
 ·left
  have n1:nth eR l k=l[k]:=cw (t:=eR) h
  have hd:List.drop k l=l[k]::List.drop (k+1) l:=List.drop_eq_getElem_cons h
  refine⟨(t,(qG b l[k]),l,((l).length:Int),((k+1:Nat):Int)),⟨hlen,k+1,by omega,rfl,rfl,h64,hx,by have:=wh b l[k];omega⟩,by simp only[Int.toNat_natCast];omega,?_,fun kn kx=> ?_⟩
  ·simp only[aF.L1.add,aF.L1.F,Int.toNat_natCast,hd,List.foldl_cons]
  ·rw[aF.L1.step,bw (by omega),bn (by omega) (by omega),Int.toNat_natCast,n1]
   simp only[az]
   have e:=hx _ (List.getElem_mem h)
   have e1:=e7 b l[k].1
   have e2:=nG l[k].2.1
   rw[dw.run (d:=(b,l[k].1)) ⟨by show b.length≤_;omega,e.1⟩]
   simp only[ab,dw.add,dw.F]
   rw[aD.run (d:=l[k].2.1) e.2]
   simp only[ab,aD.add,aD.F]
   rw[dO.run (d:=(dZ b l[k].1,oZ l[k].2.1)) (by show(dZ b l[k].1).length+(oZ l[k].2.1).length≤_;omega)]
   simp only[ab,dO.add,dO.F]
   rw[N.kA (by omega)]
   rfl
 ·right
  obtain rfl:k=(l).length:=by omega
  intro R kn kx
  rw[aF.L1.step,bm (by omega),ay]
  simp only[aF.L1.add,aF.L1.F,Int.toNat_natCast,List.drop_length,List.foldl_nil]
theorem uq:∀(l:List ff) (b:List Int),(∀x∈l,x.1.1.length=32)→(l.foldl qP b).length≤b.length+43*l.length
 |[],b,_=>Nat.le_refl _
 |x::l,b,h=>by
  have h1:=yg b x
  have h2:=h x List.mem_cons_self
  have h3:=uq l (qP b x) fun y hy=>h y (List.mem_cons_of_mem _ hy)
  rw[List.foldl_cons,List.length_cons]
  omega
theorem rO:∀(l:List fM) (b:List Int),(l.foldl qG b).length≤b.length+1022*l.length
 |[],b=>Nat.le_refl _
 |x::l,b=>by
  have h1:=wh b x
  have h3:=rO l (qG b x)
  rw[List.foldl_cons,List.length_cons]
  omega
theorem rQ{t:eX}(hok:fH t=true)(hv:qJ t):(j6 t).length≤70000:=by
 obtain⟨⟨_,a2,a3,_⟩,_,_⟩:=jw hok
 have h1:=uq t.1 (dZ [] t.1.length) fun x hx=>(hv.2.1 x hx).1.1
 have h2:=e7 [] t.1.length
 have h3:=e7 (t.1.foldl qP (dZ [] t.1.length)) t.2.1.length
 have h4:=rO t.2.1 (dZ (t.1.foldl qP (dZ [] t.1.length)) t.2.1.length)
 have h5:=e7 (t.2.1.foldl qG (dZ (t.1.foldl qP (dZ [] t.1.length)) t.2.1.length)) t.2.2.1
 have h0:([]:List Int).length=0:=rfl
 unfold j6
 omega
theorem aF.ok:aF.Ok:=by
 rintro t ⟨hok,hv⟩
 have hv:qJ t:=hv
 obtain⟨⟨_,a2,a3,_⟩,b1,b2⟩:=jw hok
 have h0:([]:List Int).length=0:=rfl
 have l0:=e7 [] t.1.length
 have l1:=uq t.1 (dZ [] t.1.length) fun x hx=>(hv.2.1 x hx).1.1
 have l2:=e7 (t.1.foldl qP (dZ [] t.1.length)) t.2.1.length
 have l3:=rO t.2.1 (dZ (t.1.foldl qP (dZ [] t.1.length)) t.2.1.length)
 rw[aF.eq,dw.run (d:=([],(t.1.length:Int))) ⟨by show([]:List Int).length≤_;omega,by show(t.1.length:Int)≤_;omega⟩]
 simp only[ab,dw.add,dw.F]
 rw[aF.L0.run (d:=(t,dZ [] t.1.length,t.1,t.1.length,0)) ⟨by show t.1.length≤_;omega,0,Nat.zero_le _,rfl,rfl,a2,fun x hx=>⟨(hv.2.1 x hx).1.1,by have:=l5 (gU _ _ b1 x hx);omega⟩,by show(dZ [] t.1.length).length≤_;omega⟩]
 simp only[ab,aF.L0.add,aF.L0.F,Int.toNat_zero,List.drop_zero]
 rw[dw.run (d:=(t.1.foldl qP (dZ [] t.1.length),(t.2.1.length:Int))) ⟨by show(t.1.foldl qP (dZ [] t.1.length)).length≤_;omega,by show(t.2.1.length:Int)≤_;omega⟩]
 simp only[ab,dw.add,dw.F]
 rw[aF.L1.run (d:=(t,dZ (t.1.foldl qP (dZ [] t.1.length)) t.2.1.length,t.2.1,t.2.1.length,0)) ⟨by show t.2.1.length≤_;omega,0,Nat.zero_le _,rfl,rfl,a3,fun o ho=>⟨by have:=(iM _ _ b2 o ho).1;omega,hv.1.1 o ho⟩,by show(dZ (t.1.foldl qP (dZ [] t.1.length)) t.2.1.length).length≤_;omega⟩]
 simp only[ab,aF.L1.add,aF.L1.F,Int.toNat_zero,List.drop_zero]
 rw[dw.run (d:=(t.2.1.foldl qG (dZ (t.1.foldl qP (dZ [] t.1.length)) t.2.1.length),t.2.2.1)) ⟨by show(t.2.1.foldl qG (dZ (t.1.foldl qP (dZ [] t.1.length)) t.2.1.length)).length≤_;omega,hv.2.2⟩]
 rfl
noncomputable def aF.E:=Entry.ct [some gb] aF.st aF.aB aF.add aF.F aF.out
noncomputable def aF.call:aF.D→Option aF.X:=bG aF.E aF.st
theorem aF.run:bB aF.call aF.aB aF.add aF.F:=cO (cM [.d gb] fun _=>by kernel_rfl)
noncomputable def aF.sg:SG Tryz.prog:=⟨97,aU,aF.E,.fn 2 (by kernel_rfl) aF.ok (And.intro (.ct aF.L0.ok (by kernel_rfl)) (And.intro (.ct aF.L1.ok (by kernel_rfl)) trivial))⟩
set_option synthInstance.maxSize 5000
def qi(n:Int)(x:ff):Int:=n+(10+8*x.2.1.2.1.length)+(if x.2.1.2.2.1=0 then 0 else 4)
def uS(t:eX):Int:=if fH t then t.1.foldl qi (10+8*t.2.1.length) else 0
def jI(t:eX):List j4:=if fH t then t.1.map (·.1) else []
def qp(id:List Int)(k n:Nat):List j4:=(List.range' k n).map fun i:Nat=>(id,((i:Int),()))
def nS(t:eX):List j4:=if fH t then qp (tF t) 0 t.2.1.length else []
abbrev tid.D:=eX
def tid.st:tid.D→SA:=fun t=>([.d gb t],[])
abbrev tid.Y:=Bs
abbrev tid.X:=Bs
def tid.out:tid.X→aY:=fun x=>⟨.d tH x,[],[]⟩
def tid.add:tid.D→tid.Y→tid.X:=fun t y=>y
def tid.aB:tid.D→Prop:=fun t=>qJ t
def tid.F:tid.D→tid.Y:=fun t=>tF t
noncomputable def tid.G:dR:=eO (P:=Tryz.prog) [ak.sg,aF.sg,bP.sg]
noncomputable def tid.an:eu:= {}
noncomputable def tid.A:= @cI Tryz.prog tid.G tid.an 0 Tryz.f31 _ tid.st
abbrev tid.Ok:=cJ @tid.A tid.aB tid.add tid.F tid.out
theorem tid.eq{R:Type}(t:eX)(k:aY→Option R):tid.A t k=
  aq (ak.call t) fun x1=>
  aJ ((!x1)) (
   k (tid.out (List.replicate 32 (0:Int)))) (
   aq (aF.call t) fun x2=>
   aq (bP.call ((⟨#[116,120]⟩:ByteArray),[x2])) fun x3=>
   k (tid.out x3)):=by kernel_rfl
theorem tid.ok:tid.Ok:=by
 intro t hv
 have hv:qJ t:=hv
 rw[tid.eq,ak.run (d:=t) hv.1]
 simp only[ab,ak.add,ak.F,tid.add,tid.F,tF]
 cases hok:fH t
 ·rfl
 ·have hl:=rQ hok hv
  rw[aF.run (d:=t) ⟨hok,hv⟩]
  simp only[Bool.not_true,ay,if_true,ab,aF.add,aF.F]
  rw[bP.run (d:=((⟨#[116,120]⟩:ByteArray),[j6 t])) (sk (by decide) (by omega))]
  rfl
noncomputable def tid.E:=Entry.ct [some gb] tid.st tid.aB tid.add tid.F tid.out
noncomputable def tid.call:tid.D→Option tid.X:=bG tid.E tid.st
theorem tid.run:bB tid.call tid.aB tid.add tid.F:=cO (cM [.d gb] fun _=>by kernel_rfl)
noncomputable def tid.sg:SG Tryz.prog:=⟨31,aU,tid.E,.fn 0 (by kernel_rfl) tid.ok trivial⟩
abbrev aN.L0.D:=Int×(List ff)×Int×Int
def aN.L0.st:aN.L0.D→AS:=fun(n,t15,t16,t17)=>⟨([.undef,.undef,.undef,.d ti n]++ba 11 ([.d (.slice eH) t15,.d ti t16,.d ti t17]++ba 19 [])),[],(List.replicate 37 [])⟩
abbrev aN.L0.Y0:=Int
abbrev aN.L0.X0:=Int
def aN.L0.bq:aN.L0.X0→Exit×AS:=fun x=>(.exit 0,⟨([.undef,.undef,.undef,.d ti x]++ba 33 []),[],(List.replicate 37 [])⟩)
abbrev aN.L0.X:=aN.L0.X0
abbrev aN.L0.Y:=aN.L0.Y0
def aN.L0.out:aN.L0.X→Out (Exit×AS):=fun x=> .ok (aN.L0.bq x)
def aN.L0.add:aN.L0.D→aN.L0.Y→aN.L0.X:=fun(n,t15,t16,t17) y=>y
abbrev aN.D:=eX
def aN.st:aN.D→SA:=fun t=>([.d gb t],[])
abbrev aN.Y:=Int
abbrev aN.X:=Int
def aN.out:aN.X→aY:=fun x=>⟨.d ti x,[],[]⟩
def aN.add:aN.D→aN.Y→aN.X:=fun t y=>y
def aN.L0.aB:aN.L0.D→Prop:=fun(n,l,m,i)=>(l).length≤1000000000∧∃k:Nat,k≤(l).length∧i=k∧m=(l).length∧(l.length≤64)∧(∀x∈l,x.2.1.2.1.length≤12)∧(0≤n)∧(n≤1000+200*(k:Int))
def aN.L0.F:aN.L0.D→aN.L0.Y:=fun(n,l,m,i)=>(List.drop (Int.toNat i) l).foldl qi n
def aN.aB:aN.D→Prop:=fun t=>qJ t
def aN.F:aN.D→aN.Y:=fun t=>uS t
noncomputable def aN.G:dR:=eO (P:=Tryz.prog) [ak.sg]
noncomputable def aN.L0.E:=bM.ct aN.L0.st aN.L0.aB aN.L0.add aN.L0.F aN.L0.out
noncomputable def aN.L0.call:aN.L0.D→Option aN.L0.X:=dg aN.L0.E aN.L0.st
noncomputable def aN.an:eu:= {loops:=jO [(5,{bh:=[3,15,16,17]})],outs:=jN [(5,{bh:=[3]},{bh:=[2]})],fF:=ky [(5,aN.L0.E)]}
noncomputable def aN.A:= @cI Tryz.prog aN.G aN.an 0 Tryz.f33 _ aN.st
abbrev aN.Ok:=cJ @aN.A aN.aB aN.add aN.F aN.out
noncomputable def aN.L0.R:= @cf Tryz.prog aN.G aN.an 0 Tryz.f33 0 _ aN.L0.st
abbrev aN.L0.Ok:=ez Tryz.prog aN.G aN.an 0 Tryz.f33 0 aN.L0.st aN.L0.aB aN.L0.add aN.L0.F aN.L0.out
theorem aN.L0.run:bB aN.L0.call aN.L0.aB aN.L0.add aN.L0.F:=eE (eD [.d ti,.d (.slice eH),.d ti,.d ti] fun _=>by kernel_rfl)
theorem aN.L0.aH:fP @aN.L0.R aN.L0.st aN.L0.aB aN.L0.add aN.L0.F aN.L0.bq aN.L0.Ok:=fS
theorem aN.L0.step{R:Type}(n:Int)(t15:(List ff))(t16:Int)(t17:Int)(kn:AS→Option R)(kx:Exit→AS→Option R):aN.L0.R (n,t15,t16,t17) kn kx=
  aJ ((fY t17 t16)) (
   aJ (eh t17 (((List.length t15):Nat):Int)) (
   aJ ((ku (nth eH t15 (Int.toNat t17)).2.1.2.2.1 (0:Int))) (
    kn (aN.L0.st ((bK .i64 (bK .i64 n (bK .i64 (10:Int) (eT .i64 (8:Int) (((List.length (nth eH t15 (Int.toNat t17)).2.1.2.1):Nat):Int)))) (4:Int)),t15,t16,(bK .i64 t17 (1:Int))))) (
    kn (aN.L0.st ((bK .i64 n (bK .i64 (10:Int) (eT .i64 (8:Int) (((List.length (nth eH t15 (Int.toNat t17)).2.1.2.1):Nat):Int)))),t15,t16,(bK .i64 t17 (1:Int)))))) none) (
   kx (aN.L0.bq n).1 (aN.L0.bq n).2):=by kernel_rfl
theorem aN.eq{R:Type}(t:eX)(k:aY→Option R):aN.A t k=
  aq (ak.call t) fun x1=>
  aJ ((!x1)) (
   k (aN.out (0:Int))) (
   aq (aN.L0.call ((bK .i64 (10:Int) (eT .i64 (8:Int) (((List.length t.2.1):Nat):Int))),t.1,(((List.length t.1):Nat):Int),(0:Int))) fun x2=>
   k (aN.out x2)):=by kernel_rfl
theorem aN.L0.ok:aN.L0.Ok:=by
 refine aN.L0.aH (fun(n,l,m,i)=>(l).length - Int.toNat i) ?_
 rintro⟨n,l,m,i⟩ ⟨hlen,k,hk,rfl,rfl,h64,hx,h0,h1⟩
 have hlen:(l).length≤1000000000:=hlen
 have hk:k≤(l).length:=hk
 have h64:l.length≤64:=h64
 have hx:∀x∈l,x.2.1.2.1.length≤12:=hx
 have h0:0≤n:=h0
 have h1:n≤1000+200*(k:Int):=h1
 by_cases h:k < (l).length
 ·left
  have n1:nth eH l k=l[k]:=cw (t:=eH) h
  have hd:List.drop k l=l[k]::List.drop (k+1) l:=List.drop_eq_getElem_cons h
  refine⟨((qi n l[k]),l,((l).length:Int),((k+1:Nat):Int)),⟨hlen,k+1,by omega,rfl,rfl,h64,hx,by unfold qi;split <;> omega,by have:=hx _ (List.getElem_mem h);unfold qi;split <;> omega⟩,by simp only[Int.toNat_natCast];omega,?_,fun kn kx=> ?_⟩
  ·simp only[aN.L0.add,aN.L0.F,Int.toNat_natCast,hd,List.foldl_cons]
  ·rw[aN.L0.step,bw (by omega),bn (by omega) (by omega),Int.toNat_natCast,n1]
   simp only[az]
   have e:=hx _ (List.getElem_mem h)
   rw[N.DF (by omega)]
   have e2:bK .i64 10 ((8*l[k].2.1.2.1.length:Nat):Int)=10+8*(l[k].2.1.2.1.length:Int):=by rw[gF (by omega) (by omega)];omega
   rw[e2,gF (x:=n) (by omega) (by omega),N.kA (by omega)]
   unfold qi
   by_cases hs:l[k].2.1.2.2.1=0
   ·rw[bT hs,ay,if_pos hs,Int.add_zero]
   ·rw[dB hs,az,if_neg hs,gF (by omega) (by omega)]
 ·right
  obtain rfl:k=(l).length:=by omega
  intro R kn kx
  rw[aN.L0.step,bm (by omega),ay]
  simp only[aN.L0.add,aN.L0.F,Int.toNat_natCast,List.drop_length,List.foldl_nil]
theorem aN.ok:aN.Ok:=by
 intro t hv
 have hv:qJ t:=hv
 rw[aN.eq,ak.run (d:=t) hv.1]
 simp only[ab,ak.add,ak.F,aN.add,aN.F,uS]
 cases hok:fH t
 ·rfl
 ·obtain⟨⟨_,a2,a3,_⟩,b1,b2⟩:=jw hok
  rw[N.DF (by omega),gF (by omega) (by omega),aN.L0.run (d:=(10+((8*t.2.1.length:Nat):Int),t.1,t.1.length,0)) ⟨by show t.1.length≤_;omega,0,Nat.zero_le _,rfl,rfl,a2,fun x hx=>(l5 (gU _ _ b1 x hx)).2.2.2.2,by show(0:Int)≤10+((8*t.2.1.length:Nat):Int);omega,by show 10+((8*t.2.1.length:Nat):Int)≤_;omega⟩]
  simp only[ab,aN.L0.add,aN.L0.F,Int.toNat_zero,List.drop_zero,Bool.not_true,ay,if_true,Int.natCast_mul]
  rfl
noncomputable def aN.E:=Entry.ct [some gb] aN.st aN.aB aN.add aN.F aN.out
noncomputable def aN.call:aN.D→Option aN.X:=bG aN.E aN.st
theorem aN.run:bB aN.call aN.aB aN.add aN.F:=cO (cM [.d gb] fun _=>by kernel_rfl)
noncomputable def aN.sg:SG Tryz.prog:=⟨33,aU,aN.E,.fn 1 (by kernel_rfl) aN.ok (And.intro (.ct aN.L0.ok (by kernel_rfl)) trivial)⟩
abbrev aE.L0.D:=Bs×(List ff)×Int×Int
def aE.L0.st:aE.L0.D→AS:=fun(b,t14,t15,t16)=>⟨([.undef,.undef,.undef,.d tB b]++ba 10 ([.d (.slice eH) t14,.d ti t15,.d ti t16]++ba 36 [])),[],(List.replicate 53 [])⟩
abbrev aE.L0.Y0:=Bs
abbrev aE.L0.X0:=Bs
def aE.L0.bq:aE.L0.X0→Exit×AS:=fun x=>(.exit 0,⟨([.undef,.undef,.undef,.d tB x]++ba 49 []),[],(List.replicate 53 [])⟩)
abbrev aE.L0.X:=aE.L0.X0
abbrev aE.L0.Y:=aE.L0.Y0
def aE.L0.out:aE.L0.X→Out (Exit×AS):=fun x=> .ok (aE.L0.bq x)
def aE.L0.add:aE.L0.D→aE.L0.Y→aE.L0.X:=fun(b,t14,t15,t16) y=>y
abbrev aE.L1.D:=Bs×(List ff)×Int×Int×(List Sg)×Int×Int×ff
def aE.L1.st:aE.L1.D→AS:=fun(b_2,t14_2,t15_2,t16_2,t32,t33,t34,n5)=>⟨([.undef,.undef,.undef,.d tB b_2,.undef,.ptr (.new 5 0) 0 [] 0]++ba 8 ([.d (.slice eH) t14_2,.d ti t15_2,.d ti t16_2]++ba 15 ([.d (.slice jg) t32,.d ti t33,.d ti t34]++ba 18 []))),[],(bN 5 ([[.obj 0 false (.d eH n5)]]++bN 47 []))⟩
abbrev aE.L1.Y0:=Bs
abbrev aE.L1.X0:=((List ff)×Int×Int×ff)×(Bs)
def aE.L1.bq:aE.L1.X0→Exit×AS:=fun x=>(.exit 2,⟨([.undef,.undef,.undef,.d tB x.2,.undef,.ptr (.new 5 0) 0 [] 0]++ba 8 ([.d (.slice eH) x.1.1,.d ti x.1.2.1,.d ti x.1.2.2.1]++ba 36 [])),[],(bN 5 ([[.obj 0 false (.d eH x.1.2.2.2)]]++bN 47 []))⟩)
abbrev aE.L1.X:=aE.L1.X0
abbrev aE.L1.Y:=aE.L1.Y0
def aE.L1.out:aE.L1.X→Out (Exit×AS):=fun x=> .ok (aE.L1.bq x)
def aE.L1.add:aE.L1.D→aE.L1.Y→aE.L1.X:=fun(b_2,t14_2,t15_2,t16_2,t32,t33,t34,n5) y=>((t14_2,t15_2,t16_2,n5),y)
abbrev aE.D:=eX
def aE.st:aE.D→SA:=fun t=>([.d gb t],[])
abbrev aE.Y:=Bs
abbrev aE.X:=Bs
def aE.out:aE.X→aY:=fun x=>⟨.d tB x,[],[]⟩
def aE.add:aE.D→aE.Y→aE.X:=fun t y=>y
def aE.L1.aB:aE.L1.D→Prop:=fun(b,l1,n1v,i1,l,n,i,x)=>(l).length≤1000000000∧∃k:Nat,k≤(l).length∧i=k∧n=(l).length∧(l.length≤12)∧(b.length≤80000000+16*k)
def aE.L1.F:aE.L1.D→aE.L1.Y:=fun(b,l1,n1v,i1,l,n,i,x)=>(List.drop (Int.toNat i) l).foldl r9 b
def aE.L0.aB:aE.L0.D→Prop:=fun(b,l,n,i)=>(l).length≤1000000000∧∃k:Nat,k≤(l).length∧i=k∧n=(l).length∧(l.length≤64)∧(∀x∈l,x.2.1.2.1.length≤12∧x.2.1.1≤9223372036854775807)∧(b.length≤100000+1000*k)
def aE.L0.F:aE.L0.D→aE.L0.Y:=fun(b,l,n,i)=>(List.drop (Int.toNat i) l).foldl xN b
theorem se:∀(l:List Sg) (b:List Int),(l.foldl r9 b).length=b.length+16*l.length
 |[],b=>rfl
 |x::l,b=>by
  have h1:=wE b x
  have h3:=se l (r9 b x)
  rw[List.foldl_cons,List.length_cons]
  omega
theorem Bm(b:List Int)(x:ff)(h:x.2.1.2.1.length≤12):(xN b x).length≤b.length+300:=by
 have e1:=e7 b x.2.1.1
 have e2:=e7 (dZ b x.2.1.1) x.2.1.2.1.length
 have e3:=se x.2.1.2.1 (dZ (dZ b x.2.1.1) x.2.1.2.1.length)
 unfold xN
 rw[List.length_append,bJ]
 omega
def aE.aB:aE.D→Prop:=fun t=>qJ t
def aE.F:aE.D→aE.Y:=fun t=>sy t
noncomputable def aE.G:dR:=eO (P:=Tryz.prog) [ak.sg,aF.sg,dw.sg,dk.sg]
noncomputable def aE.L0.E:=bM.ct aE.L0.st aE.L0.aB aE.L0.add aE.L0.F aE.L0.out
noncomputable def aE.L0.call:aE.L0.D→Option aE.L0.X:=dg aE.L0.E aE.L0.st
noncomputable def aE.L1.E:=bM.ct aE.L1.st aE.L1.aB aE.L1.add aE.L1.F aE.L1.out
noncomputable def aE.L1.call:aE.L1.D→Option aE.L1.X:=dg aE.L1.E aE.L1.st
noncomputable def aE.an:eu:= {loops:=jO [(5,{bh:=[3,14,15,16]}),(9,{bh:=[3,5,14,15,16,32,33,34],sites:=[5]})],outs:=jN [(5,{bh:=[3]},{bh:=[2]}),(9,{bh:=[3,5,14,15,16],sites:=[5]},{bh:=[2]})],fF:=ky [(5,aE.L0.E),(9,aE.L1.E)],res:=[some tB]}
noncomputable def aE.A:= @cI Tryz.prog aE.G aE.an 0 Tryz.f35 _ aE.st
abbrev aE.Ok:=cJ @aE.A aE.aB aE.add aE.F aE.out
noncomputable def aE.L0.R:= @cf Tryz.prog aE.G aE.an 0 Tryz.f35 0 _ aE.L0.st
abbrev aE.L0.Ok:=ez Tryz.prog aE.G aE.an 0 Tryz.f35 0 aE.L0.st aE.L0.aB aE.L0.add aE.L0.F aE.L0.out
noncomputable def aE.L1.R:= @cf Tryz.prog aE.G aE.an 0 Tryz.f35 1 _ aE.L1.st
abbrev aE.L1.Ok:=ez Tryz.prog aE.G aE.an 0 Tryz.f35 1 aE.L1.st aE.L1.aB aE.L1.add aE.L1.F aE.L1.out
theorem aE.L0.run:bB aE.L0.call aE.L0.aB aE.L0.add aE.L0.F:=eE (eD [.d tB,.d (.slice eH),.d ti,.d ti] fun _=>by kernel_rfl)
theorem aE.L0.aH:fP @aE.L0.R aE.L0.st aE.L0.aB aE.L0.add aE.L0.F aE.L0.bq aE.L0.Ok:=fS
theorem aE.L0.step{R:Type}(b:Bs)(t14:(List ff))(t15:Int)(t16:Int)(kn:AS→Option R)(kx:Exit→AS→Option R):aE.L0.R (b,t14,t15,t16) kn kx=
  aJ ((fY t16 t15)) (
   aJ (eh t16 (((List.length t14):Nat):Int)) (
   aq (dw.call (b,(nth eH t14 (Int.toNat t16)).2.1.1)) fun x1=>
   aq (dw.call (x1,(((List.length (nth eH t14 (Int.toNat t16)).2.1.2.1):Nat):Int))) fun x2=>
   aq (aE.L1.call (x2,t14,t15,t16,(nth eH t14 (Int.toNat t16)).2.1.2.1,(((List.length (nth eH t14 (Int.toNat t16)).2.1.2.1):Nat):Int),(0:Int),(nth eH t14 (Int.toNat t16)))) fun x3=>
   aq (dk.call (x3.2,x3.1.2.2.2.2.1.2.2.1)) fun x4=>
   kn (aE.L0.st (x4,x3.1.1,x3.1.2.1,(bK .i64 x3.1.2.2.1 (1:Int))))) none) (
   kx (aE.L0.bq b).1 (aE.L0.bq b).2):=by kernel_rfl
theorem aE.L1.run:bB aE.L1.call aE.L1.aB aE.L1.add aE.L1.F:=eE (eD [.d tB,.d (.slice eH),.d ti,.d ti,.d (.slice jg),.d ti,.d ti,.d eH] fun _=>by kernel_rfl)
theorem aE.L1.aH:fP @aE.L1.R aE.L1.st aE.L1.aB aE.L1.add aE.L1.F aE.L1.bq aE.L1.Ok:=fS
theorem aE.L1.step{R:Type}(b_2:Bs)(t14_2:(List ff))(t15_2:Int)(t16_2:Int)(t32:(List Sg))(t33:Int)(t34:Int)(n5:ff)(kn:AS→Option R)(kx:Exit→AS→Option R):aE.L1.R (b_2,t14_2,t15_2,t16_2,t32,t33,t34,n5) kn kx=
  aJ ((fY t34 t33)) (
   aJ (eh t34 (((List.length t32):Nat):Int)) (
   aq (dk.call (b_2,(nth jg t32 (Int.toNat t34)).1)) fun x1=>
   aq (dk.call (x1,(nth jg t32 (Int.toNat t34)).2.1)) fun x2=>
   kn (aE.L1.st (x2,t14_2,t15_2,t16_2,t32,t33,(bK .i64 t34 (1:Int)),n5))) none) (
   kx (aE.L1.bq ((t14_2,t15_2,t16_2,n5),b_2)).1 (aE.L1.bq ((t14_2,t15_2,t16_2,n5),b_2)).2):=by kernel_rfl
theorem aE.eq{R:Type}(t:eX)(k:aY→Option R):aE.A t k=
  aq (ak.call t) fun x1=>
  aJ ((!x1)) (
   k (aE.out ([]:List Int))) (
   aq (aF.call t) fun x2=>
   aq (aE.L0.call (x2,t.1,(((List.length t.1):Nat):Int),(0:Int))) fun x9=>
   k (aE.out x9)):=by kernel_rfl
theorem aE.L1.ok:aE.L1.Ok:=by
 refine aE.L1.aH (fun(b,l1,n1v,i1,l,n,i,x)=>(l).length - Int.toNat i) ?_
 rintro⟨b,l1,n1v,i1,l,n,i,x⟩ ⟨hlen,k,hk,rfl,rfl,h12,hb⟩
 have hlen:(l).length≤1000000000:=hlen
 have hk:k≤(l).length:=hk
 have h12:l.length≤12:=h12
 have hb:b.length≤80000000+16*k:=hb
 by_cases h:k < (l).length
 ·left
  have n1:nth jg l k=l[k]:=cw (t:=jg) h
  have hd:List.drop k l=l[k]::List.drop (k+1) l:=List.drop_eq_getElem_cons h
  refine⟨((r9 b l[k]),l1,n1v,i1,l,((l).length:Int),((k+1:Nat):Int),x),⟨hlen,k+1,by omega,rfl,rfl,h12,by have:=wE b l[k];omega⟩,by simp only[Int.toNat_natCast];omega,?_,fun kn kx=> ?_⟩
  ·simp only[aE.L1.add,aE.L1.F,Int.toNat_natCast,hd,List.foldl_cons]
  ·rw[aE.L1.step,bw (by omega),bn (by omega) (by omega),Int.toNat_natCast,n1]
   simp only[az]
   rw[dk.run (d:=(b,l[k].1)) (by show b.length≤_;omega)]
   simp only[ab,dk.add,dk.F]
   rw[dk.run (d:=(b++fJ l[k].1,l[k].2.1)) (by show(b++fJ l[k].1).length≤_;rw[List.length_append,bJ];omega)]
   simp only[ab,dk.add,dk.F]
   rw[N.kA (by omega)]
   rfl
 ·right
  obtain rfl:k=(l).length:=by omega
  intro R kn kx
  rw[aE.L1.step,bm (by omega),ay]
  simp only[aE.L1.add,aE.L1.F,Int.toNat_natCast,List.drop_length,List.foldl_nil]
theorem aE.L0.ok:aE.L0.Ok:=by
 refine aE.L0.aH (fun(b,l,n,i)=>(l).length - Int.toNat i) ?_
 rintro⟨b,l,n,i⟩ ⟨hlen,k,hk,rfl,rfl,h64,hx,hb⟩
 have hlen:(l).length≤1000000000:=hlen
 have hk:k≤(l).length:=hk
 have h64:l.length≤64:=h64
 have hx:∀x∈l,x.2.1.2.1.length≤12∧x.2.1.1≤9223372036854775807:=hx
 have hb:b.length≤100000+1000*k:=hb
 by_cases h:k < (l).length
 ·left
  have n1:nth eH l k=l[k]:=cw (t:=eH) h
  have hd:List.drop k l=l[k]::List.drop (k+1) l:=List.drop_eq_getElem_cons h
  refine⟨((xN b l[k]),l,((l).length:Int),((k+1:Nat):Int)),⟨hlen,k+1,by omega,rfl,rfl,h64,hx,by have:=Bm b l[k] (hx _ (List.getElem_mem h)).1;omega⟩,by simp only[Int.toNat_natCast];omega,?_,fun kn kx=> ?_⟩
  ·simp only[aE.L0.add,aE.L0.F,Int.toNat_natCast,hd,List.foldl_cons]
  ·rw[aE.L0.step,bw (by omega),bn (by omega) (by omega),Int.toNat_natCast,n1]
   simp only[az]
   have e:=hx _ (List.getElem_mem h)
   have e1:=e7 b l[k].2.1.1
   have e2:=e7 (dZ b l[k].2.1.1) l[k].2.1.2.1.length
   have e3:=se l[k].2.1.2.1 (dZ (dZ b l[k].2.1.1) l[k].2.1.2.1.length)
   rw[dw.run (d:=(b,l[k].2.1.1)) ⟨by show b.length≤_;omega,e.2⟩]
   simp only[ab,dw.add,dw.F]
   rw[dw.run (d:=(dZ b l[k].2.1.1,(l[k].2.1.2.1.length:Int))) ⟨by show(dZ b l[k].2.1.1).length≤_;omega,by show(l[k].2.1.2.1.length:Int)≤_;omega⟩]
   simp only[ab,dw.add,dw.F]
   rw[aE.L1.run (d:=(dZ (dZ b l[k].2.1.1) l[k].2.1.2.1.length,l,l.length,k,l[k].2.1.2.1,l[k].2.1.2.1.length,0,l[k])) ⟨by show l[k].2.1.2.1.length≤_;omega,0,Nat.zero_le _,rfl,rfl,e.1,by show(dZ (dZ b l[k].2.1.1) l[k].2.1.2.1.length).length≤_;omega⟩]
   simp only[ab,aE.L1.add,aE.L1.F,Int.toNat_zero,List.drop_zero]
   rw[dk.run (d:=(l[k].2.1.2.1.foldl r9 (dZ (dZ b l[k].2.1.1) l[k].2.1.2.1.length),l[k].2.1.2.2.1)) (by show(l[k].2.1.2.1.foldl r9 (dZ (dZ b l[k].2.1.1) l[k].2.1.2.1.length)).length≤_;omega)]
   simp only[ab,dk.add,dk.F]
   rw[N.kA (by omega)]
   rfl
 ·right
  obtain rfl:k=(l).length:=by omega
  intro R kn kx
  rw[aE.L0.step,bm (by omega),ay]
  simp only[aE.L0.add,aE.L0.F,Int.toNat_natCast,List.drop_length,List.foldl_nil]
theorem aE.ok:aE.Ok:=by
 intro t hv
 have hv:qJ t:=hv
 rw[aE.eq,ak.run (d:=t) hv.1]
 simp only[ab,ak.add,ak.F,aE.add,aE.F,sy]
 cases hok:fH t
 ·rfl
 ·obtain⟨⟨_,a2,a3,_⟩,b1,b2⟩:=jw hok
  have hl:=rQ hok hv
  rw[aF.run (d:=t) ⟨hok,hv⟩]
  simp only[Bool.not_true,ay,if_true,ab,aF.add,aF.F]
  rw[aE.L0.run (d:=(j6 t,t.1,t.1.length,0)) ⟨by show t.1.length≤_;omega,0,Nat.zero_le _,rfl,rfl,a2,fun x hx=>by have:=l5 (gU _ _ b1 x hx);exact⟨this.2.2.2.2,by omega⟩,by show(j6 t).length≤_;omega⟩]
  rfl
noncomputable def aE.E:=Entry.ct [some gb] aE.st aE.aB aE.add aE.F aE.out
noncomputable def aE.call:aE.D→Option aE.X:=bG aE.E aE.st
theorem aE.run:bB aE.call aE.aB aE.add aE.F:=cO (cM [.d gb] fun _=>by kernel_rfl)
noncomputable def aE.sg:SG Tryz.prog:=⟨35,aU,aE.E,.fn 2 (by kernel_rfl) aE.ok (And.intro (.ct aE.L0.ok (by kernel_rfl)) (And.intro (.ct aE.L1.ok (by kernel_rfl)) trivial))⟩
abbrev aP.L0.D:=Nat×(List ff)×Int×Int×(List j4)
def aP.L0.st:aP.L0.D→AS:=fun(lL,t9,t10,t11,n19)=>⟨([.undef,.undef,.cd (.new 19 0) 0 [] 0 0 lL]++ba 6 ([.d (.slice eH) t9,.d ti t10,.d ti t11]++ba 10 [])),[],(bN 19 [[.obj 0 false (.vec 55 kp n19)],[],[]])⟩
abbrev aP.L0.Y0:=Nat×(List j4)
abbrev aP.L0.X0:=Nat×(List j4)
def aP.L0.bq:aP.L0.X0→Exit×AS:=fun x=>(.exit 0,⟨([.undef,.undef,.cd (.new 19 0) 0 [] 0 0 x.1]++ba 19 []),[],(bN 19 [[.obj 0 false (.vec 55 kp x.2)],[],[]])⟩)
abbrev aP.L0.X:=aP.L0.X0
abbrev aP.L0.Y:=aP.L0.Y0
def aP.L0.out:aP.L0.X→Out (Exit×AS):=fun x=> .ok (aP.L0.bq x)
def aP.L0.add:aP.L0.D→aP.L0.Y→aP.L0.X:=fun(lL,t9,t10,t11,n19) y=>y
abbrev aP.D:=eX
def aP.st:aP.D→SA:=fun t=>([.d gb t],[])
abbrev aP.Y:=(List j4)
abbrev aP.X:=(List j4)
def aP.out:aP.X→aY:=fun x=>⟨.d (.slice kp) x,[],[]⟩
def aP.add:aP.D→aP.Y→aP.X:=fun t y=>y
def aP.L0.aB:aP.L0.D→Prop:=fun(L,l,n,i,r)=>(l).length≤1000000∧∃k:Nat,k≤(l).length∧i=k∧n=(l).length∧L=(r).length∧(r).length≤1000000+k
def aP.L0.F:aP.L0.D→aP.L0.Y:=fun(L,l,n,i,r)=>(L+(List.drop (Int.toNat i) l).length,r++(List.drop (Int.toNat i) l).map (fun x:ff=>x.1))
def aP.aB:aP.D→Prop:=fun t=>DZ t
def aP.F:aP.D→aP.Y:=fun t=>jI t
noncomputable def aP.G:dR:=eO (P:=Tryz.prog) [ak.sg]
noncomputable def aP.L0.E:=bM.ct aP.L0.st aP.L0.aB aP.L0.add aP.L0.F aP.L0.out
noncomputable def aP.L0.call:aP.L0.D→Option aP.L0.X:=dg aP.L0.E aP.L0.st
noncomputable def aP.an:eu:= {loops:=jO [(4,{bh:=[2,9,10,11],sites:=[19],iu:=[⟨2,[],19,67⟩]})],outs:=jN [(4,{bh:=[2],sites:=[19]},{bh:=[2]})],fF:=ky [(4,aP.L0.E)],res:=[some (.slice kp)]}
noncomputable def aP.A:= @cI Tryz.prog aP.G aP.an 0 Tryz.f38 _ aP.st
abbrev aP.Ok:=cJ @aP.A aP.aB aP.add aP.F aP.out
noncomputable def aP.L0.R:= @cf Tryz.prog aP.G aP.an 0 Tryz.f38 0 _ aP.L0.st
abbrev aP.L0.Ok:=ez Tryz.prog aP.G aP.an 0 Tryz.f38 0 aP.L0.st aP.L0.aB aP.L0.add aP.L0.F aP.L0.out
theorem aP.L0.run:bB aP.L0.call aP.L0.aB aP.L0.add aP.L0.F:=eE (eD [.n,.d (.slice eH),.d ti,.d ti,.d (.slice kp)] fun _=>by kernel_rfl)
theorem aP.L0.aH:fP @aP.L0.R aP.L0.st aP.L0.aB aP.L0.add aP.L0.F aP.L0.bq aP.L0.Ok:=fS
theorem aP.L0.step{R:Type}(lL:Nat)(t9:(List ff))(t10:Int)(t11:Int)(n19:(List j4))(kn:AS→Option R)(kx:Exit→AS→Option R):aP.L0.R (lL,t9,t10,t11,n19) kn kx=
  aJ ((fY t11 t10)) (
   aJ (eh t11 (((List.length t9):Nat):Int)) (
   aJ (decide (lL≤(List.length n19))) (
   aJ (dh (lL+1) 40) (
   kn (aP.L0.st ((lL+1),t9,t10,(bK .i64 t11 (1:Int)),((List.take lL n19)++ [(nth eH t9 (Int.toNat t11)).1])))) none) none) none) (
   kx (aP.L0.bq (lL,n19)).1 (aP.L0.bq (lL,n19)).2):=by kernel_rfl
theorem aP.eq{R:Type}(t:eX)(k:aY→Option R):aP.A t k=
  aq (ak.call t) fun x1=>
  aJ ((!x1)) (
   k (aP.out ([]:List j4))) (
   aq (aP.L0.call (0,t.1,(((List.length t.1):Nat):Int),(0:Int),([]:List j4))) fun x2=>
   aJ (decide (0=0∧(0+x2.1)≤(List.length x2.2))) (
   k (aP.out (cut x2.2 0 x2.1))) none):=by kernel_rfl
theorem aP.L0.ok:aP.L0.Ok:=by
 refine aP.L0.aH (fun(L,l,n,i,r)=>(l).length - Int.toNat i) ?_
 rintro⟨L,l,n,i,r⟩ ⟨hlen,k,hk,rfl,rfl,rfl,hrow⟩
 have hlen:(l).length≤1000000:=hlen
 have hk:k≤(l).length:=hk
 have hrow:(r).length≤1000000+k:=hrow
 by_cases h:k < (l).length
 ·left
  have n1:nth eH l k=l[k]:=cw (t:=eH) h
  have hd:List.drop k l=l[k]::List.drop (k+1) l:=List.drop_eq_getElem_cons h
  refine⟨((r).length+1,l,((l).length:Int),((k+1:Nat):Int),r++ [(fun x:ff=>x.1) l[k]]),⟨hlen,k+1,by omega,rfl,rfl,by rw[List.length_append];rfl,by rw[List.length_append];show(r).length+1≤_;omega⟩,by simp only[Int.toNat_natCast];omega,?_,fun kn kx=> ?_⟩
  ·simp only[aP.L0.add,aP.L0.F,Int.toNat_natCast,hd,List.map_cons,List.length_cons,List.append_assoc,List.singleton_append]
   rw[show ∀a c:Nat,a+1+c=a+(c+1) from fun a c=>by omega]
  ·rw[aP.L0.step,bw (by omega),bn (show(0:Int)≤(k:Int) by omega) (by omega),Int.toNat_natCast,n1]
   simp only[az]
   rw[aO (Nat.le_refl _),eB (by omega) (by omega),N.kA (by omega),List.take_length]
   rfl
 ·right
  obtain rfl:k=(l).length:=by omega
  intro R kn kx
  rw[aP.L0.step,bm (by omega),ay]
  simp only[aP.L0.add,aP.L0.F,Int.toNat_natCast,List.drop_length,List.map_nil,List.append_nil,List.length_nil,Nat.add_zero]
theorem aP.ok:aP.Ok:=by
 intro t hv
 have hv:DZ t:=hv
 rw[aP.eq,ak.run (d:=t) hv]
 simp only[ab,ak.add,ak.F,aP.add,aP.F,jI]
 cases hok:fH t
 ·rfl
 ·obtain⟨⟨_,a2,a3,_⟩,b1,b2⟩:=jw hok
  rw[aP.L0.run (d:=(0,t.1,t.1.length,0,[])) ⟨by show t.1.length≤_;omega,0,Nat.zero_le _,rfl,rfl,rfl,Nat.zero_le _⟩]
  simp only[Bool.not_true,ay,if_true,ab,aP.L0.add,aP.L0.F,Int.toNat_zero,List.drop_zero,List.nil_append,Nat.zero_add]
  rw[aO ⟨by trivial,by rw[List.length_map];exact Nat.le_refl _⟩,az,fa (by rw[List.length_map])]
noncomputable def aP.E:=Entry.ct [some gb] aP.st aP.aB aP.add aP.F aP.out
noncomputable def aP.call:aP.D→Option aP.X:=bG aP.E aP.st
theorem aP.run:bB aP.call aP.aB aP.add aP.F:=cO (cM [.d gb] fun _=>by kernel_rfl)
noncomputable def aP.sg:SG Tryz.prog:=⟨38,aU,aP.E,.fn 1 (by kernel_rfl) aP.ok (And.intro (.ct aP.L0.ok (by kernel_rfl)) trivial)⟩
abbrev bz.L0.D:=Nat×Int×Int×Bs×(List j4)
def bz.L0.st:bz.L0.D→AS:=fun(lL,t12,t13,n3,n21)=>⟨([.undef,.undef,.cd (.new 21 0) 0 [] 0 0 lL,.ptr (.new 3 0) 0 [] 0]++ba 8 ([.d ti t12,.d ti t13]++ba 10 [])),[],([[],[],[],[.obj 0 false (.d tH n3)]]++bN 17 [[.obj 0 false (.vec 55 kp n21)],[],[]])⟩
abbrev bz.L0.Y0:=Nat×(List j4)
abbrev bz.L0.X0:=Nat×(List j4)
def bz.L0.bq:bz.L0.X0→Exit×AS:=fun x=>(.exit 0,⟨([.undef,.undef,.cd (.new 21 0) 0 [] 0 0 x.1]++ba 21 []),[],(bN 21 [[.obj 0 false (.vec 55 kp x.2)],[],[]])⟩)
abbrev bz.L0.X:=bz.L0.X0
abbrev bz.L0.Y:=bz.L0.Y0
def bz.L0.out:bz.L0.X→Out (Exit×AS):=fun x=> .ok (bz.L0.bq x)
def bz.L0.add:bz.L0.D→bz.L0.Y→bz.L0.X:=fun(lL,t12,t13,n3,n21) y=>y
abbrev bz.D:=eX
def bz.st:bz.D→SA:=fun t=>([.d gb t],[])
abbrev bz.Y:=(List j4)
abbrev bz.X:=(List j4)
def bz.out:bz.X→aY:=fun x=>⟨.d (.slice kp) x,[],[]⟩
def bz.add:bz.D→bz.Y→bz.X:=fun t y=>y
def bz.L0.aB:bz.L0.D→Prop:=fun(L,n,i,id,r)=>∃k m:Nat,k≤m∧i=k∧n=m∧m≤1000∧L=r.length∧L=k
def bz.L0.F:bz.L0.D→bz.L0.Y:=fun(L,n,i,id,r)=>(L+(n - i).toNat,r++qp id i.toNat (n - i).toNat)
def bz.aB:bz.D→Prop:=fun t=>qJ t
def bz.F:bz.D→bz.Y:=fun t=>nS t
noncomputable def bz.G:dR:=eO (P:=Tryz.prog) [tid.sg,ak.sg]
noncomputable def bz.L0.E:=bM.ct bz.L0.st bz.L0.aB bz.L0.add bz.L0.F bz.L0.out
noncomputable def bz.L0.call:bz.L0.D→Option bz.L0.X:=dg bz.L0.E bz.L0.st
noncomputable def bz.an:eu:= {loops:=jO [(5,{bh:=[2,3,12,13],sites:=[3,21],iu:=[⟨2,[],21,67⟩]})],outs:=jN [(5,{bh:=[2],sites:=[21]},{bh:=[2]})],fF:=ky [(5,bz.L0.E)],res:=[some (.slice kp)]}
noncomputable def bz.A:= @cI Tryz.prog bz.G bz.an 0 Tryz.f40 _ bz.st
abbrev bz.Ok:=cJ @bz.A bz.aB bz.add bz.F bz.out
noncomputable def bz.L0.R:= @cf Tryz.prog bz.G bz.an 0 Tryz.f40 0 _ bz.L0.st
abbrev bz.L0.Ok:=ez Tryz.prog bz.G bz.an 0 Tryz.f40 0 bz.L0.st bz.L0.aB bz.L0.add bz.L0.F bz.L0.out
theorem bz.L0.run:bB bz.L0.call bz.L0.aB bz.L0.add bz.L0.F:=eE (eD [.n,.d ti,.d ti,.d tB,.d (.slice kp)] fun _=>by kernel_rfl)
theorem bz.L0.aH:fP @bz.L0.R bz.L0.st bz.L0.aB bz.L0.add bz.L0.F bz.L0.bq bz.L0.Ok:=fS
theorem bz.L0.step{R:Type}(lL:Nat)(t12:Int)(t13:Int)(n3:Bs)(n21:(List j4))(kn:AS→Option R)(kx:Exit→AS→Option R):bz.L0.R (lL,t12,t13,n3,n21) kn kx=
  aJ ((fY t13 t12)) (
   aJ (decide (lL≤(List.length n21))) (
   aJ (dh (lL+1) 40) (
   kn (bz.L0.st ((lL+1),t12,(bK .i64 t13 (1:Int)),n3,((List.take lL n21)++ [(n3,(t13,()))])))) none) none) (
   kx (bz.L0.bq (lL,n21)).1 (bz.L0.bq (lL,n21)).2):=by kernel_rfl
theorem bz.eq{R:Type}(t:eX)(k:aY→Option R):bz.A t k=
  aq (tid.call t) fun x1=>
  aq (ak.call t) fun x2=>
  aJ ((!x2)) (
   k (bz.out ([]:List j4))) (
   aq (bz.L0.call (0,(((List.length t.2.1):Nat):Int),(0:Int),x1,([]:List j4))) fun x3=>
   aJ (decide (0=0∧(0+x3.1)≤(List.length x3.2))) (
   k (bz.out (cut x3.2 0 x3.1))) none):=by kernel_rfl
theorem zk(id:List Int)(k n:Nat):(qp id k n).length=n:=by simp[qp]
theorem xu(id:List Int)(k n:Nat):qp id k (n+1)=(id,((k:Int),()))::qp id (k+1) n:=by
 unfold qp
 rw[List.range'_succ,List.map_cons]
theorem bz.L0.ok:bz.L0.Ok:=by
 refine bz.L0.aH (fun(L,n,i,id,r)=>(n - i).toNat) ?_
 rintro⟨L,n,i,id,r⟩ ⟨k,m,hk,rfl,rfl,hm,rfl,hrk⟩
 have hrk:r.length=k:=hrk
 by_cases h:k < m
 ·left
  have e1:((m:Int) - (k:Int)).toNat=(m - (k+1))+1:=by omega
  have e2:((m:Int) - ((k+1:Nat):Int)).toNat=m - (k+1):=by omega
  refine⟨(r.length+1,(m:Int),((k+1:Nat):Int),id,r++ [(id,((k:Int),()))]),⟨k+1,m,by omega,rfl,rfl,hm,by rw[List.length_append];rfl,by show r.length+1=_;omega⟩,by show((m:Int) - ((k+1:Nat):Int)).toNat < ((m:Int) - (k:Int)).toNat;omega,?_,fun kn kx=> ?_⟩
  ·simp only[bz.L0.add,bz.L0.F,e1,e2,Int.toNat_natCast,xu,List.append_assoc,List.singleton_append]
   rw[show r.length+1+(m - (k+1))=r.length+(m - (k+1)+1) by omega]
  ·rw[bz.L0.step,bw (by omega),aO (Nat.le_refl _),eB (by omega) (by omega),N.kA (by omega),List.take_length]
   rfl
 ·right
  obtain rfl:k=m:=by omega
  intro R kn kx
  rw[bz.L0.step,bm (by omega),ay]
  simp only[bz.L0.add,bz.L0.F,Int.sub_self,Int.toNat_zero,Nat.add_zero]
  rw[show qp id (k:Int).toNat 0=[] from rfl,List.append_nil]
theorem bz.ok:bz.Ok:=by
 intro t hv
 have hv:qJ t:=hv
 rw[bz.eq,tid.run (d:=t) hv,ak.run (d:=t) hv.1]
 simp only[ab,tid.add,tid.F,ak.add,ak.F,bz.add,bz.F,nS]
 cases hok:fH t
 ·rfl
 ·obtain⟨⟨_,a2,a3,_⟩,b1,b2⟩:=jw hok
  have hl:=zk (tF t) 0 t.2.1.length
  rw[bz.L0.run (d:=(0,t.2.1.length,0,tF t,[])) ⟨0,t.2.1.length,Nat.zero_le _,rfl,rfl,by omega,rfl,rfl⟩]
  simp only[Bool.not_true,ay,if_true,ab,bz.L0.add,bz.L0.F,Int.sub_zero,Int.toNat_natCast,Int.toNat_zero,List.nil_append,Nat.zero_add]
  rw[aO ⟨by trivial,by rw[hl];exact Nat.le_refl _⟩,az,fa hl]
noncomputable def bz.E:=Entry.ct [some gb] bz.st bz.aB bz.add bz.F bz.out
noncomputable def bz.call:bz.D→Option bz.X:=bG bz.E bz.st
theorem bz.run:bB bz.call bz.aB bz.add bz.F:=cO (cM [.d gb] fun _=>by kernel_rfl)
noncomputable def bz.sg:SG Tryz.prog:=⟨40,aU,bz.E,.fn 1 (by kernel_rfl) bz.ok (And.intro (.ct bz.L0.ok (by kernel_rfl)) trivial)⟩
set_option synthInstance.maxSize 5000
abbrev fc.D:=(List ff)
def fc.st:fc.D→SA:=fun sv=>([.d (.slice eH) sv],[])
abbrev fc.Y:=Nat×(List ff)
abbrev fc.X:=Nat×(List ff)
def fc.out:fc.X→aY:=fun x=>⟨.cd (.new 0 0) 0 [] 0 0 x.1,[],[.obj 0 false (.vec 57 eH x.2)]⟩
def fc.add:fc.D→fc.Y→fc.X:=fun sv y=>y
def fc.aB:fc.D→Prop:=fun l=>l.length≤1000000
def fc.F:fc.D→fc.Y:=fun l=>(l.length,l)
noncomputable def fc.G:dR:=eO (P:=Tryz.prog) []
noncomputable def fc.an:eu:= {bH:=[5],iu:=[⟨2,[],5,36⟩]}
noncomputable def fc.A:= @cI Tryz.prog fc.G fc.an 0 Tryz.f131 _ fc.st
abbrev fc.Ok:=cJ @fc.A fc.aB fc.add fc.F fc.out
theorem fc.eq{R:Type}(sv:(List ff))(k:aY→Option R):fc.A sv k=
  aJ (decide (0 < (List.length sv))) (
   aJ (dh (0+(List.length sv)) 80) (
   k (fc.out ((0+(List.length sv)),((List.take 0 (List.replicate 0 (((List.replicate 32 (0:Int)),((0:Int),())),(((0:Int),(([]:List Sg),((0:Int),()))),()))))++sv)))) none) (
   nd (
    k (fc.out (0,([]:List ff)))) (
    aJ (dh (0+(List.length sv)) 80) (
    k (fc.out ((0+(List.length sv)),((List.take 0 (List.replicate 0 (((List.replicate 32 (0:Int)),((0:Int),())),(((0:Int),(([]:List Sg),((0:Int),()))),()))))++sv)))) none)):=by kernel_rfl
theorem fc.ok:fc.Ok:=by
 intro l hl
 have hl:l.length≤1000000:=hl
 have hr:dh l.length 80=true:=eB (by omega) (by omega)
 rw[fc.eq]
 simp only[Nat.zero_add,hr,az,List.take_zero,List.nil_append,fc.add,fc.F]
 by_cases h:0 < l.length
 ·simp only[aO h,az]
 ·have:l=[]:=List.eq_nil_of_length_eq_zero (by omega)
  subst this
  simp only[List.length_nil,nH,aK (Nat.lt_irrefl 0),ay]
noncomputable def fc.E:=Entry.ct [some (.slice eH)] fc.st fc.aB fc.add fc.F fc.out
noncomputable def fc.call:fc.D→Option fc.X:=bG fc.E fc.st
theorem fc.run:bB fc.call fc.aB fc.add fc.F:=cO (cM [.d (.slice eH)] fun _=>by kernel_rfl)
noncomputable def fc.sg:SG Tryz.prog:=⟨131,aU,fc.E,.fn 0 (by kernel_rfl) fc.ok trivial⟩
abbrev dI.D:=(List fM)
def dI.st:dI.D→SA:=fun sv=>([.d (.slice eR) sv],[])
abbrev dI.Y:=Nat×(List fM)
abbrev dI.X:=Nat×(List fM)
def dI.out:dI.X→aY:=fun x=>⟨.cd (.new 0 0) 0 [] 0 0 x.1,[],[.obj 0 false (.vec 62 eR x.2)]⟩
def dI.add:dI.D→dI.Y→dI.X:=fun sv y=>y
def dI.aB:dI.D→Prop:=fun l=>l.length≤1000000
def dI.F:dI.D→dI.Y:=fun l=>(l.length,l)
noncomputable def dI.G:dR:=eO (P:=Tryz.prog) []
noncomputable def dI.an:eu:= {bH:=[5],iu:=[⟨2,[],5,37⟩]}
noncomputable def dI.A:= @cI Tryz.prog dI.G dI.an 0 Tryz.f132 _ dI.st
abbrev dI.Ok:=cJ @dI.A dI.aB dI.add dI.F dI.out
theorem dI.eq{R:Type}(sv:(List fM))(k:aY→Option R):dI.A sv k=
  aJ (decide (0 < (List.length sv))) (
   aJ (dh (0+(List.length sv)) 32) (
   k (dI.out ((0+(List.length sv)),((List.take 0 (List.replicate 0 ((0:Int),((([]:List fX),()),()))))++sv)))) none) (
   nd (
    k (dI.out (0,([]:List fM)))) (
    aJ (dh (0+(List.length sv)) 32) (
    k (dI.out ((0+(List.length sv)),((List.take 0 (List.replicate 0 ((0:Int),((([]:List fX),()),()))))++sv)))) none)):=by kernel_rfl
theorem dI.ok:dI.Ok:=by
 intro l hl
 have hl:l.length≤1000000:=hl
 have hr:dh l.length 32=true:=eB (by omega) (by omega)
 rw[dI.eq]
 simp only[Nat.zero_add,hr,az,List.take_zero,List.nil_append,dI.add,dI.F]
 by_cases h:0 < l.length
 ·simp only[aO h,az]
 ·have:l=[]:=List.eq_nil_of_length_eq_zero (by omega)
  subst this
  simp only[List.length_nil,nH,aK (Nat.lt_irrefl 0),ay]
noncomputable def dI.E:=Entry.ct [some (.slice eR)] dI.st dI.aB dI.add dI.F dI.out
noncomputable def dI.call:dI.D→Option dI.X:=bG dI.E dI.st
theorem dI.run:bB dI.call dI.aB dI.add dI.F:=cO (cM [.d (.slice eR)] fun _=>by kernel_rfl)
noncomputable def dI.sg:SG Tryz.prog:=⟨132,aU,dI.E,.fn 0 (by kernel_rfl) dI.ok trivial⟩
abbrev fb.D:=(List fX)
def fb.st:fb.D→SA:=fun sv=>([.d (.slice fe) sv],[])
abbrev fb.Y:=Nat×(List fX)
abbrev fb.X:=Nat×(List fX)
def fb.out:fb.X→aY:=fun x=>⟨.cd (.new 0 0) 0 [] 0 0 x.1,[],[.obj 0 false (.vec 85 fe x.2)]⟩
def fb.add:fb.D→fb.Y→fb.X:=fun sv y=>y
def fb.aB:fb.D→Prop:=fun l=>l.length≤1000000
def fb.F:fb.D→fb.Y:=fun l=>(l.length,l)
noncomputable def fb.G:dR:=eO (P:=Tryz.prog) []
noncomputable def fb.an:eu:= {bH:=[5],iu:=[⟨2,[],5,22⟩]}
noncomputable def fb.A:= @cI Tryz.prog fb.G fb.an 0 Tryz.f134 _ fb.st
abbrev fb.Ok:=cJ @fb.A fb.aB fb.add fb.F fb.out
theorem fb.eq{R:Type}(sv:(List fX))(k:aY→Option R):fb.A sv k=
  aJ (decide (0 < (List.length sv))) (
   aJ (dh (0+(List.length sv)) 48) (
   k (fb.out ((0+(List.length sv)),((List.take 0 (List.replicate 0 (([]:List Int),((0:Int),((0:Int),((0:Int),()))))))++sv)))) none) (
   nd (
    k (fb.out (0,([]:List fX)))) (
    aJ (dh (0+(List.length sv)) 48) (
    k (fb.out ((0+(List.length sv)),((List.take 0 (List.replicate 0 (([]:List Int),((0:Int),((0:Int),((0:Int),()))))))++sv)))) none)):=by kernel_rfl
theorem fb.ok:fb.Ok:=by
 intro l hl
 have hl:l.length≤1000000:=hl
 have hr:dh l.length 48=true:=eB (by omega) (by omega)
 rw[fb.eq]
 simp only[Nat.zero_add,hr,az,List.take_zero,List.nil_append,fb.add,fb.F]
 by_cases h:0 < l.length
 ·simp only[aO h,az]
 ·have:l=[]:=List.eq_nil_of_length_eq_zero (by omega)
  subst this
  simp only[List.length_nil,nH,aK (Nat.lt_irrefl 0),ay]
noncomputable def fb.E:=Entry.ct [some (.slice fe)] fb.st fb.aB fb.add fb.F fb.out
noncomputable def fb.call:fb.D→Option fb.X:=bG fb.E fb.st
theorem fb.run:bB fb.call fb.aB fb.add fb.F:=cO (cM [.d (.slice fe)] fun _=>by kernel_rfl)
noncomputable def fb.sg:SG Tryz.prog:=⟨134,aU,fb.E,.fn 0 (by kernel_rfl) fb.ok trivial⟩
abbrev dJ.D:=(List Sg)
def dJ.st:dJ.D→SA:=fun sv=>([.d (.slice jg) sv],[])
abbrev dJ.Y:=(List Sg)
abbrev dJ.X:=(List Sg)
def dJ.out:dJ.X→aY:=fun x=>⟨.d (.slice jg) x,[],[]⟩
def dJ.add:dJ.D→dJ.Y→dJ.X:=fun sv y=>y
def dJ.aB:dJ.D→Prop:=fun l=>l.length≤1000000
def dJ.F:dJ.D→dJ.Y:=fun l=>l
noncomputable def dJ.G:dR:=eO (P:=Tryz.prog) []
noncomputable def dJ.an:eu:= {bH:=[5],res:=[some (.slice jg)]}
noncomputable def dJ.A:= @cI Tryz.prog dJ.G dJ.an 0 Tryz.f133 _ dJ.st
abbrev dJ.Ok:=cJ @dJ.A dJ.aB dJ.add dJ.F dJ.out
theorem dJ.eq{R:Type}(sv:(List Sg))(k:aY→Option R):dJ.A sv k=
  aJ (decide (0 < (List.length sv))) (
   aJ (dh (0+(List.length sv)) 16) (
   aJ (decide (0=0∧(0+(0+(List.length sv)))≤(List.length ((List.take 0 (List.replicate 0 ((0:Int),((0:Int),()))))++sv)))) (
   k (dJ.out (cut ((List.take 0 (List.replicate 0 ((0:Int),((0:Int),()))))++sv) 0 (0+(List.length sv))))) none) none) (
   nd (
    k (dJ.out ([]:List Sg))) (
    aJ (dh (0+(List.length sv)) 16) (
    aJ (decide (0=0∧(0+(0+(List.length sv)))≤(List.length ((List.take 0 (List.replicate 0 ((0:Int),((0:Int),()))))++sv)))) (
    k (dJ.out (cut ((List.take 0 (List.replicate 0 ((0:Int),((0:Int),()))))++sv) 0 (0+(List.length sv))))) none) none)):=by kernel_rfl
theorem dJ.ok:dJ.Ok:=by
 intro l hl
 have hl:l.length≤1000000:=hl
 have hr:dh l.length 16=true:=eB (by omega) (by omega)
 rw[dJ.eq]
 simp only[Nat.zero_add,hr,az,List.take_zero,List.nil_append,Nat.le_refl,and_self,decide_true,fa,dJ.add,dJ.F]
 by_cases h:0 < l.length
 ·simp only[aO h,az]
 ·have:l=[]:=List.eq_nil_of_length_eq_zero (by omega)
  subst this
  simp only[List.length_nil,nH,aK (Nat.lt_irrefl 0),ay]
noncomputable def dJ.E:=Entry.ct [some (.slice jg)] dJ.st dJ.aB dJ.add dJ.F dJ.out
noncomputable def dJ.call:dJ.D→Option dJ.X:=bG dJ.E dJ.st
theorem dJ.run:bB dJ.call dJ.aB dJ.add dJ.F:=cO (cM [.d (.slice jg)] fun _=>by kernel_rfl)
noncomputable def dJ.sg:SG Tryz.prog:=⟨133,aU,dJ.E,.fn 0 (by kernel_rfl) dJ.ok trivial⟩
abbrev ag.L0.D:=Int×Int×Nat×Nat×(Int×Unit)×(Int×Unit)×(List ff)×(List fM)
def ag.L0.st:ag.L0.D→AS:=fun(t17,t18,n1L,n1L_2,n1,n2,n9,n12)=>⟨([.undef,.ptr (.new 1 0) 0 [] 0,.ptr (.new 2 0) 0 [] 0]++ba 14 ([.d ti t17,.d ti t18]++ba 56 [])),[],([[],[.obj 0 false (.pr (.cd (.new 9 0) 0 [] 0 0 n1L) (.pr (.cd (.new 12 0) 0 [] 0 0 n1L_2) (.d (.pair ti .unit) n1)))],[.obj 0 false (.pr (.cU) (.pr (.cU) (.d (.pair ti .unit) n2)))]]++bN 6 ([[.obj 0 false (.vec 57 eH n9)],[],[],[.obj 0 false (.vec 62 eR n12)]]++bN 62 []))⟩
abbrev ag.L0.Y0:=(List ff)
abbrev ag.L0.X0:=(Nat×Nat×(Int×Unit)×(Int×Unit)×(List fM))×((List ff))
def ag.L0.bq:ag.L0.X0→Exit×AS:=fun x=>(.exit 0,⟨([.undef,.ptr (.new 1 0) 0 [] 0,.ptr (.new 2 0) 0 [] 0]++ba 72 []),[],([[],[.obj 0 false (.pr (.cd (.new 9 0) 0 [] 0 0 x.1.1) (.pr (.cd (.new 12 0) 0 [] 0 0 x.1.2.1) (.d (.pair ti .unit) x.1.2.2.1)))],[.obj 0 false (.pr (.cU) (.pr (.cU) (.d (.pair ti .unit) x.1.2.2.2.1)))]]++bN 6 ([[.obj 0 false (.vec 57 eH x.2)],[],[],[.obj 0 false (.vec 62 eR x.1.2.2.2.2)]]++bN 62 []))⟩)
abbrev ag.L0.X:=ag.L0.X0
abbrev ag.L0.Y:=ag.L0.Y0
def ag.L0.out:ag.L0.X→Out (Exit×AS):=fun x=> .ok (ag.L0.bq x)
def ag.L0.add:ag.L0.D→ag.L0.Y→ag.L0.X:=fun(t17,t18,n1L,n1L_2,n1,n2,n9,n12) y=>((n1L,n1L_2,n1,n2,n12),y)
abbrev ag.L1.D:=Int×Int×Nat×Nat×(Int×Unit)×(Int×Unit)×(List ff)×(List fM)
def ag.L1.st:ag.L1.D→AS:=fun(t38,t39,n1L_3,n1L_4,n1_2,n2_2,n9_2,n12_2)=>⟨([.undef,.ptr (.new 1 0) 0 [] 0,.ptr (.new 2 0) 0 [] 0]++ba 35 ([.d ti t38,.d ti t39]++ba 35 [])),[],([[],[.obj 0 false (.pr (.cd (.new 9 0) 0 [] 0 0 n1L_3) (.pr (.cd (.new 12 0) 0 [] 0 0 n1L_4) (.d (.pair ti .unit) n1_2)))],[.obj 0 false (.pr (.cU) (.pr (.cU) (.d (.pair ti .unit) n2_2)))]]++bN 6 ([[.obj 0 false (.vec 57 eH n9_2)],[],[],[.obj 0 false (.vec 62 eR n12_2)]]++bN 62 []))⟩
abbrev ag.L1.Y0:=Nat×Nat×(Int×Unit)×(Int×Unit)×(List ff)×(List fM)
abbrev ag.L1.X0:=Nat×Nat×(Int×Unit)×(Int×Unit)×(List ff)×(List fM)
def ag.L1.bq:ag.L1.X0→Exit×AS:=fun x=>(.exit 2,⟨([.undef,.ptr (.new 1 0) 0 [] 0,.ptr (.new 2 0) 0 [] 0]++ba 72 []),[],([[],[.obj 0 false (.pr (.cd (.new 9 0) 0 [] 0 0 x.1) (.pr (.cd (.new 12 0) 0 [] 0 0 x.2.1) (.d (.pair ti .unit) x.2.2.1)))],[.obj 0 false (.pr (.cU) (.pr (.cU) (.d (.pair ti .unit) x.2.2.2.1)))]]++bN 6 ([[.obj 0 false (.vec 57 eH x.2.2.2.2.1)],[],[],[.obj 0 false (.vec 62 eR x.2.2.2.2.2)]]++bN 62 []))⟩)
abbrev ag.L1.X:=ag.L1.X0
abbrev ag.L1.Y:=ag.L1.Y0
def ag.L1.out:ag.L1.X→Out (Exit×AS):=fun x=> .ok (ag.L1.bq x)
def ag.L1.add:ag.L1.D→ag.L1.Y→ag.L1.X:=fun(t38,t39,n1L_3,n1L_4,n1_2,n2_2,n9_2,n12_2) y=>y
abbrev ag.L2.D:=Int×Nat×Int×Int×Int×Int×Nat×Nat×(Int×Unit)×(Int×Unit)×(List ff)×(List fM)×(List fX)
def ag.L2.st:ag.L2.D→AS:=fun(kv,lL,t38_2,t39_2,t51,t52,n1L_5,n1L_6,n1_3,n2_3,n9_3,n12_3,n49)=>⟨([.undef,.ptr (.new 1 0) 0 [] 0,.ptr (.new 2 0) 0 [] 0,.undef,.d ti kv,.cd (.new 49 0) 0 [] 0 0 lL]++ba 32 ([.d ti t38_2,.d ti t39_2]++ba 11 ([.d ti t51,.d ti t52]++ba 22 []))),[],([[],[.obj 0 false (.pr (.cd (.new 9 0) 0 [] 0 0 n1L_5) (.pr (.cd (.new 12 0) 0 [] 0 0 n1L_6) (.d (.pair ti .unit) n1_3)))],[.obj 0 false (.pr (.cU) (.pr (.cU) (.d (.pair ti .unit) n2_3)))]]++bN 6 ([[.obj 0 false (.vec 57 eH n9_3)],[],[],[.obj 0 false (.vec 62 eR n12_3)]]++bN 36 ([[.obj 0 false (.vec 85 fe n49)]]++bN 25 [])))⟩
abbrev ag.L2.Y0:=(List fX)×(List fX)
abbrev ag.L2.X0:=(Int×Int×Int×Nat×Nat×(Int×Unit)×(Int×Unit)×(List ff)×(List fM))×((List fX)×(List fX))
def ag.L2.bq:ag.L2.X0→Exit×AS:=fun x=>(.exit 4,⟨([.undef,.ptr (.new 1 0) 0 [] 0,.ptr (.new 2 0) 0 [] 0,.undef,.d ti x.1.1,.d (.slice fe) x.2.1]++ba 32 ([.d ti x.1.2.1,.d ti x.1.2.2.1]++ba 35 [])),[],([[],[.obj 0 false (.pr (.cd (.new 9 0) 0 [] 0 0 x.1.2.2.2.1) (.pr (.cd (.new 12 0) 0 [] 0 0 x.1.2.2.2.2.1) (.d (.pair ti .unit) x.1.2.2.2.2.2.1)))],[.obj 0 false (.pr (.cU) (.pr (.cU) (.d (.pair ti .unit) x.1.2.2.2.2.2.2.1)))]]++bN 6 ([[.obj 0 false (.vec 57 eH x.1.2.2.2.2.2.2.2.1)],[],[],[.obj 0 false (.vec 62 eR x.1.2.2.2.2.2.2.2.2)]]++bN 36 ([[.obj 0 true (.vec 85 fe x.2.2)]]++bN 25 [])))⟩)
abbrev ag.L2.X:=ag.L2.X0
abbrev ag.L2.Y:=ag.L2.Y0
def ag.L2.out:ag.L2.X→Out (Exit×AS):=fun x=> .ok (ag.L2.bq x)
def ag.L2.add:ag.L2.D→ag.L2.Y→ag.L2.X:=fun(kv,lL,t38_2,t39_2,t51,t52,n1L_5,n1L_6,n1_3,n2_3,n9_3,n12_3,n49) y=>((kv,t38_2,t39_2,n1L_5,n1L_6,n1_3,n2_3,n9_3,n12_3),y)
abbrev ag.D:=eX
def ag.st:ag.D→SA:=fun t=>([.d gb t],[])
abbrev ag.Y:=Nat×((List fM)×(Int×Unit))×(List ff)
abbrev ag.X:=Nat×((List fM)×(Int×Unit))×(List ff)
def ag.out:ag.X→aY:=fun x=>⟨.pr (.cd (.new 0 0) 0 [] 0 0 x.1) (.d (.pair (.slice eR) (.pair ti .unit)) x.2.1),[],[.obj 0 false (.vec 57 eH x.2.2)]⟩
def ag.add:ag.D→ag.Y→ag.X:=fun t y=>y
def ag.L0.aB:ag.L0.D→Prop:=fun(m,i,L,L2,u,v,l,os)=>(l.length≤1000∧∀x∈l,x.2.1.2.1.length≤1000000)∧∃k:Nat,k≤l.length∧i=k∧m=l.length∧L=l.length
def ag.L0.F:ag.L0.D→ag.L0.Y:=fun(m,i,L,L2,u,v,l,os)=>l
def ag.L2.aB:ag.L2.D→Prop:=fun(kv,L,m1,i1,m,i,L5,L6,u,v,ls,os,bs)=>(bs.length≤1000∧∀x∈bs,x.1.length≤1000000)∧∃k:Nat,k≤bs.length∧i=k∧m=bs.length∧L=bs.length
def ag.L2.F:ag.L2.D→ag.L2.Y:=fun(kv,L,m1,i1,m,i,L5,L6,u,v,ls,os,bs)=>(bs,bs)
def ag.L1.aB:ag.L1.D→Prop:=fun(m,i,L3,L,u,v,ls,os)=>(os.length≤1000∧∀x∈os,x.2.1.1.length≤1000∧∀b∈x.2.1.1,b.1.length≤1000000)∧∃k:Nat,k≤os.length∧i=k∧m=os.length∧L=os.length
def ag.L1.F:ag.L1.D→ag.L1.Y:=fun(m,i,L3,L,u,v,ls,os)=>(L3,L,u,v,ls,os)
def ag.aB:ag.D→Prop:=fun t=>fH t=true
def ag.F:ag.D→ag.Y:=fun t=>(t.1.length,(t.2.1,t.2.2),t.1)
noncomputable def ag.G:dR:=eO (P:=Tryz.prog) [fc.sg,dI.sg,dJ.sg,fb.sg,cH.sg]
noncomputable def ag.L0.E:=bM.ct ag.L0.st ag.L0.aB ag.L0.add ag.L0.F ag.L0.out
noncomputable def ag.L0.call:ag.L0.D→Option ag.L0.X:=dg ag.L0.E ag.L0.st
noncomputable def ag.L1.E:=bM.ct ag.L1.st ag.L1.aB ag.L1.add ag.L1.F ag.L1.out
noncomputable def ag.L1.call:ag.L1.D→Option ag.L1.X:=dg ag.L1.E ag.L1.st
noncomputable def ag.L2.E:=bM.ct ag.L2.st ag.L2.aB ag.L2.add ag.L2.F ag.L2.out
noncomputable def ag.L2.call:ag.L2.D→Option ag.L2.X:=dg ag.L2.E ag.L2.st
noncomputable def ag.an:eu:= {bH:=[1],loops:=jO [(3,{bh:=[1,2,17,18],sites:=[1,2,9,12]}),(8,{bh:=[1,2,38,39],sites:=[1,2,9,12]}),(12,{bh:=[1,2,4,5,38,39,51,52],sites:=[1,2,9,12,49]})],outs:=jN [(3,{bh:=[1,2],sites:=[1,2,9,12]},{bh:=[2]}),(8,{bh:=[1,2],sites:=[1,2,9,12]},{bh:=[2]}),(12,{bh:=[1,2,4,5,38,39],sites:=[1,2,9,12,49],data:=[(5,(.slice fe))]},{bh:=[2]})],fF:=ky [(3,ag.L0.E),(8,ag.L1.E),(12,ag.L2.E)],sG:=[⟨2,[.snd,.fst],(.slice eR)⟩]}
noncomputable def ag.A:= @cI Tryz.prog ag.G ag.an 0 Tryz.f92 _ ag.st
abbrev ag.Ok:=cJ @ag.A ag.aB ag.add ag.F ag.out
noncomputable def ag.L0.R:= @cf Tryz.prog ag.G ag.an 0 Tryz.f92 0 _ ag.L0.st
abbrev ag.L0.Ok:=ez Tryz.prog ag.G ag.an 0 Tryz.f92 0 ag.L0.st ag.L0.aB ag.L0.add ag.L0.F ag.L0.out
noncomputable def ag.L1.R:= @cf Tryz.prog ag.G ag.an 0 Tryz.f92 1 _ ag.L1.st
abbrev ag.L1.Ok:=ez Tryz.prog ag.G ag.an 0 Tryz.f92 1 ag.L1.st ag.L1.aB ag.L1.add ag.L1.F ag.L1.out
noncomputable def ag.L2.R:= @cf Tryz.prog ag.G ag.an 0 Tryz.f92 2 _ ag.L2.st
abbrev ag.L2.Ok:=ez Tryz.prog ag.G ag.an 0 Tryz.f92 2 ag.L2.st ag.L2.aB ag.L2.add ag.L2.F ag.L2.out
theorem ag.L0.run:bB ag.L0.call ag.L0.aB ag.L0.add ag.L0.F:=eE (eD [.d ti,.d ti,.n,.n,.d (.pair ti .unit),.d (.pair ti .unit),.d (.slice eH),.d (.slice eR)] fun _=>by kernel_rfl)
theorem ag.L0.aH:fP @ag.L0.R ag.L0.st ag.L0.aB ag.L0.add ag.L0.F ag.L0.bq ag.L0.Ok:=fS
theorem ag.L0.step{R:Type}(t17:Int)(t18:Int)(n1L:Nat)(n1L_2:Nat)(n1:(Int×Unit))(n2:(Int×Unit))(n9:(List ff))(n12:(List fM))(kn:AS→Option R)(kx:Exit→AS→Option R):ag.L0.R (t17,t18,n1L,n1L_2,n1,n2,n9,n12) kn kx=
  aJ ((fY t18 t17)) (
   aJ (eh t18 ((n1L:Nat):Int)) (
   aJ (decide ((0+(Int.toNat t18)) < (List.length n9))) (
   aJ (decide ((((0+(Int.toNat t18))*36)+34)=(((0+((Int.toNat t18)*36))+33)+1))) (
   aq (dJ.call (nth eH n9 (0+(Int.toNat t18))).2.1.2.1) fun x1=>
   aJ (eh t18 ((n1L:Nat):Int)) (
   aJ (decide ((0+(Int.toNat t18)) < (List.length n9))) (
   aJ (decide ((((0+(Int.toNat t18))*36)+34)=(((0+((Int.toNat t18)*36))+33)+1))) (
   aJ (decide ((0+(Int.toNat t18)) < (List.length n9))) (
   kn (ag.L0.st (t17,(bK .i64 t18 (1:Int)),n1L,n1L_2,n1,n2,(List.set n9 (0+(Int.toNat t18)) ((nth eH n9 (0+(Int.toNat t18))).1,(((nth eH n9 (0+(Int.toNat t18))).2.1.1,(x1,(nth eH n9 (0+(Int.toNat t18))).2.1.2.2)),(nth eH n9 (0+(Int.toNat t18))).2.2))),n12))) none) none) none) none) none) none) none) (
   kx (ag.L0.bq ((n1L,n1L_2,n1,n2,n12),n9)).1 (ag.L0.bq ((n1L,n1L_2,n1,n2,n12),n9)).2):=by kernel_rfl
theorem ag.L1.run:bB ag.L1.call ag.L1.aB ag.L1.add ag.L1.F:=eE (eD [.d ti,.d ti,.n,.n,.d (.pair ti .unit),.d (.pair ti .unit),.d (.slice eH),.d (.slice eR)] fun _=>by kernel_rfl)
theorem ag.L1.aH:fP @ag.L1.R ag.L1.st ag.L1.aB ag.L1.add ag.L1.F ag.L1.bq ag.L1.Ok:=fS
theorem ag.L1.step{R:Type}(t38:Int)(t39:Int)(n1L_3:Nat)(n1L_4:Nat)(n1_2:(Int×Unit))(n2_2:(Int×Unit))(n9_2:(List ff))(n12_2:(List fM))(kn:AS→Option R)(kx:Exit→AS→Option R):ag.L1.R (t38,t39,n1L_3,n1L_4,n1_2,n2_2,n9_2,n12_2) kn kx=
  aJ ((fY t39 t38)) (
   aJ (eh t39 ((n1L_4:Nat):Int)) (
   aJ (decide ((0+(Int.toNat t39)) < (List.length n12_2))) (
   aJ (decide ((((0+(Int.toNat t39))*2)+1)=(((0+((Int.toNat t39)*2))+1)+0))) (
   aq (fb.call (nth eR n12_2 (0+(Int.toNat t39))).2.1.1) fun x1=>
   aq (ag.L2.call (t39,x1.1,t38,t39,((x1.1:Nat):Int),(0:Int),n1L_3,n1L_4,n1_2,n2_2,n9_2,n12_2,x1.2)) fun x2=>
   aJ (eh x2.1.1 ((x2.1.2.2.2.2.1:Nat):Int)) (
   aJ (decide ((0+(Int.toNat x2.1.1)) < (List.length x2.1.2.2.2.2.2.2.2.2))) (
   aJ (decide ((((0+(Int.toNat x2.1.1))*2)+1)=(((0+((Int.toNat x2.1.1)*2))+1)+0))) (
   aJ (decide ((0+(Int.toNat x2.1.1)) < (List.length x2.1.2.2.2.2.2.2.2.2))) (
   kn (ag.L1.st (x2.1.2.1,(bK .i64 x2.1.2.2.1 (1:Int)),x2.1.2.2.2.1,x2.1.2.2.2.2.1,x2.1.2.2.2.2.2.1,x2.1.2.2.2.2.2.2.1,x2.1.2.2.2.2.2.2.2.1,(List.set x2.1.2.2.2.2.2.2.2.2 (0+(Int.toNat x2.1.1)) ((nth eR x2.1.2.2.2.2.2.2.2.2 (0+(Int.toNat x2.1.1))).1,((x2.2.1,(nth eR x2.1.2.2.2.2.2.2.2.2 (0+(Int.toNat x2.1.1))).2.1.2),(nth eR x2.1.2.2.2.2.2.2.2.2 (0+(Int.toNat x2.1.1))).2.2)))))) none) none) none) none) none) none) none) (
   kx (ag.L1.bq (n1L_3,n1L_4,n1_2,n2_2,n9_2,n12_2)).1 (ag.L1.bq (n1L_3,n1L_4,n1_2,n2_2,n9_2,n12_2)).2):=by kernel_rfl
theorem ag.L2.run:bB ag.L2.call ag.L2.aB ag.L2.add ag.L2.F:=eE (eD [.d ti,.n,.d ti,.d ti,.d ti,.d ti,.n,.n,.d (.pair ti .unit),.d (.pair ti .unit),.d (.slice eH),.d (.slice eR),.d (.slice fe)] fun _=>by kernel_rfl)
theorem ag.L2.aH:fP @ag.L2.R ag.L2.st ag.L2.aB ag.L2.add ag.L2.F ag.L2.bq ag.L2.Ok:=fS
theorem ag.L2.step{R:Type}(kv:Int)(lL:Nat)(t38_2:Int)(t39_2:Int)(t51:Int)(t52:Int)(n1L_5:Nat)(n1L_6:Nat)(n1_3:(Int×Unit))(n2_3:(Int×Unit))(n9_3:(List ff))(n12_3:(List fM))(n49:(List fX))(kn:AS→Option R)(kx:Exit→AS→Option R):ag.L2.R (kv,lL,t38_2,t39_2,t51,t52,n1L_5,n1L_6,n1_3,n2_3,n9_3,n12_3,n49) kn kx=
  aJ ((fY t52 t51)) (
   aJ (eh t52 ((lL:Nat):Int)) (
   aJ (decide ((0+(Int.toNat t52)) < (List.length n49))) (
   aJ (decide ((((0+(Int.toNat t52))*4)+0)=((0+((Int.toNat t52)*4))+0))) (
   aq (cH.call (nth fe n49 (0+(Int.toNat t52))).1) fun x1=>
   aJ (eh t52 ((lL:Nat):Int)) (
   aJ (decide ((0+(Int.toNat t52)) < (List.length n49))) (
   aJ (decide ((((0+(Int.toNat t52))*4)+0)=((0+((Int.toNat t52)*4))+0))) (
   aJ (decide ((0+(Int.toNat t52)) < (List.length n49))) (
   kn (ag.L2.st (kv,lL,t38_2,t39_2,t51,(bK .i64 t52 (1:Int)),n1L_5,n1L_6,n1_3,n2_3,n9_3,n12_3,(List.set n49 (0+(Int.toNat t52)) (x1,(nth fe n49 (0+(Int.toNat t52))).2))))) none) none) none) none) none) none) none) (
   aJ (decide (0=0∧(0+lL)≤(List.length n49))) (
   kx (ag.L2.bq ((kv,t38_2,t39_2,n1L_5,n1L_6,n1_3,n2_3,n9_3,n12_3),((cut n49 0 lL),n49))).1 (ag.L2.bq ((kv,t38_2,t39_2,n1L_5,n1L_6,n1_3,n2_3,n9_3,n12_3),((cut n49 0 lL),n49))).2) none):=by kernel_rfl
theorem ag.eq{R:Type}(t:eX)(k:aY→Option R):ag.A t k=
 aq (fc.call t.1) fun x1=>
 aq (dI.call t.2.1) fun x2=>
 aq (ag.L0.call (((x1.1:Nat):Int),(0:Int),x1.1,x2.1,t.2.2,((0:Int),()),x1.2,x2.2)) fun x4=>
 aq (ag.L1.call (((x4.1.2.1:Nat):Int),(0:Int),x4.1.1,x4.1.2.1,x4.1.2.2.1,x4.1.2.2.2.1,x4.2,x4.1.2.2.2.2)) fun x8=>
 aJ (decide (0=0∧(0+x8.2.1)≤(List.length x8.2.2.2.2.2))) (
 k (ag.out (x8.1,((cut x8.2.2.2.2.2 0 x8.2.1),x8.2.2.1),x8.2.2.2.2.1))) none:=by kernel_rfl
theorem ag.L0.ok:ag.L0.Ok:=by
 refine ag.L0.aH (fun(m,i,L,L2,u,v,l,os)=>l.length - Int.toNat i) ?_
 rintro⟨m,i,L,L2,u,v,l,os⟩ ⟨⟨hlen,hx⟩,k,hk,rfl,rfl,rfl⟩
 have hlen:l.length≤1000:=hlen
 have hk:k≤l.length:=hk
 by_cases h:k < l.length
 ·left
  have n1:nth eH l k=l[k]:=cw (t:=eH) h
  have hs:l.set k l[k]=l:=List.set_getElem_self h
  have e:=hx _ (List.getElem_mem h)
  refine⟨((l.length:Int),((k+1:Nat):Int),l.length,L2,u,v,l,os),⟨⟨hlen,hx⟩,k+1,by omega,rfl,rfl,rfl⟩,by simp only[Int.toNat_natCast];omega,rfl,fun kn kx=> ?_⟩
  rw[ag.L0.step,bw (by omega),bn (by omega) (by omega)]
  simp only[Int.toNat_natCast,Nat.zero_add,Nat.add_zero,Nat.add_assoc,Nat.reduceAdd,az,aO h,decide_true,n1]
  rw[dJ.run (d:=l[k].2.1.2.1) e]
  simp only[ab,dJ.add,dJ.F]
  rw[N.kA (by omega)]
  exact congrArg (fun z=>kn (ag.L0.st (_,_,_,_,_,_,z,_))) hs
 ·right
  obtain rfl:k=l.length:=by omega
  intro R kn kx
  rw[ag.L0.step,bm (by omega),ay]
  rfl
theorem ag.L2.ok:ag.L2.Ok:=by
 refine ag.L2.aH (fun(kv,L,m1,i1,m,i,L5,L6,u,v,ls,os,bs)=>bs.length - Int.toNat i) ?_
 rintro⟨kv,L,m1,i1,m,i,L5,L6,u,v,ls,os,bs⟩ ⟨⟨hlen,hx⟩,k,hk,rfl,rfl,rfl⟩
 have hlen:bs.length≤1000:=hlen
 have hk:k≤bs.length:=hk
 by_cases h:k < bs.length
 ·left
  have n1:nth fe bs k=bs[k]:=cw (t:=fe) h
  have hs:bs.set k bs[k]=bs:=List.set_getElem_self h
  have e:=hx _ (List.getElem_mem h)
  refine⟨(kv,bs.length,m1,i1,(bs.length:Int),((k+1:Nat):Int),L5,L6,u,v,ls,os,bs),⟨⟨hlen,hx⟩,k+1,by omega,rfl,rfl,rfl⟩,by simp only[Int.toNat_natCast];omega,rfl,fun kn kx=> ?_⟩
  rw[ag.L2.step,bw (by omega),bn (by omega) (by omega)]
  simp only[Int.toNat_natCast,Nat.zero_add,Nat.add_zero,Nat.add_assoc,Nat.reduceAdd,az,aO h,decide_true,n1]
  rw[cH.run (d:=bs[k].1) e]
  simp only[ab,cH.add,cH.F]
  rw[N.kA (by omega)]
  exact congrArg (fun z=>kn (ag.L2.st (_,_,_,_,_,_,_,_,_,_,_,_,z))) hs
 ·right
  obtain rfl:k=bs.length:=by omega
  intro R kn kx
  rw[ag.L2.step,bm (by omega),ay]
  simp only[Nat.zero_add,Nat.le_refl,and_self,decide_true,az,fa]
  rfl
theorem ag.L1.ok:ag.L1.Ok:=by
 refine ag.L1.aH (fun(m,i,L3,L,u,v,ls,os)=>os.length - Int.toNat i) ?_
 rintro⟨m,i,L3,L,u,v,ls,os⟩ ⟨⟨hlen,hx⟩,k,hk,rfl,rfl,rfl⟩
 have hlen:os.length≤1000:=hlen
 have hk:k≤os.length:=hk
 by_cases h:k < os.length
 ·left
  have n1:nth eR os k=os[k]:=cw (t:=eR) h
  have hs:os.set k os[k]=os:=List.set_getElem_self h
  have e:=hx _ (List.getElem_mem h)
  refine⟨((os.length:Int),((k+1:Nat):Int),L3,os.length,u,v,ls,os),⟨⟨hlen,hx⟩,k+1,by omega,rfl,rfl,rfl⟩,by simp only[Int.toNat_natCast];omega,rfl,fun kn kx=> ?_⟩
  rw[ag.L1.step,bw (by omega),bn (by omega) (by omega)]
  simp only[Int.toNat_natCast,Nat.zero_add,Nat.add_zero,Nat.add_assoc,Nat.reduceAdd,az,aO h,decide_true,n1]
  rw[fb.run (d:=os[k].2.1.1) (by show os[k].2.1.1.length≤_;have:=e.1;omega)]
  simp only[ab,fb.add,fb.F]
  rw[ag.L2.run (d:=((k:Int),os[k].2.1.1.length,(os.length:Int),(k:Int),(os[k].2.1.1.length:Int),0,L3,os.length,u,v,ls,os,os[k].2.1.1)) ⟨e,0,Nat.zero_le _,rfl,rfl,rfl⟩]
  simp only[ab,ag.L2.add,ag.L2.F,Int.toNat_natCast,n1,az,aO h,bn (show(0:Int)≤(k:Int) by omega) (show(k:Int) < (os.length:Int) by omega)]
  rw[N.kA (by omega)]
  exact congrArg (fun z=>kn (ag.L1.st (_,_,_,_,_,_,_,z))) hs
 ·right
  obtain rfl:k=os.length:=by omega
  intro R kn kx
  rw[ag.L1.step,bm (by omega),ay]
  rfl
theorem AF{l:Lk}(h:iK l=true):l.1.length≤4∧∀b∈l.1,b.1.length≤12:=by
 unfold iK at h
 simp only[Bool.and_eq_true,List.all_eq_true,decide_eq_true_eq]at h
 refine⟨h.2.2,fun b hb=> ?_⟩
 have:=h.1 b hb
 unfold nZ at this
 simp only[Bool.and_eq_true,decide_eq_true_eq]at this
 exact this.1
theorem ag.ok:ag.Ok:=by
 rintro⟨is,os,nt,u⟩ hok
 obtain⟨⟨_,a2,a3,_⟩,b1,b2⟩:=jw hok
 have a2:is.length≤64:=a2
 have a3:os.length≤64:=a3
 rw[ag.eq,fc.run (d:=is) (by show is.length≤_;omega),dI.run (d:=os) (by show os.length≤_;omega)]
 simp only[ab,fc.add,fc.F,dI.add,dI.F]
 rw[ag.L0.run (d:=(is.length,0,is.length,os.length,(nt,u),(0,()),is,os)) ⟨⟨by show is.length≤_;omega,fun x hx=>by have:=(l5 (gU _ _ b1 x hx)).2.2.2.2;omega⟩,0,Nat.zero_le _,rfl,rfl,rfl⟩]
 simp only[ab,ag.L0.add,ag.L0.F]
 rw[ag.L1.run (d:=(os.length,0,is.length,os.length,(nt,u),(0,()),is,os)) ⟨⟨by show os.length≤_;omega,fun x hx=>by
  have:=AF (iM _ _ b2 x hx).2
  exact⟨by omega,fun b hb=>by have:=this.2 b hb;omega⟩⟩,0,Nat.zero_le _,rfl,rfl,rfl⟩]
 simp only[ab,ag.L1.add,ag.L1.F,Nat.zero_add,Nat.le_refl,and_self,decide_true,az,fa]
 rfl
noncomputable def ag.E:=Entry.ct [some gb] ag.st ag.aB ag.add ag.F ag.out
noncomputable def ag.call:ag.D→Option ag.X:=bG ag.E ag.st
theorem ag.run:bB ag.call ag.aB ag.add ag.F:=cO (cM [.d gb] fun _=>by kernel_rfl)
noncomputable def ag.sg:SG Tryz.prog:=⟨92,aU,ag.E,.fn 3 (by kernel_rfl) ag.ok (And.intro (.ct ag.L0.ok (by kernel_rfl)) (And.intro (.ct ag.L1.ok (by kernel_rfl)) (And.intro (.ct ag.L2.ok (by kernel_rfl)) trivial)))⟩
set_option synthInstance.maxSize 5000
theorem pc(x:Int)(m:Int):∀k:Nat,(x%m)^k%m=x^k%m
 | 0=>by rw[Int.pow_zero,Int.pow_zero]
 |k+1=>by rw[Int.pow_succ,Int.pow_succ,Int.mul_emod,pc x m k,Int.emod_emod_of_dvd _ (Int.dvd_refl m),←Int.mul_emod]
theorem C7(a:Int)(k:Nat):(a*a)^k=a^(2*k):=by
 rw[Int.pow_mul,Int.pow_succ,Int.pow_succ,Int.pow_zero,Int.one_mul]
theorem AW:∀(f:Nat) (a:Int) (n:Nat) (out:Int),n < 2^f→Pn out→yy f a n out=out*a^n%4611686018427377339
 | 0,a,n,out,h,ho=>by
  obtain rfl:n=0:=by omega
  rw[lO,Int.pow_zero,Int.mul_one,Int.emod_eq_of_lt ho.1 ho.2]
 |f+1,a,n,out,h,ho=>by
  have e:(2:Nat)^(f+1)=2^f*2:=Nat.pow_succ 2 f
  rw[yy]
  split
  ·rename_i h0
   subst h0
   rw[Int.pow_zero,Int.mul_one,Int.emod_eq_of_lt ho.1 ho.2]
  ·have hp:Pn (if n%2=1 then ji out a else out):=by
    split
    ·exact kZ _ _
    ·exact ho
   rw[AW f _ _ _ (by omega) hp,Int.mul_emod]
   have e1:(ji a a)^(n / 2)%4611686018427377339=a^(2*(n / 2))%4611686018427377339:=by
    unfold ji
    rw[pc,C7]
   have e2:(if n%2=1 then ji out a else out)%4611686018427377339=(out*a^(n%2))%4611686018427377339:=by
    split
    ·rename_i h1
     rw[h1,Int.pow_succ,Int.pow_zero,Int.one_mul]
     exact Int.emod_emod_of_dvd _ (Int.dvd_refl _)
    ·have h1:n%2=0:=by omega
     rw[h1,Int.pow_zero,Int.mul_one]
   rw[e1,e2,←Int.mul_emod,Int.mul_assoc,←Int.pow_add]
   have e3:n%2+2*(n / 2)=n:=by omega
   rw[e3]
theorem rR(a:Int)(n:Nat)(h:n < 18446744073709551616):pw a n=a^n%4611686018427377339:=by
 unfold pw
 rw[AW 64 a n 1 h ⟨by omega,by omega⟩,Int.one_mul]
theorem one_pow(k:Nat):(1:Int)^k=1:=Int.one_pow
theorem AY(a:Int)(k q:Nat)(hk:k < 18446744073709551616)(hq:q < 18446744073709551616)(h:pw a q=1):pw (pw a k) q=1:=by
 rw[rR _ _ hq]at h
 rw[rR _ _ hq,rR _ _ hk,pc,←Int.pow_mul,Nat.mul_comm,Int.pow_mul,←pc,h,one_pow]
 rfl
theorem td:pw 4 2305843009213688669=1:=by decide+kernel
theorem zt:pw 1 2305843009213688669=1:=by decide+kernel
theorem BR:lQ 4=true:=by rw[lQ,td];rfl
theorem oU:lQ 1=true:=by rw[lQ,zt];rfl
theorem BV:v3 1=1:=by
 have e:pw 1 2305843009213688668=1:=by decide+kernel
 rw[v3,tk,oU]
 exact e
theorem uH{a:Int}(h:Pn a)(q:Nat)(hq:0 < q)(hq2:q < 18446744073709551616)(hp:pw a q=1):0 < a:=by
 rcases Int.lt_or_eq_of_le h.1 with h0 | h0
 ·exact h0
 ·subst h0
  rw[rR _ _ hq2,Int.zero_pow (by omega)]at hp
  cases hp
theorem CO{a:Int}(h:Pn a)(hp:pw a 2305843009213688669=1):lQ a=true:=by
 have h0:=uH h 2305843009213688669 (by decide) (by decide) hp
 rw[lQ,hp,decide_eq_true ⟨h0,h.2⟩];rfl
theorem zd{a:Int}(h:lQ a=true):pw a 2305843009213688669=1∧Pn a:=by
 rw[lQ,Bool.and_eq_true,decide_eq_true_eq,decide_eq_true_eq]at h
 exact⟨h.2,by omega,h.1.2⟩
theorem CP{a:Int}(h:lQ a=true)(k:Nat)(hk:k < 18446744073709551616):lQ (pw a k)=true:=
 CO (wq _ _) (AY a k _ hk (by decide) (zd h).1)
theorem CQ(a:Int):lQ (tk a)=true:=by
 unfold tk
 cases h:lQ a
 ·exact oU
 ·exact h
theorem ze(p k:Int):lQ (mh p k)=true:=CP (CQ p) _ (by omega)
theorem sq{a:Int}(h:lQ a=true):tk a=a:=by rw[tk,h];rfl
theorem vI(k:Int):lQ (gE k)=true:=ze 4 k
theorem vZ{a:Int}(h:Pn a):ji a 1=a:=by rw[ji,Int.mul_one,Int.emod_eq_of_lt h.1 h.2]
set_option synthInstance.maxSize 5000
def pm(m:Nat):Nat→Nat→Nat→Nat→Nat
 | 0,_,_,out=>out%m
 |f+1,a,n,out=>if n=0 then out%m else pm m f (a*a%m) (n / 2) (if n%2=1 then out*a%m else out)
theorem Cu(m:Nat):∀(f a n out:Nat),n < 2^f→pm m f a n out=out*a^n%m
 | 0,a,n,out,h=>by
  obtain rfl:n=0:=by omega
  rw[pm,Nat.pow_zero,Nat.mul_one]
 |f+1,a,n,out,h=>by
  have e:(2:Nat)^(f+1)=2^f*2:=Nat.pow_succ (n:=2) (m:=f)
  rw[pm]
  split
  ·rename_i h0
   subst h0
   rw[Nat.pow_zero,Nat.mul_one]
  ·rw[Cu m f _ _ _ (by omega),Nat.mul_mod]
   have e1:(a*a%m)^(n / 2)%m=a^(2*(n / 2))%m:=by
    rw[←Nat.pow_mod,Nat.pow_mul,Nat.pow_two]
   have e2:(if n%2=1 then out*a%m else out)%m=(out*a^(n%2))%m:=by
    split
    ·rename_i h1
     rw[h1,Nat.pow_one,Nat.mod_mod]
    ·have h1:n%2=0:=by omega
     rw[h1,Nat.pow_zero,Nat.mul_one]
   rw[e1,e2,←Nat.mul_mod,Nat.mul_assoc,←Nat.pow_add]
   have e3:n%2+2*(n / 2)=n:=by omega
   rw[e3]
theorem At:∀(r q:Nat) (f:Nat→Nat),(∀i,i < q→f i < r)→(∀i j,i < j→j < q→f i≠f j)→q≤r
 | 0,q,f,h,_=>by
  rcases Nat.eq_zero_or_pos q with h0 | h0
  ·omega
  ·exact absurd (h 0 h0) (Nat.not_lt_zero _)
 |r+1,q,f,h,g=>by
  by_cases hx:∃i,i < q∧f i=r
  ·obtain⟨i,hi,hr⟩:=hx
   have e:=At r (q - 1) (fun j=>if j < i then f j else f (j+1)) (fun j hj=>by
    by_cases h1:j < i
    ·have a:=h j (by omega)
     have b:=g j i h1 hi
     simp only[h1,if_true]
     omega
    ·have a:=h (j+1) (by omega)
     have b:=g i (j+1) (by omega) (by omega)
     simp only[h1,if_false]
     omega) (fun j k hjk hk=>by
    by_cases h1:j < i
    ·by_cases h2:k < i
     ·simp only[h1,h2,if_true]
      exact g j k hjk (by omega)
     ·simp only[h1,h2,if_true,if_false]
      exact g j (k+1) (by omega) (by omega)
    ·have h2:¬k < i:=by omega
     simp only[h1,h2,if_false]
     exact g (j+1) (k+1) (by omega) (by omega))
   omega
  ·have e:=At r q f (fun i hi=>by
    have a:=h i hi
    have b:f i≠r:=fun x=>hx ⟨i,hi,x⟩
    omega) g
   omega
theorem yw(a m:Nat)(h1:1%m=1):∀i j:Nat,a^i%m=1→a^j%m=1→a^(Nat.gcd i j)%m=1:=by
 intro i
 induction i using Nat.strongRecOn with
 |ind i ih=>
  intro j hi hj
  rcases Nat.eq_zero_or_pos i with h0 | h0
  ·subst h0;rw[Nat.gcd_zero_left];exact hj
  ·rw[Nat.gcd_rec]
   refine ih (j%i) (Nat.mod_lt _ h0) i ?_ hi
   have e:a^j=(a^i)^(j / i)*a^(j%i):=by rw[←Nat.pow_mul,←Nat.pow_add,Nat.div_add_mod]
   rw[e,Nat.mul_mod,Nat.pow_mod,hi,Nat.one_pow,h1,Nat.one_mul,Nat.mod_mod]at hj
   exact hj
def zR(n:Nat):Prop:=∀d,d∣n→d=1∨d=n
theorem yx{n k:Nat}(h:zR n)(h0:0 < k)(hk:k < n):Nat.gcd k n=1:=by
 rcases h _ (Nat.gcd_dvd_right k n) with h1 | h1
 ·exact h1
 ·have:=Nat.le_of_dvd h0 (Nat.gcd_dvd_left k n);omega
theorem v8{n:Nat}(hn:1 < n)(h:∀r,1 < r→r*r≤n→¬r∣n):zR n:=by
 intro d hd
 obtain⟨e,he⟩:=hd
 have hd0:0 < d:=Nat.pos_of_ne_zero (by intro x;rw[x,Nat.zero_mul]at he;omega)
 have he0:0 < e:=Nat.pos_of_ne_zero (by intro x;rw[x,Nat.mul_zero]at he;omega)
 by_cases h1:d=1
 ·exact .inl h1
 by_cases h2:e=1
 ·right;rw[he,h2,Nat.mul_one]
 exfalso
 rcases Nat.le_total d e with hle | hle
 ·exact h d (by omega) (by rw[he];exact Nat.mul_le_mul_left d hle) ⟨e,he⟩
 ·exact h e (by omega) (by rw[he];exact Nat.mul_le_mul_right e hle) ⟨d,by rw[he,Nat.mul_comm]⟩
theorem CY{n q b:Nat}(hn:1 < n)(hq:zR q)(hq1:1 < q)(hqq:n < q*q)(hb:b^q%n=1)(hg:Nat.gcd (b - 1) n=1)(hb0:0 < b):zR n:=by
 refine v8 hn fun r hr hrr hrn=> ?_
 have h1r:1%r=1:=Nat.mod_eq_of_lt hr
 have hbr:b^q%r=1:=by
  have:=Nat.mod_mod_of_dvd (b^q) hrn
  rw[←this,hb,h1r]
 have hne:b%r≠1:=by
  intro hx
  have hd:r∣b - 1:=by have e:=Nat.dvd_sub_mod (n:=r) b;rw[hx]at e;exact e
  have:=Nat.dvd_gcd hd hrn
  rw[hg]at this
  have:=Nat.le_of_dvd (by omega) this
  omega
 have key:q≤r:=by
  refine At r q (fun i=>b^i%r) (fun i _=>Nat.mod_lt _ (by omega)) fun i j hij hj he=> ?_
  have e1:b^(j - i)%r=1:=by
   have x1:b^(q - i)*b^i%r=b^(q - i)*b^j%r:=by rw[Nat.mul_mod,he,←Nat.mul_mod]
   rw[←Nat.pow_add,←Nat.pow_add,show q - i+i=q by omega,show q - i+j=q+(j - i) by omega,Nat.pow_add,Nat.mul_mod,hbr,Nat.one_mul,Nat.mod_mod]at x1
   exact x1.symm
  have e2:=yw b r h1r (j - i) q e1 hbr
  rw[yx hq (by omega) (by omega),Nat.pow_one]at e2
  exact hne e2
 have:q*q≤r*r:=Nat.mul_le_mul key key
 omega
def AK(n:Nat):Nat→Bool
 | 0=>true
 |k+1=>n%(k+2) !=0 && AK n k
theorem v7(n:Nat):∀k,AK n k=true→∀d,1 < d→d≤k+1→¬d∣n
 | 0,_,d,h1,h2=>by omega
 |k+1,h,d,h1,h2=>by
  rw[AK,Bool.and_eq_true]at h
  by_cases hd:d=k+2
  ·intro hx
   have:=Nat.mod_eq_zero_of_dvd hx
   rw[hd]at this
   rw[this]at h
   exact absurd h.1 (by decide)
  ·exact v7 n k h.2 d h1 (by omega)
theorem Em:zR 7930907:=by
 refine v8 (by decide) fun r hr hrr=>v7 7930907 2820 (by decide+kernel) r hr ?_
 apply Nat.le_of_not_lt
 intro h
 have:2822*2822≤r*r:=Nat.mul_le_mul (by omega) (by omega)
 omega
theorem pd{n q:Nat}(a e:Nat)(hq:zR q)(hq1:1 < q)(hn:1 < n)(hqq:n < q*q)(he:e < 2^64)(hq2:q < 2^64)(h1:pm n 64 (pm n 64 a e 1) q 1=1)(h2:Nat.gcd (pm n 64 a e 1 - 1) n=1)(h3:0 < pm n 64 a e 1):zR n:=by
 generalize pm n 64 a e 1=b at*
 rw[Cu _ _ _ _ _ hq2,Nat.one_mul]at h1
 exact CY hn hq hq1 hqq h1 h2 h3
theorem El:zR 11864636873:=pd (q:=7930907) 2 1496 Em (by decide) (by decide) (by decide) (by decide) (by decide) (by decide+kernel) (by decide+kernel) (by decide+kernel)
theorem Ek:zR 1732236983459:=pd (q:=11864636873) 2 146 El (by decide) (by decide) (by decide) (by decide) (by decide) (by decide+kernel) (by decide+kernel) (by decide+kernel)
theorem Ej:zR 249442125618097:=pd (q:=1732236983459) 2 144 Ek (by decide) (by decide) (by decide) (by decide) (by decide) (by decide+kernel) (by decide+kernel) (by decide+kernel)
theorem En:zR 2305843009213688669:=pd (q:=249442125618097) 2 9244 Ej (by decide) (by decide) (by decide) (by decide) (by decide) (by decide+kernel) (by decide+kernel) (by decide+kernel)
def gP(n:Nat):Int:=((4^n%4611686018427377339:Nat):Int)
theorem sP(a m q:Nat)(h1:1%m=1)(h:a^q%m=1)(n:Nat):a^(n%q)%m=a^n%m:=by
 have e:a^n=(a^q)^(n / q)*a^(n%q):=by rw[←Nat.pow_mul,←Nat.pow_add,Nat.div_add_mod]
 rw[e,Nat.mul_mod,Nat.pow_mod (a^q),h,Nat.one_pow,h1,Nat.one_mul,Nat.mod_mod]
theorem Cj:∀q:Nat,q=2305843009213688669→4^q%4611686018427377339=1:=by
 intro q hq
 have h:=td
 rw[rR _ _ (by decide)]at h
 rw[←hq]at h
 have e:(((4^q%4611686018427377339:Nat)):Int)=1:=by
  rw[Int.natCast_emod,Int.natCast_pow]
  exact h
 omega
theorem uj(n:Nat):gP (n%2305843009213688669)=gP n:=by
 unfold gP
 obtain⟨q,hq⟩:∃q:Nat,q=2305843009213688669:=⟨_,rfl⟩
 rw[←hq,sP 4 4611686018427377339 q (by decide) (Cj q hq)]
theorem Dw(n:Nat)(h:n < 18446744073709551616):pw 4 n=gP n:=by
 rw[rR _ _ h]
 unfold gP
 rw[Int.natCast_emod,Int.natCast_pow]
 rfl
theorem Ap(k:Int)(h:0≤k):(k%2305843009213688669).toNat=k.toNat%2305843009213688669:=by omega
theorem qK(k:Int)(h:0≤k):gE k=gP k.toNat:=by
 show pw (tk 4) _=_
 rw[sq BR,Dw _ (by omega),Ap k h,uj]
theorem BI(n:Nat):gP n=gE n:=by rw[qK _ (by omega),Int.toNat_natCast]
theorem ru(n:Nat):lQ (gP n)=true:=by rw[BI];exact vI _
theorem xn(a b:Nat):ji (gP a) (gP b)=gP (a+b):=by
 unfold ji gP
 rw[←Int.natCast_mul,Nat.pow_add]
 have e:(4611686018427377339:Int)=((4611686018427377339:Nat):Int):=rfl
 rw[e,←Int.natCast_emod,←Nat.mul_mod]
theorem Aq(a:Nat)(c:Int)(h:0≤c):mh (gP a) c=gP (a*c.toNat):=by
 show pw (tk (gP a)) _=_
 rw[sq (ru a),rR _ _ (by omega),Ap c h]
 obtain⟨b,hb⟩:∃b:Nat,b=c.toNat:=⟨_,rfl⟩
 rw[←hb]
 obtain⟨d,hd⟩:∃d:Nat,d=b%2305843009213688669:=⟨_,rfl⟩
 have hx:gP (a*b)=gP (a*d):=by rw[←uj (a*b),←uj (a*d),Nat.mul_mod a b,Nat.mul_mod a d,hd,Nat.mod_mod]
 rw[hx,←hd]
 unfold gP
 have e:(4611686018427377339:Int)=((4611686018427377339:Nat):Int):=rfl
 rw[e,←Int.natCast_pow,←Int.natCast_emod,←Nat.pow_mod,←Nat.pow_mul]
theorem ye:gP 0=1:=by decide
theorem Dv{n:Nat}(h:0 < n)(hn:n < 2305843009213688669):gP n≠1:=by
 intro he
 unfold gP at he
 have he:4^n%4611686018427377339=1:=by omega
 obtain⟨q,hq⟩:∃q:Nat,q=2305843009213688669:=⟨_,rfl⟩
 have e:=yw 4 4611686018427377339 (by decide) n q he (Cj q hq)
 rw[yx (by rw[hq];exact En) h (by omega)]at e
 exact absurd e (by decide)
theorem B5(k:Int)(m:List Int)(h0:0 < k)(hq:k < 2305843009213688669):lf (gE k) m 1 (gX k m)=true:=by
 obtain⟨kn,hk⟩:∃kn:Nat,kn=k.toNat:=⟨_,rfl⟩
 have hb:gE k=gP kn:=by rw[hk];exact qK k (by omega)
 have hn:=rq (wO xv [fJ k,m])
 unfold gX AM
 rw[if_pos ⟨hq,by omega⟩]
 obtain⟨n,hne⟩:∃n,mX (wO xv [fJ k,m])=n:=⟨_,rfl⟩
 rw[hne]at hn ⊢
 unfold tR
 have hr:qI [gE n,1]=gP n.toNat:=by
  show ji (ji 1 (tk (gE n))) (tk 1)=_
  rw[sq (vI n),sq oU,vZ (kZ _ _),qK n (by omega),←ye,xn,Nat.zero_add]
 rw[hr,hb]
 have hc:=rb (gP n.toNat) (gP kn) m
 obtain⟨c,hce⟩:∃c,mr (gP n.toNat) (gP kn) m=c:=⟨_,rfl⟩
 rw[hce]at hc ⊢
 have ha:=xS n (uB c k)
 have h1:=hc.1
 have h2:=ha.1
 have h3:=ha.2
 unfold lf
 rw[if_neg (by
  intro h
  rcases h with h | h | h | h | h
  ·exact Dv (by omega) (by omega) h
  ·rw[ru]at h;cases h
  ·rw[oU]at h;cases h
  ·have h:lQ (gP n.toNat)=false:=h
   rw[ru]at h;cases h
  ·exact h h3)]
 have e:gE (w3 n (uB c k))=qI [gP n.toNat,mh (gP kn) c,v3 1]:=by
  show _=ji (ji (ji 1 (tk (gP n.toNat))) (tk (mh (gP kn) c))) (tk (v3 1))
  rw[BV,sq oU,vZ (kZ _ _),sq (ru _),Aq _ _ h1,sq (ru _)]
  rw[show(ji 1 (gP n.toNat))=gP n.toNat by rw[←ye,xn,Nat.zero_add]]
  rw[xn,qK _ h2]
  have hx:(w3 n (uB c k)).toNat=(n.toNat+kn*c.toNat)%2305843009213688669:=by
   unfold w3 uB AO
   have g1:c%2305843009213688669=c:=Int.emod_eq_of_lt h1 hc.2
   have g2:k%2305843009213688669=k:=Int.emod_eq_of_lt (by omega) hq
   have g3:n%2305843009213688669=n:=Int.emod_eq_of_lt (by omega) hn.2
   rw[g1,g2,g3,Int.emod_emod_of_dvd _ (Int.dvd_refl _)]
   have g4:((kn*c.toNat:Nat):Int)=c*k:=by
    rw[Int.natCast_mul,hk,Int.toNat_of_nonneg (by omega),Int.toNat_of_nonneg h1,Int.mul_comm]
   have g5:0≤c*k:=by rw[←g4];exact Int.natCast_nonneg _
   obtain⟨z,hz⟩:∃z,c*k=z:=⟨_,rfl⟩
   rw[hz]at g4 g5 ⊢
   obtain⟨zn,hzn⟩:∃zn,kn*c.toNat=zn:=⟨_,rfl⟩
   rw[hzn]at g4 ⊢
   omega
  rw[hx,uj]
 show decide (gE (w3 n (uB c k))=qI [gP n.toNat,mh (gP kn) (mr (gP n.toNat) (gP kn) m),v3 1])=true
 rw[hce]
 exact decide_eq_true e
set_option synthInstance.maxSize 5000
def um{α:Type}(p:α→Bool):List α→Int→Int⊕Unit
 |[],_=> .inr ()
 |x::xs,i=>if p x then .inl i else um p xs (i+1)
def BN{α:Type}(p:α→Bool)(l:List α):Int:=match um p l 0 with | .inl i=>i | .inr _=> -1
theorem vF{α:Type}(p:α→Bool):∀(l:List α) (i:Int),0≤i→(match um p l i with | .inl i=>decide (i≥0) | .inr _=>false)=l.any p
 |[],_,_=>rfl
 |x::l,i,h=>by
  rw[um,List.any_cons]
  cases hp:p x
  ·simp only[Bool.false_eq_true,if_false,Bool.false_or]
   exact vF p l (i+1) (by omega)
  ·simp[h]
theorem Av{α:Type}(p:α→Bool)(l:List α):mZ (BN p l) 0=l.any p:=by
 have:=vF p l 0 (by omega)
 unfold BN mZ
 cases h:um p l 0
 ·rw[h]at this;exact this
 ·rw[h]at this;rw[←this];rfl
def oO(k:Int):Bool:=decide (¬(k < 2305843009213688669∧k≠0))
def lq(t:eX)(i br:Int)(ks:List Int):Bool:=fH t && (decide (0≤i∧i < t.1.length∧0≤br∧br < 4∧ks.length≤12) && !(ks.any oO))
def A5(t:eX)(i br:Int)(ks:List Int)(sc:Int):eX×Int:=
 if lq t i br ks then((t.1.set i.toNat ((nth eH t.1 i.toNat).1,(br,ks.map (fun k=>gX k (tF t)),sc,()),()),t.2),0) else(([],[],0,()),1)
theorem Bg{t:eX}:Sm (tF t):=by
 unfold tF
 split
 ·exact uM _ _
 ·exact⟨by rw[List.length_replicate],fun x hx=>by obtain rfl:=(List.mem_replicate.1 hx).2;exact⟨by decide,by decide⟩⟩
abbrev dT.D:=Int
def dT.st:dT.D→SA:=fun kv=>([.d tu kv],[])
abbrev dT.Y:=Bool
abbrev dT.X:=Bool
def dT.out:dT.X→aY:=fun x=>⟨.d .bool x,[],[]⟩
def dT.add:dT.D→dT.Y→dT.X:=fun kv y=>y
def dT.aB:dT.D→Prop:=fun _=>True
def dT.F:dT.D→dT.Y:=fun k=>oO k
noncomputable def dT.G:dR:=eO (P:=Tryz.prog) [cC.sg]
noncomputable def dT.an:eu:= {}
noncomputable def dT.A:= @cI Tryz.prog dT.G dT.an 0 Tryz.f87 _ dT.st
abbrev dT.Ok:=cJ @dT.A dT.aB dT.add dT.F dT.out
theorem dT.eq{R:Type}(kv:Int)(k:aY→Option R):dT.A kv k=
  aJ ((nN kv (0:Int))) (
   k (dT.out true)) (
   aq (cC.call kv) fun x1=>
   k (dT.out (!x1))):=by kernel_rfl
theorem dT.ok:dT.Ok:=by
 intro(k:Int) _
 rw[dT.eq,cC.run (d:=k) trivial]
 simp only[dT.add,dT.F,oO,ab,cC.add,cC.F]
 by_cases h:k=0
 ·rw[dq h,az,aO (by omega)]
 ·rw[eL h,ay]
  by_cases h2:k < 2305843009213688669
  ·rw[bw h2,aK (by omega)];rfl
  ·rw[bm h2,aO (by omega)];rfl
noncomputable def dT.E:=Entry.ct [some tu] dT.st dT.aB dT.add dT.F dT.out
noncomputable def dT.call:dT.D→Option dT.X:=bG dT.E dT.st
theorem dT.run:bB dT.call dT.aB dT.add dT.F:=cO (cM [.d tu] fun _=>by kernel_rfl)
noncomputable def dT.sg:SG Tryz.prog:=⟨87,aU,dT.E,.fn 0 (by kernel_rfl) dT.ok trivial⟩
abbrev aV.L0.D:=Bs×Int×Int
def aV.L0.st:aV.L0.D→AS:=fun(sv_2,t7,t8)=>⟨([.d tU sv_2,.fn 87 (.nil)]++ba 5 ([.d ti t7,.d ti t8]++ba 10 [])),[],(List.replicate 19 [])⟩
abbrev aV.L0.Y0:=Int
abbrev aV.L0.X0:=Int
def aV.L0.bq:aV.L0.X0→Exit×AS:=fun x=>(.ret,⟨(ba 4 ([.d ti x]++ba 14 [])),[],(List.replicate 19 [])⟩)
abbrev aV.L0.Y1:=Unit
abbrev aV.L0.X1:=Unit
def aV.L0.eP:aV.L0.X1→Exit×AS:=fun x=>(.exit 0,⟨(ba 19 []),[],(List.replicate 19 [])⟩)
abbrev aV.L0.X:=(aV.L0.X0)⊕(aV.L0.X1)
abbrev aV.L0.Y:=(aV.L0.Y0)⊕(aV.L0.Y1)
def aV.L0.out:aV.L0.X→Out (Exit×AS):=fun x=> .br x.isLeft (.get x.getLeft? fun a=> .ok (aV.L0.bq a)) (.get x.getRight? fun b=> .ok (aV.L0.eP b))
def aV.L0.add:aV.L0.D→aV.L0.Y→aV.L0.X:=fun(sv_2,t7,t8) y=>match y with | .inl y=> .inl y | .inr z=> .inr (z)
abbrev aV.D:=Bs
def aV.st:aV.D→SA:=fun sv=>([.d tU sv,.fn 87 (.nil)],[])
abbrev aV.Y:=Int
abbrev aV.X:=Int
def aV.out:aV.X→aY:=fun x=>⟨.d ti x,[],[]⟩
def aV.add:aV.D→aV.Y→aV.X:=fun sv y=>y
def aV.L0.aB:aV.L0.D→Prop:=fun(l,n,i)=>(∀x∈l,True)∧l.length≤1000000000∧n=l.length∧∃k:Nat,k≤l.length∧i=k
def aV.L0.F:aV.L0.D→aV.L0.Y:=fun(l,n,i)=>um oO (l.drop i.toNat) i
def aV.aB:aV.D→Prop:=fun l=>(∀x∈l,True)∧l.length≤1000000000
def aV.F:aV.D→aV.Y:=fun l=>BN oO l
noncomputable def aV.G:dR:=eO (P:=Tryz.prog) [dT.sg]
noncomputable def aV.L0.E:=bM.ct aV.L0.st aV.L0.aB aV.L0.add aV.L0.F aV.L0.out
noncomputable def aV.L0.call:aV.L0.D→Option aV.L0.X:=dg aV.L0.E aV.L0.st
noncomputable def aV.an:eu:= {loops:=jO [(2,{bh:=[0,1,7,8]})],outs:=jN [(2,{},{bh:=[4]})],fF:=ky [(2,aV.L0.E)]}
noncomputable def aV.A:= @cI Tryz.prog aV.G aV.an 0 Tryz.f127 _ aV.st
abbrev aV.Ok:=cJ @aV.A aV.aB aV.add aV.F aV.out
noncomputable def aV.L0.R:= @cf Tryz.prog aV.G aV.an 0 Tryz.f127 0 _ aV.L0.st
abbrev aV.L0.Ok:=ez Tryz.prog aV.G aV.an 0 Tryz.f127 0 aV.L0.st aV.L0.aB aV.L0.add aV.L0.F aV.L0.out
theorem aV.L0.run:bB aV.L0.call aV.L0.aB aV.L0.add aV.L0.F:=eE (eD [.d tU,.d ti,.d ti] fun _=>by kernel_rfl)
theorem aV.L0.aH:jl @aV.L0.R aV.L0.st aV.L0.aB aV.L0.add aV.L0.F aV.L0.out aV.L0.Ok:=jL
theorem aV.L0.step{R:Type}(sv_2:Bs)(t7:Int)(t8:Int)(kn:AS→Option R)(kx:Exit→AS→Option R):aV.L0.R (sv_2,t7,t8) kn kx=
  aJ ((fY t8 t7)) (
   aJ (eh t8 (((List.length sv_2):Nat):Int)) (
   aq (dT.call (nth tu sv_2 (Int.toNat t8))) fun x1=>
   aJ (x1) (
    kx (aV.L0.bq t8).1 (aV.L0.bq t8).2) (
    kn (aV.L0.st (sv_2,t7,(bK .i64 t8 (1:Int)))))) none) (
   kx (aV.L0.eP ()).1 (aV.L0.eP ()).2):=by kernel_rfl
theorem aV.eq{R:Type}(sv:Bs)(k:aY→Option R):aV.A sv k=
  aq (aV.L0.call (sv,(((List.length sv):Nat):Int),(0:Int))) fun x2=>
  aJ (x2.isLeft) (
   aq (x2.getLeft?) fun a3=>
   k (aV.out a3)) (
   aq (x2.getRight?) fun b4=>
   k (aV.out (-1:Int))):=by kernel_rfl
theorem aV.L0.ok:aV.L0.Ok:=by
 refine aV.L0.aH (fun(l,n,i)=>l.length - i.toNat) ?_
 rintro⟨l,n,i⟩ ⟨hl,hb,rfl,k,hk,rfl⟩
 have hb:l.length≤1000000000:=hb
 have hk:k≤l.length:=hk
 by_cases h:k < l.length
 ·have hx:=hl _ (List.getElem_mem h)
  have n1:nth tu l k=l[k]:=cw (t:=tu) h
  have hd:um oO (l.drop k) k=if oO l[k] then .inl (k:Int) else um oO (l.drop (k+1)) ((k+1:Nat):Int):=by rw[List.drop_eq_getElem_cons h];rfl
  have step:∀ {R:Type} (kn:AS→Option R) (kx:Exit→AS→Option R),aV.L0.R (l,(l.length:Int),(k:Int)) kn kx=aJ (oO l[k]) (kx (aV.L0.bq (k:Int)).1 (aV.L0.bq (k:Int)).2) (kn (aV.L0.st (l,(l.length:Int),((k+1:Nat):Int)))):=by
   intro R kn kx
   rw[aV.L0.step,bw (by omega),bn (by omega) (by omega),Int.toNat_natCast,n1,dT.run (d:=l[k]) hx,N.kA (by omega)]
   rfl
  cases hp:oO l[k]
  ·left
   refine⟨(l,l.length,((k+1:Nat):Int)),⟨hl,hb,rfl,k+1,by omega,rfl⟩,by simp only[Int.toNat_natCast];omega,?_,fun kn kx=> ?_⟩
   ·simp only[aV.L0.add,aV.L0.F,Int.toNat_natCast,hd,hp,Bool.false_eq_true,if_false]
   ·rw[step,hp,ay]
  ·right
   refine⟨aV.L0.bq (k:Int),?_,fun kn kx=> ?_⟩
   ·simp only[aV.L0.add,aV.L0.F,Int.toNat_natCast,hd,hp,if_true]
    rfl
   ·rw[step,hp,az]
 ·right
  obtain rfl:k=l.length:=by omega
  refine⟨aV.L0.eP (),?_,fun kn kx=> ?_⟩
  ·simp only[aV.L0.add,aV.L0.F,Int.toNat_natCast,List.drop_length]
   rfl
  ·rw[aV.L0.step,bm (by omega),ay]
theorem aV.ok:aV.Ok:=by
 rintro l ⟨hl,hb⟩
 rw[aV.eq,aV.L0.run (d:=(l,l.length,0)) ⟨hl,hb,rfl,0,by omega,rfl⟩]
 simp only[ab,aV.L0.add,aV.L0.F,Int.toNat_zero,List.drop_zero,aV.add,aV.F,BN]
 cases um oO l 0 <;> rfl
noncomputable def aV.E:=Entry.ct [some tU,none] aV.st aV.aB aV.add aV.F aV.out
noncomputable def aV.call:aV.D→Option aV.X:=bG aV.E aV.st
theorem aV.run:bB aV.call aV.aB aV.add aV.F:=cO (cM [.d tU] fun _=>by kernel_rfl)
noncomputable def aV.sg:SG Tryz.prog:=⟨127,aU,aV.E,.fn 1 (by kernel_rfl) aV.ok (And.intro (.ct aV.L0.ok (by kernel_rfl)) trivial)⟩
abbrev bD.D:=Bs
def bD.st:bD.D→SA:=fun sv=>([.d tU sv,.fn 87 (.nil)],[])
abbrev bD.Y:=Bool
abbrev bD.X:=Bool
def bD.out:bD.X→aY:=fun x=>⟨.d .bool x,[],[]⟩
def bD.add:bD.D→bD.Y→bD.X:=fun sv y=>y
def bD.aB:bD.D→Prop:=fun l=>(∀x∈l,True)∧l.length≤1000000000
def bD.F:bD.D→bD.Y:=fun l=>l.any oO
noncomputable def bD.G:dR:=eO (P:=Tryz.prog) [aV.sg]
noncomputable def bD.an:eu:= {}
noncomputable def bD.A:= @cI Tryz.prog bD.G bD.an 0 Tryz.f90 _ bD.st
abbrev bD.Ok:=cJ @bD.A bD.aB bD.add bD.F bD.out
theorem bD.eq{R:Type}(sv:Bs)(k:aY→Option R):bD.A sv k=
 aq (aV.call sv) fun x1=>
 k (bD.out (mZ x1 (0:Int))):=by kernel_rfl
theorem bD.ok:bD.Ok:=by
 rintro l ⟨hl,hb⟩
 rw[bD.eq,aV.run (d:=l) ⟨hl,hb⟩]
 simp only[ab,aV.add,aV.F,Av]
 rfl
noncomputable def bD.E:=Entry.ct [some tU,none] bD.st bD.aB bD.add bD.F bD.out
noncomputable def bD.call:bD.D→Option bD.X:=bG bD.E bD.st
theorem bD.run:bB bD.call bD.aB bD.add bD.F:=cO (cM [.d tU] fun _=>by kernel_rfl)
noncomputable def bD.sg:SG Tryz.prog:=⟨90,aU,bD.E,.fn 0 (by kernel_rfl) bD.ok trivial⟩
abbrev bo.L0.D:=Int×Bs×Int×Int×eX×(Int×Unit)×Int×Nat×(Int×Unit)×Bs×(List Sg)
def bo.L0.st:bo.L0.D→AS:=fun(inv_2,t52,t53,t54,n5,n10,n13,n13L,n13_2,n14,n64)=>⟨([.undef,.d ti inv_2,.undef,.undef,.undef,.ptr (.new 5 0) 0 [] 0]++ba 4 ([.ptr (.new 10 0) 0 [] 0,.undef,.undef,.ptr (.new 13 0) 0 [] 0,.ptr (.new 14 0) 0 [] 0]++ba 37 ([.d tU t52,.d ti t53,.d ti t54]++ba 21 []))),[],(bN 5 ([[.obj 0 false (.d gb n5)]]++bN 4 ([[.obj 0 false (.pr (.cU) (.pr (.cU) (.d (.pair ti .unit) n10)))],[],[],[.obj 0 false (.pr (.d ti n13) (.pr (.cd (.new 64 0) 0 [] 0 0 n13L) (.d (.pair tu .unit) n13_2)))],[.obj 0 false (.d tH n14)]]++bN 49 ([[.obj 0 false (.vec 60 jg n64)]]++bN 11 []))))⟩
abbrev bo.L0.Y0:=mE×(List Sg)
abbrev bo.L0.X0:=(Int×eX×(Int×Unit))×(mE×(List Sg))
def bo.L0.bq:bo.L0.X0→Exit×AS:=fun x=>(.exit 0,⟨([.undef,.d ti x.1.1,.undef,.undef,.undef,.ptr (.new 5 0) 0 [] 0]++ba 4 ([.ptr (.new 10 0) 0 [] 0,.undef,.undef,.ptr (.new 13 0) 0 [] 0]++ba 62 [])),[],(bN 5 ([[.obj 0 false (.d gb x.1.2.1)]]++bN 4 ([[.obj 0 false (.pr (.cU) (.pr (.cU) (.d (.pair ti .unit) x.1.2.2)))],[],[],[.obj 0 false (.d sC x.2.1)]]++bN 50 ([[.obj 0 true (.vec 60 jg x.2.2)]]++bN 11 []))))⟩)
abbrev bo.L0.X:=bo.L0.X0
abbrev bo.L0.Y:=bo.L0.Y0
def bo.L0.out:bo.L0.X→Out (Exit×AS):=fun x=> .ok (bo.L0.bq x)
def bo.L0.add:bo.L0.D→bo.L0.Y→bo.L0.X:=fun(inv_2,t52,t53,t54,n5,n10,n13,n13L,n13_2,n14,n64) y=>((inv_2,n5,n10),y)
abbrev bo.D:=eX×Int×Int×Bs×Int
def bo.st:bo.D→SA:=fun(t,inv,branch,keys,secret)=>([.d gb t,.d ti inv,.d ti branch,.d tU keys,.d tu secret],[])
abbrev bo.Y:=eX×Int
abbrev bo.X:=eX×Int
def bo.out:bo.X→aY:=fun x=>⟨.cons (.d gb x.1) (.cons (.d ti x.2) (.nil)),[],[]⟩
def bo.add:bo.D→bo.Y→bo.X:=fun(t,inv,branch,keys,secret) y=>y
def bo.L0.aB:bo.L0.D→Prop:=fun(i0,l,n,i,t,e,br,L,sc,id,r)=>l.length≤1000∧(∀x∈l,ia x)∧Sm id∧∃k:Nat,k≤l.length∧i=k∧n=l.length∧L=r.length∧r.length≤1000+k
def bo.L0.F:bo.L0.D→bo.L0.Y:=fun(i0,l,n,i,t,e,br,L,sc,id,r)=>((br,r++(l.drop i.toNat).map (fun k=>gX k id),sc),r++(l.drop i.toNat).map (fun k=>gX k id))
def bo.aB:bo.D→Prop:=fun(t,i,br,ks,sc)=>qJ t∧(∀x∈ks,ia x)∧ks.length≤1000000000
def bo.F:bo.D→bo.Y:=fun(t,i,br,ks,sc)=>A5 t i br ks sc
noncomputable def bo.G:dR:=eO (P:=Tryz.prog) [ak.sg,eQ.sg,bD.sg,tid.sg,dz.sg,ag.sg]
noncomputable def bo.L0.E:=bM.ct bo.L0.st bo.L0.aB bo.L0.add bo.L0.F bo.L0.out
noncomputable def bo.L0.call:bo.L0.D→Option bo.L0.X:=dg bo.L0.E bo.L0.st
noncomputable def bo.an:eu:= {bH:=[5],loops:=jO [(7,{bh:=[1,5,10,13,14,52,53,54],sites:=[5,10,13,14,64],iu:=[⟨13,[.snd,.fst],64,51⟩]})],outs:=jN [(7,{bh:=[1,5,10,13],sites:=[5,10,13,64],sG:=[⟨13,[.snd,.fst],(.slice jg)⟩]},{bh:=[10,11]})],fF:=ky [(7,bo.L0.E)],res:=[some gb,none]}
noncomputable def bo.A:= @cI Tryz.prog bo.G bo.an 0 Tryz.f26 _ bo.st
abbrev bo.Ok:=cJ @bo.A bo.aB bo.add bo.F bo.out
noncomputable def bo.L0.R:= @cf Tryz.prog bo.G bo.an 0 Tryz.f26 0 _ bo.L0.st
abbrev bo.L0.Ok:=ez Tryz.prog bo.G bo.an 0 Tryz.f26 0 bo.L0.st bo.L0.aB bo.L0.add bo.L0.F bo.L0.out
theorem bo.L0.run:bB bo.L0.call bo.L0.aB bo.L0.add bo.L0.F:=eE (eD [.d ti,.d tU,.d ti,.d ti,.d gb,.d (.pair ti .unit),.d ti,.n,.d (.pair tu .unit),.d tB,.d (.slice jg)] fun _=>by kernel_rfl)
theorem bo.L0.aH:fP @bo.L0.R bo.L0.st bo.L0.aB bo.L0.add bo.L0.F bo.L0.bq bo.L0.Ok:=fS
theorem bo.L0.step{R:Type}(inv_2:Int)(t52:Bs)(t53:Int)(t54:Int)(n5:eX)(n10:(Int×Unit))(n13:Int)(n13L:Nat)(n13_2:(Int×Unit))(n14:Bs)(n64:(List Sg))(kn:AS→Option R)(kx:Exit→AS→Option R):bo.L0.R (inv_2,t52,t53,t54,n5,n10,n13,n13L,n13_2,n14,n64) kn kx=
  aJ ((fY t54 t53)) (
   aJ (eh t54 (((List.length t52):Nat):Int)) (
   aq (dz.call ((nth tu t52 (Int.toNat t54)),n14)) fun x4=>
   aJ (decide (n13L≤(List.length n64))) (
   aJ (dh (n13L+1) 16) (
   kn (bo.L0.st (inv_2,t52,t53,(bK .i64 t54 (1:Int)),n5,n10,n13,(n13L+1),n13_2,n14,((List.take n13L n64)++ [x4])))) none) none) none) (
   aJ (decide (0=0∧(0+n13L)≤(List.length n64))) (
   kx (bo.L0.bq ((inv_2,n5,n10),((n13,((cut n64 0 n13L),n13_2)),n64))).1 (bo.L0.bq ((inv_2,n5,n10),((n13,((cut n64 0 n13L),n13_2)),n64))).2) none):=by kernel_rfl
theorem bo.eq{R:Type}(t:eX)(inv:Int)(branch:Int)(keys:Bs)(secret:Int)(k:aY→Option R):bo.A (t,inv,branch,keys,secret) k=
  aq (ak.call t) fun x10=>
  aJ ((!x10)) (
   k (bo.out ((([]:List ff),(([]:List fM),((0:Int),()))),(1:Int)))) (
   aJ ((fY inv (0:Int))) (
    k (bo.out ((([]:List ff),(([]:List fM),((0:Int),()))),(1:Int)))) (
    aJ ((mZ inv (((List.length t.1):Nat):Int))) (
     k (bo.out ((([]:List ff),(([]:List fM),((0:Int),()))),(1:Int)))) (
     aq (eQ.call (branch,(([]:List Sg),(secret,())))) fun x11=>
     aJ ((!x11)) (
      k (bo.out ((([]:List ff),(([]:List fM),((0:Int),()))),(1:Int)))) (
      aJ ((mG (((List.length keys):Nat):Int) (12:Int))) (
       k (bo.out ((([]:List ff),(([]:List fM),((0:Int),()))),(1:Int)))) (
       aq (bD.call keys) fun x12=>
       aJ (x12) (
        k (bo.out ((([]:List ff),(([]:List fM),((0:Int),()))),(1:Int)))) (
        aq (tid.call t) fun x16=>
        aq (bo.L0.call (inv,keys,(((List.length keys):Nat):Int),(0:Int),t,((0:Int),()),branch,0,(secret,()),x16,([]:List Sg))) fun x26=>
        aq (ag.call x26.1.2.1) fun x30=>
        aJ (eh x26.1.1 ((x30.1:Nat):Int)) (
        aJ (decide ((0+(Int.toNat x26.1.1)) < (List.length x30.2.2))) (
        aJ (decide ((((0+(Int.toNat x26.1.1))*36)+33)=((0+((Int.toNat x26.1.1)*36))+33))) (
        aJ (decide ((0+(Int.toNat x26.1.1)) < (List.length x30.2.2))) (
        aJ (decide (0=0∧(0+x30.1)≤(List.length (List.set x30.2.2 (0+(Int.toNat x26.1.1)) ((nth eH x30.2.2 (0+(Int.toNat x26.1.1))).1,(x26.2.1,(nth eH x30.2.2 (0+(Int.toNat x26.1.1))).2.2)))))) (
        k (bo.out (((cut (List.set x30.2.2 (0+(Int.toNat x26.1.1)) ((nth eH x30.2.2 (0+(Int.toNat x26.1.1))).1,(x26.2.1,(nth eH x30.2.2 (0+(Int.toNat x26.1.1))).2.2))) 0 x30.1),x30.2.1),(0:Int)))) none) none) none) none) none)))))):=by kernel_rfl
theorem bo.L0.ok:bo.L0.Ok:=by
 refine bo.L0.aH (fun(i0,l,n,i,t,e,br,L,sc,id,r)=>l.length - i.toNat) ?_
 rintro⟨i0,l,n,i,t,e,br,L,sc,id,r⟩ ⟨hlen,hu,hm,k,hk,rfl,rfl,rfl,hr⟩
 have hlen:l.length≤1000:=hlen
 have hk:k≤l.length:=hk
 have hr:r.length≤1000+k:=hr
 by_cases h:k < l.length
 ·left
  have n1:nth tu l k=l[k]:=cw (t:=tu) h
  have hd:List.drop k l=l[k]::List.drop (k+1) l:=List.drop_eq_getElem_cons h
  refine⟨(i0,l,l.length,((k+1:Nat):Int),t,e,br,r.length+1,sc,id,r++ [gX l[k] id]),⟨hlen,hu,hm,k+1,by omega,rfl,rfl,by rw[List.length_append];rfl,by rw[List.length_append];show r.length+1≤_;omega⟩,by simp only[Int.toNat_natCast];omega,?_,fun kn kx=> ?_⟩
  ·simp only[bo.L0.add,bo.L0.F,Int.toNat_natCast,hd,List.map_cons,List.append_assoc,List.singleton_append]
  ·rw[bo.L0.step,bw (by omega),bn (by omega) (by omega),Int.toNat_natCast,n1,dz.run (d:=(l[k],id)) ⟨hu _ (List.getElem_mem h),hm⟩]
   simp only[az,ab,dz.add,dz.F]
   rw[aO (Nat.le_refl _),eB (by omega) (by omega),N.kA (by omega),List.take_length]
   rfl
 ·right
  obtain rfl:k=l.length:=by omega
  intro R kn kx
  rw[bo.L0.step,bm (by omega),ay]
  simp only[bo.L0.add,bo.L0.F,Int.toNat_natCast,List.drop_length,List.map_nil,List.append_nil,Nat.zero_add,Nat.le_refl,and_self,decide_true,az,fa]
theorem bo.ok:bo.Ok:=by
 rintro⟨⟨is,os,nt,u⟩,i,br,ks,sc⟩ ⟨hv,hu,hl⟩
 have hv:qJ (is,os,nt,u):=hv
 have hl:ks.length≤1000000000:=hl
 rw[bo.eq,ak.run (d:=(is,os,nt,u)) hv.1]
 simp only[ab,ak.add,ak.F,bo.add,bo.F,A5,lq]
 rcases Bool.eq_false_or_eq_true (fH (is,os,nt,u)) with hok | hok
 rotate_left
 ·simp only[hok];rfl
 obtain⟨⟨_,a2,a3,_⟩,b1,b2⟩:=jw hok
 have a2:is.length≤64:=a2
 simp only[hok,Bool.not_true,ay,Bool.true_and]
 by_cases h1:i < 0
 ·rw[bw h1,az,aK (by omega)];rfl
 rw[bm h1,ay]
 by_cases h2:i≥(is.length:Int)
 ·rw[fU h2,az,aK (by omega)];rfl
 rw[eM h2,ay,eQ.run (d:=(br,([],(sc,())))) trivial]
 simp only[ab,eQ.add,eQ.F,mB]
 by_cases h3:0≤br∧br < 4
 ·rw[aO h3]
  by_cases h4:ks.length > 12
  ·rw[dQ (by omega),aK (p:=0≤i∧i < (is.length:Int)∧0≤br∧br < 4∧ks.length≤12) (by omega)];rfl
  ·rw[dE (by omega),aO (p:=0≤i∧i < (is.length:Int)∧0≤br∧br < 4∧ks.length≤12) (by omega),bD.run (d:=ks) ⟨fun _ _=>trivial,hl⟩]
   simp only[ab,bD.add,bD.F]
   rcases Bool.eq_false_or_eq_true (ks.any oO) with hb | hb
   rotate_left
   ·simp only[hb]
    obtain⟨k,rfl⟩:∃k:Nat,i=k:=⟨i.toNat,by omega⟩
    have hk:k < is.length:=by omega
    simp only[show(([]:List Sg).length≤12)=True from eq_true (Nat.zero_le _),decide_true,Bool.and_self,Bool.not_true,Bool.not_false,ay,Bool.true_and,if_true]
    rw[tid.run (d:=(is,os,nt,u)) hv]
    simp only[ab,tid.add,tid.F]
    rw[bo.L0.run (d:=((k:Int),ks,ks.length,0,(is,os,nt,u),(0,()),br,0,(sc,()),tF (is,os,nt,u),[])) ⟨by show ks.length≤_;omega,hu,Bg,0,Nat.zero_le _,rfl,rfl,rfl,Nat.zero_le _⟩]
    simp only[ab,bo.L0.add,bo.L0.F,Int.toNat_zero,List.drop_zero,List.nil_append]
    rw[ag.run (d:=(is,os,nt,u)) hok]
    simp only[ab,ag.add,ag.F,Int.toNat_natCast,Nat.zero_add,Nat.add_zero,bn (show(0:Int)≤(k:Int) by omega) (show(k:Int) < (is.length:Int) by omega),az,aO hk,decide_true,List.length_set,Nat.le_refl,and_self]
    rw[fa (by rw[List.length_set])]
   ·simp only[hb];rfl
 ·rw[aK h3,aK (p:=0≤i∧i < (is.length:Int)∧0≤br∧br < 4∧ks.length≤12) (by omega)];rfl
noncomputable def bo.E:=Entry.ct [some gb,some ti,some ti,some tU,some tu] bo.st bo.aB bo.add bo.F bo.out
noncomputable def bo.call:bo.D→Option bo.X:=bG bo.E bo.st
theorem bo.run:bB bo.call bo.aB bo.add bo.F:=cO (cM [.d gb,.d ti,.d ti,.d tU,.d tu] fun _=>by kernel_rfl)
noncomputable def bo.sg:SG Tryz.prog:=⟨26,aU,bo.E,.fn 1 (by kernel_rfl) bo.ok (And.intro (.ct bo.L0.ok (by kernel_rfl)) trivial)⟩
set_option synthInstance.maxSize 5000
abbrev bQ.L0.D:=Bs×Bs×Int×Int
def bQ.L0.st:bQ.L0.D→AS:=fun(s1_2,s2_2,t12,t13)=>⟨([.d tB s1_2,.d tB s2_2]++ba 10 ([.d ti t12,.d ti t13]++ba 12 [])),[],(List.replicate 26 [])⟩
abbrev bQ.L0.Y0:=Unit
abbrev bQ.L0.X0:=Unit
def bQ.L0.bq:bQ.L0.X0→Exit×AS:=fun x=>(.ret,⟨(ba 4 ([.d .bool false]++ba 21 [])),[],(List.replicate 26 [])⟩)
abbrev bQ.L0.Y1:=Unit
abbrev bQ.L0.X1:=Unit
def bQ.L0.eP:bQ.L0.X1→Exit×AS:=fun x=>(.exit 0,⟨(ba 26 []),[],(List.replicate 26 [])⟩)
abbrev bQ.L0.X:=(bQ.L0.X0)⊕(bQ.L0.X1)
abbrev bQ.L0.Y:=(bQ.L0.Y0)⊕(bQ.L0.Y1)
def bQ.L0.out:bQ.L0.X→Out (Exit×AS):=fun x=> .br x.isLeft (.get x.getLeft? fun a=> .ok (bQ.L0.bq a)) (.get x.getRight? fun b=> .ok (bQ.L0.eP b))
def bQ.L0.add:bQ.L0.D→bQ.L0.Y→bQ.L0.X:=fun(s1_2,s2_2,t12,t13) y=>match y with | .inl y=> .inl y | .inr z=> .inr (z)
abbrev bQ.D:=Bs×Bs
def bQ.st:bQ.D→SA:=fun(s1,s2)=>([.d tB s1,.d tB s2],[])
abbrev bQ.Y:=Bool
abbrev bQ.X:=Bool
def bQ.out:bQ.X→aY:=fun x=>⟨.d .bool x,[],[]⟩
def bQ.add:bQ.D→bQ.Y→bQ.X:=fun(s1,s2) y=>y
def bQ.L0.aB:bQ.L0.D→Prop:=fun(a,b,m,i)=>a.length≤1000000000∧a.length=b.length∧m=a.length∧∃k:Nat,k≤a.length∧i=k
def bQ.L0.F:bQ.L0.D→bQ.L0.Y:=fun(a,b,m,i)=>if a.drop i.toNat=b.drop i.toNat then .inr () else .inl ()
def bQ.aB:bQ.D→Prop:=fun(a,b)=>a.length≤1000000000
def bQ.F:bQ.D→bQ.Y:=fun(a,b)=>decide (a=b)
noncomputable def bQ.G:dR:=eO (P:=Tryz.prog) []
noncomputable def bQ.L0.E:=bM.ct bQ.L0.st bQ.L0.aB bQ.L0.add bQ.L0.F bQ.L0.out
noncomputable def bQ.L0.call:bQ.L0.D→Option bQ.L0.X:=dg bQ.L0.E bQ.L0.st
noncomputable def bQ.an:eu:= {loops:=jO [(4,{bh:=[0,1,12,13]})],outs:=jN [(4,{},{bh:=[4]})],fF:=ky [(4,bQ.L0.E)]}
noncomputable def bQ.A:= @cI Tryz.prog bQ.G bQ.an 0 Tryz.f58 _ bQ.st
abbrev bQ.Ok:=cJ @bQ.A bQ.aB bQ.add bQ.F bQ.out
noncomputable def bQ.L0.R:= @cf Tryz.prog bQ.G bQ.an 0 Tryz.f58 0 _ bQ.L0.st
abbrev bQ.L0.Ok:=ez Tryz.prog bQ.G bQ.an 0 Tryz.f58 0 bQ.L0.st bQ.L0.aB bQ.L0.add bQ.L0.F bQ.L0.out
theorem bQ.L0.run:bB bQ.L0.call bQ.L0.aB bQ.L0.add bQ.L0.F:=eE (eD [.d tB,.d tB,.d ti,.d ti] fun _=>by kernel_rfl)
theorem bQ.L0.aH:jl @bQ.L0.R bQ.L0.st bQ.L0.aB bQ.L0.add bQ.L0.F bQ.L0.out bQ.L0.Ok:=jL
theorem bQ.L0.step{R:Type}(s1_2:Bs)(s2_2:Bs)(t12:Int)(t13:Int)(kn:AS→Option R)(kx:Exit→AS→Option R):bQ.L0.R (s1_2,s2_2,t12,t13) kn kx=
  aJ ((fY t13 t12)) (
   aJ (eh t13 (((List.length s1_2):Nat):Int)) (
   aJ (eh t13 (((List.length s2_2):Nat):Int)) (
   aJ ((ku (nth tb s1_2 (Int.toNat t13)) (nth tb s2_2 (Int.toNat t13)))) (
    kx (bQ.L0.bq ()).1 (bQ.L0.bq ()).2) (
    kn (bQ.L0.st (s1_2,s2_2,t12,(bK .i64 t13 (1:Int)))))) none) none) (
   kx (bQ.L0.eP ()).1 (bQ.L0.eP ()).2):=by kernel_rfl
theorem bQ.eq{R:Type}(s1:Bs)(s2:Bs)(k:aY→Option R):bQ.A (s1,s2) k=
  aJ ((ku (((List.length s1):Nat):Int) (((List.length s2):Nat):Int))) (
   k (bQ.out false)) (
   aq (bQ.L0.call (s1,s2,(((List.length s1):Nat):Int),(0:Int))) fun x1=>
   aJ (x1.isLeft) (
    aq (x1.getLeft?) fun a2=>
    k (bQ.out false)) (
    aq (x1.getRight?) fun b3=>
    k (bQ.out true))):=by kernel_rfl
theorem bQ.L0.ok:bQ.L0.Ok:=by
 refine bQ.L0.aH (fun(a,b,m,i)=>a.length - i.toNat) ?_
 rintro⟨a,b,m,i⟩ ⟨hl,hab,rfl,k,hk,rfl⟩
 have hl:a.length≤1000000000:=hl
 have hab:a.length=b.length:=hab
 have hk:k≤a.length:=hk
 by_cases h:k < a.length
 ·have h2:k < b.length:=by omega
  have n1:nth (.int .u8) a k=a[k]:=cw (t:=(.int .u8)) h
  have n2:nth (.int .u8) b k=b[k]:=cw (t:=(.int .u8)) h2
  have hd:(a.drop k=b.drop k)=(a[k]=b[k]∧a.drop (k+1)=b.drop (k+1)):=by rw[List.drop_eq_getElem_cons h,List.drop_eq_getElem_cons h2,List.cons.injEq]
  have step:∀ {R:Type} (kn:AS→Option R) (kx:Exit→AS→Option R),bQ.L0.R (a,b,(a.length:Int),(k:Int)) kn kx=if a[k]=b[k] then kn (bQ.L0.st (a,b,(a.length:Int),((k+1:Nat):Int))) else kx (bQ.L0.bq ()).1 (bQ.L0.bq ()).2:=by
   intro R kn kx
   rw[bQ.L0.step,bw (by omega),bn (by omega) (by omega),bn (by omega) (by omega),Int.toNat_natCast,n1,n2,N.kA (by omega)]
   simp only[az]
   by_cases hx:a[k]=b[k]
   ·rw[bT hx,if_pos hx];rfl
   ·rw[dB hx,if_neg hx];rfl
  by_cases hx:a[k]=b[k]
  ·left
   refine⟨(a,b,(a.length:Int),((k+1:Nat):Int)),⟨hl,hab,rfl,k+1,by omega,rfl⟩,by simp only[Int.toNat_natCast];omega,?_,fun kn kx=> ?_⟩
   ·simp only[bQ.L0.add,bQ.L0.F,Int.toNat_natCast,hd,hx,true_and]
   ·rw[step,if_pos hx]
  ·right
   refine⟨bQ.L0.bq (),?_,fun kn kx=> ?_⟩
   ·simp only[bQ.L0.add,bQ.L0.F,Int.toNat_natCast,hd,hx,false_and,if_false]
    rfl
   ·rw[step,if_neg hx]
 ·right
  obtain rfl:k=a.length:=by omega
  refine⟨bQ.L0.eP (),?_,fun kn kx=> ?_⟩
  ·simp only[bQ.L0.add,bQ.L0.F,Int.toNat_natCast,List.drop_length]
   rw[hab,List.drop_length,if_pos rfl]
   rfl
  ·rw[bQ.L0.step,bm (by omega),ay]
theorem bQ.ok:bQ.Ok:=by
 rintro⟨a,b⟩ hl
 have hl:a.length≤1000000000:=hl
 rw[bQ.eq]
 simp only[bQ.add,bQ.F]
 by_cases h:a.length=b.length
 ·rw[bT (by omega),ay,bQ.L0.run (d:=(a,b,(a.length:Int),0)) ⟨hl,h,rfl,0,Nat.zero_le _,rfl⟩]
  simp only[ab,bQ.L0.add,bQ.L0.F,Int.toNat_zero,List.drop_zero]
  by_cases hx:a=b
  ·rw[if_pos hx,aO hx];rfl
  ·rw[if_neg hx,aK hx];rfl
 ·rw[dB (by omega),aK (fun x=>h (by rw[x]))];rfl
noncomputable def bQ.E:=Entry.ct [some tB,some tB] bQ.st bQ.aB bQ.add bQ.F bQ.out
noncomputable def bQ.call:bQ.D→Option bQ.X:=bG bQ.E bQ.st
theorem bQ.run:bB bQ.call bQ.aB bQ.add bQ.F:=cO (cM [.d tB,.d tB] fun _=>by kernel_rfl)
noncomputable def bQ.sg:SG Tryz.prog:=⟨58,aU,bQ.E,.fn 1 (by kernel_rfl) bQ.ok (And.intro (.ct bQ.L0.ok (by kernel_rfl)) trivial)⟩
abbrev ee.L0.D:=Bs×Bs×Int×Int
def ee.L0.st:ee.L0.D→AS:=fun(s1_2,s2_2,t12,t13)=>⟨([.d tU s1_2,.d tU s2_2]++ba 10 ([.d ti t12,.d ti t13]++ba 12 [])),[],(List.replicate 26 [])⟩
abbrev ee.L0.Y0:=Unit
abbrev ee.L0.X0:=Unit
def ee.L0.bq:ee.L0.X0→Exit×AS:=fun x=>(.ret,⟨(ba 4 ([.d .bool false]++ba 21 [])),[],(List.replicate 26 [])⟩)
abbrev ee.L0.Y1:=Unit
abbrev ee.L0.X1:=Unit
def ee.L0.eP:ee.L0.X1→Exit×AS:=fun x=>(.exit 0,⟨(ba 26 []),[],(List.replicate 26 [])⟩)
abbrev ee.L0.X:=(ee.L0.X0)⊕(ee.L0.X1)
abbrev ee.L0.Y:=(ee.L0.Y0)⊕(ee.L0.Y1)
def ee.L0.out:ee.L0.X→Out (Exit×AS):=fun x=> .br x.isLeft (.get x.getLeft? fun a=> .ok (ee.L0.bq a)) (.get x.getRight? fun b=> .ok (ee.L0.eP b))
def ee.L0.add:ee.L0.D→ee.L0.Y→ee.L0.X:=fun(s1_2,s2_2,t12,t13) y=>match y with | .inl y=> .inl y | .inr z=> .inr (z)
abbrev ee.D:=Bs×Bs
def ee.st:ee.D→SA:=fun(s1,s2)=>([.d tU s1,.d tU s2],[])
abbrev ee.Y:=Bool
abbrev ee.X:=Bool
def ee.out:ee.X→aY:=fun x=>⟨.d .bool x,[],[]⟩
def ee.add:ee.D→ee.Y→ee.X:=fun(s1,s2) y=>y
def ee.L0.aB:ee.L0.D→Prop:=fun(a,b,m,i)=>a.length≤1000000000∧a.length=b.length∧m=a.length∧∃k:Nat,k≤a.length∧i=k
def ee.L0.F:ee.L0.D→ee.L0.Y:=fun(a,b,m,i)=>if a.drop i.toNat=b.drop i.toNat then .inr () else .inl ()
def ee.aB:ee.D→Prop:=fun(a,b)=>a.length≤1000000000
def ee.F:ee.D→ee.Y:=fun(a,b)=>decide (a=b)
noncomputable def ee.G:dR:=eO (P:=Tryz.prog) []
noncomputable def ee.L0.E:=bM.ct ee.L0.st ee.L0.aB ee.L0.add ee.L0.F ee.L0.out
noncomputable def ee.L0.call:ee.L0.D→Option ee.L0.X:=dg ee.L0.E ee.L0.st
noncomputable def ee.an:eu:= {loops:=jO [(4,{bh:=[0,1,12,13]})],outs:=jN [(4,{},{bh:=[4]})],fF:=ky [(4,ee.L0.E)]}
noncomputable def ee.A:= @cI Tryz.prog ee.G ee.an 0 Tryz.f68 _ ee.st
abbrev ee.Ok:=cJ @ee.A ee.aB ee.add ee.F ee.out
noncomputable def ee.L0.R:= @cf Tryz.prog ee.G ee.an 0 Tryz.f68 0 _ ee.L0.st
abbrev ee.L0.Ok:=ez Tryz.prog ee.G ee.an 0 Tryz.f68 0 ee.L0.st ee.L0.aB ee.L0.add ee.L0.F ee.L0.out
theorem ee.L0.run:bB ee.L0.call ee.L0.aB ee.L0.add ee.L0.F:=eE (eD [.d tU,.d tU,.d ti,.d ti] fun _=>by kernel_rfl)
theorem ee.L0.aH:jl @ee.L0.R ee.L0.st ee.L0.aB ee.L0.add ee.L0.F ee.L0.out ee.L0.Ok:=jL
theorem ee.L0.step{R:Type}(s1_2:Bs)(s2_2:Bs)(t12:Int)(t13:Int)(kn:AS→Option R)(kx:Exit→AS→Option R):ee.L0.R (s1_2,s2_2,t12,t13) kn kx=
  aJ ((fY t13 t12)) (
   aJ (eh t13 (((List.length s1_2):Nat):Int)) (
   aJ (eh t13 (((List.length s2_2):Nat):Int)) (
   aJ ((ku (nth tu s1_2 (Int.toNat t13)) (nth tu s2_2 (Int.toNat t13)))) (
    kx (ee.L0.bq ()).1 (ee.L0.bq ()).2) (
    kn (ee.L0.st (s1_2,s2_2,t12,(bK .i64 t13 (1:Int)))))) none) none) (
   kx (ee.L0.eP ()).1 (ee.L0.eP ()).2):=by kernel_rfl
theorem ee.eq{R:Type}(s1:Bs)(s2:Bs)(k:aY→Option R):ee.A (s1,s2) k=
  aJ ((ku (((List.length s1):Nat):Int) (((List.length s2):Nat):Int))) (
   k (ee.out false)) (
   aq (ee.L0.call (s1,s2,(((List.length s1):Nat):Int),(0:Int))) fun x1=>
   aJ (x1.isLeft) (
    aq (x1.getLeft?) fun a2=>
    k (ee.out false)) (
    aq (x1.getRight?) fun b3=>
    k (ee.out true))):=by kernel_rfl
theorem ee.L0.ok:ee.L0.Ok:=by
 refine ee.L0.aH (fun(a,b,m,i)=>a.length - i.toNat) ?_
 rintro⟨a,b,m,i⟩ ⟨hl,hab,rfl,k,hk,rfl⟩
 have hl:a.length≤1000000000:=hl
 have hab:a.length=b.length:=hab
 have hk:k≤a.length:=hk
 by_cases h:k < a.length
 ·have h2:k < b.length:=by omega
  have n1:nth (.int .u64) a k=a[k]:=cw (t:=(.int .u64)) h
  have n2:nth (.int .u64) b k=b[k]:=cw (t:=(.int .u64)) h2
  have hd:(a.drop k=b.drop k)=(a[k]=b[k]∧a.drop (k+1)=b.drop (k+1)):=by rw[List.drop_eq_getElem_cons h,List.drop_eq_getElem_cons h2,List.cons.injEq]
  have step:∀ {R:Type} (kn:AS→Option R) (kx:Exit→AS→Option R),ee.L0.R (a,b,(a.length:Int),(k:Int)) kn kx=if a[k]=b[k] then kn (ee.L0.st (a,b,(a.length:Int),((k+1:Nat):Int))) else kx (ee.L0.bq ()).1 (ee.L0.bq ()).2:=by
   intro R kn kx
   rw[ee.L0.step,bw (by omega),bn (by omega) (by omega),bn (by omega) (by omega),Int.toNat_natCast,n1,n2,N.kA (by omega)]
   simp only[az]
   by_cases hx:a[k]=b[k]
   ·rw[bT hx,if_pos hx];rfl
   ·rw[dB hx,if_neg hx];rfl
  by_cases hx:a[k]=b[k]
  ·left
   refine⟨(a,b,(a.length:Int),((k+1:Nat):Int)),⟨hl,hab,rfl,k+1,by omega,rfl⟩,by simp only[Int.toNat_natCast];omega,?_,fun kn kx=> ?_⟩
   ·simp only[ee.L0.add,ee.L0.F,Int.toNat_natCast,hd,hx,true_and]
   ·rw[step,if_pos hx]
  ·right
   refine⟨ee.L0.bq (),?_,fun kn kx=> ?_⟩
   ·simp only[ee.L0.add,ee.L0.F,Int.toNat_natCast,hd,hx,false_and,if_false]
    rfl
   ·rw[step,if_neg hx]
 ·right
  obtain rfl:k=a.length:=by omega
  refine⟨ee.L0.eP (),?_,fun kn kx=> ?_⟩
  ·simp only[ee.L0.add,ee.L0.F,Int.toNat_natCast,List.drop_length]
   rw[hab,List.drop_length,if_pos rfl]
   rfl
  ·rw[ee.L0.step,bm (by omega),ay]
theorem ee.ok:ee.Ok:=by
 rintro⟨a,b⟩ hl
 have hl:a.length≤1000000000:=hl
 rw[ee.eq]
 simp only[ee.add,ee.F]
 by_cases h:a.length=b.length
 ·rw[bT (by omega),ay,ee.L0.run (d:=(a,b,(a.length:Int),0)) ⟨hl,h,rfl,0,Nat.zero_le _,rfl⟩]
  simp only[ab,ee.L0.add,ee.L0.F,Int.toNat_zero,List.drop_zero]
  by_cases hx:a=b
  ·rw[if_pos hx,aO hx];rfl
  ·rw[if_neg hx,aK hx];rfl
 ·rw[dB (by omega),aK (fun x=>h (by rw[x]))];rfl
noncomputable def ee.E:=Entry.ct [some tU,some tU] ee.st ee.aB ee.add ee.F ee.out
noncomputable def ee.call:ee.D→Option ee.X:=bG ee.E ee.st
theorem ee.run:bB ee.call ee.aB ee.add ee.F:=cO (cM [.d tU,.d tU] fun _=>by kernel_rfl)
noncomputable def ee.sg:SG Tryz.prog:=⟨68,aU,ee.E,.fn 1 (by kernel_rfl) ee.ok (And.intro (.ct ee.L0.ok (by kernel_rfl)) trivial)⟩
abbrev cQ.D:=fX×fX
def cQ.st:cQ.D→SA:=fun(x,yv)=>([.d fe x,.d fe yv],[])
abbrev cQ.Y:=Bool
abbrev cQ.X:=Bool
def cQ.out:cQ.X→aY:=fun x=>⟨.d .bool x,[],[]⟩
def cQ.add:cQ.D→cQ.Y→cQ.X:=fun(x,yv) y=>y
def cQ.aB:cQ.D→Prop:=fun(x,z)=>x.1.length≤1000000000
def cQ.F:cQ.D→cQ.Y:=fun(x,z)=>decide (x=z)
noncomputable def cQ.G:dR:=eO (P:=Tryz.prog) [ee.sg]
noncomputable def cQ.an:eu:= {}
noncomputable def cQ.A:= @cI Tryz.prog cQ.G cQ.an 0 Tryz.f67 _ cQ.st
abbrev cQ.Ok:=cJ @cQ.A cQ.aB cQ.add cQ.F cQ.out
theorem cQ.eq{R:Type}(x:fX)(yv:fX)(k:aY→Option R):cQ.A (x,yv) k=
  aq (ee.call (x.1,yv.1)) fun x1=>
  aJ (x1) (
   aJ ((nN x.2.1 yv.2.1)) (
    aJ ((nN x.2.2.1 yv.2.2.1)) (
     k (cQ.out (nN x.2.2.2.1 yv.2.2.2.1))) (
     k (cQ.out false))) (
    k (cQ.out false))) (
   k (cQ.out false)):=by kernel_rfl
theorem cQ.ok:cQ.Ok:=by
 rintro⟨⟨k1,a1,d1,s1,u1⟩,⟨k2,a2,d2,s2,u2⟩⟩ h
 have h:k1.length≤1000000000:=h
 rw[cQ.eq,ee.run (d:=(k1,k2)) h]
 simp only[ab,ee.add,ee.F,cQ.add,cQ.F]
 by_cases e1:k1=k2
 ·by_cases e2:a1=a2
  ·by_cases e3:d1=d2
   ·by_cases e4:s1=s2
    ·rw[aO e1,dq e2,dq e3,dq e4,aO (by rw[e1,e2,e3,e4])];rfl
    ·rw[aO e1,dq e2,dq e3,eL e4,aK (by rintro⟨⟩;exact e4 rfl)];rfl
   ·rw[aO e1,dq e2,eL e3,aK (by rintro⟨⟩;exact e3 rfl)];rfl
  ·rw[aO e1,eL e2,aK (by rintro⟨⟩;exact e2 rfl)];rfl
 ·rw[aK e1,aK (by rintro⟨⟩;exact e1 rfl)];rfl
noncomputable def cQ.E:=Entry.ct [some fe,some fe] cQ.st cQ.aB cQ.add cQ.F cQ.out
noncomputable def cQ.call:cQ.D→Option cQ.X:=bG cQ.E cQ.st
theorem cQ.run:bB cQ.call cQ.aB cQ.add cQ.F:=cO (cM [.d fe,.d fe] fun _=>by kernel_rfl)
noncomputable def cQ.sg:SG Tryz.prog:=⟨67,aU,cQ.E,.fn 0 (by kernel_rfl) cQ.ok trivial⟩
def Cz(l:Lk):Prop:=l.1.length≤1000000000∧∀b∈l.1,b.1.length≤1000000000
abbrev bW.L0.D:=(List fX)×(List fX)×Int×Int
def bW.L0.st:bW.L0.D→AS:=fun(s2_2,t15,t16,t17)=>⟨([.undef,.d (.slice fe) s2_2,.fn 67 (.nil)]++ba 12 ([.d (.slice fe) t15,.d ti t16,.d ti t17]++ba 14 [])),[],(List.replicate 32 [])⟩
abbrev bW.L0.Y0:=Unit
abbrev bW.L0.X0:=Unit
def bW.L0.bq:bW.L0.X0→Exit×AS:=fun x=>(.ret,⟨(ba 6 ([.d .bool false]++ba 25 [])),[],(List.replicate 32 [])⟩)
abbrev bW.L0.Y1:=Unit
abbrev bW.L0.X1:=Unit
def bW.L0.eP:bW.L0.X1→Exit×AS:=fun x=>(.exit 0,⟨(ba 32 []),[],(List.replicate 32 [])⟩)
abbrev bW.L0.X:=(bW.L0.X0)⊕(bW.L0.X1)
abbrev bW.L0.Y:=(bW.L0.Y0)⊕(bW.L0.Y1)
def bW.L0.out:bW.L0.X→Out (Exit×AS):=fun x=> .br x.isLeft (.get x.getLeft? fun a=> .ok (bW.L0.bq a)) (.get x.getRight? fun b=> .ok (bW.L0.eP b))
def bW.L0.add:bW.L0.D→bW.L0.Y→bW.L0.X:=fun(s2_2,t15,t16,t17) y=>match y with | .inl y=> .inl y | .inr z=> .inr (z)
abbrev bW.D:=(List fX)×(List fX)
def bW.st:bW.D→SA:=fun(s1,s2)=>([.d (.slice fe) s1,.d (.slice fe) s2,.fn 67 (.nil)],[])
abbrev bW.Y:=Bool
abbrev bW.X:=Bool
def bW.out:bW.X→aY:=fun x=>⟨.d .bool x,[],[]⟩
def bW.add:bW.D→bW.Y→bW.X:=fun(s1,s2) y=>y
def bW.L0.aB:bW.L0.D→Prop:=fun(b,a,m,i)=>(a.length≤1000000000∧∀x∈a,x.1.length≤1000000000)∧a.length=b.length∧m=a.length∧∃k:Nat,k≤a.length∧i=k
def bW.L0.F:bW.L0.D→bW.L0.Y:=fun(b,a,m,i)=>if a.drop i.toNat=b.drop i.toNat then .inr () else .inl ()
def bW.aB:bW.D→Prop:=fun(a,b)=>a.length≤1000000000∧∀x∈a,x.1.length≤1000000000
def bW.F:bW.D→bW.Y:=fun(a,b)=>decide (a=b)
noncomputable def bW.G:dR:=eO (P:=Tryz.prog) [cQ.sg]
noncomputable def bW.L0.E:=bM.ct bW.L0.st bW.L0.aB bW.L0.add bW.L0.F bW.L0.out
noncomputable def bW.L0.call:bW.L0.D→Option bW.L0.X:=dg bW.L0.E bW.L0.st
noncomputable def bW.an:eu:= {loops:=jO [(4,{bh:=[1,2,15,16,17]})],outs:=jN [(4,{},{bh:=[6]})],fF:=ky [(4,bW.L0.E)]}
noncomputable def bW.A:= @cI Tryz.prog bW.G bW.an 0 Tryz.f66 _ bW.st
abbrev bW.Ok:=cJ @bW.A bW.aB bW.add bW.F bW.out
noncomputable def bW.L0.R:= @cf Tryz.prog bW.G bW.an 0 Tryz.f66 0 _ bW.L0.st
abbrev bW.L0.Ok:=ez Tryz.prog bW.G bW.an 0 Tryz.f66 0 bW.L0.st bW.L0.aB bW.L0.add bW.L0.F bW.L0.out
theorem bW.L0.run:bB bW.L0.call bW.L0.aB bW.L0.add bW.L0.F:=eE (eD [.d (.slice fe),.d (.slice fe),.d ti,.d ti] fun _=>by kernel_rfl)
theorem bW.L0.aH:jl @bW.L0.R bW.L0.st bW.L0.aB bW.L0.add bW.L0.F bW.L0.out bW.L0.Ok:=jL
theorem bW.L0.step{R:Type}(s2_2:(List fX))(t15:(List fX))(t16:Int)(t17:Int)(kn:AS→Option R)(kx:Exit→AS→Option R):bW.L0.R (s2_2,t15,t16,t17) kn kx=
  aJ ((fY t17 t16)) (
   aJ (eh t17 (((List.length t15):Nat):Int)) (
   aJ (eh t17 (((List.length s2_2):Nat):Int)) (
   aq (cQ.call ((nth fe t15 (Int.toNat t17)),(nth fe s2_2 (Int.toNat t17)))) fun x1=>
   aJ ((!x1)) (
    kx (bW.L0.bq ()).1 (bW.L0.bq ()).2) (
    kn (bW.L0.st (s2_2,t15,t16,(bK .i64 t17 (1:Int)))))) none) none) (
   kx (bW.L0.eP ()).1 (bW.L0.eP ()).2):=by kernel_rfl
theorem bW.eq{R:Type}(s1:(List fX))(s2:(List fX))(k:aY→Option R):bW.A (s1,s2) k=
  aJ ((ku (((List.length s1):Nat):Int) (((List.length s2):Nat):Int))) (
   k (bW.out false)) (
   aq (bW.L0.call (s2,s1,(((List.length s1):Nat):Int),(0:Int))) fun x2=>
   aJ (x2.isLeft) (
    aq (x2.getLeft?) fun a3=>
    k (bW.out false)) (
    aq (x2.getRight?) fun b4=>
    k (bW.out true))):=by kernel_rfl
theorem bW.L0.ok:bW.L0.Ok:=by
 refine bW.L0.aH (fun(b,a,m,i)=>a.length - i.toNat) ?_
 rintro⟨b,a,m,i⟩ ⟨⟨hl,he⟩,hab,rfl,k,hk,rfl⟩
 have hl:a.length≤1000000000:=hl
 have hab:a.length=b.length:=hab
 have hk:k≤a.length:=hk
 by_cases h:k < a.length
 ·have h2:k < b.length:=by omega
  have n1:nth (.pair (.slice (.int .u64)) (.pair (.int .i64) (.pair (.int .i64) (.pair (.int .u64) .unit)))) a k=a[k]:=cw (t:=(.pair (.slice (.int .u64)) (.pair (.int .i64) (.pair (.int .i64) (.pair (.int .u64) .unit))))) h
  have n2:nth (.pair (.slice (.int .u64)) (.pair (.int .i64) (.pair (.int .i64) (.pair (.int .u64) .unit)))) b k=b[k]:=cw (t:=(.pair (.slice (.int .u64)) (.pair (.int .i64) (.pair (.int .i64) (.pair (.int .u64) .unit))))) h2
  have hd:(a.drop k=b.drop k)=(a[k]=b[k]∧a.drop (k+1)=b.drop (k+1)):=by rw[List.drop_eq_getElem_cons h,List.drop_eq_getElem_cons h2,List.cons.injEq]
  have step:∀ {R:Type} (kn:AS→Option R) (kx:Exit→AS→Option R),bW.L0.R (b,a,(a.length:Int),(k:Int)) kn kx=if a[k]=b[k] then kn (bW.L0.st (b,a,(a.length:Int),((k+1:Nat):Int))) else kx (bW.L0.bq ()).1 (bW.L0.bq ()).2:=by
   intro R kn kx
   rw[bW.L0.step,bw (by omega),bn (by omega) (by omega),bn (by omega) (by omega),Int.toNat_natCast,n1,n2,N.kA (by omega),cQ.run (d:=(a[k],b[k])) (he _ (List.getElem_mem h))]
   simp only[az,ab,cQ.add,cQ.F]
   by_cases hx:a[k]=b[k]
   ·rw[aO hx,if_pos hx];rfl
   ·rw[aK hx,if_neg hx];rfl
  by_cases hx:a[k]=b[k]
  ·left
   refine⟨(b,a,(a.length:Int),((k+1:Nat):Int)),⟨⟨hl,he⟩,hab,rfl,k+1,by omega,rfl⟩,by simp only[Int.toNat_natCast];omega,?_,fun kn kx=> ?_⟩
   ·simp only[bW.L0.add,bW.L0.F,Int.toNat_natCast,hd,hx,true_and]
   ·rw[step,if_pos hx]
  ·right
   refine⟨bW.L0.bq (),?_,fun kn kx=> ?_⟩
   ·simp only[bW.L0.add,bW.L0.F,Int.toNat_natCast,hd,hx,false_and,if_false]
    rfl
   ·rw[step,if_neg hx]
 ·right
  obtain rfl:k=a.length:=by omega
  refine⟨bW.L0.eP (),?_,fun kn kx=> ?_⟩
  ·simp only[bW.L0.add,bW.L0.F,Int.toNat_natCast,List.drop_length]
   rw[hab,List.drop_length,if_pos rfl]
   rfl
  ·rw[bW.L0.step,bm (by omega),ay]
theorem bW.ok:bW.Ok:=by
 rintro⟨a,b⟩ hl
 have hl1:a.length≤1000000000:=hl.1
 rw[bW.eq]
 simp only[bW.add,bW.F]
 by_cases h:a.length=b.length
 ·rw[bT (by omega),ay,bW.L0.run (d:=(b,a,(a.length:Int),0)) ⟨hl,h,rfl,0,Nat.zero_le _,rfl⟩]
  simp only[ab,bW.L0.add,bW.L0.F,Int.toNat_zero,List.drop_zero]
  by_cases hx:a=b
  ·rw[if_pos hx,aO hx];rfl
  ·rw[if_neg hx,aK hx];rfl
 ·rw[dB (by omega),aK (fun x=>h (by rw[x]))];rfl
noncomputable def bW.E:=Entry.ct [some (.slice fe),some (.slice fe),none] bW.st bW.aB bW.add bW.F bW.out
noncomputable def bW.call:bW.D→Option bW.X:=bG bW.E bW.st
theorem bW.run:bB bW.call bW.aB bW.add bW.F:=cO (cM [.d (.slice fe),.d (.slice fe)] fun _=>by kernel_rfl)
noncomputable def bW.sg:SG Tryz.prog:=⟨66,aU,bW.E,.fn 1 (by kernel_rfl) bW.ok (And.intro (.ct bW.L0.ok (by kernel_rfl)) trivial)⟩
abbrev eo.D:=Lk×Lk
def eo.st:eo.D→SA:=fun(a,b)=>([.d j3 a,.d j3 b],[])
abbrev eo.Y:=Bool
abbrev eo.X:=Bool
def eo.out:eo.X→aY:=fun x=>⟨.d .bool x,[],[]⟩
def eo.add:eo.D→eo.Y→eo.X:=fun(a,b) y=>y
def eo.aB:eo.D→Prop:=fun(a,b)=>Cz a
def eo.F:eo.D→eo.Y:=fun(a,b)=>decide (a.1=b.1)
noncomputable def eo.G:dR:=eO (P:=Tryz.prog) [bW.sg]
noncomputable def eo.an:eu:= {}
noncomputable def eo.A:= @cI Tryz.prog eo.G eo.an 0 Tryz.f15 _ eo.st
abbrev eo.Ok:=cJ @eo.A eo.aB eo.add eo.F eo.out
theorem eo.eq{R:Type}(a:Lk)(b:Lk)(k:aY→Option R):eo.A (a,b) k=
 aq (bW.call (a.1,b.1)) fun x1=>
 k (eo.out x1):=by kernel_rfl
theorem eo.ok:eo.Ok:=by
 rintro⟨a,b⟩ h
 rw[eo.eq,bW.run (d:=(a.1,b.1)) h]
 rfl
noncomputable def eo.E:=Entry.ct [some j3,some j3] eo.st eo.aB eo.add eo.F eo.out
noncomputable def eo.call:eo.D→Option eo.X:=bG eo.E eo.st
theorem eo.run:bB eo.call eo.aB eo.add eo.F:=cO (cM [.d j3,.d j3] fun _=>by kernel_rfl)
noncomputable def eo.sg:SG Tryz.prog:=⟨15,aU,eo.E,.fn 0 (by kernel_rfl) eo.ok trivial⟩
set_option synthInstance.maxSize 5000
theorem oY{α:Type}{f:α→α→Bool}(hf:∀x,f x x=true):∀l:List α,gO f l l=true
 |[]=>rfl
 |x::l=>by rw[nb,hf,oY hf l];rfl
theorem mN:∀(t:Ty) (x:t.den),t.comp=true→t.beq x x=true
 | .int _,x,_=>by simp[Ty.beq]
 | .bool,x,_=>by simp[Ty.beq]
 | .str,x,_=>by simp[Ty.beq]
 | .unit,_,_=>rfl
 | .pair a b,x,h=>by
  simp only[Ty.comp,Bool.and_eq_true]at h
  simp only[Ty.beq,mN a x.1 h.1,mN b x.2 h.2,Bool.and_self]
 | .arr _ t,l,h=>oY (fun x=>mN t x h) l
 | .slice _,_,h=>by cases h
 | .fh _,_,h=>by cases h
theorem xV(t:Ty)(hc:t.comp=true)(x y:t.den) [Decidable (x=y)]:t.beq x y=decide (x=y):=by
 by_cases h:x=y
 ·subst h;rw[aO rfl,mN t x hc]
 ·rw[aK h]
  cases hb:t.beq x y
  ·rfl
  ·exact absurd (beq_eq t x y hc hb) h
theorem z0(x y:Sg):Ty.beq jg x y=decide (x=y):= @xV jg rfl x y (inferInstanceAs (Decidable (x=y)))
theorem q9(x y:j4):Ty.beq kp x y=decide (x=y):= @xV kp rfl x y (inferInstanceAs (Decidable (x=y)))
abbrev bS.L0.D:=(List Sg)×(List Sg)×Int×Int
def bS.L0.st:bS.L0.D→AS:=fun(s1_2,s2_2,t12,t13)=>⟨([.d (.slice jg) s1_2,.d (.slice jg) s2_2]++ba 10 ([.d ti t12,.d ti t13]++ba 12 [])),[],(List.replicate 26 [])⟩
abbrev bS.L0.Y0:=Unit
abbrev bS.L0.X0:=Unit
def bS.L0.bq:bS.L0.X0→Exit×AS:=fun x=>(.ret,⟨(ba 4 ([.d .bool false]++ba 21 [])),[],(List.replicate 26 [])⟩)
abbrev bS.L0.Y1:=Unit
abbrev bS.L0.X1:=Unit
def bS.L0.eP:bS.L0.X1→Exit×AS:=fun x=>(.exit 0,⟨(ba 26 []),[],(List.replicate 26 [])⟩)
abbrev bS.L0.X:=(bS.L0.X0)⊕(bS.L0.X1)
abbrev bS.L0.Y:=(bS.L0.Y0)⊕(bS.L0.Y1)
def bS.L0.out:bS.L0.X→Out (Exit×AS):=fun x=> .br x.isLeft (.get x.getLeft? fun a=> .ok (bS.L0.bq a)) (.get x.getRight? fun b=> .ok (bS.L0.eP b))
def bS.L0.add:bS.L0.D→bS.L0.Y→bS.L0.X:=fun(s1_2,s2_2,t12,t13) y=>match y with | .inl y=> .inl y | .inr z=> .inr (z)
abbrev bS.D:=(List Sg)×(List Sg)
def bS.st:bS.D→SA:=fun(s1,s2)=>([.d (.slice jg) s1,.d (.slice jg) s2],[])
abbrev bS.Y:=Bool
abbrev bS.X:=Bool
def bS.out:bS.X→aY:=fun x=>⟨.d .bool x,[],[]⟩
def bS.add:bS.D→bS.Y→bS.X:=fun(s1,s2) y=>y
def bS.L0.aB:bS.L0.D→Prop:=fun(a,b,m,i)=>a.length≤1000000000∧a.length=b.length∧m=a.length∧∃k:Nat,k≤a.length∧i=k
def bS.L0.F:bS.L0.D→bS.L0.Y:=fun(a,b,m,i)=>if a.drop i.toNat=b.drop i.toNat then .inr () else .inl ()
def bS.aB:bS.D→Prop:=fun(a,b)=>a.length≤1000000000
def bS.F:bS.D→bS.Y:=fun(a,b)=>decide (a=b)
noncomputable def bS.G:dR:=eO (P:=Tryz.prog) []
noncomputable def bS.L0.E:=bM.ct bS.L0.st bS.L0.aB bS.L0.add bS.L0.F bS.L0.out
noncomputable def bS.L0.call:bS.L0.D→Option bS.L0.X:=dg bS.L0.E bS.L0.st
noncomputable def bS.an:eu:= {loops:=jO [(4,{bh:=[0,1,12,13]})],outs:=jN [(4,{},{bh:=[4]})],fF:=ky [(4,bS.L0.E)]}
noncomputable def bS.A:= @cI Tryz.prog bS.G bS.an 0 Tryz.f100 _ bS.st
abbrev bS.Ok:=cJ @bS.A bS.aB bS.add bS.F bS.out
noncomputable def bS.L0.R:= @cf Tryz.prog bS.G bS.an 0 Tryz.f100 0 _ bS.L0.st
abbrev bS.L0.Ok:=ez Tryz.prog bS.G bS.an 0 Tryz.f100 0 bS.L0.st bS.L0.aB bS.L0.add bS.L0.F bS.L0.out
theorem bS.L0.run:bB bS.L0.call bS.L0.aB bS.L0.add bS.L0.F:=eE (eD [.d (.slice jg),.d (.slice jg),.d ti,.d ti] fun _=>by kernel_rfl)
theorem bS.L0.aH:jl @bS.L0.R bS.L0.st bS.L0.aB bS.L0.add bS.L0.F bS.L0.out bS.L0.Ok:=jL
theorem bS.L0.step{R:Type}(s1_2:(List Sg))(s2_2:(List Sg))(t12:Int)(t13:Int)(kn:AS→Option R)(kx:Exit→AS→Option R):bS.L0.R (s1_2,s2_2,t12,t13) kn kx=
  aJ ((fY t13 t12)) (
   aJ (eh t13 (((List.length s1_2):Nat):Int)) (
   aJ (eh t13 (((List.length s2_2):Nat):Int)) (
   aJ ((!(Ty.beq jg (nth jg s1_2 (Int.toNat t13)) (nth jg s2_2 (Int.toNat t13))))) (
    kx (bS.L0.bq ()).1 (bS.L0.bq ()).2) (
    kn (bS.L0.st (s1_2,s2_2,t12,(bK .i64 t13 (1:Int)))))) none) none) (
   kx (bS.L0.eP ()).1 (bS.L0.eP ()).2):=by kernel_rfl
theorem bS.eq{R:Type}(s1:(List Sg))(s2:(List Sg))(k:aY→Option R):bS.A (s1,s2) k=
  aJ ((ku (((List.length s1):Nat):Int) (((List.length s2):Nat):Int))) (
   k (bS.out false)) (
   aq (bS.L0.call (s1,s2,(((List.length s1):Nat):Int),(0:Int))) fun x1=>
   aJ (x1.isLeft) (
    aq (x1.getLeft?) fun a2=>
    k (bS.out false)) (
    aq (x1.getRight?) fun b3=>
    k (bS.out true))):=by kernel_rfl
theorem bS.L0.ok:bS.L0.Ok:=by
 refine bS.L0.aH (fun(a,b,m,i)=>a.length - i.toNat) ?_
 rintro⟨a,b,m,i⟩ ⟨hl,hab,rfl,k,hk,rfl⟩
 have hl:a.length≤1000000000:=hl
 have hab:a.length=b.length:=hab
 have hk:k≤a.length:=hk
 by_cases h:k < a.length
 ·have h2:k < b.length:=by omega
  have n1:nth jg a k=a[k]:=cw (t:=jg) h
  have n2:nth jg b k=b[k]:=cw (t:=jg) h2
  have hd:(a.drop k=b.drop k)=(a[k]=b[k]∧a.drop (k+1)=b.drop (k+1)):=by rw[List.drop_eq_getElem_cons h,List.drop_eq_getElem_cons h2,List.cons.injEq]
  have step:∀ {R:Type} (kn:AS→Option R) (kx:Exit→AS→Option R),bS.L0.R (a,b,(a.length:Int),(k:Int)) kn kx=if a[k]=b[k] then kn (bS.L0.st (a,b,(a.length:Int),((k+1:Nat):Int))) else kx (bS.L0.bq ()).1 (bS.L0.bq ()).2:=by
   intro R kn kx
   rw[bS.L0.step,bw (by omega),bn (by omega) (by omega),bn (by omega) (by omega),Int.toNat_natCast,n1,n2,N.kA (by omega)]
   simp only[az]
   rw[z0]
   by_cases hx:a[k]=b[k]
   ·rw[aO hx,if_pos hx];rfl
   ·rw[aK hx,if_neg hx];rfl
  by_cases hx:a[k]=b[k]
  ·left
   refine⟨(a,b,(a.length:Int),((k+1:Nat):Int)),⟨hl,hab,rfl,k+1,by omega,rfl⟩,by simp only[Int.toNat_natCast];omega,?_,fun kn kx=> ?_⟩
   ·simp only[bS.L0.add,bS.L0.F,Int.toNat_natCast,hd,hx,true_and]
   ·rw[step,if_pos hx]
  ·right
   refine⟨bS.L0.bq (),?_,fun kn kx=> ?_⟩
   ·simp only[bS.L0.add,bS.L0.F,Int.toNat_natCast,hd,hx,false_and,if_false]
    rfl
   ·rw[step,if_neg hx]
 ·right
  obtain rfl:k=a.length:=by omega
  refine⟨bS.L0.eP (),?_,fun kn kx=> ?_⟩
  ·simp only[bS.L0.add,bS.L0.F,Int.toNat_natCast,List.drop_length]
   rw[hab,List.drop_length,if_pos rfl]
   rfl
  ·rw[bS.L0.step,bm (by omega),ay]
theorem bS.ok:bS.Ok:=by
 rintro⟨a,b⟩ hl
 have hl:a.length≤1000000000:=hl
 rw[bS.eq]
 simp only[bS.add,bS.F]
 by_cases h:a.length=b.length
 ·rw[bT (by omega),ay,bS.L0.run (d:=(a,b,(a.length:Int),0)) ⟨hl,h,rfl,0,Nat.zero_le _,rfl⟩]
  simp only[ab,bS.L0.add,bS.L0.F,Int.toNat_zero,List.drop_zero]
  by_cases hx:a=b
  ·rw[if_pos hx,aO hx];rfl
  ·rw[if_neg hx,aK hx];rfl
 ·rw[dB (by omega),aK (fun x=>h (by rw[x]))];rfl
noncomputable def bS.E:=Entry.ct [some (.slice jg),some (.slice jg)] bS.st bS.aB bS.add bS.F bS.out
noncomputable def bS.call:bS.D→Option bS.X:=bG bS.E bS.st
theorem bS.run:bB bS.call bS.aB bS.add bS.F:=cO (cM [.d (.slice jg),.d (.slice jg)] fun _=>by kernel_rfl)
noncomputable def bS.sg:SG Tryz.prog:=⟨100,aU,bS.E,.fn 1 (by kernel_rfl) bS.ok (And.intro (.ct bS.L0.ok (by kernel_rfl)) trivial)⟩
abbrev cS.D:=ff×ff
def cS.st:cS.D→SA:=fun(x,yv)=>([.d eH x,.d eH yv],[])
abbrev cS.Y:=Bool
abbrev cS.X:=Bool
def cS.out:cS.X→aY:=fun x=>⟨.d .bool x,[],[]⟩
def cS.add:cS.D→cS.Y→cS.X:=fun(x,yv) y=>y
def cS.aB:cS.D→Prop:=fun(x,y)=>x.2.1.2.1.length≤1000000000
def cS.F:cS.D→cS.Y:=fun(x,y)=>decide (x=y)
noncomputable def cS.G:dR:=eO (P:=Tryz.prog) [bS.sg]
noncomputable def cS.an:eu:= {}
noncomputable def cS.A:= @cI Tryz.prog cS.G cS.an 0 Tryz.f99 _ cS.st
abbrev cS.Ok:=cJ @cS.A cS.aB cS.add cS.F cS.out
theorem cS.eq{R:Type}(x:ff)(yv:ff)(k:aY→Option R):cS.A (x,yv) k=
  aJ ((Ty.beq kp x.1 yv.1)) (
   aJ ((nN x.2.1.1 yv.2.1.1)) (
    aJ ((nN x.2.1.2.2.1 yv.2.1.2.2.1)) (
     aq (bS.call (x.2.1.2.1,yv.2.1.2.1)) fun x1=>
     k (cS.out x1)) (
     k (cS.out false))) (
    k (cS.out false))) (
   k (cS.out false)):=by kernel_rfl
theorem cS.ok:cS.Ok:=by
 rintro⟨⟨f1,⟨b1,s1,c1,u1⟩,v1⟩,⟨f2,⟨b2,s2,c2,u2⟩,v2⟩⟩ h
 have h:s1.length≤1000000000:=h
 rw[cS.eq,bS.run (d:=(s1,s2)) h,q9]
 simp only[ab,bS.add,bS.F,cS.add,cS.F]
 by_cases e1:f1=f2
 ·by_cases e2:b1=b2
  ·by_cases e3:c1=c2
   ·by_cases e4:s1=s2
    ·rw[aO e1,dq e2,dq e3,aO e4,aO (by rw[e1,e2,e3,e4])];rfl
    ·rw[aO e1,dq e2,dq e3,aK e4,aK (by rintro⟨⟩;exact e4 rfl)];rfl
   ·rw[aO e1,dq e2,eL e3,aK (p:=(f1,(b1,s1,c1,u1),v1)=(f2,(b2,s2,c2,u2),v2)) (by rintro⟨⟩;exact e3 rfl)];rfl
  ·rw[aO e1,eL e2,aK (p:=(f1,(b1,s1,c1,u1),v1)=(f2,(b2,s2,c2,u2),v2)) (by rintro⟨⟩;exact e2 rfl)];rfl
 ·rw[aK e1,aK (p:=(f1,(b1,s1,c1,u1),v1)=(f2,(b2,s2,c2,u2),v2)) (by rintro⟨⟩;exact e1 rfl)];rfl
noncomputable def cS.E:=Entry.ct [some eH,some eH] cS.st cS.aB cS.add cS.F cS.out
noncomputable def cS.call:cS.D→Option cS.X:=bG cS.E cS.st
theorem cS.run:bB cS.call cS.aB cS.add cS.F:=cO (cM [.d eH,.d eH] fun _=>by kernel_rfl)
noncomputable def cS.sg:SG Tryz.prog:=⟨99,aU,cS.E,.fn 0 (by kernel_rfl) cS.ok trivial⟩
abbrev cT.D:=fX×fX
def cT.st:cT.D→SA:=fun(x,yv)=>([.d fe x,.d fe yv],[])
abbrev cT.Y:=Bool
abbrev cT.X:=Bool
def cT.out:cT.X→aY:=fun x=>⟨.d .bool x,[],[]⟩
def cT.add:cT.D→cT.Y→cT.X:=fun(x,yv) y=>y
def cT.aB:cT.D→Prop:=fun(x,z)=>x.1.length≤1000000000
def cT.F:cT.D→cT.Y:=fun(x,z)=>decide (x=z)
noncomputable def cT.G:dR:=eO (P:=Tryz.prog) [ee.sg]
noncomputable def cT.an:eu:= {}
noncomputable def cT.A:= @cI Tryz.prog cT.G cT.an 0 Tryz.f101 _ cT.st
abbrev cT.Ok:=cJ @cT.A cT.aB cT.add cT.F cT.out
theorem cT.eq{R:Type}(x:fX)(yv:fX)(k:aY→Option R):cT.A (x,yv) k=
  aJ ((nN x.2.1 yv.2.1)) (
   aJ ((nN x.2.2.1 yv.2.2.1)) (
    aJ ((nN x.2.2.2.1 yv.2.2.2.1)) (
     aq (ee.call (x.1,yv.1)) fun x1=>
     k (cT.out x1)) (
     k (cT.out false))) (
    k (cT.out false))) (
   k (cT.out false)):=by kernel_rfl
theorem cT.ok:cT.Ok:=by
 rintro⟨⟨k1,a1,d1,s1,u1⟩,⟨k2,a2,d2,s2,u2⟩⟩ h
 have h:k1.length≤1000000000:=h
 rw[cT.eq,ee.run (d:=(k1,k2)) h]
 simp only[ab,ee.add,ee.F,cT.add,cT.F]
 by_cases e1:k1=k2
 ·by_cases e2:a1=a2
  ·by_cases e3:d1=d2
   ·by_cases e4:s1=s2
    ·rw[aO e1,dq e2,dq e3,dq e4,aO (by rw[e1,e2,e3,e4])];rfl
    ·rw[dq e2,dq e3,eL e4,aK (p:=(k1,a1,d1,s1,u1)=(k2,a2,d2,s2,u2)) (by rintro⟨⟩;exact e4 rfl)];rfl
   ·rw[dq e2,eL e3,aK (p:=(k1,a1,d1,s1,u1)=(k2,a2,d2,s2,u2)) (by rintro⟨⟩;exact e3 rfl)];rfl
  ·rw[eL e2,aK (p:=(k1,a1,d1,s1,u1)=(k2,a2,d2,s2,u2)) (by rintro⟨⟩;exact e2 rfl)];rfl
 ·rw[aK e1,aK (p:=(k1,a1,d1,s1,u1)=(k2,a2,d2,s2,u2)) (by rintro⟨⟩;exact e1 rfl)]
  cases nN a1 a2 <;> cases nN d1 d2 <;> cases nN s1 s2 <;> rfl
noncomputable def cT.E:=Entry.ct [some fe,some fe] cT.st cT.aB cT.add cT.F cT.out
noncomputable def cT.call:cT.D→Option cT.X:=bG cT.E cT.st
theorem cT.run:bB cT.call cT.aB cT.add cT.F:=cO (cM [.d fe,.d fe] fun _=>by kernel_rfl)
noncomputable def cT.sg:SG Tryz.prog:=⟨101,aU,cT.E,.fn 0 (by kernel_rfl) cT.ok trivial⟩
abbrev bj.L0.D:=(List fX)×(List fX)×Int×Int
def bj.L0.st:bj.L0.D→AS:=fun(s2_2,t15,t16,t17)=>⟨([.undef,.d (.slice fe) s2_2,.fn 101 (.nil)]++ba 12 ([.d (.slice fe) t15,.d ti t16,.d ti t17]++ba 14 [])),[],(List.replicate 32 [])⟩
abbrev bj.L0.Y0:=Unit
abbrev bj.L0.X0:=Unit
def bj.L0.bq:bj.L0.X0→Exit×AS:=fun x=>(.ret,⟨(ba 6 ([.d .bool false]++ba 25 [])),[],(List.replicate 32 [])⟩)
abbrev bj.L0.Y1:=Unit
abbrev bj.L0.X1:=Unit
def bj.L0.eP:bj.L0.X1→Exit×AS:=fun x=>(.exit 0,⟨(ba 32 []),[],(List.replicate 32 [])⟩)
abbrev bj.L0.X:=(bj.L0.X0)⊕(bj.L0.X1)
abbrev bj.L0.Y:=(bj.L0.Y0)⊕(bj.L0.Y1)
def bj.L0.out:bj.L0.X→Out (Exit×AS):=fun x=> .br x.isLeft (.get x.getLeft? fun a=> .ok (bj.L0.bq a)) (.get x.getRight? fun b=> .ok (bj.L0.eP b))
def bj.L0.add:bj.L0.D→bj.L0.Y→bj.L0.X:=fun(s2_2,t15,t16,t17) y=>match y with | .inl y=> .inl y | .inr z=> .inr (z)
abbrev bj.D:=(List fX)×(List fX)
def bj.st:bj.D→SA:=fun(s1,s2)=>([.d (.slice fe) s1,.d (.slice fe) s2,.fn 101 (.nil)],[])
abbrev bj.Y:=Bool
abbrev bj.X:=Bool
def bj.out:bj.X→aY:=fun x=>⟨.d .bool x,[],[]⟩
def bj.add:bj.D→bj.Y→bj.X:=fun(s1,s2) y=>y
def bj.L0.aB:bj.L0.D→Prop:=fun(b,a,m,i)=>(a.length≤1000000000∧∀x∈a,x.1.length≤1000000000)∧a.length=b.length∧m=a.length∧∃k:Nat,k≤a.length∧i=k
def bj.L0.F:bj.L0.D→bj.L0.Y:=fun(b,a,m,i)=>if a.drop i.toNat=b.drop i.toNat then .inr () else .inl ()
def bj.aB:bj.D→Prop:=fun(a,b)=>a.length≤1000000000∧∀x∈a,x.1.length≤1000000000
def bj.F:bj.D→bj.Y:=fun(a,b)=>decide (a=b)
noncomputable def bj.G:dR:=eO (P:=Tryz.prog) [cT.sg]
noncomputable def bj.L0.E:=bM.ct bj.L0.st bj.L0.aB bj.L0.add bj.L0.F bj.L0.out
noncomputable def bj.L0.call:bj.L0.D→Option bj.L0.X:=dg bj.L0.E bj.L0.st
noncomputable def bj.an:eu:= {loops:=jO [(4,{bh:=[1,2,15,16,17]})],outs:=jN [(4,{},{bh:=[6]})],fF:=ky [(4,bj.L0.E)]}
noncomputable def bj.A:= @cI Tryz.prog bj.G bj.an 0 Tryz.f66 _ bj.st
abbrev bj.Ok:=cJ @bj.A bj.aB bj.add bj.F bj.out
noncomputable def bj.L0.R:= @cf Tryz.prog bj.G bj.an 0 Tryz.f66 0 _ bj.L0.st
abbrev bj.L0.Ok:=ez Tryz.prog bj.G bj.an 0 Tryz.f66 0 bj.L0.st bj.L0.aB bj.L0.add bj.L0.F bj.L0.out
theorem bj.L0.run:bB bj.L0.call bj.L0.aB bj.L0.add bj.L0.F:=eE (eD [.d (.slice fe),.d (.slice fe),.d ti,.d ti] fun _=>by kernel_rfl)
theorem bj.L0.aH:jl @bj.L0.R bj.L0.st bj.L0.aB bj.L0.add bj.L0.F bj.L0.out bj.L0.Ok:=jL
theorem bj.L0.step{R:Type}(s2_2:(List fX))(t15:(List fX))(t16:Int)(t17:Int)(kn:AS→Option R)(kx:Exit→AS→Option R):bj.L0.R (s2_2,t15,t16,t17) kn kx=
  aJ ((fY t17 t16)) (
   aJ (eh t17 (((List.length t15):Nat):Int)) (
   aJ (eh t17 (((List.length s2_2):Nat):Int)) (
   aq (cT.call ((nth fe t15 (Int.toNat t17)),(nth fe s2_2 (Int.toNat t17)))) fun x1=>
   aJ ((!x1)) (
    kx (bj.L0.bq ()).1 (bj.L0.bq ()).2) (
    kn (bj.L0.st (s2_2,t15,t16,(bK .i64 t17 (1:Int)))))) none) none) (
   kx (bj.L0.eP ()).1 (bj.L0.eP ()).2):=by kernel_rfl
theorem bj.eq{R:Type}(s1:(List fX))(s2:(List fX))(k:aY→Option R):bj.A (s1,s2) k=
  aJ ((ku (((List.length s1):Nat):Int) (((List.length s2):Nat):Int))) (
   k (bj.out false)) (
   aq (bj.L0.call (s2,s1,(((List.length s1):Nat):Int),(0:Int))) fun x2=>
   aJ (x2.isLeft) (
    aq (x2.getLeft?) fun a3=>
    k (bj.out false)) (
    aq (x2.getRight?) fun b4=>
    k (bj.out true))):=by kernel_rfl
theorem bj.L0.ok:bj.L0.Ok:=by
 refine bj.L0.aH (fun(b,a,m,i)=>a.length - i.toNat) ?_
 rintro⟨b,a,m,i⟩ ⟨⟨hl,he⟩,hab,rfl,k,hk,rfl⟩
 have hl:a.length≤1000000000:=hl
 have hab:a.length=b.length:=hab
 have hk:k≤a.length:=hk
 by_cases h:k < a.length
 ·have h2:k < b.length:=by omega
  have n1:nth fe a k=a[k]:=cw (t:=fe) h
  have n2:nth fe b k=b[k]:=cw (t:=fe) h2
  have hd:(a.drop k=b.drop k)=(a[k]=b[k]∧a.drop (k+1)=b.drop (k+1)):=by rw[List.drop_eq_getElem_cons h,List.drop_eq_getElem_cons h2,List.cons.injEq]
  have step:∀ {R:Type} (kn:AS→Option R) (kx:Exit→AS→Option R),bj.L0.R (b,a,(a.length:Int),(k:Int)) kn kx=if a[k]=b[k] then kn (bj.L0.st (b,a,(a.length:Int),((k+1:Nat):Int))) else kx (bj.L0.bq ()).1 (bj.L0.bq ()).2:=by
   intro R kn kx
   rw[bj.L0.step,bw (by omega),bn (by omega) (by omega),bn (by omega) (by omega),Int.toNat_natCast,n1,n2,N.kA (by omega),cT.run (d:=(a[k],b[k])) (he _ (List.getElem_mem h))]
   simp only[az,ab,cT.add,cT.F]
   by_cases hx:a[k]=b[k]
   ·rw[aO hx,if_pos hx];rfl
   ·rw[aK hx,if_neg hx];rfl
  by_cases hx:a[k]=b[k]
  ·left
   refine⟨(b,a,(a.length:Int),((k+1:Nat):Int)),⟨⟨hl,he⟩,hab,rfl,k+1,by omega,rfl⟩,by simp only[Int.toNat_natCast];omega,?_,fun kn kx=> ?_⟩
   ·simp only[bj.L0.add,bj.L0.F,Int.toNat_natCast,hd,hx,true_and]
   ·rw[step,if_pos hx]
  ·right
   refine⟨bj.L0.bq (),?_,fun kn kx=> ?_⟩
   ·simp only[bj.L0.add,bj.L0.F,Int.toNat_natCast,hd,hx,false_and,if_false]
    rfl
   ·rw[step,if_neg hx]
 ·right
  obtain rfl:k=a.length:=by omega
  refine⟨bj.L0.eP (),?_,fun kn kx=> ?_⟩
  ·simp only[bj.L0.add,bj.L0.F,Int.toNat_natCast,List.drop_length]
   rw[hab,List.drop_length,if_pos rfl]
   rfl
  ·rw[bj.L0.step,bm (by omega),ay]
theorem bj.ok:bj.Ok:=by
 rintro⟨a,b⟩ hl
 have hl1:a.length≤1000000000:=hl.1
 rw[bj.eq]
 simp only[bj.add,bj.F]
 by_cases h:a.length=b.length
 ·rw[bT (by omega),ay,bj.L0.run (d:=(b,a,(a.length:Int),0)) ⟨hl,h,rfl,0,Nat.zero_le _,rfl⟩]
  simp only[ab,bj.L0.add,bj.L0.F,Int.toNat_zero,List.drop_zero]
  by_cases hx:a=b
  ·rw[if_pos hx,aO hx];rfl
  ·rw[if_neg hx,aK hx];rfl
 ·rw[dB (by omega),aK (fun x=>h (by rw[x]))];rfl
noncomputable def bj.E:=Entry.ct [some (.slice fe),some (.slice fe),none] bj.st bj.aB bj.add bj.F bj.out
noncomputable def bj.call:bj.D→Option bj.X:=bG bj.E bj.st
theorem bj.run:bB bj.call bj.aB bj.add bj.F:=cO (cM [.d (.slice fe),.d (.slice fe)] fun _=>by kernel_rfl)
noncomputable def bj.sg:SG Tryz.prog:=⟨66,aU,bj.E,.fn 1 (by kernel_rfl) bj.ok (And.intro (.ct bj.L0.ok (by kernel_rfl)) trivial)⟩
abbrev c9.D:=fM×fM
def c9.st:c9.D→SA:=fun(x,yv)=>([.d eR x,.d eR yv,.ptr (.fB 0) 0 [] 0],[.obj 0 false (.fn 101 (.nil))])
abbrev c9.Y:=Bool
abbrev c9.X:=Bool
def c9.out:c9.X→aY:=fun x=>⟨.d .bool x,[.obj 0 false (.fn 101 (.nil))],[]⟩
def c9.add:c9.D→c9.Y→c9.X:=fun(x,yv) y=>y
def c9.aB:c9.D→Prop:=fun(x,y)=>x.2.1.1.length≤1000000000∧∀b∈x.2.1.1,b.1.length≤1000000000
def c9.F:c9.D→c9.Y:=fun(x,y)=>decide (x=y)
noncomputable def c9.G:dR:=eO (P:=Tryz.prog) [bj.sg]
noncomputable def c9.an:eu:= {}
noncomputable def c9.A:= @cI Tryz.prog c9.G c9.an 0 Tryz.f102 _ c9.st
abbrev c9.Ok:=cJ @c9.A c9.aB c9.add c9.F c9.out
theorem c9.eq{R:Type}(x:fM)(yv:fM)(k:aY→Option R):c9.A (x,yv) k=
  aJ ((nN x.1 yv.1)) (
   aq (bj.call (x.2.1.1,yv.2.1.1)) fun x1=>
   k (c9.out x1)) (
   k (c9.out false)):=by kernel_rfl
theorem c9.ok:c9.Ok:=by
 rintro⟨⟨n1,⟨b1,w1⟩,u1⟩,⟨n2,⟨b2,w2⟩,u2⟩⟩ h
 rw[c9.eq,bj.run (d:=(b1,b2)) h]
 simp only[ab,bj.add,bj.F,c9.add,c9.F]
 by_cases e1:n1=n2
 ·by_cases e2:b1=b2
  ·rw[dq e1,aO e2,aO (by rw[e1,e2])];rfl
  ·rw[dq e1,aK e2,aK (by rintro⟨⟩;exact e2 rfl)];rfl
 ·rw[eL e1,aK (p:=(n1,(b1,w1),u1)=(n2,(b2,w2),u2)) (by rintro⟨⟩;exact e1 rfl)];rfl
noncomputable def c9.E:=Entry.ct [some eR,some eR,none] c9.st c9.aB c9.add c9.F c9.out
noncomputable def c9.call:c9.D→Option c9.X:=bG c9.E c9.st
theorem c9.run:bB c9.call c9.aB c9.add c9.F:=cO (cM [.d eR,.d eR] fun _=>by kernel_rfl)
noncomputable def c9.sg:SG Tryz.prog:=⟨102,aU,c9.E,.fn 0 (by kernel_rfl) c9.ok trivial⟩
abbrev bR.L0.D:=(List ff)×(List ff)×Int×Int
def bR.L0.st:bR.L0.D→AS:=fun(s2_2,t15,t16,t17)=>⟨([.undef,.d (.slice eH) s2_2,.fn 99 (.nil)]++ba 12 ([.d (.slice eH) t15,.d ti t16,.d ti t17]++ba 14 [])),[],(List.replicate 32 [])⟩
abbrev bR.L0.Y0:=Unit
abbrev bR.L0.X0:=Unit
def bR.L0.bq:bR.L0.X0→Exit×AS:=fun x=>(.ret,⟨(ba 6 ([.d .bool false]++ba 25 [])),[],(List.replicate 32 [])⟩)
abbrev bR.L0.Y1:=Unit
abbrev bR.L0.X1:=Unit
def bR.L0.eP:bR.L0.X1→Exit×AS:=fun x=>(.exit 0,⟨(ba 32 []),[],(List.replicate 32 [])⟩)
abbrev bR.L0.X:=(bR.L0.X0)⊕(bR.L0.X1)
abbrev bR.L0.Y:=(bR.L0.Y0)⊕(bR.L0.Y1)
def bR.L0.out:bR.L0.X→Out (Exit×AS):=fun x=> .br x.isLeft (.get x.getLeft? fun a=> .ok (bR.L0.bq a)) (.get x.getRight? fun b=> .ok (bR.L0.eP b))
def bR.L0.add:bR.L0.D→bR.L0.Y→bR.L0.X:=fun(s2_2,t15,t16,t17) y=>match y with | .inl y=> .inl y | .inr z=> .inr (z)
abbrev bR.D:=(List ff)×(List ff)
def bR.st:bR.D→SA:=fun(s1,s2)=>([.d (.slice eH) s1,.d (.slice eH) s2,.fn 99 (.nil)],[])
abbrev bR.Y:=Bool
abbrev bR.X:=Bool
def bR.out:bR.X→aY:=fun x=>⟨.d .bool x,[],[]⟩
def bR.add:bR.D→bR.Y→bR.X:=fun(s1,s2) y=>y
def bR.L0.aB:bR.L0.D→Prop:=fun(b,a,m,i)=>(a.length≤1000000000∧∀x∈a,x.2.1.2.1.length≤1000000000)∧a.length=b.length∧m=a.length∧∃k:Nat,k≤a.length∧i=k
def bR.L0.F:bR.L0.D→bR.L0.Y:=fun(b,a,m,i)=>if a.drop i.toNat=b.drop i.toNat then .inr () else .inl ()
def bR.aB:bR.D→Prop:=fun(a,b)=>a.length≤1000000000∧∀x∈a,x.2.1.2.1.length≤1000000000
def bR.F:bR.D→bR.Y:=fun(a,b)=>decide (a=b)
noncomputable def bR.G:dR:=eO (P:=Tryz.prog) [cS.sg]
noncomputable def bR.L0.E:=bM.ct bR.L0.st bR.L0.aB bR.L0.add bR.L0.F bR.L0.out
noncomputable def bR.L0.call:bR.L0.D→Option bR.L0.X:=dg bR.L0.E bR.L0.st
noncomputable def bR.an:eu:= {loops:=jO [(4,{bh:=[1,2,15,16,17]})],outs:=jN [(4,{},{bh:=[6]})],fF:=ky [(4,bR.L0.E)]}
noncomputable def bR.A:= @cI Tryz.prog bR.G bR.an 0 Tryz.f103 _ bR.st
abbrev bR.Ok:=cJ @bR.A bR.aB bR.add bR.F bR.out
noncomputable def bR.L0.R:= @cf Tryz.prog bR.G bR.an 0 Tryz.f103 0 _ bR.L0.st
abbrev bR.L0.Ok:=ez Tryz.prog bR.G bR.an 0 Tryz.f103 0 bR.L0.st bR.L0.aB bR.L0.add bR.L0.F bR.L0.out
theorem bR.L0.run:bB bR.L0.call bR.L0.aB bR.L0.add bR.L0.F:=eE (eD [.d (.slice eH),.d (.slice eH),.d ti,.d ti] fun _=>by kernel_rfl)
theorem bR.L0.aH:jl @bR.L0.R bR.L0.st bR.L0.aB bR.L0.add bR.L0.F bR.L0.out bR.L0.Ok:=jL
theorem bR.L0.step{R:Type}(s2_2:(List ff))(t15:(List ff))(t16:Int)(t17:Int)(kn:AS→Option R)(kx:Exit→AS→Option R):bR.L0.R (s2_2,t15,t16,t17) kn kx=
  aJ ((fY t17 t16)) (
   aJ (eh t17 (((List.length t15):Nat):Int)) (
   aJ (eh t17 (((List.length s2_2):Nat):Int)) (
   aq (cS.call ((nth eH t15 (Int.toNat t17)),(nth eH s2_2 (Int.toNat t17)))) fun x1=>
   aJ ((!x1)) (
    kx (bR.L0.bq ()).1 (bR.L0.bq ()).2) (
    kn (bR.L0.st (s2_2,t15,t16,(bK .i64 t17 (1:Int)))))) none) none) (
   kx (bR.L0.eP ()).1 (bR.L0.eP ()).2):=by kernel_rfl
theorem bR.eq{R:Type}(s1:(List ff))(s2:(List ff))(k:aY→Option R):bR.A (s1,s2) k=
  aJ ((ku (((List.length s1):Nat):Int) (((List.length s2):Nat):Int))) (
   k (bR.out false)) (
   aq (bR.L0.call (s2,s1,(((List.length s1):Nat):Int),(0:Int))) fun x2=>
   aJ (x2.isLeft) (
    aq (x2.getLeft?) fun a3=>
    k (bR.out false)) (
    aq (x2.getRight?) fun b4=>
    k (bR.out true))):=by kernel_rfl
theorem bR.L0.ok:bR.L0.Ok:=by
 refine bR.L0.aH (fun(b,a,m,i)=>a.length - i.toNat) ?_
 rintro⟨b,a,m,i⟩ ⟨⟨hl,he⟩,hab,rfl,k,hk,rfl⟩
 have hl:a.length≤1000000000:=hl
 have hab:a.length=b.length:=hab
 have hk:k≤a.length:=hk
 by_cases h:k < a.length
 ·have h2:k < b.length:=by omega
  have n1:nth eH a k=a[k]:=cw (t:=eH) h
  have n2:nth eH b k=b[k]:=cw (t:=eH) h2
  have hd:(a.drop k=b.drop k)=(a[k]=b[k]∧a.drop (k+1)=b.drop (k+1)):=by rw[List.drop_eq_getElem_cons h,List.drop_eq_getElem_cons h2,List.cons.injEq]
  have step:∀ {R:Type} (kn:AS→Option R) (kx:Exit→AS→Option R),bR.L0.R (b,a,(a.length:Int),(k:Int)) kn kx=if a[k]=b[k] then kn (bR.L0.st (b,a,(a.length:Int),((k+1:Nat):Int))) else kx (bR.L0.bq ()).1 (bR.L0.bq ()).2:=by
   intro R kn kx
   rw[bR.L0.step,bw (by omega),bn (by omega) (by omega),bn (by omega) (by omega),Int.toNat_natCast,n1,n2,N.kA (by omega),cS.run (d:=(a[k],b[k])) (he _ (List.getElem_mem h))]
   simp only[az,ab,cS.add,cS.F]
   by_cases hx:a[k]=b[k]
   ·rw[aO hx,if_pos hx];rfl
   ·rw[aK hx,if_neg hx];rfl
  by_cases hx:a[k]=b[k]
  ·left
   refine⟨(b,a,(a.length:Int),((k+1:Nat):Int)),⟨⟨hl,he⟩,hab,rfl,k+1,by omega,rfl⟩,by simp only[Int.toNat_natCast];omega,?_,fun kn kx=> ?_⟩
   ·simp only[bR.L0.add,bR.L0.F,Int.toNat_natCast,hd,hx,true_and]
   ·rw[step,if_pos hx]
  ·right
   refine⟨bR.L0.bq (),?_,fun kn kx=> ?_⟩
   ·simp only[bR.L0.add,bR.L0.F,Int.toNat_natCast,hd,hx,false_and,if_false]
    rfl
   ·rw[step,if_neg hx]
 ·right
  obtain rfl:k=a.length:=by omega
  refine⟨bR.L0.eP (),?_,fun kn kx=> ?_⟩
  ·simp only[bR.L0.add,bR.L0.F,Int.toNat_natCast,List.drop_length]
   rw[hab,List.drop_length,if_pos rfl]
   rfl
  ·rw[bR.L0.step,bm (by omega),ay]
theorem bR.ok:bR.Ok:=by
 rintro⟨a,b⟩ hl
 have hl1:a.length≤1000000000:=hl.1
 rw[bR.eq]
 simp only[bR.add,bR.F]
 by_cases h:a.length=b.length
 ·rw[bT (by omega),ay,bR.L0.run (d:=(b,a,(a.length:Int),0)) ⟨hl,h,rfl,0,Nat.zero_le _,rfl⟩]
  simp only[ab,bR.L0.add,bR.L0.F,Int.toNat_zero,List.drop_zero]
  by_cases hx:a=b
  ·rw[if_pos hx,aO hx];rfl
  ·rw[if_neg hx,aK hx];rfl
 ·rw[dB (by omega),aK (fun x=>h (by rw[x]))];rfl
noncomputable def bR.E:=Entry.ct [some (.slice eH),some (.slice eH),none] bR.st bR.aB bR.add bR.F bR.out
noncomputable def bR.call:bR.D→Option bR.X:=bG bR.E bR.st
theorem bR.run:bB bR.call bR.aB bR.add bR.F:=cO (cM [.d (.slice eH),.d (.slice eH)] fun _=>by kernel_rfl)
noncomputable def bR.sg:SG Tryz.prog:=⟨103,aU,bR.E,.fn 1 (by kernel_rfl) bR.ok (And.intro (.ct bR.L0.ok (by kernel_rfl)) trivial)⟩
abbrev bk.L0.D:=(List fM)×(List fM)×Int×Int
def bk.L0.st:bk.L0.D→AS:=fun(s2_2,t15,t16,t17)=>⟨([.undef,.d (.slice eR) s2_2,.fn 102 (.cons (.ptr (.fB 0) 0 [] 0) (.nil))]++ba 12 ([.d (.slice eR) t15,.d ti t16,.d ti t17]++ba 14 [])),[.obj 0 false (.fn 101 (.nil))],(List.replicate 32 [])⟩
abbrev bk.L0.Y0:=Unit
abbrev bk.L0.X0:=Unit
def bk.L0.bq:bk.L0.X0→Exit×AS:=fun x=>(.ret,⟨(ba 6 ([.d .bool false]++ba 25 [])),[.obj 0 false (.fn 101 (.nil))],(List.replicate 32 [])⟩)
abbrev bk.L0.Y1:=Unit
abbrev bk.L0.X1:=Unit
def bk.L0.eP:bk.L0.X1→Exit×AS:=fun x=>(.exit 0,⟨(ba 32 []),[.obj 0 false (.fn 101 (.nil))],(List.replicate 32 [])⟩)
abbrev bk.L0.X:=(bk.L0.X0)⊕(bk.L0.X1)
abbrev bk.L0.Y:=(bk.L0.Y0)⊕(bk.L0.Y1)
def bk.L0.out:bk.L0.X→Out (Exit×AS):=fun x=> .br x.isLeft (.get x.getLeft? fun a=> .ok (bk.L0.bq a)) (.get x.getRight? fun b=> .ok (bk.L0.eP b))
def bk.L0.add:bk.L0.D→bk.L0.Y→bk.L0.X:=fun(s2_2,t15,t16,t17) y=>match y with | .inl y=> .inl y | .inr z=> .inr (z)
abbrev bk.D:=(List fM)×(List fM)
def bk.st:bk.D→SA:=fun(s1,s2)=>([.d (.slice eR) s1,.d (.slice eR) s2,.fn 102 (.cons (.ptr (.fB 0) 0 [] 0) (.nil))],[.obj 0 false (.fn 101 (.nil))])
abbrev bk.Y:=Bool
abbrev bk.X:=Bool
def bk.out:bk.X→aY:=fun x=>⟨.d .bool x,[.obj 0 false (.fn 101 (.nil))],[]⟩
def bk.add:bk.D→bk.Y→bk.X:=fun(s1,s2) y=>y
def bk.L0.aB:bk.L0.D→Prop:=fun(b,a,m,i)=>(a.length≤1000000000∧∀x∈a,x.2.1.1.length≤1000000000∧∀b∈x.2.1.1,b.1.length≤1000000000)∧a.length=b.length∧m=a.length∧∃k:Nat,k≤a.length∧i=k
def bk.L0.F:bk.L0.D→bk.L0.Y:=fun(b,a,m,i)=>if a.drop i.toNat=b.drop i.toNat then .inr () else .inl ()
def bk.aB:bk.D→Prop:=fun(a,b)=>a.length≤1000000000∧∀x∈a,x.2.1.1.length≤1000000000∧∀b∈x.2.1.1,b.1.length≤1000000000
def bk.F:bk.D→bk.Y:=fun(a,b)=>decide (a=b)
noncomputable def bk.G:dR:=eO (P:=Tryz.prog) [c9.sg]
noncomputable def bk.L0.E:=bM.ct bk.L0.st bk.L0.aB bk.L0.add bk.L0.F bk.L0.out
noncomputable def bk.L0.call:bk.L0.D→Option bk.L0.X:=dg bk.L0.E bk.L0.st
noncomputable def bk.an:eu:= {loops:=jO [(4,{bh:=[1,2,15,16,17]})],outs:=jN [(4,{},{bh:=[6]})],fF:=ky [(4,bk.L0.E)]}
noncomputable def bk.A:= @cI Tryz.prog bk.G bk.an 0 Tryz.f104 _ bk.st
abbrev bk.Ok:=cJ @bk.A bk.aB bk.add bk.F bk.out
noncomputable def bk.L0.R:= @cf Tryz.prog bk.G bk.an 0 Tryz.f104 0 _ bk.L0.st
abbrev bk.L0.Ok:=ez Tryz.prog bk.G bk.an 0 Tryz.f104 0 bk.L0.st bk.L0.aB bk.L0.add bk.L0.F bk.L0.out
theorem bk.L0.run:bB bk.L0.call bk.L0.aB bk.L0.add bk.L0.F:=eE (eD [.d (.slice eR),.d (.slice eR),.d ti,.d ti] fun _=>by kernel_rfl)
theorem bk.L0.aH:jl @bk.L0.R bk.L0.st bk.L0.aB bk.L0.add bk.L0.F bk.L0.out bk.L0.Ok:=jL
theorem bk.L0.step{R:Type}(s2_2:(List fM))(t15:(List fM))(t16:Int)(t17:Int)(kn:AS→Option R)(kx:Exit→AS→Option R):bk.L0.R (s2_2,t15,t16,t17) kn kx=
  aJ ((fY t17 t16)) (
   aJ (eh t17 (((List.length t15):Nat):Int)) (
   aJ (eh t17 (((List.length s2_2):Nat):Int)) (
   aq (c9.call ((nth eR t15 (Int.toNat t17)),(nth eR s2_2 (Int.toNat t17)))) fun x1=>
   aJ ((!x1)) (
    kx (bk.L0.bq ()).1 (bk.L0.bq ()).2) (
    kn (bk.L0.st (s2_2,t15,t16,(bK .i64 t17 (1:Int)))))) none) none) (
   kx (bk.L0.eP ()).1 (bk.L0.eP ()).2):=by kernel_rfl
theorem bk.eq{R:Type}(s1:(List fM))(s2:(List fM))(k:aY→Option R):bk.A (s1,s2) k=
  aJ ((ku (((List.length s1):Nat):Int) (((List.length s2):Nat):Int))) (
   k (bk.out false)) (
   aq (bk.L0.call (s2,s1,(((List.length s1):Nat):Int),(0:Int))) fun x2=>
   aJ (x2.isLeft) (
    aq (x2.getLeft?) fun a3=>
    k (bk.out false)) (
    aq (x2.getRight?) fun b4=>
    k (bk.out true))):=by kernel_rfl
theorem bk.L0.ok:bk.L0.Ok:=by
 refine bk.L0.aH (fun(b,a,m,i)=>a.length - i.toNat) ?_
 rintro⟨b,a,m,i⟩ ⟨⟨hl,he⟩,hab,rfl,k,hk,rfl⟩
 have hl:a.length≤1000000000:=hl
 have hab:a.length=b.length:=hab
 have hk:k≤a.length:=hk
 by_cases h:k < a.length
 ·have h2:k < b.length:=by omega
  have n1:nth eR a k=a[k]:=cw (t:=eR) h
  have n2:nth eR b k=b[k]:=cw (t:=eR) h2
  have hd:(a.drop k=b.drop k)=(a[k]=b[k]∧a.drop (k+1)=b.drop (k+1)):=by rw[List.drop_eq_getElem_cons h,List.drop_eq_getElem_cons h2,List.cons.injEq]
  have step:∀ {R:Type} (kn:AS→Option R) (kx:Exit→AS→Option R),bk.L0.R (b,a,(a.length:Int),(k:Int)) kn kx=if a[k]=b[k] then kn (bk.L0.st (b,a,(a.length:Int),((k+1:Nat):Int))) else kx (bk.L0.bq ()).1 (bk.L0.bq ()).2:=by
   intro R kn kx
   rw[bk.L0.step,bw (by omega),bn (by omega) (by omega),bn (by omega) (by omega),Int.toNat_natCast,n1,n2,N.kA (by omega),c9.run (d:=(a[k],b[k])) (he _ (List.getElem_mem h))]
   simp only[az,ab,c9.add,c9.F]
   by_cases hx:a[k]=b[k]
   ·rw[aO hx,if_pos hx];rfl
   ·rw[aK hx,if_neg hx];rfl
  by_cases hx:a[k]=b[k]
  ·left
   refine⟨(b,a,(a.length:Int),((k+1:Nat):Int)),⟨⟨hl,he⟩,hab,rfl,k+1,by omega,rfl⟩,by simp only[Int.toNat_natCast];omega,?_,fun kn kx=> ?_⟩
   ·simp only[bk.L0.add,bk.L0.F,Int.toNat_natCast,hd,hx,true_and]
   ·rw[step,if_pos hx]
  ·right
   refine⟨bk.L0.bq (),?_,fun kn kx=> ?_⟩
   ·simp only[bk.L0.add,bk.L0.F,Int.toNat_natCast,hd,hx,false_and,if_false]
    rfl
   ·rw[step,if_neg hx]
 ·right
  obtain rfl:k=a.length:=by omega
  refine⟨bk.L0.eP (),?_,fun kn kx=> ?_⟩
  ·simp only[bk.L0.add,bk.L0.F,Int.toNat_natCast,List.drop_length]
   rw[hab,List.drop_length,if_pos rfl]
   rfl
  ·rw[bk.L0.step,bm (by omega),ay]
theorem bk.ok:bk.Ok:=by
 rintro⟨a,b⟩ hl
 have hl1:a.length≤1000000000:=hl.1
 rw[bk.eq]
 simp only[bk.add,bk.F]
 by_cases h:a.length=b.length
 ·rw[bT (by omega),ay,bk.L0.run (d:=(b,a,(a.length:Int),0)) ⟨hl,h,rfl,0,Nat.zero_le _,rfl⟩]
  simp only[ab,bk.L0.add,bk.L0.F,Int.toNat_zero,List.drop_zero]
  by_cases hx:a=b
  ·rw[if_pos hx,aO hx];rfl
  ·rw[if_neg hx,aK hx];rfl
 ·rw[dB (by omega),aK (fun x=>h (by rw[x]))];rfl
noncomputable def bk.E:=Entry.ct [some (.slice eR),some (.slice eR),none] bk.st bk.aB bk.add bk.F bk.out
noncomputable def bk.call:bk.D→Option bk.X:=bG bk.E bk.st
theorem bk.run:bB bk.call bk.aB bk.add bk.F:=cO (cM [.d (.slice eR),.d (.slice eR)] fun _=>by kernel_rfl)
noncomputable def bk.sg:SG Tryz.prog:=⟨104,aU,bk.E,.fn 1 (by kernel_rfl) bk.ok (And.intro (.ct bk.L0.ok (by kernel_rfl)) trivial)⟩
def nX(t:eX):Prop:=(t.1.length≤1000000000∧∀x∈t.1,x.2.1.2.1.length≤1000000000)∧t.2.1.length≤1000000000∧∀x∈t.2.1,x.2.1.1.length≤1000000000∧∀b∈x.2.1.1,b.1.length≤1000000000
abbrev dv.D:=eX×eX
def dv.st:dv.D→SA:=fun(a,b)=>([.d gb a,.d gb b],[])
abbrev dv.Y:=Bool
abbrev dv.X:=Bool
def dv.out:dv.X→aY:=fun x=>⟨.d .bool x,[],[]⟩
def dv.add:dv.D→dv.Y→dv.X:=fun(a,b) y=>y
def dv.aB:dv.D→Prop:=fun(a,b)=>nX a
def dv.F:dv.D→dv.Y:=fun(a,b)=>decide (a=b)
noncomputable def dv.G:dR:=eO (P:=Tryz.prog) [bR.sg,bk.sg]
noncomputable def dv.an:eu:= {}
noncomputable def dv.A:= @cI Tryz.prog dv.G dv.an 0 Tryz.f42 _ dv.st
abbrev dv.Ok:=cJ @dv.A dv.aB dv.add dv.F dv.out
theorem dv.eq{R:Type}(a:eX)(b:eX)(k:aY→Option R):dv.A (a,b) k=
  aJ ((nN a.2.2.1 b.2.2.1)) (
   aq (bR.call (a.1,b.1)) fun x1=>
   aJ (x1) (
    aq (bk.call (a.2.1,b.2.1)) fun x2=>
    k (dv.out x2)) (
    k (dv.out false))) (
   k (dv.out false)):=by kernel_rfl
theorem dv.ok:dv.Ok:=by
 rintro⟨⟨i1,o1,n1,u1⟩,⟨i2,o2,n2,u2⟩⟩ h
 have h:nX (i1,o1,n1,u1):=h
 rw[dv.eq,bR.run (d:=(i1,i2)) h.1,bk.run (d:=(o1,o2)) h.2]
 simp only[ab,bR.add,bR.F,bk.add,bk.F,dv.add,dv.F]
 by_cases e1:n1=n2
 ·by_cases e2:i1=i2
  ·by_cases e3:o1=o2
   ·rw[dq e1,aO e2,aO e3,aO (by rw[e1,e2,e3])];rfl
   ·rw[dq e1,aO e2,aK e3,aK (by rintro⟨⟩;exact e3 rfl)];rfl
  ·rw[dq e1,aK e2,aK (p:=(i1,o1,n1,u1)=(i2,o2,n2,u2)) (by rintro⟨⟩;exact e2 rfl)];rfl
 ·rw[eL e1,aK (p:=(i1,o1,n1,u1)=(i2,o2,n2,u2)) (by rintro⟨⟩;exact e1 rfl)];rfl
noncomputable def dv.E:=Entry.ct [some gb,some gb] dv.st dv.aB dv.add dv.F dv.out
noncomputable def dv.call:dv.D→Option dv.X:=bG dv.E dv.st
theorem dv.run:bB dv.call dv.aB dv.add dv.F:=cO (cM [.d gb,.d gb] fun _=>by kernel_rfl)
noncomputable def dv.sg:SG Tryz.prog:=⟨42,aU,dv.E,.fn 0 (by kernel_rfl) dv.ok trivial⟩
set_option synthInstance.maxSize 5000
def jH(x:ff):Bool:=decide (x.2.1.2.1.length≤14)
def jG(b:fX):Bool:=decide (b.1.length≤14)
def iw(o:fM):Bool:=decide (o.2.1.1.length≤6) && o.2.1.1.all jG
def qd(t:eX):Bool:=decide (t.1.length≤66∧t.2.1.length≤66) && (t.1.all jH && t.2.1.all iw)
abbrev aa.L0.D:=eX×Int
def aa.L0.st:aa.L0.D→AS:=fun(t_2,i)=>⟨([.undef,.eC gb t_2,.undef,.d ti i]++ba 69 []),[],(List.replicate 73 [])⟩
abbrev aa.L0.Y0:=Unit
abbrev aa.L0.X0:=Unit
def aa.L0.bq:aa.L0.X0→Exit×AS:=fun x=>(.ret,⟨([.undef,.undef,.d .bool false]++ba 70 []),[],(List.replicate 73 [])⟩)
abbrev aa.L0.Y1:=Unit
abbrev aa.L0.X1:=eX
def aa.L0.eP:aa.L0.X1→Exit×AS:=fun x=>(.exit 0,⟨([.undef,.eC gb x]++ba 71 []),[],(List.replicate 73 [])⟩)
abbrev aa.L0.X:=(aa.L0.X0)⊕(aa.L0.X1)
abbrev aa.L0.Y:=(aa.L0.Y0)⊕(aa.L0.Y1)
def aa.L0.out:aa.L0.X→Out (Exit×AS):=fun x=> .br x.isLeft (.get x.getLeft? fun a=> .ok (aa.L0.bq a)) (.get x.getRight? fun b=> .ok (aa.L0.eP b))
def aa.L0.add:aa.L0.D→aa.L0.Y→aa.L0.X:=fun(t_2,i) y=>match y with | .inl y=> .inl y | .inr z=> .inr (t_2)
abbrev aa.L1.D:=eX×Int
def aa.L1.st:aa.L1.D→AS:=fun(t_3,i_2)=>⟨([.undef,.eC gb t_3,.undef,.undef,.d ti i_2]++ba 68 []),[],(List.replicate 73 [])⟩
abbrev aa.L1.Y0:=Unit
abbrev aa.L1.X0:=Unit
def aa.L1.bq:aa.L1.X0→Exit×AS:=fun x=>(.ret,⟨([.undef,.undef,.d .bool false]++ba 70 []),[],(List.replicate 73 [])⟩)
abbrev aa.L1.Y1:=Unit
abbrev aa.L1.X1:=Unit
def aa.L1.eP:aa.L1.X1→Exit×AS:=fun x=>(.exit 2,⟨(ba 73 []),[],(List.replicate 73 [])⟩)
abbrev aa.L1.X:=(aa.L1.X0)⊕(aa.L1.X1)
abbrev aa.L1.Y:=(aa.L1.Y0)⊕(aa.L1.Y1)
def aa.L1.out:aa.L1.X→Out (Exit×AS):=fun x=> .br x.isLeft (.get x.getLeft? fun a=> .ok (aa.L1.bq a)) (.get x.getRight? fun b=> .ok (aa.L1.eP b))
def aa.L1.add:aa.L1.D→aa.L1.Y→aa.L1.X:=fun(t_3,i_2) y=>match y with | .inl y=> .inl y | .inr z=> .inr (z)
abbrev aa.L2.D:=eX×Int×Int
def aa.L2.st:aa.L2.D→AS:=fun(t_4,i_3,kv)=>⟨([.undef,.eC gb t_4,.undef,.undef,.d ti i_3,.d ti kv]++ba 67 []),[],(List.replicate 73 [])⟩
abbrev aa.L2.Y0:=Unit
abbrev aa.L2.X0:=Unit
def aa.L2.bq:aa.L2.X0→Exit×AS:=fun x=>(.ret,⟨([.undef,.undef,.d .bool false]++ba 70 []),[],(List.replicate 73 [])⟩)
abbrev aa.L2.Y1:=Unit
abbrev aa.L2.X1:=eX×Int
def aa.L2.eP:aa.L2.X1→Exit×AS:=fun x=>(.exit 4,⟨([.undef,.eC gb x.1,.undef,.undef,.d ti x.2]++ba 68 []),[],(List.replicate 73 [])⟩)
abbrev aa.L2.X:=(aa.L2.X0)⊕(aa.L2.X1)
abbrev aa.L2.Y:=(aa.L2.Y0)⊕(aa.L2.Y1)
def aa.L2.out:aa.L2.X→Out (Exit×AS):=fun x=> .br x.isLeft (.get x.getLeft? fun a=> .ok (aa.L2.bq a)) (.get x.getRight? fun b=> .ok (aa.L2.eP b))
def aa.L2.add:aa.L2.D→aa.L2.Y→aa.L2.X:=fun(t_4,i_3,kv) y=>match y with | .inl y=> .inl y | .inr z=> .inr ((t_4,i_3))
abbrev aa.D:=eX
def aa.st:aa.D→SA:=fun t=>([.d gb t],[])
abbrev aa.Y:=Bool
abbrev aa.X:=Bool
def aa.out:aa.X→aY:=fun x=>⟨.d .bool x,[],[]⟩
def aa.add:aa.D→aa.Y→aa.X:=fun t y=>y
def aa.L0.aB:aa.L0.D→Prop:=fun(t,i)=>t.1.length≤1000000000∧∃k:Nat,k≤t.1.length∧i=k
def aa.L0.F:aa.L0.D→aa.L0.Y:=fun(t,i)=>if(List.drop (Int.toNat i) t.1).all jH then .inr () else .inl ()
def aa.L2.aB:aa.L2.D→Prop:=fun(t,j,i)=>(nth eR t.2.1 (Int.toNat j)).2.1.1.length≤1000000000∧∃k:Nat,k≤(nth eR t.2.1 (Int.toNat j)).2.1.1.length∧i=k∧(0≤j∧j < (t.2.1.length:Int))
def aa.L2.F:aa.L2.D→aa.L2.Y:=fun(t,j,i)=>if(List.drop (Int.toNat i) (nth eR t.2.1 (Int.toNat j)).2.1.1).all jG then .inr () else .inl ()
def aa.L1.aB:aa.L1.D→Prop:=fun(t,i)=>t.2.1.length≤1000000000∧∃k:Nat,k≤t.2.1.length∧i=k
def aa.L1.F:aa.L1.D→aa.L1.Y:=fun(t,i)=>if(List.drop (Int.toNat i) t.2.1).all iw then .inr () else .inl ()
def aa.aB:aa.D→Prop:=fun _=>True
def aa.F:aa.D→aa.Y:=fun t=>qd t
noncomputable def aa.G:dR:=eO (P:=Tryz.prog) []
noncomputable def aa.L0.E:=bM.ct aa.L0.st aa.L0.aB aa.L0.add aa.L0.F aa.L0.out
noncomputable def aa.L0.call:aa.L0.D→Option aa.L0.X:=dg aa.L0.E aa.L0.st
noncomputable def aa.L1.E:=bM.ct aa.L1.st aa.L1.aB aa.L1.add aa.L1.F aa.L1.out
noncomputable def aa.L1.call:aa.L1.D→Option aa.L1.X:=dg aa.L1.E aa.L1.st
noncomputable def aa.L2.E:=bM.ct aa.L2.st aa.L2.aB aa.L2.add aa.L2.F aa.L2.out
noncomputable def aa.L2.call:aa.L2.D→Option aa.L2.X:=dg aa.L2.E aa.L2.st
noncomputable def aa.an:eu:= {loops:=jO [(4,{bh:=[1,3]}),(9,{bh:=[1,4]}),(14,{bh:=[1,4,5]})],outs:=jN [(4,{bh:=[1]},{bh:=[2]}),(9,{},{bh:=[2]}),(14,{bh:=[1,4]},{bh:=[2]})],fF:=ky [(4,aa.L0.E),(9,aa.L1.E),(14,aa.L2.E)]}
noncomputable def aa.A:= @cI Tryz.prog aa.G aa.an 0 Tryz.f22 _ aa.st
abbrev aa.Ok:=cJ @aa.A aa.aB aa.add aa.F aa.out
noncomputable def aa.L0.R:= @cf Tryz.prog aa.G aa.an 0 Tryz.f22 0 _ aa.L0.st
abbrev aa.L0.Ok:=ez Tryz.prog aa.G aa.an 0 Tryz.f22 0 aa.L0.st aa.L0.aB aa.L0.add aa.L0.F aa.L0.out
noncomputable def aa.L1.R:= @cf Tryz.prog aa.G aa.an 0 Tryz.f22 1 _ aa.L1.st
abbrev aa.L1.Ok:=ez Tryz.prog aa.G aa.an 0 Tryz.f22 1 aa.L1.st aa.L1.aB aa.L1.add aa.L1.F aa.L1.out
noncomputable def aa.L2.R:= @cf Tryz.prog aa.G aa.an 0 Tryz.f22 2 _ aa.L2.st
abbrev aa.L2.Ok:=ez Tryz.prog aa.G aa.an 0 Tryz.f22 2 aa.L2.st aa.L2.aB aa.L2.add aa.L2.F aa.L2.out
theorem aa.L0.run:bB aa.L0.call aa.L0.aB aa.L0.add aa.L0.F:=eE (eD [.d gb,.d ti] fun _=>by kernel_rfl)
theorem aa.L0.aH:jl @aa.L0.R aa.L0.st aa.L0.aB aa.L0.add aa.L0.F aa.L0.out aa.L0.Ok:=jL
theorem aa.L0.step{R:Type}(t_2:eX)(i:Int)(kn:AS→Option R)(kx:Exit→AS→Option R):aa.L0.R (t_2,i) kn kx=
  aJ ((fY i (((List.length t_2.1):Nat):Int))) (
   aJ (eh i (((List.length t_2.1):Nat):Int)) (
   aJ ((mG (((List.length (nth eH t_2.1 (Int.toNat i)).2.1.2.1):Nat):Int) (14:Int))) (
    kx (aa.L0.bq ()).1 (aa.L0.bq ()).2) (
    kn (aa.L0.st (t_2,(bK .i64 i (1:Int)))))) none) (
   kx (aa.L0.eP t_2).1 (aa.L0.eP t_2).2):=by kernel_rfl
theorem aa.L1.run:bB aa.L1.call aa.L1.aB aa.L1.add aa.L1.F:=eE (eD [.d gb,.d ti] fun _=>by kernel_rfl)
theorem aa.L1.aH:jl @aa.L1.R aa.L1.st aa.L1.aB aa.L1.add aa.L1.F aa.L1.out aa.L1.Ok:=jL
theorem aa.L1.step{R:Type}(t_3:eX)(i_2:Int)(kn:AS→Option R)(kx:Exit→AS→Option R):aa.L1.R (t_3,i_2) kn kx=
  aJ ((fY i_2 (((List.length t_3.2.1):Nat):Int))) (
   aJ (eh i_2 (((List.length t_3.2.1):Nat):Int)) (
   aJ ((mG (((List.length (nth eR t_3.2.1 (Int.toNat i_2)).2.1.1):Nat):Int) (6:Int))) (
    kx (aa.L1.bq ()).1 (aa.L1.bq ()).2) (
    aq (aa.L2.call (t_3,i_2,(0:Int))) fun x1=>
    aJ (x1.isLeft) (
     aq (x1.getLeft?) fun a2=>
     kx (aa.L1.bq ()).1 (aa.L1.bq ()).2) (
     aq (x1.getRight?) fun b3=>
     kn (aa.L1.st (b3.1,(bK .i64 b3.2 (1:Int))))))) none) (
   kx (aa.L1.eP ()).1 (aa.L1.eP ()).2):=by kernel_rfl
theorem aa.L2.run:bB aa.L2.call aa.L2.aB aa.L2.add aa.L2.F:=eE (eD [.d gb,.d ti,.d ti] fun _=>by kernel_rfl)
theorem aa.L2.aH:jl @aa.L2.R aa.L2.st aa.L2.aB aa.L2.add aa.L2.F aa.L2.out aa.L2.Ok:=jL
theorem aa.L2.step{R:Type}(t_4:eX)(i_3:Int)(kv:Int)(kn:AS→Option R)(kx:Exit→AS→Option R):aa.L2.R (t_4,i_3,kv) kn kx=
  aJ (eh i_3 (((List.length t_4.2.1):Nat):Int)) (
  aJ ((fY kv (((List.length (nth eR t_4.2.1 (Int.toNat i_3)).2.1.1):Nat):Int))) (
   aJ (eh i_3 (((List.length t_4.2.1):Nat):Int)) (
   aJ (eh kv (((List.length (nth eR t_4.2.1 (Int.toNat i_3)).2.1.1):Nat):Int)) (
   aJ ((mG (((List.length (nth fe (nth eR t_4.2.1 (Int.toNat i_3)).2.1.1 (Int.toNat kv)).1):Nat):Int) (14:Int))) (
    kx (aa.L2.bq ()).1 (aa.L2.bq ()).2) (
    kn (aa.L2.st (t_4,i_3,(bK .i64 kv (1:Int)))))) none) none) (
   kx (aa.L2.eP (t_4,i_3)).1 (aa.L2.eP (t_4,i_3)).2)) none:=by kernel_rfl
theorem aa.eq{R:Type}(t:eX)(k:aY→Option R):aa.A t k=
  aJ ((mG (((List.length t.1):Nat):Int) (66:Int))) (
   k (aa.out false)) (
   aJ ((mG (((List.length t.2.1):Nat):Int) (66:Int))) (
    k (aa.out false)) (
    aq (aa.L0.call (t,(0:Int))) fun x1=>
    aJ (x1.isLeft) (
     aq (x1.getLeft?) fun a2=>
     k (aa.out false)) (
     aq (x1.getRight?) fun b3=>
     aq (aa.L1.call (b3,(0:Int))) fun x7=>
     aJ (x7.isLeft) (
      aq (x7.getLeft?) fun a8=>
      k (aa.out false)) (
      aq (x7.getRight?) fun b9=>
      k (aa.out true))))):=by kernel_rfl
theorem aa.L0.ok:aa.L0.Ok:=by
 refine aa.L0.aH (fun(t,i)=>t.1.length - Int.toNat i) ?_
 rintro⟨t,i⟩ ⟨hlen,k,hk,rfl⟩
 have hlen:t.1.length≤1000000000:=hlen
 have hk:k≤t.1.length:=hk
 by_cases h:k < t.1.length
 ·have n1:nth eH t.1 k=t.1[k]:=cw (t:=eH) h
  have hd:(List.drop k t.1).all jH=(jH t.1[k] && (List.drop (k+1) t.1).all jH):=by rw[List.drop_eq_getElem_cons h,List.all_cons]
  have step:∀ {R:Type} (kn:AS→Option R) (kx:Exit→AS→Option R),aa.L0.R (t,(k:Int)) kn kx=aJ (jH t.1[k]) (kn (aa.L0.st (t,((k+1:Nat):Int)))) (kx (aa.L0.bq ()).1 (aa.L0.bq ()).2):=by
   intro R kn kx
   rw[aa.L0.step,bw (by omega),bn (show(0:Int)≤(k:Int) by omega) (by omega),Int.toNat_natCast,n1]
   simp only[az]
   rw[N.kA (by omega)]
   unfold jH
   by_cases hs:t.1[k].2.1.2.1.length≤14
   ·rw[dE (by omega),aO hs];rfl
   ·rw[dQ (by omega),aK hs];rfl
  cases hp:jH t.1[k]
  ·right
   refine⟨aa.L0.bq (),?_,fun kn kx=> ?_⟩
   ·simp only[aa.L0.add,aa.L0.F,Int.toNat_natCast,hd,hp,Bool.false_and,Bool.false_eq_true,if_false]
    rfl
   ·rw[step,hp,ay]
  ·left
   refine⟨(t,((k+1:Nat):Int)),⟨hlen,k+1,by omega,rfl⟩,by simp only[Int.toNat_natCast];omega,?_,fun kn kx=> ?_⟩
   ·simp only[aa.L0.add,aa.L0.F,Int.toNat_natCast,hd,hp,Bool.true_and]
   ·rw[step,hp,az]
 ·right
  obtain rfl:k=t.1.length:=by omega
  refine⟨aa.L0.eP t,?_,fun kn kx=> ?_⟩
  ·simp only[aa.L0.add,aa.L0.F,Int.toNat_natCast,List.drop_length]
   rfl
  ·rw[aa.L0.step,bm (by omega),ay]
theorem aa.L2.ok:aa.L2.Ok:=by
 refine aa.L2.aH (fun(t,j,i)=>(nth eR t.2.1 (Int.toNat j)).2.1.1.length - Int.toNat i) ?_
 rintro⟨t,j,i⟩ ⟨hlen,k,hk,rfl,hj⟩
 have hlen:(nth eR t.2.1 (Int.toNat j)).2.1.1.length≤1000000000:=hlen
 have hk:k≤(nth eR t.2.1 (Int.toNat j)).2.1.1.length:=hk
 have hj:0≤j∧j < (t.2.1.length:Int):=hj
 by_cases h:k < (nth eR t.2.1 (Int.toNat j)).2.1.1.length
 ·have n1:nth fe (nth eR t.2.1 (Int.toNat j)).2.1.1 k=(nth eR t.2.1 (Int.toNat j)).2.1.1[k]:=cw (t:=fe) h
  have hd:(List.drop k (nth eR t.2.1 (Int.toNat j)).2.1.1).all jG=(jG (nth eR t.2.1 (Int.toNat j)).2.1.1[k] && (List.drop (k+1) (nth eR t.2.1 (Int.toNat j)).2.1.1).all jG):=by rw[List.drop_eq_getElem_cons h,List.all_cons]
  have step:∀ {R:Type} (kn:AS→Option R) (kx:Exit→AS→Option R),aa.L2.R (t,j,(k:Int)) kn kx=aJ (jG (nth eR t.2.1 (Int.toNat j)).2.1.1[k]) (kn (aa.L2.st (t,j,((k+1:Nat):Int)))) (kx (aa.L2.bq ()).1 (aa.L2.bq ()).2):=by
   intro R kn kx
   rw[aa.L2.step,bn hj.1 hj.2,az,bw (by omega),bn (show(0:Int)≤(k:Int) by omega) (by omega),Int.toNat_natCast,n1]
   simp only[az]
   rw[N.kA (by omega)]
   unfold jG
   by_cases hs:(nth eR t.2.1 (Int.toNat j)).2.1.1[k].1.length≤14
   ·rw[dE (by omega),aO hs];rfl
   ·rw[dQ (by omega),aK hs];rfl
  cases hp:jG (nth eR t.2.1 (Int.toNat j)).2.1.1[k]
  ·right
   refine⟨aa.L2.bq (),?_,fun kn kx=> ?_⟩
   ·simp only[aa.L2.add,aa.L2.F,Int.toNat_natCast,hd,hp,Bool.false_and,Bool.false_eq_true,if_false]
    rfl
   ·rw[step,hp,ay]
  ·left
   refine⟨(t,j,((k+1:Nat):Int)),⟨hlen,k+1,by omega,rfl,hj⟩,by simp only[Int.toNat_natCast];omega,?_,fun kn kx=> ?_⟩
   ·simp only[aa.L2.add,aa.L2.F,Int.toNat_natCast,hd,hp,Bool.true_and]
   ·rw[step,hp,az]
 ·right
  obtain rfl:k=(nth eR t.2.1 (Int.toNat j)).2.1.1.length:=by omega
  refine⟨aa.L2.eP (t,j),?_,fun kn kx=> ?_⟩
  ·simp only[aa.L2.add,aa.L2.F,Int.toNat_natCast,List.drop_length]
   rfl
  ·rw[aa.L2.step,bn hj.1 hj.2,az,bm (by omega),ay]
theorem aa.L1.ok:aa.L1.Ok:=by
 refine aa.L1.aH (fun(t,i)=>t.2.1.length - Int.toNat i) ?_
 rintro⟨t,i⟩ ⟨hlen,k,hk,rfl⟩
 have hlen:t.2.1.length≤1000000000:=hlen
 have hk:k≤t.2.1.length:=hk
 by_cases h:k < t.2.1.length
 ·have n1:nth eR t.2.1 k=t.2.1[k]:=cw (t:=eR) h
  have hd:(List.drop k t.2.1).all iw=(iw t.2.1[k] && (List.drop (k+1) t.2.1).all iw):=by rw[List.drop_eq_getElem_cons h,List.all_cons]
  have step:∀ {R:Type} (kn:AS→Option R) (kx:Exit→AS→Option R),aa.L1.R (t,(k:Int)) kn kx=aJ (iw t.2.1[k]) (kn (aa.L1.st (t,((k+1:Nat):Int)))) (kx (aa.L1.bq ()).1 (aa.L1.bq ()).2):=by
   intro R kn kx
   rw[aa.L1.step,bw (by omega),bn (show(0:Int)≤(k:Int) by omega) (by omega),Int.toNat_natCast,n1]
   simp only[az]
   unfold iw
   by_cases hs:t.2.1[k].2.1.1.length≤6
   ·rw[dE (by omega),aO hs,ay,aa.L2.run (d:=(t,(k:Int),0)) ⟨by rw[Int.toNat_natCast,n1];show t.2.1[k].2.1.1.length≤_;omega,0,Nat.zero_le _,rfl,by show(0:Int)≤(k:Int);omega,by show(k:Int) < (t.2.1.length:Int);omega⟩]
    simp only[ab,aa.L2.add,aa.L2.F,Int.toNat_natCast,n1,Int.toNat_zero,List.drop_zero,Bool.true_and]
    cases t.2.1[k].2.1.1.all jG
    ·rfl
    ·simp only[if_true,Sum.isLeft_inr,Sum.getRight?_inr,ay,ab,az]
     rw[N.kA (by omega)]
   ·rw[dQ (by omega),aK hs];rfl
  cases hp:iw t.2.1[k]
  ·right
   refine⟨aa.L1.bq (),?_,fun kn kx=> ?_⟩
   ·simp only[aa.L1.add,aa.L1.F,Int.toNat_natCast,hd,hp,Bool.false_and,Bool.false_eq_true,if_false]
    rfl
   ·rw[step,hp,ay]
  ·left
   refine⟨(t,((k+1:Nat):Int)),⟨hlen,k+1,by omega,rfl⟩,by simp only[Int.toNat_natCast];omega,?_,fun kn kx=> ?_⟩
   ·simp only[aa.L1.add,aa.L1.F,Int.toNat_natCast,hd,hp,Bool.true_and]
   ·rw[step,hp,az]
 ·right
  obtain rfl:k=t.2.1.length:=by omega
  refine⟨aa.L1.eP (),?_,fun kn kx=> ?_⟩
  ·simp only[aa.L1.add,aa.L1.F,Int.toNat_natCast,List.drop_length]
   rfl
  ·rw[aa.L1.step,bm (by omega),ay]
theorem aa.ok:aa.Ok:=by
 intro t _
 rw[aa.eq]
 simp only[aa.add,aa.F,qd]
 by_cases h1:t.1.length≤66
 ·by_cases h2:t.2.1.length≤66
  ·rw[dE (by omega),dE (by omega),ay,ay,aO ⟨h1,h2⟩,aa.L0.run (d:=(t,0)) ⟨by show t.1.length≤_;omega,0,Nat.zero_le _,rfl⟩]
   simp only[ab,aa.L0.add,aa.L0.F,Int.toNat_zero,List.drop_zero,Bool.true_and]
   cases t.1.all jH
   ·rfl
   ·simp only[if_true,Sum.isLeft_inr,Sum.getRight?_inr,ay,ab,Bool.true_and]
    rw[aa.L1.run (d:=(t,0)) ⟨by show t.2.1.length≤_;omega,0,Nat.zero_le _,rfl⟩]
    simp only[ab,aa.L1.add,aa.L1.F,Int.toNat_zero,List.drop_zero]
    cases t.2.1.all iw <;> rfl
  ·rw[dE (by omega),dQ (by omega),aK (fun x=>h2 x.2)];rfl
 ·rw[dQ (by omega),aK (fun x=>h1 x.1)];rfl
noncomputable def aa.E:=Entry.ct [some gb] aa.st aa.aB aa.add aa.F aa.out
noncomputable def aa.call:aa.D→Option aa.X:=bG aa.E aa.st
theorem aa.run:bB aa.call aa.aB aa.add aa.F:=cO (cM [.d gb] fun _=>by kernel_rfl)
noncomputable def aa.sg:SG Tryz.prog:=⟨22,aU,aa.E,.fn 3 (by kernel_rfl) aa.ok (And.intro (.ct aa.L0.ok (by kernel_rfl)) (And.intro (.ct aa.L1.ok (by kernel_rfl)) (And.intro (.ct aa.L2.ok (by kernel_rfl)) trivial)))⟩
abbrev aT.L0.D:=mE×mE×Int
def aT.L0.st:aT.L0.D→AS:=fun(a_2,b_2,i)=>⟨([.undef,.undef,.eC sC a_2,.eC sC b_2,.undef,.d ti i]++ba 39 []),[],(List.replicate 45 [])⟩
abbrev aT.L0.Y0:=Unit
abbrev aT.L0.X0:=Unit
def aT.L0.bq:aT.L0.X0→Exit×AS:=fun x=>(.ret,⟨(ba 4 ([.d .bool false]++ba 40 [])),[],(List.replicate 45 [])⟩)
abbrev aT.L0.Y1:=Unit
abbrev aT.L0.X1:=Unit
def aT.L0.eP:aT.L0.X1→Exit×AS:=fun x=>(.exit 0,⟨(ba 45 []),[],(List.replicate 45 [])⟩)
abbrev aT.L0.X:=(aT.L0.X0)⊕(aT.L0.X1)
abbrev aT.L0.Y:=(aT.L0.Y0)⊕(aT.L0.Y1)
def aT.L0.out:aT.L0.X→Out (Exit×AS):=fun x=> .br x.isLeft (.get x.getLeft? fun a=> .ok (aT.L0.bq a)) (.get x.getRight? fun b=> .ok (aT.L0.eP b))
def aT.L0.add:aT.L0.D→aT.L0.Y→aT.L0.X:=fun(a_2,b_2,i) y=>match y with | .inl y=> .inl y | .inr z=> .inr (z)
abbrev aT.D:=mE×mE
def aT.st:aT.D→SA:=fun(a,b)=>([.d sC a,.d sC b],[])
abbrev aT.Y:=Bool
abbrev aT.X:=Bool
def aT.out:aT.X→aY:=fun x=>⟨.d .bool x,[],[]⟩
def aT.add:aT.D→aT.Y→aT.X:=fun(a,b) y=>y
def aT.L0.aB:aT.L0.D→Prop:=fun(a,b,i)=>a.2.1.length≤1000000000∧a.2.1.length=b.2.1.length∧∃k:Nat,k≤a.2.1.length∧i=k
def aT.L0.F:aT.L0.D→aT.L0.Y:=fun(a,b,i)=>if List.drop (Int.toNat i) a.2.1=List.drop (Int.toNat i) b.2.1 then .inr () else .inl ()
def aT.aB:aT.D→Prop:=fun(a,b)=>a.2.1.length≤1000000000
def aT.F:aT.D→aT.Y:=fun(a,b)=>decide (a=b)
noncomputable def aT.G:dR:=eO (P:=Tryz.prog) []
noncomputable def aT.L0.E:=bM.ct aT.L0.st aT.L0.aB aT.L0.add aT.L0.F aT.L0.out
noncomputable def aT.L0.call:aT.L0.D→Option aT.L0.X:=dg aT.L0.E aT.L0.st
noncomputable def aT.an:eu:= {loops:=jO [(4,{bh:=[2,3,5]})],outs:=jN [(4,{},{bh:=[4]})],fF:=ky [(4,aT.L0.E)]}
noncomputable def aT.A:= @cI Tryz.prog aT.G aT.an 0 Tryz.f45 _ aT.st
abbrev aT.Ok:=cJ @aT.A aT.aB aT.add aT.F aT.out
noncomputable def aT.L0.R:= @cf Tryz.prog aT.G aT.an 0 Tryz.f45 0 _ aT.L0.st
abbrev aT.L0.Ok:=ez Tryz.prog aT.G aT.an 0 Tryz.f45 0 aT.L0.st aT.L0.aB aT.L0.add aT.L0.F aT.L0.out
theorem aT.L0.run:bB aT.L0.call aT.L0.aB aT.L0.add aT.L0.F:=eE (eD [.d sC,.d sC,.d ti] fun _=>by kernel_rfl)
theorem aT.L0.aH:jl @aT.L0.R aT.L0.st aT.L0.aB aT.L0.add aT.L0.F aT.L0.out aT.L0.Ok:=jL
theorem aT.L0.step{R:Type}(a_2:mE)(b_2:mE)(i:Int)(kn:AS→Option R)(kx:Exit→AS→Option R):aT.L0.R (a_2,b_2,i) kn kx=
  aJ ((fY i (((List.length a_2.2.1):Nat):Int))) (
   aJ (eh i (((List.length a_2.2.1):Nat):Int)) (
   aJ (eh i (((List.length b_2.2.1):Nat):Int)) (
   aJ ((!(Ty.beq jg (nth jg a_2.2.1 (Int.toNat i)) (nth jg b_2.2.1 (Int.toNat i))))) (
    kx (aT.L0.bq ()).1 (aT.L0.bq ()).2) (
    kn (aT.L0.st (a_2,b_2,(bK .i64 i (1:Int)))))) none) none) (
   kx (aT.L0.eP ()).1 (aT.L0.eP ()).2):=by kernel_rfl
theorem aT.eq{R:Type}(a:mE)(b:mE)(k:aY→Option R):aT.A (a,b) k=
  aJ ((ku a.1 b.1)) (
   k (aT.out false)) (
   aJ ((ku a.2.2.1 b.2.2.1)) (
    k (aT.out false)) (
    aJ ((ku (((List.length a.2.1):Nat):Int) (((List.length b.2.1):Nat):Int))) (
     k (aT.out false)) (
     aq (aT.L0.call (a,b,(0:Int))) fun x1=>
     aJ (x1.isLeft) (
      aq (x1.getLeft?) fun a2=>
      k (aT.out false)) (
      aq (x1.getRight?) fun b3=>
      k (aT.out true))))):=by kernel_rfl
theorem aT.L0.ok:aT.L0.Ok:=by
 refine aT.L0.aH (fun(a,b,i)=>a.2.1.length - Int.toNat i) ?_
 rintro⟨a,b,i⟩ ⟨hlen,hab,k,hk,rfl⟩
 have hlen:a.2.1.length≤1000000000:=hlen
 have hab:a.2.1.length=b.2.1.length:=hab
 have hk:k≤a.2.1.length:=hk
 by_cases h:k < a.2.1.length
 ·have h2:k < b.2.1.length:=by omega
  have n1:nth jg a.2.1 k=a.2.1[k]:=cw (t:=jg) h
  have n2:nth jg b.2.1 k=b.2.1[k]:=cw (t:=jg) h2
  have hd:(List.drop k a.2.1=List.drop k b.2.1)=(a.2.1[k]=b.2.1[k]∧List.drop (k+1) a.2.1=List.drop (k+1) b.2.1):=by rw[List.drop_eq_getElem_cons h,List.drop_eq_getElem_cons h2,List.cons.injEq]
  have step:∀ {R:Type} (kn:AS→Option R) (kx:Exit→AS→Option R),aT.L0.R (a,b,(k:Int)) kn kx=if a.2.1[k]=b.2.1[k] then kn (aT.L0.st (a,b,((k+1:Nat):Int))) else kx (aT.L0.bq ()).1 (aT.L0.bq ()).2:=by
   intro R kn kx
   rw[aT.L0.step,bw (by omega),bn (by omega) (by omega),bn (by omega) (by omega),Int.toNat_natCast,n1,n2]
   simp only[az]
   rw[z0,N.kA (by omega)]
   by_cases hx:a.2.1[k]=b.2.1[k]
   ·rw[aO hx,if_pos hx];rfl
   ·rw[aK hx,if_neg hx];rfl
  by_cases hx:a.2.1[k]=b.2.1[k]
  ·left
   refine⟨(a,b,((k+1:Nat):Int)),⟨hlen,hab,k+1,by omega,rfl⟩,by simp only[Int.toNat_natCast];omega,?_,fun kn kx=> ?_⟩
   ·simp only[aT.L0.add,aT.L0.F,Int.toNat_natCast,hd,hx,true_and]
   ·rw[step,if_pos hx]
  ·right
   refine⟨aT.L0.bq (),?_,fun kn kx=> ?_⟩
   ·simp only[aT.L0.add,aT.L0.F,Int.toNat_natCast,hd,hx,false_and,if_false]
    rfl
   ·rw[step,if_neg hx]
 ·right
  obtain rfl:k=a.2.1.length:=by omega
  refine⟨aT.L0.eP (),?_,fun kn kx=> ?_⟩
  ·simp only[aT.L0.add,aT.L0.F,Int.toNat_natCast,List.drop_length]
   rw[hab,List.drop_length,if_pos rfl]
   rfl
  ·rw[aT.L0.step,bm (by omega),ay]
theorem aT.ok:aT.Ok:=by
 rintro⟨⟨b1,s1,c1,u1⟩,⟨b2,s2,c2,u2⟩⟩ h
 have h:s1.length≤1000000000:=h
 rw[aT.eq]
 simp only[aT.add,aT.F]
 by_cases e1:b1=b2
 ·by_cases e2:c1=c2
  ·by_cases e3:s1.length=s2.length
   ·rw[bT e1,bT e2,bT (by omega),aT.L0.run (d:=((b1,s1,c1,u1),(b2,s2,c2,u2),0)) ⟨h,e3,0,Nat.zero_le _,rfl⟩]
    simp only[ab,aT.L0.add,aT.L0.F,Int.toNat_zero,List.drop_zero,ay]
    by_cases e4:s1=s2
    ·rw[if_pos e4,aO (by rw[e1,e2,e4])];rfl
    ·rw[if_neg e4,aK (by rintro⟨⟩;exact e4 rfl)];rfl
   ·rw[bT e1,bT e2,dB (by omega),aK (by rintro⟨⟩;exact e3 rfl)];rfl
  ·rw[bT e1,dB e2,aK (by rintro⟨⟩;exact e2 rfl)];rfl
 ·rw[dB e1,aK (by rintro⟨⟩;exact e1 rfl)];rfl
noncomputable def aT.E:=Entry.ct [some sC,some sC] aT.st aT.aB aT.add aT.F aT.out
noncomputable def aT.call:aT.D→Option aT.X:=bG aT.E aT.st
theorem aT.run:bB aT.call aT.aB aT.add aT.F:=cO (cM [.d sC,.d sC] fun _=>by kernel_rfl)
noncomputable def aT.sg:SG Tryz.prog:=⟨45,aU,aT.E,.fn 1 (by kernel_rfl) aT.ok (And.intro (.ct aT.L0.ok (by kernel_rfl)) trivial)⟩
abbrev aj.L0.D:=Lk×Lk×Int
def aj.L0.st:aj.L0.D→AS:=fun(a_2,b_2,i)=>⟨([.undef,.undef,.eC j3 a_2,.eC j3 b_2,.undef,.d ti i]++ba 73 []),[],(List.replicate 79 [])⟩
abbrev aj.L0.Y0:=Unit
abbrev aj.L0.X0:=Unit
def aj.L0.bq:aj.L0.X0→Exit×AS:=fun x=>(.ret,⟨(ba 4 ([.d .bool false]++ba 74 [])),[],(List.replicate 79 [])⟩)
abbrev aj.L0.Y1:=Unit
abbrev aj.L0.X1:=Unit
def aj.L0.eP:aj.L0.X1→Exit×AS:=fun x=>(.exit 0,⟨(ba 79 []),[],(List.replicate 79 [])⟩)
abbrev aj.L0.X:=(aj.L0.X0)⊕(aj.L0.X1)
abbrev aj.L0.Y:=(aj.L0.Y0)⊕(aj.L0.Y1)
def aj.L0.out:aj.L0.X→Out (Exit×AS):=fun x=> .br x.isLeft (.get x.getLeft? fun a=> .ok (aj.L0.bq a)) (.get x.getRight? fun b=> .ok (aj.L0.eP b))
def aj.L0.add:aj.L0.D→aj.L0.Y→aj.L0.X:=fun(a_2,b_2,i) y=>match y with | .inl y=> .inl y | .inr z=> .inr (z)
abbrev aj.L1.D:=Lk×Lk×Int×Int×fX×fX
def aj.L1.st:aj.L1.D→AS:=fun(a_3,b_3,i_2,kv,n6,n7)=>⟨([.undef,.undef,.eC j3 a_3,.eC j3 b_3,.undef,.d ti i_2,.ptr (.new 6 0) 0 [] 0,.ptr (.new 7 0) 0 [] 0,.d ti kv]++ba 70 []),[],(bN 6 ([[.obj 0 false (.d fe n6)],[.obj 0 false (.d fe n7)]]++bN 71 []))⟩
abbrev aj.L1.Y0:=Unit
abbrev aj.L1.X0:=Unit
def aj.L1.bq:aj.L1.X0→Exit×AS:=fun x=>(.ret,⟨(ba 4 ([.d .bool false]++ba 74 [])),[],(List.replicate 79 [])⟩)
abbrev aj.L1.Y1:=Unit
abbrev aj.L1.X1:=Lk×Lk×Int
def aj.L1.eP:aj.L1.X1→Exit×AS:=fun x=>(.exit 2,⟨([.undef,.undef,.eC j3 x.1,.eC j3 x.2.1,.undef,.d ti x.2.2]++ba 73 []),[],(List.replicate 79 [])⟩)
abbrev aj.L1.X:=(aj.L1.X0)⊕(aj.L1.X1)
abbrev aj.L1.Y:=(aj.L1.Y0)⊕(aj.L1.Y1)
def aj.L1.out:aj.L1.X→Out (Exit×AS):=fun x=> .br x.isLeft (.get x.getLeft? fun a=> .ok (aj.L1.bq a)) (.get x.getRight? fun b=> .ok (aj.L1.eP b))
def aj.L1.add:aj.L1.D→aj.L1.Y→aj.L1.X:=fun(a_3,b_3,i_2,kv,n6,n7) y=>match y with | .inl y=> .inl y | .inr z=> .inr ((a_3,b_3,i_2))
abbrev aj.D:=Lk×Lk
def aj.st:aj.D→SA:=fun(a,b)=>([.d j3 a,.d j3 b],[])
abbrev aj.Y:=Bool
abbrev aj.X:=Bool
def aj.out:aj.X→aY:=fun x=>⟨.d .bool x,[],[]⟩
def aj.add:aj.D→aj.Y→aj.X:=fun(a,b) y=>y
def aj.L1.aB:aj.L1.D→Prop:=fun(a,b,j,i,x,y)=>x.1.length≤1000000000∧x.1.length=y.1.length∧∃k:Nat,k≤x.1.length∧i=k
def aj.L1.F:aj.L1.D→aj.L1.Y:=fun(a,b,j,i,x,y)=>if List.drop (Int.toNat i) x.1=List.drop (Int.toNat i) y.1 then .inr () else .inl ()
def aj.L0.aB:aj.L0.D→Prop:=fun(a,b,i)=>a.1.length≤1000000000∧a.1.length=b.1.length∧(∀x∈a.1,x.1.length≤1000000000)∧∃k:Nat,k≤a.1.length∧i=k
def aj.L0.F:aj.L0.D→aj.L0.Y:=fun(a,b,i)=>if List.drop (Int.toNat i) a.1=List.drop (Int.toNat i) b.1 then .inr () else .inl ()
def aj.aB:aj.D→Prop:=fun(a,b)=>a.1.length≤1000000000∧∀x∈a.1,x.1.length≤1000000000
def aj.F:aj.D→aj.Y:=fun(a,b)=>decide (a.1=b.1)
noncomputable def aj.G:dR:=eO (P:=Tryz.prog) []
noncomputable def aj.L0.E:=bM.ct aj.L0.st aj.L0.aB aj.L0.add aj.L0.F aj.L0.out
noncomputable def aj.L0.call:aj.L0.D→Option aj.L0.X:=dg aj.L0.E aj.L0.st
noncomputable def aj.L1.E:=bM.ct aj.L1.st aj.L1.aB aj.L1.add aj.L1.F aj.L1.out
noncomputable def aj.L1.call:aj.L1.D→Option aj.L1.X:=dg aj.L1.E aj.L1.st
noncomputable def aj.an:eu:= {loops:=jO [(4,{bh:=[2,3,5]}),(11,{bh:=[2,3,5,6,7,8],sites:=[6,7]})],outs:=jN [(4,{},{bh:=[4]}),(11,{bh:=[2,3,5]},{bh:=[4]})],fF:=ky [(4,aj.L0.E),(11,aj.L1.E)]}
noncomputable def aj.A:= @cI Tryz.prog aj.G aj.an 0 Tryz.f94 _ aj.st
abbrev aj.Ok:=cJ @aj.A aj.aB aj.add aj.F aj.out
noncomputable def aj.L0.R:= @cf Tryz.prog aj.G aj.an 0 Tryz.f94 0 _ aj.L0.st
abbrev aj.L0.Ok:=ez Tryz.prog aj.G aj.an 0 Tryz.f94 0 aj.L0.st aj.L0.aB aj.L0.add aj.L0.F aj.L0.out
noncomputable def aj.L1.R:= @cf Tryz.prog aj.G aj.an 0 Tryz.f94 1 _ aj.L1.st
abbrev aj.L1.Ok:=ez Tryz.prog aj.G aj.an 0 Tryz.f94 1 aj.L1.st aj.L1.aB aj.L1.add aj.L1.F aj.L1.out
theorem aj.L0.run:bB aj.L0.call aj.L0.aB aj.L0.add aj.L0.F:=eE (eD [.d j3,.d j3,.d ti] fun _=>by kernel_rfl)
theorem aj.L0.aH:jl @aj.L0.R aj.L0.st aj.L0.aB aj.L0.add aj.L0.F aj.L0.out aj.L0.Ok:=jL
theorem aj.L0.step{R:Type}(a_2:Lk)(b_2:Lk)(i:Int)(kn:AS→Option R)(kx:Exit→AS→Option R):aj.L0.R (a_2,b_2,i) kn kx=
  aJ ((fY i (((List.length a_2.1):Nat):Int))) (
   aJ (eh i (((List.length a_2.1):Nat):Int)) (
   aJ (eh i (((List.length b_2.1):Nat):Int)) (
   aJ ((ku (nth fe a_2.1 (Int.toNat i)).2.1 (nth fe b_2.1 (Int.toNat i)).2.1)) (
    kx (aj.L0.bq ()).1 (aj.L0.bq ()).2) (
    aJ ((ku (nth fe a_2.1 (Int.toNat i)).2.2.1 (nth fe b_2.1 (Int.toNat i)).2.2.1)) (
     kx (aj.L0.bq ()).1 (aj.L0.bq ()).2) (
     aJ ((ku (nth fe a_2.1 (Int.toNat i)).2.2.2.1 (nth fe b_2.1 (Int.toNat i)).2.2.2.1)) (
      kx (aj.L0.bq ()).1 (aj.L0.bq ()).2) (
      aJ ((ku (((List.length (nth fe a_2.1 (Int.toNat i)).1):Nat):Int) (((List.length (nth fe b_2.1 (Int.toNat i)).1):Nat):Int))) (
       kx (aj.L0.bq ()).1 (aj.L0.bq ()).2) (
       aq (aj.L1.call (a_2,b_2,i,(0:Int),(nth fe a_2.1 (Int.toNat i)),(nth fe b_2.1 (Int.toNat i)))) fun x1=>
       aJ (x1.isLeft) (
        aq (x1.getLeft?) fun a2=>
        kx (aj.L0.bq ()).1 (aj.L0.bq ()).2) (
        aq (x1.getRight?) fun b3=>
        kn (aj.L0.st (b3.1,b3.2.1,(bK .i64 b3.2.2 (1:Int)))))))))) none) none) (
   kx (aj.L0.eP ()).1 (aj.L0.eP ()).2):=by kernel_rfl
theorem aj.L1.run:bB aj.L1.call aj.L1.aB aj.L1.add aj.L1.F:=eE (eD [.d j3,.d j3,.d ti,.d ti,.d fe,.d fe] fun _=>by kernel_rfl)
theorem aj.L1.aH:jl @aj.L1.R aj.L1.st aj.L1.aB aj.L1.add aj.L1.F aj.L1.out aj.L1.Ok:=jL
theorem aj.L1.step{R:Type}(a_3:Lk)(b_3:Lk)(i_2:Int)(kv:Int)(n6:fX)(n7:fX)(kn:AS→Option R)(kx:Exit→AS→Option R):aj.L1.R (a_3,b_3,i_2,kv,n6,n7) kn kx=
  aJ ((fY kv (((List.length n6.1):Nat):Int))) (
   aJ (eh kv (((List.length n6.1):Nat):Int)) (
   aJ (eh kv (((List.length n7.1):Nat):Int)) (
   aJ ((ku (nth tu n6.1 (Int.toNat kv)) (nth tu n7.1 (Int.toNat kv)))) (
    kx (aj.L1.bq ()).1 (aj.L1.bq ()).2) (
    kn (aj.L1.st (a_3,b_3,i_2,(bK .i64 kv (1:Int)),n6,n7)))) none) none) (
   kx (aj.L1.eP (a_3,b_3,i_2)).1 (aj.L1.eP (a_3,b_3,i_2)).2):=by kernel_rfl
theorem aj.eq{R:Type}(a:Lk)(b:Lk)(k:aY→Option R):aj.A (a,b) k=
  aJ ((ku (((List.length a.1):Nat):Int) (((List.length b.1):Nat):Int))) (
   k (aj.out false)) (
   aq (aj.L0.call (a,b,(0:Int))) fun x4=>
   aJ (x4.isLeft) (
    aq (x4.getLeft?) fun a5=>
    k (aj.out false)) (
    aq (x4.getRight?) fun b6=>
    k (aj.out true))):=by kernel_rfl
theorem aj.L1.ok:aj.L1.Ok:=by
 refine aj.L1.aH (fun(a,b,j,i,x,y)=>x.1.length - Int.toNat i) ?_
 rintro⟨a,b,j,i,x,y⟩ ⟨hlen,hab,k,hk,rfl⟩
 have hlen:x.1.length≤1000000000:=hlen
 have hab:x.1.length=y.1.length:=hab
 have hk:k≤x.1.length:=hk
 by_cases h:k < x.1.length
 ·have h2:k < y.1.length:=by omega
  have n1:nth tu x.1 k=x.1[k]:=cw (t:=tu) h
  have n2:nth tu y.1 k=y.1[k]:=cw (t:=tu) h2
  have hd:(List.drop k x.1=List.drop k y.1)=(x.1[k]=y.1[k]∧List.drop (k+1) x.1=List.drop (k+1) y.1):=by rw[List.drop_eq_getElem_cons h,List.drop_eq_getElem_cons h2,List.cons.injEq]
  have step:∀ {R:Type} (kn:AS→Option R) (kx:Exit→AS→Option R),aj.L1.R (a,b,j,(k:Int),x,y) kn kx=if x.1[k]=y.1[k] then kn (aj.L1.st (a,b,j,((k+1:Nat):Int),x,y)) else kx (aj.L1.bq ()).1 (aj.L1.bq ()).2:=by
   intro R kn kx
   rw[aj.L1.step,bw (by omega),bn (by omega) (by omega),bn (by omega) (by omega),Int.toNat_natCast,n1,n2]
   simp only[az]
   rw[N.kA (by omega)]
   by_cases hx:x.1[k]=y.1[k]
   ·rw[bT hx,if_pos hx];rfl
   ·rw[dB hx,if_neg hx];rfl
  by_cases hx:x.1[k]=y.1[k]
  ·left
   refine⟨(a,b,j,((k+1:Nat):Int),x,y),⟨hlen,hab,k+1,by omega,rfl⟩,by simp only[Int.toNat_natCast];omega,?_,fun kn kx=> ?_⟩
   ·simp only[aj.L1.add,aj.L1.F,Int.toNat_natCast,hd,hx,true_and]
   ·rw[step,if_pos hx]
  ·right
   refine⟨aj.L1.bq (),?_,fun kn kx=> ?_⟩
   ·simp only[aj.L1.add,aj.L1.F,Int.toNat_natCast,hd,hx,false_and,if_false]
    rfl
   ·rw[step,if_neg hx]
 ·right
  obtain rfl:k=x.1.length:=by omega
  refine⟨aj.L1.eP (a,b,j),?_,fun kn kx=> ?_⟩
  ·simp only[aj.L1.add,aj.L1.F,Int.toNat_natCast,List.drop_length]
   rw[hab,List.drop_length,if_pos rfl]
   rfl
  ·rw[aj.L1.step,bm (by omega),ay]
theorem aj.L0.ok:aj.L0.Ok:=by
 refine aj.L0.aH (fun(a,b,i)=>a.1.length - Int.toNat i) ?_
 rintro⟨a,b,i⟩ ⟨hlen,hab,hs,k,hk,rfl⟩
 have hlen:a.1.length≤1000000000:=hlen
 have hab:a.1.length=b.1.length:=hab
 have hk:k≤a.1.length:=hk
 have hs:∀x∈a.1,x.1.length≤1000000000:=hs
 by_cases h:k < a.1.length
 ·have h2:k < b.1.length:=by omega
  have n1:nth fe a.1 k=a.1[k]:=cw (t:=fe) h
  have n2:nth fe b.1 k=b.1[k]:=cw (t:=fe) h2
  have hd:(List.drop k a.1=List.drop k b.1)=(a.1[k]=b.1[k]∧List.drop (k+1) a.1=List.drop (k+1) b.1):=by rw[List.drop_eq_getElem_cons h,List.drop_eq_getElem_cons h2,List.cons.injEq]
  have step:∀ {R:Type} (kn:AS→Option R) (kx:Exit→AS→Option R),aj.L0.R (a,b,(k:Int)) kn kx=if a.1[k]=b.1[k] then kn (aj.L0.st (a,b,((k+1:Nat):Int))) else kx (aj.L0.bq ()).1 (aj.L0.bq ()).2:=by
   intro R kn kx
   rw[aj.L0.step,bw (by omega),bn (by omega) (by omega),bn (by omega) (by omega),Int.toNat_natCast,n1,n2]
   simp only[az]
   have hsk:=hs _ (List.getElem_mem h)
   obtain⟨⟨k1,a1,d1,s1,u1⟩,e1⟩:∃x,a.1[k]=x:=⟨_,rfl⟩
   obtain⟨⟨k2,a2,d2,s2,u2⟩,e2⟩:∃x,b.1[k]=x:=⟨_,rfl⟩
   rw[e1]at hsk ⊢
   rw[e2]
   dsimp only
   have hsk:k1.length≤1000000000:=hsk
   by_cases q2:a1=a2
   ·by_cases q3:d1=d2
    ·by_cases q4:s1=s2
     ·by_cases q1:k1.length=k2.length
      ·rw[bT q2,bT q3,bT q4,bT (by omega),aj.L1.run (d:=(a,b,(k:Int),0,(k1,a1,d1,s1,u1),(k2,a2,d2,s2,u2))) ⟨hsk,q1,0,Nat.zero_le _,rfl⟩]
       simp only[ay,ab,aj.L1.add,aj.L1.F,Int.toNat_zero,List.drop_zero]
       by_cases q5:k1=k2
       ·rw[if_pos q5,if_pos (by rw[q5,q2,q3,q4])]
        simp only[Sum.isLeft_inr,Sum.getRight?_inr,ay,ab]
        rw[N.kA (by omega)]
       ·rw[if_neg q5,if_neg (by rintro⟨⟩;exact q5 rfl)]
        rfl
      ·rw[bT q2,bT q3,bT q4,dB (by omega),if_neg (by rintro⟨⟩;exact q1 rfl)];rfl
     ·rw[bT q2,bT q3,dB q4,if_neg (by rintro⟨⟩;exact q4 rfl)];rfl
    ·rw[bT q2,dB q3,if_neg (by rintro⟨⟩;exact q3 rfl)];rfl
   ·rw[dB q2,if_neg (by rintro⟨⟩;exact q2 rfl)];rfl
  by_cases hx:a.1[k]=b.1[k]
  ·left
   refine⟨(a,b,((k+1:Nat):Int)),⟨hlen,hab,hs,k+1,by omega,rfl⟩,by simp only[Int.toNat_natCast];omega,?_,fun kn kx=> ?_⟩
   ·simp only[aj.L0.add,aj.L0.F,Int.toNat_natCast,hd,hx,true_and]
   ·rw[step,if_pos hx]
  ·right
   refine⟨aj.L0.bq (),?_,fun kn kx=> ?_⟩
   ·simp only[aj.L0.add,aj.L0.F,Int.toNat_natCast,hd,hx,false_and,if_false]
    rfl
   ·rw[step,if_neg hx]
 ·right
  obtain rfl:k=a.1.length:=by omega
  refine⟨aj.L0.eP (),?_,fun kn kx=> ?_⟩
  ·simp only[aj.L0.add,aj.L0.F,Int.toNat_natCast,List.drop_length]
   rw[hab,List.drop_length,if_pos rfl]
   rfl
  ·rw[aj.L0.step,bm (by omega),ay]
theorem aj.ok:aj.Ok:=by
 rintro⟨a,b⟩ ⟨h,hs⟩
 have h:a.1.length≤1000000000:=h
 rw[aj.eq]
 simp only[aj.add,aj.F]
 by_cases e3:a.1.length=b.1.length
 ·rw[bT (by omega),aj.L0.run (d:=(a,b,0)) ⟨h,e3,hs,0,Nat.zero_le _,rfl⟩]
  simp only[ab,aj.L0.add,aj.L0.F,Int.toNat_zero,List.drop_zero,ay]
  by_cases e4:a.1=b.1
  ·rw[if_pos e4,aO e4];rfl
  ·rw[if_neg e4,aK e4];rfl
 ·rw[dB (by omega),aK (fun x=>e3 (by rw[x]))];rfl
noncomputable def aj.E:=Entry.ct [some j3,some j3] aj.st aj.aB aj.add aj.F aj.out
noncomputable def aj.call:aj.D→Option aj.X:=bG aj.E aj.st
theorem aj.run:bB aj.call aj.aB aj.add aj.F:=cO (cM [.d j3,.d j3] fun _=>by kernel_rfl)
noncomputable def aj.sg:SG Tryz.prog:=⟨94,aU,aj.E,.fn 2 (by kernel_rfl) aj.ok (And.intro (.ct aj.L0.ok (by kernel_rfl)) (And.intro (.ct aj.L1.ok (by kernel_rfl)) trivial))⟩
abbrev ai.L0.D:=eX×eX×Int
def ai.L0.st:ai.L0.D→AS:=fun(a_2,b_2,i)=>⟨([.undef,.undef,.eC gb a_2,.eC gb b_2,.undef,.d ti i]++ba 96 []),[],(List.replicate 102 [])⟩
abbrev ai.L0.Y0:=Unit
abbrev ai.L0.X0:=Unit
def ai.L0.bq:ai.L0.X0→Exit×AS:=fun x=>(.ret,⟨(ba 4 ([.d .bool false]++ba 97 [])),[],(List.replicate 102 [])⟩)
abbrev ai.L0.Y1:=Unit
abbrev ai.L0.X1:=eX×eX
def ai.L0.eP:ai.L0.X1→Exit×AS:=fun x=>(.exit 0,⟨([.undef,.undef,.eC gb x.1,.eC gb x.2]++ba 98 []),[],(List.replicate 102 [])⟩)
abbrev ai.L0.X:=(ai.L0.X0)⊕(ai.L0.X1)
abbrev ai.L0.Y:=(ai.L0.Y0)⊕(ai.L0.Y1)
def ai.L0.out:ai.L0.X→Out (Exit×AS):=fun x=> .br x.isLeft (.get x.getLeft? fun a=> .ok (ai.L0.bq a)) (.get x.getRight? fun b=> .ok (ai.L0.eP b))
def ai.L0.add:ai.L0.D→ai.L0.Y→ai.L0.X:=fun(a_2,b_2,i) y=>match y with | .inl y=> .inl y | .inr z=> .inr ((a_2,b_2))
abbrev ai.L1.D:=eX×eX×Int
def ai.L1.st:ai.L1.D→AS:=fun(a_3,b_3,i_2)=>⟨([.undef,.undef,.eC gb a_3,.eC gb b_3,.undef,.undef,.d ti i_2]++ba 95 []),[],(List.replicate 102 [])⟩
abbrev ai.L1.Y0:=Unit
abbrev ai.L1.X0:=Unit
def ai.L1.bq:ai.L1.X0→Exit×AS:=fun x=>(.ret,⟨(ba 4 ([.d .bool false]++ba 97 [])),[],(List.replicate 102 [])⟩)
abbrev ai.L1.Y1:=Unit
abbrev ai.L1.X1:=Unit
def ai.L1.eP:ai.L1.X1→Exit×AS:=fun x=>(.exit 2,⟨(ba 102 []),[],(List.replicate 102 [])⟩)
abbrev ai.L1.X:=(ai.L1.X0)⊕(ai.L1.X1)
abbrev ai.L1.Y:=(ai.L1.Y0)⊕(ai.L1.Y1)
def ai.L1.out:ai.L1.X→Out (Exit×AS):=fun x=> .br x.isLeft (.get x.getLeft? fun a=> .ok (ai.L1.bq a)) (.get x.getRight? fun b=> .ok (ai.L1.eP b))
def ai.L1.add:ai.L1.D→ai.L1.Y→ai.L1.X:=fun(a_3,b_3,i_2) y=>match y with | .inl y=> .inl y | .inr z=> .inr (z)
abbrev ai.D:=eX×eX
def ai.st:ai.D→SA:=fun(a,b)=>([.d gb a,.d gb b],[])
abbrev ai.Y:=Bool
abbrev ai.X:=Bool
def ai.out:ai.X→aY:=fun x=>⟨.d .bool x,[],[]⟩
def ai.add:ai.D→ai.Y→ai.X:=fun(a,b) y=>y
def ai.L0.aB:ai.L0.D→Prop:=fun(a,b,i)=>a.1.length≤1000000000∧a.1.length=b.1.length∧(∀x∈a.1,x.2.1.2.1.length≤1000000000)∧∃k:Nat,k≤a.1.length∧i=k
def ai.L0.F:ai.L0.D→ai.L0.Y:=fun(a,b,i)=>if List.drop (Int.toNat i) a.1=List.drop (Int.toNat i) b.1 then .inr () else .inl ()
def ai.L1.aB:ai.L1.D→Prop:=fun(a,b,i)=>a.2.1.length≤1000000000∧a.2.1.length=b.2.1.length∧(∀x∈a.2.1,x.2.1.1.length≤1000000000∧∀b∈x.2.1.1,b.1.length≤1000000000)∧∃k:Nat,k≤a.2.1.length∧i=k
def ai.L1.F:ai.L1.D→ai.L1.Y:=fun(a,b,i)=>if List.drop (Int.toNat i) a.2.1=List.drop (Int.toNat i) b.2.1 then .inr () else .inl ()
def ai.aB:ai.D→Prop:=fun(a,b)=>nX a
def ai.F:ai.D→ai.Y:=fun(a,b)=>decide (a=b)
noncomputable def ai.G:dR:=eO (P:=Tryz.prog) [aT.sg,aj.sg]
noncomputable def ai.L0.E:=bM.ct ai.L0.st ai.L0.aB ai.L0.add ai.L0.F ai.L0.out
noncomputable def ai.L0.call:ai.L0.D→Option ai.L0.X:=dg ai.L0.E ai.L0.st
noncomputable def ai.L1.E:=bM.ct ai.L1.st ai.L1.aB ai.L1.add ai.L1.F ai.L1.out
noncomputable def ai.L1.call:ai.L1.D→Option ai.L1.X:=dg ai.L1.E ai.L1.st
noncomputable def ai.an:eu:= {loops:=jO [(4,{bh:=[2,3,5]}),(9,{bh:=[2,3,6]})],outs:=jN [(4,{bh:=[2,3]},{bh:=[4]}),(9,{},{bh:=[4]})],fF:=ky [(4,ai.L0.E),(9,ai.L1.E)]}
noncomputable def ai.A:= @cI Tryz.prog ai.G ai.an 0 Tryz.f28 _ ai.st
abbrev ai.Ok:=cJ @ai.A ai.aB ai.add ai.F ai.out
noncomputable def ai.L0.R:= @cf Tryz.prog ai.G ai.an 0 Tryz.f28 0 _ ai.L0.st
abbrev ai.L0.Ok:=ez Tryz.prog ai.G ai.an 0 Tryz.f28 0 ai.L0.st ai.L0.aB ai.L0.add ai.L0.F ai.L0.out
noncomputable def ai.L1.R:= @cf Tryz.prog ai.G ai.an 0 Tryz.f28 1 _ ai.L1.st
abbrev ai.L1.Ok:=ez Tryz.prog ai.G ai.an 0 Tryz.f28 1 ai.L1.st ai.L1.aB ai.L1.add ai.L1.F ai.L1.out
theorem ai.L0.run:bB ai.L0.call ai.L0.aB ai.L0.add ai.L0.F:=eE (eD [.d gb,.d gb,.d ti] fun _=>by kernel_rfl)
theorem ai.L0.aH:jl @ai.L0.R ai.L0.st ai.L0.aB ai.L0.add ai.L0.F ai.L0.out ai.L0.Ok:=jL
theorem ai.L0.step{R:Type}(a_2:eX)(b_2:eX)(i:Int)(kn:AS→Option R)(kx:Exit→AS→Option R):ai.L0.R (a_2,b_2,i) kn kx=
  aJ ((fY i (((List.length a_2.1):Nat):Int))) (
   aJ (eh i (((List.length a_2.1):Nat):Int)) (
   aJ (eh i (((List.length b_2.1):Nat):Int)) (
   aJ ((!(Ty.beq kp (nth eH a_2.1 (Int.toNat i)).1 (nth eH b_2.1 (Int.toNat i)).1))) (
    kx (ai.L0.bq ()).1 (ai.L0.bq ()).2) (
    aJ (eh i (((List.length a_2.1):Nat):Int)) (
    aJ (eh i (((List.length b_2.1):Nat):Int)) (
    aq (aT.call ((nth eH a_2.1 (Int.toNat i)).2.1,(nth eH b_2.1 (Int.toNat i)).2.1)) fun x1=>
    aJ ((!x1)) (
     kx (ai.L0.bq ()).1 (ai.L0.bq ()).2) (
     kn (ai.L0.st (a_2,b_2,(bK .i64 i (1:Int)))))) none) none)) none) none) (
   kx (ai.L0.eP (a_2,b_2)).1 (ai.L0.eP (a_2,b_2)).2):=by kernel_rfl
theorem ai.L1.run:bB ai.L1.call ai.L1.aB ai.L1.add ai.L1.F:=eE (eD [.d gb,.d gb,.d ti] fun _=>by kernel_rfl)
theorem ai.L1.aH:jl @ai.L1.R ai.L1.st ai.L1.aB ai.L1.add ai.L1.F ai.L1.out ai.L1.Ok:=jL
theorem ai.L1.step{R:Type}(a_3:eX)(b_3:eX)(i_2:Int)(kn:AS→Option R)(kx:Exit→AS→Option R):ai.L1.R (a_3,b_3,i_2) kn kx=
  aJ ((fY i_2 (((List.length a_3.2.1):Nat):Int))) (
   aJ (eh i_2 (((List.length a_3.2.1):Nat):Int)) (
   aJ (eh i_2 (((List.length b_3.2.1):Nat):Int)) (
   aJ ((ku (nth eR a_3.2.1 (Int.toNat i_2)).1 (nth eR b_3.2.1 (Int.toNat i_2)).1)) (
    kx (ai.L1.bq ()).1 (ai.L1.bq ()).2) (
    aJ (eh i_2 (((List.length a_3.2.1):Nat):Int)) (
    aJ (eh i_2 (((List.length b_3.2.1):Nat):Int)) (
    aq (aj.call ((nth eR a_3.2.1 (Int.toNat i_2)).2.1,(nth eR b_3.2.1 (Int.toNat i_2)).2.1)) fun x1=>
    aJ ((!x1)) (
     kx (ai.L1.bq ()).1 (ai.L1.bq ()).2) (
     kn (ai.L1.st (a_3,b_3,(bK .i64 i_2 (1:Int)))))) none) none)) none) none) (
   kx (ai.L1.eP ()).1 (ai.L1.eP ()).2):=by kernel_rfl
theorem ai.eq{R:Type}(a:eX)(b:eX)(k:aY→Option R):ai.A (a,b) k=
  aJ ((ku a.2.2.1 b.2.2.1)) (
   k (ai.out false)) (
   aJ ((ku (((List.length a.1):Nat):Int) (((List.length b.1):Nat):Int))) (
    k (ai.out false)) (
    aJ ((ku (((List.length a.2.1):Nat):Int) (((List.length b.2.1):Nat):Int))) (
     k (ai.out false)) (
     aq (ai.L0.call (a,b,(0:Int))) fun x2=>
     aJ (x2.isLeft) (
      aq (x2.getLeft?) fun a3=>
      k (ai.out false)) (
      aq (x2.getRight?) fun b4=>
      aq (ai.L1.call (b4.1,b4.2,(0:Int))) fun x6=>
      aJ (x6.isLeft) (
       aq (x6.getLeft?) fun a7=>
       k (ai.out false)) (
       aq (x6.getRight?) fun b8=>
       k (ai.out true)))))):=by kernel_rfl
theorem ai.L0.ok:ai.L0.Ok:=by
 refine ai.L0.aH (fun(a,b,i)=>a.1.length - Int.toNat i) ?_
 rintro⟨a,b,i⟩ ⟨hlen,hab,hs,k,hk,rfl⟩
 have hlen:a.1.length≤1000000000:=hlen
 have hab:a.1.length=b.1.length:=hab
 have hk:k≤a.1.length:=hk
 have hs:∀x∈a.1,x.2.1.2.1.length≤1000000000:=hs
 by_cases h:k < a.1.length
 ·have h2:k < b.1.length:=by omega
  have n1:nth eH a.1 k=a.1[k]:=cw (t:=eH) h
  have n2:nth eH b.1 k=b.1[k]:=cw (t:=eH) h2
  have hd:(List.drop k a.1=List.drop k b.1)=(a.1[k]=b.1[k]∧List.drop (k+1) a.1=List.drop (k+1) b.1):=by rw[List.drop_eq_getElem_cons h,List.drop_eq_getElem_cons h2,List.cons.injEq]
  have step:∀ {R:Type} (kn:AS→Option R) (kx:Exit→AS→Option R),ai.L0.R (a,b,(k:Int)) kn kx=if a.1[k]=b.1[k] then kn (ai.L0.st (a,b,((k+1:Nat):Int))) else kx (ai.L0.bq ()).1 (ai.L0.bq ()).2:=by
   intro R kn kx
   rw[ai.L0.step,bw (by omega),bn (by omega) (by omega),bn (by omega) (by omega),Int.toNat_natCast,n1,n2]
   simp only[az]
   have e:=hs _ (List.getElem_mem h)
   rw[q9,N.kA (by omega),aT.run (d:=(a.1[k].2.1,b.1[k].2.1)) e]
   simp only[ab,aT.add,aT.F]
   obtain⟨⟨f1,w1,u1⟩,e1⟩:∃x,a.1[k]=x:=⟨_,rfl⟩
   obtain⟨⟨f2,w2,u2⟩,e2⟩:∃x,b.1[k]=x:=⟨_,rfl⟩
   rw[e1,e2]
   by_cases q1:f1=f2
   ·by_cases q2:w1=w2
    ·rw[aO q1,aO q2,if_pos (by rw[q1,q2])];rfl
    ·rw[aO q1,aK q2,if_neg (by rintro⟨⟩;exact q2 rfl)];rfl
   ·rw[aK q1,if_neg (by rintro⟨⟩;exact q1 rfl)];rfl
  by_cases hx:a.1[k]=b.1[k]
  ·left
   refine⟨(a,b,((k+1:Nat):Int)),⟨hlen,hab,hs,k+1,by omega,rfl⟩,by simp only[Int.toNat_natCast];omega,?_,fun kn kx=> ?_⟩
   ·simp only[ai.L0.add,ai.L0.F,Int.toNat_natCast,hd,hx,true_and]
   ·rw[step,if_pos hx]
  ·right
   refine⟨ai.L0.bq (),?_,fun kn kx=> ?_⟩
   ·simp only[ai.L0.add,ai.L0.F,Int.toNat_natCast,hd,hx,false_and,if_false]
    rfl
   ·rw[step,if_neg hx]
 ·right
  obtain rfl:k=a.1.length:=by omega
  refine⟨ai.L0.eP (a,b),?_,fun kn kx=> ?_⟩
  ·simp only[ai.L0.add,ai.L0.F,Int.toNat_natCast,List.drop_length]
   rw[hab,List.drop_length,if_pos rfl]
   rfl
  ·rw[ai.L0.step,bm (by omega),ay]
theorem ai.L1.ok:ai.L1.Ok:=by
 refine ai.L1.aH (fun(a,b,i)=>a.2.1.length - Int.toNat i) ?_
 rintro⟨a,b,i⟩ ⟨hlen,hab,hs,k,hk,rfl⟩
 have hlen:a.2.1.length≤1000000000:=hlen
 have hab:a.2.1.length=b.2.1.length:=hab
 have hk:k≤a.2.1.length:=hk
 have hs:∀x∈a.2.1,x.2.1.1.length≤1000000000∧∀b∈x.2.1.1,b.1.length≤1000000000:=hs
 by_cases h:k < a.2.1.length
 ·have h2:k < b.2.1.length:=by omega
  have n1:nth eR a.2.1 k=a.2.1[k]:=cw (t:=eR) h
  have n2:nth eR b.2.1 k=b.2.1[k]:=cw (t:=eR) h2
  have hd:(List.drop k a.2.1=List.drop k b.2.1)=(a.2.1[k]=b.2.1[k]∧List.drop (k+1) a.2.1=List.drop (k+1) b.2.1):=by rw[List.drop_eq_getElem_cons h,List.drop_eq_getElem_cons h2,List.cons.injEq]
  have step:∀ {R:Type} (kn:AS→Option R) (kx:Exit→AS→Option R),ai.L1.R (a,b,(k:Int)) kn kx=if a.2.1[k]=b.2.1[k] then kn (ai.L1.st (a,b,((k+1:Nat):Int))) else kx (ai.L1.bq ()).1 (ai.L1.bq ()).2:=by
   intro R kn kx
   rw[ai.L1.step,bw (by omega),bn (by omega) (by omega),bn (by omega) (by omega),Int.toNat_natCast,n1,n2]
   simp only[az]
   have e:=hs _ (List.getElem_mem h)
   rw[N.kA (by omega),aj.run (d:=(a.2.1[k].2.1,b.2.1[k].2.1)) e]
   simp only[ab,aj.add,aj.F]
   obtain⟨⟨n1,⟨l1,v1⟩,u1⟩,e1⟩:∃x,a.2.1[k]=x:=⟨_,rfl⟩
   obtain⟨⟨n2,⟨l2,v2⟩,u2⟩,e2⟩:∃x,b.2.1[k]=x:=⟨_,rfl⟩
   rw[e1,e2]
   by_cases q1:n1=n2
   ·by_cases q2:l1=l2
    ·rw[bT q1,aO q2,if_pos (by rw[q1,q2])];rfl
    ·rw[bT q1,aK q2,if_neg (by rintro⟨⟩;exact q2 rfl)];rfl
   ·rw[dB q1,if_neg (by rintro⟨⟩;exact q1 rfl)];rfl
  by_cases hx:a.2.1[k]=b.2.1[k]
  ·left
   refine⟨(a,b,((k+1:Nat):Int)),⟨hlen,hab,hs,k+1,by omega,rfl⟩,by simp only[Int.toNat_natCast];omega,?_,fun kn kx=> ?_⟩
   ·simp only[ai.L1.add,ai.L1.F,Int.toNat_natCast,hd,hx,true_and]
   ·rw[step,if_pos hx]
  ·right
   refine⟨ai.L1.bq (),?_,fun kn kx=> ?_⟩
   ·simp only[ai.L1.add,ai.L1.F,Int.toNat_natCast,hd,hx,false_and,if_false]
    rfl
   ·rw[step,if_neg hx]
 ·right
  obtain rfl:k=a.2.1.length:=by omega
  refine⟨ai.L1.eP (),?_,fun kn kx=> ?_⟩
  ·simp only[ai.L1.add,ai.L1.F,Int.toNat_natCast,List.drop_length]
   rw[hab,List.drop_length,if_pos rfl]
   rfl
  ·rw[ai.L1.step,bm (by omega),ay]
theorem ai.ok:ai.Ok:=by
 rintro⟨⟨i1,o1,n1,u1⟩,⟨i2,o2,n2,u2⟩⟩ h
 have h:nX (i1,o1,n1,u1):=h
 have hi:i1.length≤1000000000:=h.1.1
 have ho:o1.length≤1000000000:=h.2.1
 rw[ai.eq]
 simp only[ai.add,ai.F]
 by_cases e1:n1=n2
 ·by_cases e2:i1.length=i2.length
  ·by_cases e3:o1.length=o2.length
   ·rw[bT e1,bT (by omega),bT (by omega),ai.L0.run (d:=((i1,o1,n1,u1),(i2,o2,n2,u2),0)) ⟨hi,e2,h.1.2,0,Nat.zero_le _,rfl⟩]
    simp only[ab,ai.L0.add,ai.L0.F,Int.toNat_zero,List.drop_zero,ay]
    by_cases e4:i1=i2
    ·rw[if_pos e4]
     simp only[Sum.isLeft_inr,Sum.getRight?_inr,ay,ab]
     rw[ai.L1.run (d:=((i1,o1,n1,u1),(i2,o2,n2,u2),0)) ⟨ho,e3,h.2.2,0,Nat.zero_le _,rfl⟩]
     simp only[ab,ai.L1.add,ai.L1.F,Int.toNat_zero,List.drop_zero]
     by_cases e5:o1=o2
     ·rw[if_pos e5,aO (by rw[e1,e4,e5])];rfl
     ·rw[if_neg e5,aK (by rintro⟨⟩;exact e5 rfl)];rfl
    ·rw[if_neg e4,aK (by rintro⟨⟩;exact e4 rfl)];rfl
   ·rw[bT e1,bT (by omega),dB (by omega),aK (by rintro⟨⟩;exact e3 rfl)];rfl
  ·rw[bT e1,dB (by omega),aK (by rintro⟨⟩;exact e2 rfl)];rfl
 ·rw[dB e1,aK (by rintro⟨⟩;exact e1 rfl)];rfl
noncomputable def ai.E:=Entry.ct [some gb,some gb] ai.st ai.aB ai.add ai.F ai.out
noncomputable def ai.call:ai.D→Option ai.X:=bG ai.E ai.st
theorem ai.run:bB ai.call ai.aB ai.add ai.F:=cO (cM [.d gb,.d gb] fun _=>by kernel_rfl)
noncomputable def ai.sg:SG Tryz.prog:=⟨28,aU,ai.E,.fn 2 (by kernel_rfl) ai.ok (And.intro (.ct ai.L0.ok (by kernel_rfl)) (And.intro (.ct ai.L1.ok (by kernel_rfl)) trivial))⟩
abbrev ax.L0.D:=(List j4)×(List j4)×Int
def ax.L0.st:ax.L0.D→AS:=fun(a_2,b_2,i)=>⟨([.d (.slice kp) a_2,.d (.slice kp) b_2,.undef,.undef,.undef,.d ti i]++ba 20 []),[],(List.replicate 26 [])⟩
abbrev ax.L0.Y0:=Unit
abbrev ax.L0.X0:=Unit
def ax.L0.bq:ax.L0.X0→Exit×AS:=fun x=>(.ret,⟨(ba 4 ([.d .bool false]++ba 21 [])),[],(List.replicate 26 [])⟩)
abbrev ax.L0.Y1:=Unit
abbrev ax.L0.X1:=Unit
def ax.L0.eP:ax.L0.X1→Exit×AS:=fun x=>(.exit 0,⟨(ba 26 []),[],(List.replicate 26 [])⟩)
abbrev ax.L0.X:=(ax.L0.X0)⊕(ax.L0.X1)
abbrev ax.L0.Y:=(ax.L0.Y0)⊕(ax.L0.Y1)
def ax.L0.out:ax.L0.X→Out (Exit×AS):=fun x=> .br x.isLeft (.get x.getLeft? fun a=> .ok (ax.L0.bq a)) (.get x.getRight? fun b=> .ok (ax.L0.eP b))
def ax.L0.add:ax.L0.D→ax.L0.Y→ax.L0.X:=fun(a_2,b_2,i) y=>match y with | .inl y=> .inl y | .inr z=> .inr (z)
abbrev ax.D:=(List j4)×(List j4)
def ax.st:ax.D→SA:=fun(a,b)=>([.d (.slice kp) a,.d (.slice kp) b],[])
abbrev ax.Y:=Bool
abbrev ax.X:=Bool
def ax.out:ax.X→aY:=fun x=>⟨.d .bool x,[],[]⟩
def ax.add:ax.D→ax.Y→ax.X:=fun(a,b) y=>y
def ax.L0.aB:ax.L0.D→Prop:=fun(a,b,i)=>a.length≤1000000000∧a.length=b.length∧∃k:Nat,k≤a.length∧i=k
def ax.L0.F:ax.L0.D→ax.L0.Y:=fun(a,b,i)=>if List.drop (Int.toNat i) a=List.drop (Int.toNat i) b then .inr () else .inl ()
def ax.aB:ax.D→Prop:=fun(a,b)=>a.length≤1000000000
def ax.F:ax.D→ax.Y:=fun(a,b)=>decide (a=b)
noncomputable def ax.G:dR:=eO (P:=Tryz.prog) []
noncomputable def ax.L0.E:=bM.ct ax.L0.st ax.L0.aB ax.L0.add ax.L0.F ax.L0.out
noncomputable def ax.L0.call:ax.L0.D→Option ax.L0.X:=dg ax.L0.E ax.L0.st
noncomputable def ax.an:eu:= {loops:=jO [(4,{bh:=[0,1,5]})],outs:=jN [(4,{},{bh:=[4]})],fF:=ky [(4,ax.L0.E)]}
noncomputable def ax.A:= @cI Tryz.prog ax.G ax.an 0 Tryz.f37 _ ax.st
abbrev ax.Ok:=cJ @ax.A ax.aB ax.add ax.F ax.out
noncomputable def ax.L0.R:= @cf Tryz.prog ax.G ax.an 0 Tryz.f37 0 _ ax.L0.st
abbrev ax.L0.Ok:=ez Tryz.prog ax.G ax.an 0 Tryz.f37 0 ax.L0.st ax.L0.aB ax.L0.add ax.L0.F ax.L0.out
theorem ax.L0.run:bB ax.L0.call ax.L0.aB ax.L0.add ax.L0.F:=eE (eD [.d (.slice kp),.d (.slice kp),.d ti] fun _=>by kernel_rfl)
theorem ax.L0.aH:jl @ax.L0.R ax.L0.st ax.L0.aB ax.L0.add ax.L0.F ax.L0.out ax.L0.Ok:=jL
theorem ax.L0.step{R:Type}(a_2:(List j4))(b_2:(List j4))(i:Int)(kn:AS→Option R)(kx:Exit→AS→Option R):ax.L0.R (a_2,b_2,i) kn kx=
  aJ ((fY i (((List.length a_2):Nat):Int))) (
   aJ (eh i (((List.length a_2):Nat):Int)) (
   aJ (eh i (((List.length b_2):Nat):Int)) (
   aJ ((!(Ty.beq kp (nth kp a_2 (Int.toNat i)) (nth kp b_2 (Int.toNat i))))) (
    kx (ax.L0.bq ()).1 (ax.L0.bq ()).2) (
    kn (ax.L0.st (a_2,b_2,(bK .i64 i (1:Int)))))) none) none) (
   kx (ax.L0.eP ()).1 (ax.L0.eP ()).2):=by kernel_rfl
theorem ax.eq{R:Type}(a:(List j4))(b:(List j4))(k:aY→Option R):ax.A (a,b) k=
  aJ ((ku (((List.length a):Nat):Int) (((List.length b):Nat):Int))) (
   k (ax.out false)) (
   aq (ax.L0.call (a,b,(0:Int))) fun x1=>
   aJ (x1.isLeft) (
    aq (x1.getLeft?) fun a2=>
    k (ax.out false)) (
    aq (x1.getRight?) fun b3=>
    k (ax.out true))):=by kernel_rfl
theorem ax.L0.ok:ax.L0.Ok:=by
 refine ax.L0.aH (fun(a,b,i)=>a.length - Int.toNat i) ?_
 rintro⟨a,b,i⟩ ⟨hlen,hab,k,hk,rfl⟩
 have hlen:a.length≤1000000000:=hlen
 have hab:a.length=b.length:=hab
 have hk:k≤a.length:=hk
 by_cases h:k < a.length
 ·have h2:k < b.length:=by omega
  have n1:nth kp a k=a[k]:=cw (t:=kp) h
  have n2:nth kp b k=b[k]:=cw (t:=kp) h2
  have hd:(List.drop k a=List.drop k b)=(a[k]=b[k]∧List.drop (k+1) a=List.drop (k+1) b):=by rw[List.drop_eq_getElem_cons h,List.drop_eq_getElem_cons h2,List.cons.injEq]
  have step:∀ {R:Type} (kn:AS→Option R) (kx:Exit→AS→Option R),ax.L0.R (a,b,(k:Int)) kn kx=if a[k]=b[k] then kn (ax.L0.st (a,b,((k+1:Nat):Int))) else kx (ax.L0.bq ()).1 (ax.L0.bq ()).2:=by
   intro R kn kx
   rw[ax.L0.step,bw (by omega),bn (by omega) (by omega),bn (by omega) (by omega),Int.toNat_natCast,n1,n2]
   simp only[az]
   rw[q9,N.kA (by omega)]
   by_cases hx:a[k]=b[k]
   ·rw[aO hx,if_pos hx];rfl
   ·rw[aK hx,if_neg hx];rfl
  by_cases hx:a[k]=b[k]
  ·left
   refine⟨(a,b,((k+1:Nat):Int)),⟨hlen,hab,k+1,by omega,rfl⟩,by simp only[Int.toNat_natCast];omega,?_,fun kn kx=> ?_⟩
   ·simp only[ax.L0.add,ax.L0.F,Int.toNat_natCast,hd,hx,true_and]
   ·rw[step,if_pos hx]
  ·right
   refine⟨ax.L0.bq (),?_,fun kn kx=> ?_⟩
   ·simp only[ax.L0.add,ax.L0.F,Int.toNat_natCast,hd,hx,false_and,if_false]
    rfl
   ·rw[step,if_neg hx]
 ·right
  obtain rfl:k=a.length:=by omega
  refine⟨ax.L0.eP (),?_,fun kn kx=> ?_⟩
  ·simp only[ax.L0.add,ax.L0.F,Int.toNat_natCast,List.drop_length]
   rw[hab,List.drop_length,if_pos rfl]
   rfl
  ·rw[ax.L0.step,bm (by omega),ay]
theorem ax.ok:ax.Ok:=by
 rintro⟨a,b⟩ h
 have h:a.length≤1000000000:=h
 rw[ax.eq]
 simp only[ax.add,ax.F]
 by_cases e3:a.length=b.length
 ·rw[bT (by omega),ax.L0.run (d:=(a,b,0)) ⟨h,e3,0,Nat.zero_le _,rfl⟩]
  simp only[ab,ax.L0.add,ax.L0.F,Int.toNat_zero,List.drop_zero,ay]
  by_cases e4:a=b
  ·rw[if_pos e4,aO e4];rfl
  ·rw[if_neg e4,aK e4];rfl
 ·rw[dB (by omega),aK (fun x=>e3 (by rw[x]))];rfl
noncomputable def ax.E:=Entry.ct [some (.slice kp),some (.slice kp)] ax.st ax.aB ax.add ax.F ax.out
noncomputable def ax.call:ax.D→Option ax.X:=bG ax.E ax.st
theorem ax.run:bB ax.call ax.aB ax.add ax.F:=cO (cM [.d (.slice kp),.d (.slice kp)] fun _=>by kernel_rfl)
noncomputable def ax.sg:SG Tryz.prog:=⟨37,aU,ax.E,.fn 1 (by kernel_rfl) ax.ok (And.intro (.ct ax.L0.ok (by kernel_rfl)) trivial)⟩
set_option synthInstance.maxSize 5000
abbrev ae.L0.D:=eX×Int×(Int×Unit)×Nat×(Int×Unit)×(List ff)
def ae.L0.st:ae.L0.D→AS:=fun(t_2,i,n2,n3L,n3,n36)=>⟨([.undef,.eC gb t_2,.ptr (.new 2 0) 0 [] 0,.ptr (.new 3 0) 0 [] 0,.d ti i]++ba 89 []),[],([[],[],[.obj 0 false (.pr (.cU) (.pr (.cU) (.d (.pair ti .unit) n2)))],[.obj 0 false (.pr (.cd (.new 36 0) 0 [] 0 0 n3L) (.pr (.cU) (.d (.pair ti .unit) n3)))]]++bN 32 ([[.obj 0 false (.vec 57 eH n36)]]++bN 57 []))⟩
abbrev ae.L0.Y0:=Nat×(List ff)
abbrev ae.L0.X0:=(eX×(Int×Unit)×(Int×Unit))×(Nat×(List ff))
def ae.L0.bq:ae.L0.X0→Exit×AS:=fun x=>(.exit 0,⟨([.undef,.eC gb x.1.1,.ptr (.new 2 0) 0 [] 0,.ptr (.new 3 0) 0 [] 0]++ba 90 []),[],([[],[],[.obj 0 false (.pr (.cU) (.pr (.cU) (.d (.pair ti .unit) x.1.2.1)))],[.obj 0 false (.pr (.cd (.new 36 0) 0 [] 0 0 x.2.1) (.pr (.cU) (.d (.pair ti .unit) x.1.2.2)))]]++bN 32 ([[.obj 0 false (.vec 57 eH x.2.2)]]++bN 57 []))⟩)
abbrev ae.L0.X:=ae.L0.X0
abbrev ae.L0.Y:=ae.L0.Y0
def ae.L0.out:ae.L0.X→Out (Exit×AS):=fun x=> .ok (ae.L0.bq x)
def ae.L0.add:ae.L0.D→ae.L0.Y→ae.L0.X:=fun(t_2,i,n2,n3L,n3,n36) y=>((t_2,n2,n3),y)
abbrev ae.L1.D:=eX×Int×(Int×Unit)×Nat×Nat×(Int×Unit)×(List ff)×(List fM)
def ae.L1.st:ae.L1.D→AS:=fun(t_3,i_2,n2_2,n3L_2,n3L_3,n3_2,n36_2,n91)=>⟨([.undef,.eC gb t_3,.ptr (.new 2 0) 0 [] 0,.ptr (.new 3 0) 0 [] 0,.undef,.undef,.d ti i_2]++ba 87 []),[],([[],[],[.obj 0 false (.pr (.cU) (.pr (.cU) (.d (.pair ti .unit) n2_2)))],[.obj 0 false (.pr (.cd (.new 36 0) 0 [] 0 0 n3L_2) (.pr (.cd (.new 91 0) 0 [] 0 0 n3L_3) (.d (.pair ti .unit) n3_2)))]]++bN 32 ([[.obj 0 false (.vec 57 eH n36_2)]]++bN 54 [[.obj 0 false (.vec 62 eR n91)],[],[]]))⟩
abbrev ae.L1.Y0:=(Int×Unit)×Nat×Nat×(Int×Unit)×(List ff)×(List fM)
abbrev ae.L1.X0:=(Int×Unit)×Nat×Nat×(Int×Unit)×(List ff)×(List fM)
def ae.L1.bq:ae.L1.X0→Exit×AS:=fun x=>(.exit 2,⟨([.undef,.undef,.ptr (.new 2 0) 0 [] 0,.ptr (.new 3 0) 0 [] 0]++ba 90 []),[],([[],[],[.obj 0 false (.pr (.cU) (.pr (.cU) (.d (.pair ti .unit) x.1)))],[.obj 0 false (.pr (.cd (.new 36 0) 0 [] 0 0 x.2.1) (.pr (.cd (.new 91 0) 0 [] 0 0 x.2.2.1) (.d (.pair ti .unit) x.2.2.2.1)))]]++bN 32 ([[.obj 0 false (.vec 57 eH x.2.2.2.2.1)]]++bN 54 [[.obj 0 false (.vec 62 eR x.2.2.2.2.2)],[],[]]))⟩)
abbrev ae.L1.X:=ae.L1.X0
abbrev ae.L1.Y:=ae.L1.Y0
def ae.L1.out:ae.L1.X→Out (Exit×AS):=fun x=> .ok (ae.L1.bq x)
def ae.L1.add:ae.L1.D→ae.L1.Y→ae.L1.X:=fun(t_3,i_2,n2_2,n3L_2,n3L_3,n3_2,n36_2,n91) y=>y
abbrev ae.L2.D:=eX×Int×Int×(Int×Unit)×Nat×Nat×(Int×Unit)×Int×Nat×(List ff)×(List fX)×(List fM)
def ae.L2.st:ae.L2.D→AS:=fun(t_4,i_3,kv,n2_3,n3L_4,n3L_5,n3_3,n7,n7L,n36_3,n84,n91_2)=>⟨([.undef,.eC gb t_4,.ptr (.new 2 0) 0 [] 0,.ptr (.new 3 0) 0 [] 0,.undef,.undef,.d ti i_3,.ptr (.new 7 0) 0 [] 0,.d ti kv]++ba 85 []),[],([[],[],[.obj 0 false (.pr (.cU) (.pr (.cU) (.d (.pair ti .unit) n2_3)))],[.obj 0 false (.pr (.cd (.new 36 0) 0 [] 0 0 n3L_4) (.pr (.cd (.new 91 0) 0 [] 0 0 n3L_5) (.d (.pair ti .unit) n3_3)))],[],[],[],[.obj 0 false (.pr (.d ti n7) (.pr (.pr (.cd (.new 84 0) 0 [] 0 0 n7L) (.d .unit ())) (.d .unit ())))]]++bN 28 ([[.obj 0 false (.vec 57 eH n36_3)]]++bN 47 ([[.obj 0 false (.vec 85 fe n84)]]++bN 6 [[.obj 0 false (.vec 62 eR n91_2)],[],[]])))⟩
abbrev ae.L2.Y0:=Nat×(List fX)
abbrev ae.L2.X0:=(eX×Int×(Int×Unit)×Nat×Nat×(Int×Unit)×Int×(List ff)×(List fM))×(Nat×(List fX))
def ae.L2.bq:ae.L2.X0→Exit×AS:=fun x=>(.exit 4,⟨([.undef,.eC gb x.1.1,.ptr (.new 2 0) 0 [] 0,.ptr (.new 3 0) 0 [] 0,.undef,.undef,.d ti x.1.2.1,.ptr (.new 7 0) 0 [] 0]++ba 86 []),[],([[],[],[.obj 0 false (.pr (.cU) (.pr (.cU) (.d (.pair ti .unit) x.1.2.2.1)))],[.obj 0 false (.pr (.cd (.new 36 0) 0 [] 0 0 x.1.2.2.2.1) (.pr (.cd (.new 91 0) 0 [] 0 0 x.1.2.2.2.2.1) (.d (.pair ti .unit) x.1.2.2.2.2.2.1)))],[],[],[],[.obj 0 false (.pr (.d ti x.1.2.2.2.2.2.2.1) (.pr (.pr (.cd (.new 84 0) 0 [] 0 0 x.2.1) (.d .unit ())) (.d .unit ())))]]++bN 28 ([[.obj 0 false (.vec 57 eH x.1.2.2.2.2.2.2.2.1)]]++bN 47 ([[.obj 0 false (.vec 85 fe x.2.2)]]++bN 6 [[.obj 0 false (.vec 62 eR x.1.2.2.2.2.2.2.2.2)],[],[]])))⟩)
abbrev ae.L2.X:=ae.L2.X0
abbrev ae.L2.Y:=ae.L2.Y0
def ae.L2.out:ae.L2.X→Out (Exit×AS):=fun x=> .ok (ae.L2.bq x)
def ae.L2.add:ae.L2.D→ae.L2.Y→ae.L2.X:=fun(t_4,i_3,kv,n2_3,n3L_4,n3L_5,n3_3,n7,n7L,n36_3,n84,n91_2) y=>((t_4,i_3,n2_3,n3L_4,n3L_5,n3_3,n7,n36_3,n91_2),y)
abbrev ae.D:=eX
def ae.st:ae.D→SA:=fun t=>([.d gb t],[])
abbrev ae.Y:=Nat×Nat×(Int×Unit)×(List ff)×(List fM)
abbrev ae.X:=Nat×Nat×(Int×Unit)×(List ff)×(List fM)
def ae.out:ae.X→aY:=fun x=>⟨.pr (.cd (.new 0 0) 0 [] 0 0 x.1) (.pr (.cd (.new 0 1) 0 [] 0 0 x.2.1) (.d (.pair ti .unit) x.2.2.1)),[],[.obj 0 false (.vec 57 eH x.2.2.2.1),.obj 0 false (.vec 62 eR x.2.2.2.2)]⟩
def ae.add:ae.D→ae.Y→ae.X:=fun t y=>y
def ae.L0.aB:ae.L0.D→Prop:=fun(t,i,u,L,v,r)=>(t.1).length≤1000000∧∃k:Nat,k≤(t.1).length∧i=k∧L=(r).length∧(r).length≤1000000+k∧(∀x∈t.1,x.2.1.2.1.length≤1000000)
def ae.L0.F:ae.L0.D→ae.L0.Y:=fun(t,i,u,L,v,r)=>(L+(List.drop (Int.toNat i) t.1).length,r++(List.drop (Int.toNat i) t.1).map (fun x:ff=>x))
def ae.L2.aB:ae.L2.D→Prop:=fun(t,j,i,u,L4,L5,v,am,L,is,r,os)=>((nth eR t.2.1 (Int.toNat j)).2.1.1).length≤1000000∧∃k:Nat,k≤((nth eR t.2.1 (Int.toNat j)).2.1.1).length∧i=k∧L=(r).length∧(r).length≤1000000+k∧(0≤j∧j < (t.2.1.length:Int))∧(∀x∈(nth eR t.2.1 (Int.toNat j)).2.1.1,x.1.length≤1000000)
def ae.L2.F:ae.L2.D→ae.L2.Y:=fun(t,j,i,u,L4,L5,v,am,L,is,r,os)=>(L+(List.drop (Int.toNat i) (nth eR t.2.1 (Int.toNat j)).2.1.1).length,r++(List.drop (Int.toNat i) (nth eR t.2.1 (Int.toNat j)).2.1.1).map (fun x:fX=>x))
def ae.L1.aB:ae.L1.D→Prop:=fun(t,i,u,L3,L,v,is,r)=>(t.2.1.length≤1000∧∀x∈t.2.1,x.2.1.1.length≤1000∧∀b∈x.2.1.1,b.1.length≤1000000)∧∃k:Nat,k≤t.2.1.length∧i=k∧L=r.length∧r.length=k
def ae.L1.F:ae.L1.D→ae.L1.Y:=fun(t,i,u,L3,L,v,is,r)=>(u,L3,L+(t.2.1.drop i.toNat).length,v,is,r++t.2.1.drop i.toNat)
def Cf(t:eX):Prop:=(t.1.length≤1000∧∀x∈t.1,x.2.1.2.1.length≤1000000)∧t.2.1.length≤1000∧∀x∈t.2.1,x.2.1.1.length≤1000∧∀b∈x.2.1.1,b.1.length≤1000000
def ae.aB:ae.D→Prop:=fun t=>Cf t
def ae.F:ae.D→ae.Y:=fun t=>(t.1.length,t.2.1.length,(t.2.2.1,()),t.1,t.2.1)
noncomputable def ae.G:dR:=eO (P:=Tryz.prog) []
noncomputable def ae.L0.E:=bM.ct ae.L0.st ae.L0.aB ae.L0.add ae.L0.F ae.L0.out
noncomputable def ae.L0.call:ae.L0.D→Option ae.L0.X:=dg ae.L0.E ae.L0.st
noncomputable def ae.L1.E:=bM.ct ae.L1.st ae.L1.aB ae.L1.add ae.L1.F ae.L1.out
noncomputable def ae.L1.call:ae.L1.D→Option ae.L1.X:=dg ae.L1.E ae.L1.st
noncomputable def ae.L2.E:=bM.ct ae.L2.st ae.L2.aB ae.L2.add ae.L2.F ae.L2.out
noncomputable def ae.L2.call:ae.L2.D→Option ae.L2.X:=dg ae.L2.E ae.L2.st
noncomputable def ae.an:eu:= {bH:=[25,74],loops:=jO [(3,{bh:=[1,2,3,4],sites:=[2,3,36],iu:=[⟨3,[.fst],36,36⟩]}),(9,{bh:=[1,2,3,6],sites:=[2,3,36,91],iu:=[⟨3,[.snd,.fst],91,37⟩]}),(13,{bh:=[1,2,3,6,7,8],sites:=[2,3,7,36,84,91],iu:=[⟨7,[.snd,.fst,.fst],84,22⟩]})],outs:=jN [(3,{bh:=[1,2,3],sites:=[2,3,36]},{bh:=[2]}),(9,{bh:=[2,3],sites:=[2,3,36,91]},{bh:=[2]}),(13,{bh:=[1,2,3,6,7],sites:=[2,3,7,36,84,91]},{bh:=[2]})],fF:=ky [(3,ae.L0.E),(9,ae.L1.E),(13,ae.L2.E)]}
noncomputable def ae.A:= @cI Tryz.prog ae.G ae.an 0 Tryz.f23 _ ae.st
abbrev ae.Ok:=cJ @ae.A ae.aB ae.add ae.F ae.out
noncomputable def ae.L0.R:= @cf Tryz.prog ae.G ae.an 0 Tryz.f23 0 _ ae.L0.st
abbrev ae.L0.Ok:=ez Tryz.prog ae.G ae.an 0 Tryz.f23 0 ae.L0.st ae.L0.aB ae.L0.add ae.L0.F ae.L0.out
noncomputable def ae.L1.R:= @cf Tryz.prog ae.G ae.an 0 Tryz.f23 1 _ ae.L1.st
abbrev ae.L1.Ok:=ez Tryz.prog ae.G ae.an 0 Tryz.f23 1 ae.L1.st ae.L1.aB ae.L1.add ae.L1.F ae.L1.out
noncomputable def ae.L2.R:= @cf Tryz.prog ae.G ae.an 0 Tryz.f23 2 _ ae.L2.st
abbrev ae.L2.Ok:=ez Tryz.prog ae.G ae.an 0 Tryz.f23 2 ae.L2.st ae.L2.aB ae.L2.add ae.L2.F ae.L2.out
theorem ae.L0.run:bB ae.L0.call ae.L0.aB ae.L0.add ae.L0.F:=eE (eD [.d gb,.d ti,.d (.pair ti .unit),.n,.d (.pair ti .unit),.d (.slice eH)] fun _=>by kernel_rfl)
theorem ae.L0.aH:fP @ae.L0.R ae.L0.st ae.L0.aB ae.L0.add ae.L0.F ae.L0.bq ae.L0.Ok:=fS
theorem ae.L0.step{R:Type}(t_2:eX)(i:Int)(n2:(Int×Unit))(n3L:Nat)(n3:(Int×Unit))(n36:(List ff))(kn:AS→Option R)(kx:Exit→AS→Option R):ae.L0.R (t_2,i,n2,n3L,n3,n36) kn kx=
  aJ ((fY i (((List.length t_2.1):Nat):Int))) (
   aJ (eh i (((List.length t_2.1):Nat):Int)) (
   aJ (dh (0+(List.length (nth eH t_2.1 (Int.toNat i)).2.1.2.1)) 16) (
   aJ (decide (0=0∧(0+(0+(List.length (nth eH t_2.1 (Int.toNat i)).2.1.2.1)))≤(List.length ((List.take 0 (List.replicate 0 ((0:Int),((0:Int),()))))++(nth eH t_2.1 (Int.toNat i)).2.1.2.1)))) (
   aJ (decide (n3L≤(List.length n36))) (
   aJ (dh (n3L+1) 80) (
   kn (ae.L0.st (t_2,(bK .i64 i (1:Int)),n2,(n3L+1),n3,((List.take n3L n36)++ [((nth eH t_2.1 (Int.toNat i)).1,(((nth eH t_2.1 (Int.toNat i)).2.1.1,((cut ((List.take 0 (List.replicate 0 ((0:Int),((0:Int),()))))++(nth eH t_2.1 (Int.toNat i)).2.1.2.1) 0 (0+(List.length (nth eH t_2.1 (Int.toNat i)).2.1.2.1))),(nth eH t_2.1 (Int.toNat i)).2.1.2.2)),(nth eH t_2.1 (Int.toNat i)).2.2))])))) none) none) none) none) none) (
   kx (ae.L0.bq ((t_2,n2,n3),(n3L,n36))).1 (ae.L0.bq ((t_2,n2,n3),(n3L,n36))).2):=by kernel_rfl
theorem ae.L1.run:bB ae.L1.call ae.L1.aB ae.L1.add ae.L1.F:=eE (eD [.d gb,.d ti,.d (.pair ti .unit),.n,.n,.d (.pair ti .unit),.d (.slice eH),.d (.slice eR)] fun _=>by kernel_rfl)
theorem ae.L1.aH:fP @ae.L1.R ae.L1.st ae.L1.aB ae.L1.add ae.L1.F ae.L1.bq ae.L1.Ok:=fS
theorem ae.L1.step{R:Type}(t_3:eX)(i_2:Int)(n2_2:(Int×Unit))(n3L_2:Nat)(n3L_3:Nat)(n3_2:(Int×Unit))(n36_2:(List ff))(n91:(List fM))(kn:AS→Option R)(kx:Exit→AS→Option R):ae.L1.R (t_3,i_2,n2_2,n3L_2,n3L_3,n3_2,n36_2,n91) kn kx=
  aJ ((fY i_2 (((List.length t_3.2.1):Nat):Int))) (
   aJ (eh i_2 (((List.length t_3.2.1):Nat):Int)) (
   aq (ae.L2.call (t_3,i_2,(0:Int),n2_2,n3L_2,n3L_3,n3_2,(nth eR t_3.2.1 (Int.toNat i_2)).1,0,n36_2,([]:List fX),n91)) fun x1=>
   aJ (decide (0=0∧(0+x1.2.1)≤(List.length x1.2.2))) (
   aJ (decide (x1.1.2.2.2.2.1≤(List.length x1.1.2.2.2.2.2.2.2.2))) (
   aJ (dh (x1.1.2.2.2.2.1+1) 32) (
   kn (ae.L1.st (x1.1.1,(bK .i64 x1.1.2.1 (1:Int)),x1.1.2.2.1,x1.1.2.2.2.1,(x1.1.2.2.2.2.1+1),x1.1.2.2.2.2.2.1,x1.1.2.2.2.2.2.2.2.1,((List.take x1.1.2.2.2.2.1 x1.1.2.2.2.2.2.2.2.2)++ [(x1.1.2.2.2.2.2.2.1,(((cut x1.2.2 0 x1.2.1),()),()))])))) none) none) none) none) (
   kx (ae.L1.bq (n2_2,n3L_2,n3L_3,n3_2,n36_2,n91)).1 (ae.L1.bq (n2_2,n3L_2,n3L_3,n3_2,n36_2,n91)).2):=by kernel_rfl
theorem ae.L2.run:bB ae.L2.call ae.L2.aB ae.L2.add ae.L2.F:=eE (eD [.d gb,.d ti,.d ti,.d (.pair ti .unit),.n,.n,.d (.pair ti .unit),.d ti,.n,.d (.slice eH),.d (.slice fe),.d (.slice eR)] fun _=>by kernel_rfl)
theorem ae.L2.aH:fP @ae.L2.R ae.L2.st ae.L2.aB ae.L2.add ae.L2.F ae.L2.bq ae.L2.Ok:=fS
theorem ae.L2.step{R:Type}(t_4:eX)(i_3:Int)(kv:Int)(n2_3:(Int×Unit))(n3L_4:Nat)(n3L_5:Nat)(n3_3:(Int×Unit))(n7:Int)(n7L:Nat)(n36_3:(List ff))(n84:(List fX))(n91_2:(List fM))(kn:AS→Option R)(kx:Exit→AS→Option R):ae.L2.R (t_4,i_3,kv,n2_3,n3L_4,n3L_5,n3_3,n7,n7L,n36_3,n84,n91_2) kn kx=
  aJ (eh i_3 (((List.length t_4.2.1):Nat):Int)) (
  aJ ((fY kv (((List.length (nth eR t_4.2.1 (Int.toNat i_3)).2.1.1):Nat):Int))) (
   aJ (eh i_3 (((List.length t_4.2.1):Nat):Int)) (
   aJ (eh kv (((List.length (nth eR t_4.2.1 (Int.toNat i_3)).2.1.1):Nat):Int)) (
   aJ (dh (0+(List.length (nth fe (nth eR t_4.2.1 (Int.toNat i_3)).2.1.1 (Int.toNat kv)).1)) 8) (
   aJ (decide (0=0∧(0+(0+(List.length (nth fe (nth eR t_4.2.1 (Int.toNat i_3)).2.1.1 (Int.toNat kv)).1)))≤(List.length ((List.take 0 (List.replicate 0 (0:Int)))++(nth fe (nth eR t_4.2.1 (Int.toNat i_3)).2.1.1 (Int.toNat kv)).1)))) (
   aJ (decide (n7L≤(List.length n84))) (
   aJ (dh (n7L+1) 48) (
   kn (ae.L2.st (t_4,i_3,(bK .i64 kv (1:Int)),n2_3,n3L_4,n3L_5,n3_3,n7,(n7L+1),n36_3,((List.take n7L n84)++ [((cut ((List.take 0 (List.replicate 0 (0:Int)))++(nth fe (nth eR t_4.2.1 (Int.toNat i_3)).2.1.1 (Int.toNat kv)).1) 0 (0+(List.length (nth fe (nth eR t_4.2.1 (Int.toNat i_3)).2.1.1 (Int.toNat kv)).1))),(nth fe (nth eR t_4.2.1 (Int.toNat i_3)).2.1.1 (Int.toNat kv)).2)]),n91_2))) none) none) none) none) none) none) (
   kx (ae.L2.bq ((t_4,i_3,n2_3,n3L_4,n3L_5,n3_3,n7,n36_3,n91_2),(n7L,n84))).1 (ae.L2.bq ((t_4,i_3,n2_3,n3L_4,n3L_5,n3_3,n7,n36_3,n91_2),(n7L,n84))).2)) none:=by kernel_rfl
theorem ae.eq{R:Type}(t:eX)(k:aY→Option R):ae.A t k=
 aq (ae.L0.call (t,(0:Int),((0:Int),()),0,(t.2.2.1,()),([]:List ff))) fun x1=>
 aq (ae.L1.call (x1.1.1,(0:Int),x1.1.2.1,x1.2.1,0,x1.1.2.2,x1.2.2,([]:List fM))) fun x4=>
 k (ae.out (x4.2.1,x4.2.2.1,x4.2.2.2.1,x4.2.2.2.2.1,x4.2.2.2.2.2)):=by kernel_rfl
theorem ae.L0.ok:ae.L0.Ok:=by
 refine ae.L0.aH (fun(t,i,u,L,v,r)=>(t.1).length - Int.toNat i) ?_
 rintro⟨t,i,u,L,v,r⟩ ⟨hlen,k,hk,rfl,rfl,hrow,hx⟩
 have hlen:(t.1).length≤1000000:=hlen
 have hk:k≤(t.1).length:=hk
 have hrow:(r).length≤1000000+k:=hrow
 have hx:∀x∈t.1,x.2.1.2.1.length≤1000000:=hx
 by_cases h:k < (t.1).length
 ·left
  have n1:nth eH t.1 k=t.1[k]:=cw (t:=eH) h
  have hd:List.drop k t.1=t.1[k]::List.drop (k+1) t.1:=List.drop_eq_getElem_cons h
  refine⟨(t,((k+1:Nat):Int),u,(r).length+1,v,r++ [(fun x:ff=>x) t.1[k]]),⟨hlen,k+1,by omega,rfl,by rw[List.length_append];rfl,by rw[List.length_append];show(r).length+1≤_;omega,hx⟩,by simp only[Int.toNat_natCast];omega,?_,fun kn kx=> ?_⟩
  ·simp only[ae.L0.add,ae.L0.F,Int.toNat_natCast,hd,List.map_cons,List.length_cons,List.append_assoc,List.singleton_append]
   rw[show ∀a c:Nat,a+1+c=a+(c+1) from fun a c=>by omega]
  ·rw[ae.L0.step,bw (by omega),bn (show(0:Int)≤(k:Int) by omega) (by omega),Int.toNat_natCast,n1]
   simp only[az]
   have e:=hx _ (List.getElem_mem h)
   have hr:dh t.1[k].2.1.2.1.length 16=true:=eB (by omega) (by omega)
   simp only[Nat.zero_add,List.take_zero,List.nil_append,hr,az,Nat.le_refl,and_self,decide_true,fa]
   rw[eB (by omega) (by omega),N.kA (by omega),List.take_length]
   rfl
 ·right
  obtain rfl:k=(t.1).length:=by omega
  intro R kn kx
  rw[ae.L0.step,bm (by omega),ay]
  simp only[ae.L0.add,ae.L0.F,Int.toNat_natCast,List.drop_length,List.map_nil,List.append_nil,List.length_nil,Nat.add_zero]
theorem ae.L2.ok:ae.L2.Ok:=by
 refine ae.L2.aH (fun(t,j,i,u,L4,L5,v,am,L,is,r,os)=>((nth eR t.2.1 (Int.toNat j)).2.1.1).length - Int.toNat i) ?_
 rintro⟨t,j,i,u,L4,L5,v,am,L,is,r,os⟩ ⟨hlen,k,hk,rfl,rfl,hrow,hj,hx⟩
 have hlen:((nth eR t.2.1 (Int.toNat j)).2.1.1).length≤1000000:=hlen
 have hk:k≤((nth eR t.2.1 (Int.toNat j)).2.1.1).length:=hk
 have hrow:(r).length≤1000000+k:=hrow
 have hj:0≤j∧j < (t.2.1.length:Int):=hj
 have hx:∀x∈(nth eR t.2.1 (Int.toNat j)).2.1.1,x.1.length≤1000000:=hx
 by_cases h:k < ((nth eR t.2.1 (Int.toNat j)).2.1.1).length
 ·left
  have n1:nth fe (nth eR t.2.1 (Int.toNat j)).2.1.1 k=(nth eR t.2.1 (Int.toNat j)).2.1.1[k]:=cw (t:=fe) h
  have hd:List.drop k (nth eR t.2.1 (Int.toNat j)).2.1.1=(nth eR t.2.1 (Int.toNat j)).2.1.1[k]::List.drop (k+1) (nth eR t.2.1 (Int.toNat j)).2.1.1:=List.drop_eq_getElem_cons h
  refine⟨(t,j,((k+1:Nat):Int),u,L4,L5,v,am,(r).length+1,is,r++ [(fun x:fX=>x) (nth eR t.2.1 (Int.toNat j)).2.1.1[k]],os),⟨hlen,k+1,by omega,rfl,by rw[List.length_append];rfl,by rw[List.length_append];show(r).length+1≤_;omega,hj,hx⟩,by simp only[Int.toNat_natCast];omega,?_,fun kn kx=> ?_⟩
  ·simp only[ae.L2.add,ae.L2.F,Int.toNat_natCast,hd,List.map_cons,List.length_cons,List.append_assoc,List.singleton_append]
   rw[show ∀a c:Nat,a+1+c=a+(c+1) from fun a c=>by omega]
  ·rw[ae.L2.step,bn hj.1 hj.2,az,bw (by omega),bn (show(0:Int)≤(k:Int) by omega) (by omega),Int.toNat_natCast,n1]
   simp only[az]
   have e:=hx _ (List.getElem_mem h)
   have hr:dh (nth eR t.2.1 (Int.toNat j)).2.1.1[k].1.length 8=true:=eB (by omega) (by omega)
   simp only[Nat.zero_add,List.take_zero,List.nil_append,hr,az,Nat.le_refl,and_self,decide_true,fa]
   rw[eB (by omega) (by omega),N.kA (by omega),List.take_length]
   rfl
 ·right
  obtain rfl:k=((nth eR t.2.1 (Int.toNat j)).2.1.1).length:=by omega
  intro R kn kx
  rw[ae.L2.step,bn hj.1 hj.2,az,bm (by omega),ay]
  simp only[ae.L2.add,ae.L2.F,Int.toNat_natCast,List.drop_length,List.map_nil,List.append_nil,List.length_nil,Nat.add_zero]
theorem ae.L1.ok:ae.L1.Ok:=by
 refine ae.L1.aH (fun(t,i,u,L3,L,v,is,r)=>t.2.1.length - i.toNat) ?_
 rintro⟨t,i,u,L3,L,v,is,r⟩ ⟨⟨hl,hx⟩,k,hk,rfl,rfl,hrk⟩
 have hl:t.2.1.length≤1000:=hl
 have hk:k≤t.2.1.length:=hk
 have hrk:r.length=k:=hrk
 by_cases h:k < t.2.1.length
 ·left
  have e:=hx _ (List.getElem_mem h)
  have n1:nth eR t.2.1 k=t.2.1[k]:=cw (t:=eR) h
  have hd:t.2.1.drop k=t.2.1[k]::t.2.1.drop (k+1):=List.drop_eq_getElem_cons h
  have e1:(nth eR t.2.1 (Int.toNat (k:Int))).2.1.1=t.2.1[k].2.1.1:=by rw[Int.toNat_natCast,n1]
  refine⟨(t,((k+1:Nat):Int),u,L3,r.length+1,v,is,r++ [t.2.1[k]]),⟨⟨hl,hx⟩,k+1,by omega,rfl,by rw[List.length_append];rfl,by rw[List.length_append];show r.length+1=_;omega⟩,by simp only[Int.toNat_natCast];omega,?_,fun kn kx=> ?_⟩
  ·simp only[ae.L1.add,ae.L1.F,Int.toNat_natCast,hd,List.length_cons,List.append_assoc,List.singleton_append]
   rw[show ∀a c:Nat,a+1+c=a+(c+1) from fun a c=>by omega]
  ·rw[ae.L1.step,bw (by omega),bn (by omega) (by omega),Int.toNat_natCast,n1]
   simp only[az]
   rw[ae.L2.run (d:=(t,(k:Int),0,u,L3,r.length,v,t.2.1[k].1,0,is,[],r)) ⟨by rw[e1];omega,0,Nat.zero_le _,rfl,rfl,Nat.zero_le _,⟨by show(0:Int)≤(k:Int);omega,by show(k:Int) < (t.2.1.length:Int);omega⟩,by rw[e1];exact e.2⟩]
   simp only[ab,ae.L2.add,ae.L2.F,e1,Int.toNat_zero,List.drop_zero,List.nil_append,Nat.zero_add,List.map_id',Nat.le_refl,and_self,decide_true,az,fa]
   rw[eB (by omega) (by omega),N.kA (by omega),List.take_length]
   rfl
 ·right
  obtain rfl:k=t.2.1.length:=by omega
  intro R kn kx
  rw[ae.L1.step,bm (by omega),ay]
  simp only[ae.L1.add,ae.L1.F,Int.toNat_natCast,List.drop_length,List.append_nil,List.length_nil,Nat.add_zero]
theorem ae.ok:ae.Ok:=by
 rintro⟨is,os,nt,u⟩ ⟨⟨h1,h2⟩,h3,h4⟩
 have h1:is.length≤1000:=h1
 have h3:os.length≤1000:=h3
 rw[ae.eq,ae.L0.run (d:=((is,os,nt,u),0,(0,()),0,(nt,()),[])) ⟨by show is.length≤_;omega,0,Nat.zero_le _,rfl,rfl,Nat.zero_le _,h2⟩]
 simp only[ab,ae.L0.add,ae.L0.F,Int.toNat_zero,List.drop_zero,List.nil_append,Nat.zero_add,List.map_id']
 rw[ae.L1.run (d:=((is,os,nt,u),0,(0,()),is.length,0,(nt,()),is,[])) ⟨⟨h3,h4⟩,0,Nat.zero_le _,rfl,rfl,rfl⟩]
 simp only[ab,ae.L1.add,ae.L1.F,Int.toNat_zero,List.drop_zero,List.nil_append,Nat.zero_add]
 rfl
noncomputable def ae.E:=Entry.ct [some gb] ae.st ae.aB ae.add ae.F ae.out
noncomputable def ae.call:ae.D→Option ae.X:=bG ae.E ae.st
theorem ae.run:bB ae.call ae.aB ae.add ae.F:=cO (cM [.d gb] fun _=>by kernel_rfl)
noncomputable def ae.sg:SG Tryz.prog:=⟨23,aU,ae.E,.fn 3 (by kernel_rfl) ae.ok (And.intro (.ct ae.L0.ok (by kernel_rfl)) (And.intro (.ct ae.L1.ok (by kernel_rfl)) (And.intro (.ct ae.L2.ok (by kernel_rfl)) trivial)))⟩
set_option synthInstance.maxSize 5000
def oR:eJ:=([],true,())
def il(r:eJ):Prop:=r.1.length≤1000000000∧Bytes r.1
def gp(n:Nat)(r:eJ):List Int×eJ:=if r.2.1=true∨r.1.length < n then([],oR) else(r.1.take n,(r.1.drop n,r.2))
def oz(l:List Int):Int:=l.foldl (fun n b=>n*256+b) 0
def iy(r:eJ):Int×eJ:=(oz (gp 8 r).1,(gp 8 r).2)
theorem ue:il oR:=⟨Nat.zero_le _,fun x hx=>by cases hx⟩
theorem kq{n:Nat}{r:eJ}(h:il r):(gp n r).1.length≤n∧Bytes (gp n r).1∧il (gp n r).2:=by
 unfold gp
 split
 ·exact⟨Nat.zero_le _,fun x hx=>(by cases hx),ue⟩
 ·refine⟨by rw[List.length_take];omega,fun x hx=>h.2 x (List.mem_of_mem_take hx),?_,fun x hx=>h.2 x (List.mem_of_mem_drop hx)⟩
  show(r.1.drop n).length≤_
  rw[List.length_drop]
  have:=h.1
  omega
theorem zq(l:List Int)(b:Int):oz (l++ [b])=oz l*256+b:=by unfold oz;rw[List.foldl_append];rfl
theorem v9:∀(l:List Int) (n:Int) (k:Nat),Bytes l→0≤n→n < 256^k→0≤l.foldl (fun n b=>n*256+b) n∧l.foldl (fun n b=>n*256+b) n < 256^(k+l.length)
 |[],n,k,_,h0,h1=>⟨h0,h1⟩
 |b::l,n,k,hb,h0,h1=>by
  obtain⟨hx1,hx2⟩:=hb b List.mem_cons_self
  have e:(256:Int)^(k+1)=256^k*256:=Int.pow_succ 256 k
  have:=v9 l (n*256+b) (k+1) (fun x hx=>hb x (List.mem_cons_of_mem _ hx)) (by omega) (by rw[e];omega)
  rw[show k+(b::l).length=k+1+l.length by rw[List.length_cons];omega]
  exact this
theorem yr{l:List Int}(h:Bytes l):0≤oz l∧oz l < 256^l.length:=by
 have:=v9 l 0 0 h (Int.le_refl 0) (by decide)
 rw[Nat.zero_add]at this
 exact this
theorem tq{a b:Nat}(h:a≤b):(256:Int)^a≤256^b:=by
 have:((256^a:Nat):Int)≤((256^b:Nat):Int):=Int.ofNat_le.2 (Nat.pow_le_pow_right (by decide) h)
 rw[Int.natCast_pow,Int.natCast_pow]at this
 exact this
theorem CW{l:List Int}(h:Bytes l)(h8:l.length≤8):ia (oz l):=by
 have e:=yr h
 have e2:=tq h8
 have e3:(256:Int)^8=18446744073709551616:=rfl
 exact⟨e.1,by omega⟩
theorem qg{r:eJ}(h:il r):ia (iy r).1∧il (iy r).2:=⟨CW (kq h).2.1 (kq h).1,(kq h).2.2⟩
theorem DR{n b:Int}(h0:0≤n)(h1:n < 72057594037927936)(hb:tN b):cl .or .u64 (gm .u64 n 8) (dA .u64 b)=n*256+b:=by
 have e:=(ql (n:=n) (b:=b) ⟨h0,by omega⟩ hb).1
 rw[jF 56 (by rfl) (by omega)]at e
 have p:(2:Int)^56=72057594037927936:=rfl
 rw[p]at e
 omega
abbrev dL.D:=eJ
def dL.st:dL.D→SA:=fun o0=>([.ptr (.fB 0) 0 [] 0],[.obj 0 false (.d iU o0)])
abbrev dL.Y:=eJ
abbrev dL.X:=eJ
def dL.out:dL.X→aY:=fun x=>⟨.nil,[.obj 0 false (.d iU x)],[]⟩
def dL.add:dL.D→dL.Y→dL.X:=fun o0 y=>y
def dL.aB:dL.D→Prop:=fun _=>True
def dL.F:dL.D→dL.Y:=fun _=>oR
noncomputable def dL.G:dR:=eO (P:=Tryz.prog) []
noncomputable def dL.an:eu:= {sG:=[⟨0,[.arr],iU⟩]}
noncomputable def dL.A:= @cI Tryz.prog dL.G dL.an 0 Tryz.f113 _ dL.st
abbrev dL.Ok:=cJ @dL.A dL.aB dL.add dL.F dL.out
theorem dL.eq{R:Type}(o0:eJ)(k:aY→Option R):dL.A o0 k=
 k (dL.out (([]:List Int),(true,o0.2.2))):=by kernel_rfl
theorem dL.ok:dL.Ok:=by
 intro o _
 rw[dL.eq]
 rfl
noncomputable def dL.E:=Entry.ct [none] dL.st dL.aB dL.add dL.F dL.out
noncomputable def dL.call:dL.D→Option dL.X:=bG dL.E dL.st
theorem dL.run:bB dL.call dL.aB dL.add dL.F:=cO (cM [.d iU] fun _=>by kernel_rfl)
noncomputable def dL.sg:SG Tryz.prog:=⟨113,aU,dL.E,.fn 0 (by kernel_rfl) dL.ok trivial⟩
abbrev dY.D:=eJ
def dY.st:dY.D→SA:=fun o0=>([.ptr (.fB 0) 0 [] 0],[.obj 0 false (.d iU o0)])
abbrev dY.Y:=Int
abbrev dY.X:=(eJ)×(Int)
def dY.out:dY.X→aY:=fun x=>⟨.d ti x.2,[.obj 0 false (.d iU x.1)],[]⟩
def dY.add:dY.D→dY.Y→dY.X:=fun o0 y=>(o0,y)
def dY.aB:dY.D→Prop:=fun _=>True
def dY.F:dY.D→dY.Y:=fun o=>(o.1.length:Int)
noncomputable def dY.G:dR:=eO (P:=Tryz.prog) []
noncomputable def dY.an:eu:= {}
noncomputable def dY.A:= @cI Tryz.prog dY.G dY.an 0 Tryz.f80 _ dY.st
abbrev dY.Ok:=cJ @dY.A dY.aB dY.add dY.F dY.out
theorem dY.eq{R:Type}(o0:eJ)(k:aY→Option R):dY.A o0 k=
 k (dY.out (o0,(((List.length o0.1):Nat):Int))):=by kernel_rfl
theorem dY.ok:dY.Ok:=by
 intro o _
 rw[dY.eq]
 rfl
noncomputable def dY.E:=Entry.ct [none] dY.st dY.aB dY.add dY.F dY.out
noncomputable def dY.call:dY.D→Option dY.X:=bG dY.E dY.st
theorem dY.run:bB dY.call dY.aB dY.add dY.F:=cO (cM [.d iU] fun _=>by kernel_rfl)
noncomputable def dY.sg:SG Tryz.prog:=⟨80,aU,dY.E,.fn 0 (by kernel_rfl) dY.ok trivial⟩
abbrev fv.D:=eJ
def fv.st:fv.D→SA:=fun o0=>([.ptr (.fB 0) 0 [] 0],[.obj 0 false (.d iU o0)])
abbrev fv.Y:=Bool
abbrev fv.X:=(eJ)×(Bool)
def fv.out:fv.X→aY:=fun x=>⟨.d .bool x.2,[.obj 0 false (.d iU x.1)],[]⟩
def fv.add:fv.D→fv.Y→fv.X:=fun o0 y=>(o0,y)
def fv.aB:fv.D→Prop:=fun _=>True
def fv.F:fv.D→fv.Y:=fun o=> !o.2.1
noncomputable def fv.G:dR:=eO (P:=Tryz.prog) []
noncomputable def fv.an:eu:= {}
noncomputable def fv.A:= @cI Tryz.prog fv.G fv.an 0 Tryz.f79 _ fv.st
abbrev fv.Ok:=cJ @fv.A fv.aB fv.add fv.F fv.out
theorem fv.eq{R:Type}(o0:eJ)(k:aY→Option R):fv.A o0 k=
 k (fv.out (o0,(!o0.2.1))):=by kernel_rfl
theorem fv.ok:fv.Ok:=by
 intro o _
 rw[fv.eq]
 rfl
noncomputable def fv.E:=Entry.ct [none] fv.st fv.aB fv.add fv.F fv.out
noncomputable def fv.call:fv.D→Option fv.X:=bG fv.E fv.st
theorem fv.run:bB fv.call fv.aB fv.add fv.F:=cO (cM [.d iU] fun _=>by kernel_rfl)
noncomputable def fv.sg:SG Tryz.prog:=⟨79,aU,fv.E,.fn 0 (by kernel_rfl) fv.ok trivial⟩
abbrev dr.D:=Int×eJ
def dr.st:dr.D→SA:=fun(n,o0)=>([.ptr (.fB 0) 0 [] 0,.d ti n],[.obj 0 false (.d iU o0)])
abbrev dr.Y:=Bs×eJ
abbrev dr.X:=Bs×eJ
def dr.out:dr.X→aY:=fun x=>⟨.d tB x.1,[.obj 0 false (.d iU x.2)],[]⟩
def dr.add:dr.D→dr.Y→dr.X:=fun(n,o0) y=>y
def dr.aB:dr.D→Prop:=fun(n,o)=>0≤n∧o.1.length≤1000000000
def dr.F:dr.D→dr.Y:=fun(n,o)=>gp n.toNat o
noncomputable def dr.G:dR:=eO (P:=Tryz.prog) [dL.sg,ck.sg]
noncomputable def dr.an:eu:= {res:=[some tB],sG:=[⟨0,[.arr],iU⟩]}
noncomputable def dr.A:= @cI Tryz.prog dr.G dr.an 0 Tryz.f114 _ dr.st
abbrev dr.Ok:=cJ @dr.A dr.aB dr.add dr.F dr.out
theorem dr.eq{R:Type}(n:Int)(o0:eJ)(k:aY→Option R):dr.A (n,o0) k=
  aJ (o0.2.1) (
   aq (dL.call o0) fun x1=>
   k (dr.out (([]:List Int),x1))) (
   aJ ((mG n (((List.length o0.1):Nat):Int))) (
    aq (dL.call o0) fun x2=>
    k (dr.out (([]:List Int),x2))) (
    aJ (inc n (((List.length o0.1):Nat):Int)) (
    aq (ck.call (cut o0.1 0 ((Int.toNat n) - 0))) fun x3=>
    aJ (inc n (((List.length o0.1):Nat):Int)) (
    aJ (decide (0=0∧(0+x3.1)≤(List.length x3.2))) (
    k (dr.out ((cut x3.2 0 x3.1),((cut o0.1 (Int.toNat n) ((List.length o0.1) - (Int.toNat n))),o0.2)))) none) none) none)):=by kernel_rfl
theorem dr.ok:dr.Ok:=by
 rintro⟨n,o⟩ ⟨h0,hl⟩
 have h0:0≤n:=h0
 have hl:o.1.length≤1000000000:=hl
 obtain⟨k,rfl⟩:∃k:Nat,n=k:=⟨n.toNat,by omega⟩
 rw[dr.eq]
 simp only[dr.add,dr.F,gp,Int.toNat_natCast,Nat.sub_zero]
 cases h2:o.2.1
 ·by_cases hn:o.1.length < k
  ·rw[dQ (by omega),if_pos (Or.inr hn),dL.run (d:=o) trivial];rfl
  ·have e1:cut o.1 0 k=o.1.take k:=rfl
   have e2:cut o.1 k (o.1.length - k)=o.1.drop k:=by unfold cut;rw[List.take_of_length_le];rw[List.length_drop];omega
   rw[dE (by omega),if_neg (by intro x;rcases x with x | x;exact absurd x (by decide);exact hn x),kD (by omega) (by omega),e1,e2,ck.run (d:=o.1.take k) (by show(o.1.take k).length≤_;rw[List.length_take];omega)]
   simp only[ay,az,ab,ck.add,ck.F,Nat.zero_add,Nat.le_refl,and_self,decide_true,fa]
 ·rw[az,if_pos (Or.inl rfl),dL.run (d:=o) trivial];rfl
noncomputable def dr.E:=Entry.ct [none,some ti] dr.st dr.aB dr.add dr.F dr.out
noncomputable def dr.call:dr.D→Option dr.X:=bG dr.E dr.st
theorem dr.run:bB dr.call dr.aB dr.add dr.F:=cO (cM [.d ti,.d iU] fun _=>by kernel_rfl)
noncomputable def dr.sg:SG Tryz.prog:=⟨114,aU,dr.E,.fn 0 (by kernel_rfl) dr.ok trivial⟩
abbrev cj.L0.D:=Int×Bs×Int×Int×eJ
def cj.L0.st:cj.L0.D→AS:=fun(n,t7,t8,t9,o0_2)=>⟨([.undef,.undef,.undef,.d tu n,.undef,.undef,.undef,.d tB t7,.d ti t8,.d ti t9]++ba 10 []),[.obj 0 false (.d iU o0_2)],(List.replicate 20 [])⟩
abbrev cj.L0.Y0:=Int
abbrev cj.L0.X0:=(eJ)×(Int)
def cj.L0.bq:cj.L0.X0→Exit×AS:=fun x=>(.exit 0,⟨([.undef,.undef,.undef,.d tu x.2]++ba 16 []),[.obj 0 false (.d iU x.1)],(List.replicate 20 [])⟩)
abbrev cj.L0.X:=cj.L0.X0
abbrev cj.L0.Y:=cj.L0.Y0
def cj.L0.out:cj.L0.X→Out (Exit×AS):=fun x=> .ok (cj.L0.bq x)
def cj.L0.add:cj.L0.D→cj.L0.Y→cj.L0.X:=fun(n,t7,t8,t9,o0_2) y=>(o0_2,y)
abbrev cj.D:=eJ
def cj.st:cj.D→SA:=fun o0=>([.ptr (.fB 0) 0 [] 0],[.obj 0 false (.d iU o0)])
abbrev cj.Y:=Int×eJ
abbrev cj.X:=Int×eJ
def cj.out:cj.X→aY:=fun x=>⟨.d tu x.1,[.obj 0 false (.d iU x.2)],[]⟩
def cj.add:cj.D→cj.Y→cj.X:=fun o0 y=>y
def cj.L0.aB:cj.L0.D→Prop:=fun(n,l,m,i,o)=>Bytes l∧l.length≤8∧m=l.length∧∃k:Nat,k≤l.length∧i=k∧n=oz (l.take k)
def cj.L0.F:cj.L0.D→cj.L0.Y:=fun(n,l,m,i,o)=>oz l
def cj.aB:cj.D→Prop:=fun o=>il o
def cj.F:cj.D→cj.Y:=fun o=>iy o
noncomputable def cj.G:dR:=eO (P:=Tryz.prog) [dr.sg]
noncomputable def cj.L0.E:=bM.ct cj.L0.st cj.L0.aB cj.L0.add cj.L0.F cj.L0.out
noncomputable def cj.L0.call:cj.L0.D→Option cj.L0.X:=dg cj.L0.E cj.L0.st
noncomputable def cj.an:eu:= {loops:=jO [(3,{bh:=[3,7,8,9]})],outs:=jN [(3,{bh:=[3]},{bh:=[2]})],fF:=ky [(3,cj.L0.E)]}
noncomputable def cj.A:= @cI Tryz.prog cj.G cj.an 0 Tryz.f57 _ cj.st
abbrev cj.Ok:=cJ @cj.A cj.aB cj.add cj.F cj.out
noncomputable def cj.L0.R:= @cf Tryz.prog cj.G cj.an 0 Tryz.f57 0 _ cj.L0.st
abbrev cj.L0.Ok:=ez Tryz.prog cj.G cj.an 0 Tryz.f57 0 cj.L0.st cj.L0.aB cj.L0.add cj.L0.F cj.L0.out
theorem cj.L0.run:bB cj.L0.call cj.L0.aB cj.L0.add cj.L0.F:=eE (eD [.d tu,.d tB,.d ti,.d ti,.d iU] fun _=>by kernel_rfl)
theorem cj.L0.aH:fP @cj.L0.R cj.L0.st cj.L0.aB cj.L0.add cj.L0.F cj.L0.bq cj.L0.Ok:=fS
theorem cj.L0.step{R:Type}(n:Int)(t7:Bs)(t8:Int)(t9:Int)(o0_2:eJ)(kn:AS→Option R)(kx:Exit→AS→Option R):cj.L0.R (n,t7,t8,t9,o0_2) kn kx=
  aJ ((fY t9 t8)) (
   aJ (eh t9 (((List.length t7):Nat):Int)) (
   kn (cj.L0.st ((cl .or .u64 (gm .u64 n (8:Int)) (dA .u64 (nth tb t7 (Int.toNat t9)))),t7,t8,(bK .i64 t9 (1:Int)),o0_2))) none) (
   kx (cj.L0.bq (o0_2,n)).1 (cj.L0.bq (o0_2,n)).2):=by kernel_rfl
theorem cj.eq{R:Type}(o0:eJ)(k:aY→Option R):cj.A o0 k=
 aq (dr.call ((8:Int),o0)) fun x1=>
 aq (cj.L0.call ((0:Int),x1.1,(((List.length x1.1):Nat):Int),(0:Int),x1.2)) fun x2=>
 k (cj.out (x2.2,x2.1)):=by kernel_rfl
theorem cj.L0.ok:cj.L0.Ok:=by
 refine cj.L0.aH (fun(n,l,m,i,o)=>l.length - i.toNat) ?_
 rintro⟨n,l,m,i,o⟩ ⟨hb,h8,rfl,k,hk,rfl,rfl⟩
 have h8:l.length≤8:=h8
 have hk:k≤l.length:=hk
 by_cases h:k < l.length
 ·left
  have hx:=hb _ (List.getElem_mem h)
  have n1:nth (.int .u8) l k=l[k]:=cw (t:= .int .u8) h
  have ht:(l.take k).length=k:=by rw[List.length_take];omega
  have b0:=yr (l:=l.take k) fun x hx=>hb x (List.mem_of_mem_take hx)
  rw[ht]at b0
  have b1:=tq (show k≤7 by omega)
  have b2:(256:Int)^7=72057594037927936:=rfl
  refine⟨(oz (l.take (k+1)),l,l.length,((k+1:Nat):Int),o),⟨hb,h8,rfl,k+1,by omega,rfl,rfl⟩,by simp only[Int.toNat_natCast];omega,rfl,fun kn kx=> ?_⟩
  rw[cj.L0.step,bw (by omega),bn (by omega) (by omega),Int.toNat_natCast,n1,N.kA (by omega),DR b0.1 (by omega) hx,List.take_succ_eq_append_getElem h,zq]
  rfl
 ·right
  obtain rfl:k=l.length:=by omega
  intro R kn kx
  rw[cj.L0.step,bm (by omega),ay,List.take_length]
  rfl
theorem cj.ok:cj.Ok:=by
 intro o h
 have h:il o:=h
 have t:=kq (n:=8) h
 rw[cj.eq,dr.run (d:=(8,o)) ⟨by decide,h.1⟩]
 simp only[ab,dr.add,dr.F]
 rw[show Int.toNat 8=8 from rfl,cj.L0.run (d:=(0,(gp 8 o).1,(gp 8 o).1.length,0,(gp 8 o).2)) ⟨t.2.1,t.1,rfl,0,Nat.zero_le _,rfl,rfl⟩]
 rfl
noncomputable def cj.E:=Entry.ct [none] cj.st cj.aB cj.add cj.F cj.out
noncomputable def cj.call:cj.D→Option cj.X:=bG cj.E cj.st
theorem cj.run:bB cj.call cj.aB cj.add cj.F:=cO (cM [.d iU] fun _=>by kernel_rfl)
noncomputable def cj.sg:SG Tryz.prog:=⟨57,aU,cj.E,.fn 1 (by kernel_rfl) cj.ok (And.intro (.ct cj.L0.ok (by kernel_rfl)) trivial)⟩
abbrev dG.D:=Bs
def dG.st:dG.D→SA:=fun b=>([.d tB b],[])
abbrev dG.Y:=eJ
abbrev dG.X:=eJ
def dG.out:dG.X→aY:=fun x=>⟨.ptr (.new 0 0) 0 [] 0,[],[.obj 0 false (.d iU x)]⟩
def dG.add:dG.D→dG.Y→dG.X:=fun b y=>y
def dG.aB:dG.D→Prop:=fun b=>b.length≤1000000000
def dG.F:dG.D→dG.Y:=fun b=>(b,false,())
noncomputable def dG.G:dR:=eO (P:=Tryz.prog) [ck.sg]
noncomputable def dG.an:eu:= {bH:=[6],sG:=[⟨2,[.arr],iU⟩]}
noncomputable def dG.A:= @cI Tryz.prog dG.G dG.an 0 Tryz.f55 _ dG.st
abbrev dG.Ok:=cJ @dG.A dG.aB dG.add dG.F dG.out
theorem dG.eq{R:Type}(b:Bs)(k:aY→Option R):dG.A b k=
 aq (ck.call b) fun x1=>
 aJ (decide (0=0∧(0+x1.1)≤(List.length x1.2))) (
 k (dG.out ((cut x1.2 0 x1.1),(false,())))) none:=by kernel_rfl
theorem dG.ok:dG.Ok:=by
 intro b hb
 have hb:b.length≤1000000000:=hb
 rw[dG.eq,ck.run (d:=b) (by show b.length≤_;omega)]
 simp only[ab,ck.add,ck.F,Nat.zero_add,Nat.le_refl,and_self,decide_true,az,fa]
 rfl
noncomputable def dG.E:=Entry.ct [some tB] dG.st dG.aB dG.add dG.F dG.out
noncomputable def dG.call:dG.D→Option dG.X:=bG dG.E dG.st
theorem dG.run:bB dG.call dG.aB dG.add dG.F:=cO (cM [.d tB] fun _=>by kernel_rfl)
noncomputable def dG.sg:SG Tryz.prog:=⟨55,aU,dG.E,.fn 0 (by kernel_rfl) dG.ok trivial⟩
abbrev cF.D:=Int×eJ
def cF.st:cF.D→SA:=fun(o0,o2)=>([.ptr (.fB 0) 0 [] 0,.ptr (.fB 1) 0 [] 0],[.obj 0 false (.d ti o0),.obj 0 false (.ptr (.fB 2) 0 [] 0),.obj 0 false (.d iU o2)])
abbrev cF.Y:=Bool
abbrev cF.X:=(Int×eJ)×(Bool)
def cF.out:cF.X→aY:=fun x=>⟨.d .bool x.2,[.obj 0 false (.d ti x.1.1),.obj 0 false (.ptr (.fB 2) 0 [] 0),.obj 0 false (.d iU x.1.2)],[]⟩
def cF.add:cF.D→cF.Y→cF.X:=fun(o0,o2) y=>((o0,o2),y)
def cF.aB:cF.D→Prop:=fun(a,o)=>0≤a
def cF.F:cF.D→cF.Y:=fun(a,o)=>decide (o.1.length≤a.toNat∨8 < a.toNat∨(0 < a.toNat∧nth (.int .u8) o.1 a.toNat=0))
noncomputable def cF.G:dR:=eO (P:=Tryz.prog) []
noncomputable def cF.an:eu:= {}
noncomputable def cF.A:= @cI Tryz.prog cF.G cF.an 0 Tryz.f112 _ cF.st
abbrev cF.Ok:=cJ @cF.A cF.aB cF.add cF.F cF.out
theorem cF.eq{R:Type}(o0:Int)(o2:eJ)(k:aY→Option R):cF.A (o0,o2) k=
  aJ ((mZ o0 (((List.length o2.1):Nat):Int))) (
   k (cF.out ((o0,o2),true))) (
   aJ ((mG o0 (8:Int))) (
    k (cF.out ((o0,o2),true))) (
    aJ ((mG o0 (0:Int))) (
     aJ (eh o0 (((List.length o2.1):Nat):Int)) (
     k (cF.out ((o0,o2),(nN (nth tb o2.1 (Int.toNat o0)) (0:Int))))) none) (
     k (cF.out ((o0,o2),false))))):=by kernel_rfl
theorem cF.ok:cF.Ok:=by
 rintro⟨a,o⟩ h0
 obtain⟨k,rfl⟩:∃k:Nat,a=k:=⟨a.toNat,by have h0:0≤a:=h0;omega⟩
 rw[cF.eq]
 simp only[cF.add,cF.F,Int.toNat_natCast]
 by_cases h1:o.1.length≤k
 ·rw[fU (by omega),aO (Or.inl h1)];rfl
 by_cases h2:8 < k
 ·rw[eM (by omega),dQ (by omega),aO (Or.inr (Or.inl h2))];rfl
 by_cases h3:0 < k
 ·rw[eM (by omega),dE (by omega),dQ (by omega),bn (by omega) (by omega)]
  simp only[ay,az]
  by_cases h4:nth (.int .u8) o.1 k=0
  ·rw[dq h4,aO (Or.inr (Or.inr ⟨h3,h4⟩))]
  ·rw[eL h4,aK (by rintro(x | x | x);exact h1 x;exact h2 x;exact h4 x.2)]
 ·rw[eM (by omega),dE (by omega),dE (by omega),aK (by rintro(x | x | x);exact h1 x;exact h2 x;exact h3 x.1)];rfl
noncomputable def cF.E:=Entry.ct [none,none] cF.st cF.aB cF.add cF.F cF.out
noncomputable def cF.call:cF.D→Option cF.X:=bG cF.E cF.st
theorem cF.run:bB cF.call cF.aB cF.add cF.F:=cO (cM [.d ti,.d iU] fun _=>by kernel_rfl)
noncomputable def cF.sg:SG Tryz.prog:=⟨112,aU,cF.E,.fn 0 (by kernel_rfl) cF.ok trivial⟩
set_option synthInstance.maxSize 5000
def kI:List Int→Nat→Int→(Int×Nat)⊕Unit
 |[],_,_=> .inr ()
 |d::l,a,n=>if 8 < a∨(0 < a∧d=0) then .inr () else if d < 128 then .inl (n+d%128*128^a,a+1) else kI l (a+1) (n+d%128*128^a)
def da(r:eJ):Int×eJ:=match kI r.1 0 0 with | .inl v=>(v.1,(r.1.drop v.2,r.2)) | .inr _=>(0,oR)
theorem xB(k:Nat):(128:Int)^k=((128^k:Nat):Int):=by rw[Int.natCast_pow];rfl
theorem vn{n d k:Nat}(hk:k≤8)(hn:n < 128^k)(hd:d < 128):cl .or .i64 (n:Int) (gm .i64 (d:Int) ((7*k:Nat):Int))=((n+d*128^k:Nat):Int)∧n+d*128^k < 128^(k+1)∧128^(k+1)≤9223372036854775808:=by
 have p:128^k≤128^8:=Nat.pow_le_pow_right (by decide) hk
 have p8:128^8=72057594037927936:=rfl
 have e1:128^(k+1)=128^k*128:=Nat.pow_succ (n:=128) (m:=k)
 have e2:2^(7*k)=128^k:=by rw[Nat.pow_mul]
 have e3:d*128^k≤127*128^k:=Nat.mul_le_mul_right _ (by omega)
 refine⟨?_,by omega,by omega⟩
 have s:gm .i64 (d:Int) ((7*k:Nat):Int)=((d*128^k:Nat):Int):=by
  rw[gm]
  have e:min (Int.toNat ((7*k:Nat):Int)) IntKind.i64.bits=7*k:=by simp only[IntKind.bits,Int.toNat_natCast];omega
  rw[e,show(2:Int)^(7*k)=((2^(7*k):Nat):Int) by rw[Int.natCast_pow];rfl,e2,←Int.natCast_mul]
  exact iY (by omega) (by omega)
 rw[s]
 have e:(BitVec.ofInt 64 (n:Int) ||| BitVec.ofInt 64 ((d*128^k:Nat):Int)).toNat=n+d*128^k:=by
  rw[BitVec.toNat_or]
  have a:(BitVec.ofInt 64 ((d*128^k:Nat):Int)).toNat=2^(7*k)*d:=by rw[BitVec.ofInt_natCast,BitVec.toNat_ofNat,e2,Nat.mul_comm];exact Nat.mod_eq_of_lt (by rw[Nat.mul_comm];omega)
  have b:(BitVec.ofInt 64 (n:Int)).toNat=n:=by rw[BitVec.ofInt_natCast,BitVec.toNat_ofNat];exact Nat.mod_eq_of_lt (by omega)
  rw[a,b,Nat.or_comm,←Nat.two_pow_add_eq_or_of_lt (by rw[e2];exact hn),e2,Nat.mul_comm]
  omega
 show IntKind.i64.wrap ((BitVec.ofInt 64 (n:Int) ||| BitVec.ofInt 64 ((d*128^k:Nat):Int)).toNat:Int)=_
 rw[e]
 exact iY (by omega) (by omega)
theorem uD:∀(l:List Int) (a:Nat) (n:Int) (v:Int×Nat),Bytes l→a≤9→0≤n→n < 128^a→kI l a n= .inl v→0≤v.1∧v.1 < 9223372036854775808∧a < v.2∧v.2≤a+l.length∧v.2≤9
 |[],a,n,v,_,_,_,_,h=>by cases h
 |d::l,a,n,v,hb,ha,h0,h1,h=>by
  have hx:=hb d List.mem_cons_self
  obtain⟨x1,x2⟩:=hx
  rw[kI]at h
  split at h
  ·cases h
  ·rename_i hc
   have ha8:a≤8:=by omega
   rw[xB]at h1 h
   obtain⟨nn,rfl⟩:∃m:Nat,n=m:=⟨n.toNat,by omega⟩
   obtain⟨dn,hdn⟩:∃m:Nat,d%128=m:=⟨(d%128).toNat,by omega⟩
   have g:=(vn (n:=nn) (d:=dn) ha8 (by omega) (by omega)).2
   rw[hdn]at h
   have ec:((nn:Int)+(dn:Int)*((128^a:Nat):Int))=((nn+dn*128^a:Nat):Int):=by rw[Int.natCast_add,Int.natCast_mul]
   rw[ec]at h
   split at h
   ·cases h
    simp only[List.length_cons]
    exact⟨by omega,by omega,by omega,by omega,by omega⟩
   ·have:=uD l (a+1) _ v (fun x hx=>hb x (List.mem_cons_of_mem _ hx)) (by omega) (by omega) (by rw[xB];omega) h
    simp only[List.length_cons]
    exact⟨this.1,this.2.1,by omega,by omega,this.2.2.2.2⟩
theorem g9{r:eJ}(h:il r):0≤(da r).1∧(da r).1≤9223372036854775807∧il (da r).2:=by
 unfold da
 cases hf:kI r.1 0 0 with
 |inl v=>
  have:=uD r.1 0 0 v h.2 (by decide) (by decide) (by decide) hf
  refine⟨this.1,by have:=this.2.1;show v.1≤_;omega,?_,fun x hx=>h.2 x (List.mem_of_mem_drop hx)⟩
  show(r.1.drop v.2).length≤_
  rw[List.length_drop]
  have:=h.1
  omega
 |inr _=>exact⟨Int.le_refl 0,(show(0:Int)≤9223372036854775807 by decide),ue⟩
theorem wb:∀(f:Nat) (n:Int) (a:Nat) (m:Int) (rest:List Int),0≤n→n < 128^(f+1)→a+f≤8→(a=0∨0 < n)→
  kI ((eW f n).1++(eW f n).2::rest) a m= .inl (m+n*128^a,a+(eW f n).1.length+1)
 | 0,n,a,m,rest,h0,h1,ha,hp=>by
  have h1:n < 128:=h1
  show kI (n::rest) a m=_
  rw[kI,if_neg (by omega),if_pos h1,Int.emod_eq_of_lt h0 h1]
  rfl
 |f+1,n,a,m,rest,h0,h1,ha,hp=>by
  rw[eW]
  have e:(128:Int)^(f+1+1)=128^(f+1)*128:=Int.pow_succ 128 (f+1)
  split
  ·rename_i h
   show kI ((n%128+128)::((eW f (n / 128)).1++(eW f (n / 128)).2::rest)) a m=_
   rw[kI,if_neg (by omega),if_neg (by omega),wb f (n / 128) (a+1) _ rest (by omega) (by omega) (by omega) (Or.inr (by omega))]
   have e2:(128:Int)^(a+1)=128^a*128:=Int.pow_succ 128 a
   have e3:(n%128+128)%128=n%128:=by omega
   have e4:m+n%128*128^a+n / 128*(128^a*128)=m+n*128^a:=by
    have:n*128^a=(n%128+n / 128*128)*128^a:=by rw[show n%128+n / 128*128=n by omega]
    rw[this,Int.add_mul,Int.mul_assoc (n / 128),Int.mul_comm 128 (128^a),Int.add_assoc]
   rw[e3,e2,e4]
   simp only[List.length_cons]
   rw[show a+1+(eW f (n / 128)).1.length+1=a+((eW f (n / 128)).1.length+1)+1 by omega]
  ·rename_i h
   show kI (n::rest) a m=_
   rw[kI,if_neg (by omega),if_pos (by omega),Int.emod_eq_of_lt h0 (by omega)]
   rfl
theorem nh(n:Int)(h:mD n)(rest:List Int)(u:Bool×Unit):da (fi n++rest,u)=(n,(rest,u)):=by
 have h0:=h.1
 have h1:=h.2
 have e8:(128:Int)^(8+1)=9223372036854775808:=rfl
 have e10:(128:Int)^(10+1)=151115727451828646838272:=rfl
 have er:eW 10 n=eW 8 n:=nJ 10 8 n (by rw[e10];omega) (by rw[e8];omega)
 have el:fi n++rest=(eW 8 n).1++(eW 8 n).2::rest:=by unfold fi;rw[er,List.append_assoc];rfl
 have e:=wb 8 n 0 0 rest h0 (by rw[e8];omega) (by decide) (Or.inl rfl)
 unfold da
 show(match kI (fi n++rest) 0 0 with | .inl v=>(v.1,((fi n++rest).drop v.2,u)) | .inr _=>(0,oR))=_
 rw[el,e]
 show(0+n*128^0,(((eW 8 n).1++(eW 8 n).2::rest).drop (0+(eW 8 n).1.length+1),u))=_
 rw[Int.pow_zero,Int.mul_one,Int.zero_add,Nat.zero_add,List.append_cons,List.drop_left' (by rw[List.length_append];rfl)]
theorem AN(n:Int)(h:ia n):oz (fJ n)=n:=by
 obtain⟨h0,h1⟩:=h
 unfold oz fJ
 simp only[List.foldl_cons,List.foldl_nil]
 omega
theorem nu(n:Int)(h:ia n)(rest:List Int):iy (fJ n++rest,false,())=(n,(rest,false,())):=by
 unfold iy gp
 have l8:=bJ n
 rw[if_neg (by
  intro x
  rcases x with x | x
  ·have x:false=true:=x
   cases x
  ·have x:(fJ n++rest).length < 8:=x
   rw[List.length_append]at x
   omega)]
 show(oz ((fJ n++rest).take 8),((fJ n++rest).drop 8,false,()))=_
 rw[List.take_left' l8,List.drop_left' l8,AN n h]
abbrev bE.L0.D:=Int×eJ×Int
def bE.L0.st:bE.L0.D→AS:=fun(n,o0_2,n4)=>⟨([.ptr (.fB 0) 0 [] 0,.ptr (.new 1 0) 0 [] 0,.undef,.d ti n,.ptr (.new 4 0) 0 [] 0,.fn 112 (.cons (.ptr (.new 4 0) 0 [] 0) (.cons (.ptr (.new 1 0) 0 [] 0) (.nil)))]++ba 35 []),[.obj 0 false (.d iU o0_2)],([[],[.obj 0 false (.ptr (.fB 0) 0 [] 0)],[],[],[.obj 0 false (.d ti n4)]]++bN 36 [])⟩
abbrev bE.L0.Y0:=eJ
abbrev bE.L0.X0:=eJ
def bE.L0.bq:bE.L0.X0→Exit×AS:=fun x=>(.ret,⟨([.ptr (.fB 0) 0 [] 0,.undef,.d ti (0:Int)]++ba 38 []),[.obj 0 false (.d iU x)],(List.replicate 41 [])⟩)
abbrev bE.L0.Y1:=Int×eJ×Int
abbrev bE.L0.X1:=Int×eJ×Int
def bE.L0.eP:bE.L0.X1→Exit×AS:=fun x=>(.exit 0,⟨([.ptr (.fB 0) 0 [] 0,.ptr (.new 1 0) 0 [] 0,.undef,.d ti x.1,.ptr (.new 4 0) 0 [] 0]++ba 36 []),[.obj 0 false (.d iU x.2.1)],([[],[.obj 0 false (.ptr (.fB 0) 0 [] 0)],[],[],[.obj 0 false (.d ti x.2.2)]]++bN 36 [])⟩)
abbrev bE.L0.X:=(bE.L0.X0)⊕(bE.L0.X1)
abbrev bE.L0.Y:=(bE.L0.Y0)⊕(bE.L0.Y1)
def bE.L0.out:bE.L0.X→Out (Exit×AS):=fun x=> .br x.isLeft (.get x.getLeft? fun a=> .ok (bE.L0.bq a)) (.get x.getRight? fun b=> .ok (bE.L0.eP b))
def bE.L0.add:bE.L0.D→bE.L0.Y→bE.L0.X:=fun(n,o0_2,n4) y=>match y with | .inl y=> .inl y | .inr z=> .inr (z)
abbrev bE.D:=eJ
def bE.st:bE.D→SA:=fun o0=>([.ptr (.fB 0) 0 [] 0],[.obj 0 false (.d iU o0)])
abbrev bE.Y:=Int×eJ
abbrev bE.X:=Int×eJ
def bE.out:bE.X→aY:=fun x=>⟨.d ti x.1,[.obj 0 false (.d iU x.2)],[]⟩
def bE.add:bE.D→bE.Y→bE.X:=fun o0 y=>y
def bE.L0.aB:bE.L0.D→Prop:=fun(n,o,i)=>il o∧∃(k m:Nat),k≤9∧i=k∧n=m∧m < 128^k
def bE.L0.F:bE.L0.D→bE.L0.Y:=fun(n,o,i)=>match kI (o.1.drop i.toNat) i.toNat n with | .inl v=> .inr (v.1,o,(v.2:Int)) | .inr _=> .inl oR
def bE.aB:bE.D→Prop:=fun o=>il o
def bE.F:bE.D→bE.Y:=fun o=>da o
noncomputable def bE.G:dR:=eO (P:=Tryz.prog) [cF.sg,dL.sg]
noncomputable def bE.L0.E:=bM.ct bE.L0.st bE.L0.aB bE.L0.add bE.L0.F bE.L0.out
noncomputable def bE.L0.call:bE.L0.D→Option bE.L0.X:=dg bE.L0.E bE.L0.st
noncomputable def bE.an:eu:= {bH:=[1],loops:=jO [(3,{bh:=[0,1,3,4,5],sites:=[1,4]})],outs:=jN [(3,{bh:=[0,1,3,4],sites:=[1,4]},{bh:=[0,2]})],fF:=ky [(3,bE.L0.E)],sG:=[⟨0,[.arr],iU⟩]}
noncomputable def bE.A:= @cI Tryz.prog bE.G bE.an 0 Tryz.f56 _ bE.st
abbrev bE.Ok:=cJ @bE.A bE.aB bE.add bE.F bE.out
noncomputable def bE.L0.R:= @cf Tryz.prog bE.G bE.an 0 Tryz.f56 0 _ bE.L0.st
abbrev bE.L0.Ok:=ez Tryz.prog bE.G bE.an 0 Tryz.f56 0 bE.L0.st bE.L0.aB bE.L0.add bE.L0.F bE.L0.out
theorem bE.L0.run:bB bE.L0.call bE.L0.aB bE.L0.add bE.L0.F:=eE (eD [.d ti,.d iU,.d ti] fun _=>by kernel_rfl)
theorem bE.L0.aH:jl @bE.L0.R bE.L0.st bE.L0.aB bE.L0.add bE.L0.F bE.L0.out bE.L0.Ok:=jL
theorem bE.L0.step{R:Type}(n:Int)(o0_2:eJ)(n4:Int)(kn:AS→Option R)(kx:Exit→AS→Option R):bE.L0.R (n,o0_2,n4) kn kx=
  aq (cF.call (n4,o0_2)) fun x1=>
  aJ (x1.2) (
   aq (dL.call x1.1.2) fun x2=>
   kx (bE.L0.bq x2).1 (bE.L0.bq x2).2) (
   aJ (eh x1.1.1 (((List.length x1.1.2.1):Nat):Int)) (
   aJ (gD (eT .i64 (7:Int) x1.1.1)) (
   aJ ((fY (nth tb x1.1.2.1 (Int.toNat x1.1.1)) (128:Int))) (
    kx (bE.L0.eP ((cl .or .i64 n (gm .i64 (dA .i64 (iT (nth tb x1.1.2.1 (Int.toNat x1.1.1)) (128:Int))) (eT .i64 (7:Int) x1.1.1))),x1.1.2,(bK .i64 x1.1.1 (1:Int)))).1 (bE.L0.eP ((cl .or .i64 n (gm .i64 (dA .i64 (iT (nth tb x1.1.2.1 (Int.toNat x1.1.1)) (128:Int))) (eT .i64 (7:Int) x1.1.1))),x1.1.2,(bK .i64 x1.1.1 (1:Int)))).2) (
    kn (bE.L0.st ((cl .or .i64 n (gm .i64 (dA .i64 (iT (nth tb x1.1.2.1 (Int.toNat x1.1.1)) (128:Int))) (eT .i64 (7:Int) x1.1.1))),x1.1.2,(bK .i64 x1.1.1 (1:Int)))))) none) none):=by kernel_rfl
theorem bE.eq{R:Type}(o0:eJ)(k:aY→Option R):bE.A o0 k=
  aq (bE.L0.call ((0:Int),o0,(0:Int))) fun x3=>
  aJ (x3.isLeft) (
   aq (x3.getLeft?) fun a4=>
   k (bE.out ((0:Int),a4))) (
   aq (x3.getRight?) fun b5=>
   aJ (inc b5.2.2 (((List.length b5.2.1.1):Nat):Int)) (
   k (bE.out (b5.1,((cut b5.2.1.1 (Int.toNat b5.2.2) ((List.length b5.2.1.1) - (Int.toNat b5.2.2))),b5.2.1.2)))) none):=by kernel_rfl
theorem bE.L0.ok:bE.L0.Ok:=by
 refine bE.L0.aH (fun(n,o,i)=>9 - i.toNat) ?_
 rintro⟨n,o,i⟩ ⟨hr,k,m,hk,rfl,rfl,hm⟩
 have hk:k≤9:=hk
 have hr:il o:=hr
 by_cases hw:o.1.length≤k∨8 < k∨(0 < k∧nth (.int .u8) o.1 k=0)
 ·right
  have hf:kI (o.1.drop k) k (m:Int)= .inr ():=by
   by_cases h:k < o.1.length
   ·have n1:nth (.int .u8) o.1 k=o.1[k]:=cw (t:= .int .u8) h
    rw[List.drop_eq_getElem_cons h,kI,if_pos (by rw[n1]at hw;rcases hw with x | x | x;exact absurd x (by omega);exact Or.inl x;exact Or.inr x)]
   ·rw[List.drop_of_length_le (by omega)];rfl
  refine⟨bE.L0.bq oR,?_,fun kn kx=> ?_⟩
  ·simp only[bE.L0.add,bE.L0.F,Int.toNat_natCast,hf]
   rfl
  ·rw[bE.L0.step,cF.run (d:=((k:Int),o)) (Int.natCast_nonneg k)]
   simp only[ab,cF.add,cF.F,Int.toNat_natCast]
   rw[aO hw,az,dL.run (d:=o) trivial]
   rfl
 ·have h:k < o.1.length:=by omega
  have hx:=hr.2 _ (List.getElem_mem h)
  obtain⟨x1,x2⟩:=hx
  have n1:nth (.int .u8) o.1 k=o.1[k]:=cw (t:= .int .u8) h
  have hc:¬(8 < k∨(0 < k∧o.1[k]=0)):=fun x=>hw (x.elim (fun y=> .inr (.inl y)) fun y=> .inr (.inr ⟨y.1,n1.trans y.2⟩))
  obtain⟨dn,hdn⟩:∃d:Nat,o.1[k]=d:=⟨o.1[k].toNat,by omega⟩
  have g:=vn (n:=m) (d:=dn%128) (k:=k) (by omega) hm (by omega)
  have step:∀ {R:Type} (kn:AS→Option R) (kx:Exit→AS→Option R),bE.L0.R ((m:Int),o,(k:Int)) kn kx=aJ (fY o.1[k] 128) (kx (bE.L0.eP (((m+dn%128*128^k:Nat):Int),o,((k+1:Nat):Int))).1 (bE.L0.eP (((m+dn%128*128^k:Nat):Int),o,((k+1:Nat):Int))).2) (kn (bE.L0.st (((m+dn%128*128^k:Nat):Int),o,((k+1:Nat):Int)))):=by
   intro R kn kx
   rw[bE.L0.step,cF.run (d:=((k:Int),o)) (Int.natCast_nonneg k)]
   simp only[ab,cF.add,cF.F,Int.toNat_natCast]
   rw[aK hw,ay,bn (by omega) (by omega),n1,hdn,N.DF (by omega),jS (by omega),N.Ep,N.cN (by omega),g.1,N.kA (by omega)]
   rfl
  have ef:kI (o.1.drop k) k (m:Int)=if o.1[k] < 128 then .inl (((m+dn%128*128^k:Nat):Int),k+1) else kI (o.1.drop (k+1)) (k+1) ((m+dn%128*128^k:Nat):Int):=by
   have ec:(m:Int)+o.1[k]%128*128^k=((m+dn%128*128^k:Nat):Int):=by rw[hdn,xB,Int.natCast_add,Int.natCast_mul];rfl
   rw[List.drop_eq_getElem_cons h,kI,if_neg hc,ec]
  by_cases hl:o.1[k] < 128
  ·right
   refine⟨bE.L0.eP (((m+dn%128*128^k:Nat):Int),o,((k+1:Nat):Int)),?_,fun kn kx=> ?_⟩
   ·simp only[bE.L0.add,bE.L0.F,Int.toNat_natCast,ef,if_pos hl]
    rfl
   ·rw[step,bw hl,az]
  ·left
   refine⟨(((m+dn%128*128^k:Nat):Int),o,((k+1:Nat):Int)),⟨hr,k+1,_,by omega,rfl,rfl,g.2.1⟩,by simp only[Int.toNat_natCast];omega,?_,fun kn kx=> ?_⟩
   ·simp only[bE.L0.add,bE.L0.F,Int.toNat_natCast,ef,if_neg hl]
   ·rw[step,bm hl,ay]
theorem bE.ok:bE.Ok:=by
 intro o h
 have h:il o:=h
 rw[bE.eq,bE.L0.run (d:=(0,o,0)) ⟨h,0,0,by decide,rfl,rfl,by decide⟩]
 simp only[ab,bE.L0.add,bE.L0.F,Int.toNat_zero,List.drop_zero,bE.add,bE.F,da]
 cases hf:kI o.1 0 0 with
 |inl v=>
  have g:=uD o.1 0 0 v h.2 (by decide) (by decide) (by decide) hf
  have e2:cut o.1 v.2 (o.1.length - v.2)=o.1.drop v.2:=by unfold cut;rw[List.take_of_length_le];rw[List.length_drop];omega
  simp only[Sum.isLeft_inr,Sum.getRight?_inr,ay,ab,Int.toNat_natCast]
  rw[kD (by omega) (by omega),az,e2]
 |inr _=>rfl
noncomputable def bE.E:=Entry.ct [none] bE.st bE.aB bE.add bE.F bE.out
noncomputable def bE.call:bE.D→Option bE.X:=bG bE.E bE.st
theorem bE.run:bB bE.call bE.aB bE.add bE.F:=cO (cM [.d iU] fun _=>by kernel_rfl)
noncomputable def bE.sg:SG Tryz.prog:=⟨56,aU,bE.E,.fn 1 (by kernel_rfl) bE.ok (And.intro (.ct bE.L0.ok (by kernel_rfl)) trivial)⟩
end Go.Ab
