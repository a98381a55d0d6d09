/-
  Made short by a program of mine (wip/tools/mini.py).
-/
import Derived.Test.YtodfaneojnkngaaGreatS28x5
set_option linter.unusedVariables false
set_option linter.unusedSimpArgs false
set_option maxRecDepth 100000
set_option synthInstance.maxSize 5000
open Int renaming toNat->ae
open List renaming length->ag,replicate->ab,take->aR,drop->bR
open Sum renaming getLeft?->cU
noncomputable section
variable {R:Type}
namespace Go.Ab
open Go.Proofs
def apW(c:aB):dE:= .obj 0 false c
def Uv(o:bC):List dw->Option dw
 |[]=>none
 |t::l=>if(dM t).any (aqp o)=true then some t else Uv o l
def BE(o:bC):List cZ->Int->Option (dw×Int)
 |[],_=>none
 |b::l,i=>match Uv o b.2.2.1 with | some t=>some (aqw t,i+1) | none=>BE o l (i+1)
theorem apJ(t:dw):(dM t).length<=64:=by
 unfold dM;split
 ·rename_i h;rw[bV];exact(jM h).1.2.1
 ·simp
abbrev JJ:=Int×dw×bC×bC×(Int×Unit)×Int×Bool
noncomputable def Uw:JJ->SA:=λ(t13,t14,o,or,o1bb,o2,o3)=>(([.yl (.bm 0) 0,.d ti t13,.d ez t14,bF,bF,bF,.dO bg o,.ptr (.bm 1) 0 [] 0,.ptr (.bm 2) 0 [] 0,.ptr (.bm 3) 0 [] 0]++aP 21 []),[.obj 0 false (.rP (rk Tryz.prog 4294967824) (mF ([bF,bF,bF,.dO bg or,.ptr (.bm 1) 0 [] 0,.ptr (.bm 2) 0 [] 0,.ptr (.bm 3) 0 [] 0]++aP 21 [])) 0),.obj 0 false (.pr (.de) (.pr (.de) (.d (.pair ti .unit) o1bb))),.obj 0 false (.d ti o2),.obj 0 false (.d .bool o3)])
abbrev acK:=((bC×Int)×(dw))⊕(bC×(Int×Unit)×Int×Bool)
noncomputable def Gz:acK->fK:=λx=>match x with | .inl x=>⟨.d .bool false,[.obj 0 false (.rP (rk Tryz.prog 4294967824) (mF ([bF,bF,bF,.dO bg x.1.1,.ptr (.bm 1) 0 [] 0,.ptr (.bm 2) 0 [] 0,.ptr (.bm 3) 0 [] 0]++aP 21 [])) 2),.obj 0 false (.d ez x.2),.obj 0 false (.d ti x.1.2),.obj 0 false (.d .bool true)],[]⟩ | .inr x=>⟨.d .bool true,[.obj 0 false (.rP (rk Tryz.prog 4294967824) (mF ([bF,bF,bF,.dO bg x.1,.ptr (.bm 1) 0 [] 0,.ptr (.bm 2) 0 [] 0,.ptr (.bm 3) 0 [] 0]++aP 21 [])) 0),.obj 0 false (.pr (.de) (.pr (.de) (.d (.pair ti .unit) x.2.1))),.obj 0 false (.d ti x.2.2.1),.obj 0 false (.d .bool x.2.2.2)],[]⟩
def BD:JJ->((dw)⊕(Unit))->acK:=λ(t13,t14,o,or,o1bb,o2,o3) y=>match y with | .inl y=> .inl ((or,t13),y) | .inr y=> .inr (or,o1bb,o2,o3)
def OS:JJ->Prop:=λ(_,t,_)=>nU t
def ER:JJ->((dw)⊕(Unit)):=λ(_,t,o,_)=>if(dM t).any (aqp o)=true then .inl (aqw t) else .inr ()
def aId:oR:=jI (P:=Tryz.prog) [adn,aoh,UB,adh]
def aBc:xi:= {mf:=some 4294967824}
def apH:= @HM Tryz.prog aId aBc 0 (aNc Tryz.prog 4294967824) _ Uw
abbrev aBb:=ahy @apH OS BD ER Gz
theorem aBd(t13:Int)(t14:dw)(o:bC)(or:bC)(o1bb:(Int×Unit))(o2:Int)(o3:Bool)(k:fK->Option R):apH (t13,t14,o,or,o1bb,o2,o3) k=al (sN.call t14) λx1=>al (V9.call (x1,o)) λx2=>aJ (x2) (al (rn.call t14) λx3=>al (kR.call x3) λx4=>k (Gz (.inl ((or,t13),x4.1)))) (k (Gz (.inr (or,o1bb,o2,o3)))):=b8
theorem aBe:aBb:=by
 rintro⟨h,t,o,o',o1,o2,o3⟩ hv;have hv:nU t:=hv;rw[aBd,WX (d:=t) hv.1];simp only[ah,bu,K4];rw[agF (d:=(dM t,o)) (by show(dM t).length<=_;have:=apJ t;omega)];simp only[ah,bu,awh,ER];by_cases he:(dM t).any (aqp o)=true
 ·rw[if_pos he,he,aj,OV (d:=t) hv];simp only[ah,bu,JN];rw[UE (d:=auH t) ⟨(Ax hv).1,by show(auH t).length<=_;have:=(Ax hv).2;omega⟩];rfl
 ·have he':(dM t).any (aqp o)=false:=by simpa using he
  rw[if_neg he,he',ao];rfl
def apI:=Entry.aee [none,none,none,none,none,none,none,none,none,none,none,none,none,none,none,none,none,none,none,none,none,none,none,none,none,none,none,none,none,none,none] Uw OS BD ER Gz
def WH:JJ->Option acK:=Lz apI Uw
theorem auc:jf WH OS BD ER:=acr (Xd [.d ti,.d ez,.d bg,.d bg,.d (.pair ti .unit),.d ti,.d .bool] λ_=>b8)
def aBf:SG Tryz.prog:=⟨4294967824,mr,apI,.aVR (GU.fn 0 b8 aBe trivial (by rfl)).aNX (by rfl)⟩
abbrev DW:=Nat×Int×Int×bC×(Int×Unit)×Int×Bool×Nat×Nat×(List (bC×dP))×(List bT)×(List cZ)
noncomputable def vC:DW->AS:=λ(Uz,t11,t12,o0,o1,eA,Li,o5L,o6L,asO,asP,aej)=>⟨([.yl (.bm 0) 0]++aP 9 ([.bA (.bm 9) 0 [] 0 0 Uz,.d ti t11,.d ti t12]++aP 19 [])),[.obj 0 false (.rP (rk Tryz.prog 4294967824) (mF ([bF,bF,bF,.dO bg o0,.ptr (.bm 1) 0 [] 0,.ptr (.bm 2) 0 [] 0,.ptr (.bm 3) 0 [] 0]++aP 21 [])) 0),.obj 0 false (.pr (.de) (.pr (.de) (.d (.pair ti .unit) o1))),.obj 0 false (.d ti eA),.obj 0 false (.d .bool Li),.obj 0 false (.ptr (.bm 5) 0 [] 0),.obj 0 false (.pr (.ptr (.bm 6) 0 [] 0) (.pr (.bA (.bm 9) 0 [] 0 0 o5L) fC)),.obj 0 false (.pr (.cj (.bm 7) 0) (.pr (.bA (.bm 8) 0 [] 0 0 o6L) fC)),.obj 0 false (.mp bg eO asO),.obj 0 false (.vec 256 cD asP),.obj 0 false (.vec 48 dR aej)],(ab 32 [])⟩
abbrev Yv:=bC×dw×Int×Nat×Nat×(List (bC×dP))×(List bT)×(List cZ)
noncomputable def B1:Yv->Exit×AS:=λx=>(.ret,⟨(aP 32 []),[.obj 0 false (.rP (rk Tryz.prog 4294967824) (mF ([bF,bF,bF,.dO bg x.1,.ptr (.bm 1) 0 [] 0,.ptr (.bm 2) 0 [] 0,.ptr (.bm 3) 0 [] 0]++aP 21 [])) 2),.obj 0 false (.d ez x.2.1),.obj 0 false (.d ti x.2.2.1),.obj 0 false (.d .bool true),.obj 0 false (.ptr (.bm 5) 0 [] 0),.obj 0 false (.pr (.ptr (.bm 6) 0 [] 0) (.pr (.bA (.bm 9) 0 [] 0 0 x.2.2.2.1) fC)),.obj 0 false (.pr (.cj (.bm 7) 0) (.pr (.bA (.bm 8) 0 [] 0 0 x.2.2.2.2.1) fC)),.obj 0 false (.mp bg eO x.2.2.2.2.2.1),.obj 0 false (.vec 256 cD x.2.2.2.2.2.2.1),.obj 0 false (.vec 48 dR x.2.2.2.2.2.2.2)],(ab 32 [])⟩)
abbrev Yw:=bC×(Int×Unit)×Int×Bool×Nat×Nat×(List (bC×dP))×(List bT)×(List cZ)
noncomputable def B2:Yw->Exit×AS:=λx=>(.exit 0,⟨(aP 32 []),[.obj 0 false (.rP (rk Tryz.prog 4294967824) (mF ([bF,bF,bF,.dO bg x.1,.ptr (.bm 1) 0 [] 0,.ptr (.bm 2) 0 [] 0,.ptr (.bm 3) 0 [] 0]++aP 21 [])) 0),.obj 0 false (.pr (.de) (.pr (.de) (.d (.pair ti .unit) x.2.1))),.obj 0 false (.d ti x.2.2.1),.obj 0 false (.d .bool x.2.2.2.1),.obj 0 false (.ptr (.bm 5) 0 [] 0),.obj 0 false (.pr (.ptr (.bm 6) 0 [] 0) (.pr (.bA (.bm 9) 0 [] 0 0 x.2.2.2.2.1) fC)),.obj 0 false (.pr (.cj (.bm 7) 0) (.pr (.bA (.bm 8) 0 [] 0 0 x.2.2.2.2.2.1) fC)),.obj 0 false (.mp bg eO x.2.2.2.2.2.2.1),.obj 0 false (.vec 256 cD x.2.2.2.2.2.2.2.1),.obj 0 false (.vec 48 dR x.2.2.2.2.2.2.2.2)],(ab 32 [])⟩)
abbrev SH:=(Yv)⊕(Yw)
abbrev afk:=((bC×dw×Int×Nat×Nat×(List (bC×dP))×(List bT)×(List cZ)))⊕((bC×(Int×Unit)×Int×Bool×Nat×Nat×(List (bC×dP))×(List bT)×(List cZ)))
def HP:SH->Out (Exit×AS):=λx=> .br x.isLeft (.get x.getLeft? λa=> .ok (B1 a)) (.get x.getRight? λb=> .ok (B2 b))
def oV:DW->afk->SH:=λ(Uz,t11,t12,o0,o1,eA,Li,o5L,o6L,asO,asP,aej) y=>match y with | .inl y=> .inl y | .inr z=> .inr (z)
abbrev DX:=Int×Nat×Int×Int×(List dw)×Int×Int×bC×(Int×Unit)×Int×Bool×Nat×Nat×(List (bC×dP))×(List bT)×(List cZ)
noncomputable def vD:DX->AS:=λ(i,JM,WK,WL,t18,t19,t20,BZ,dS,kf,Gc,IM,IN,abi,abj,abk)=>⟨([.yl (.bm 0) 0,bF,bF,.d ti i]++aP 6 ([.bA (.bm 9) 0 [] 0 0 JM,.d ti WK,.d ti WL]++aP 5 ([.d (.slice ez) t18,.d ti t19,.d ti t20]++aP 11 []))),[.obj 0 false (.rP (rk Tryz.prog 4294967824) (mF ([bF,bF,bF,.dO bg BZ,.ptr (.bm 1) 0 [] 0,.ptr (.bm 2) 0 [] 0,.ptr (.bm 3) 0 [] 0]++aP 21 [])) 0),.obj 0 false (.pr (.de) (.pr (.de) (.d (.pair ti .unit) dS))),.obj 0 false (.d ti kf),.obj 0 false (.d .bool Gc),.obj 0 false (.ptr (.bm 5) 0 [] 0),.obj 0 false (.pr (.ptr (.bm 6) 0 [] 0) (.pr (.bA (.bm 9) 0 [] 0 0 IM) fC)),.obj 0 false (.pr (.cj (.bm 7) 0) (.pr (.bA (.bm 8) 0 [] 0 0 IN) fC)),.obj 0 false (.mp bg eO abi),.obj 0 false (.vec 256 cD abj),.obj 0 false (.vec 48 dR abk)],(ab 32 [])⟩
abbrev Yy:=(Nat×Nat×(List (bC×dP))×(List bT)×(List cZ))×(bC×dw×Int)
noncomputable def B4:Yy->Exit×AS:=λx=>(.ret,⟨(aP 32 []),[.obj 0 false (.rP (rk Tryz.prog 4294967824) (mF ([bF,bF,bF,.dO bg x.2.1,.ptr (.bm 1) 0 [] 0,.ptr (.bm 2) 0 [] 0,.ptr (.bm 3) 0 [] 0]++aP 21 [])) 2),.obj 0 false (.d ez x.2.2.1),.obj 0 false (.d ti x.2.2.2),.obj 0 false (.d .bool true),.obj 0 false (.ptr (.bm 5) 0 [] 0),.obj 0 false (.pr (.ptr (.bm 6) 0 [] 0) (.pr (.bA (.bm 9) 0 [] 0 0 x.1.1) fC)),.obj 0 false (.pr (.cj (.bm 7) 0) (.pr (.bA (.bm 8) 0 [] 0 0 x.1.2.1) fC)),.obj 0 false (.mp bg eO x.1.2.2.1),.obj 0 false (.vec 256 cD x.1.2.2.2.1),.obj 0 false (.vec 48 dR x.1.2.2.2.2)],(ab 32 [])⟩)
abbrev Yz:=(Nat×Int×Int×Nat×Nat×(List (bC×dP))×(List bT)×(List cZ))×(bC×(Int×Unit)×Int×Bool)
noncomputable def B5:Yz->Exit×AS:=λx=>(.exit 2,⟨([.yl (.bm 0) 0]++aP 9 ([.bA (.bm 9) 0 [] 0 0 x.1.1,.d ti x.1.2.1,.d ti x.1.2.2.1]++aP 19 [])),[.obj 0 false (.rP (rk Tryz.prog 4294967824) (mF ([bF,bF,bF,.dO bg x.2.1,.ptr (.bm 1) 0 [] 0,.ptr (.bm 2) 0 [] 0,.ptr (.bm 3) 0 [] 0]++aP 21 [])) 0),.obj 0 false (.pr (.de) (.pr (.de) (.d (.pair ti .unit) x.2.2.1))),.obj 0 false (.d ti x.2.2.2.1),.obj 0 false (.d .bool x.2.2.2.2),.obj 0 false (.ptr (.bm 5) 0 [] 0),.obj 0 false (.pr (.ptr (.bm 6) 0 [] 0) (.pr (.bA (.bm 9) 0 [] 0 0 x.1.2.2.2.1) fC)),.obj 0 false (.pr (.cj (.bm 7) 0) (.pr (.bA (.bm 8) 0 [] 0 0 x.1.2.2.2.2.1) fC)),.obj 0 false (.mp bg eO x.1.2.2.2.2.2.1),.obj 0 false (.vec 256 cD x.1.2.2.2.2.2.2.1),.obj 0 false (.vec 48 dR x.1.2.2.2.2.2.2.2)],(ab 32 [])⟩)
abbrev SJ:=(Yy)⊕(Yz)
abbrev afn:=((bC×dw×Int))⊕((bC×(Int×Unit)×Int×Bool))
def HQ:SJ->Out (Exit×AS):=λx=> .br x.isLeft (.get x.getLeft? λa=> .ok (B4 a)) (.get x.getRight? λb=> .ok (B5 b))
def lq:DX->afn->SJ:=λ(i,JM,WK,WL,t18,t19,t20,BZ,dS,kf,Gc,IM,IN,abi,abj,abk) y=>match y with | .inl y=> .inl ((IM,IN,abi,abj,abk),y) | .inr z=> .inr (((JM,WK,WL,IM,IN,abi,abj,abk),z))
abbrev Yr:=bC×(Int×Unit)×Int×Bool×Nat×Nat×(List (bC×dP))×(List bT)×(List cZ)
noncomputable def ahF:Yr->SA:=λ(ir,o1bb,o2,o3,o5baL,o6baL,o7,o8,o9)=>([.yl (.bm 0) 0,.ptr (.bm 4) 0 [] 0],[.obj 0 false (.rP (rk Tryz.prog 4294967824) (mF ([bF,bF,bF,.dO bg ir,.ptr (.bm 1) 0 [] 0,.ptr (.bm 2) 0 [] 0,.ptr (.bm 3) 0 [] 0]++aP 21 [])) 0),.obj 0 false (.pr (.de) (.pr (.de) (.d (.pair ti .unit) o1bb))),.obj 0 false (.d ti o2),.obj 0 false (.d .bool o3),.obj 0 false (.ptr (.bm 5) 0 [] 0),.obj 0 false (.pr (.ptr (.bm 6) 0 [] 0) (.pr (.bA (.bm 9) 0 [] 0 0 o5baL) fC)),.obj 0 false (.pr (.cj (.bm 7) 0) (.pr (.bA (.bm 8) 0 [] 0 0 o6baL) fC)),.obj 0 false (.mp bg eO o7),.obj 0 false (.vec 256 cD o8),.obj 0 false (.vec 48 dR o9)])
abbrev aCz:=(bC×dw×Int×Nat×Nat×(List (bC×dP))×(List bT)×(List cZ))⊕(bC×(Int×Unit)×Int×Bool×Nat×Nat×(List (bC×dP))×(List bT)×(List cZ))
abbrev aqG:=(bC×dw×Int×Nat×Nat×(List (bC×dP))×(List bT)×(List cZ))⊕(bC×(Int×Unit)×Int×Bool×Nat×Nat×(List (bC×dP))×(List bT)×(List cZ))
noncomputable def Pp:aqG->fK:=λx=>match x with | .inl x=>⟨.nil,[.obj 0 false (.rP (rk Tryz.prog 4294967824) (mF ([bF,bF,bF,.dO bg x.1,.ptr (.bm 1) 0 [] 0,.ptr (.bm 2) 0 [] 0,.ptr (.bm 3) 0 [] 0]++aP 21 [])) 2),.obj 0 false (.d ez x.2.1),.obj 0 false (.d ti x.2.2.1),.obj 0 false (.d .bool true),.obj 0 false (.ptr (.bm 5) 0 [] 0),.obj 0 false (.pr (.ptr (.bm 6) 0 [] 0) (.pr (.bA (.bm 9) 0 [] 0 0 x.2.2.2.1) fC)),.obj 0 false (.pr (.cj (.bm 7) 0) (.pr (.bA (.bm 8) 0 [] 0 0 x.2.2.2.2.1) fC)),.obj 0 false (.mp bg eO x.2.2.2.2.2.1),.obj 0 false (.vec 256 cD x.2.2.2.2.2.2.1),.obj 0 false (.vec 48 dR x.2.2.2.2.2.2.2)],[]⟩ | .inr x=>⟨.nil,[.obj 0 false (.rP (rk Tryz.prog 4294967824) (mF ([bF,bF,bF,.dO bg x.1,.ptr (.bm 1) 0 [] 0,.ptr (.bm 2) 0 [] 0,.ptr (.bm 3) 0 [] 0]++aP 21 [])) 0),.obj 0 false (.pr (.de) (.pr (.de) (.d (.pair ti .unit) x.2.1))),.obj 0 false (.d ti x.2.2.1),.obj 0 false (.d .bool x.2.2.2.1),.obj 0 false (.ptr (.bm 5) 0 [] 0),.obj 0 false (.pr (.ptr (.bm 6) 0 [] 0) (.pr (.bA (.bm 9) 0 [] 0 0 x.2.2.2.2.1) fC)),.obj 0 false (.pr (.cj (.bm 7) 0) (.pr (.bA (.bm 8) 0 [] 0 0 x.2.2.2.2.2.1) fC)),.obj 0 false (.mp bg eO x.2.2.2.2.2.2.1),.obj 0 false (.vec 256 cD x.2.2.2.2.2.2.2.1),.obj 0 false (.vec 48 dR x.2.2.2.2.2.2.2.2)],[]⟩
def YB:Yr->aCz->aqG:=λ(ir,o1bb,o2,o3,o5baL,o6baL,o7,o8,o9) y=>match y with | .inl y=> .inl y | .inr y=> .inr y
def B3:DX->Prop:=λ(i,_,_,_,l,n,j,_)=>(0<=i/\i<=1000000)/\l.length<=1000000/\(∀t∈l,nU t)/\n=(l.length:Int)/\∃k:Nat,k<=l.length/\j=k
def qm:DX->afn:=λ(i,_,_,_,l,_,j,o,o1,o2,o3,_)=>match Uv o (l.drop j.toNat) with | some t=> .inl (o,aqw t,i+1) | none=> .inr (o,o1,o2,o3)
def B0:DW->Prop:=λ(nb,n,i,_,_,_,_,_,_,_,_,bs)=>aqo nb bs/\n=(nb:Int)/\∃k:Nat,k<=nb/\i=k
def tn:DW->afk:=λ(nb,_,i,o,o1,o2,o3,o4,o5,m,st,bs)=>match BE o ((bs.take nb).drop i.toNat) i with
 |some x=> .inl (o,x.1,x.2,o4,o5,m,st,bs)
 |none=> .inr (o,o1,o2,o3,o4,o5,m,st,bs)
def YA:Yr->Prop:=λ(_,_,_,_,nb,_,_,_,bs)=>aqo nb bs
def Ys:Yr->aCz:=λ(o,o1,o2,o3,nb,o5,m,st,bs)=>match BE o (bs.take nb) 0 with
 |some x=> .inl (o,x.1,x.2,nb,o5,m,st,bs)
 |none=> .inr (o,o1,o2,o3,nb,o5,m,st,bs)
def Yt:oR:=jI (P:=Tryz.prog) [aBf]
def afi:=dz.fv vC B0 oV tn HP
def Pk:DW->Option SH:=gM afi vC
def afl:=dz.fv vD B3 lq qm HQ
def Pm:DX->Option SJ:=gM afl vD
def Po:xi:= {loops:=nY [(1,{aV:=[0,10,11,12]}),(4,{aV:=[0,3,10,11,12,18,19,20]})],outs:=nX [(1,{},{}),(4,{aV:=[0,10,11,12]},{})],fF:=nK [(1,afi),(4,afl)]}
def aCx:= @HM Tryz.prog Yt Po 0 Tryz.f117 _ ahF
abbrev aJJ:=ahy @aCx YA YB Ys Pp
def afj:= @eC Tryz.prog Yt Po 0 Tryz.f117 0 _ vC
abbrev Yu:=kP Tryz.prog Yt Po 0 Tryz.f117 0 vC B0 oV tn HP
def afm:= @eC Tryz.prog Yt Po 0 Tryz.f117 1 _ vD
abbrev Yx:=kP Tryz.prog Yt Po 0 Tryz.f117 1 vD B3 lq qm HQ
theorem alo:jf Pk B0 oV tn:=mn (jx [.n,.d ti,.d ti,.d bg,.d (.pair ti .unit),.d ti,.d .bool,.n,.n,.d (.slice (.pair bg eO)),.d (.slice cD),.d (.slice dR)] λ_=>b8)
theorem SI:nq @afj vC B0 oV tn HP Yu:=oa
theorem EZ(Uz:Nat)(t11:Int)(t12:Int)(o0:bC)(o1:(Int×Unit))(eA:Int)(Li:Bool)(o5L:Nat)(o6L:Nat)(asO:(List (bC×dP)))(asP:(List bT))(aej:(List cZ))(kn:AS->Option R)(kx:Exit->AS->Option R):afj (Uz,t11,t12,o0,o1,eA,Li,o5L,o6L,asO,asP,aej) kn kx=aJ ((gr t12 t11)) (aJ (ed t12 ((Uz:Nat):Int)) (aJ (decide ((0+(ae t12)) < (ag aej))) (aJ (decide ((((0+(ae t12))*36)+0)=(0+((ae t12)*36)))) (al (Pm (t12,Uz,t11,t12,(nth dR aej (0+(ae t12))).2.2.1,(((ag (nth dR aej (0+(ae t12))).2.2.1):Nat):Int),(0:Int),o0,o1,eA,Li,o5L,o6L,asO,asP,aej)) λx1=>aJ x1.isLeft (al x1.getLeft? λa2=>kx (B1 (a2.2.1,a2.2.2.1,a2.2.2.2,a2.1.1,a2.1.2.1,a2.1.2.2.1,a2.1.2.2.2.1,a2.1.2.2.2.2)).1 (B1 (a2.2.1,a2.2.2.1,a2.2.2.2,a2.1.1,a2.1.2.1,a2.1.2.2.1,a2.1.2.2.2.1,a2.1.2.2.2.2)).2) (al x1.getRight? λb3=>kn (vC (b3.1.1,b3.1.2.1,(bI .i64 b3.1.2.2.1 (1:Int)),b3.2.1,b3.2.2.1,b3.2.2.2.1,b3.2.2.2.2,b3.1.2.2.2.1,b3.1.2.2.2.2.1,b3.1.2.2.2.2.2.1,b3.1.2.2.2.2.2.2.1,b3.1.2.2.2.2.2.2.2)))) none) none) none) (kx (B2 (o0,o1,eA,Li,o5L,o6L,asO,asP,aej)).1 (B2 (o0,o1,eA,Li,o5L,o6L,asO,asP,aej)).2):=b8
theorem alp:jf Pm B3 lq qm:=mn (jx [.d ti,.n,.d ti,.d ti,.d (.slice ez),.d ti,.d ti,.d bg,.d (.pair ti .unit),.d ti,.d .bool,.n,.n,.d (.slice (.pair bg eO)),.d (.slice cD),.d (.slice dR)] λ_=>b8)
theorem SK:nq @afm vD B3 lq qm HQ Yx:=oa
theorem E0(i:Int)(JM:Nat)(WK:Int)(WL:Int)(t18:(List dw))(t19:Int)(t20:Int)(BZ:bC)(dS:(Int×Unit))(kf:Int)(Gc:Bool)(IM:Nat)(IN:Nat)(abi:(List (bC×dP)))(abj:(List bT))(abk:(List cZ))(kn:AS->Option R)(kx:Exit->AS->Option R):afm (i,JM,WK,WL,t18,t19,t20,BZ,dS,kf,Gc,IM,IN,abi,abj,abk) kn kx=aJ ((gr t20 t19)) (aJ (ed t20 (((ag t18):Nat):Int)) (same (rk Tryz.prog 4294967824) (rk Tryz.prog 4294967824) (al (WH ((bI .i64 i (1:Int)),(nth ez t18 (ae t20)),BZ,BZ,dS,kf,Gc)) λx1=>aJ x1.isLeft (al x1.getLeft? λaJo=>kx (B4 ((IM,IN,abi,abj,abk),(aJo.1.1,aJo.2,aJo.1.2))).1 (B4 ((IM,IN,abi,abj,abk),(aJo.1.1,aJo.2,aJo.1.2))).2) (al x1.getRight? λaJp=>kn (vD (i,JM,WK,WL,t18,t19,(bI .i64 t20 (1:Int)),aJp.1,aJp.2.1,aJp.2.2.1,aJp.2.2.2,IM,IN,abi,abj,abk))))) none) (kx (B5 ((JM,WK,WL,IM,IN,abi,abj,abk),(BZ,dS,kf,Gc))).1 (B5 ((JM,WK,WL,IM,IN,abi,abj,abk),(BZ,dS,kf,Gc))).2):=b8
theorem aJK(ir:bC)(o1bb:(Int×Unit))(o2:Int)(o3:Bool)(o5baL:Nat)(o6baL:Nat)(o7:(List (bC×dP)))(o8:(List bT))(o9:(List cZ))(k:fK->Option R):aCx (ir,o1bb,o2,o3,o5baL,o6baL,o7,o8,o9) k=al (Pk (o5baL,((o5baL:Nat):Int),(0:Int),ir,o1bb,o2,o3,o5baL,o6baL,o7,o8,o9)) λx5=>aJ x5.isLeft (al x5.getLeft? λa6=>k (Pp (.inl (a6.1,a6.2.1,a6.2.2.1,a6.2.2.2.1,a6.2.2.2.2.1,a6.2.2.2.2.2.1,a6.2.2.2.2.2.2.1,a6.2.2.2.2.2.2.2)))) (al x5.getRight? λb7=>k (Pp (.inr (b7.1,b7.2.1,b7.2.2.1,b7.2.2.2.1,b7.2.2.2.2.1,b7.2.2.2.2.2.1,b7.2.2.2.2.2.2.1,b7.2.2.2.2.2.2.2.1,b7.2.2.2.2.2.2.2.2)))):=b8
theorem aqF:Yx:=by
 refine SK (λ(_,_,_,_,l,_,j,_)=>l.length - j.toNat) ?_
 rintro⟨i,nb,n0,i0,l,n,j,o,o1,o2,o3,o4,o5,m,st,bs⟩ ⟨⟨hi,aO1⟩,hl,hv,rfl,k,hk,rfl⟩;have hl:l.length<=1000000:=hl;have hk:k<=l.length:=hk;have hi:0<=i:=hi;have aO1:i<=1000000:=aO1;by_cases gQ:k < l.length
 ·have n1:nth ez l k=l[k]:=cd (t:=ez) gQ;have hd:l.drop k=l[k]::l.drop (k+1):=aq gQ;have hw:=auc (d:=(i+1,l[k],o,o,o1,o2,o3)) (hv _ (aN gQ));by_cases he:(dM l[k]).any (aqp o)=true
  ·right;refine⟨B4 ((o4,o5,m,st,bs),(o,aqw l[k],i+1)),?_,λkn kx=> ?_⟩;rotate_left
   ·rw[E0,aU ak,aj,bj ak ak,aj,aa,n1,Up,fZ ak ak,hw];simp only[ah,ER,if_pos he,BD,oU,aj,mC]
   ·simp only[lq,qm,aa,hd,Uv,if_pos he];rfl
  ·left;refine⟨(i,nb,n0,i0,l,(l.length:Int),((k+1:Nat):Int),o,o1,o2,o3,o4,o5,m,st,bs),⟨⟨hi,aO1⟩,hl,hv,rfl,k+1,ak,rfl⟩,by simp only[aa];omega,?_,λkn kx=> ?_⟩
   ·simp only[lq,qm,aa,hd,Uv,if_neg he]
   ·rw[E0,aU ak,aj,bj ak ak,aj,aa,n1,Up,fZ ak ak,hw];simp only[ah,ER,if_neg he,BD,dJ,ao,da];rw[N.mD ak]
 ·right;obtain rfl:k=l.length:=ak;refine⟨B5 ((nb,n0,i0,o4,o5,m,st,bs),(o,o1,o2,o3)),?_,λkn kx=> ?_⟩;rotate_left
  ·rw[E0,aQ ak,ao]
  ·simp only[lq,qm,aa,aL,Uv];rfl
theorem aqE:Yu:=by
 refine SI (λ(nb,_,i,_)=>nb - i.toNat) ?_
 rintro⟨nb,n,i,o,o1,o2,o3,o4,o5,m,st,bs⟩ ⟨⟨h1,h2,h3⟩,rfl,k,hk,rfl⟩;have h1:nb<=bs.length:=h1;have h2:nb<=1000000:=h2;have hk:k<=nb:=hk;by_cases gQ:k < nb
 ·have hb:k < bs.length:=ak;have n1:nth dR bs k=bs[k]:=cd (t:=dR) hb;have hd:(bs.take nb).drop k=bs[k]::(bs.take nb).drop (k+1):=by have:=aq (l:=bs.take nb) (i:=k) (by rw[bp];omega);rwa[List.getElem_take]at this
  obtain⟨⟨q1,q2⟩,_⟩:=h3 _ (aN hb);have q1:bs[k].2.2.1.length<=1000000:=iw q1 (by decide);have hw:=alp (d:=((k:Int),nb,(nb:Int),(k:Int),bs[k].2.2.1,(bs[k].2.2.1.length:Int),0,o,o1,o2,o3,o4,o5,m,st,bs)) ⟨⟨ak,ak⟩,q1,q2,rfl,0,aK _,rfl⟩;have z1:((0:Int)).toNat=0:=rfl;cases he:Uv o bs[k].2.2.1 with
  |some t=>
   right;refine⟨B1 (o,aqw t,(k:Int)+1,o4,o5,m,st,bs),?_,λkn kx=> ?_⟩;rotate_left
   ·rw[EZ,aU ak,aj,bj ak ak,aj,aa,aO,fY hb,aj,fY ak,aj,n1,hw];simp only[ah,qm,z1,aD,he,lq,oU,aj,mC]
   ·simp only[oV,tn,aa,hd,BE,he];rfl
  |none=>
   left;refine⟨(nb,(nb:Int),((k+1:Nat):Int),o,o1,o2,o3,o4,o5,m,st,bs),⟨⟨h1,h2,h3⟩,rfl,k+1,ak,rfl⟩,by simp only[aa];omega,?_,λkn kx=> ?_⟩
   ·simp only[oV,tn,aa,hd,BE,he];rfl
   ·rw[EZ,aU ak,aj,bj ak ak,aj,aa,aO,fY hb,aj,fY ak,aj,n1,hw];simp only[ah,qm,z1,aD,he,lq,dJ,ao,da];rw[N.mD ak]
 ·right;obtain rfl:k=nb:=ak;refine⟨B2 (o,o1,o2,o3,o4,o5,m,st,bs),?_,λkn kx=> ?_⟩;rotate_left
  ·rw[EZ,aQ ak,ao]
  ·have hd:(bs.take k).drop k=[]:=List.drop_eq_nil_of_le (by rw[bp];omega);simp only[oV,tn,aa,hd,BE];rfl
theorem aJL:aJJ:=by
 rintro⟨o,o1,o2,o3,nb,o5,m,st,bs⟩ h;have h:aqo nb bs:=h;rw[aJK,alo (d:=(nb,(nb:Int),0,o,o1,o2,o3,nb,o5,m,st,bs)) ⟨h,rfl,0,aK _,rfl⟩];have z1:((0:Int)).toNat=0:=rfl;simp only[ah,tn,z1,aD,Ys];cases BE o (bs.take nb) 0 with
 |some h=>rfl
 |none=>rfl
def aCy:=Entry.aee [none,none] ahF YA YB Ys Pp
def afo:Yr->Option aqG:=Lz aCy ahF
theorem aCA:jf afo YA YB Ys:=acr (Xd [.d bg,.d (.pair ti .unit),.d ti,.d .bool,.n,.n,.d (.slice (.pair bg eO)),.d (.slice cD),.d (.slice dR)] λ_=>b8)
def aJM:SG Tryz.prog:=⟨117,mr,aCy,.of (.aNX (.fn 2 b8 aJL (And.intro (.fv aqE b8) (And.intro (.fv aqF b8) trivial)))) (by rfl)⟩
abbrev afG:=bC×Nat×Nat×(List (bC×dP))×(List bT)×(List cZ)
def amf:afG->Prop:=λ(_,nb,_,_,_,bs)=>aqo nb bs
def S7:afG->(dw×Int×Bool×Nat×Nat×(List (bC×dP))×(List bT)×(List cZ)):=λ(o,nb,n,m,st,bs)=>match BE o (bs.take nb) 0 with
 |some x=>(x.1,x.2,true,nb,n,m,st,bs)
 |none=>(ez.zero,0,false,nb,n,m,st,bs)
def uB:Fs Tryz.prog amf bu S7:=eN 33 Tryz.f33 (λ(o,o0baL,o1baL,o2,o3,o4)=>([.ptr (.bm 0) 0 [] 0,.d bg o],[apW (.pr (.ptr (.bm 1) 0 [] 0) (.pr (.bA (.bm 4) 0 [] 0 0 o0baL) (.d .unit ()))),apW (.pr (.cj (.bm 2) 0) (.pr (.bA (.bm 3) 0 [] 0 0 o1baL) (.d .unit ()))),apW (.mp bg eO o2),apW (.vec 256 cD o3),apW (.vec 48 dR o4)])) (λx=>⟨.cons (.d ez x.1) (.cons (.d ti x.2.1) (.cons (.d .bool x.2.2.1) (.nil))),[apW (.pr (.ptr (.bm 1) 0 [] 0) (.pr (.bA (.bm 4) 0 [] 0 0 x.2.2.2.1) (.d .unit ()))),apW (.pr (.cj (.bm 2) 0) (.pr (.bA (.bm 3) 0 [] 0 0 x.2.2.2.2.1) (.d .unit ()))),apW (.mp bg eO x.2.2.2.2.2.1),apW (.vec 256 cD x.2.2.2.2.2.2.1),apW (.vec 48 dR x.2.2.2.2.2.2.2)],[]⟩) [none,some bg] [aDt,aJM] {res:=[some ez,none,none],rf:=nK [(13,(4294967824,[3,4,5,6]))]}
theorem ars(o o0baL o1baL o2 o3 o4)(k:K1 R):uB.A (o,o0baL,o1baL,o2,o3,o4) k=al (Y2.call (o0baL,o1baL,o2,o3,o4)) λx1=>al (afo (o,(0,()),0,false,x1.1,x1.2.1,x1.2.2.1,x1.2.2.2.1,x1.2.2.2.2)) λx2=>aJ x2.isLeft (al x2.getLeft? λaQh=>k (uB.out (aQh.2.1,aQh.2.2.1,true,aQh.2.2.2.1,aQh.2.2.2.2.1,aQh.2.2.2.2.2.1,aQh.2.2.2.2.2.2.1,aQh.2.2.2.2.2.2.2))) (al x2.getRight? λaSD=>k (uB.out ((([]:List gK),(([]:List gm),(0,()))),0,false,aSD.2.2.2.2.1,aSD.2.2.2.2.2.1,aSD.2.2.2.2.2.2.1,aSD.2.2.2.2.2.2.2.1,aSD.2.2.2.2.2.2.2.2))):=b8
theorem art:uB.Ok:=by
 rintro⟨o,nb,n,m,st,bs⟩ h;have h:aqo nb bs:=h;rw[ars,axS (d:=(nb,n,m,st,bs)) trivial];simp only[ah,afz,avj];rw[aCA (d:=(o,(0,()),0,false,nb,n,m,st,bs)) h];simp only[ah,Ys,S7];cases BE o (bs.take nb) 0 with
 |some h=>rfl
 |none=>rfl
theorem amg:uB.RS:=rE [.d bg,.n,.n,.d (.slice (.pair bg eO)),.d (.slice cD),.d (.slice dR)] uB
def Zb:=uB.eU art
abbrev AG:=Int×Int×Nat×(List (bC×dP))×(List bT)
def tr:AG->AS:=λ(t7,t8,o0L,dS,eA)=>⟨([.ptr (.bm 0) 0 [] 0]++aP 6 ([.d ti t7,.d ti t8]++aP 5 [])),[apW (.pr (.cj (.bm 1) 0) (.pr (.bA (.bm 2) 0 [] 0 0 o0L) fC)),apW (.mp bg eO dS),apW (.vec 256 cD eA)],(ab 14 [])⟩
abbrev U2:=Nat×(List (bC×dP))×(List bT)
def yM:U2->Exit×AS:=λx=>(.ret,⟨(aP 4 ([.d .bool false]++aP 9 [])),[apW (.pr (.cj (.bm 1) 0) (.pr (.bA (.bm 2) 0 [] 0 0 x.1) fC)),apW (.mp bg eO x.2.1),apW (.vec 256 cD x.2.2)],(ab 14 [])⟩)
abbrev U3:=Nat×(List (bC×dP))×(List bT)
def yN:U3->Exit×AS:=λx=>(.exit 0,⟨(aP 14 []),[apW (.pr (.cj (.bm 1) 0) (.pr (.bA (.bm 2) 0 [] 0 0 x.1) fC)),apW (.mp bg eO x.2.1),apW (.vec 256 cD x.2.2)],(ab 14 [])⟩)
abbrev Nf:=(U2)⊕(U3)
abbrev YW:=((Nat×(List (bC×dP))×(List bT)))⊕((Nat×(List (bC×dP))×(List bT)))
def E4:Nf->Out (Exit×AS):=λx=> .br x.isLeft (.get x.getLeft? λa=> .ok (yM a)) (.get x.getRight? λb=> .ok (yN b))
def nB:AG->YW->Nf:=λ(t7,t8,o0L,dS,eA) y=>match y with | .inl y=> .inl y | .inr z=> .inr (z)
abbrev ave:=cZ×Nat×(List (bC×dP))×(List bT)
def ET:Nat->aCs->Bool×aCs
 | 0,S=>(true,S)
 |k+1,S=>if S.1=0 then(false,S) else ET k (S.1 - 1,xP S.2.1 (nth cD S.2.2 (S.1 - 1)),S.2.2)
def aqA(n:Nat)(s:List bT):Prop:=n<=s.length/\s.length<=1000000/\∀st∈s,ahB st
theorem aIR:∀(k:Nat) (S:aCs),aqA S.1 S.2.2->aqA (ET k S).2.1 (ET k S).2.2.2
 | 0,S,h=>h
 |k+1,S,h=>by
  unfold ET;split
  ·exact h
  ·exact aIR k _ ⟨by have:=h.1;show S.1 - 1<=S.2.2.length;omega,h.2⟩
def yL:AG->Prop:=λ(d,i,n,_,s)=>aqA n s/\∃m k:Nat,d=m/\i=k/\k<=m/\m<=1000
def oX:AG->YW:=λ(d,i,n,a,s)=>if(ET (d - i).toNat (n,a,s)).1=true then .inr (ET (d - i).toNat (n,a,s)).2 else .inl (ET (d - i).toNat (n,a,s)).2
def axu:ave->Prop:=λ(b,n,_,s)=>b.2.2.1.length<=1000/\aqA n s
def ahO:ave->(Bool×Nat×(List (bC×dP))×(List bT)):=λ(b,n,a,s)=>ET b.2.2.1.length (n,a,s)
def YU:=dz.fv tr yL nB oX E4
def Lu:AG->Option Nf:=gM YU tr
def G0:Fs Tryz.prog axu bu ahO:=eN 104 Tryz.f104 (λ(b,o0baL,o1,o2)=>([.ptr (.bm 0) 0 [] 0,.d dR b],[apW (.pr (.cj (.bm 1) 0) (.pr (.bA (.bm 2) 0 [] 0 0 o0baL) (.d .unit ()))),apW (.mp bg eO o1),apW (.vec 256 cD o2)])) (λx=>⟨.d .bool x.1,[apW (.pr (.cj (.bm 1) 0) (.pr (.bA (.bm 2) 0 [] 0 0 x.2.1) (.d .unit ()))),apW (.mp bg eO x.2.2.1),apW (.vec 256 cD x.2.2.2)],[]⟩) [none,some dR] [aEs] {loops:=nY [(2,{aV:=[0,7,8]})],outs:=nX [(2,{},{aV:=[4]})],fF:=nK [(2,YU)]}
def YV:= @eC Tryz.prog (jI G0.G) G0.an 0 Tryz.f104 0 _ tr
abbrev U1:=kP Tryz.prog (jI G0.G) G0.an 0 Tryz.f104 0 tr yL nB oX E4
theorem ahP:jf Lu yL nB oX:=mn (jx [.d ti,.d ti,.n,.d (.slice (.pair bg eO)),.d (.slice cD)] λ_=>b8)
theorem PB:nq @YV tr yL nB oX E4 U1:=oa
theorem CY(t7:Int)(t8:Int)(o0L:Nat)(dS:(List (bC×dP)))(eA:(List bT))(kn:AS->Option R)(kx:Exit->AS->Option R):YV (t7,t8,o0L,dS,eA) kn kx=aJ ((gr t8 t7)) (al (AV.call (o0L,dS,eA)) λx1=>aJ ((!x1.1)) (kx (yM (x1.2.1,x1.2.2.1,x1.2.2.2)).1 (yM (x1.2.1,x1.2.2.1,x1.2.2.2)).2) (kn (tr (t7,(bI .i64 t8 (1:Int)),x1.2.1,x1.2.2.1,x1.2.2.2)))) (kx (yN (o0L,dS,eA)).1 (yN (o0L,dS,eA)).2):=b8
theorem aC4(b o0baL o1 o2)(k:K1 R):G0.A (b,o0baL,o1,o2) k=al (Lu ((b.2.2.1.length:Int),0,o0baL,o1,o2)) λx2=>aJ x2.isLeft (al x2.getLeft? λa3=>k (G0.out (false,a3.1,a3.2.1,a3.2.2))) (al x2.getRight? λb4=>k (G0.out (true,b4.1,b4.2.1,b4.2.2))):=b8
theorem alQ:U1:=by
 refine PB (λ(d,i,_)=>(d - i).toNat) ?_
 rintro⟨d,i,n,a,s⟩ ⟨hg,m,k,rfl,rfl,hk,hm⟩;have hg:aqA n s:=hg;have hk:k<=m:=hk;have hm:m<=1000:=hm;by_cases gQ:k < m
 ·obtain⟨j,hj⟩:∃j,m=k+1+j:=⟨m - (k+1),ak⟩;have e1:((m:Int) - (k:Int)).toNat=j+1:=ak;have e2:((m:Int) - ((k+1:Nat):Int)).toNat=j:=ak;have hc:=afT (d:=(n,a,s)) hg;by_cases h0:n=0
  ·right;refine⟨yM (n,a,s),?_,λkn kx=> ?_⟩;rotate_left
   ·rw[CY,aU ak,aj,hc];simp only[ah,bu,XQ,if_pos h0,fb,aj]
   ·simp only[nB,oX,e1,ET,if_pos h0,bn,bt];rfl
  ·left;refine⟨((m:Int),((k+1:Nat):Int),n - 1,xP a (nth cD s (n - 1)),s),⟨⟨by have:=hg.1;omega,hg.2⟩,m,k+1,rfl,rfl,ak,hm⟩,by simp only[e1,e2];omega,?_,λkn kx=> ?_⟩
   ·simp only[nB,oX,e1,e2];rw[ET,if_neg h0]
   ·rw[CY,aU ak,aj,hc];simp only[ah,bu,XQ,if_neg h0,cm,ao];rw[N.mD ak]
 ·right;obtain rfl:k=m:=ak;refine⟨yN (n,a,s),?_,λkn kx=> ?_⟩;rotate_left
  ·rw[CY,aQ ak,ao]
  ·have e1:((k:Int) - (k:Int)).toNat=0:=ak;simp only[nB,oX,e1,ET,bG];rfl
theorem aC5:G0.Ok:=by
 rintro⟨b,n,a,s⟩ ⟨hl,hg⟩;have hl:b.2.2.1.length<=1000:=hl;have e:((b.2.2.1.length:Int) - 0).toNat=b.2.2.1.length:=ak;rw[aC4,ahP (d:=((b.2.2.1.length:Int),0,n,a,s)) ⟨hg,b.2.2.1.length,0,rfl,rfl,aK _,hl⟩];simp only[ah,oX,e,ahO];cases hu:ET b.2.2.1.length (n,a,s) with
 |mk r S=>
  cases r with
  |true=>rfl
  |false=>rfl
theorem axv:G0.RS:=rE [.d dR,.n,.d (.slice (.pair bg eO)),.d (.slice cD)] G0
def aC6:=G0.eU aC5 1 ⟨.fv alQ,trivial⟩
abbrev uq:=(List cZ)×Int×Int×Nat×Nat×(List (bC×dP))×(List bT)×(List cZ)×Nat×Nat×(List (bC×dP))×(List bT)×(List cZ)
def ou:uq->AS:=λ(vj,t32,t33,o0L,o1L,eA,Li,zJ,On,Oo,n31,aaX,Mj)=>⟨([.ptr (.bm 0) 0 [] 0,bF,.d (.slice dR) vj]++aP 4 ([eT 31]++aP 24 ([.d ti t32,.d ti t33]++aP 47 []))),[apW (.pr (.ptr (.bm 1) 0 [] 0) (.pr (.bA (.bm 4) 0 [] 0 0 o0L) fC)),apW (.pr (.cj (.bm 2) 0) (.pr (.bA (.bm 3) 0 [] 0 0 o1L) fC)),apW (.mp bg eO eA),apW (.vec 256 cD Li),apW (.vec 48 dR zJ)],(bM 31 ([[apW (.pr (.ptr (.new 31 1) 0 [] 0) (.pr (.bA (.new 31 4) 0 [] 0 0 On) fC)),apW (.pr (.cj (.new 31 2) 0) (.pr (.bA (.new 31 3) 0 [] 0 0 Oo) fC)),apW (.mp bg eO n31),apW (.vec 256 cD aaX),apW (.vec 48 dR Mj)]]++bM 49 []))⟩
abbrev LC:=((List cZ)×Nat×Nat×(List (bC×dP))×(List bT)×(List cZ)×(List cZ))×(Nat×Nat×(List (bC×dP))×(List bT))
def uu:LC->Exit×AS:=λx=>(.exit 1,⟨([.ptr (.bm 0) 0 [] 0,bF,.d (.slice dR) x.1.1]++aP 4 ([eT 31]++aP 73 [])),[apW (.pr (.ptr (.bm 1) 0 [] 0) (.pr (.bA (.bm 4) 0 [] 0 0 x.1.2.1) fC)),apW (.pr (.cj (.bm 2) 0) (.pr (.bA (.bm 3) 0 [] 0 0 x.1.2.2.1) fC)),apW (.mp bg eO x.1.2.2.2.1),apW (.vec 256 cD x.1.2.2.2.2.1),apW (.vec 48 dR x.1.2.2.2.2.2.1)],(bM 31 ([[apW (.pr (.ptr (.new 31 1) 0 [] 0) (.pr (.bA (.new 31 4) 0 [] 0 0 x.2.1) fC)),apW (.pr (.cj (.new 31 2) 0) (.pr (.bA (.new 31 3) 0 [] 0 0 x.2.2.1) fC)),apW (.mp bg eO x.2.2.2.1),apW (.vec 256 cD x.2.2.2.2),apW (.vec 48 dR x.1.2.2.2.2.2.2)]]++bM 49 []))⟩)
abbrev Ff:=LC
def H3:Ff->Out (Exit×AS):=λx=> .ok (uu x)
def kq:uq->(Nat×Nat×(List (bC×dP))×(List bT))->Ff:=λ(vj,t32,t33,o0L,o1L,eA,Li,zJ,On,Oo,n31,aaX,Mj) y=>((vj,o0L,o1L,eA,Li,zJ,Mj),y)
abbrev uv:=(List cZ)×Int×Int×Nat×Nat×(List (bC×dP))×(List bT)×(List cZ)×Nat×Nat×(List (bC×dP))×(List bT)×(List cZ)
def ov:uv->AS:=λ(t63,t64,t65,ij,uU,kf,Gc,abh,Oq,Ot,aaY,aaZ,aa0)=>⟨([.ptr (.bm 0) 0 [] 0]++aP 6 ([eT 31]++aP 55 ([.d (.slice dR) t63,.d ti t64,.d ti t65]++aP 15 []))),[apW (.pr (.ptr (.bm 1) 0 [] 0) (.pr (.bA (.bm 4) 0 [] 0 0 ij) fC)),apW (.pr (.cj (.bm 2) 0) (.pr (.bA (.bm 3) 0 [] 0 0 uU) fC)),apW (.mp bg eO kf),apW (.vec 256 cD Gc),apW (.vec 48 dR abh)],(bM 31 ([[apW (.pr (.ptr (.new 31 1) 0 [] 0) (.pr (.bA (.new 31 4) 0 [] 0 0 Oq) fC)),apW (.pr (.cj (.new 31 2) 0) (.pr (.bA (.new 31 3) 0 [] 0 0 Ot) fC)),apW (.mp bg eO aaY),apW (.vec 256 cD aaZ),apW (.vec 48 dR aa0)]]++bM 49 []))⟩
abbrev LF:=(Nat×Nat×(List (bC×dP))×(List bT)×(List cZ))×(Int)
def uz:LF->Exit×AS:=λx=>(.ret,⟨(aP 6 ([.d ti x.2]++aP 74 [])),[apW (.pr (.ptr (.bm 1) 0 [] 0) (.pr (.bA (.bm 4) 0 [] 0 0 x.1.1) fC)),apW (.pr (.cj (.bm 2) 0) (.pr (.bA (.bm 3) 0 [] 0 0 x.1.2.1) fC)),apW (.mp bg eO x.1.2.2.1),apW (.vec 256 cD x.1.2.2.2.1),apW (.vec 48 dR x.1.2.2.2.2)],(ab 81 [])⟩)
abbrev LG:=(Nat×Nat×(List (bC×dP))×(List bT)×(List cZ))×(Nat×Nat×(List (bC×dP))×(List bT)×(List cZ))
def uA:LG->Exit×AS:=λx=>(.exit 3,⟨([.ptr (.bm 0) 0 [] 0]++aP 6 ([eT 31]++aP 73 [])),[apW (.pr (.ptr (.bm 1) 0 [] 0) (.pr (.bA (.bm 4) 0 [] 0 0 x.1.1) fC)),apW (.pr (.cj (.bm 2) 0) (.pr (.bA (.bm 3) 0 [] 0 0 x.1.2.1) fC)),apW (.mp bg eO x.1.2.2.1),apW (.vec 256 cD x.1.2.2.2.1),apW (.vec 48 dR x.1.2.2.2.2)],(bM 31 ([[apW (.pr (.ptr (.new 31 1) 0 [] 0) (.pr (.bA (.new 31 4) 0 [] 0 0 x.2.1) fC)),apW (.pr (.cj (.new 31 2) 0) (.pr (.bA (.new 31 3) 0 [] 0 0 x.2.2.1) fC)),apW (.mp bg eO x.2.2.2.1),apW (.vec 256 cD x.2.2.2.2.1),apW (.vec 48 dR x.2.2.2.2.2)]]++bM 49 []))⟩)
abbrev Fg:=(LF)⊕(LG)
abbrev PO:=(Int)⊕((Nat×Nat×(List (bC×dP))×(List bT)×(List cZ)))
def AK:Fg->Out (Exit×AS):=λx=> .br x.isLeft (.get x.getLeft? λa=> .ok (uz a)) (.get x.getRight? λb=> .ok (uA b))
def kr:uv->PO->Fg:=λ(t63,t64,t65,ij,uU,kf,Gc,abh,Oq,Ot,aaY,aaZ,aa0) y=>match y with | .inl y=> .inl ((ij,uU,kf,Gc,abh),y) | .inr z=> .inr (((ij,uU,kf,Gc,abh),z))
abbrev D5:=Int×(List cZ)×Nat×Nat×(List (bC×dP))×(List bT)×(List cZ)
def Np:D5->SA:=λ(depth,l,o0baL,o1baL,o2,o3,o4)=>([.ptr (.bm 0) 0 [] 0,.d ti depth,.d (.slice dR) l],[apW (.pr (.ptr (.bm 1) 0 [] 0) (.pr (.bA (.bm 4) 0 [] 0 0 o0baL) fC)),apW (.pr (.cj (.bm 2) 0) (.pr (.bA (.bm 3) 0 [] 0 0 o1baL) fC)),apW (.mp bg eO o2),apW (.vec 256 cD o3),apW (.vec 48 dR o4)])
abbrev afF:=(Int×Nat×Nat×(List (bC×dP))×(List bT)×(List cZ))⊕(Int×Nat×Nat×(List (bC×dP))×(List bT)×(List cZ)×Nat×(List (bC×dP))×(List bT)×(List cZ))
abbrev Kq:=(Int×Nat×Nat×(List (bC×dP))×(List bT)×(List cZ))⊕(Int×Nat×Nat×(List (bC×dP))×(List bT)×(List cZ)×Nat×(List (bC×dP))×(List bT)×(List cZ))
def mX:Kq->fK:=λx=>match x with | .inl x=>⟨.d ti x.1,[apW (.pr (.ptr (.bm 1) 0 [] 0) (.pr (.bA (.bm 4) 0 [] 0 0 x.2.1) fC)),apW (.pr (.cj (.bm 2) 0) (.pr (.bA (.bm 3) 0 [] 0 0 x.2.2.1) fC)),apW (.mp bg eO x.2.2.2.1),apW (.vec 256 cD x.2.2.2.2.1),apW (.vec 48 dR x.2.2.2.2.2)],[]⟩ | .inr x=>⟨.d ti x.1,[apW (.pr (eT 0) (.pr (.bA (.new 0 3) 0 [] 0 0 x.2.1) fC)),apW (.pr (.cj (.bm 2) 0) (.pr (.bA (.bm 3) 0 [] 0 0 x.2.2.1) fC)),apW (.mp bg eO x.2.2.2.1),apW (.vec 256 cD x.2.2.2.2.1),apW (.vec 48 dR x.2.2.2.2.2.1)],[apW (.pr (.cj (.new 0 1) 0) (.pr (.bA (.new 0 2) 0 [] 0 0 x.2.2.2.2.2.2.1) fC)),apW (.mp bg eO x.2.2.2.2.2.2.2.1),apW (.vec 256 cD x.2.2.2.2.2.2.2.2.1),apW (.vec 48 dR x.2.2.2.2.2.2.2.2.2)]⟩
def H4:D5->afF->Kq:=λ(depth,l,o0baL,o1baL,o2,o3,o4) y=>match y with | .inl y=> .inl y | .inr y=> .inr y
abbrev aSE:=Nat×Nat×At×List bT×List cZ
def xm(bs:List cZ):Nat->Nat×aCs->Nat×aCs
 | 0,X=>X
 |k+1,X=>xm bs k (X.1 - 1,(ET (nth dR bs (X.1 - 1)).2.2.1.length X.2).2)
def jk:List cZ->aSE->Int×aSE
 |[],S=>(0,S)
 |b::l,S=>if(mm b S.1 (S.2.1,S.2.2.1,S.2.2.2.1) S.2.2.2.2).1≠0 then mm b S.1 (S.2.1,S.2.2.1,S.2.2.2.1) S.2.2.2.2 else jk l (mm b S.1 (S.2.1,S.2.2.1,S.2.2.2.1) S.2.2.2.2).2
def Yn:List cZ->aSE->Prop
 |[],_=>True
 |b::l,S=>S5 (b,S)/\((mm b S.1 (S.2.1,S.2.2.1,S.2.2.2.1) S.2.2.2.2).1=0->Yn l (mm b S.1 (S.2.1,S.2.2.1,S.2.2.2.1) S.2.2.2.2).2)
def ur:uq->Prop:=λ(_,d,i,_,_,_,_,_,nb,n,_,s,bs)=>aqA n s/\aqo nb bs/\∃m k:Nat,d=m/\i=k/\k<=m/\m<=1000/\m<=k+nb
def nE:uq->(Nat×Nat×(List (bC×dP))×(List bT)):=λ(_,d,i,_,_,_,_,_,nb,n,a,s,bs)=>xm bs (d - i).toNat (nb,n,a,s)
def uw:uv->Prop:=λ(l,m,i,_,_,_,_,_,nb,n,a,s,bs)=>l.length<=1000000/\m=(l.length:Int)/\∃k:Nat,k<=l.length/\i=k/\Yn (l.drop k) (nb,n,a,s,bs)
def lz:uv->PO:=λ(l,_,i,_,_,_,_,_,nb,n,a,s,bs)=>if(jk (l.drop i.toNat) (nb,n,a,s,bs)).1≠0 then .inl (jk (l.drop i.toNat) (nb,n,a,s,bs)).1 else .inr (jk (l.drop i.toNat) (nb,n,a,s,bs)).2
def AE(d:Int)(nb n:Nat)(a:At)(s:List bT)(bs:List cZ):aSE:=((xm (bs.take nb) d.toNat (nb,n,ja a,s.take n)).1,(xm (bs.take nb) d.toNat (nb,n,ja a,s.take n)).2.1,(xm (bs.take nb) d.toNat (nb,n,ja a,s.take n)).2.2.1,(xm (bs.take nb) d.toNat (nb,n,ja a,s.take n)).2.2.2,bs.take nb)
def xp:D5->Prop:=λ(d,l,nb,n,a,s,bs)=>aqo nb bs/\DU 400 n a s/\l.length<=1000000/\((1<=d/\d<=nb/\d < l.length/\d<=6)->Yn l (AE d nb n a s bs))
def ju:D5->afF:=λ(d,l,nb,n,a,s,bs)=>if 1<=d/\d<=nb/\d < l.length then if d<=6 then if(jk l (AE d nb n a s bs)).1≠0 then .inl ((jk l (AE d nb n a s bs)).1,nb,n,a,s,bs) else .inr (0,(jk l (AE d nb n a s bs)).2.1,n,a,s,bs,(jk l (AE d nb n a s bs)).2.2) else .inl (25,nb,n,a,s,bs) else .inl (1,nb,n,a,s,bs)
def D6:oR:=jI (P:=Tryz.prog) [Cc,axW,aC6,al7]
def PK:=dz.fv ou ur kq nE H3
def G4:uq->Option Ff:=gM PK ou
def PM:=dz.fv ov uw kr lz AK
def G6:uv->Option Fg:=gM PM ov
def AL:xi:= {loops:=nY [(7,{aV:=[0,2,7,32,33],sites:=[31]}),(13,{aV:=[0,7,63,64,65],sites:=[31],owns:=[⟨7,[.snd,.fst],31,25⟩]})],outs:=nX [(7,{aV:=[0,2,7],sites:=[31]},{aV:=[6]}),(13,{aV:=[0,7],sites:=[31]},{aV:=[6]})],fF:=nK [(7,PK),(13,PM)]}
def afD:= @HM Tryz.prog D6 AL 0 Tryz.f56 _ Np
abbrev arn:=ahy @afD xp H4 ju mX
def PL:= @eC Tryz.prog D6 AL 0 Tryz.f56 0 _ ou
abbrev LB:=kP Tryz.prog D6 AL 0 Tryz.f56 0 ou ur kq nE H3
def PN:= @eC Tryz.prog D6 AL 0 Tryz.f56 1 _ ov
abbrev LD:=kP Tryz.prog D6 AL 0 Tryz.f56 1 ov uw kr lz AK
theorem Y9:jf G4 ur kq nE:=mn (jx [.d (.slice dR),.d ti,.d ti,.n,.n,.d (.slice (.pair bg eO)),.d (.slice cD),.d (.slice dR),.n,.n,.d (.slice (.pair bg eO)),.d (.slice cD),.d (.slice dR)] λ_=>b8)
theorem Lb:aCm @PL ou ur kq nE uu LB:=aOp
theorem G5(vj:(List cZ))(t32:Int)(t33:Int)(o0L:Nat)(o1L:Nat)(eA:(List (bC×dP)))(Li:(List bT))(zJ:(List cZ))(On:Nat)(Oo:Nat)(n31:(List (bC×dP)))(aaX:(List bT))(Mj:(List cZ))(kn:AS->Option R)(kx:Exit->AS->Option R):PL (vj,t32,t33,o0L,o1L,eA,Li,zJ,On,Oo,n31,aaX,Mj) kn kx=aJ ((gr t33 t32)) (aJ (ed (cR .i64 ((On:Nat):Int) (1:Int)) ((On:Nat):Int)) (aJ (decide ((0+(ae (cR .i64 ((On:Nat):Int) (1:Int)))) < (ag Mj))) (aJ (decide ((((0+(ae (cR .i64 ((On:Nat):Int) (1:Int))))*36)+0)=(0+((ae (cR .i64 ((On:Nat):Int) (1:Int)))*36)))) (al (G0.call ((nth dR Mj (0+(ae (cR .i64 ((On:Nat):Int) (1:Int))))),Oo,n31,aaX)) λx1=>aJ (inc (cR .i64 ((On:Nat):Int) (1:Int)) ((On:Nat):Int)) (kn (ou (vj,t32,(bI .i64 t33 (1:Int)),o0L,o1L,eA,Li,zJ,((ae (cR .i64 ((On:Nat):Int) (1:Int))) - 0),x1.2.1,x1.2.2.1,x1.2.2.2,Mj))) none) none) none) none) (kx (uu ((vj,o0L,o1L,eA,Li,zJ,Mj),(On,Oo,n31,aaX))).1 (uu ((vj,o0L,o1L,eA,Li,zJ,Mj),(On,Oo,n31,aaX))).2):=b8
theorem Za:jf G6 uw kr lz:=mn (jx [.d (.slice dR),.d ti,.d ti,.n,.n,.d (.slice (.pair bg eO)),.d (.slice cD),.d (.slice dR),.n,.n,.d (.slice (.pair bg eO)),.d (.slice cD),.d (.slice dR)] λ_=>b8)
theorem Lc:nq @PN ov uw kr lz AK LD:=oa
theorem xX(t63:(List cZ))(t64:Int)(t65:Int)(ij:Nat)(uU:Nat)(kf:(List (bC×dP)))(Gc:(List bT))(abh:(List cZ))(Oq:Nat)(Ot:Nat)(aaY:(List (bC×dP)))(aaZ:(List bT))(aa0:(List cZ))(kn:AS->Option R)(kx:Exit->AS->Option R):PN (t63,t64,t65,ij,uU,kf,Gc,abh,Oq,Ot,aaY,aaZ,aa0) kn kx=aJ ((gr t65 t64)) (aJ (ed t65 (((ag t63):Nat):Int)) (al (G2.call ((nth dR t63 (ae t65)),Oq,Ot,aaY,aaZ,aa0)) λx1=>aJ ((A7 x1.1 (0:Int))) (kx (uz ((ij,uU,kf,Gc,abh),x1.1)).1 (uz ((ij,uU,kf,Gc,abh),x1.1)).2) (kn (ov (t63,t64,(bI .i64 t65 (1:Int)),ij,uU,kf,Gc,abh,x1.2.1,x1.2.2.1,x1.2.2.2.1,x1.2.2.2.2.1,x1.2.2.2.2.2)))) none) (kx (uA ((ij,uU,kf,Gc,abh),(Oq,Ot,aaY,aaZ,aa0))).1 (uA ((ij,uU,kf,Gc,abh),(Oq,Ot,aaY,aaZ,aa0))).2):=b8
theorem aro(depth:Int)(l:(List cZ))(o0baL:Nat)(o1baL:Nat)(o2:(List (bC×dP)))(o3:(List bT))(o4:(List cZ))(k:fK->Option R):afD (depth,l,o0baL,o1baL,o2,o3,o4) k=aJ ((gr depth (1:Int))) (k (mX (.inl ((1:Int),o0baL,o1baL,o2,o3,o4)))) (al (pb.call (o0baL,o1baL,o2,o3,o4)) λx1=>aJ ((qZ depth x1.2)) (k (mX (.inl ((1:Int),x1.1.1,x1.1.2.1,x1.1.2.2.1,x1.1.2.2.2.1,x1.1.2.2.2.2)))) (aJ (ai7 (((ag l):Nat):Int) depth) (k (mX (.inl ((1:Int),x1.1.1,x1.1.2.1,x1.1.2.2.1,x1.1.2.2.2.1,x1.1.2.2.2.2)))) (aJ (qZ depth (6:Int)) (k (mX (.inl ((25:Int),x1.1.1,x1.1.2.1,x1.1.2.2.1,x1.1.2.2.2.1,x1.1.2.2.2.2)))) (al (Nl.call (x1.1.1,x1.1.2.1,x1.1.2.2.1,x1.1.2.2.2.1,x1.1.2.2.2.2)) λx2=>al (G4 (l,depth,(0:Int),x2.1,x2.2.1,x2.2.2.1,x2.2.2.2.1,x2.2.2.2.2.1,x2.2.2.2.2.2.1,x2.2.2.2.2.2.2.1,x2.2.2.2.2.2.2.2.1,x2.2.2.2.2.2.2.2.2.1,x2.2.2.2.2.2.2.2.2.2)) λx4=>al (G6 (x4.1.1,(((ag x4.1.1):Nat):Int),(0:Int),x4.1.2.1,x4.1.2.2.1,x4.1.2.2.2.1,x4.1.2.2.2.2.1,x4.1.2.2.2.2.2.1,x4.2.1,x4.2.2.1,x4.2.2.2.1,x4.2.2.2.2,x4.1.2.2.2.2.2.2)) λx7=>aJ x7.isLeft (al x7.getLeft? λa8=>k (mX (.inl (a8.2,a8.1.1,a8.1.2.1,a8.1.2.2.1,a8.1.2.2.2.1,a8.1.2.2.2.2)))) (al x7.getRight? λb9=>k (mX (.inr ((0:Int),b9.2.1,b9.1.2.1,b9.1.2.2.1,b9.1.2.2.2.1,b9.1.2.2.2.2,b9.2.2.1,b9.2.2.2.1,b9.2.2.2.2.1,b9.2.2.2.2.2)))))))):=b8
theorem adS:LB:=by
 refine Lb (λ(_,d,i,_)=>(d - i).toNat) ?_
 rintro⟨l,d,i,nb0,n0,a0,s0,bs0,nb,n,a,s,bs⟩ ⟨hg,⟨h1,h2,h3⟩,m,k,rfl,rfl,hk,hm,hn⟩;have hg:aqA n s:=hg;have h1:nb<=bs.length:=h1;have h2:nb<=1000000:=h2;have hk:k<=m:=hk;have hm:m<=1000:=hm;have hn:m<=k+nb:=hn;by_cases gQ:k < m
 ·left;obtain⟨j,hj⟩:∃j,m=k+1+j:=⟨m - (k+1),ak⟩;obtain⟨p,rfl⟩:∃p,nb=p+1:=⟨nb - 1,ak⟩;have e1:((m:Int) - (k:Int)).toNat=j+1:=ak;have e2:((m:Int) - ((k+1:Nat):Int)).toNat=j:=ak;have e3:cR .i64 (((p+1:Nat):Nat):Int) (1:Int)=(p:Int):=by rw[eL ak ak];omega
  have hp:p < bs.length:=ak;have n1:nth dR bs p=bs[p]:=cd (t:=dR) hp;have hu:=axv (d:=(bs[p],n,a,s)) ⟨(h3 _ (aN hp)).1.1,hg⟩;refine⟨(l,(m:Int),((k+1:Nat):Int),nb0,n0,a0,s0,bs0,p,(ET bs[p].2.2.1.length (n,a,s)).2.1,(ET bs[p].2.2.1.length (n,a,s)).2.2.1,(ET bs[p].2.2.1.length (n,a,s)).2.2.2,bs),⟨aIR _ (n,a,s) hg,⟨ak,ak,h3⟩,m,k+1,rfl,rfl,ak,hm,ak⟩,by simp only[e1,e2];omega,?_,λkn kx=> ?_⟩
  ·simp only[kq,nE,e1,e2,xm,iX,n1]
  ·rw[G5,aU ak,aj,e3,bj ak ak,aj];simp only[aa,aO,cq,aM hp,aj,cv,n1,Nat.sub_zero];rw[hu];simp only[ah,bu,ahO];rw[uL ak ak,aj,N.mD ak]
 ·right;obtain rfl:k=m:=ak;intro R kn kx;have e1:((k:Int) - (k:Int)).toNat=0:=ak;rw[G5,aQ ak,ao];simp only[kq,nE,e1,xm]
theorem adT:LD:=by
 refine Lc (λ(l,_,i,_)=>l.length - i.toNat) ?_
 rintro⟨l,m,i,nb0,n0,a0,s0,bs0,nb,n,a,s,bs⟩ ⟨hl,rfl,k,hk,rfl,hg⟩;have hl:l.length<=1000000:=hl;have hk:k<=l.length:=hk;by_cases gQ:k < l.length
 ·have n1:nth dR l k=l[k]:=cd (t:=dR) gQ;have hd:l.drop k=l[k]::l.drop (k+1):=aq gQ;have hg:Yn (l.drop k) (nb,n,a,s,bs):=hg;rw[hd]at hg;obtain⟨g1,g2⟩:=hg;have hw:=afA (d:=(l[k],nb,n,a,s,bs)) g1;obtain⟨r,hr⟩:∃r,mm l[k] nb (n,a,s) bs=r:=⟨_,rfl⟩;simp only[bu,ah0,hr]at hw g2;by_cases he:r.1=0
  ·left;refine⟨(l,(l.length:Int),((k+1:Nat):Int),nb0,n0,a0,s0,bs0,r.2.1,r.2.2.1,r.2.2.2.1,r.2.2.2.2.1,r.2.2.2.2.2),⟨hl,rfl,k+1,ak,rfl,g2 he⟩,by simp only[aa];omega,?_,λkn kx=> ?_⟩
   ·simp only[kr,lz,aa,hd];rw[show jk (l[k]::l.drop (k+1)) (nb,n,a,s,bs)=jk (l.drop (k+1)) r.2 by rw[jk];simp only[hr];rw[if_neg (λe=>e he)]]
   ·rw[xX,aU ak,aj,bj ak ak,aj,aa,n1,hw];simp only[ah];rw[dB he,ao,N.mD ak]
  ·right;refine⟨uz ((nb0,n0,a0,s0,bs0),r.1),?_,λkn kx=> ?_⟩;rotate_left
   ·rw[xX,aU ak,aj,bj ak ak,aj,aa,n1,hw];simp only[ah];rw[fo he,aj]
   ·simp only[kr,lz,aa,hd];rw[show jk (l[k]::l.drop (k+1)) (nb,n,a,s,bs)=r by rw[jk];simp only[hr];rw[if_pos he],if_pos he];rfl
 ·right;obtain rfl:k=l.length:=ak;refine⟨uA ((nb0,n0,a0,s0,bs0),(nb,n,a,s,bs)),?_,λkn kx=> ?_⟩;rotate_left
  ·rw[xX,aQ ak,ao]
  ·simp only[kr,lz,aa,aL,jk];rw[if_neg (λe=>e rfl)];rfl
theorem arp:arn:=by
 rintro⟨d,l,nb,n,a,s,bs⟩ ⟨hc,hg,hl,hA⟩;have hg:DU 400 n a s:=hg;have hl:l.length<=1000000:=hl;obtain⟨h1,h2,h3⟩:=id hc;have h1:nb<=bs.length:=h1;have h2:nb<=1000000:=h2;have ch:=Fc (d:=(nb,n,a,s,bs)) trivial;rw[aro];by_cases a1:1<=d;rotate_left
 ·rw[aU ak,aj];simp only[ju];rw[if_neg (λe:1<=d/\d<=(nb:Int)/\d < (l.length:Int)=>a1 e.1)];rfl
 rw[aQ ak,ao,ch];simp only[ah,Fb,No];by_cases a2:d<=nb;rotate_left
 ·rw[cP ak,aj];simp only[ju];rw[if_neg (λe:1<=d/\d<=(nb:Int)/\d < (l.length:Int)=>a2 e.2.1)];rfl
 rw[cr ak,ao];by_cases a3:d < l.length;rotate_left
 ·rw[og ak,aj];simp only[ju];rw[if_neg (λe:1<=d/\d<=(nb:Int)/\d < (l.length:Int)=>a3 e.2.2)];rfl
 rw[ke ak,ao];by_cases a4:d<=6;rotate_left
 ·rw[cP ak,aj];simp only[ju];rw[if_pos ⟨a1,a2,a3⟩,if_neg a4];rfl
 have hA:=hA ⟨a1,a2,a3,a4⟩;obtain⟨aQw,_⟩:=hg.canon;have e0:(d - 0).toNat=d.toNat:=ak;have z1:((0:Int)).toNat=0:=rfl;rw[cr ak,ao,ark (d:=(nb,n,a,s,bs)) ⟨hg.mono (by decide),hc⟩];simp only[ah,Y6,ama];rw[Y9 (d:=(l,d,0,nb,n,a,s,bs,nb,n,ja a,s.take n,bs.take nb)) ⟨⟨aQw.le,by have:=aQw.len;omega,aQw.aIn⟩,⟨by rw[bp];omega,h2,λb hb=>h3 b (fj hb)⟩,d.toNat,0,ak,rfl,aK _,ak,ak⟩];simp only[ah,kq,nE,e0];obtain⟨B,hB⟩:∃B,xm (bs.take nb) d.toNat (nb,n,ja a,s.take n)=B:=⟨_,rfl⟩;have eB:AE d nb n a s bs=(B.1,B.2.1,B.2.2.1,B.2.2.2,bs.take nb):=by unfold AE;rw[hB]
 rw[eB]at hA;rw[hB,Za (d:=(l,(l.length:Int),0,nb,n,a,s,bs,B.1,B.2.1,B.2.2.1,B.2.2.2,bs.take nb)) ⟨hl,rfl,0,aK _,rfl,hA⟩]
 have key:ju (d,l,nb,n,a,s,bs)=if(jk l (B.1,B.2.1,B.2.2.1,B.2.2.2,bs.take nb)).1≠0 then .inl ((jk l (B.1,B.2.1,B.2.2.1,B.2.2.2,bs.take nb)).1,nb,n,a,s,bs)
   else .inr (0,(jk l (B.1,B.2.1,B.2.2.1,B.2.2.2,bs.take nb)).2.1,n,a,s,bs,(jk l (B.1,B.2.1,B.2.2.1,B.2.2.2,bs.take nb)).2.2):=by
  simp only[ju];rw[if_pos ⟨a1,a2,a3⟩,if_pos a4,eB]
 rw[key];simp only[ah,lz,z1,aD];by_cases he:(jk l (B.1,B.2.1,B.2.2.1,B.2.2.2,bs.take nb)).1=0
 ·rw[if_neg (λe=>e he),if_neg (λe=>e he)];rfl
 ·rw[if_pos he,if_pos he];rfl
def afE:=Entry.aee [none,some ti,some (.slice dR)] Np xp H4 ju mX
def lA:D5->Option Kq:=Lz afE Np
theorem Vc:jf lA xp H4 ju:=acr (Xd [.d ti,.d (.slice dR),.n,.n,.d (.slice (.pair bg eO)),.d (.slice cD),.d (.slice dR)] λ_=>b8)
def arq:SG Tryz.prog:=⟨56,mr,afE,.of (.aNX (.fn 2 b8 arp (And.intro (.fv adS b8) (And.intro (.fv adT b8) trivial)))) (by rfl)⟩
def adI:List Int:=ab 32 0
def LW(K af dl:Int):Lk:=([([gq K],(af,(dl,(0,()))))],())
def AW(K af dl:Int):At:=[G7 0 ((100:Int),(LW K af dl,()))]
def TW(K:Int):dw:=([((adI,((0:Int),())),(((0:Int),(([]:List Sg),((0:Int),()))),()))],([((90:Int),(LW K 0 0,()))],((0:Int),())))
def UW(K:Int):dw:=XH (TW K) (ae 0) (aeK (TW K) 0 [K] 0)
def BW(K h:Int):At:=[((iC (TW K),((0:Int),())),(((90:Int),(LW K 0 0,())),(h,())))]
def KW(K:Int):Prop:=0 < K/\K < 2305843009213688669
theorem aS1(K:Int){af dl:Int}(ha:0<=af/\af<=1048576)(hd:0<=dl/\dl<=1048576):kS (LW K af dl)=true:=by have e:kS (LW K af dl)=((vh ([gq K],af,dl,0,()) && true) && true):=rfl;rw[e,aKa _ _ _ (dI rfl)];simp only[ff,List.all_nil,aaj,NY,aM ha,aM hd,wi]
theorem aUu(K af dl:Int):adK (LW K af dl):=λb hb=>by rw[bk.1 (show b∈ [([gq K],(af,(dl,(0,()))))] from hb)];exact⟨asn (au6 K) ay9,u0⟩
theorem aJs:Sm adI:=⟨cg,λx hx=>by rw[(nr.1 (show x∈ab 32 (0:Int) from hx)).2];exact⟨by decide,by decide⟩⟩
theorem aPG(K:Int):hJ (TW K)=true:=by
 have e2:xZ 0 (TW K).2.1=(((sU 0 && (sU 90 && true)) && kS (LW K 0 0)) && true):=rfl;have e1:Ei [] (TW K).1=true:=by show Ei [] [((adI,((0:Int),())),(((0:Int),(([]:List Sg),((0:Int),()))),()))]=true;rw[Ei,Ei];rfl
 unfold hJ;rw[e1,e2,aS1 K ⟨by decide,by decide⟩ ⟨by decide,by decide⟩];rfl
theorem aV2(K:Int):nU (TW K):=by
 refine⟨⟨λo ho=> ?_,by show 1<=_;decide,by show 1<=_;decide⟩,λx hx=> ?_,by show(0:Int)<=_;decide⟩
 ·rw[bk.1 (show o∈ [((90:Int),(LW K 0 0,()))] from ho)];exact⟨aUu K 0 0,by show 1<=_;decide⟩
 ·rw[bk.1 (show x∈ [((adI,((0:Int),())),(((0:Int),(([]:List Sg),((0:Int),()))),()))] from hx)];exact⟨aJs,⟨λs hs=>(by cases hs),u0⟩,aK _⟩
theorem aSp{K:Int}(hk:KW K):Gy (TW K) 0 0 [K]=true:=by unfold Gy;rw[aPG,aM ⟨by decide,by show(0:Int) < ((1:Nat):Int);decide,by decide,by decide,dI rfl⟩];simp only[ru,List.any_nil,Nb];have:=hk.1;have:=hk.2;rw[aS ak];rfl
theorem AB{K:Int}(hk:KW K):hJ (UW K)=true/\nU (UW K)/\iC (UW K)=iC (TW K)/\dM (UW K)=dM (TW K)/\gX (UW K)=gX (TW K):=aH6 (aV2 K) (aSp hk) u0
theorem aS8{K:Int}(hk:KW K):dM (UW K)=[(adI,((0:Int),()))]:=by rw[(AB hk).2.2.2.1];unfold dM;rw[if_pos (aPG K)];rfl
theorem aUv{K:Int}(hk:KW K):gX (UW K)=[(iC (TW K),((0:Int),()))]:=by rw[(AB hk).2.2.2.2];unfold gX;rw[if_pos (aPG K)];rfl
theorem aW8(K:Int):(UW K).1=[((adI,((0:Int),())),(((((0:Nat):Int),([K].map (λk=>mN k (iC (TW K))),((0:Int),())))),()))]:=rfl
theorem aUC{K:Int}(hk:KW K)(af dl:Int)(ha:0<=af/\af<=1048576)(hd:0<=dl/\dl<=1048576)(m:List Int)(h a:Int):
  yx (LW K af dl) (((0:Nat):Int),([K].map (λk=>mN k m),((0:Int),()))) m h a=if h < af\/a < dl then 11 else 0:=
 (aL4 (l:=LW K af dl) (i:=0) (b:=([K].map gq,af,dl,0,())) (aS1 K ha hd) (by show 0 < 1;decide) rfl _ _ _ _ _).trans (ajF [K] (aSf hk) af dl 0 0 m h a (.inl rfl))
theorem gW(K af dl:Int):bN bg (adI,((0:Int),())) (AW K af dl)=some (((100:Int),(LW K af dl,())),((0:Int),())):=by unfold AW G7;rw[fx];exact if_pos ((sS _ _).2 rfl)
theorem nW(K af dl:Int)(m:List Int)(hm:¬m=adI):bN bg (m,((0:Int),())) (AW K af dl)=none:=by unfold AW G7;rw[fx,if_neg,qB];intro e;have:=(sS _ _).1 e;exact hm (bo (λo:bC=>o.1) this)
theorem aR7{h:Int}{m:List Int}{a:At}{x:gK}{c:dP}(hg:bN bg x.1 a=some c):xw h m a [x] 0=if yx c.1.2.1 x.2.1 m h (h - c.2.1)≠0 then .inl (yx c.1.2.1 x.2.1 m h (h - c.2.1)) else .inr (0+c.1.1):=by simp only[xw,hg]
theorem aWb{K:Int}(hk:KW K)(gF:¬iC (TW K)=adI){af dl h:Int}(ha:0<=af/\af<=1048576)(hd:0<=dl/\dl<=1048576)(h1:1<=h)(h2:h<=1048576):eK (UW K) h (AW K af dl)=if h < af\/h < dl then(0,11) else(10,0):=by
 have aVE:=aUv hk;have agb:=aW8 K;have cY:=(AB hk).2.2.1;have dm:=aUC hk af dl ha hd;generalize iC (TW K)=m at gF aVE agb cY;unfold eK;rw[if_pos ⟨(AB hk).1,h1,h2⟩,agb,cY];have e0:h - ((0:Int))=h:=ak;have e:xw h m (AW K af dl) [((adI,((0:Int),())),(((((0:Nat):Int),([K].map (λk=>mN k m),((0:Int),())))),()))] 0=if h < af\/h < dl then .inl 11 else .inr 100:=by
  refine(aR7 (gW K af dl)).trans ?_
  show(if yx (LW K af dl) (((0:Nat):Int),([K].map (λk=>mN k m),((0:Int),()))) m h (h - 0)≠0 then(.inl (yx (LW K af dl) (((0:Nat):Int),([K].map (λk=>mN k m),((0:Int),()))) m h (h - 0)):Int⊕Int) else .inr (0+100))=_;rw[e0,dm];by_cases hh:h < af\/h < dl
  ·rw[if_pos hh,if_pos hh,if_pos (by decide)]
  ·rw[if_neg hh,if_neg hh,if_neg (λe=>e rfl)];rfl
 rw[e,aVE];by_cases hh:h < af\/h < dl
 ·rw[if_pos hh,if_pos hh]
 ·rw[if_neg hh,if_neg hh];have n1:([(m,((0:Int),()))]:List bC).any (qu (AW K af dl))=false:=by simp only[ru,List.any_nil,qu,nW K af dl m gF,Option.isSome_none,Bool.or_false]
  simp only[n1,bn,bt];rfl
theorem aV8{K:Int}(hk:KW K)(af dl h:Int):fw (UW K) h (AW K af dl)=BW K h:=by
 unfold fw BW;rw[aS8 hk,aUv hk];generalize iC (TW K)=m;have e:zd [(adI,((0:Int),()))] (AW K af dl)=[]:=by exact amO
 rw[e];rfl
theorem aVZ{K:Int}(hk:KW K)(af dl:Int):stepOf (UW K) (AW K af dl)=([((adI,((0:Int),())),((((100:Int),(LW K af dl,())),((0:Int),())),()))],([(iC (TW K),((0:Int),()))],())):=by unfold stepOf;rw[aS8 hk,aUv hk];rw[ayJ (gW K af dl)]
theorem aXn{K:Int}(hk:KW K)(af dl h:Int):xP (BW K h) (stepOf (UW K) (AW K af dl))=AW K af dl:=by
 rw[aVZ hk];unfold xP BW;generalize iC (TW K)=m;have e:zd [(m,((0:Int),()))] [((m,((0:Int),())),(((90:Int),(LW K 0 0,())),(h,())))]=[]:=by exact amO
 rw[e];rfl
theorem aVi(K:Int){af dl:Int}(ha:0<=af/\af<=1048576)(hd:0<=dl/\dl<=1048576):DU 0 0 (AW K af dl) []:=by refine⟨⟨cV.2 ⟨λh=>(by cases h),fW⟩,λp hp=> ?_⟩,ax _,ax _,λst h=>(by cases h),by show(100+0:Int)<=_;decide,by show 1<=_;decide⟩;rw[bk.1 (show p∈ [G7 0 ((100:Int),(LW K af dl,()))] from hp)];exact⟨aJs,aS1 K ha hd,aUu K af dl,by show(0:Int)<=100;decide,by show(100:Int)<=_;decide,iD 0,by show(0:Int)<=_;decide⟩
theorem aUy(K:Int){af dl:Int}(ha:0<=af/\af<=1048576)(hd:0<=dl/\dl<=1048576):Fe [((100:Int),(LW K af dl,()))]=some (.inr (AW K af dl,[],[])):=by
 have e:ajz [((100:Int),(LW K af dl,()))]=some (AW K af dl):=by
  unfold ajz;rw[if_pos (dI rfl)];have e0:Ge 0 ((100:Int),(LW K af dl,()))=true:=by unfold Ge;rw[aS1 K ha hd];rfl
  rw[Xh,e0];rfl
 rw[afC (d:=[((100:Int),(LW K af dl,()))]) (λo ho=>by
  rw[bk.1 ho];exact⟨aUu K af dl,by show 1<=_;decide,by show(100:Int)<=_;decide⟩)]
 simp only[Ko,e];rfl
theorem aSo{K:Int}(hk:KW K):vz.call (TW K,0,0,[K],0)=some (UW K,0):=by rw[aBM (d:=(TW K,0,0,[K],0)) ⟨aV2 K,λx hx=>by rw[bk.1 hx];have:=hk.1;have:=hk.2;exact⟨ak,ak⟩,by show 1<=1000000000;decide⟩];simp only[bu,akO,aH5,aSp hk,bG];rfl
def Ap(h:Int)(p:Bs)(l:List dw)(fill:Int):cZ:=(h,(p,(l,(fill,([],())))))
theorem ahL{h:Int}{p:Bs}{l:List dw}{fill:Int}(hh:h<=1048576)(hp:p.length=32)(hf:0<=fill/\fill<=10)(hl:l.length<=1)(hv:∀t∈l,nU t/\hJ t=true):W5 (Ap h p l fill)/\aon (Ap h p l fill)=Ap h p l fill:=by have hb:auX (Ap h p l fill):=⟨⟨by show l.length<=_;omega,λt ht=>(hv t ht).1⟩,⟨by show h<=_;omega,hp,by show fill<=_;omega⟩,aK _,λo ho=>(by cases ho)⟩;exact⟨⟨hb,by show l.length<=_;omega,λt ht=>iw (jM (hv t ht).2).1.2.1 (by decide)⟩,ajK hb λt ht=>(hv t ht).2⟩
theorem aQ3{x:bC×dP}:ja [x]=[x]:=List.perm_singleton.1 (xo [x])
theorem aXr{K:Int}(hk:KW K):GP (UW K)=36:=by unfold GP;rw[if_pos (AB hk).1];rfl
theorem aTn(h:Int)(p:Bs)(l:List dw)(fill:Int)(t:dw):axa (Ap h p l fill) t=false:=by unfold axa;rw[js];intro x _ e;cases e
theorem aSg{h:Int}{p:Bs}{fill:Int}{a:At}(h1:1<=h)(h2:h<=1048576)(hf:0<=fill/\fill<=10):tK (Ap h p [] fill) a=(0,0):=by
 have f1:Il h fill=true:=by unfold Il;exact aM ⟨h1,h2,ak,ak⟩
 have w1:aQr (Ap h p [] fill)=fill:=rfl;unfold tK;rw[if_pos (show Il (Ap h p [] fill).1 (Ap h p [] fill).2.2.2.1=true from f1),w1,if_neg ak];rfl
theorem aSh{K:Int}(hk:KW K){h:Int}{p:Bs}{fill:Int}{x:bC×dP}(h1:1<=h)(h2:h<=1048576)(hf:0<=fill/\fill<=10):tK (Ap h p [UW K] fill) [x]=eK (UW K) h [x]:=by
 have f1:Il h fill=true:=by unfold Il;exact aM ⟨h1,h2,ak,ak⟩
 have w1:aQr (Ap h p [UW K] fill)=fill+GP (UW K):=rfl;unfold tK;rw[if_pos (show Il (Ap h p [UW K] fill).1 (Ap h p [UW K] fill).2.2.2.1=true from f1),w1,aXr hk,if_neg ak];show(Si (Ap h p [UW K] fill) h [UW K] [x]).2=_;unfold Si;rw[aQ3,BN,aTn];simp only[bn,bt];by_cases hc:(eK (UW K) h [x]).2=0
 ·rw[if_neg (λe=>e hc),BN];exact Prod.ext (by show(0:Int)+_=_;omega) hc.symm
 ·rw[if_pos hc];exact Prod.ext (arl hc).symm rfl
theorem aJI{h:Int}{p:Bs}{fill:Int}{nb:Nat}{S:aCs}{bs:List cZ}(hp:p=rS nb bs)(hh:h=(nb:Int)+1)(h2:h<=1048576)(hl:p.length=32)(hf:0<=fill/\fill<=10):mm (Ap h p [] fill) nb S bs=(0,nb+1,S.1,S.2.1,S.2.2,bs.take nb++ [Ap h p [] fill]):=by have e:=(ahL (l:=[]) h2 hl hf (by decide) (λt ht=>(by cases ht))).2;unfold mm;rw[if_pos (show(Ap h p [] fill).2.1=rS nb bs/\(Ap h p [] fill).1=(nb:Int)+1 from⟨hp,hh⟩),aSg ak h2 hf,if_pos rfl,e];rfl
theorem aTh{K:Int}(hk:KW K){h:Int}{p:Bs}{fill:Int}{nb n:Nat}{x:bC×dP}{s:List bT}{bs:List cZ}(hp:p=rS nb bs)(hh:h=(nb:Int)+1)(h2:h<=1048576)(hl:p.length=32)(hf:0<=fill/\fill<=10):mm (Ap h p [UW K] fill) nb (n,[x],s) bs=
  if(eK (UW K) h [x]).2=0 then(0,nb+1,n+1,fw (UW K) h [x],s.take n++ [stepOf (UW K) [x]],bs.take nb++ [Ap h p [UW K] fill]) else((eK (UW K) h [x]).2,nb,n,[x],s,bs):=by
 have e:=(ahL (l:=[UW K]) h2 hl hf (by show 1<=1;decide) (λt ht=>by rw[bk.1 ht];exact⟨(AB hk).2.1,(AB hk).1⟩)).2;unfold mm;rw[if_pos (show(Ap h p [UW K] fill).2.1=rS nb bs/\(Ap h p [UW K] fill).1=(nb:Int)+1 from⟨hp,hh⟩),aSh hk ak h2 hf,e];by_cases hc:(eK (UW K) h [x]).2=0
 ·rw[if_pos hc,if_pos hc];have eb:axA (Ap h p [UW K] fill) (n,[x],s)=aly h (n,[x],s) (UW K):=rfl;rw[eb];unfold aly;rw[if_neg (λe=>e hc)]
 ·rw[if_neg hc,if_neg hc]
theorem aKl{n nb:Nat}{a:At}{s:List bT}{bs:List cZ}(h:aqo nb bs):LH.call (nb,n,a,s,bs)=some ((nb,n,a,s,bs),rS nb bs):=afI (d:=(nb,n,a,s,bs)) h
theorem Y7{n nb:Nat}{a:At}{s:List bT}{bs:List cZ}:pb.call (nb,n,a,s,bs)=some ((nb,n,a,s,bs),(nb:Int)):=Fc (d:=(nb,n,a,s,bs)) trivial
theorem B8(b:cZ):(aqV b).length=32:=(akp _ _).1
theorem BG(nb:Nat)(bs:List cZ):(rS nb bs).length=32:=by
 unfold rS;split
 ·exact cg
 ·exact B8 _
theorem aKg{nb:Nat}{bs:List cZ}{b:cZ}(h:aqo nb bs)(hn:nb<=1000)(hb:auX b):aqo (nb+1) (bs.take nb++ [b]):=by
 have h1:nb<=bs.length:=h.1;refine⟨by rw[ai,bp];show nb+1<=min nb bs.length+1;omega,ak,λx hx=> ?_⟩;rcases bz.1 hx with hx | hx
 ·exact h.2.2 x (fj hx)
 ·rw[bk.1 hx];exact hb
theorem aV0{K:Int}(hk:KW K){h:Int}{p:Bs}{fill:Int}(hh:h<=1048576)(hp:p.length=32)(hf:0<=fill/\fill<=10):W5 (Ap h p [UW K] fill):=(ahL hh hp hf (by show 1<=1;decide) (λt ht=>by rw[bk.1 ht];exact⟨(AB hk).2.1,(AB hk).1⟩)).1
theorem aTs{h:Int}{p:Bs}{fill:Int}(hh:h<=1048576)(hp:p.length=32)(hf:0<=fill/\fill<=10):W5 (Ap h p [] fill):=(ahL hh hp hf (by decide) (λt ht=>(by cases ht))).1
theorem aXj{K:Int}(hk:KW K)(af dl:Int):ahB (stepOf (UW K) (AW K af dl)):=by rw[aVZ hk];exact⟨by show 1<=_;decide,by show 1<=_;decide⟩
theorem aW9:¬iC (TW 7)=adI:=aUx
theorem aNn:(0:Int)<=0/\(0:Int)<=1048576:=⟨by decide,by decide⟩
theorem aJw:(0:Int)<=0/\(0:Int)<=10:=⟨by decide,by decide⟩
def sW(K:Int):bT:=stepOf (UW K) (AW K 0 0)
theorem aTp{b c:cZ}(hb:auX b)(hc:auX c):aqo 2 [b,c]:=⟨ax _,by decide,λx hx=>by
 rcases bY.1 hx with rfl | hx
 ·exact hb
 ·rw[bk.1 hx];exact hc⟩
theorem aWa{K:Int}(hk:KW K)(gF:¬iC (TW K)=adI)(h:Int)(h1:1<=h)(h2:h<=1048576):eK (UW K) h (AW K 0 0)=(10,0):=by rw[aWb hk gF aNn aNn h1 h2,if_neg ak]
theorem aVh{K:Int}(hk:KW K)(gF:¬iC (TW K)=adI){h:Int}{p:Bs}{nb n:Nat}{s:List bT}{bs:List cZ}(hp:p=rS nb bs)(hh:h=(nb:Int)+1)(h2:h<=1048576)(hl:p.length=32):mm (Ap h p [UW K] 0) nb (n,AW K 0 0,s) bs=(0,nb+1,n+1,BW K h,s.take n++ [sW K],bs.take nb++ [Ap h p [UW K] 0]):=by have e:=aTh hk (h:=h) (p:=p) (fill:=0) (nb:=nb) (n:=n) (x:=G7 0 ((100:Int),(LW K 0 0,()))) (s:=s) (bs:=bs) hp hh h2 hl aJw;rw[show([G7 0 ((100:Int),(LW K 0 0,()))]:At)=AW K 0 0 from rfl,aWa hk gF h ak h2,if_pos rfl,aV8 hk]at e;exact e
theorem aXg{K:Int}(hk:KW K):DU 400 0 (AW K 0 0) [sW K]:=by have h:=aVi K aNn aNn;exact⟨h.C7,aK _,by show 1<=_;decide,λst mG=>by rw[bk.1 mG];exact aXj hk 0 0,h.sum,by show 1<=_;decide⟩
def tm(a a':At):Prop:=∀o,bN bg o a=bN bg o a'
theorem tm.refl(a:At):tm a a:=λ_=>rfl
theorem tm.symm{a b:At}(h:tm a b):tm b a:=λo=>(h o).symm
theorem tm.trans{a b c:At}(h:tm a b)(h':tm b c):tm a c:=λo=>(h o).trans (h' o)
theorem tm.perm{a b:At}(h:tm a b)(ha:(eD a).Nodup)(hb:(eD b).Nodup):a.Perm b:=aNl ha hb h
theorem aEH{a b:At}(hb:(eD b).Nodup)(h:a.Perm b):tm a b:=λo=>aGV hb h o
theorem tm.del{a b:At}(h:tm a b)(ha:(eD a).Nodup)(hb:(eD b).Nodup)(l:List bC):tm (zd l a) (zd l b):=λo=>by
 rw[ZX o l ha,ZX o l hb,h o]
theorem KQ(e:XL)(l:List XL)(a:At):abz (e::l) a=abz l (eG bg e.1 e.2.1 a):=rfl
theorem tm.set{a b:At}(h:tm a b)(o:bC)(c:dP):tm (eG bg o c a) (eG bg o c b):=λx=>by rw[ayM,ayM,h x]
theorem tm.put:∀(l:List XL) {a b:At},tm a b->tm (abz l a) (abz l b)
 |[],_,_,h=>h
 |e::l,a,b,h=>by rw[KQ,KQ];exact tm.put l (h.set _ _)
theorem abA:∀(l:List XL) {a:At},(eD a).Nodup->(eD (abz l a)).Nodup
 |[],_,h=>h
 |e::l,a,h=>by rw[KQ];exact abA l (NW h)
theorem aqb{a:At}(h:(eD a).Nodup)(st:bT):(eD (xP a st)).Nodup:=abA _ (Fy _ h)
theorem tm.aSx{a b:At}(h:tm a b)(ha:(eD a).Nodup)(hb:(eD b).Nodup)(st:bT):tm (xP a st) (xP b st):=tm.put _ (h.del ha hb _)
theorem tm.add(h:Int):∀(l:List bC) (xs:List gm) {a b:At},tm a b->tm (Na h l xs a) (Na h l xs b)
 |[],[],_,_,e=>e
 |[],_::_,_,_,e=>e
 |_::_,[],_,_,e=>e
 |o::l,x::xs,a,b,e=>by rw[Ao,Ao];exact tm.add h l xs (e.set _ _)
theorem tm.apply{a b:At}(e:tm a b)(ha:(eD a).Nodup)(hb:(eD b).Nodup)(t:dw)(h:Int):tm (fw t h a) (fw t h b):=tm.add h _ _ (e.del ha hb _)
theorem tm.ins{a b:At}(e:tm a b)(h:Int)(id:List Int):∀(l:List gK) (f:Int),xw h id a l f=xw h id b l f
 |[],_=>rfl
 |x::l,f=>by
  simp only[xw,e x.1];cases bN bg x.1 b with
  |none=>rfl
  |some c=>simp only[tm.ins e h id l]
theorem tm.check{a b:At}(e:tm a b)(t:dw)(h:Int):eK t h a=eK t h b:=by
 have e2:qu a=qu b:=funext λo=>by unfold qu;rw[e o]
 unfold eK;rw[e.ins,e2]
theorem aNm(x:bC):∀(l:List bC) {a:At} (b:At),(eD a).Nodup->l.Nodup->(∀o∈l,(bN bg o a).isSome=true)->bN bg x (abz (vp a l) b)=if x∈l then bN bg x a else bN bg x b
 |[],a,b,_,_,_=>by rw[if_neg (by simp)];rfl
 |o::l,a,b,hn,hl,ht=>by
  rw[cV]at hl;obtain⟨c,hc⟩:=bO.1 (ht o aI);have ht':∀y∈l,(bN bg y (gY bg o a)).isSome=true:=λy hy=>by rw[am9 y o hn,if_neg (λe=>hl.1 (by rw[<-e];exact hy))];exact ht y (aG _ hy)
  rw[vp,KQ,aNm x l _ (px hn) hl.2 ht',am9 x o hn,hc];by_cases h1:x∈l
  ·have h2:¬x=o:=λe=>hl.1 (by rw[<-e];exact h1)
   rw[if_pos h1,if_neg h2,if_pos (aG _ h1)]
  ·rw[if_neg h1];show bN bg x (eG bg o c b)=_;rw[ayM];by_cases h2:x=o
   ·subst h2;rw[if_pos rfl,if_pos aI,hc]
   ·rw[if_neg h2,if_neg (by simp[h1,h2])]
theorem auI{t:dw}{h oG:Int}{a:At}(hc:vA t h a oG)(ha:(eD a).Nodup):tm (xP (fw t h a) (stepOf t a)) a:=λo=>by
 unfold xP stepOf;rw[aNm o (dM t) _ ha (RX t) hc.there];by_cases h1:o∈dM t
 ·rw[if_pos h1]
 ·rw[if_neg h1];show bN bg o (zd (gX t) (fw t h a))=_;rw[ZX o _ (ix ha)];by_cases h2:o∈gX t
  ·rw[if_pos h2,hc.made o h2]
  ·rw[if_neg h2,Pq ha h1 h2]
section
abbrev alj:=List (dw×Int)
def mE:At->alj->At
 |a,[]=>a
 |a,x::l=>mE (fw x.1 x.2 a) l
def mO:At->alj->List bT
 |_,[]=> []
 |a,x::l=>stepOf x.1 a::mO (fw x.1 x.2 a) l
def uc:At->alj->Prop
 |_,[]=>True
 |a,x::l=>(eK x.1 x.2 a).2=0/\nU x.1/\uc (fw x.1 x.2 a) l
theorem E1:∀(l l':alj) (a:At),mE a (l++l')=mE (mE a l) l'
 |[],_,_=>rfl
 |x::l,l',a=>E1 l l' (fw x.1 x.2 a)
theorem GB:∀(l l':alj) (a:At),mO a (l++l')=mO a l++mO (mE a l) l'
 |[],_,_=>rfl
 |x::l,l',a=>by show stepOf x.1 a::mO (fw x.1 x.2 a) (l++l')=_;rw[GB l l'];rfl
theorem acN:∀(l:alj) (a:At),(mO a l).length=l.length
 |[],_=>rfl
 |x::l,a=>bo (· +1) (acN l (fw x.1 x.2 a))
theorem Fj:∀(l l':alj) (a:At),uc a (l++l')↔uc a l/\uc (mE a l) l'
 |[],_,_=>⟨λh=>⟨trivial,h⟩,λh=>h.2⟩
 |x::l,l',a=>by have ih:=Fj l l' (fw x.1 x.2 a);exact⟨λh=>⟨⟨h.1,h.2.1,(ih.1 h.2.2).1⟩,(ih.1 h.2.2).2⟩,λh=>⟨h.1.1,h.1.2.1,ih.2 ⟨h.1.2.2,h.2⟩⟩⟩
theorem Tb:∀ {l:alj} {a:At},uc a l->∀x∈l,hJ x.1=true/\nU x.1
 |[],_,_,_,hx=>(by cases hx)
 |x::l,a,h,y,hy=>by
  rcases bY.1 hy with rfl | hy
  ·exact⟨(Kn h.1).1,h.2.1⟩
  ·exact Tb h.2.2 y hy
theorem Zj:∀ {l:alj} {a:At},uc a l->∀st∈mO a l,ahB st
 |[],_,_,_,hx=>(by cases hx)
 |x::l,a,h,y,hy=>by
  rcases bY.1 hy with rfl | hy
  ·exact apL (PU h.1)
  ·exact Zj h.2.2 y hy
theorem Zk:∀(l:alj) {n:Nat} {a:At} {s:List bT},s.length=n->DU n n a s->uc a l->DU (n+l.length) (n+l.length) (mE a l) (s++mO a l)
 |[],n,a,s,_,hg,_=>by show DU n n a (s++ []);rw[aZ];exact hg
 |x::l,n,a,s,hs,hg,hc=>by have h1:=hg.app (PU hc.1) hc.2.1;rw[aY ak]at h1;have:=Zk l (s:=s++ [stepOf x.1 a]) (by rw[ai,hs];rfl) h1 hc.2.2;rw[aF,show n+1+l.length=n+(l.length+1) by omega]at this;exact this
theorem tm.gone:∀(l:List bC) {a b:At},tm a b->(eD a).Nodup->(eD b).Nodup->vp a l=vp b l
 |[],_,_,_,_,_=>rfl
 |o::l,a,b,e,ha,hb=>by rw[vp,vp,e o,tm.gone l (a:=gY bg o a) (b:=gY bg o b) (λx=>by rw[am9 x o ha,am9 x o hb,e x]) (px ha) (px hb)]
theorem tm.step{a b:At}(e:tm a b)(ha:(eD a).Nodup)(hb:(eD b).Nodup)(t:dw):stepOf t a=stepOf t b:=by unfold stepOf;rw[e.gone _ ha hb]
theorem uj:∀(l:alj) {a:At},(eD a).Nodup->(eD (mE a l)).Nodup
 |[],_,h=>h
 |_::l,_,h=>uj l (ix h)
theorem tm.mE:∀(l:alj) {a b:At},tm a b->(eD a).Nodup->(eD b).Nodup->tm (mE a l) (Ab.mE b l)
 |[],_,_,e,_,_=>e
 |_::l,_,_,e,ha,hb=>tm.mE l (e.apply ha hb _ _) (ix ha) (ix hb)
theorem tm.mO:∀(l:alj) {a b:At},tm a b->(eD a).Nodup->(eD b).Nodup->mO a l=Ab.mO b l
 |[],_,_,_,_,_=>rfl
 |x::l,a,b,e,ha,hb=>by show stepOf x.1 a::Ab.mO (fw x.1 x.2 a) l=stepOf x.1 b::Ab.mO (fw x.1 x.2 b) l;rw[e.step ha hb,tm.mO l (e.apply ha hb _ _) (ix ha) (ix hb)]
theorem tm.arA:∀(l:alj) {a b:At},tm a b->(eD a).Nodup->(eD b).Nodup->uc a l->uc b l
 |[],_,_,_,_,_,_=>trivial
 |x::l,a,b,e,ha,hb,h=>⟨by rw[<-e.check];exact h.1,h.2.1,tm.arA l (e.apply ha hb _ _) (ix ha) (ix hb) h.2.2⟩
theorem aBp{s q:List bT}{st:bT}{n:Nat}(hn:n<=s.length)(h:s.take n=q++ [st]):n=q.length+1/\nth cD s (n - 1)=st/\s.take (n - 1)=q:=by
 have hl:n=q.length+1:=by have:=bo ag h;rw[bp,ai]at this;simp only[aA,ba]at this;omega
 subst hl;have h1:q.length < s.length:=ak;have e:s.take (q.length+1)=s.take q.length++ [s[q.length]]:=by rw[List.take_add_one,bU h1];rfl
 rw[e]at h;obtain⟨h2,h3⟩:=List.append_inj' h rfl;refine⟨rfl,?_,h2⟩;rw[iX,cd (t:=cD) h1];exact(List.cons.inj h3).1
theorem adw:∀(k:Nat) (l:alj) {a0 a:At} {n:Nat} {s p:List bT},l.length=k->uc a0 l->(eD a0).Nodup->(eD a).Nodup->tm a (mE a0 l)->n<=s.length->s.take n=p++mO a0 l->
  ∃a',ET k (n,a,s)=(true,n - k,a',s)/\tm a' a0/\(eD a').Nodup/\s.take (n - k)=p/\k<=n
 | 0,l,a0,a,n,s,p,hl,_,_,ha,he,_,hs=>by obtain rfl:=bE hl;exact⟨a,rfl,he,ha,by rw[show mO a0 []=[] from rfl,aZ]at hs;exact hs,aK _⟩
 |k+1,l,a0,a,n,s,p,hl,hc,h0,ha,he,hn,hs=>by
  have gF:l≠ []:=λe=>by rw[e]at hl;cases hl
  have el:=List.dropLast_concat_getLast gF;generalize l.getLast gF=x at el;generalize hl':l.dropLast=l' at el;have hk:l'.length=k:=by rw[<-hl',List.length_dropLast];omega
  subst el;obtain⟨c1,c2⟩:=(Fj l' [x] a0).1 hc;rw[GB,<-aF]at hs;obtain⟨e1,e2,e3⟩:=aBp hn hs;rw[E1]at he;have hn':=uj l' h0;have e4:tm (xP a (stepOf x.1 (mE a0 l'))) (mE a0 l'):=(he.aSx ha (ix hn') _).trans (auI (PU c2.1) hn');obtain⟨a',f1,f2,f3,f4,f5⟩:=adw k l' (a:=xP a (stepOf x.1 (mE a0 l'))) (n:=n - 1) (s:=s) (p:=p) hk c1 h0 (aqb ha _) e4 ak e3;refine⟨a',?_,f2,f3,by rw[show n - (k+1)=n - 1 - k by omega];exact f4,ak⟩;have aLb:¬n=0:=ak;rw[ET,if_neg (show ¬(n,a,s).1=0 from aLb)];show ET k (n - 1,xP a (nth cD s (n - 1)),s)=_;rw[e2,f1,show n - 1 - k=n - (k+1) by omega]
def aIQ(b:cZ):alj:=b.2.2.1.map λt=>(t,b.1)
def L8(bs:List cZ):alj:=bs.flatMap aIQ
theorem Ky(l l':List cZ):L8 (l++l')=L8 l++L8 l':=List.flatMap_append
theorem Kz(b:cZ):L8 [b]=aIQ b:=aZ _
theorem aqc(b:cZ)(h:Int):∀(l:List dw) (k fees:Int) (a:At) (x:Int×Int×Int),BN b h l k fees a= .inl x->x.2.2≠0
 |[],_,_,_,_,e=>by rw[BN]at e;cases e
 |t::l,k,fees,a,x,e=>by
  rw[BN]at e;split at e
  ·obtain rfl:=Sum.inl.inj e;show(14:Int)≠0;decide
  ·split at e
   ·rename_i h2;obtain rfl:=Sum.inl.inj e;exact h2
   ·exact aqc b h l _ _ _ x e
theorem adz(b:cZ)(h:Int):∀(l:List dw) (k fees:Int) (a:At) (f:Int),(∀t∈l,nU t)->BN b h l k fees a= .inr f->uc a (l.map λt=>(t,h))
 |[],_,_,_,_,_,_=>trivial
 |t::l,k,fees,a,f,hv,e=>by
  rw[BN]at e;split at e
  ·cases e
  ·split at e
   ·cases e
   ·rename_i h2;exact⟨Decidable.not_not.1 h2,hv t aI,adz b h l _ _ _ f (λy hy=>hv y (aG _ hy)) e⟩
theorem afx{a:At}(ha:(eD a).Nodup):tm (ja a) a/\(eD (ja a)).Nodup:=by have hp:=xo a;exact⟨aEH ha hp,(hp.map _).nodup_iff.2 ha⟩
theorem asV{b:cZ}{a:At}(hb:W5 b)(ha:(eD a).Nodup)(e:(tK b a).2=0):uc a (aIQ b):=by
 obtain⟨c1,c2⟩:=afx ha;unfold tK at e;split at e
 ·split at e
  ·cases e
  ·have e:(Si b b.1 b.2.2.1 a).2.2=0:=e;unfold Si at e;split at e
   ·rename_i x hx;exact absurd e (aqc _ _ _ _ _ _ _ hx)
   ·rename_i f hf;exact c1.arA _ c2 ha (adz _ _ _ _ _ _ _ hb.1.1.2 hf)
 ·cases e
theorem afv(h:Int):∀(l:List dw) {n:Nat} {a:At} {s:List bT},uc a (l.map λt=>(t,h))->n<=s.length->
  ∃s',l.foldl (aly h) (n,a,s)=(n+l.length,mE a (l.map λt=>(t,h)),s')/\s'.take (n+l.length)=s.take n++mO a (l.map λt=>(t,h))/\n+l.length<=s'.length/\(s'.length<=s.length\/s'.length<=n+l.length)/\∀st∈s',st∈s\/st∈mO a (l.map λt=>(t,h))
 |[],n,a,s,_,hn=>⟨s,rfl,(aZ _).symm,hn,.inl (ax _),λst h=> .inl h⟩
 |t::l,n,a,s,hc,hn=>by
  obtain⟨c1,c2,c3⟩:=hc;have e:aly h (n,a,s) t=(n+1,fw t h a,s.take n++ [stepOf t a]):=if_neg (λx=>x c1);have hl:(s.take n++ [stepOf t a]).length=n+1:=by rw[ai,bp];simp only[aA,ba];omega
  obtain⟨s',e1,e2,e3,e4,e5⟩:=afv h l (n:=n+1) (a:=fw t h a) (s:=s.take n++ [stepOf t a]) c3 ak;have en:n+1+l.length=n+(t::l).length:=by rw[aA];omega
  rw[en]at e1 e2 e3 e4;refine⟨s',?_,?_,e3,.inr ak,λst mG=> ?_⟩
  ·rw[bq,e];exact e1
  ·rw[e2,aY ak,aF];rfl
  ·rcases e5 st mG with h1 | h1
   ·rcases bz.1 h1 with h2 | h2
    ·exact .inl (fj h2)
    ·exact .inr (by rw[bk.1 h2];exact aI)
   ·exact .inr (aG _ h1)
structure q9(A0:At)(m nb n:Nat)(a:At)(s:List bT)(bs:List cZ):Prop where
 aPk:DU 0 0 A0 []
 ch:aqo nb bs
 an9:(eD a).Nodup
 aQs:uc A0 (L8 (bs.take nb))
 eqv:tm a (mE A0 (L8 (bs.take nb)))
 aIn:s.take n=mO A0 (L8 (bs.take nb))
 le:n<=s.length
 len:s.length<=m
 aSu:∀st∈s,ahB st
section
variable {A0:At} {m nb n:Nat} {a:At} {s:List bT} {bs:List cZ}
theorem q9.aUX(h:q9 A0 m nb n a s bs){m':Nat}(hm:m<=m'):DU m' n a s:=by
 have hg:=Zk (L8 (bs.take nb)) (n:=0) (s:=[]) rfl h.aPk h.aQs;have hp:=h.eqv.perm h.an9 hg.C7.1;have hn:n=(L8 (bs.take nb)).length:=by have:=bo ag h.aIn;rw[acN,bp]at this;have:=h.le;omega
 exact⟨hg.C7.perm hp.symm,h.le,iw h.len hm,h.aSu,by rw[SL hp];exact hg.sum,by rw[hp.length_eq];have:=hg.aSJ;have:=h.le;have:=h.len;omega⟩
theorem q9.mono(h:q9 A0 m nb n a s bs){m':Nat}(hm:m<=m'):q9 A0 m' nb n a s bs:=⟨h.aPk,h.ch,h.an9,h.aQs,h.eqv,h.aIn,h.le,iw h.len hm,h.aSu⟩
theorem q9.new(h:DU 0 0 A0 []):q9 A0 0 0 0 A0 [] []:=⟨h,⟨ax _,by decide,λb hb=>(by cases hb)⟩,h.C7.1,trivial,tm.refl _,rfl,ax _,ax _,λst mG=>(by cases mG)⟩
theorem q9.aUB(h:q9 A0 m nb n a s bs){b:cZ}(hb:b∈bs.take nb){t:dw}(ht:t∈b.2.2.1):hJ t=true/\nU t:=Tb h.aQs (t,b.1) (qh.2 ⟨b,hb,cT.2 ⟨t,ht,rfl⟩⟩)
theorem q9.pre(h:q9 A0 m nb n a s bs){b:cZ}(hb:W5 b)(hm:m<=400):S5 (b,nb,n,a,s,bs):=⟨hb,h.aUX hm,h.ch⟩
theorem q9.aTi(h:q9 A0 m nb n a s bs){b:cZ}(hb:W5 b)(hm:m<=400):G2.call (b,nb,n,a,s,bs)=some (mm b nb (n,a,s) bs):=afA (d:=(b,nb,n,a,s,bs)) (h.pre hb hm)
theorem q9.add(h:q9 A0 m nb n a s bs){b:cZ}(hb:W5 b){m':Nat}(hm:m+b.2.2.1.length<=m')(ayU:nb<=1000):
  (∃e,e≠0/\mm b nb (n,a,s) bs=(e,nb,n,a,s,bs))\/
  ∃n' a' s',mm b nb (n,a,s) bs=(0,nb+1,n',a',s',bs.take nb++ [b])/\q9 A0 m' (nb+1) n' a' s' (bs.take nb++ [b])/\b.2.1=rS nb bs/\b.1=(nb:Int)+1:=by
 have hle:nb<=bs.length:=h.ch.1;unfold mm;by_cases ht:b.2.1=rS nb bs/\b.1=(nb:Int)+1;rotate_left
 ·left;rw[if_neg ht];exact⟨1,by decide,rfl⟩
 rw[if_pos ht];by_cases hp:(tK b a).2=0;rotate_left
 ·left;rw[if_neg (show ¬(tK b (n,a,s).2.1).2=0 from hp)];exact⟨_,hp,rfl⟩
 right;have hc:=asV hb h.an9 hp;obtain⟨s',e1,e2,e3,e4,e5⟩:=afv b.1 b.2.2.1 (s:=s) hc h.le;have ho:aon b=b:=ajK hb.1 λt ht=>(Tb hc (t,b.1) (cT.2 ⟨t,ht,rfl⟩)).1
 have aWk:axA b (n,a,s)=(n+b.2.2.1.length,mE a (aIQ b),s'):=e1;have hlen:(bs.take nb++ [b]).length=nb+1:=by rw[ai,bp];simp only[aA,ba];omega
 have ayX:(bs.take nb++ [b]).take (nb+1)=bs.take nb++ [b]:=aY ak;have hA:=uj (L8 (bs.take nb)) h.aPk.C7.1;rw[if_pos (show(tK b (n,a,s).2.1).2=0 from hp),aWk,ho];have hs:=h.len;refine⟨_,_,s',rfl,⟨h.aPk,aKg h.ch ayU hb.1,uj _ h.an9,?_,?_,?_,e3,by have:=h.le;omega,λst mG=> ?_⟩,ht⟩
 ·rw[ayX,Ky,Kz,Fj];exact⟨h.aQs,h.eqv.arA _ h.an9 hA hc⟩
 ·rw[ayX,Ky,Kz,E1];exact h.eqv.mE _ h.an9 hA
 ·rw[ayX,Ky,Kz,GB,<-h.eqv.mO _ h.an9 hA,<-h.aIn];exact e2
 ·rcases e5 st mG with h1 | h1
  ·exact h.aSu st h1
  ·exact Zj hc st h1
theorem q9.back:∀(d:Nat) {nb n:Nat} {a:At},q9 A0 m nb n a s bs->d<=nb->∃n' a',xm bs d (nb,n,a,s)=(nb - d,n',a',s)/\q9 A0 m (nb - d) n' a' s bs
 | 0,nb,n,a,h,_=>⟨n,a,rfl,h⟩
 |d+1,nb,n,a,h,hd=>by
  obtain⟨p,rfl⟩:∃p,nb=p+1:=⟨nb - 1,ak⟩;have hl:p+1<=bs.length:=h.ch.1;have hp:p < bs.length:=ak;have et:bs.take (p+1)=bs.take p++ [bs[p]]:=by rw[List.take_add_one,bU hp];rfl
  have n1:nth dR bs p=bs[p]:=cd (t:=dR) hp;have hc:=h.aQs;have he:=h.eqv;have hs:=h.aIn;rw[et,Ky,Kz]at hc he hs;obtain⟨c1,c2⟩:=(Fj _ _ _).1 hc;rw[E1]at he;rw[GB]at hs;obtain⟨a',f1,f2,f3,f4,f5⟩:=adw bs[p].2.2.1.length (aIQ bs[p]) (bV _) c2 (uj _ h.aPk.C7.1) h.an9 he h.le hs;have h':q9 A0 m p (n - bs[p].2.2.1.length) a' s bs:=⟨h.aPk,⟨ak,by have:=h.ch.2.1;omega,h.ch.2.2⟩,f3,c1,f2,f4,by have:=h.le;omega,h.len,h.aSu⟩;obtain⟨n'',a'',g1,g2⟩:=q9.back d h' ak;refine⟨n'',a'',?_,by rw[show p+1 - (d+1)=p - d by omega];exact g2⟩;rw[xm];show xm bs d (p+1 - 1,(ET (nth dR bs (p+1 - 1)).2.2.1.length (n,a,s)).2)=_;rw[iX,n1,f1,g1,show p+1 - (d+1)=p - d by omega]
def UD:List cZ->Nat
 |[]=>0
 |b::l=>b.2.2.1.length+UD l
theorem q9.aN7:∀(l:List cZ) {m nb n:Nat} {a:At} {s:List bT} {bs:List cZ},q9 A0 m nb n a s bs->(∀b∈l,W5 b)->m+UD l<=400->nb+l.length<=1000->
  Yn l (nb,n,a,s,bs)/\((jk l (nb,n,a,s,bs)).1≠0\/∃n' a' s' bs',jk l (nb,n,a,s,bs)=(0,nb+l.length,n',a',s',bs')/\q9 A0 (m+UD l) (nb+l.length) n' a' s' bs'/\bs'.take (nb+l.length)=bs.take nb++l)
 |[],m,nb,n,a,s,bs,h,_,_,_=>⟨trivial,.inr ⟨n,a,s,bs,rfl,h,(aZ _).symm⟩⟩
 |b::l,m,nb,n,a,s,bs,h,hl,hm,hn=>by
  rw[UD]at hm;rw[aA]at hn;have hb:=hl b aI;have hle:nb<=bs.length:=h.ch.1;have ai3:=h.pre hb ak;rcases h.add hb (ax _) ak with⟨e,he,ha⟩ | ⟨n',a',s',ha,h',_,_⟩
  ·refine⟨⟨ai3,λh0=> ?_⟩,.inl ?_⟩
   ·have h0:(mm b nb (n,a,s) bs).1=0:=h0;rw[ha]at h0;exact absurd h0 he
   ·rw[jk];show(if(mm b nb (n,a,s) bs).1≠0 then mm b nb (n,a,s) bs else _).1≠0;rw[ha,if_pos he];exact he
  ·obtain⟨i1,i2⟩:=q9.aN7 l h' (λx hx=>hl x (aG _ hx)) ak ak;have hlen:(bs.take nb++ [b]).length=nb+1:=by rw[ai,bp];simp only[aA,ba];omega
   have ayX:(bs.take nb++ [b]).take (nb+1)=bs.take nb++ [b]:=aY ak;have ek:jk (b::l) (nb,n,a,s,bs)=jk l (nb+1,n',a',s',bs.take nb++ [b]):=by rw[jk];show(if(mm b nb (n,a,s) bs).1≠0 then mm b nb (n,a,s) bs else jk l (mm b nb (n,a,s) bs).2)=_;rw[ha,if_neg (λe=>e rfl)]
   refine⟨⟨ai3,λ_=> ?_⟩,?_⟩
   ·show Yn l (mm b nb (n,a,s) bs).2;rw[ha];exact i1
   ·rw[ek,show nb+(b::l).length=nb+1+l.length by rw[aA];omega,UD,<-eP];rcases i2 with i2 | ⟨n2,a2,s2,bs2,j1,j2,j3⟩
    ·exact .inl i2
    ·refine .inr ⟨n2,a2,s2,bs2,j1,j2,?_⟩;rw[j3,ayX,aF];rfl
theorem q9.copy(h:q9 A0 m nb n a s bs):q9 A0 m nb n (ja a) (s.take n) (bs.take nb):=by
 obtain⟨c1,c2⟩:=afx h.an9;have hle:nb<=bs.length:=h.ch.1;have e1:(bs.take nb).take nb=bs.take nb:=by rw[eJ,Nat.min_self]
 have e2:(s.take n).take n=s.take n:=by rw[eJ,Nat.min_self]
 have hl:=h.le;refine⟨h.aPk,⟨by rw[bp];omega,h.ch.2.1,λb hb=>h.ch.2.2 b (fj hb)⟩,c2,by rw[e1];exact h.aQs,by rw[e1];exact c1.trans h.eqv,by rw[e1,e2];exact h.aIn,by rw[bp];omega,by have:=h.len;rw[bp];omega,λst mG=>h.aSu st (fj mG)⟩
theorem q9.aHq(h:q9 A0 m nb n a s bs)(d:Int){l:List cZ}(hl:∀b∈l,W5 b)(hm:m+UD l<=400)(hn:nb+l.length<=1000):
  (∃e,e≠0/\lA (d,l,nb,n,a,s,bs)=some (.inl (e,nb,n,a,s,bs)))\/
  ∃n' a' s' bs',lA (d,l,nb,n,a,s,bs)=some (.inr (0,nb - d.toNat+l.length,n,a,s,bs,n',a',s',bs'))/\(1<=d/\d<=nb/\d < l.length/\d<=6)/\
   q9 A0 (m+UD l) (nb - d.toNat+l.length) n' a' s' bs'/\bs'.take (nb - d.toNat+l.length)=bs.take (nb - d.toNat)++l:=by
 have key:∀(hd:1<=d/\d<=nb/\d < l.length/\d<=6),∃n1 a1,AE d nb n a s bs=(nb - d.toNat,n1,a1,s.take n,bs.take nb)/\q9 A0 m (nb - d.toNat) n1 a1 (s.take n) (bs.take nb):=λhd=>by obtain⟨n1,a1,e1,e2⟩:=q9.back d.toNat h.copy ak;refine⟨n1,a1,?_,e2⟩;unfold AE;rw[e1]
 have ai3:xp (d,l,nb,n,a,s,bs):=⟨h.ch,h.aUX ak,by show l.length<=_;omega,λhd=>by
  obtain⟨n1,a1,e1,e2⟩:=key hd;rw[e1];exact(q9.aN7 l e2 hl hm ak).1⟩
 have hr:=Vc (d:=(d,l,nb,n,a,s,bs)) ai3;by_cases h1:1<=d/\d<=nb/\d < l.length;rotate_left
 ·left;refine⟨1,by decide,hr.trans (bo some ?_)⟩;have:ju (d,l,nb,n,a,s,bs)= .inl (1,nb,n,a,s,bs):=if_neg h1;rw[this];rfl
 by_cases h2:d<=6;rotate_left
 ·left;refine⟨25,by decide,hr.trans (bo some ?_)⟩;have:ju (d,l,nb,n,a,s,bs)= .inl (25,nb,n,a,s,bs):=(if_pos h1).trans (if_neg h2);rw[this];rfl
 have hd:1<=d/\d<=nb/\d < l.length/\d<=6:=⟨h1.1,h1.2.1,h1.2.2,h2⟩;obtain⟨n1,a1,e1,e2⟩:=key hd
 have hF:ju (d,l,nb,n,a,s,bs)=if(jk l (AE d nb n a s bs)).1≠0 then .inl ((jk l (AE d nb n a s bs)).1,nb,n,a,s,bs)
   else .inr (0,(jk l (AE d nb n a s bs)).2.1,n,a,s,bs,(jk l (AE d nb n a s bs)).2.2):=(if_pos h1).trans (if_pos h2)
 rw[e1]at hF;have etk:(bs.take nb).take (nb - d.toNat)=bs.take (nb - d.toNat):=by rw[eJ,dU ak]
 rcases(q9.aN7 l e2 hl hm ak).2 with e3 | ⟨n2,a2,s2,bs2,f1,f2,f3⟩
 ·left;refine⟨_,e3,hr.trans (bo some ?_)⟩;rw[hF,if_pos e3];rfl
 ·right;refine⟨n2,a2,s2,bs2,hr.trans (bo some ?_),hd,f2,by rw[f3,etk]⟩;rw[hF,f1,if_neg (λe=>e rfl)];rfl
def xL(o:bC):List cZ->Int->Option (dw×Int)
 |[],_=>none
 |b::l,i=>match Uv o b.2.2.1 with | some t=>some (t,i+1) | none=>xL o l (i+1)
theorem aks{o:bC}:∀ {l:List dw} {t:dw},Uv o l=some t->t∈l
 |[],_,e=>by cases e
 |x::l,t,e=>by
  rw[Uv]at e;split at e
  ·rw[<-bf e];exact aI
  ·exact aG _ (aks e)
theorem ahd{o:bC}:∀ {l:List cZ} {i:Int},(∀b∈l,∀t∈b.2.2.1,hJ t=true/\nU t)->BE o l i=xL o l i
 |[],_,_=>rfl
 |b::l,i,h=>by
  rw[BE,xL];cases e:Uv o b.2.2.1 with
  |none=>exact ahd λx hx=>h x (aG _ hx)
  |some t=>
   have:=h b aI t (aks e);show some (aqw t,i+1)=some (t,i+1);rw[OP this.2 this.1]
theorem aub{o:bC}:∀ {l:List cZ} {i:Int} {x:dw×Int},xL o l i=some x->i+1<=x.2/\x.2<=i+l.length/\∃b∈l,x.1∈b.2.2.1
 |[],_,_,e=>by cases e
 |b::l,i,x,e=>by
  rw[xL]at e;rw[aA];cases es:Uv o b.2.2.1 with
  |none=>
   rw[es]at e;obtain⟨h1,h2,c,h3,h4⟩:=aub e;exact⟨ak,ak,c,aG _ h3,h4⟩
  |some t=>
   rw[es]at e;obtain rfl:=bf e;exact⟨iD _,by show i+1<=_;omega,b,aI,aks es⟩
theorem Yj{o:bC}:∀(l l':List cZ) (i:Int),xL o (l++l') i=match xL o l i with | some x=>some x | none=>xL o l' (i+l.length)
 |[],l',i=>by show xL o l' i=xL o l' (i+((0:Nat):Int));rw[show i+((0:Nat):Int)=i by omega]
 |b::l,l',i=>by
  rw[iW,xL,xL];cases Uv o b.2.2.1 with
  |some t=>rfl
  |none=>
   show xL o (l++l') (i+1)=_;rw[Yj l l',aA,show i+1+(l.length:Int)=i+((l.length+1:Nat):Int) by omega]
theorem aIb{o:bC}{l:List cZ}{i:Int}{x:dw×Int}(e:xL o l i=some x){k:Nat}(hk:x.2<=i+k):xL o (l.take k) i=some x:=by
 have h:=Yj (o:=o) (l.take k) (l.drop k) i;rw[dq,e]at h;cases h1:xL o (l.take k) i with
 |some y=>rw[h1]at h;exact h.symm
 |none=>
  rw[h1]at h;have h2:=aub h.symm;have:(l.drop k).length=l.length - k:=dp;have:(l.take k).length=min k l.length:=bp;obtain⟨h3,h4,_⟩:=h2;omega
theorem q9.aSs(h:q9 A0 m nb n a s bs)(o:bC):uB.call (o,nb,n,a,s,bs)=some (match xL o (bs.take nb) 0 with
  |some x=>(x.1,x.2,true,nb,n,a,s,bs)
  |none=>(ez.zero,0,false,nb,n,a,s,bs)):=by
 rw[amg (d:=(o,nb,n,a,s,bs)) h.ch];simp only[bu,S7];rw[ahd λb hb t ht=>h.aUB hb ht]
 all_goals (cases xL o (bs.take nb) 0 <;> rfl)
end
end
abbrev aCC:=bC×Nat×(List bC)
def aCD:aCC->Prop:=λ(_,n,l)=>n=l.length/\l.length<=1000000
def aN9:aCC->(Nat×(List bC)):=λ(o,n,l)=>(n+1,l++ [o])
noncomputable def aqI:Fs Tryz.prog aCD bu aN9:=eN 4294969952 (aNc Tryz.prog 4294969952) (λ(t7,o1L,o2)=>(([.yl (.bm 0) 0,.d bg t7,.undef,.undef,.ptr (.bm 1) 0 [] 0]++aP 10 []),[.obj 0 false (.rP (rk Tryz.prog 4294969952) (mF ([.undef,.undef,.ptr (.bm 1) 0 [] 0]++aP 10 [])) 0),.obj 0 false (.bA (.bm 2) 0 [] 0 0 o1L),.obj 0 false (.vec 38 bg o2)])) (λx=>⟨.d .bool true,[.obj 0 false (.rP (rk Tryz.prog 4294969952) (mF ([.undef,.undef,.ptr (.bm 1) 0 [] 0]++aP 10 [])) 0),.obj 0 false (.bA (.bm 2) 1 [] 0 0 x.1),.obj 1 false (.vec 38 bg x.2)],[]⟩) [none,none,none,none,none,none,none,none,none,none,none,none,none,none,none] [] {aq9:=[(2,1)],mf:=some 4294969952}
theorem aJN(t7 o1L o2)(k:K1 R):aqI.A (t7,o1L,o2) k=aJ (decide (o1L<=(ag o2))) (aJ (db (o1L+1) 40) (k (aqI.out ((o1L+1),((aR o1L o2)++ [t7])))) none) none:=b8
theorem aJO:aqI.Ok:=by rintro⟨o,n,l⟩ ⟨rfl,hl⟩;have hl:l.length<=1000000:=hl;rw[aJN,aM (ax _),aj,dr ak ak,aj,bK];rfl
theorem aCE:aqI.RS:=rE [.d bg,.n,.d (.slice bg)] aqI
def aJP:=aqI.aXh aJO
abbrev A9:=Nat×(List bC)×(List (bC×ia))×(List (bC×ia))
noncomputable def tD:A9->AS:=λ(uU,eA,zJ,n5)=>⟨([.yl (.bm 0) 0]++aP 4 ([eT 5]++aP 8 [])),[.obj 0 false (.rP (rk Tryz.prog 4294969952) (mF ([bF,bF,.ptr (.bm 1) 0 [] 0]++aP 10 [])) 0),.obj 0 false (.bA (.bm 2) 1 [] 0 0 uU),.obj 1 false (.vec 38 bg eA),.obj 0 false (.cj (.bm 4) 0),.obj 0 true (.mp bg j6 zJ)],(bM 5 ([dK (.tC (.bm 4) 1 bg j6 n5 none)]++bM 8 []))⟩
abbrev Cq:=((List (bC×ia)))×(Nat×(List bC))
noncomputable def zz:Cq->Exit×AS:=λx=>(.exit 0,⟨(aP 14 []),[.obj 0 false (.rP (rk Tryz.prog 4294969952) (mF ([bF,bF,.ptr (.bm 1) 0 [] 0]++aP 10 [])) 0),.obj 0 false (.bA (.bm 2) 1 [] 0 0 x.2.1),.obj 1 false (.vec 38 bg x.2.2),.obj 0 false (.cj (.bm 4) 0),.obj 0 false (.mp bg j6 x.1)],(ab 14 [])⟩)
def QO:Cq->Out (Exit×AS):=λx=> .ok (zz x)
def uN:A9->(Nat×(List bC))->Cq:=λ(uU,eA,zJ,n5) y=>(zJ,y)
abbrev QM:=Nat×(List bC)×(List (bC×ia))
noncomputable def aao:QM->SA:=λ(o1L,o2,o4)=>([.yl (.bm 0) 0,.ptr (.bm 3) 0 [] 0],[.obj 0 false (.rP (rk Tryz.prog 4294969952) (mF ([bF,bF,.ptr (.bm 1) 0 [] 0]++aP 10 [])) 0),.obj 0 false (.bA (.bm 2) 0 [] 0 0 o1L),.obj 0 false (.vec 38 bg o2),.obj 0 false (.cj (.bm 4) 0),.obj 0 false (.mp bg j6 o4)])
abbrev avZ:=Nat×(List bC)×(List (bC×ia))
abbrev ajg:=Nat×(List bC)×(List (bC×ia))
noncomputable def TI:ajg->fK:=λx=>⟨.nil,[.obj 0 false (.rP (rk Tryz.prog 4294969952) (mF ([bF,bF,.ptr (.bm 1) 0 [] 0]++aP 10 [])) 0),.obj 0 false (.bA (.bm 2) 1 [] 0 0 x.1),.obj 1 false (.vec 38 bg x.2.1),.obj 0 false (.cj (.bm 4) 0),.obj 0 false (.mp bg j6 x.2.2)],[]⟩
def TH:QM->avZ->ajg:=λ(o1L,o2,o4) y=>y
def uM:A9->Prop:=λ(n,l,_,rest)=>n=l.length/\l.length+rest.length<=1000000
def rC:A9->(Nat×(List bC))->Prop:=λ(_,l,_,rest) (m,l')=>m=l'.length/\l'.Perm (l++rest.map (·.1))
def TG:QM->Prop:=λ(n,l,m)=>n=l.length/\l.length+m.length<=1000000
def N5:QM->avZ->Prop:=λ(_,l,m) (n',l',m')=>n'=l'.length/\l'.Perm (l++m.map (·.1))/\m'=m
def aje:oR:=jI (P:=Tryz.prog) [aJP]
def asm:=dz.Xg tD uM uN rC QO
def QP:A9->Cq->Prop:=aSn tD uM uN rC
def aan:xi:= {loops:=nY [(1,{aV:=[0,5],sites:=[5],aq9:=[(2,1)],aS0:=[5]})],outs:=nX [(1,{aq9:=[(2,1)]},{aq9:=[(2,1)]})],fF:=nK [(1,asm)],aq9:=[(2,1)]}
def avX:= @HM Tryz.prog aje aan 0 Tryz.f107 _ aao
abbrev aFK:=auZ @avX TG TH N5 TI
def aam:= @eC Tryz.prog aje aan 0 Tryz.f107 0 _ tD
abbrev VJ:=au1 Tryz.prog aje aan 0 Tryz.f107 0 tD uM uN rC QO
theorem ajf:aw2 QP uM uN rC:=aUT (jx [.n,.d (.slice bg),.d (.slice (.pair bg j6)),.d (.slice (.pair bg j6))] λ_=>b8)
theorem QN:aNd @aam tD uM uN rC zz VJ:=aQ2
theorem Mf(uU:Nat)(eA:(List bC))(zJ:(List (bC×ia)))(n5:(List (bC×ia)))(kn:AS->Option R)(kx:Exit->AS->Option R):aam (uU,eA,zJ,n5) kn kx=aJ (decide (0 < (ag n5))) (aEt (ag n5) λj1=>same (rk Tryz.prog 4294969952) (rk Tryz.prog 4294969952) (al (aqI.call ((zI bg j6 n5 j1).1,uU,eA)) λx2=>kn (tD (x2.1,x2.2,zJ,(List.eraseIdx n5 j1))))) (kx (zz (zJ,(uU,eA))).1 (zz (zJ,(uU,eA))).2):=b8
theorem aFL(o1L:Nat)(o2:(List bC))(o4:(List (bC×ia)))(k:fK->Option R):avX (o1L,o2,o4) k=ZG (QP (o1L,o2,o4,o4)) λx3=>k (TI (x3.2.1,x3.2.2,x3.1)):=b8
theorem anE:VJ:=by
 refine QN (λ(_,_,_,rest)=>rest.length) ?_
 rintro⟨n,l,m,rest⟩ ⟨rfl,hl⟩;have hl:l.length+rest.length<=1000000:=hl;by_cases h:0 < rest.length
 ·left;refine⟨rest.length,λj=>(l.length+1,l++ [(zI bg j6 rest j).1],m,rest.eraseIdx j),h,λj hj=>⟨⟨by simp,?_⟩,?_,λy hy=>⟨y,?_,rfl⟩⟩,λkn kx=> ?_⟩
  ·show(l++ [_]).length+(rest.eraseIdx j).length<=1000000;rw[ai,List.length_eraseIdx,if_pos hj];simp only[aA,ba];omega
  ·show(rest.eraseIdx j).length < rest.length;rw[List.length_eraseIdx,if_pos hj];omega
  ·obtain⟨k,l'⟩:=y;obtain⟨h1,h2⟩:=hy;refine⟨h1,h2.trans ?_⟩;rw[ajB hj,aF];refine List.Perm.append_left _ ?_
   have:=((ZL hj).map (·.1)).symm;exact this
  ·rw[Mf,aM h,aj];congr 1;funext j;rw[Up,aCE (d:=((zI bg j6 rest j).1,l.length,l)) ⟨rfl,by show l.length<=_;omega⟩];rfl
 ·right;obtain rfl:rest=[]:=bE ak;refine⟨(l.length,l),⟨rfl,by simp⟩,λkn kx=> ?_⟩;rw[Mf,aS h,ao];rfl
theorem aFM:aFK:=by
 rintro⟨n,l,m⟩ ⟨rfl,hl⟩ k hk;rw[aFL];refine ajf (d:=(l.length,l,m,m)) ⟨rfl,hl⟩ ⟨((l++m.map (·.1)).length,l++m.map (·.1)),rfl,im _⟩ λy hy=> ?_
 obtain⟨n',l'⟩:=y;exact hk (n',l',m) ⟨hy.1,hy.2,rfl⟩
def avY:=Entry.Xg [none,none] aao TG TH N5 TI
def agj:QM->ajg->Prop:=aMB avY aao
theorem ay8:aw2 agj TG TH N5:=aHW (Xd [.n,.d (.slice bg),.d (.slice (.pair bg j6))] λ_=>b8)
def aFN:SG Tryz.prog:=⟨107,mr,avY,.aUA (.fn 1 b8 aFM (And.intro (.Xg anE b8) trivial)) (by rfl)⟩
abbrev akX:=(List (bC×ia))
def ahu:akX->Unit->((List (bC×ia))):=λo0 y=>o0
def aBW:akX->Prop:=λ_=>True
def aM4:akX->Unit:=λ_=>()
def adD:Fs Tryz.prog aBW ahu aM4:=eN 61 Tryz.f61 (λo0=>([.cj (.bm 0) 0],[apW (.mp bg j6 o0)])) (λx=>⟨.fn 107 (.cons (.ptr (.new 0 0) 0 [] 0) (.nil)),[apW (.mp bg j6 x)],[apW (.cj (.bm 0) 0)]⟩) [none] [] {bJ:=[1]}
theorem aI6(o0)(k:K1 R):adD.A o0 k=k (adD.out o0):=b8
theorem aI7:adD.Ok:=by intro d _;rw[aI6];rfl
theorem aBX:adD.RS:=rE [.d (.slice (.pair bg j6))] adD
def aI8:=adD.eU aI7
abbrev YC:=(List (bC×ia))
def ahI:YC->SA:=λo1=>([.de,.fn 107 (.cons (.ptr (.bm 0) 0 [] 0) (.nil))],[apW (.cj (.bm 1) 0),apW (.mp bg j6 o1)])
abbrev aCH:=Nat×(List (bC×ia))×(List bC)
abbrev aqJ:=Nat×(List (bC×ia))×(List bC)
def YF:aqJ->fK:=λx=>⟨.bA (.new 0 0) 1 [] 0 0 x.1,[apW (.cj (.bm 1) 0),apW (.mp bg j6 x.2.1)],[.obj 1 false (.vec 38 bg x.2.2)]⟩
def YE:YC->aCH->aqJ:=λo1 y=>y
def YD:YC->Prop:=λm=>m.length<=1000000
def SM:YC->aCH->Prop:=λm (n',m',l')=>n'=l'.length/\l'.Perm (m.map (·.1))/\m'=m
def aOa:oR:=jI (P:=Tryz.prog) [aFN]
def aJR:xi:= {bJ:=[2],aVS:=nK [(7,[⟨2,[.arr],0,46⟩])],rf:=nK [(7,(4294969952,[2]))]}
def aCF:= @HM Tryz.prog aOa aJR 0 Tryz.f166 _ ahI
abbrev aJQ:=auZ @aCF YD YE SM YF
theorem aJS(o1:(List (bC×ia)))(k:fK->Option R):aCF o1 k=ZG (agj (0,([]:List bC),o1)) λx1=>k (YF (x1.1,x1.2.2,x1.2.1)):=b8
theorem aJT:aJQ:=by
 intro m hl k hk;have hl:m.length<=1000000:=hl;rw[aJS];refine ay8 (d:=(0,[],m)) ⟨rfl,by show 0+m.length<=_;omega⟩ ⟨((m.map (·.1)).length,m.map (·.1),m),rfl,im _,rfl⟩ λy hy=> ?_
 obtain⟨n',l',m'⟩:=y;exact hk (n',m',l') ⟨hy.1,by simpa using hy.2.1,hy.2.2⟩
def aCG:=Entry.Xg [none,none] ahI YD YE SM YF
def alz:YC->aqJ->Prop:=aMB aCG ahI
theorem aCI:aw2 alz YD YE SM:=aHW (Xd [.d (.slice (.pair bg j6))] λ_=>b8)
def aJU:SG Tryz.prog:=⟨166,mr,aCG,.aUA (.fn 0 b8 aJT trivial) (by rfl)⟩
abbrev Zf:=(List (bC×ia))
def aih:Zf->SA:=λo1=>([.fn 107 (.cons (.ptr (.bm 0) 0 [] 0) (.nil))],[apW (.cj (.bm 1) 0),apW (.mp bg j6 o1)])
abbrev aD2:=Nat×(List (bC×ia))×(List bC)
abbrev arz:=Nat×(List (bC×ia))×(List bC)
def Zi:arz->fK:=λx=>⟨.bA (.new 0 0) 1 [] 0 0 x.1,[apW (.cj (.bm 1) 0),apW (.mp bg j6 x.2.1)],[.obj 1 false (.vec 38 bg x.2.2)]⟩
def Zh:Zf->aD2->arz:=λo1 y=>y
def Zg:Zf->Prop:=λm=>m.length<=1000000
def Ta:Zf->aD2->Prop:=λm (n',m',l')=>n'=l'.length/\l'.Perm (m.map (·.1))/\m'=m
def aOs:oR:=jI (P:=Tryz.prog) [aJU]
def aKz:xi:= {}
def aD0:= @HM Tryz.prog aOs aKz 0 Tryz.f105 _ aih
abbrev aKy:=auZ @aD0 Zg Zh Ta Zi
theorem aKA(o1:(List (bC×ia)))(k:fK->Option R):aD0 o1 k=ZG (alz o1) λx1=>k (Zi (x1.1,x1.2.1,x1.2.2)):=b8
theorem aKB:aKy:=by
 intro m hl k hk;rw[aKA];refine aCI (d:=m) hl ⟨((m.map (·.1)).length,m,m.map (·.1)),rfl,im _,rfl⟩ λy hy=> ?_
 exact hk y hy
def aD1:=Entry.Xg [none] aih Zg Zh Ta Zi
def amk:Zf->arz->Prop:=aMB aD1 aih
theorem aD3:aw2 amk Zg Zh Ta:=aHW (Xd [.d (.slice (.pair bg j6))] λ_=>b8)
def aKC:SG Tryz.prog:=⟨105,mr,aD1,.aUA (.fn 0 b8 aKB trivial) (by rfl)⟩
theorem aug{l l':List bC}(h:l.Perm l')(hq:∀x∈l',Lp x):OT (t:=bg) H7 l=OT (t:=bg) H7 l':=by
 have hq':∀x∈l,Lp x:=λx hx=>hq x (h.mem_iff.1 hx)
 have h1:=aku D7 hq';exact GA D7 hq (λx hx y hy a b=>Fh (hq x hx) (hq y hy) a b) ⟨h1.1.trans h,h1.2⟩
def GQ(m:Wm):List bC:=OT (t:=bg) H7 (m.map (·.1))
abbrev aIf:=(List (bC×ia))
def aIh:aIf->Prop:=λm=>m.length<=1000000/\∀p∈m,Lp p.1
def aIg:aIf->(Nat×(List (bC×ia))×(List bC)):=λm=>(m.length,m,GQ m)
def auh:Fs Tryz.prog aIh bu aIg:=eN 60 Tryz.f60 (λo1=>([.fn 107 (.cons (.ptr (.bm 0) 0 [] 0) (.nil)),.fn 62 (.nil)],[apW (.cj (.bm 1) 0),apW (.mp bg j6 o1)])) (λx=>⟨.bA (.new 0 0) 1 [] 0 0 x.1,[apW (.cj (.bm 1) 0),apW (.mp bg j6 x.2.1)],[.obj 1 false (.vec 38 bg x.2.2)]⟩) [none,none] [aKC,aMN]
theorem aMO(o1)(k:K1 R):auh.A o1 k=ZG (amk o1) λx1=>al (Ux (x1.1,x1.2.2)) λx2=>k (auh.out (x1.1,x1.2.1,x2.2)):=b8
theorem aMP:auh.Ok:=by
 rintro m ⟨hl,hq⟩;have hl:m.length<=1000000:=hl;rw[aMO];refine aD3 (d:=m) hl ⟨((m.map (·.1)).length,m,m.map (·.1)),rfl,im _,rfl⟩ λy hy=> ?_
 obtain⟨n',m',l'⟩:=y;obtain⟨h1,h2,h3⟩:=hy;have h1:n'=l'.length:=h1;have h3:m'=m:=h3;subst h1 h3;have hq':∀x∈m'.map (·.1),Lp x:=λx hx=>by obtain⟨p,hp,rfl⟩:=cT.1 hx;exact hq p hp
 have hlen:l'.length=m'.length:=by rw[h2.length_eq,bV]
 show al (Ux (l'.length,l')) _=_;rw[aIe (d:=(l'.length,l')) ⟨rfl,by show l'.length < _;omega,λx hx=>hq' x (h2.mem_iff.1 hx),λx hx y hy h1 h2'=>Fh (hq' x (h2.mem_iff.1 hx)) (hq' y (h2.mem_iff.1 hy)) h1 h2'⟩];simp only[ah,bu,aIg,GQ];rw[aug h2 hq',hlen];rfl
theorem aIi:auh.RS:=rE [.d (.slice (.pair bg j6))] auh
def aMQ:=auh.eU aMP
abbrev aIW:=(List (bC×ia))
def aIX:aIW->Prop:=λm=>m.length<=1000000/\∀p∈m,Lp p.1
def auJ:aIW->(Nat×(List (bC×ia))×(List bC)):=λm=>(m.length,m,GQ m)
def wall:Fs Tryz.prog aIX bu auJ:=eN 26 Tryz.f26 (λo1=>([.ptr (.bm 0) 0 [] 0],[apW (.pr (.cj (.bm 1) 0) (.d .unit ())),apW (.mp bg j6 o1)])) (λx=>⟨.bA (.new 0 0) 1 [] 0 0 x.1,[apW (.pr (.cj (.bm 1) 0) (.d .unit ())),apW (.mp bg j6 x.2.1)],[.obj 1 false (.vec 38 bg x.2.2)]⟩) [none] [aI8,aMQ]
theorem aM0(o1)(k:K1 R):wall.A o1 k=al (adD.call o1) λx1=>al (auh.call x1) λx2=>k (wall.out (x2.1,x2.2.1,x2.2.2)):=b8
theorem aM1:wall.Ok:=by intro m h;rw[aM0,aBX (d:=m) trivial];simp only[ah,ahu];rw[aIi (d:=m) h];rfl
theorem adA:wall.RS:=rE [.d (.slice (.pair bg j6))] wall
def awP:=wall.eU aM1
abbrev ak5:=Int×dw×Nat×(List An)×bC×ia
abbrev awX:=Nat×(List An)
def UP:ak5->awX->((bC×ia)×(Nat×(List An))):=λ(dov,byv,o0L,o1,o2,o3) y=>((o2,o3),y)
def aB4:ak5->Prop:=λ(_,t,n,l,_)=>nU t/\n=l.length/\l.length<=1000000000
def ak6:ak5->awX:=λ(d,t,_,l,o,x)=>(l.length+1,l++ [(d,(o,(aqw t,(x.2.2.2.1,()))))])
def HA:Fs Tryz.prog aB4 UP ak6:=eN 66 Tryz.f66 (λ(dov,byv,o0L,o1,o2,o3)=>([.d ti dov,.d ez byv,.ptr (.bm 0) 0 [] 0,.ptr (.bm 2) 0 [] 0,.ptr (.bm 3) 0 [] 0],[apW (.bA (.bm 1) 0 [] 0 0 o0L),apW (.vec 65 MN o1),apW (.d bg o2),apW (.d j6 o3)])) (λx=>⟨.nil,[apW (.bA (.bm 1) 1 [] 0 0 x.2.1),.obj 1 false (.vec 65 MN x.2.2),apW (.d bg x.1.1),apW (.d j6 x.1.2)],[]⟩) [some ti,some ez,none,none,none] [adC]
theorem aJh(dov byv o0L o1 o2 o3)(k:K1 R):HA.A (dov,byv,o0L,o1,o2,o3) k=al (M0.call byv) λx1=>aJ (decide (o0L<=(ag o1))) (aJ (db (o0L+1) 112) (k (HA.out ((o2,o3),((o0L+1),((aR o0L o1)++ [(dov,(o2,(x1,(o3.2.2.2.1,()))))]))))) none) none:=b8
theorem aJi:HA.Ok:=by rintro⟨d,t,n,l,o,x⟩ ⟨hv,rfl,hl⟩;have hl:l.length<=1000000000:=hl;rw[aJh,UK (d:=t) hv];simp only[ah,bu,akW];rw[aM (ax _),aj,dr ak ak,aj,bK];rfl
theorem ahv:HA.RS:=rE [.d ti,.d ez,.n,.d (.slice MN),.d bg,.d j6] HA
def aJj:=HA.eU aJi
def alc(x:ia):Prop:=nU x.2.1/\(x.1=true->hJ x.2.1=true)
theorem v0:nU ez.zero:=⟨⟨λo ho=>(by cases ho),by decide,by decide⟩,λx hx=>(by cases hx),by decide⟩
theorem W4:alc qa:=⟨v0,λh=>(by cases h)⟩
def jC(o:bC)(l:List cZ):dw×Int×Bool:=match xL o l 0 with | some x=>(x.1,x.2,true) | none=>(ez.zero,0,false)
def Ci(x:ia)(h:Int)(ok:Bool)(id:Bs):Bool:=x.1 && (!ok || (A7 h x.2.2.2.1 || !(Ty.beq tH id x.2.2.1)))
def l9(o:bC)(x:ia)(h:Int)(ok:Bool)(id:Bs):ia×List An:=if Ci x h ok id then(qa,[(2,(o,(x.2.1,(x.2.2.2.1,()))))]) else(x,[])
def tY(o:bC)(t:dw)(h:Int)(ok:Bool)(id:Bs)(x:ia):ia×List An:=if ok && !x.1 then((true,(t,(id,(h,(false,()))))),[(1,(o,(t,(h,()))))]) else(x,[])
def Bb(o:bC)(t:dw)(h:Int)(ok:Bool)(H:Int)(x:ia):ia×List An:=if ok && qZ (H - h) 6 then((x.1,(x.2.1,(x.2.2.1,(x.2.2.2.1,(true,()))))),[(3,(o,(t,(x.2.2.2.1,()))))]) else(x,[])
def fR(H:Int)(l:List cZ)(o:bC)(x:ia):ia×List An:=if x.2.2.2.2.1 then(x,[]) else((Bb o (jC o l).1 (jC o l).2.1 (jC o l).2.2 H (tY o (jC o l).1 (jC o l).2.1 (jC o l).2.2 (iC (jC o l).1) (l9 o x (jC o l).2.1 (jC o l).2.2 (iC (jC o l).1)).1).1).1,(l9 o x (jC o l).2.1 (jC o l).2.2 (iC (jC o l).1)).2++(tY o (jC o l).1 (jC o l).2.1 (jC o l).2.2 (iC (jC o l).1) (l9 o x (jC o l).2.1 (jC o l).2.2 (iC (jC o l).1)).1).2++(Bb o (jC o l).1 (jC o l).2.1 (jC o l).2.2 H (tY o (jC o l).1 (jC o l).2.1 (jC o l).2.2 (iC (jC o l).1) (l9 o x (jC o l).2.1 (jC o l).2.2 (iC (jC o l).1)).1).1).2)
def lookW(H:Int)(l:List cZ)(S:Wm×List An)(o:bC):Wm×List An:=if(nJ o S.1).2.2.2.2.1 then S else(eG bg o (fR H l o (nJ o S.1)).1 S.1,S.2++(fR H l o (nJ o S.1)).2)
abbrev adE:=Nat×Int×Int×(List (bC×ia))×Nat×Nat×(List (bC×dP))×(List bT)×(List cZ)×Nat×(List An)×(List bC)
abbrev Ai:=Int×Bool×Nat×Int×Int×Bool×(List (bC×ia))×Nat×Nat×(List (bC×dP))×(List bT)×(List cZ)×Nat×(List An)×bC×ia×dw×Bs×(List bC)
def M1:Ai->AS:=λ(h,okv,HJ,t16,t17,t67,o1,o2L,o3L,o4,o5,o6,HH,alf,iU,aa9,aba,abb,aGq)=>⟨([.ptr (.bm 0) 0 [] 0,.ptr (.bm 2) 0 [] 0,bF,bF,bF,eT 95,bF,.ptr (.new 95 2) 0 [] 0,.ptr (.new 95 3) 0 [] 0,.ptr (.new 95 4) 0 [] 0,.d ti h,.d .bool okv,.ptr (.new 95 5) 0 [] 0,.fn 66 (.cons (eT 95) (.cons (.ptr (.new 95 2) 0 [] 0) (.cons (.ptr (.new 95 3) 0 [] 0) (.nil)))),bF,.bA (.new 95 6) 0 [] 0 0 HJ,.d ti t16,.d ti t17]++aP 49 ([.d .bool t67]++aP 28 [])),[apW (.pr (.cj (.bm 1) 0) fC),apW (.mp bg j6 o1),apW (.pr (.ptr (.bm 3) 0 [] 0) (.pr (.bA (.bm 6) 0 [] 0 0 o2L) fC)),apW (.pr (.cj (.bm 4) 0) (.pr (.bA (.bm 5) 0 [] 0 0 o3L) fC)),apW (.mp bg eO o4),apW (.vec 256 cD o5),apW (.vec 48 dR o6)],(bM 95 [[apW (.bA (.new 95 1) 0 [] 0 0 HH),apW (.vec 65 MN alf),apW (.d bg iU),apW (.d j6 aa9),apW (.d ez aba),apW (.d tH abb),apW (.vec 38 bg aGq)]])⟩
def Sk:rr:=rr.of {aV:=[0,1,5,7,8,9,10,11,12,13,15,16,17,67],sites:=[5,7,8,9,12,15,32,37,60,69,75,79,87,95],NF:=[⟨8,[.arr],j6⟩],aK1:=some 95} M1
def BQ:Ai->Option Ai:=λx=>(Sk).ay4 .normal (M1 x)
theorem Sl(x:Ai):BQ x=some x:=rr.IP (jx [.d ti,.d .bool,.n,.d ti,.d ti,.d .bool,.d (.slice (.pair bg j6)),.n,.n,.d (.slice (.pair bg eO)),.d (.slice cD),.d (.slice dR),.n,.d (.slice MN),.d bg,.d j6,.d ez,.d tB,.d (.slice bg)] λ_=>b8) x
abbrev Aj:=Nat×Int×Int×Bool×(List (bC×ia))×Nat×Nat×(List (bC×dP))×(List bT)×(List cZ)×Nat×(List An)×bC×ia×dw×(List bC)
def M3:Aj->AS:=λ(HJ,t16,t17,t83,o1,o2L,o3L,o4,o5,o6,HH,alf,iU,aa9,aba,abb)=>⟨([.ptr (.bm 0) 0 [] 0,.ptr (.bm 2) 0 [] 0,bF,bF,bF,eT 95,bF,.ptr (.new 95 2) 0 [] 0,.ptr (.new 95 3) 0 [] 0,.ptr (.new 95 4) 0 [] 0,bF,bF,bF,.fn 66 (.cons (eT 95) (.cons (.ptr (.new 95 2) 0 [] 0) (.cons (.ptr (.new 95 3) 0 [] 0) (.nil)))),bF,.bA (.new 95 5) 0 [] 0 0 HJ,.d ti t16,.d ti t17]++aP 65 ([.d .bool t83]++aP 12 [])),[apW (.pr (.cj (.bm 1) 0) fC),apW (.mp bg j6 o1),apW (.pr (.ptr (.bm 3) 0 [] 0) (.pr (.bA (.bm 6) 0 [] 0 0 o2L) fC)),apW (.pr (.cj (.bm 4) 0) (.pr (.bA (.bm 5) 0 [] 0 0 o3L) fC)),apW (.mp bg eO o4),apW (.vec 256 cD o5),apW (.vec 48 dR o6)],(bM 95 [[apW (.bA (.new 95 1) 0 [] 0 0 HH),apW (.vec 65 MN alf),apW (.d bg iU),apW (.d j6 aa9),apW (.d ez aba),apW (.vec 38 bg abb)]])⟩
def Sn:rr:=rr.of {aV:=[0,1,5,7,8,9,13,15,16,17,83],sites:=[5,7,8,9,12,15,32,37,60,69,75,79,87,95],NF:=[⟨8,[.arr],j6⟩],aK1:=some 95} M3
def BR:Aj->Option Aj:=λx=>(Sn).ay4 .normal (M3 x)
theorem Sp(x:Aj):BR x=some x:=rr.IP (jx [.n,.d ti,.d ti,.d .bool,.d (.slice (.pair bg j6)),.n,.n,.d (.slice (.pair bg eO)),.d (.slice cD),.d (.slice dR),.n,.d (.slice MN),.d bg,.d j6,.d ez,.d (.slice bg)] λ_=>b8) x
abbrev Ak:=Int×Bool×Nat×Int×Int×(List (bC×ia))×Nat×Nat×(List (bC×dP))×(List bT)×(List cZ)×Nat×(List An)×bC×ia×dw×Bs×(List bC)
def M4:Ak->AS:=λ(h,okv,HJ,t16,t17,o1,o2L,o3L,o4,o5,o6,HH,alf,iU,aa9,aba,abb,aGq)=>⟨([.ptr (.bm 0) 0 [] 0,.ptr (.bm 2) 0 [] 0,bF,bF,bF,eT 95,bF,.ptr (.new 95 2) 0 [] 0,.ptr (.new 95 3) 0 [] 0,.ptr (.new 95 4) 0 [] 0,.d ti h,.d .bool okv,.ptr (.new 95 5) 0 [] 0,.fn 66 (.cons (eT 95) (.cons (.ptr (.new 95 2) 0 [] 0) (.cons (.ptr (.new 95 3) 0 [] 0) (.nil)))),bF,.bA (.new 95 6) 0 [] 0 0 HJ,.d ti t16,.d ti t17]++aP 78 []),[apW (.pr (.cj (.bm 1) 0) fC),apW (.mp bg j6 o1),apW (.pr (.ptr (.bm 3) 0 [] 0) (.pr (.bA (.bm 6) 0 [] 0 0 o2L) fC)),apW (.pr (.cj (.bm 4) 0) (.pr (.bA (.bm 5) 0 [] 0 0 o3L) fC)),apW (.mp bg eO o4),apW (.vec 256 cD o5),apW (.vec 48 dR o6)],(bM 95 [[apW (.bA (.new 95 1) 0 [] 0 0 HH),apW (.vec 65 MN alf),apW (.d bg iU),apW (.d j6 aa9),apW (.d ez aba),apW (.d tH abb),apW (.vec 38 bg aGq)]])⟩
def Sq:rr:=rr.of {aV:=[0,1,5,7,8,9,10,11,12,13,15,16,17],sites:=[5,7,8,9,12,15,32,37,60,69,75,79,87,95],NF:=[⟨8,[.arr],j6⟩],aK1:=some 95} M4
def mR:Ak->Option Ak:=λx=>(Sq).ay4 .normal (M4 x)
theorem Sr(x:Ak):mR x=some x:=rr.IP (jx [.d ti,.d .bool,.n,.d ti,.d ti,.d (.slice (.pair bg j6)),.n,.n,.d (.slice (.pair bg eO)),.d (.slice cD),.d (.slice dR),.n,.d (.slice MN),.d bg,.d j6,.d ez,.d tB,.d (.slice bg)] λ_=>b8) x
abbrev Al:=Int×Bool×Nat×Int×Int×(List (bC×ia))×Nat×Nat×(List (bC×dP))×(List bT)×(List cZ)×Nat×(List An)×bC×ia×dw×(List bC)
def M5:Al->AS:=λ(h,okv,HJ,t16,t17,o1,o2L,o3L,o4,o5,o6,HH,alf,iU,aa9,aba,abb)=>⟨([.ptr (.bm 0) 0 [] 0,.ptr (.bm 2) 0 [] 0,bF,bF,bF,eT 95,bF,.ptr (.new 95 2) 0 [] 0,.ptr (.new 95 3) 0 [] 0,.ptr (.new 95 4) 0 [] 0,.d ti h,.d .bool okv,bF,.fn 66 (.cons (eT 95) (.cons (.ptr (.new 95 2) 0 [] 0) (.cons (.ptr (.new 95 3) 0 [] 0) (.nil)))),bF,.bA (.new 95 5) 0 [] 0 0 HJ,.d ti t16,.d ti t17]++aP 78 []),[apW (.pr (.cj (.bm 1) 0) fC),apW (.mp bg j6 o1),apW (.pr (.ptr (.bm 3) 0 [] 0) (.pr (.bA (.bm 6) 0 [] 0 0 o2L) fC)),apW (.pr (.cj (.bm 4) 0) (.pr (.bA (.bm 5) 0 [] 0 0 o3L) fC)),apW (.mp bg eO o4),apW (.vec 256 cD o5),apW (.vec 48 dR o6)],(bM 95 [[apW (.bA (.new 95 1) 0 [] 0 0 HH),apW (.vec 65 MN alf),apW (.d bg iU),apW (.d j6 aa9),apW (.d ez aba),apW (.vec 38 bg abb)]])⟩
def Ss:rr:=rr.of {aV:=[0,1,5,7,8,9,10,11,13,15,16,17],sites:=[5,7,8,9,12,15,32,37,60,69,75,79,87,95],NF:=[⟨8,[.arr],j6⟩],aK1:=some 95} M5
def BS:Al->Option Al:=λx=>(Ss).ay4 .normal (M5 x)
theorem Su(x:Al):BS x=some x:=rr.IP (jx [.d ti,.d .bool,.n,.d ti,.d ti,.d (.slice (.pair bg j6)),.n,.n,.d (.slice (.pair bg eO)),.d (.slice cD),.d (.slice dR),.n,.d (.slice MN),.d bg,.d j6,.d ez,.d (.slice bg)] λ_=>b8) x
abbrev awT:=(List (bC×ia))×Nat×Nat×(List (bC×dP))×(List bT)×(List cZ)
def aTc(nb n:Nat)(a:At)(s:List bT)(bs:List cZ):Prop:=∃A0 m,q9 A0 m nb n a s bs
def akY:adE->Prop:=λ(kL,kn,i,m,nb,n,a,s,bs,oL,out,ks)=>aTc nb n a s bs/\ks.length<=1000000/\kL=ks.length/\kn=(ks.length:Int)/\oL=out.length/\(∀p∈m,alc p.2)/\∃k:Nat,k<=ks.length/\i=k/\out.length<=3*k
def GR:adE->((List (bC×ia))×Nat×Nat×(List (bC×dP))×(List bT)×(List cZ)×Nat×(List An)×(List bC)):=λ(_,_,i,m,nb,n,a,s,bs,_,out,ks)=>(((ks.drop i.toNat).foldl (lookW nb (bs.take nb)) (m,out)).1,nb,n,a,s,bs,((ks.drop i.toNat).foldl (lookW nb (bs.take nb)) (m,out)).2.length,((ks.drop i.toNat).foldl (lookW nb (bs.take nb)) (m,out)).2,ks)
def WG(m:Wm):Prop:=m.length<=1000/\(m.map (·.1)).Nodup/\∀p∈m,Lp p.1/\alc p.2
def fg(nb:Nat)(bs:List cZ)(m:Wm):Wm×List An:=(GQ m).foldl (lookW nb (bs.take nb)) (m,[])
def aBY:awT->Prop:=λ(m,nb,n,a,s,bs)=>aTc nb n a s bs/\WG m
def K6:awT->(Nat×(List (bC×ia))×Nat×Nat×(List (bC×dP))×(List bT)×(List cZ)×(List An)):=λ(m,nb,n,a,s,bs)=>((fg nb bs m).2.length,(fg nb bs m).1,nb,n,a,s,bs,(fg nb bs m).2)
def p9:Ls akY bu GR:=rp (λ(HJ,t16,t17,dS,o2L,o3L,zJ,azK,azL,HH,alf,iU)=>⟨([.ptr (.bm 0) 0 [] 0,.ptr (.bm 2) 0 [] 0,bF,bF,bF,eT 95]++aP 9 ([.bA (.new 95 2) 0 [] 0 0 HJ,.d ti t16,.d ti t17]++aP 78 [])),[apW (.pr (.cj (.bm 1) 0) fC),apW (.mp bg j6 dS),apW (.pr (.ptr (.bm 3) 0 [] 0) (.pr (.bA (.bm 6) 0 [] 0 0 o2L) fC)),apW (.pr (.cj (.bm 4) 0) (.pr (.bA (.bm 5) 0 [] 0 0 o3L) fC)),apW (.mp bg eO zJ),apW (.vec 256 cD azK),apW (.vec 48 dR azL)],(bM 95 [[apW (.bA (.new 95 1) 0 [] 0 0 HH),apW (.vec 65 MN alf),apW (.vec 38 bg iU)]])⟩) (λx=>(.exit 0,⟨(aP 5 ([eT 95]++aP 90 [])),[apW (.pr (.cj (.bm 1) 0) fC),apW (.mp bg j6 x.1),apW (.pr (.ptr (.bm 3) 0 [] 0) (.pr (.bA (.bm 6) 0 [] 0 0 x.2.1) fC)),apW (.pr (.cj (.bm 4) 0) (.pr (.bA (.bm 5) 0 [] 0 0 x.2.2.1) fC)),apW (.mp bg eO x.2.2.2.1),apW (.vec 256 cD x.2.2.2.2.1),apW (.vec 48 dR x.2.2.2.2.2.1)],(bM 95 [[apW (.bA (.new 95 1) 0 [] 0 0 x.2.2.2.2.2.2.1),apW (.vec 65 MN x.2.2.2.2.2.2.2.1),apW (.vec 38 bg x.2.2.2.2.2.2.2.2)]])⟩))
def yz:Fs Tryz.prog aBY bu K6:=eN 31 Tryz.f31 (λ(o1,o2baL,o3baL,o4,o5,o6)=>([.ptr (.bm 0) 0 [] 0,.ptr (.bm 2) 0 [] 0],[apW (.pr (.cj (.bm 1) 0) (.d .unit ())),apW (.mp bg j6 o1),apW (.pr (.ptr (.bm 3) 0 [] 0) (.pr (.bA (.bm 6) 0 [] 0 0 o2baL) (.d .unit ()))),apW (.pr (.cj (.bm 4) 0) (.pr (.bA (.bm 5) 0 [] 0 0 o3baL) (.d .unit ()))),apW (.mp bg eO o4),apW (.vec 256 cD o5),apW (.vec 48 dR o6)])) (λx=>⟨.bA (.new 0 0) 0 [] 0 0 x.1,[apW (.pr (.cj (.bm 1) 0) (.d .unit ())),apW (.mp bg j6 x.2.1),apW (.pr (.ptr (.bm 3) 0 [] 0) (.pr (.bA (.bm 6) 0 [] 0 0 x.2.2.1) (.d .unit ()))),apW (.pr (.cj (.bm 4) 0) (.pr (.bA (.bm 5) 0 [] 0 0 x.2.2.2.1) (.d .unit ()))),apW (.mp bg eO x.2.2.2.2.1),apW (.vec 256 cD x.2.2.2.2.2.1),apW (.vec 48 dR x.2.2.2.2.2.2.1)],[apW (.vec 65 MN x.2.2.2.2.2.2.2)]⟩) [none,none] [awP,Zb,UC,aJj,adC,Cc] {loops:=nY [(3,{aV:=[0,1,5,15,16,17],sites:=[5,7,8,9,12,15,32,37,60,69,75,79,87,94,95],owns:=[⟨5,[.arr],94,43⟩],aK1:=some 95})],outs:=nX [(3,{aV:=[5],sites:=[95]},{aV:=[4]})],fF:=nK [(3,p9.E)],aNI:=nK [(13,Sk),(16,Sn)],avW:=nK [(13,Sq),(16,Ss)]}
theorem akZ:p9.RS:=rL [.n,.d ti,.d ti,.d (.slice (.pair bg j6)),.n,.n,.d (.slice (.pair bg eO)),.d (.slice cD),.d (.slice dR),.n,.d (.slice MN),.d (.slice bg)] p9
theorem M6(HJ t16 t17 dS o2L o3L zJ azK azL HH alf iU)(kn:K2 R)(kx:K3 R):yz.R 0 p9 (HJ,t16,t17,dS,o2L,o3L,zJ,azK,azL,HH,alf,iU) kn kx=aJ ((gr t17 t16)) (aJ (ed t17 ((HJ:Nat):Int)) (aJ (decide ((0+(ae t17)) < (ag iU))) (aJ (decide ((((0+(ae t17))*33)+0)=(0+((ae t17)*33)))) (aJ (((bN bg (nth bg iU (0+(ae t17))) dS).getD (false,((([]:List gK),(([]:List gm),(0,()))),((ab 32 0),(0,(false,())))))).2.2.2.2.1) (kn (p9.st (HJ,t16,(bI .i64 t17 1),dS,o2L,o3L,zJ,azK,azL,HH,alf,iU))) (al (uB.call ((nth bg iU (0+(ae t17))),o2L,o3L,zJ,azK,azL)) λDS=>al (tid.call DS.1) λaQO=>al (aJ (((bN bg (nth bg iU (0+(ae t17))) dS).getD (false,((([]:List gK),(([]:List gm),(0,()))),((ab 32 0),(0,(false,())))))).1) (aJ (!DS.2.2.1) (al (HA.call (2,((bN bg (nth bg iU (0+(ae t17))) dS).getD (false,((([]:List gK),(([]:List gm),(0,()))),((ab 32 0),(0,(false,())))))).2.1,HH,alf,(nth bg iU (0+(ae t17))),((bN bg (nth bg iU (0+(ae t17))) dS).getD (false,((([]:List gK),(([]:List gm),(0,()))),((ab 32 0),(0,(false,())))))))) λaU8=>mR (DS.2.1,DS.2.2.1,HJ,t16,t17,dS,DS.2.2.2.1,DS.2.2.2.2.1,DS.2.2.2.2.2.1,DS.2.2.2.2.2.2.1,DS.2.2.2.2.2.2.2,aU8.2.1,aU8.2.2,aU8.1.1,(false,((([]:List gK),(([]:List gm),(0,()))),((ab 32 0),(0,(false,()))))),DS.1,aQO,iU)) (aJ (A7 DS.2.1 ((bN bg (nth bg iU (0+(ae t17))) dS).getD (false,((([]:List gK),(([]:List gm),(0,()))),((ab 32 0),(0,(false,())))))).2.2.2.1) (al (HA.call (2,((bN bg (nth bg iU (0+(ae t17))) dS).getD (false,((([]:List gK),(([]:List gm),(0,()))),((ab 32 0),(0,(false,())))))).2.1,HH,alf,(nth bg iU (0+(ae t17))),((bN bg (nth bg iU (0+(ae t17))) dS).getD (false,((([]:List gK),(([]:List gm),(0,()))),((ab 32 0),(0,(false,())))))))) λaVb=>mR (DS.2.1,DS.2.2.1,HJ,t16,t17,dS,DS.2.2.2.1,DS.2.2.2.2.1,DS.2.2.2.2.2.1,DS.2.2.2.2.2.2.1,DS.2.2.2.2.2.2.2,aVb.2.1,aVb.2.2,aVb.1.1,(false,((([]:List gK),(([]:List gm),(0,()))),((ab 32 0),(0,(false,()))))),DS.1,aQO,iU)) (aJ (!(Ty.beq tH aQO ((bN bg (nth bg iU (0+(ae t17))) dS).getD (false,((([]:List gK),(([]:List gm),(0,()))),((ab 32 0),(0,(false,())))))).2.2.1)) (al (HA.call (2,((bN bg (nth bg iU (0+(ae t17))) dS).getD (false,((([]:List gK),(([]:List gm),(0,()))),((ab 32 0),(0,(false,())))))).2.1,HH,alf,(nth bg iU (0+(ae t17))),((bN bg (nth bg iU (0+(ae t17))) dS).getD (false,((([]:List gK),(([]:List gm),(0,()))),((ab 32 0),(0,(false,())))))))) λaVc=>mR (DS.2.1,DS.2.2.1,HJ,t16,t17,dS,DS.2.2.2.1,DS.2.2.2.2.1,DS.2.2.2.2.2.1,DS.2.2.2.2.2.2.1,DS.2.2.2.2.2.2.2,aVc.2.1,aVc.2.2,aVc.1.1,(false,((([]:List gK),(([]:List gm),(0,()))),((ab 32 0),(0,(false,()))))),DS.1,aQO,iU)) (mR (DS.2.1,DS.2.2.1,HJ,t16,t17,dS,DS.2.2.2.1,DS.2.2.2.2.1,DS.2.2.2.2.2.1,DS.2.2.2.2.2.2.1,DS.2.2.2.2.2.2.2,HH,alf,(nth bg iU (0+(ae t17))),((bN bg (nth bg iU (0+(ae t17))) dS).getD (false,((([]:List gK),(([]:List gm),(0,()))),((ab 32 0),(0,(false,())))))),DS.1,aQO,iU))))) (mR (DS.2.1,DS.2.2.1,HJ,t16,t17,dS,DS.2.2.2.1,DS.2.2.2.2.1,DS.2.2.2.2.2.1,DS.2.2.2.2.2.2.1,DS.2.2.2.2.2.2.2,HH,alf,(nth bg iU (0+(ae t17))),((bN bg (nth bg iU (0+(ae t17))) dS).getD (false,((([]:List gK),(([]:List gm),(0,()))),((ab 32 0),(0,(false,())))))),DS.1,aQO,iU))) λHB=>al (al (aJ (HB.2.1) (BQ (HB.1,HB.2.1,HB.2.2.1,HB.2.2.2.1,HB.2.2.2.2.1,(!HB.2.2.2.2.2.2.2.2.2.2.2.2.2.2.1.1),HB.2.2.2.2.2.1,HB.2.2.2.2.2.2.1,HB.2.2.2.2.2.2.2.1,HB.2.2.2.2.2.2.2.2.1,HB.2.2.2.2.2.2.2.2.2.1,HB.2.2.2.2.2.2.2.2.2.2.1,HB.2.2.2.2.2.2.2.2.2.2.2.1,HB.2.2.2.2.2.2.2.2.2.2.2.2.1,HB.2.2.2.2.2.2.2.2.2.2.2.2.2.1,HB.2.2.2.2.2.2.2.2.2.2.2.2.2.2.1,HB.2.2.2.2.2.2.2.2.2.2.2.2.2.2.2.1,HB.2.2.2.2.2.2.2.2.2.2.2.2.2.2.2.2.1,HB.2.2.2.2.2.2.2.2.2.2.2.2.2.2.2.2.2)) (BQ (HB.1,HB.2.1,HB.2.2.1,HB.2.2.2.1,HB.2.2.2.2.1,false,HB.2.2.2.2.2.1,HB.2.2.2.2.2.2.1,HB.2.2.2.2.2.2.2.1,HB.2.2.2.2.2.2.2.2.1,HB.2.2.2.2.2.2.2.2.2.1,HB.2.2.2.2.2.2.2.2.2.2.1,HB.2.2.2.2.2.2.2.2.2.2.2.1,HB.2.2.2.2.2.2.2.2.2.2.2.2.1,HB.2.2.2.2.2.2.2.2.2.2.2.2.2.1,HB.2.2.2.2.2.2.2.2.2.2.2.2.2.2.1,HB.2.2.2.2.2.2.2.2.2.2.2.2.2.2.2.1,HB.2.2.2.2.2.2.2.2.2.2.2.2.2.2.2.2.1,HB.2.2.2.2.2.2.2.2.2.2.2.2.2.2.2.2.2))) λHC=>aJ (HC.2.2.2.2.2.1) (al (M0.call HC.2.2.2.2.2.2.2.2.2.2.2.2.2.2.2.2.1) λaXz=>al (HA.call (1,HC.2.2.2.2.2.2.2.2.2.2.2.2.2.2.2.2.1,HC.2.2.2.2.2.2.2.2.2.2.2.2.1,HC.2.2.2.2.2.2.2.2.2.2.2.2.2.1,HC.2.2.2.2.2.2.2.2.2.2.2.2.2.2.1,(true,(aXz,(HC.2.2.2.2.2.2.2.2.2.2.2.2.2.2.2.2.2.1,(HC.1,(false,()))))))) λaTb=>BS (HC.1,HC.2.1,HC.2.2.1,HC.2.2.2.1,HC.2.2.2.2.1,HC.2.2.2.2.2.2.1,HC.2.2.2.2.2.2.2.1,HC.2.2.2.2.2.2.2.2.1,HC.2.2.2.2.2.2.2.2.2.1,HC.2.2.2.2.2.2.2.2.2.2.1,HC.2.2.2.2.2.2.2.2.2.2.2.1,aTb.2.1,aTb.2.2,aTb.1.1,aTb.1.2,HC.2.2.2.2.2.2.2.2.2.2.2.2.2.2.2.2.1,HC.2.2.2.2.2.2.2.2.2.2.2.2.2.2.2.2.2.2)) (BS (HC.1,HC.2.1,HC.2.2.1,HC.2.2.2.1,HC.2.2.2.2.1,HC.2.2.2.2.2.2.1,HC.2.2.2.2.2.2.2.1,HC.2.2.2.2.2.2.2.2.1,HC.2.2.2.2.2.2.2.2.2.1,HC.2.2.2.2.2.2.2.2.2.2.1,HC.2.2.2.2.2.2.2.2.2.2.2.1,HC.2.2.2.2.2.2.2.2.2.2.2.2.1,HC.2.2.2.2.2.2.2.2.2.2.2.2.2.1,HC.2.2.2.2.2.2.2.2.2.2.2.2.2.2.1,HC.2.2.2.2.2.2.2.2.2.2.2.2.2.2.2.1,HC.2.2.2.2.2.2.2.2.2.2.2.2.2.2.2.2.1,HC.2.2.2.2.2.2.2.2.2.2.2.2.2.2.2.2.2.2))) λM7=>al (aJ (M7.2.1) (al (pb.call (M7.2.2.2.2.2.2.1,M7.2.2.2.2.2.2.2.1,M7.2.2.2.2.2.2.2.2.1,M7.2.2.2.2.2.2.2.2.2.1,M7.2.2.2.2.2.2.2.2.2.2.1)) λaQR=>BR (M7.2.2.1,M7.2.2.2.1,M7.2.2.2.2.1,(qZ (cR .i64 aQR.2 M7.1) 6),M7.2.2.2.2.2.1,aQR.1.1,aQR.1.2.1,aQR.1.2.2.1,aQR.1.2.2.2.1,aQR.1.2.2.2.2,M7.2.2.2.2.2.2.2.2.2.2.2.1,M7.2.2.2.2.2.2.2.2.2.2.2.2.1,M7.2.2.2.2.2.2.2.2.2.2.2.2.2.1,M7.2.2.2.2.2.2.2.2.2.2.2.2.2.2.1,M7.2.2.2.2.2.2.2.2.2.2.2.2.2.2.2.1,M7.2.2.2.2.2.2.2.2.2.2.2.2.2.2.2.2)) (BR (M7.2.2.1,M7.2.2.2.1,M7.2.2.2.2.1,false,M7.2.2.2.2.2.1,M7.2.2.2.2.2.2.1,M7.2.2.2.2.2.2.2.1,M7.2.2.2.2.2.2.2.2.1,M7.2.2.2.2.2.2.2.2.2.1,M7.2.2.2.2.2.2.2.2.2.2.1,M7.2.2.2.2.2.2.2.2.2.2.2.1,M7.2.2.2.2.2.2.2.2.2.2.2.2.1,M7.2.2.2.2.2.2.2.2.2.2.2.2.2.1,M7.2.2.2.2.2.2.2.2.2.2.2.2.2.2.1,M7.2.2.2.2.2.2.2.2.2.2.2.2.2.2.2.1,M7.2.2.2.2.2.2.2.2.2.2.2.2.2.2.2.2))) λK8=>aJ (K8.2.2.2.1) (al (HA.call (3,K8.2.2.2.2.2.2.2.2.2.2.2.2.2.2.1,K8.2.2.2.2.2.2.2.2.2.2.1,K8.2.2.2.2.2.2.2.2.2.2.2.1,K8.2.2.2.2.2.2.2.2.2.2.2.2.1,(K8.2.2.2.2.2.2.2.2.2.2.2.2.2.1.1,(K8.2.2.2.2.2.2.2.2.2.2.2.2.2.1.2.1,(K8.2.2.2.2.2.2.2.2.2.2.2.2.2.1.2.2.1,(K8.2.2.2.2.2.2.2.2.2.2.2.2.2.1.2.2.2.1,(true,K8.2.2.2.2.2.2.2.2.2.2.2.2.2.1.2.2.2.2.2))))))) λaN0=>kn (p9.st (K8.1,K8.2.1,(bI .i64 K8.2.2.1 1),(eG bg aN0.1.1 aN0.1.2 K8.2.2.2.2.1),K8.2.2.2.2.2.1,K8.2.2.2.2.2.2.1,K8.2.2.2.2.2.2.2.1,K8.2.2.2.2.2.2.2.2.1,K8.2.2.2.2.2.2.2.2.2.1,aN0.2.1,aN0.2.2,K8.2.2.2.2.2.2.2.2.2.2.2.2.2.2.2))) (kn (p9.st (K8.1,K8.2.1,(bI .i64 K8.2.2.1 1),(eG bg K8.2.2.2.2.2.2.2.2.2.2.2.2.1 K8.2.2.2.2.2.2.2.2.2.2.2.2.2.1 K8.2.2.2.2.1),K8.2.2.2.2.2.1,K8.2.2.2.2.2.2.1,K8.2.2.2.2.2.2.2.1,K8.2.2.2.2.2.2.2.2.1,K8.2.2.2.2.2.2.2.2.2.1,K8.2.2.2.2.2.2.2.2.2.2.1,K8.2.2.2.2.2.2.2.2.2.2.2.1,K8.2.2.2.2.2.2.2.2.2.2.2.2.2.2.2))))) none) none) none) (p9.go kx (dS,o2L,o3L,zJ,azK,azL,HH,alf,iU)):=b8
theorem aI9(o1 o2baL o3baL o4 o5 o6)(k:K1 R):yz.A (o1,o2baL,o3baL,o4,o5,o6) k=al (wall.call o1) λaM8=>al (p9.call (aM8.1,((aM8.1:Nat):Int),0,aM8.2.1,o2baL,o3baL,o4,o5,o6,0,([]:List An),aM8.2.2)) λPa=>k (yz.out (Pa.2.2.2.2.2.2.1,Pa.1,Pa.2.1,Pa.2.2.1,Pa.2.2.2.1,Pa.2.2.2.2.1,Pa.2.2.2.2.2.1,Pa.2.2.2.2.2.2.2.1)):=b8
theorem arZ{m:Wm}(h:∀p∈m,alc p.2)(o:bC):alc (nJ o m):=by
 unfold nJ;cases hg:bN bg o m with
 |none=>exact W4
 |some x=>
  have:∃p∈m,p.2=x:=by
   unfold bN at hg;cases hi:iT bg o m with
   |none=>rw[hi]at hg;cases hg
   |some i=>
    rw[hi]at hg;have hg:(m[i]?).map (·.2)=some x:=hg;rw[dd]at hg;obtain⟨p,hp,e⟩:=hg;exact⟨p,cJ hp,e⟩
  obtain⟨p,hp,rfl⟩:=this;exact h p hp
theorem akr{A0:At}{b nb n:Nat}{a:At}{s:List bT}{bs:List cZ}(h:q9 A0 b nb n a s bs)(o:bC):nU (jC o (bs.take nb)).1/\((jC o (bs.take nb)).2.2=true->hJ (jC o (bs.take nb)).1=true/\1<=(jC o (bs.take nb)).2.1)/\0<=(jC o (bs.take nb)).2.1/\(jC o (bs.take nb)).2.1<=nb:=by
 unfold jC;cases e:xL o (bs.take nb) 0 with
 |none=>exact⟨v0,λh=>(by cases h),iD _,by show(0:Int)<=nb;omega⟩
 |some x=>
  obtain⟨h1,h2,c,h3,h4⟩:=aub e;obtain⟨h5,h6⟩:=h.aUB h3 h4;rw[bp]at h2;exact⟨h6,λ_=>⟨h5,by show 1<=x.2;omega⟩,by show 0<=x.2;omega,by show x.2<=nb;omega⟩
theorem ahe{A0:At}{b nb n:Nat}{a:At}{s:List bT}{bs:List cZ}(h:q9 A0 b nb n a s bs)(o:bC):uB.call (o,nb,n,a,s,bs)=some ((jC o (bs.take nb)).1,(jC o (bs.take nb)).2.1,(jC o (bs.take nb)).2.2,nb,n,a,s,bs):=by
 rw[h.aSs o];unfold jC
 all_goals cases xL o (bs.take nb) 0 <;> rfl
theorem ags{m:Wm}{o:bC}{v:ia}{p:bC×ia}(h:p∈eG bg o v m):p=(o,v)\/p∈m:=by
 unfold eG at h;split at h
 ·exact(List.mem_or_eq_of_mem_set h).symm
 ·rcases bz.1 h with h | h
  ·exact .inr h
  ·exact .inl (bk.1 h)
theorem aLL{A0:At}{b nb n:Nat}{a:At}{s:List bT}{bs:List cZ}(h:q9 A0 b nb n a s bs)(H:Int)(o:bC){x:ia}(hx:alc x):alc (fR H (bs.take nb) o x).1:=by
 obtain⟨hv,jn,_⟩:=akr h o;unfold fR;split
 ·exact hx
 ·generalize jC o (bs.take nb)=r at hv jn;have h1:alc (l9 o x r.2.1 r.2.2 (iC r.1)).1:=by
   unfold l9;split
   ·exact W4
   ·exact hx
  have h2:alc (tY o r.1 r.2.1 r.2.2 (iC r.1) (l9 o x r.2.1 r.2.2 (iC r.1)).1).1:=by
   unfold tY;split
   ·rename_i hc;exact⟨hv,λ_=>(jn (by simp only[au]at hc;exact hc.1)).1⟩
   ·exact h1
  show alc (Bb o r.1 r.2.1 r.2.2 H _).1;unfold Bb;split
  ·exact⟨h2.1,h2.2⟩
  ·exact h2
theorem azl(H:Int)(l:List cZ)(o:bC)(x:ia):(fR H l o x).2.length<=3:=by
 unfold fR;split
 ·exact aK _
 ·have h1:∀h ok id,(l9 o x h ok id).2.length<=1:=λh ok id=>by unfold l9;split <;> exact dI rfl
  have h2:∀t h ok id x,(tY o t h ok id x).2.length<=1:=λt h ok id x=>by unfold tY;split <;> exact dI rfl
  have h3:∀t h ok H x,(Bb o t h ok H x).2.length<=1:=λt h ok H x=>by unfold Bb;split <;> exact dI rfl
  simp only[ai];have:=h1 (jC o l).2.1 (jC o l).2.2 (iC (jC o l).1);have:=h2 (jC o l).1 (jC o l).2.1 (jC o l).2.2 (iC (jC o l).1) (l9 o x (jC o l).2.1 (jC o l).2.2 (iC (jC o l).1)).1;have:=h3 (jC o l).1 (jC o l).2.1 (jC o l).2.2 H (tY o (jC o l).1 (jC o l).2.1 (jC o l).2.2 (iC (jC o l).1) (l9 o x (jC o l).2.1 (jC o l).2.2 (iC (jC o l).1)).1).1;omega
theorem av4{A0:At}{b nb n:Nat}{a:At}{s:List bT}{bs:List cZ}(h:q9 A0 b nb n a s bs)(H:Int)(o:bC){m:Wm}(out:List An)(hm:∀p∈m,alc p.2):
  (∀p∈(lookW H (bs.take nb) (m,out) o).1,alc p.2)/\(lookW H (bs.take nb) (m,out) o).2.length<=out.length+3:=by
 unfold lookW;split
 ·exact⟨hm,qj _ _⟩
 ·refine⟨λp hp=> ?_,?_⟩
  ·rcases ags hp with rfl | hp
   ·exact aLL h H o (arZ hm o)
   ·exact hm p hp
  ·rw[ai];have:=azl H (bs.take nb) o (nJ o (m,out).1);show out.length+_<=_;omega
theorem aqf:(yz.kM 0 p9):=by
 refine(yz.mf 0 p9) (λ(_,_,i,_,_,_,_,_,_,_,_,ks)=>ks.length - i.toNat) ?_
 rintro⟨kL,kn,i,m,nb,n,a,s,bs,oL,out,ks⟩ ⟨hj,aFc,rfl,rfl,rfl,hm,k,hk,rfl,ho⟩;obtain⟨A0,b,hc⟩:=id hj;have aFc:ks.length<=1000000:=aFc;have hk:k<=ks.length:=hk;have ho:out.length<=3*k:=ho;have ayU:nb<=1000000:=hc.ch.2.1;by_cases h:k < ks.length
 ·left;have n1:nth bg ks k=ks[k]:=cd (t:=bg) h;have hd:ks.drop k=ks[k]::ks.drop (k+1):=aq h;generalize ks[k]=o at n1 hd;obtain⟨g1,g2⟩:=av4 hc nb o out hm;refine⟨(ks.length,(ks.length:Int),((k+1:Nat):Int),(lookW nb (bs.take nb) (m,out) o).1,nb,n,a,s,bs,(lookW nb (bs.take nb) (m,out) o).2.length,(lookW nb (bs.take nb) (m,out) o).2,ks),⟨hj,aFc,rfl,rfl,rfl,g1,k+1,h,rfl,by show _<=3*(k+1);omega⟩,by simp only[aa];omega,?_,λkn kx=> ?_⟩
  ·simp only[bu,GR,aa,hd,bq]
  clear g1 g2 hd;have hx:=arZ hm o;obtain⟨hv,jn,h0,hH⟩:=akr hc o;have csp:=ahe hc o;have ex:(bN bg o m).getD (false,((([]:List gK),(([]:List gm),((0:Int),()))),((ab 32 (0:Int)),((0:Int),(false,())))))=nJ o m:=rfl;have el:lookW nb (bs.take nb) (m,out) o=if(nJ o m).2.2.2.2.1 then(m,out) else(eG bg o (fR nb (bs.take nb) o (nJ o m)).1 m,out++(fR nb (bs.take nb) o (nJ o m)).2):=rfl
  rw[M6,aU ak,aj,bj ak ak,aj,aa,aO,aM h,aj,aM ak,aj,n1,ex];generalize nJ o m=x at hx el ⊢;cases hf:x.2.2.2.2.1 with
  |true=>
   rw[hf,if_pos rfl]at el;rw[aj,el,N.mD ak]
  |false=>
   rw[hf,if_neg (by decide)]at el;have eX:fR nb (bs.take nb) o x=_:=if_neg (by rw[hf];decide);rw[ao,csp,el,eX];generalize jC o (bs.take nb)=r at hv jn h0 hH csp;obtain⟨t,hh,okv⟩:=r;have hv:nU t:=hv;have h0:0<=hh:=h0;have hH:hh<=nb:=hH;rw[ah];show al (tid.call t) _=_;rw[GG (d:=t) hv];simp only[bu,R6,Sr,Sl,Su,Sp,ah];have c1:∀(out':List An) (x':ia) (d:Int),out'.length<=1000000000->okv=true->HA.call (d,t,out'.length,out',o,x')=some ((o,x'),(out'.length+1,out'++ [(d,(o,(t,(x'.2.2.2.1,()))))])):=λout' x' d hl hk=>by have:=ahv (d:=(d,t,out'.length,out',o,x')) ⟨hv,rfl,hl⟩;simp only[UP,ak6,OP hv (jn hk).1]at this;exact this
   obtain⟨r1,aFh⟩:∃r,l9 o x hh okv (iC t)=r:=⟨_,rfl⟩;refine(bo (λz=>al z _) (?_:_=some (hh,okv,ks.length,(ks.length:Int),(k:Int),m,nb,n,a,s,bs,(out++r1.2).length,out++r1.2,o,r1.1,t,iC t,ks))).trans ?_
   ·rw[<-aFh];unfold l9 Ci;cases aPi:x.1 with
    |false=>simp only[ao,cH,bn,bt,aZ]
    |true=>
     have cw:=ahv (d:=(2,x.2.1,out.length,out,o,x)) ⟨hx.1,rfl,by show out.length<=_;omega⟩;simp only[UP,ak6,OP hx.1 (hx.2 aPi)]at cw;rw[cw];simp only[ah,aj,bw];cases okv with
     |false=>simp only[fb,aj,Bool.true_or,bG,ai];rfl
     |true=>
      simp only[cm,ao,wj];cases A7 hh x.2.2.2.1 with
      |true=>simp only[aj,Bool.true_or,bG,ai];rfl
      |false=>
       simp only[ao,wj];cases Ty.beq tH (iC t) x.2.2.1 with
       |true=>simp only[cm,ao,bn,bt,aZ]
       |false=>simp only[fb,aj,bG,ai];rfl
   have l1:(out++r1.2).length<=out.length+1:=by
    rw[<-aFh];unfold l9;split
    ·rw[ai];exact ax _
    ·rw[ai];exact oS _
   rw[ah];obtain⟨out1,aVH⟩:∃l,out++r1.2=l:=⟨_,rfl⟩;rw[aVH]at l1 ⊢;obtain⟨r2,ad3⟩:∃r,tY o t hh okv (iC t) r1.1=r:=⟨_,rfl⟩;refine(bo (λz=>al z _) (?_:_=some (hh,okv,ks.length,(ks.length:Int),(k:Int),m,nb,n,a,s,bs,(out1++r2.2).length,out1++r2.2,o,r2.1,t,ks))).trans ?_
   ·rw[<-ad3];unfold tY;cases ai0:okv with
    |false=>simp only[ao,ah,cH,bn,bt,aZ]
    |true=>
     cases aPi:r1.1.1 with
     |true=>simp only[aj,ao,ah,cm,Bool.and_false,bn,bt,aZ]
     |false=>
      have cw:=c1 out1 (true,(t,(iC t,(hh,(false,()))))) 1 ak ai0;have ck:=UK (d:=t) hv;simp only[bu,akW,OP hv (jn ai0).1]at ck;simp only[aj,ah,fb,wi,bG,ck,cw,ai];rfl
   have l2:(out1++r2.2).length<=out1.length+1:=by
    rw[<-ad3];unfold tY;split
    ·rw[ai];exact ax _
    ·rw[ai];exact oS _
   rw[ah];obtain⟨out2,aSV⟩:∃l,out1++r2.2=l:=⟨_,rfl⟩;rw[aSV]at l2 ⊢;refine(bo (λz=>al z _) (?_:_=some (ks.length,(ks.length:Int),(k:Int),okv && qZ (nb - hh) 6,m,nb,n,a,s,bs,out2.length,out2,o,r2.1,t,ks))).trans ?_
   ·cases okv with
    |false=>simp only[ao,cH]
    |true=>simp only[aj,bw,Y7,ah];rw[eL ak ak]
   rw[ah];simp only[aFh,ad3];rw[<-aF,<-aF,aVH,aSV];unfold Bb;cases aE9:(okv && qZ (nb - hh) 6) with
   |false=>
    simp only[ao,bn,bt,aZ];rw[N.mD ak]
   |true=>
    have ai0:okv=true:=by simp only[au]at aE9;exact aE9.1
    have cw:=c1 out2 (r2.1.1,(r2.1.2.1,(r2.1.2.2.1,(r2.1.2.2.2.1,(true,()))))) 3 ak ai0;simp only[aj,bG];refine(bo (λz=>al z _) cw).trans ?_
    rw[ah,N.mD ak,ai];rfl
 ·right;obtain rfl:k=ks.length:=ak;intro R kn kx;rw[M6,aQ ak,ao];simp only[bu,GR,aa,aL,cO]
theorem UL{m:Wm}(h:∀p∈m,Lp p.1):(GQ m).Perm (m.map (·.1)):=(aku D7 λx hx=>by
 obtain⟨p,hp,rfl⟩:=cT.1 hx;exact h p hp).1
theorem aJa:yz.Ok:=by
 rintro⟨m,nb,n,a,s,bs⟩ ⟨hj,hl,hn,hm⟩;have hl:m.length<=1000:=hl;have hle:nb<=bs.length:=by obtain⟨A0,b,hc⟩:=hj;exact hc.ch.1
 have hlen:(GQ m).length=m.length:=by rw[(UL λp hp=>(hm p hp).1).length_eq,bV]
 have z1:((0:Int)).toNat=0:=rfl;rw[aI9,adA (d:=m) ⟨by show m.length<=_;omega,λp hp=>(hm p hp).1⟩];simp only[ah,bu,auJ];rw[akZ (d:=(m.length,(m.length:Int),0,m,nb,n,a,s,bs,0,[],GQ m)) ⟨hj,by show(GQ m).length<=_;omega,hlen.symm,by show(m.length:Int)=_;rw[hlen],rfl,λp hp=>(hm p hp).2,0,aK _,rfl,ax _⟩];simp only[ah,bu,GR,z1,aD,bu,K6,fg]
theorem EU:yz.RS:=rE [.d (.slice (.pair bg j6)),.n,.n,.d (.slice (.pair bg eO)),.d (.slice cD),.d (.slice dR)] yz
def aqg:=yz.eU aJa 1 ⟨.fv aqf,trivial⟩
def Bx:Int->SA:=λn=>([.d ti n],[])
def KT:Bs->fK:=λx=>⟨.d tB x,[],[]⟩
def tM:Int->Bs->Bs:=λn y=>y
def KS:Nat->Int->Prop
 | 0=>λ_=>False
 |dep+1=>λn=>0<=n/\n<=9223372036854775807/\n < 128^(dep+1)
def CD:Int->Bs:=λn=>gw n
theorem atJ{n:Int}(h:n < 128):gw n=[n]:=by unfold gw;rw[gN,if_neg ak];rfl
theorem aAT{n:Int}(h:128<=n)(h2:n<=9223372036854775807):gw n=(n%128+128)::gw (n / 128):=by unfold gw;rw[ag1 h h2];rfl
theorem aqa{n:Int}(h0:0<=n)(h:n < 256):dX .u8 n=n:=by rw[Tz,hZ];omega
theorem agO:∀d d',Bx d=Bx d'->d=d':=Xd [.d ti] λ_=>b8
def Ye(dep:Nat):Entry:=Entry.of [some ti] Bx (KS dep) (λd=>tM d (CD d)) KT
def Wp(dep:Nat):Int->Option Bs:=λd=>(Ye dep).run (Bx d).1 (Bx d).2
theorem atq{dep:Nat}{d:Int}(h:KS dep d):Wp dep d=some (tM d (CD d)):=Entry.vO agO h
def awt(dep:Nat):oR:=avK 191 mr (Ye dep) (jI (P:=Tryz.prog) [])
def ab0:xi:= {bJ:=[8,13],res:=[some tB]}
def awr(dep:Nat):= @HM Tryz.prog (awt dep) ab0 0 Tryz.f191 _ Bx
theorem aHg(dep:Nat)(n:Int)(k:fK->Option R):awr dep n k=aJ ((gr n (128:Int))) (k (KT [(dX .u8 n)])) (al (Wp dep (tX .i64 n (128:Int))) λx1=>aJ (db (1+(ag x1)) 1) (aJ (decide (0=0/\(0+(1+(ag x1)))<=(ag ([(bI .u8 (dX .u8 (mS n (128:Int))) (128:Int))]++x1)))) (k (KT (cut ([(bI .u8 (dX .u8 (mS n (128:Int))) (128:Int))]++x1) 0 (1+(ag x1))))) none) none):=b8
theorem aHh:∀(dep:Nat) (d:Int),KS (dep+1) d->awr dep d some=some (KT (tM d (CD d))):=by
 rintro dep (n:Int) ⟨h0,h1,h2⟩;have h0:0<=n:=h0;have h1:n<=9223372036854775807:=h1;have h2:n < 128^(dep+1):=h2;rw[aHg];simp only[tM,CD];by_cases h:n < 128
 ·rw[aU h,aj,atJ h,aqa h0 ak]
 ·obtain⟨m,rfl⟩:∃m:Nat,n=m:=⟨n.toNat,ak⟩;cases dep with
  |zero=>exact absurd h2 h
  |succ dep=>
   have e:(128:Int)^(dep+1+1)=128^(dep+1)*128:=fO 128 (dep+1);have e1:tX .i64 (m:Int) (128:Int)=((m / 128:Nat):Int):=N.aUI ak;have e2:mS (m:Int) (128:Int)=((m%128:Nat):Int):=N.aS5;have e3:bI .u8 (dX .u8 ((m%128:Nat):Int)) (128:Int)=(m:Int)%128+128:=by rw[aqa ak ak];show IntKind.u8.wrap _=_;rw[wrap_u8,hZ];omega
   have e4:((m / 128:Nat):Int)=(m:Int) / 128:=ak;have hl:=kH ((m:Int) / 128);rw[aQ h,ao,e1,e2,e3,e4,atq (dep:=dep+1) (d:=(m:Int) / 128) ⟨by show 0<=(m:Int) / 128;omega,by show(m:Int) / 128<=_;omega,by show(m:Int) / 128 < _;omega⟩];simp only[ah,tM,CD];rw[dr ak ak,aAT ak h1];have el:([(m:Int)%128+128]++gw ((m:Int) / 128)).length=1+(gw ((m:Int) / 128)).length:=by rw[ai];rfl
   rw[aM ⟨by trivial,by rw[el];omega⟩,eY el];rfl
def aws:Entry:=Ye 9
def OO:Int->Option Bs:=Lz aws Bx
theorem agP{d:Int}(h:KS 9 d):OO d=some (tM d (CD d)):=Entry.vO agO h
theorem Wq:∀dep,ra Tryz.prog 191 (Ye dep)
 | 0=>ra.of (an:=ab0) (N:=0) (fn:=Tryz.f191) b8 (show Sound _ aOP from Sound.nil _) b8 b8 b8 (kM.fn 0 b8 trivial) (λ_ h=>False.elim h)
 |dep+1=>ra.of (an:=ab0) (N:=0) (fn:=Tryz.f191) b8 (show Sound _ (awt dep) from Sound.cons (vm.of (Wq dep) (by rfl)) (Sound.jI (P:=Tryz.prog) [])) b8 b8 b8 (kM.fn 0 b8 trivial) (aHh dep)
def aoY:SG Tryz.prog:=⟨191,mr,aws,.of (Wq 9) (by rfl)⟩
def aAl:(Bs×Int)->Prop:=λ(b,n)=>b.length<=90000000/\n<=9223372036854775807
def nL:(Bs×Int)->Bs:=λ(b,n)=>cF b n
def rO:Fs Tryz.prog aAl bu nL:=eN 150 Tryz.f150 (λ(b,n)=>([.d tB b,.d ti n],[])) (λx=>⟨.d tB x,[],[]⟩) [some tB,some ti] [aoY] {bJ:=[6],res:=[some tB]}
theorem aHe(b n)(k:K1 R):rO.A (b,n) k=aJ (db (0+(ag b)) 1) (aJ (Cn n 0) (al (OO n) λx1=>aJ (decide ((0+(ag b))<=(ag ((aR 0 (ab 0 0))++b)))) (aJ (db ((0+(ag b))+(ag x1)) 1) (aJ (decide (0=0/\(0+((0+(ag b))+(ag x1)))<=(ag ((aR (0+(ag b)) ((aR 0 (ab 0 0))++b))++x1)))) (k (rO.out (cut ((aR (0+(ag b)) ((aR 0 (ab 0 0))++b))++x1) 0 ((0+(ag b))+(ag x1))))) none) none) none) (aJ (decide (0=0/\(0+(0+(ag b)))<=(ag ((aR 0 (ab 0 0))++b)))) (k (rO.out (cut ((aR 0 (ab 0 0))++b) 0 (0+(ag b))))) none)) none:=b8
theorem aHf:rO.Ok:=by
 rintro⟨b,n⟩ ⟨hb,hn⟩;have hb:b.length<=90000000:=hb;have hn:n<=9223372036854775807:=hn;have e0:(aR 0 (ab 0 0):List Int)=[]:=rfl;rw[aHe];simp only[aO,e0,aT,bu,nL,cF,ax,jl,cv,aj,eY,bK];rw[dr ak ak,aj];by_cases h:n>=0
 ·have hl:=kH n;rw[gA h,aj,if_neg ak,agP (d:=n) ⟨h,hn,by have e:(128:Int)^(8+1)=9223372036854775808:=rfl;rw[e];show n < _;omega⟩];simp only[ah,tM,CD];rw[dr ak ak,aM ⟨by trivial,by rw[ai];omega⟩,eY (by rw[ai])];rfl
 ·rw[eF h,if_pos ak];rfl
theorem jv:rO.RS:=rE [.d tB,.d ti] rO
def abV:=rO.eU aHf
abbrev Wo:=Int×Nat×Int×(List Int)
def aey:Wo->Prop:=λ(n,m,i,l)=>m=l.length/\∃j:Nat,j<=8/\i=7 - (j:Int)/\l.length<=100000000+j
def CC:Wo->(Nat×(List Int)):=λ(n,m,i,l)=>(m+(i+1).toNat,l++(jr n).drop (7 - i).toNat)
def atp:(Bs×Int)->Prop:=λ(b,n)=>b.length<=90000000
def abY:(Bs×Int)->Bs:=λ(b,n)=>b++jr n
def qI:Ls aey bu CC:=rp (λ(wJ,outL,i,n7)=>⟨([bF,.d tu wJ,bF,bF,bF,om 7 outL,.d ti i]++aP 17 []),[],(bM 7 ([dK (.vec 5 tb n7)]++bM 16 []))⟩) (λx=>(.exit 0,⟨(aP 5 ([om 7 x.1]++aP 18 [])),[],(bM 7 ([dK (.vec 5 tb x.2)]++bM 16 []))⟩))
def Bw:Fs Tryz.prog atp bu abY:=eN 194 Tryz.f194 (λ(b,n)=>([.d tB b,.d tu n],[])) (λx=>⟨.d tB x,[],[]⟩) [some tB,some tu] [] {bJ:=[7],loops:=nY [(3,{aV:=[1,5,6],sites:=[7],owns:=[⟨5,[],7,127⟩]})],outs:=nX [(3,{aV:=[5],sites:=[7]},{aV:=[4]})],fF:=nK [(3,qI.E)],res:=[some tB]}
theorem aez:qI.RS:=rL [.d tu,.n,.d ti,.d tB] qI
theorem Ji(wJ outL i n7)(kn:K2 R)(kx:K3 R):Bw.R 0 qI (wJ,outL,i,n7) kn kx=aJ ((Cn i 0)) (aJ (mK (dX .u64 (gB .i64 8 i))) (aJ (decide (outL<=(ag n7))) (aJ (db (outL+1) 1) (kn (qI.st (wJ,(outL+1),(cR .i64 i 1),((aR outL n7)++ [(dX .u8 (cz .u64 wJ (dX .u64 (gB .i64 8 i))))])))) none) none) none) (qI.go kx (outL,n7)):=b8
theorem aAu(b n)(k:K1 R):Bw.A (b,n) k=aJ (db (0+(ag b)) 1) (al (qI.call (n,(0+(ag b)),7,((aR 0 (ab 0 0))++b))) λx1=>aJ (decide (0=0/\(0+x1.1)<=(ag x1.2))) (k (Bw.out (cut x1.2 0 x1.1))) none) none:=b8
theorem aj8:(Bw.kM 0 qI):=by
 refine(Bw.mf 0 qI) (λ(n,m,i,l)=>(i+1).toNat) ?_
 rintro⟨n,m,i,l⟩ ⟨rfl,j,hj,rfl,hl⟩;have hl:l.length<=100000000+j:=hl;have e1:(7 - (7 - (j:Int))).toNat=j:=ak;by_cases h:j < 8
 ·left;have e2:cR .i64 (7 - (j:Int)) 1=7 - ((j+1:Nat):Int):=by rw[eL ak ak];omega
  have e3:(7 - (7 - ((j+1:Nat):Int))).toNat=j+1:=ak;have e4:gB .i64 8 (7 - (j:Int))=((56 - 8*j:Nat):Int):=by rw[It ak ak];omega
  have e5:dX .u64 ((56 - 8*j:Nat):Int)=((56 - 8*j:Nat):Int):=by rw[X0,hZ];omega
  refine⟨(n,l.length+1,7 - ((j+1:Nat):Int),l++ [n / 2^(56 - 8*j)%256]),⟨by rw[ai];rfl,j+1,ak,rfl,by rw[ai];show l.length+1<=_;omega⟩,by simp only;omega,?_,λkn kx=> ?_⟩
  ·simp only[bu,CC,e1,e3,alF n j h,aF,c9];rw[show l.length+1+(7 - ((j+1:Nat):Int)+1).toNat=l.length+(7 - (j:Int)+1).toNat by omega]
  ·rw[Ji,gA ak,e4,e5,tI ak,adu n _ ak,e2,aM (ax _),dr ak ak,bK];rfl
 ·right;obtain rfl:j=8:=ak;intro R kn kx;rw[Ji,eF ak,ao];simp only[bu,CC,e1];rw[dZ (by rw[cn];omega),aZ];rfl
theorem aAv:Bw.Ok:=by
 rintro⟨b,n⟩ hb;have hb:b.length<=90000000:=hb;have e0:(aR 0 (ab 0 0):List Int)=[]:=rfl;rw[aAu];simp only[aO,e0,aT];rw[dr ak ak,aj,aez (d:=(n,b.length,7,b)) ⟨rfl,0,ak,rfl,ak⟩];simp only[ah,bu,CC];rw[show(7 - (7:Int)).toNat=0 from rfl,show((7:Int)+1).toNat=8 from rfl,aD];have el:(b++jr n).length=b.length+8:=by rw[ai,cn]
 rw[aM ⟨by trivial,by rw[el];omega⟩,eY el];rfl
theorem abZ:Bw.RS:=rE [.d tB,.d tu] Bw
def aAw:=Bw.eU aAv 1 ⟨.fv aj8,trivial⟩
def abT:(Int×Int×Int)->Prop:=λ(a,b,o)=>Pn a/\nV b/\Pn o
def Gl:(Int×Int×Int)->Int:=λ(a,b,o)=>(o+a*b)%4611686018427377339
def aoX:(Int×Int)->Prop:=λ(a,b)=>Pn a/\nV b
def aAk:(Int×Int)->Int:=λ(a,b)=>pG a b
def me:Ls abT bu Gl:=rp (λ(US,iR,outv)=>⟨([.d tu US,.d tu iR,bF,bF,bF,.d tu outv]++aP 16 []),[],(ab 22 [])⟩) (λx=>(.exit 0,⟨(aP 5 ([.d tu x]++aP 16 [])),[],(ab 22 [])⟩))
def sJ:Fs Tryz.prog aoX bu aAk:=eN 239 Tryz.f239 (λ(a,b)=>([.d tu a,.d tu b],[])) (λx=>⟨.d tu x,[],[]⟩) [some tu,some tu] [] {loops:=nY [(2,{aV:=[0,1,5]})],outs:=nX [(2,{aV:=[5]},{aV:=[4]})],fF:=nK [(2,me.E)]}
theorem abU:me.RS:=rL [.d tu,.d tu,.d tu] me
theorem Hh(US iR outv)(kn:K2 R)(kx:K3 R):sJ.R 0 me (US,iR,outv) kn kx=aJ ((qZ iR 0)) (aJ (qY (mS iR 2) 1) (kn (me.st ((mS (bI .u64 US US) 4611686018427377339),(tX .u64 iR 2),(mS (bI .u64 outv US) 4611686018427377339)))) (kn (me.st ((mS (bI .u64 US US) 4611686018427377339),(tX .u64 iR 2),outv)))) (me.go kx outv):=b8
theorem ath(a b)(k:K1 R):sJ.A (a,b) k=al (me.call (a,b,0)) λx1=>k (sJ.out x1):=b8
theorem ayO(o a b:Int)(m:Int):(o+a*b)%m=((if b%2=1 then(o+a)%m else o)+(a+a)%m*(b / 2))%m:=by
 have e:b=2*(b / 2)+b%2:=ak;have hb:b%2=0\/b%2=1:=ak;generalize b / 2=q at*;have l1:∀x y:Int,(x%m+(a+a)%m*y)%m=(x+(a+a)*y)%m:=λx y=>by rw[ud,gS _ (qb m),jD,gS _ (qb m),<-jD,<-ud]
 have l2:∀x y:Int,(x+(a+a)%m*y)%m=(x+(a+a)*y)%m:=λx y=>by rw[ud,jD,gS _ (qb m),<-jD,<-ud]
 rcases hb with h | h
 ·rw[if_neg ak,l2];rw[h]at e;rw[e,Int.add_zero,Int.add_mul,<-rq,qc a 2,Int.two_mul,Int.add_mul]
 ·rw[if_pos h,l1];rw[h]at e;rw[e,Int.mul_add,xj,<-rq,qc a 2,Int.two_mul];congr 1;omega
theorem aNF{n:Int}(h:nV n):tX .u64 n 2=n / 2:=ajd h.1 ak h.2
theorem aev:(sJ.kM 0 me):=by
 refine(sJ.mf 0 me) (λ(a,b,o)=>b.toNat) ?_
 rintro⟨a,b,o⟩ ⟨ha,hb,ho⟩;have ha:Pn a:=ha;have hb:nV b:=hb;have ho:Pn o:=ho;obtain⟨a0,a1⟩:=ha;obtain⟨b0,b1⟩:=hb;obtain⟨o0,o1⟩:=ho;by_cases h:0 < b
 ·left;have e1:mS (bI .u64 a a) 4611686018427377339=(a+a)%4611686018427377339:=by
   have:bI .u64 a a=a+a:=by rw[uK];omega
   rw[this,wC ak]
  have e2:mS (bI .u64 o a) 4611686018427377339=(o+a)%4611686018427377339:=by
   have:bI .u64 o a=o+a:=by rw[uK];omega
   rw[this,wC ak]
  refine⟨((a+a)%4611686018427377339,b / 2,if b%2=1 then(o+a)%4611686018427377339 else o),⟨⟨ak,ak⟩,⟨ak,ak⟩,?_⟩,by simp only[];omega,?_,λkn kx=> ?_⟩
  ·show Pn (if b%2=1 then(o+a)%4611686018427377339 else o);split
   ·exact⟨ak,ak⟩
   ·exact⟨o0,o1⟩
  ·exact bo _ (ayO o a b 4611686018427377339).symm
  ·rw[Hh,cP h,e1,e2,aNF ⟨b0,b1⟩,wC b0];by_cases h1:b%2=1
   ·rw[du h1,if_pos h1];rfl
   ·rw[eS h1,if_neg h1];rfl
 ·right;intro R kn kx;obtain rfl:b=0:=ak;rw[Hh,cr ak];simp only[ao,bu,Gl];rw[show(o+a*0)%4611686018427377339=o by omega]
theorem ati:sJ.Ok:=by rintro⟨a,b⟩ ⟨ha,hb⟩;rw[ath,abU (d:=(a,b,0)) ⟨ha,hb,ak,ak⟩];simp only[ah,bu,Gl,Int.zero_add];rfl
theorem Wl:sJ.RS:=rE [.d tu,.d tu] sJ
def atj:=sJ.eU ati 1 ⟨.fv aev,trivial⟩
def abR:(Int×Int×Int)->Prop:=λ(a,n,o)=>Pn a/\nV n/\Pn o
def zP:(Int×Int×Int)->Int:=λ(a,n,o)=>alg 64 a n.toNat o
def aoU:(Int×Int)->Prop:=λ(a,n)=>Pn a/\nV n
def aAj:(Int×Int)->Int:=λ(a,n)=>pw a n.toNat
def mc:Ls abR bu zP:=rp (λ(US,wJ,outv)=>⟨([.d tu US,.d tu wJ,bF,bF,bF,.d tu outv]++aP 14 []),[],(ab 20 [])⟩) (λx=>(.exit 0,⟨(aP 5 ([.d tu x]++aP 14 [])),[],(ab 20 [])⟩))
def wU:Fs Tryz.prog aoU bu aAj:=eN 219 Tryz.f219 (λ(a,n)=>([.d tu a,.d tu n],[])) (λx=>⟨.d tu x,[],[]⟩) [some tu,some tu] [atj] {loops:=nY [(2,{aV:=[0,1,5]})],outs:=nX [(2,{aV:=[5]},{aV:=[4]})],fF:=nK [(2,mc.E)]}
theorem abS:mc.RS:=rL [.d tu,.d tu,.d tu] mc
theorem Hg(US wJ outv)(kn:K2 R)(kx:K3 R):wU.R 0 mc (US,wJ,outv) kn kx=aJ ((qZ wJ 0)) (aJ (qY (mS wJ 2) 1) (al (sJ.call (outv,US)) λx1=>al (sJ.call (US,US)) λx2=>kn (mc.st (x2,(tX .u64 wJ 2),x1))) (al (sJ.call (US,US)) λx3=>kn (mc.st (x3,(tX .u64 wJ 2),outv)))) (mc.go kx outv):=b8
theorem ata(a n)(k:K1 R):wU.A (a,n) k=al (mc.call (a,n,1)) λx4=>k (wU.out x4):=b8
theorem aeu:(wU.kM 0 mc):=by
 refine(wU.mf 0 mc) (λ(a,n,o)=>n.toNat) ?_
 rintro⟨a,n,o⟩ ⟨ha,hn,ho⟩;have ha:Pn a:=ha;have hn:nV n:=hn;have ho:Pn o:=ho;have n0:=hn.1;have n1:=hn.2;by_cases h:0 < n
 ·left;have e:zP (a,n,o)=zP (pG a a,n / 2,if n%2=1 then pG o a else o):=by
   show alg 64 a n.toNat o=alg 64 (pG a a) (n / 2).toNat _;rw[abB 64 65 a n.toNat o ak ak];have t1:(n / 2).toNat=n.toNat / 2:=ak;have t2:(n%2=1)=(n.toNat%2=1):=by apply propext;omega
   rw[t1];simp only[t2];show(if n.toNat=0 then o else _)=_;rw[if_neg ak]
  refine⟨(pG a a,n / 2,if n%2=1 then pG o a else o),⟨wI a a,⟨ak,ak⟩,?_⟩,by show(n / 2).toNat < n.toNat;omega,?_,λkn kx=> ?_⟩
  ·show Pn (if n%2=1 then pG o a else o);split
   ·exact wI _ _
   ·exact ho
  ·exact bo _ e.symm
  ·rw[Hg,cP h,aNF hn,wC n0,Wl (d:=(o,a)) ⟨ho,ha.u⟩,Wl (d:=(a,a)) ⟨ha,ha.u⟩];by_cases h1:n%2=1
   ·rw[du h1,if_pos h1];rfl
   ·rw[eS h1,if_neg h1];rfl
 ·right;intro R kn kx;obtain rfl:n=0:=ak;rw[Hg,cr ak];simp only[ao,bu,zP];rw[show alg 64 a (ae 0) o=o from Bt _ _ _]
theorem atb:wU.Ok:=by rintro⟨a,n⟩ ⟨ha,hn⟩;rw[ata,abS (d:=(a,n,1)) ⟨ha,hn,ak,ak⟩];rfl
theorem aoV:wU.RS:=rE [.d tu,.d tu] wU
def atc:=wU.eU atb 1 ⟨.fv aeu,trivial⟩
def aoW:Int->Prop:=λp=>nV p
def KR:Int->Bool:=λp=>vu p
def uX:Fs Tryz.prog aoW bu KR:=eN 187 Tryz.f187 (λp=>([.d tu p],[])) (λx=>⟨.d .bool x,[],[]⟩) [some tu] [atc]
theorem atd(p)(k:K1 R):uX.A p k=aJ ((Cn p 1)) (aJ (gr p 4611686018427377339) (al (wU.call (p,2305843009213688669)) λx1=>k (uX.out (qY x1 1))) (k (uX.out false))) (k (uX.out false)):=b8
theorem ate:uX.Ok:=by
 intro(p:Int) hp;have hp:nV p:=hp;rw[atd];simp only[bu,KR,vu];by_cases h:0 < p
 ·rw[gA ak,aj];by_cases h2:p < 4611686018427377339
  ·rw[aU h2,aj,aM ⟨h,h2⟩,bw,aoV (d:=(p,2305843009213688669)) ⟨⟨ak,h2⟩,by constructor <;> decide⟩];rfl
  ·rw[aQ h2,ao,aS (λx=>h2 x.2),cH]
 ·rw[eF ak,ao,aS (λx=>h x.1),cH]
theorem Wk:uX.RS:=rE [.d tu] uX
def atf:=uX.eU ate
abbrev pN:=ot×Int
def jy:pN->AS:=λ(iR,i)=>⟨([bF,.dO ki iR,bF,.d ti i]++aP 50 []),[],(ab 54 [])⟩
def kg:Unit->Exit×AS:=λx=>(.ret,⟨([bF,bF,.d .bool false]++aP 51 []),[],(ab 54 [])⟩)
def qG:ot->Exit×AS:=λx=>(.exit 0,⟨([bF,.dO ki x]++aP 52 []),[],(ab 54 [])⟩)
abbrev Bv:=(Unit)⊕(ot)
abbrev I1:=(Unit)⊕(Unit)
def vV:Bv->Out (Exit×AS):=λx=> .br x.isLeft (.get x.getLeft? λa=> .ok (kg a)) (.get x.getRight? λb=> .ok (qG b))
def gZ:pN->I1->Bv:=λ(iR,i) y=>match y with | .inl y=> .inl y | .inr z=> .inr (iR)
def qF:pN->Prop:=λ(b,i)=>aCl b/\b.1.length<=1000000000/\∃k:Nat,k<=b.1.length/\i=k
def jo:pN->I1:=λ(b,i)=>if(b.1.drop i.toNat).all vu then .inr () else .inl ()
def aes:ot->Prop:=λb=>aCl b
def IZ:ot->Bool:=λb=>vh b
def I0:=dz.fv jy qF gZ jo vV
def Cz:pN->Option Bv:=gM I0 jy
def gJ:Fs Tryz.prog aes bu IZ:=eN 145 Tryz.f145 (λb=>([.d ki b],[])) (λx=>⟨.d .bool x,[],[]⟩) [some ki] [atf] {loops:=nY [(4,{aV:=[1,3]})],outs:=nX [(4,{aV:=[1]},{aV:=[2]})],fF:=nK [(4,I0)]}
def Bu:= @eC Tryz.prog (jI gJ.G) gJ.an 0 Tryz.f145 0 _ jy
abbrev Hf:=kP Tryz.prog (jI gJ.G) gJ.an 0 Tryz.f145 0 jy qF gZ jo vV
theorem T0:jf Cz qF gZ jo:=mn (jx [.d ki,.d ti] λ_=>b8)
theorem HI:nq @Bu jy qF gZ jo vV Hf:=oa
theorem CA(iR:ot)(i:Int)(kn:AS->Option R)(kx:Exit->AS->Option R):Bu (iR,i) kn kx=aJ ((gr i (((ag iR.1):Nat):Int))) (aJ (ed i (((ag iR.1):Nat):Int)) (al (uX.call (nth tu iR.1 (ae i))) λx1=>aJ ((!x1)) (kx (kg ()).1 (kg ()).2) (kn (jy (iR,(bI .i64 i (1:Int)))))) none) (kx (qG iR).1 (qG iR).2):=b8
theorem ajR(b)(k:K1 R):gJ.A b k=aJ ((qZ (b.1.length:Int) 12)) (k (gJ.out false)) (aJ (gr b.2.1 0) (k (gJ.out false)) (aJ (qZ b.2.1 1048576) (k (gJ.out false)) (aJ (gr b.2.2.1 0) (k (gJ.out false)) (aJ (qZ b.2.2.1 1048576) (k (gJ.out false)) (al (Cz (b,0)) λx2=>aJ x2.isLeft (al x2.getLeft? λa3=>k (gJ.out false)) (al x2.getRight? λb4=>al (uX.call b4.2.2.2.1) λx5=>aJ ((qY b4.2.2.2.1 0)) (k (gJ.out true)) (k (gJ.out x5)))))))):=b8
theorem Xj:Hf:=by
 refine HI (λ(b,i)=>b.1.length - i.toNat) ?_
 rintro⟨b,i⟩ ⟨hb,hl,k,hk,rfl⟩;have hl:b.1.length<=1000000000:=hl;have hk:k<=b.1.length:=hk;by_cases h:k < b.1.length
 ·have hx:=hb.1 _ (aN h);have n1:nth (.int .u64) b.1 k=b.1[k]:=cd (t:= .int .u64) h;have hd:(b.1.drop k).all vu=(vu b.1[k] && (b.1.drop (k+1)).all vu):=by rw[aq h,ff]
  have step:∀ {R:Type} (kn:AS->Option R) (kx:Exit->AS->Option R),Bu (b,(k:Int)) kn kx=aJ (vu b.1[k]) (kn (jy (b,((k+1:Nat):Int)))) (kx (kg ()).1 (kg ()).2):=by intro R kn kx;rw[CA,aU ak,bj ak ak,aa,n1,N.mD ak,Wk (d:=b.1[k]) hx];simp only[aj,ah,bu,KR];cases vu b.1[k] <;> rfl
  cases hp:vu b.1[k]
  ·right;refine⟨kg (),?_,λkn kx=> ?_⟩
   ·simp only[gZ,jo,aa,hd,hp,cH,bn,bt];rfl
   ·rw[step,hp,ao]
  ·left;refine⟨(b,((k+1:Nat):Int)),⟨hb,hl,k+1,ak,rfl⟩,by simp only[aa];omega,?_,λkn kx=> ?_⟩
   ·simp only[gZ,jo,aa,hd,hp,bw]
   ·rw[step,hp,aj]
 ·right;obtain rfl:k=b.1.length:=ak;refine⟨qG b,?_,λkn kx=> ?_⟩
  ·simp only[gZ,jo,aa,aL];rfl
  ·rw[CA];simp(disch:=omega) only[↓S1,↓if_pos,↓if_neg,if_pos,if_neg,bG,bt,S2]
theorem ajS:gJ.Ok:=by
 rintro⟨ks,af,dl,sc,u⟩ hb;have hb:aCl (ks,af,dl,sc,u):=hb;have h2:nV sc:=hb.2;rw[ajR];simp only[bu,IZ,vh,NY];by_cases hk:ks.length<=12
 ·rw[cr ak,aM hk,T0 (d:=((ks,af,dl,sc,u),0)) ⟨hb,by show ks.length<=1000000000;omega,0,ak,rfl⟩];simp only[ao,bw,ah,gZ,jo,aX,aD];by_cases a1:af < 0
  ·rw[aU a1,aS (p:=0<=af/\af<=1048576) ak];cases ks.all vu <;> rfl
  by_cases a2:af > 1048576
  ·rw[aQ a1,cP a2,aS (p:=0<=af/\af<=1048576) ak];cases ks.all vu <;> rfl
  by_cases a3:dl < 0
  ·rw[aQ a1,cr a2,aU a3,aS (p:=0<=dl/\dl<=1048576) ak];cases ks.all vu <;> cases(decide (0<=af/\af<=1048576)) <;> rfl
  by_cases a4:dl > 1048576
  ·rw[aQ a1,cr a2,aQ a3,cP a4,aS (p:=0<=dl/\dl<=1048576) ak];cases ks.all vu <;> cases(decide (0<=af/\af<=1048576)) <;> rfl
  rw[aQ a1,cr a2,aQ a3,cr a4,aM (p:=0<=dl/\dl<=1048576) ak,aM (p:=0<=af/\af<=1048576) ak];cases aFc:ks.all vu
  ·simp only[aFc,bn,bt];rfl
  ·simp only[aFc,bG];show al (uX.call sc) _=_;rw[Wk (d:=sc) h2];simp only[ah,bu,KR];by_cases hs:sc=0
   ·rw[aM hs];show aJ (qY sc 0) _ _=_;rw[du hs];rfl
   ·rw[aS hs];show aJ (qY sc 0) _ _=_;rw[eS hs];rfl
 ·rw[cP ak,aS hk];rfl
theorem aet:gJ.RS:=rE [.d ki] gJ
def ajT:=gJ.eU ajS 1 ⟨.fv Xj,trivial⟩
abbrev rG:=Lk×Int
def kA:rG->AS:=λ(vj,i)=>⟨([bF,.dO Pe vj,bF,.d ti i]++aP 24 []),[],(ab 28 [])⟩
def kY:Unit->Exit×AS:=λx=>(.ret,⟨([bF,bF,.d .bool false]++aP 25 []),[],(ab 28 [])⟩)
def so:Unit->Exit×AS:=λx=>(.exit 0,⟨(aP 28 []),[],(ab 28 [])⟩)
abbrev Dl:=(Unit)⊕(Unit)
abbrev Mr:=(Unit)⊕(Unit)
def ye:Dl->Out (Exit×AS):=λx=> .br x.isLeft (.get x.getLeft? λa=> .ok (kY a)) (.get x.getRight? λb=> .ok (so b))
def iF:rG->Mr->Dl:=λ(vj,i) y=>match y with | .inl y=> .inl y | .inr z=> .inr (z)
def sm:rG->Prop:=λ(l,i)=>adK l/\l.1.length<=1000000000/\∃k:Nat,k<=l.1.length/\i=k
def jS:rG->Mr:=λ(l,i)=>if(l.1.drop i.toNat).all vh then .inr () else .inl ()
def ajW:Lk->Prop:=λl=>adK l
def Gk:Lk->Bool:=λl=>kS l
def Mq:=dz.fv kA sm iF jS ye
def Et:rG->Option Dl:=gM Mq kA
def kz:Fs Tryz.prog ajW bu Gk:=eN 93 Tryz.f93 (λl=>([.d Pe l],[])) (λx=>⟨.d .bool x,[],[]⟩) [some Pe] [ajT] {loops:=nY [(4,{aV:=[1,3]})],outs:=nX [(4,{},{aV:=[2]})],fF:=nK [(4,Mq)]}
def Dk:= @eC Tryz.prog (jI kz.G) kz.an 0 Tryz.f93 0 _ kA
abbrev I2:=kP Tryz.prog (jI kz.G) kz.an 0 Tryz.f93 0 kA sm iF jS ye
theorem Xo:jf Et sm iF jS:=mn (jx [.d Pe,.d ti] λ_=>b8)
theorem I3:nq @Dk kA sm iF jS ye I2:=oa
theorem Eu(vj:Lk)(i:Int)(kn:AS->Option R)(kx:Exit->AS->Option R):Dk (vj,i) kn kx=aJ ((gr i (((ag vj.1):Nat):Int))) (aJ (ed i (((ag vj.1):Nat):Int)) (al (gJ.call (nth ki vj.1 (ae i))) λx1=>aJ ((!x1)) (kx (kY ()).1 (kY ()).2) (kn (kA (vj,(bI .i64 i (1:Int)))))) none) (kx (so ()).1 (so ()).2):=b8
theorem aoF(l)(k:K1 R):kz.A l k=aJ ((gr (l.1.length:Int) 1)) (k (kz.out false)) (aJ (qZ (l.1.length:Int) 4) (k (kz.out false)) (al (Et (l,0)) λx2=>aJ x2.isLeft (al x2.getLeft? λa3=>k (kz.out false)) (al x2.getRight? λb4=>k (kz.out true)))):=b8
theorem abF:I2:=by
 refine I3 (λ(l,i)=>l.1.length - i.toNat) ?_
 rintro⟨l,i⟩ ⟨hb,hl,k,hk,rfl⟩;have hl:l.1.length<=1000000000:=hl;have hk:k<=l.1.length:=hk;by_cases h:k < l.1.length
 ·have hx:=hb _ (aN h);have n1:nth (.pair (.slice (.int .u64)) (.pair (.int .i64) (.pair (.int .i64) (.pair (.int .u64) .unit)))) l.1 k=l.1[k]:=cd (t:=(.pair (.slice (.int .u64)) (.pair (.int .i64) (.pair (.int .i64) (.pair (.int .u64) .unit))))) h;have hd:(l.1.drop k).all vh=(vh l.1[k] && (l.1.drop (k+1)).all vh):=by rw[aq h,ff]
  have step:∀ {R:Type} (kn:AS->Option R) (kx:Exit->AS->Option R),Dk (l,(k:Int)) kn kx=aJ (vh l.1[k]) (kn (kA (l,((k+1:Nat):Int)))) (kx (kY ()).1 (kY ()).2):=by intro R kn kx;rw[Eu,aU ak,bj ak ak,aa,n1,N.mD ak,aet (d:=l.1[k]) hx];simp only[aj,ah,bu,IZ];cases vh l.1[k] <;> rfl
  cases hp:vh l.1[k]
  ·right;refine⟨kY (),?_,λkn kx=> ?_⟩
   ·simp only[iF,jS,aa,hd,hp,cH,bn,bt];rfl
   ·rw[step,hp,ao]
  ·left;refine⟨(l,((k+1:Nat):Int)),⟨hb,hl,k+1,ak,rfl⟩,by simp only[aa];omega,?_,λkn kx=> ?_⟩
   ·simp only[iF,jS,aa,hd,hp,bw]
   ·rw[step,hp,aj]
 ·right;obtain rfl:k=l.1.length:=ak;refine⟨so (),?_,λkn kx=> ?_⟩
  ·simp only[iF,jS,aa,aL];rfl
  ·rw[Eu];simp(disch:=omega) only[↓S1,↓if_pos,↓if_neg,if_pos,if_neg,bG,bt,S2]
theorem aoG:kz.Ok:=by
 intro l hl;have hl:adK l:=hl;rw[aoF];simp only[bu,Gk,kS];by_cases h0:l.1.length < 1
 ·rw[aU ak,aS (p:=0 < l.1.length/\l.1.length<=4) ak,Bool.and_false];rfl
 by_cases h4:l.1.length > 4
 ·rw[aQ ak,cP ak,aS (p:=0 < l.1.length/\l.1.length<=4) ak,Bool.and_false];rfl
 rw[aQ ak,cr ak,aM (p:=0 < l.1.length/\l.1.length<=4) ak,Bool.and_true,Xo (d:=(l,0)) ⟨hl,by show l.1.length<=1000000000;omega,0,ak,rfl⟩];simp only[ao,ah,iF,jS,aX,aD];cases l.1.all vh <;> rfl
theorem Rj:kz.RS:=rE [.d Pe] kz
def Wi:=kz.eU aoG 1 ⟨.fv abF,trivial⟩
abbrev Dj:=Lk×Bs×Int×Int×ot
def sk:Dj->Bs->((Lk×Int×ot)×(Bs)):=λ(aap,vP,fM,kv,n5) y=>((aap,fM,n5),y)
def Xm:Dj->Prop:=λ(l,o,i,j,b)=>b.1.length<=12/\∃k:Nat,k<=b.1.length/\j=k/\o.length+8*b.1.length<=80000000+8*k
def wP:Dj->Bs:=λ(l,o,i,j,b)=>mJ o (b.1.drop j.toNat)
def Xk:(Lk×Bs×Int)->Prop:=λ(l,o,i)=>(∀b∈l.1,aQU b)/\l.1.length<=4/\∃k:Nat,k<=l.1.length/\i=k/\o.length<=1000+200*k
def Di:(Lk×Bs×Int)->Bs:=λ(l,o,i)=>(l.1.drop i.toNat).foldl aCd o
def ajU:Lk->Prop:=λl=>adK l
def OJ:Lk->Bs:=λl=>N7 l
def lR:Ls Xk bu Di:=rp (λ(vj,outv,i)=>⟨([bF,.dO Pe vj,bF,.d tB outv,.d ti i]++aP 53 []),[],(ab 58 [])⟩) (λx=>(.exit 0,⟨([bF,bF,bF,.d tB x]++aP 54 []),[],(ab 58 [])⟩))
def lS:Ls Xm sk wP:=rp (λ(aap,vP,fM,kv,n5)=>⟨([bF,.dO Pe aap,bF,.d tB vP,.d ti fM,eT 5,.d ti kv]++aP 51 []),[],(bM 5 ([dK (.d ki n5)]++bM 52 []))⟩) (λx=>(.exit 2,⟨([bF,.dO Pe x.1.1,bF,.d tB x.2,.d ti x.1.2.1,eT 5]++aP 52 []),[],(bM 5 ([dK (.d ki x.1.2.2)]++bM 52 []))⟩))
def lQ:Fs Tryz.prog ajU bu OJ:=eN 160 Tryz.f160 (λl=>([.d Pe l],[])) (λx=>⟨.d tB x,[],[]⟩) [some Pe] [Wi,abV,aAw] {loops:=nY [(5,{aV:=[1,3,4]}),(10,{aV:=[1,3,4,5,6],sites:=[5]})],outs:=nX [(5,{aV:=[3]},{aV:=[2]}),(10,{aV:=[1,3,4,5],sites:=[5]},{aV:=[2]})],fF:=nK [(5,lR.E),(10,lS.E)],res:=[some tB]}
theorem Xl:lR.RS:=rL [.d Pe,.d tB,.d ti] lR
theorem Er(vj outv i)(kn:K2 R)(kx:K3 R):lQ.R 0 lR (vj,outv,i) kn kx=aJ ((gr i (vj.1.length:Int))) (aJ (ed i (vj.1.length:Int)) (al (rO.call (outv,(((ag (nth ki vj.1 (ae i)).1):Nat):Int))) λx1=>al (lS.call (vj,x1,i,0,(nth ki vj.1 (ae i)))) λx2=>al (rO.call (x2.2,x2.1.2.2.2.1)) λx3=>al (rO.call (x3,x2.1.2.2.2.2.1)) λx4=>al (Bw.call (x4,x2.1.2.2.2.2.2.1)) λx5=>kn (lR.st (x2.1.1,x5,(bI .i64 x2.1.2.1 1)))) none) (lR.go kx outv):=b8
theorem Xn:lS.RS:=rL [.d Pe,.d tB,.d ti,.d ti,.d ki] lS
theorem Es(aap vP fM kv n5)(kn:K2 R)(kx:K3 R):lQ.R 1 lS (aap,vP,fM,kv,n5) kn kx=aJ ((gr kv (n5.1.length:Int))) (aJ (ed kv (n5.1.length:Int)) (al (Bw.call (vP,(nth tu n5.1 (ae kv)))) λx1=>kn (lS.st (aap,x1,fM,(bI .i64 kv 1),n5))) none) (lS.go kx ((aap,fM,n5),vP)):=b8
theorem aoC(l)(k:K1 R):lQ.A l k=al (kz.call l) λx1=>aJ ((!x1)) (k (lQ.out ([]:List Int))) (al (rO.call (([]:List Int),(l.1.length:Int))) λx2=>al (lR.call (l,x2,0)) λx9=>k (lQ.out x9)):=b8
theorem abE:(lQ.kM 1 lS):=by
 refine(lQ.mf 1 lS) (λ(l,o,i,j,b)=>b.1.length - j.toNat) ?_
 rintro⟨l,o,i,j,b⟩ ⟨af9,k,hk,rfl,hl⟩;have af9:b.1.length<=12:=af9;have hk:k<=b.1.length:=hk;have hl:o.length+8*b.1.length<=80000000+8*k:=hl;by_cases h:k < b.1.length
 ·left;have n1:nth (.int .u64) b.1 k=b.1[k]:=cd (t:= .int .u64) h;refine⟨(l,o++jr b.1[k],i,((k+1:Nat):Int),b),⟨af9,k+1,ak,rfl,by rw[ai,cn];omega⟩,by simp only[aa];omega,?_,λkn kx=> ?_⟩
  ·simp only[sk,wP,aa];rw[aal _ _ _ h]
  ·rw[Es,aU ak,bj ak ak,aa,n1,abZ (d:=(o,b.1[k])) (by show o.length<=90000000;omega)];simp only[aj,ah,bu,abY];rw[N.mD ak]
 ·right;obtain rfl:k=b.1.length:=ak;intro R kn kx;rw[Es,aQ ak,ao];simp only[sk,wP,aa,aL];rfl
theorem abD:(lQ.kM 0 lR):=by
 refine(lQ.mf 0 lR) (λ(l,o,i)=>l.1.length - i.toNat) ?_
 rintro⟨l,o,i⟩ ⟨hb,h4,k,hk,rfl,hl⟩;have h4:l.1.length<=4:=h4;have hk:k<=l.1.length:=hk;have hl:o.length<=1000+200*k:=hl;by_cases h:k < l.1.length
 ·left;have hx:=hb _ (aN h);have n1:nth (.pair (.slice (.int .u64)) (.pair (.int .i64) (.pair (.int .i64) (.pair (.int .u64) .unit)))) l.1 k=l.1[k]:=cd (t:=(.pair (.slice (.int .u64)) (.pair (.int .i64) (.pair (.int .i64) (.pair (.int .u64) .unit))))) h;have e0:=ahS o l.1[k] hx.1;refine⟨(l,aCd o l.1[k],((k+1:Nat):Int)),⟨hb,h4,k+1,ak,rfl,ak⟩,by simp only[aa];omega,?_,λkn kx=> ?_⟩
  ·simp only[bu,Di,aa];rw[aq h];rfl
  ·rw[Er,aU ak,bj ak ak,aa,n1];obtain⟨⟨ks,af,dl,sc,u⟩,aOS⟩:∃b,l.1[k]=b:=⟨_,rfl⟩;rw[aOS]at hx e0 ⊢;obtain⟨af9,ha,hd⟩:=hx;have af9:ks.length<=12:=af9;have ha:af<=9223372036854775807:=ha;have hd:dl<=9223372036854775807:=hd;have l1:=dy o ks.length;have l2:=KL ks (cF o ks.length);have l3:=dy (mJ (cF o ks.length) ks) af;have l4:=dy (cF (mJ (cF o ks.length) ks) af) dl;simp only[aj];rw[jv (d:=(o,(ks.length:Int))) ⟨by show o.length<=90000000;omega,by show(ks.length:Int)<=9223372036854775807;omega⟩];simp only[ah,bu,nL];rw[Xn (d:=(l,cF o ks.length,(k:Int),0,(ks,af,dl,sc,u))) ⟨af9,0,aK _,rfl,by show(cF o ks.length).length+8*ks.length<=_;omega⟩];simp only[ah,sk,wP,aX,aD];rw[jv (d:=(mJ (cF o ks.length) ks,af)) ⟨by show(mJ (cF o ks.length) ks).length<=90000000;omega,ha⟩];simp only[ah,bu,nL];rw[jv (d:=(cF (mJ (cF o ks.length) ks) af,dl)) ⟨by show(cF (mJ (cF o ks.length) ks) af).length<=90000000;omega,hd⟩];simp only[ah,bu,nL];rw[abZ (d:=(cF (cF (mJ (cF o ks.length) ks) af) dl,sc)) (by show(cF (cF (mJ (cF o ks.length) ks) af) dl).length<=90000000;omega)];simp only[ah,bu,abY];rw[N.mD ak];rfl
 ·right;obtain rfl:k=l.1.length:=ak;intro R kn kx;rw[Er,aQ ak,ao];simp only[bu,Di,aa,aL];rfl
theorem aoD:lQ.Ok:=by
 intro l hl;have hl:adK l:=hl;rw[aoC,Rj (d:=l) hl];simp only[ah,bu,Gk,bu,OJ,N7];cases jn:kS l
 ·rfl
 ·obtain⟨h1,h2,h3⟩:=asw jn;have l1:=dy [] l.1.length;have l0:([]:List Int).length=0:=rfl;simp only[cm,ao,bG];rw[jv (d:=([],(l.1.length:Int))) ⟨by show([]:List Int).length<=90000000;omega,by show(l.1.length:Int)<=9223372036854775807;omega⟩];simp only[ah,bu,nL];rw[Xl (d:=(l,cF [] l.1.length,0)) ⟨h1,h3,0,aK _,rfl,by show(cF [] l.1.length).length<=_;omega⟩];rfl
theorem ajV:lQ.RS:=rE [.d Pe] lQ
def aoE:=lQ.eU aoD 2 ⟨.fv abD,⟨.fv abE,trivial⟩⟩
abbrev Wn:=Bs×Nat×Int×(List Int)
def aew:Wn->Prop:=λ(h,m,i,l)=>h.length=32/\m=l.length/\∃k:Nat,k<=32/\i=k/\l.length<=100000000+k
def CB:Wn->(Nat×(List Int)):=λ(h,m,i,l)=>((l++h.drop i.toNat).length,l++h.drop i.toNat)
def atm:(Bs×Bs)->Prop:=λ(b,h)=>b.length<=90000000/\h.length=32
def EL:(Bs×Bs)->Bs:=λ(b,h)=>b++h
def qH:Ls aew bu CB:=rp (λ(Qu,outL,i,n7)=>⟨([bF,bF,bF,.dO tH Qu,bF,om 7 outL,.d ti i]++aP 14 []),[],(bM 7 ([dK (.vec 5 tb n7)]++bM 13 []))⟩) (λx=>(.exit 0,⟨(aP 5 ([om 7 x.1]++aP 15 [])),[],(bM 7 ([dK (.vec 5 tb x.2)]++bM 13 []))⟩))
def vW:Fs Tryz.prog atm bu EL:=eN 149 Tryz.f149 (λ(b,h)=>([.d tB b,.d tH h],[])) (λx=>⟨.d tB x,[],[]⟩) [some tB,some tH] [] {bJ:=[7],loops:=nY [(3,{aV:=[3,5,6],sites:=[7],owns:=[⟨5,[],7,127⟩]})],outs:=nX [(3,{aV:=[5],sites:=[7]},{aV:=[4]})],fF:=nK [(3,qH.E)],res:=[some tB]}
theorem aex:qH.RS:=rL [.d tH,.n,.d ti,.d tB] qH
theorem Jg(Qu outL i n7)(kn:K2 R)(kx:K3 R):vW.R 0 qH (Qu,outL,i,n7) kn kx=aJ ((gr i 32)) (aJ (ed i 32) (aJ (decide (outL<=(ag n7))) (aJ (db (outL+1) 1) (kn (qH.st (Qu,(outL+1),(bI .i64 i 1),((aR outL n7)++ [(nth tb Qu (ae i))])))) none) none) none) (qH.go kx (outL,n7)):=b8
theorem aAp(b h)(k:K1 R):vW.A (b,h) k=aJ (db (0+(ag b)) 1) (al (qH.call (h,(0+(ag b)),0,((aR 0 (ab 0 0))++b))) λx1=>aJ (decide (0=0/\(0+x1.1)<=(ag x1.2))) (k (vW.out (cut x1.2 0 x1.1))) none) none:=b8
theorem aj7:(vW.kM 0 qH):=by
 refine(vW.mf 0 qH) (λ(_,_,i,_)=>(32 - i).toNat) ?_
 rintro⟨h,m,i,l⟩ ⟨aOQ,rfl,k,hk,rfl,hl⟩;have aOQ:h.length=32:=aOQ;have hl:l.length<=100000000+k:=hl;by_cases gQ:k < 32
 ·left;have n1:nth tb h k=h[k]:=cd (t:=tb) ak;have el:(l++ [h[k]]).length=l.length+1:=by rw[ai];rfl
  refine⟨(h,l.length+1,((k+1:Nat):Int),l++ [h[k]]),⟨aOQ,el.symm,k+1,ak,rfl,by show(l++ [h[k]]).length<=_;omega⟩,by show(32 - ((k+1:Nat):Int)).toNat < (32 - (k:Int)).toNat;omega,?_,λkn kx=> ?_⟩
  ·simp only[bu,CB,aa];rw[aq (show k < h.length by omega),aF,c9]
  ·rw[Jg,aU ak,aj,bj ak ak,aj,aM (ax _),aj,dr ak ak,aj,N.mD ak,aa,n1,bK]
 ·right;obtain rfl:k=32:=ak;intro T kn kx;rw[Jg,aQ ak,ao];simp only[bu,CB,aa];rw[dZ ak,aZ]
theorem aAq:vW.Ok:=by rintro⟨b,h⟩ ⟨hb,aOQ⟩;have hb:b.length<=90000000:=hb;have aOQ:h.length=32:=aOQ;rw[aAp];simp only[aO,dH,aT];rw[dr ak ak,aj,aex (d:=(h,b.length,0,b)) ⟨aOQ,rfl,0,ak,rfl,ak⟩];simp only[ah,bu,CB,aX,aD,ax,jl,cv,aj,eY,bu,EL]
theorem Gm:vW.RS:=rE [.d tB,.d tB] vW
def agN:=vW.eU aAq 1 ⟨.fv aj7,trivial⟩
def atn:(Bs×Int)->Prop:=λ(b,n)=>b.length<=90000000/\n<=9223372036854775807
def abX:(Bs×Int)->(Nat×(List Int)):=λ(b,n)=>((cF b n).length,cF b n)
def Jh:Fs Tryz.prog atn bu abX:=eN 150 Tryz.f150 (λ(b,n)=>([.d tB b,.d ti n],[])) (λx=>⟨.bA (.new 0 0) 0 [] 0 0 x.1,[],[apW (.vec 5 tb x.2)]⟩) [some tB,some ti] [aoY] {bJ:=[6],owns:=[⟨4,[],6,127⟩]}
theorem aAr(b n)(k:K1 R):Jh.A (b,n) k=aJ (db (0+(ag b)) 1) (aJ (Cn n 0) (al (OO n) λx1=>aJ (decide ((0+(ag b))<=(ag ((aR 0 (ab 0 0))++b)))) (aJ (db ((0+(ag b))+(ag x1)) 1) (k (Jh.out (((0+(ag b))+(ag x1)),((aR (0+(ag b)) ((aR 0 (ab 0 0))++b))++x1)))) none) none) (k (Jh.out ((0+(ag b)),((aR 0 (ab 0 0))++b))))) none:=b8
theorem aAs:Jh.Ok:=by
 rintro⟨b,n⟩ ⟨hb,hn⟩;have hb:b.length<=90000000:=hb;have hn:n<=9223372036854775807:=hn;rw[aAr];simp only[aO,dH,aT,bu,abX,cF,ax,cv,aj,bK];rw[dr ak ak,aj];by_cases h:n>=0
 ·have hl:=kH n;rw[gA h,aj,if_neg ak,agP (d:=n) ⟨h,hn,by have e:(128:Int)^(8+1)=9223372036854775808:=rfl;rw[e];show n < _;omega⟩];simp only[ah,tM,CD];rw[dr ak ak,ai];rfl
 ·rw[eF h,if_pos ak];rfl
theorem ato:Jh.RS:=rE [.d tB,.d ti] Jh
def aAt:=Jh.eU aAs
def atk:(Bs×Bs)->Prop:=λ(b,c)=>b.length+c.length<=80000000
def abW:(Bs×Bs)->Bs:=λ(b,c)=>b++(gw c.length++c)
def ON:Fs Tryz.prog atk bu abW:=eN 159 Tryz.f159 (λ(b,c)=>([.d tB b,.d tB c],[])) (λx=>⟨.d tB x,[],[]⟩) [some tB,some tB] [aAt] {res:=[some tB]}
theorem aAm(b c)(k:K1 R):ON.A (b,c) k=al (Jh.call (b,(c.length:Int))) λx1=>aJ (decide (x1.1<=(ag x1.2))) (aJ (db (x1.1+(ag c)) 1) (aJ (decide (0=0/\(0+(x1.1+(ag c)))<=(ag ((aR x1.1 x1.2)++c)))) (k (ON.out (cut ((aR x1.1 x1.2)++c) 0 (x1.1+(ag c))))) none) none) none:=b8
theorem aAn:ON.Ok:=by
 rintro⟨b,c⟩ h;have h:b.length+c.length<=80000000:=h;have hl:=dy b c.length;have e:cF b c.length=b++gw c.length:=by unfold cF;rw[if_neg ak]
 have el:(b++gw c.length++c).length=(b++gw c.length).length+c.length:=ai;rw[aAm,ato (d:=(b,(c.length:Int))) ⟨by show b.length<=_;omega,by show(c.length:Int)<=_;omega⟩];simp only[ah,bu,abX,ax,cv,aj,bK,aO,mQ];rw[e]at hl ⊢;rw[dr ak ak,aj,aM ak,aj,eY el];simp only[bu,abW,aF]
theorem atl:ON.RS:=rE [.d tB,.d tB] ON
def aAo:=ON.eU aAn
def aAe:UR->Prop:=λ_=>True
def ajX:UR->Bool:=λw=>BP w
def Rk:Fs Tryz.prog aAe bu ajX:=eN 158 Tryz.f158 (λwv=>([.d aBl wv],[])) (λx=>⟨.d .bool x,[],[]⟩) [some aBl]
theorem aG6(wv)(k:K1 R):Rk.A wv k=aJ ((Cn wv.1 0)) (aJ (ai7 wv.1 3) (k (Rk.out (ai7 (wv.2.1.length:Int) 12))) (k (Rk.out false))) (k (Rk.out false)):=b8
theorem aG7:Rk.Ok:=by
 rintro⟨b,ss,sc,u⟩ _;rw[aG6];simp only[bu,ajX,BP];by_cases h:0<=b
 ·rw[gA h,aj];by_cases h2:b < 4
  ·rw[og ak,aj,aM ⟨h,h2⟩,bw];by_cases h3:ss.length<=12
   ·rw[og ak,aM h3]
   ·rw[ke ak,aS h3]
  ·rw[ke ak,ao,aS (λx=>h2 x.2),cH]
 ·rw[eF h,ao,aS (λx=>h x.1),cH]
theorem aAf:Rk.RS:=rE [.d aBl] Rk
def aG8:=Rk.eU aG7
def Z0(pre:List gK)(o:bC):Bool:=pre.any λy=>Ty.beq bg y.1 o
def anA:List gK->List gK->Bool
 |_,[]=>true
 |pre,x::l=>(Iu x && !(Z0 pre x.1)) && anA (pre++ [x]) l
theorem aFG:∀(l:List gK) (m:List (bC×Bool)) (pre:List gK),(∀o,(bN bg o m).getD false=Z0 pre o)->Ei m l=anA pre l
 |[],_,_,_=>rfl
 |x::l,m,pre,h=>by
  have e:Qv m x=Z0 pre x.1:=h x.1;rw[Ei,anA,e,aFG l (eG bg x.1 true m) (pre++ [x]) λo=> ?_,Bool.and_comm (Iu x)];rw[FL eV];unfold Z0;rw[List.any_append];simp only[ru,List.any_nil,Bool.or_false];by_cases h1:o=x.1
  ·rw[if_pos ((sS _ _).2 h1),(sS x.1 o).2 h1.symm,Bool.or_true];rfl
  ·rw[if_neg (λe=>h1 ((sS _ _).1 e)),h o];have:Ty.beq bg x.1 o=false:=by
    cases hb:Ty.beq bg x.1 o with
    |false=>rfl
    |true=>exact absurd ((sS _ _).1 hb).symm h1
   rw[this,Bool.or_false];rfl
def Bl(o:gm):Bool:=sU o.1 && kS o.2.1
theorem aol:∀(l:List gm) (s:Int),0<=s->s<=1125899906842624->xZ s l=(l.all Bl && decide (s+jc l<=1125899906842624))
 |[],s,h0,h1=>by rw[aM (show s+jc []<=1125899906842624 by show s+0<=_;omega)];rfl
 |o::l,s,h0,h1=>by
  have hc:sU s=true:=aM ⟨h0,h1⟩;rw[xZ,ff,tJ];unfold Lr;rw[hc,bw,show Bl o=(sU o.1 && kS o.2.1) from rfl];cases c1:sU o.1 with
  |false=>rfl
  |true=>
   have c2:0<=o.1/\o.1<=1125899906842624:=of_decide_eq_true c1;rw[bw,bw];by_cases hs:s+o.1<=1125899906842624
   ·rw[aM hs,bw,aol l (s+o.1) ak hs,Int.add_assoc,Bool.and_assoc]
   ·rw[aS hs,cH,cH];cases hl:l.all Bl with
    |false=>cases kS o.2.1 <;> rfl
    |true=>
     have key:∀l:List gm,l.all Bl=true->0<=jc l:=by
      intro l
      induction l with
      |nil=>intro _;exact iD 0
      |cons x l ih=>
       intro h;rw[ff,au]at h;have h1:=h.1;unfold Bl at h1;rw[au]at h1;have h2:0<=x.1/\x.1<=1125899906842624:=of_decide_eq_true h1.1;have:=ih h.2;rw[tJ];omega
     have:=key l hl;rw[aS (show ¬s+(o.1+jc l)<=1125899906842624 by omega)];cases kS o.2.1 <;> rfl
abbrev rH:=dw×Int
def kB:rH->AS:=λ(oO,i)=>⟨([bF,.dO ez oO,bF,.d ti i]++aP 100 []),[],(ab 104 [])⟩
def fa:Unit->Exit×AS:=λx=>(.ret,⟨([bF,bF,.d .bool false]++aP 101 []),[],(ab 104 [])⟩)
def sx:dw->Exit×AS:=λx=>(.exit 0,⟨([bF,.dO ez x]++aP 102 []),[],(ab 104 [])⟩)
abbrev Dq:=(Unit)⊕(dw)
abbrev Mt:=(Unit)⊕(dw)
def yf:Dq->Out (Exit×AS):=λx=> .br x.isLeft (.get x.getLeft? λa=> .ok (fa a)) (.get x.getRight? λb=> .ok (sx b))
def iG:rH->Mt->Dq:=λ(oO,i) y=>match y with | .inl y=> .inl y | .inr z=> .inr (z)
abbrev rI:=dw×Int×Int×gK
def kC:rI->AS:=λ(vl,fM,kv,n4)=>⟨([bF,.dO ez vl,bF,.d ti fM,eT 4,.d ti kv]++aP 98 []),[],(bM 4 ([dK (.d gh n4)]++bM 99 []))⟩
def kZ:Unit->Exit×AS:=λx=>(.ret,⟨([bF,bF,.d .bool false]++aP 101 []),[],(ab 104 [])⟩)
def sz:(dw×Int)->Exit×AS:=λx=>(.exit 2,⟨([bF,.dO ez x.1,bF,.d ti x.2]++aP 100 []),[],(ab 104 [])⟩)
abbrev Ds:=(Unit)⊕((dw×Int))
abbrev Mv:=(Unit)⊕(Unit)
def yg:Ds->Out (Exit×AS):=λx=> .br x.isLeft (.get x.getLeft? λa=> .ok (kZ a)) (.get x.getRight? λb=> .ok (sz b))
def iH:rI->Mv->Ds:=λ(vl,fM,kv,n4) y=>match y with | .inl y=> .inl y | .inr z=> .inr ((vl,fM))
abbrev rJ:=dw×Int×Int
def kD:rJ->AS:=λ(XJ,sum,G9)=>⟨([bF,.dO ez XJ]++aP 4 ([.d ti sum,.d ti G9]++aP 96 [])),[],(ab 104 [])⟩
def gg:Unit->Exit×AS:=λx=>(.ret,⟨([bF,bF,.d .bool false]++aP 101 []),[],(ab 104 [])⟩)
def sB:Int->Exit×AS:=λx=>(.exit 4,⟨(aP 6 ([.d ti x]++aP 97 [])),[],(ab 104 [])⟩)
abbrev Du:=(Unit)⊕(Int)
abbrev Mx:=(Unit)⊕(Int)
def yh:Du->Out (Exit×AS):=λx=> .br x.isLeft (.get x.getLeft? λa=> .ok (gg a)) (.get x.getRight? λb=> .ok (sB b))
def iI:rJ->Mx->Du:=λ(XJ,sum,G9) y=>match y with | .inl y=> .inl y | .inr z=> .inr (z)
def sy:rI->Prop:=λ(t,i,j,x)=>∃(n k:Nat),n<=t.1.length/\k<=n/\n<=1000/\i=n/\j=k
def jU:rI->Mv:=λ(t,i,j,x)=>if Z0 ((t.1.take i.toNat).drop j.toNat) x.1 then .inl () else .inr ()
def sw:rH->Prop:=λ(t,i)=>t.1.length<=64/\∃k:Nat,k<=t.1.length/\i=k
def jT:rH->Mt:=λ(t,i)=>if anA (t.1.take i.toNat) (t.1.drop i.toNat) then .inr t else .inl ()
def sA:rJ->Prop:=λ(t,s,i)=>t.2.1.length<=64/\(∀o∈t.2.1,adK o.2.1)/\∃k:Nat,k<=t.2.1.length/\i=k/\0<=s/\s<=(k:Int)*1125899906842624
def jV:rJ->Mx:=λ(t,s,i)=>if(t.2.1.drop i.toNat).all Bl then .inr (s+jc (t.2.1.drop i.toNat)) else .inl ()
def aj1:dw->Prop:=λt=>aQl t
def OK:dw->Bool:=λt=>hJ t
def Ms:=dz.fv kB sw iG jT yf
def Ex:rH->Option Dq:=gM Ms kB
def Mu:=dz.fv kC sy iH jU yg
def Ez:rI->Option Ds:=gM Mu kC
def Mw:=dz.fv kD sA iI jV yh
def EB:rJ->Option Du:=gM Mw kD
def fE:Fs Tryz.prog aj1 bu OK:=eN 100 Tryz.f100 (λt=>([.d ez t],[])) (λx=>⟨.d .bool x,[],[]⟩) [some ez] [aG8,Wi] {loops:=nY [(4,{aV:=[1,3]}),(10,{aV:=[1,3,4,5],sites:=[4]}),(16,{aV:=[1,6,7]})],outs:=nX [(4,{aV:=[1]},{aV:=[2]}),(10,{aV:=[1,3]},{aV:=[2]}),(16,{aV:=[6]},{aV:=[2]})],fF:=nK [(4,Ms),(10,Mu),(16,Mw)]}
def Dp:= @eC Tryz.prog (jI fE.G) fE.an 0 Tryz.f100 0 _ kB
abbrev I4:=kP Tryz.prog (jI fE.G) fE.an 0 Tryz.f100 0 kB sw iG jT yf
def Dr:= @eC Tryz.prog (jI fE.G) fE.an 0 Tryz.f100 1 _ kC
abbrev I6:=kP Tryz.prog (jI fE.G) fE.an 0 Tryz.f100 1 kC sy iH jU yg
def Dt:= @eC Tryz.prog (jI fE.G) fE.an 0 Tryz.f100 2 _ kD
abbrev I8:=kP Tryz.prog (jI fE.G) fE.an 0 Tryz.f100 2 kD sA iI jV yh
theorem Xt:jf Ex sw iG jT:=mn (jx [.d ez,.d ti] λ_=>b8)
theorem I5:nq @Dp kB sw iG jT yf I4:=oa
theorem Ey(oO:dw)(i:Int)(kn:AS->Option R)(kx:Exit->AS->Option R):Dp (oO,i) kn kx=aJ ((gr i (((ag oO.1):Nat):Int))) (aJ (ed i (((ag oO.1):Nat):Int)) (aJ (gr (nth gh oO.1 (ae i)).1.2.1 (0:Int)) (kx (fa ()).1 (fa ()).2) (aJ (qZ (nth gh oO.1 (ae i)).1.2.1 (63:Int)) (kx (fa ()).1 (fa ()).2) (al (Rk.call (nth gh oO.1 (ae i)).2.1) λx1=>aJ ((!x1)) (kx (fa ()).1 (fa ()).2) (al (Ez (oO,i,(0:Int),(nth gh oO.1 (ae i)))) λx2=>aJ x2.isLeft (al x2.getLeft? λa3=>kx (fa ()).1 (fa ()).2) (al x2.getRight? λb4=>kn (kB (b4.1,(bI .i64 b4.2 (1:Int))))))))) none) (kx (sx oO).1 (sx oO).2):=b8
theorem Xu:jf Ez sy iH jU:=mn (jx [.d ez,.d ti,.d ti,.d gh] λ_=>b8)
theorem I7:nq @Dr kC sy iH jU yg I6:=oa
theorem EA(vl:dw)(fM:Int)(kv:Int)(n4:gK)(kn:AS->Option R)(kx:Exit->AS->Option R):Dr (vl,fM,kv,n4) kn kx=aJ ((gr kv fM)) (aJ (ed kv (((ag vl.1):Nat):Int)) (aJ (Ty.beq bg (nth gh vl.1 (ae kv)).1 n4.1) (kx (kZ ()).1 (kZ ()).2) (kn (kC (vl,fM,(bI .i64 kv (1:Int)),n4)))) none) (kx (sz (vl,fM)).1 (sz (vl,fM)).2):=b8
theorem Xv:jf EB sA iI jV:=mn (jx [.d ez,.d ti,.d ti] λ_=>b8)
theorem I9:nq @Dt kD sA iI jV yh I8:=oa
theorem EC(XJ:dw)(sum:Int)(G9:Int)(kn:AS->Option R)(kx:Exit->AS->Option R):Dt (XJ,sum,G9) kn kx=aJ ((gr G9 (((ag XJ.2.1):Nat):Int))) (aJ (ed G9 (((ag XJ.2.1):Nat):Int)) (aJ (gr (nth gl XJ.2.1 (ae G9)).1 (0:Int)) (kx (gg ()).1 (gg ()).2) (aJ (qZ (nth gl XJ.2.1 (ae G9)).1 (1125899906842624:Int)) (kx (gg ()).1 (gg ()).2) (al (kz.call (nth gl XJ.2.1 (ae G9)).2.1) λx1=>aJ ((!x1)) (kx (gg ()).1 (gg ()).2) (kn (kD (XJ,(bI .i64 sum (nth gl XJ.2.1 (ae G9)).1),(bI .i64 G9 (1:Int)))))))) none) (kx (sB sum).1 (sB sum).2):=b8
theorem aoK(t)(k:K1 R):fE.A t k=aJ ((gr (t.1.length:Int) 1)) (k (fE.out false)) (aJ (qZ (t.1.length:Int) 64) (k (fE.out false)) (aJ (qZ (t.2.1.length:Int) 64) (k (fE.out false)) (aJ (gr t.2.2.1 0) (k (fE.out false)) (al (Ex (t,0)) λx5=>aJ x5.isLeft (al x5.getLeft? λa6=>k (fE.out false)) (al x5.getRight? λb7=>al (EB (b7,0,0)) λx9=>aJ x9.isLeft (al x9.getLeft? λa10=>k (fE.out false)) (al x9.getRight? λaSH=>k (fE.out (ai7 aSH 1125899906842624)))))))):=b8
theorem abK:I6:=by
 refine I7 (λ(_,i,j,_)=>(i - j).toNat) ?_
 rintro⟨t,i,j,x⟩ ⟨n,k,hn,hk,hm,rfl,rfl⟩;by_cases gQ:k < n
 ·have aqq:k < (t.1.take n).length:=by rw[bp];omega
  have n1:nth gh t.1 k=t.1[k]:=cd (t:=gh) ak;have hd:(t.1.take n).drop k=t.1[k]::(t.1.take n).drop (k+1):=by rw[aq aqq,List.getElem_take]
  have hh:Z0 ((t.1.take n).drop k) x.1=(Ty.beq bg t.1[k].1 x.1 || Z0 ((t.1.take n).drop (k+1)) x.1):=by rw[hd];rfl
  have step:∀ {R:Type} (kn:AS->Option R) (kx:Exit->AS->Option R),Dr (t,(n:Int),(k:Int),x) kn kx=aJ (Ty.beq bg t.1[k].1 x.1) (kx (kZ ()).1 (kZ ()).2) (kn (kC (t,(n:Int),((k+1:Nat):Int),x))):=by intro R kn kx;rw[EA,aU ak,aj,bj ak ak,aj,aa,n1,N.mD ak]
  cases hb:Ty.beq bg t.1[k].1 x.1 with
  |true=>
   right;refine⟨kZ (),?_,λkn kx=> ?_⟩
   ·simp only[iH,jU,aa,hh,hb,Bool.true_or,bG];rfl
   ·rw[step,hb,aj]
  |false=>
   left;refine⟨(t,(n:Int),((k+1:Nat):Int),x),⟨n,k+1,hn,ak,hm,rfl,rfl⟩,by show((n:Int) - ((k+1:Nat):Int)).toNat < ((n:Int) - (k:Int)).toNat;omega,?_,λkn kx=> ?_⟩
   ·simp only[iH,jU,aa,hh,hb,wj]
   ·rw[step,hb,ao]
 ·right;obtain rfl:k=n:=ak;have e:(t.1.take k).drop k=[]:=dZ (by rw[bp];omega);refine⟨sz (t,(k:Int)),?_,λkn kx=> ?_⟩
  ·simp only[iH,jU,aa,e];rfl
  ·rw[EA,aQ ak,ao]
theorem abJ:I4:=by
 refine I5 (λ(t,i)=>t.1.length - i.toNat) ?_
 rintro⟨t,i⟩ ⟨FM,k,hk,rfl⟩;have FM:t.1.length<=64:=FM;have hk:k<=t.1.length:=hk;by_cases gQ:k < t.1.length
 ·have n1:nth gh t.1 k=t.1[k]:=cd (t:=gh) gQ;have hd:anA (t.1.take k) (t.1.drop k)=((Iu t.1[k] && !(Z0 (t.1.take k) t.1[k].1)) && anA (t.1.take (k+1)) (t.1.drop (k+1))):=by rw[aq gQ,anA,iv gQ]
  have step:∀ {R:Type} (kn:AS->Option R) (kx:Exit->AS->Option R),Dp (t,(k:Int)) kn kx=aJ (Iu t.1[k] && !(Z0 (t.1.take k) t.1[k].1)) (kn (kB (t,((k+1:Nat):Int)))) (kx (fa ()).1 (fa ()).2):=by
   intro R kn kx;rw[Ey,aU ak,aj,bj ak ak,aj,aa,n1];unfold Iu;by_cases h1:t.1[k].1.2.1 < 0
   ·rw[aU h1,aj,aS ak];rfl
   rw[aQ h1,ao];by_cases h2:t.1[k].1.2.1 > 63
   ·rw[cP h2,aj,aS ak];rfl
   rw[cr h2,ao,aM ak,aAf (d:=t.1[k].2.1) trivial];simp only[ah,bu,ajX,bw];cases BP t.1[k].2.1 with
   |false=>rfl
   |true=>
    rw[cm,ao,bw,Xu (d:=(t,(k:Int),0,t.1[k])) ⟨k,0,hk,aK _,ak,rfl,rfl⟩];simp only[ah,iH,jU,aa,aX,aD];cases Z0 (t.1.take k) t.1[k].1 with
    |true=>rfl
    |false=>
     simp only[bn,bt,dJ,ao,da,ah,fb,aj];rw[N.mD ak]
  cases hp:Iu t.1[k] && !(Z0 (t.1.take k) t.1[k].1)
  ·right;refine⟨fa (),?_,λkn kx=> ?_⟩
   ·simp only[iG,jT,aa,hd,hp,cH,bn,bt];rfl
   ·rw[step,hp,ao]
  ·left;refine⟨(t,((k+1:Nat):Int)),⟨FM,k+1,ak,rfl⟩,by simp only[aa];omega,?_,λkn kx=> ?_⟩
   ·simp only[iG,jT,aa,hd,hp,bw]
   ·rw[step,hp,aj]
 ·right;obtain rfl:k=t.1.length:=ak;refine⟨sx t,?_,λkn kx=> ?_⟩
  ·simp only[iG,jT,aa,aL];rfl
  ·rw[Ey,aQ ak,ao]
theorem abL:I8:=by
 refine I9 (λ(t,_,i)=>t.2.1.length - i.toNat) ?_
 rintro⟨t,s,i⟩ ⟨FM,hu,k,hk,rfl,h0,h1⟩;have FM:t.2.1.length<=64:=FM;have hk:k<=t.2.1.length:=hk;have h0:0<=s:=h0;have h1:s<=(k:Int)*1125899906842624:=h1;by_cases gQ:k < t.2.1.length
 ·have n1:nth gl t.2.1 k=t.2.1[k]:=cd (t:=gl) gQ;have hd:t.2.1.drop k=t.2.1[k]::t.2.1.drop (k+1):=aq gQ;have step:∀ {R:Type} (kn:AS->Option R) (kx:Exit->AS->Option R),Dt (t,s,(k:Int)) kn kx=aJ (Bl t.2.1[k]) (kn (kD (t,s+t.2.1[k].1,((k+1:Nat):Int)))) (kx (gg ()).1 (gg ()).2):=by
   intro R kn kx;rw[EC,aU ak,aj,bj ak ak,aj,aa,n1];unfold Bl sU;by_cases c1:t.2.1[k].1 < 0
   ·rw[aU c1,aj,aS ak];rfl
   rw[aQ c1,ao];by_cases c2:t.2.1[k].1 > 1125899906842624
   ·rw[cP c2,aj,aS ak];rfl
   rw[cr c2,ao,aM ak,Rj (d:=t.2.1[k].2.1) (hu _ (aN gQ))];simp only[ah,bu,Gk,bw];rw[fZ ak ak,N.mD ak];cases kS t.2.1[k].2.1 <;> rfl
  cases hp:Bl t.2.1[k]
  ·right;refine⟨gg (),?_,λkn kx=> ?_⟩
   ·simp only[iI,jV,aa,hd,ff,hp,cH,bn,bt];rfl
   ·rw[step,hp,ao]
  ·left;have hp':=hp;unfold Bl at hp';rw[au]at hp';have c:0<=t.2.1[k].1/\t.2.1[k].1<=1125899906842624:=of_decide_eq_true hp'.1;refine⟨(t,s+t.2.1[k].1,((k+1:Nat):Int)),⟨FM,hu,k+1,ak,rfl,by show 0<=s+t.2.1[k].1;omega,by show s+t.2.1[k].1<=((k+1:Nat):Int)*1125899906842624;omega⟩,by simp only[aa];omega,?_,λkn kx=> ?_⟩
   ·simp only[iI,jV,aa,hd,ff,hp,bw,tJ,Int.add_assoc]
   ·rw[step,hp,aj]
 ·right;obtain rfl:k=t.2.1.length:=ak;refine⟨sB s,?_,λkn kx=> ?_⟩
  ·simp only[iI,jV,aa,aL];rw[show s+jc ([]:List gm)=s+0 from rfl,Int.add_zero];rfl
  ·rw[EC,aQ ak,ao]
theorem aoL:fE.Ok:=by
 intro t hv;have hv:aQl t:=hv;rw[aoK];simp only[bu,OK,hJ,adr];by_cases h1:t.1.length < 1
 ·rw[aU ak,aS ak];rfl
 by_cases h2:t.1.length > 64
 ·rw[aQ ak,ao,cP ak,aS ak];rfl
 by_cases h3:t.2.1.length > 64
 ·rw[aQ ak,ao,cr ak,ao,cP ak,aS ak];rfl
 rw[aQ ak,ao,cr ak,ao,cr ak,ao];by_cases h4:t.2.2.1 < 0
 ·rw[aU h4,aS ak];rfl
 rw[aQ h4,ao,aM ak,bw,Xt (d:=(t,0)) ⟨by show t.1.length<=64;omega,0,aK _,rfl⟩];simp only[ah,iG,jT,aX,aD,dH];rw[aFG t.1 [] [] (λo=>by rw[qB];rfl),aol t.2.1 0 (by decide) (by decide)];cases anA [] t.1 with
 |false=>rfl
 |true=>
  simp only[bG,dJ,ao,da,ah,bw];rw[Xv (d:=(t,0,0)) ⟨by show t.2.1.length<=64;omega,λo ho=>(hv.1 o ho).1,0,aK _,rfl,iD 0,ak⟩];simp only[ah,iI,jV,aX,aD];cases t.2.1.all Bl with
  |false=>rfl
  |true=>
   simp only[bG,dJ,ao,da,ah,bw];by_cases hs:0+jc t.2.1<=1125899906842624
   ·rw[og hs,aM hs]
   ·rw[ke hs,aS hs]
theorem aj2:fE.RS:=rE [.d ez] fE
def aoM:=fE.eU aoL 3 ⟨.fv abJ,⟨.fv abK,⟨.fv abL,trivial⟩⟩⟩
abbrev Dm:=dw×Bs×Int
def sq:Dm->Bs->((dw)×(Bs)):=λ(oO,b,i) y=>(oO,y)
abbrev Dn:=dw×Bs×Int
def sr:Dn->Bs->((dw)×(Bs)):=λ(vl,iR,fM) y=>(vl,y)
def Xp:Dm->Prop:=λ(t,b,i)=>(t.1).length<=1000000000/\∃k:Nat,k<=(t.1).length/\i=k/\(t.1.length<=64)/\(∀x∈t.1,x.1.1.length=32/\x.1.2.1<=9223372036854775807)/\(b.length<=100+50*k)
def wQ:Dm->Bs:=λ(t,b,i)=>(bR (ae i) t.1).foldl KI b
def Xr:Dn->Prop:=λ(t,b,i)=>(t.2.1).length<=1000000000/\∃k:Nat,k<=(t.2.1).length/\i=k/\(t.2.1.length<=64)/\(∀o∈t.2.1,o.1<=9223372036854775807/\adK o.2.1)/\(b.length<=4000+1100*k)
def wR:Dn->Bs:=λ(t,b,i)=>(bR (ae i) t.2.1).foldl Ll b
def ajZ:dw->Prop:=λt=>hJ t=true/\nU t
def abG:dw->Bs:=λt=>uW t
def lT:Ls Xp sq wQ:=rp (λ(oO,b,i)=>⟨([bF,.dO ez oO,bF,.d tB b,.d ti i]++aP 63 []),[],(ab 68 [])⟩) (λx=>(.exit 0,⟨([bF,.dO ez x.1,bF,.d tB x.2]++aP 64 []),[],(ab 68 [])⟩))
def lU:Ls Xr sr wR:=rp (λ(vl,iR,fM)=>⟨([bF,.dO ez vl,bF,.d tB iR,bF,.d ti fM]++aP 62 []),[],(ab 68 [])⟩) (λx=>(.exit 2,⟨([bF,.dO ez x.1,bF,.d tB x.2]++aP 64 []),[],(ab 68 [])⟩))
def mL:Fs Tryz.prog ajZ bu abG:=eN 101 Tryz.f101 (λt=>([.d ez t],[])) (λx=>⟨.d tB x,[],[]⟩) [some ez] [abV,agN,aoE,aAo] {loops:=nY [(3,{aV:=[1,3,4]}),(9,{aV:=[1,3,5]})],outs:=nX [(3,{aV:=[1,3]},{aV:=[2]}),(9,{aV:=[1,3]},{aV:=[2]})],fF:=nK [(3,lT.E),(9,lU.E)],res:=[some tB]}
theorem Xq:lT.RS:=rL [.d ez,.d tB,.d ti] lT
theorem Ev(oO b i)(kn:K2 R)(kx:K3 R):mL.R 0 lT (oO,b,i) kn kx=aJ ((gr i (oO.1.length:Int))) (aJ (ed i (oO.1.length:Int)) (al (vW.call (b,(nth gh oO.1 (ae i)).1.1)) λx1=>aJ (ed i (oO.1.length:Int)) (al (rO.call (x1,(nth gh oO.1 (ae i)).1.2.1)) λx2=>kn (lT.st (oO,x2,(bI .i64 i 1)))) none) none) (lT.go kx (oO,b)):=b8
theorem Xs:lU.RS:=rL [.d ez,.d tB,.d ti] lU
theorem Ew(vl iR fM)(kn:K2 R)(kx:K3 R):mL.R 1 lU (vl,iR,fM) kn kx=aJ ((gr fM (vl.2.1.length:Int))) (aJ (ed fM (vl.2.1.length:Int)) (al (rO.call (iR,(nth gl vl.2.1 (ae fM)).1)) λx1=>aJ (ed fM (vl.2.1.length:Int)) (al (lQ.call (nth gl vl.2.1 (ae fM)).2.1) λx2=>al (ON.call (x1,x2)) λx3=>kn (lU.st (vl,x3,(bI .i64 fM 1)))) none) none) (lU.go kx (vl,iR)):=b8
theorem aoH(t)(k:K1 R):mL.A t k=al (rO.call (([]:List Int),(t.1.length:Int))) λx1=>al (lT.call (t,x1,0)) λx4=>al (rO.call (x4.2,(x4.1.2.1.length:Int))) λx5=>al (lU.call (x4.1,x5,0)) λx9=>al (rO.call (x9.2,x9.1.2.2.1)) λak8=>k (mL.out ak8):=b8
theorem abH:(mL.kM 0 lT):=by
 refine(mL.mf 0 lT) (λ(t,b,i)=>(t.1).length - ae i) ?_
 rintro⟨t,b,i⟩ ⟨hlen,k,hk,rfl,FM,hx,hb⟩;have hlen:(t.1).length<=1000000000:=hlen;have hk:k<=(t.1).length:=hk;have FM:t.1.length<=64:=FM;have hx:∀x∈t.1,x.1.1.length=32/\x.1.2.1<=9223372036854775807:=hx;have hb:b.length<=100+50*k:=hb;by_cases h:k < (t.1).length
 ·left;have n1:nth gh t.1 k=t.1[k]:=cd (t:=gh) h;have hd:bR k t.1=t.1[k]::bR (k+1) t.1:=aq h;refine⟨(t,(KI b t.1[k]),((k+1:Nat):Int)),⟨hlen,k+1,ak,rfl,FM,hx,by have:=ai8 b t.1[k];have:=(hx _ (aN h)).1;omega⟩,by simp only[aa];omega,?_,λkn kx=> ?_⟩
  ·simp only[sq,wQ,aa,hd,bq]
  ·rw[Ev,aU ak,bj ak ak,aa,n1];simp only[aj];have e:=hx _ (aN h);have e2:(b++t.1[k].1.1).length=b.length+t.1[k].1.1.length:=ai;rw[Gm (d:=(b,t.1[k].1.1)) ⟨by show b.length<=_;omega,e.1⟩];simp only[ah,bu,EL];rw[jv (d:=(b++t.1[k].1.1,t.1[k].1.2.1)) ⟨by show(b++t.1[k].1.1).length<=_;omega,e.2⟩];simp only[ah,bu,nL];rw[N.mD ak];rfl
 ·right;obtain rfl:k=(t.1).length:=ak;intro R kn kx;rw[Ev,aQ ak,ao];simp only[sq,wQ,aa,aL,cO]
theorem abI:(mL.kM 1 lU):=by
 refine(mL.mf 1 lU) (λ(t,b,i)=>(t.2.1).length - ae i) ?_
 rintro⟨t,b,i⟩ ⟨hlen,k,hk,rfl,FM,hx,hb⟩;have hlen:(t.2.1).length<=1000000000:=hlen;have hk:k<=(t.2.1).length:=hk;have FM:t.2.1.length<=64:=FM;have hx:∀o∈t.2.1,o.1<=9223372036854775807/\adK o.2.1:=hx;have hb:b.length<=4000+1100*k:=hb;by_cases h:k < (t.2.1).length
 ·left;have n1:nth gl t.2.1 k=t.2.1[k]:=cd (t:=gl) h;have hd:bR k t.2.1=t.2.1[k]::bR (k+1) t.2.1:=aq h;refine⟨(t,(Ll b t.2.1[k]),((k+1:Nat):Int)),⟨hlen,k+1,ak,rfl,FM,hx,by have:=abn b t.2.1[k];omega⟩,by simp only[aa];omega,?_,λkn kx=> ?_⟩
  ·simp only[sr,wR,aa,hd,bq]
  ·rw[Ew,aU ak,bj ak ak,aa,n1];simp only[aj];have e:=hx _ (aN h);have e1:=dy b t.2.1[k].1;have e2:=KM t.2.1[k].2.1;rw[jv (d:=(b,t.2.1[k].1)) ⟨by show b.length<=_;omega,e.1⟩];simp only[ah,bu,nL];rw[ajV (d:=t.2.1[k].2.1) e.2];simp only[ah,bu,OJ];rw[atl (d:=(cF b t.2.1[k].1,N7 t.2.1[k].2.1)) (by show(cF b t.2.1[k].1).length+(N7 t.2.1[k].2.1).length<=_;omega)];simp only[ah,bu,abW];rw[N.mD ak];rfl
 ·right;obtain rfl:k=(t.2.1).length:=ak;intro R kn kx;rw[Ew,aQ ak,ao];simp only[sr,wR,aa,aL,cO]
theorem aoI:mL.Ok:=by
 rintro t ⟨jn,hv⟩;have hv:nU t:=hv;obtain⟨⟨_,a2,a3,_⟩,b1,b2⟩:=jM jn;have h0:([]:List Int).length=0:=rfl;have l0:=dy [] t.1.length;have l1:=X2 t.1 (cF [] t.1.length) λx hx=>(hv.2.1 x hx).1.1
 have l2:=dy (t.1.foldl KI (cF [] t.1.length)) t.2.1.length;have l3:=Q9 t.2.1 (cF (t.1.foldl KI (cF [] t.1.length)) t.2.1.length);rw[aoH,jv (d:=([],(t.1.length:Int))) ⟨by show([]:List Int).length<=_;omega,by show(t.1.length:Int)<=_;omega⟩];simp only[ah,bu,nL];rw[Xq (d:=(t,cF [] t.1.length,0)) ⟨by show t.1.length<=_;omega,0,aK _,rfl,a2,λx hx=>⟨(hv.2.1 x hx).1.1,by have:=A6 (mH _ _ b1 x hx);omega⟩,by show(cF [] t.1.length).length<=_;omega⟩];simp only[ah,sq,wQ,aX,aD];rw[jv (d:=(t.1.foldl KI (cF [] t.1.length),(t.2.1.length:Int))) ⟨by show(t.1.foldl KI (cF [] t.1.length)).length<=_;omega,by show(t.2.1.length:Int)<=_;omega⟩];simp only[ah,bu,nL];rw[Xs (d:=(t,cF (t.1.foldl KI (cF [] t.1.length)) t.2.1.length,0)) ⟨by show t.2.1.length<=_;omega,0,aK _,rfl,a3,λo ho=>⟨by have:=(ky _ _ b2 o ho).1;omega,(hv.1.1 o ho).1⟩,by show(cF (t.1.foldl KI (cF [] t.1.length)) t.2.1.length).length<=_;omega⟩];simp only[ah,sr,wR,aX,aD];rw[jv (d:=(t.2.1.foldl Ll (cF (t.1.foldl KI (cF [] t.1.length)) t.2.1.length),t.2.2.1)) ⟨by show(t.2.1.foldl Ll (cF (t.1.foldl KI (cF [] t.1.length)) t.2.1.length)).length<=_;omega,hv.2.2⟩];rfl
theorem aj0:mL.RS:=rE [.d ez] mL
def aoJ:=mL.eU aoI 2 ⟨.fv abH,⟨.fv abI,trivial⟩⟩
def aAg:dw->Prop:=λt=>nU t
def ajY:dw->Bs:=λt=>iC t
def Wj:Fs Tryz.prog aAg bu ajY:=eN 53 Tryz.f53 (λt=>([.d ez t],[])) (λx=>⟨.d tH x,[],[]⟩) [some ez] [aoM,aoJ,awB]
theorem aG9(t)(k:K1 R):Wj.A t k=al (fE.call t) λx1=>aJ ((!x1)) (k (Wj.out (ab 32 0))) (al (mL.call t) λx2=>al (acp.call ((⟨#[116,120]⟩:ByteArray),[x2])) λx3=>k (Wj.out x3)):=b8
theorem aHa:Wj.Ok:=by
 intro t hv;have hv:nU t:=hv;rw[aG9,aj2 (d:=t) hv.1];simp only[ah,bu,OK,bu,ajY,iC];cases jn:hJ t
 ·rfl
 ·have hl:=OE jn hv;rw[aj0 (d:=t) ⟨jn,hv⟩];simp only[cm,ao,bG,ah,bu,abG];rw[apf (d:=((⟨#[116,120]⟩:ByteArray),[uW t])) (R0 (by decide) ak)];rfl
theorem aAh:Wj.RS:=rE [.d ez] Wj
def aHb:=Wj.eU aHa
abbrev DB:=cZ×Bs×Int
def sI:DB->Bs->((cZ)×(Bs)):=λ(iR,x,i) y=>(iR,y)
def Xz:DB->Prop:=λ(b,x,i)=>(b.2.2.1).length<=1000000000/\∃k:Nat,k<=(b.2.2.1).length/\i=k/\(b.2.2.1.length<=1000)/\(∀t∈b.2.2.1,nU t)/\(x.length<=1000+32*k)
def wS:DB->Bs:=λ(b,x,i)=>(bR (ae i) b.2.2.1).foldl avR x
def XB:(cZ×Bs×Int)->Prop:=λ(b,x,i)=>(b.2.2.2.2.1).length<=1000000000/\∃k:Nat,k<=(b.2.2.2.2.1).length/\i=k/\(b.2.2.2.2.1.length<=1000)/\(∀o∈b.2.2.2.2.1,aw0 o)/\(x.length<=100000+43*k)
def wT:(cZ×Bs×Int)->Bs:=λ(b,x,i)=>(bR (ae i) b.2.2.2.2.1).foldl aLp x
def aj5:cZ->Prop:=λb=>auX b
def OM:cZ->Bs:=λb=>aOh b
def lV:Ls Xz sI wS:=rp (λ(iR,x,i)=>⟨([bF,.dO dR iR,bF,.d tB x,.d ti i]++aP 60 []),[],(ab 65 [])⟩) (λx=>(.exit 0,⟨([bF,.dO dR x.1,bF,.d tB x.2]++aP 61 []),[],(ab 65 [])⟩))
def lW:Ls XB bu wT:=rp (λ(SB,aCk,fM)=>⟨([bF,.dO dR SB,bF,.d tB aCk,bF,.d ti fM]++aP 59 []),[],(ab 65 [])⟩) (λx=>(.exit 2,⟨([bF,bF,bF,.d tB x]++aP 61 []),[],(ab 65 [])⟩))
def mM:Fs Tryz.prog aj5 bu OM:=eN 97 Tryz.f97 (λb=>([.d dR b],[])) (λx=>⟨.d tB x,[],[]⟩) [some dR] [abV,agN,aHb] {loops:=nY [(4,{aV:=[1,3,4]}),(10,{aV:=[1,3,5]})],outs:=nX [(4,{aV:=[1,3]},{aV:=[2]}),(10,{aV:=[3]},{aV:=[2]})],fF:=nK [(4,lV.E),(10,lW.E)]}
theorem XA:lV.RS:=rL [.d dR,.d tB,.d ti] lV
theorem EJ(iR x i)(kn:K2 R)(kx:K3 R):mM.R 0 lV (iR,x,i) kn kx=aJ ((gr i (iR.2.2.1.length:Int))) (aJ (ed i (iR.2.2.1.length:Int)) (al (Wj.call (nth ez iR.2.2.1 (ae i))) λx1=>al (vW.call (x,x1)) λx2=>kn (lV.st (iR,x2,(bI .i64 i 1)))) none) (lV.go kx (iR,x)):=b8
theorem XC:lW.RS:=rL [.d dR,.d tB,.d ti] lW
theorem EK(SB aCk fM)(kn:K2 R)(kx:K3 R):mM.R 1 lW (SB,aCk,fM) kn kx=aJ ((gr fM (SB.2.2.2.2.1.length:Int))) (aJ (ed fM (SB.2.2.2.2.1.length:Int)) (al (vW.call (aCk,(nth bg SB.2.2.2.2.1 (ae fM)).1)) λx1=>aJ (ed fM (SB.2.2.2.2.1.length:Int)) (al (rO.call (x1,(nth bg SB.2.2.2.2.1 (ae fM)).2.1)) λx2=>kn (lW.st (SB,x2,(bI .i64 fM 1)))) none) none) (lW.go kx aCk):=b8
theorem aoQ(b)(k:K1 R):mM.A b k=al (rO.call (([]:List Int),b.1)) λx1=>al (vW.call (x1,b.2.1)) λx2=>al (rO.call (x2,(b.2.2.1.length:Int))) λx3=>al (lV.call (b,x3,0)) λx6=>al (rO.call (x6.2,x6.1.2.2.2.1)) λx7=>al (rO.call (x7,(x6.1.2.2.2.2.1.length:Int))) λx8=>al (lW.call (x6.1,x8,0)) λawZ=>k (mM.out awZ):=b8
theorem abP:(mM.kM 0 lV):=by
 refine(mM.mf 0 lV) (λ(b,x,i)=>(b.2.2.1).length - ae i) ?_
 rintro⟨b,x,i⟩ ⟨hlen,k,hk,rfl,h3,hx,hb⟩;have hlen:(b.2.2.1).length<=1000000000:=hlen;have hk:k<=(b.2.2.1).length:=hk;have h3:b.2.2.1.length<=1000:=h3;have hx:∀t∈b.2.2.1,nU t:=hx;have hb:x.length<=1000+32*k:=hb;by_cases h:k < (b.2.2.1).length
 ·left;have n1:nth ez b.2.2.1 k=b.2.2.1[k]:=cd (t:=ez) h;have hd:bR k b.2.2.1=b.2.2.1[k]::bR (k+1) b.2.2.1:=aq h;refine⟨(b,(avR x b.2.2.1[k]),((k+1:Nat):Int)),⟨hlen,k+1,ak,rfl,h3,hx,by unfold avR;rw[ai,GN.1];omega⟩,by simp only[aa];omega,?_,λkn kx=> ?_⟩
  ·simp only[sI,wS,aa,hd,bq]
  ·rw[EJ,aU ak,bj ak ak,aa,n1];simp only[aj];rw[aAh (d:=b.2.2.1[k]) (hx _ (aN h))];simp only[ah,bu,ajY];rw[Gm (d:=(x,iC b.2.2.1[k])) ⟨by show x.length<=_;omega,GN.1⟩];simp only[ah,bu,EL];rw[N.mD ak];rfl
 ·right;obtain rfl:k=(b.2.2.1).length:=ak;intro R kn kx;rw[EJ,aQ ak,ao];simp only[sI,wS,aa,aL,cO]
theorem abQ:(mM.kM 1 lW):=by
 refine(mM.mf 1 lW) (λ(b,x,i)=>(b.2.2.2.2.1).length - ae i) ?_
 rintro⟨b,x,i⟩ ⟨hlen,k,hk,rfl,h3,hx,hb⟩;have hlen:(b.2.2.2.2.1).length<=1000000000:=hlen;have hk:k<=(b.2.2.2.2.1).length:=hk;have h3:b.2.2.2.2.1.length<=1000:=h3;have hx:∀o∈b.2.2.2.2.1,aw0 o:=hx;have hb:x.length<=100000+43*k:=hb;by_cases h:k < (b.2.2.2.2.1).length
 ·left;have n1:nth bg b.2.2.2.2.1 k=b.2.2.2.2.1[k]:=cd (t:=bg) h;have hd:bR k b.2.2.2.2.1=b.2.2.2.2.1[k]::bR (k+1) b.2.2.2.2.1:=aq h;refine⟨(b,(aLp x b.2.2.2.2.1[k]),((k+1:Nat):Int)),⟨hlen,k+1,ak,rfl,h3,hx,by have:=KH [b.2.2.2.2.1[k]] x (λo ho=>by rw[bk]at ho;subst ho;exact hx _ (aN h));simp only[bq,cO,aA,ba]at this;omega⟩,by simp only[aa];omega,?_,λkn kx=> ?_⟩
  ·simp only[bu,wT,aa,hd,bq]
  ·rw[EK,aU ak,bj ak ak,aa,n1];simp only[aj];obtain⟨e1,e2⟩:=hx _ (aN h);rw[Gm (d:=(x,b.2.2.2.2.1[k].1)) ⟨by show x.length<=_;omega,e1⟩];simp only[ah,bu,EL];rw[jv (d:=(x++b.2.2.2.2.1[k].1,b.2.2.2.2.1[k].2.1)) ⟨by show(x++b.2.2.2.2.1[k].1).length<=_;rw[ai,e1];omega,e2⟩];simp only[ah,bu,nL];rw[N.mD ak];rfl
 ·right;obtain rfl:k=(b.2.2.2.2.1).length:=ak;intro R kn kx;rw[EK,aQ ak,ao];simp only[bu,wT,aa,aL,cO]
theorem aoR:mM.Ok:=by rintro b ⟨⟨h1,h2⟩,⟨h3,h4,h5⟩,h6,h7⟩;have z1:((0:Int)).toNat=0:=rfl;have p1:=dy [] b.1;have p2:=dy (cF [] b.1++b.2.1) b.2.2.1.length;rw[ai,h4]at p2;have l0:([]:Bs).length=0:=rfl;rw[l0]at p1;have q1:=X1 b.2.2.1 (cF (cF [] b.1++b.2.1) b.2.2.1.length);obtain⟨x3,e3⟩:∃x,cF (cF [] b.1++b.2.1) b.2.2.1.length=x:=⟨_,rfl⟩;rw[e3]at p2 q1;obtain⟨x6,e6⟩:∃x,b.2.2.1.foldl avR x3=x:=⟨_,rfl⟩;rw[e6]at q1;have p7:=dy x6 b.2.2.2.1;have p8:=dy (cF x6 b.2.2.2.1) b.2.2.2.2.1.length;obtain⟨x8,e8⟩:∃x,cF (cF x6 b.2.2.2.1) b.2.2.2.2.1.length=x:=⟨_,rfl⟩;have q2:=KH b.2.2.2.2.1 x8 h7;rw[e8]at p8;rw[aoQ,jv (d:=(([]:List Int),b.1)) ⟨by show(0:Nat)<=_;omega,h3⟩];simp only[ah,bu,nL];rw[Gm (d:=(cF [] b.1,b.2.1)) ⟨by show(cF [] b.1).length<=_;omega,h4⟩];simp only[ah,bu,EL];rw[jv (d:=(cF [] b.1++b.2.1,(b.2.2.1.length:Int))) ⟨by show(cF [] b.1++b.2.1).length<=_;rw[ai,h4];omega,by show(b.2.2.1.length:Int)<=_;omega⟩];simp only[ah,bu,nL];rw[e3,XA (d:=(b,x3,0)) ⟨by show b.2.2.1.length<=_;omega,0,aK _,rfl,h1,h2,ak⟩];simp only[ah,sI,wS,z1,aD];rw[e6,jv (d:=(x6,b.2.2.2.1)) ⟨by show x6.length<=_;omega,h5⟩];simp only[ah,bu,nL];rw[jv (d:=(cF x6 b.2.2.2.1,(b.2.2.2.2.1.length:Int))) ⟨by show(cF x6 b.2.2.2.1).length<=_;omega,by show(b.2.2.2.2.1.length:Int)<=_;omega⟩];simp only[ah,bu,nL];rw[e8,XC (d:=(b,x8,0)) ⟨by show b.2.2.2.2.1.length<=_;omega,0,aK _,rfl,h6,h7,ak⟩];simp only[ah,bu,wT,z1,aD,bu,OM,aOh,e3,e6,e8]
theorem aj6:mM.RS:=rE [.d dR] mM
def aoS:=mM.eU aoR 2 ⟨.fv abP,⟨.fv abQ,trivial⟩⟩
theorem aJ4{b:cZ}(h:auX b):(aOh b).length<=1000000:=by obtain⟨⟨h1,h2⟩,⟨h3,h4,h5⟩,h6,h7⟩:=h;have p1:=dy [] b.1;have p2:=dy (cF [] b.1++b.2.1) b.2.2.1.length;rw[ai,h4]at p2;have l0:([]:Bs).length=0:=rfl;rw[l0]at p1;have q1:=X1 b.2.2.1 (cF (cF [] b.1++b.2.1) b.2.2.1.length);have p7:=dy (b.2.2.1.foldl avR (cF (cF [] b.1++b.2.1) b.2.2.1.length)) b.2.2.2.1;have p8:=dy (cF (b.2.2.1.foldl avR (cF (cF [] b.1++b.2.1) b.2.2.1.length)) b.2.2.2.1) b.2.2.2.2.1.length;have q2:=KH b.2.2.2.2.1 (cF (cF (b.2.2.1.foldl avR (cF (cF [] b.1++b.2.1) b.2.2.1.length)) b.2.2.2.1) b.2.2.2.2.1.length) h7;unfold aOh;omega
def aAi:cZ->Prop:=λb=>auX b
def awq:cZ->Bs:=λb=>aqV b
def Rm:Fs Tryz.prog aAi bu awq:=eN 47 Tryz.f47 (λb=>([.d dR b],[])) (λx=>⟨.d tH x,[],[]⟩) [some dR] [aoS,awB]
theorem aHc(b)(k:K1 R):Rm.A b k=al (mM.call b) λx1=>al (acp.call ((⟨#[98,108,111,99,107]⟩:ByteArray),[x1])) λx2=>k (Rm.out x2):=b8
theorem aHd:Rm.Ok:=by intro b h;rw[aHc,aj6 (d:=b) h];simp only[ah,bu,OM];rw[apf (d:=((⟨#[98,108,111,99,107]⟩:ByteArray),[aOh b])) (R0 (by decide) (aJ4 h))];rfl
theorem T1:Rm.RS:=rE [.d dR] Rm
def aoT:=Rm.eU aHd
abbrev ach:=Int×Int×(List dw)×Nat×Int×Bs×(List cZ)
abbrev awz:=Bs×Int×Int×(List dw)
def XF(txs:List dw):Nat->Bs->Int->List cZ
 | 0,_,_=> []
 |j+1,p,h=>Ap h p (if j=0 then txs else []) 0::XF txs j (aqV (Ap h p (if j=0 then txs else []) 0)) (h+1)
def Yo(txs:List dw):Prop:=txs.length<=100/\∀t∈txs,nU t/\t.1.length<=1000000
theorem aNf{txs:List dw}(ht:Yo txs){h:Int}{p:Bs}(hh:h<=9223372036854775807)(hp:p.length=32)(c:Prop) [Decidable c]:W5 (Ap h p (if c then txs else []) 0):=by
 split
 ·exact⟨⟨⟨iw ht.1 (by decide),λt h=>(ht.2 t h).1⟩,⟨hh,hp,by show(0:Int)<=_;decide⟩,aK _,λo ho=>(by cases ho)⟩,ht.1,λt h=>(ht.2 t h).2⟩
 ·exact⟨⟨⟨aK _,λt ht=>(by cases ht)⟩,⟨hh,hp,by show(0:Int)<=_;decide⟩,aK _,λo ho=>(by cases ho)⟩,aK _,λt ht=>(by cases ht)⟩
theorem atI{txs:List dw}(ht:Yo txs):∀(j:Nat) (p:Bs) (h:Int),h+j<=9223372036854775807->p.length=32->∀b∈XF txs j p h,W5 b
 | 0,_,_,_,_,b,hb=>by cases hb
 |j+1,p,h,hh,hp,b,hb=>by
  rcases bY.1 hb with rfl | hb
  ·exact aNf ht ak hp _
  ·exact atI ht j _ (h+1) ak (B8 _) b hb
theorem RA(txs:List dw):∀(j:Nat) (p:Bs) (h:Int),(XF txs j p h).length=j
 | 0,_,_=>rfl
 |j+1,p,h=>bo (· +1) (RA txs j _ _)
theorem acm(txs:List dw):∀(j:Nat) (p:Bs) (h:Int),UD (XF txs j p h)<=txs.length
 | 0,_,_=>aK _
 | 1,p,h=>ax _
 |j+2,p,h=>by show 0+UD (XF txs (j+1) _ _)<=_;rw[aO];exact acm txs (j+1) _ _
def ake:ach->Prop:=λ(h,m',txs,oL,i,p,out)=>(0<=h/\h<=1000000)/\Yo txs/\p.length=32/\oL=out.length/\∃m k:Nat,m'=m/\k<=m/\m<=20/\i=k/\out.length=k
def Gs:ach->(Nat×(List cZ)):=λ(h,m,txs,_,i,p,out)=>((out++XF txs (m - i).toNat p (h+1+i)).length,out++XF txs (m - i).toNat p (h+1+i))
def aAS:awz->Prop:=λ(p,h,m',txs)=>(0<=h/\h<=1000000)/\Yo txs/\p.length=32/\∃m:Nat,m'=m/\m<=20
def Yg:awz->(List cZ):=λ(p,h,m,txs)=>XF txs m.toNat p (h+1)
def rQ:Ls ake bu Gs:=rp (λ(dQ,Od,ads,outL,i,n4,n32)=>⟨([bF,.d ti dQ,.d ti Od,.d (.slice ez) ads,eT 4]++aP 4 ([om 32 outL,.d ti i]++aP 25 [])),[],(bM 4 ([dK (.d tH n4)]++bM 27 [dK (.vec 48 dR n32),[],[],[]]))⟩) (λx=>(.exit 0,⟨(aP 9 ([om 32 x.1]++aP 26 [])),[],(bM 32 [dK (.vec 48 dR x.2),[],[],[]])⟩))
def Hj:Fs Tryz.prog aAS bu Yg:=eN 44 Tryz.f44 (λ(parent,height,many,txs)=>([.d tH parent,.d ti height,.d ti many,.d (.slice ez) txs],[])) (λx=>⟨.d (.slice dR) x,[],[]⟩) [some tH,some ti,some ti,some (.slice ez)] [aoT] {bJ:=[4],loops:=nY [(3,{aV:=[1,2,3,4,9,10],sites:=[4,32],owns:=[⟨9,[],32,41⟩]})],outs:=nX [(3,{aV:=[9],sites:=[32]},{aV:=[8]})],fF:=nK [(3,rQ.E)],res:=[some (.slice dR)]}
theorem akf:rQ.RS:=rL [.d ti,.d ti,.d (.slice ez),.n,.d ti,.d tB,.d (.slice dR)] rQ
theorem MH(dQ Od ads outL i n4 n32)(kn:K2 R)(kx:K3 R):Hj.R 0 rQ (dQ,Od,ads,outL,i,n4,n32) kn kx=aJ ((gr i Od)) (aJ (qY i (cR .i64 Od 1)) (aJ (decide (outL<=(ag n32))) (aJ (db (outL+1) 96) (al (Rm.call ((bI .i64 (bI .i64 dQ 1) i),(n4,(ads,(0,(([]:List bC),())))))) λx1=>kn (rQ.st (dQ,Od,ads,(outL+1),(bI .i64 i 1),x1,((aR outL n32)++ [((bI .i64 (bI .i64 dQ 1) i),(n4,(ads,(0,(([]:List bC),())))))])))) none) none) (aJ (decide (outL<=(ag n32))) (aJ (db (outL+1) 96) (al (Rm.call ((bI .i64 (bI .i64 dQ 1) i),(n4,(([]:List dw),(0,(([]:List bC),())))))) λx2=>kn (rQ.st (dQ,Od,ads,(outL+1),(bI .i64 i 1),x2,((aR outL n32)++ [((bI .i64 (bI .i64 dQ 1) i),(n4,(([]:List dw),(0,(([]:List bC),())))))])))) none) none)) (rQ.go kx (outL,n32)):=b8
theorem aHL(parent height many txs)(k:K1 R):Hj.A (parent,height,many,txs) k=al (rQ.call (height,many,txs,0,0,parent,([]:List cZ))) λx4=>aJ (decide (0=0/\(0+x4.1)<=(ag x4.2))) (k (Hj.out (cut x4.2 0 x4.1))) none:=b8
theorem ao9:(Hj.kM 0 rQ):=by
 refine(Hj.mf 0 rQ) (λ(_,m,_,_,i,_)=>(m - i).toNat) ?_
 rintro⟨h,m',txs,oL,i,p,out⟩ ⟨⟨h0,h1⟩,ht,hp,rfl,m,k,rfl,hk,hm,rfl,ho⟩;have h0:0<=h:=h0;have h1:h<=1000000:=h1;have hk:k<=m:=hk;have hm:m<=20:=hm;by_cases gQ:k < m
 ·left;obtain⟨j,hj⟩:∃j,m=k+1+j:=⟨m - (k+1),ak⟩;have e1:((m:Int) - (k:Int)).toNat=j+1:=ak;have e2:((m:Int) - ((k+1:Nat):Int)).toNat=j:=ak;have e3:h+1+((k+1:Nat):Int)=h+1+(k:Int)+1:=ak;have hb:=aNf ht (h:=h+1+(k:Int)) (p:=p) ak hp (j=0);refine⟨(h,(m:Int),txs,out.length+1,((k+1:Nat):Int),aqV (Ap (h+1+(k:Int)) p (if j=0 then txs else []) 0),out++ [Ap (h+1+(k:Int)) p (if j=0 then txs else []) 0]),⟨⟨h0,h1⟩,ht,B8 _,by rw[ai];rfl,m,k+1,rfl,gQ,hm,rfl,by rw[ai,ho];rfl⟩,by simp only[e1,e2];omega,?_,λkn kx=> ?_⟩
  ·simp only[bu,Gs,e1,e2,e3,XF,aF,c9]
  ·rw[MH,aU ak,aj,eL ak ak,fZ (x:=h) ak ak,fZ (x:=h+1) ak ak];by_cases hz:j=0
   ·rw[if_pos hz]at hb ⊢;rw[du ak,aj,aM (ax _),aj,dr ak ak,aj,bK];refine(bo (λz=>al z _) (T1 (d:=Ap (h+1+(k:Int)) p txs 0) hb.1)).trans ?_
    rw[ah,N.mD ak];rfl
   ·rw[if_neg hz]at hb ⊢;rw[eS ak,ao,aM (ax _),aj,dr ak ak,aj,bK];refine(bo (λz=>al z _) (T1 (d:=Ap (h+1+(k:Int)) p [] 0) hb.1)).trans ?_
    rw[ah,N.mD ak];rfl
 ·right;obtain rfl:k=m:=ak;intro R kn kx;have e1:((k:Int) - (k:Int)).toNat=0:=ak;rw[MH,aQ ak,ao];simp only[bu,Gs,e1,XF,aZ]
theorem aHM:Hj.Ok:=by rintro⟨p,h,m',txs⟩ ⟨hh,ht,hp,m,rfl,hm⟩;have e1:((m:Int) - 0).toNat=m:=ak;rw[aHL,akf (d:=(h,(m:Int),txs,0,0,p,[])) ⟨hh,ht,hp,rfl,m,0,rfl,aK _,hm,rfl,rfl⟩];simp only[ah,bu,Gs,e1,aT,Int.add_zero,aO];rw[aM (by exact⟨trivial,ax _⟩),aj,eY rfl];simp only[bu,Yg,aa]
theorem Uc:Hj.RS:=rE [.d tB,.d ti,.d ti,.d (.slice ez)] Hj
def aHN:=Hj.eU aHM 1 ⟨.fv ao9,trivial⟩
abbrev alU:=Ki×Nat×Nat×(List (bC×dP))×(List bT)×(List cZ)
def l6(a:Ki):Int:=cG .and .i64 a.1 7
def BX(a:Ki)(nb:Nat)(bs:List cZ):List cZ:=if l6 a < 3 then XF a.2.1 1 (rS nb bs) ((nb:Int)+1) else if 1<=a.2.2.1/\a.2.2.1<=nb/\a.2.2.1<=8 then XF a.2.1 (a.2.2.1.toNat+1) (rS (nb - a.2.2.1.toNat) bs) ((nb:Int) - a.2.2.1+1) else []
def aq7:alU->Prop:=λ(a,nb,n,at',s,bs)=>(∃A0 m,q9 A0 m nb n at' s bs)/\Yo a.2.1
def YX:alU->((List cZ)×Nat×Nat×(List (bC×dP))×(List bT)×(List cZ)):=λ(a,nb,n,at',s,bs)=>(BX a nb bs,nb,n,at',s,bs)
def xV:Fs Tryz.prog aq7 bu YX:=eN 14 Tryz.f14 (λ(a,o0baL,o1baL,o2,o3,o4)=>([.ptr (.bm 0) 0 [] 0,.d Aw a],[apW (.pr (.ptr (.bm 1) 0 [] 0) (.pr (.bA (.bm 4) 0 [] 0 0 o0baL) (.d .unit ()))),apW (.pr (.cj (.bm 2) 0) (.pr (.bA (.bm 3) 0 [] 0 0 o1baL) (.d .unit ()))),apW (.mp bg eO o2),apW (.vec 256 cD o3),apW (.vec 48 dR o4)])) (λx=>⟨.d (.slice dR) x.1,[apW (.pr (.ptr (.bm 1) 0 [] 0) (.pr (.bA (.bm 4) 0 [] 0 0 x.2.1) (.d .unit ()))),apW (.pr (.cj (.bm 2) 0) (.pr (.bA (.bm 3) 0 [] 0 0 x.2.2.1) (.d .unit ()))),apW (.mp bg eO x.2.2.2.1),apW (.vec 256 cD x.2.2.2.2.1),apW (.vec 48 dR x.2.2.2.2.2)],[]⟩) [none,some Aw] [Cc,amh,aHN,aKj,aoT] {res:=[some (.slice dR)]}
theorem axB(a o0baL o1baL o2 o3 o4)(k:K1 R):xV.A (a,o0baL,o1baL,o2,o3,o4) k=al (pb.call (o0baL,o1baL,o2,o3,o4)) λx1=>aJ ((gr (cG .and .i64 a.1 7) 3)) (al (LH.call (x1.1.1,x1.1.2.1,x1.1.2.2.1,x1.1.2.2.2.1,x1.1.2.2.2.2)) λx2=>al (Hj.call (x2.2,x1.2,1,a.2.1)) λx3=>k (xV.out (x3,x2.1.1,x2.1.2.1,x2.1.2.2.1,x2.1.2.2.2.1,x2.1.2.2.2.2))) (aJ (gr a.2.2.1 1) (k (xV.out (([]:List cZ),x1.1.1,x1.1.2.1,x1.1.2.2.1,x1.1.2.2.2.1,x1.1.2.2.2.2))) (aJ (qZ a.2.2.1 x1.2) (k (xV.out (([]:List cZ),x1.1.1,x1.1.2.1,x1.1.2.2.1,x1.1.2.2.2.1,x1.1.2.2.2.2))) (aJ (qZ a.2.2.1 8) (k (xV.out (([]:List cZ),x1.1.1,x1.1.2.1,x1.1.2.2.1,x1.1.2.2.2.1,x1.1.2.2.2.2))) (al (ah2.call ((cR .i64 x1.2 a.2.2.1),x1.1.1,x1.1.2.1,x1.1.2.2.1,x1.1.2.2.2.1,x1.1.2.2.2.2)) λx4=>aJ (x4.2.2) (al (Rm.call x4.2.1) λx5=>al (Hj.call (x5,(cR .i64 x1.2 a.2.2.1),(bI .i64 a.2.2.1 1),a.2.1)) λx6=>k (xV.out (x6,x4.1.1,x4.1.2.1,x4.1.2.2.1,x4.1.2.2.2.1,x4.1.2.2.2.2))) (al (Hj.call ((ab 32 0),(cR .i64 x1.2 a.2.2.1),(bI .i64 a.2.2.1 1),a.2.1)) λx7=>k (xV.out (x7,x4.1.1,x4.1.2.1,x4.1.2.2.1,x4.1.2.2.2.1,x4.1.2.2.2.2))))))):=b8
theorem aPJ{A0:At}{m nb n:Nat}{a:At}{s:List bT}{bs:List cZ}(h:q9 A0 m nb n a s bs){k:Nat}(hk:k < nb):aon (nth dR bs k)=nth dR bs k/\auX (nth dR bs k):=by have hl:nb<=bs.length:=h.ch.1;have hk':k < bs.length:=ak;have n1:nth dR bs k=bs[k]:=cd (t:=dR) hk';rw[n1];have hv:=h.ch.2.2 _ (aN hk');refine⟨ajK hv λt ht=>(h.aUB (b:=bs[k]) ?_ ht).1,hv⟩;have:(bs.take nb)[k]'(by rw[bp];omega)=bs[k]:=List.getElem_take;rw[<-this];exact aN _
theorem axC:xV.Ok:=by
 rintro⟨a,nb,n,at',s,bs⟩ ⟨⟨A0,m,h⟩,ht⟩;have ayU:nb<=1000000:=h.ch.2.1;have z1:(1:Int).toNat=1:=rfl;have hs:∀l:List cZ,aJ (decide (0=0/\0+l.length<=l.length)) (some l) none=some l:=λl=>by rw[aM ak];rfl
 rw[axB,Y7,show cG .and .i64 a.1 7=l6 a from rfl];simp only[ah,bu,YX,BX];by_cases h3:l6 a < 3
 ·rw[if_pos h3,aU h3,aj,aKl h.ch];simp only[ah];rw[Uc (d:=(rS nb bs,(nb:Int),1,a.2.1)) ⟨⟨ak,ak⟩,ht,BG _ _,1,rfl,by decide⟩];rfl
 ·rw[if_neg h3,aQ h3,ao];by_cases d1:1<=a.2.2.1;rotate_left
  ·rw[aU ak,aj,if_neg (λe=>d1 e.1)]
  rw[aQ ak,ao];by_cases d2:a.2.2.1<=nb;rotate_left
  ·rw[cP ak,aj,if_neg (λe=>d2 e.2.1)]
  rw[cr ak,ao];by_cases d3:a.2.2.1<=8;rotate_left
  ·rw[cP ak,aj,if_neg (λe=>d3 e.2.2)]
  rw[cr ak,ao,if_pos ⟨d1,d2,d3⟩];generalize a.2.2.1=d at d1 d2 d3;obtain⟨k,rfl⟩:∃k:Nat,d=(k:Int):=⟨d.toNat,ak⟩;have ei:cR .i64 (nb:Int) (k:Int)=((nb - k:Nat):Int):=by rw[eL ak ak];omega
  have ej:bI .i64 (k:Int) 1=((k+1:Nat):Int):=by rw[fZ ak ak];omega
  rw[ei,ej,aDz (d:=(((nb - k:Nat):Int),nb,n,at',s,bs)) h.ch];simp only[ah,al9,Y4,aQo,aa];by_cases hz:nb - k=0
  ·rw[if_neg ak,ao,Uc (d:=(ab 32 0,((nb - k:Nat):Int),((k+1:Nat):Int),a.2.1)) ⟨⟨ak,ak⟩,ht,cg,k+1,rfl,ak⟩];simp only[ah,bu,Yg,aa];rw[show rS (nb - k) bs=ab 32 0 from if_pos hz,show((nb - k:Nat):Int)=(nb:Int) - (k:Int) by omega]
  ·obtain⟨o1,o2⟩:=aPJ h (k:=nb - k - 1) ak;rw[if_pos ⟨ak,ak⟩,o1];simp only[aj];rw[T1 (d:=nth dR bs (nb - k - 1)) o2];simp only[ah,bu,awq];rw[Uc (d:=(aqV (nth dR bs (nb - k - 1)),((nb - k:Nat):Int),((k+1:Nat):Int),a.2.1)) ⟨⟨ak,ak⟩,ht,B8 _,k+1,rfl,ak⟩];simp only[ah,bu,Yg,aa];rw[show rS (nb - k) bs=aqV (nth dR bs (nb - k - 1)) from if_neg hz,show((nb - k:Nat):Int)=(nb:Int) - (k:Int) by omega]
theorem aq8:xV.RS:=rE [.d Aw,.n,.n,.d (.slice (.pair bg eO)),.d (.slice cD),.d (.slice dR)] xV
def axD:=xV.eU axC
abbrev A1:=(List gm)×(List Ki)×Int
def po:A1->AS:=λ(OA,vj,i)=>⟨([.d (.slice gl) OA,.d (.slice Aw) vj,bF,bF,bF,.d ti i]++aP 56 []),[],(ab 62 [])⟩
def lF:Unit->Exit×AS:=λx=>(.ret,⟨(aP 4 ([.d .bool false]++aP 57 [])),[],(ab 62 [])⟩)
abbrev Vt:=(List gm)×(List Ki)
def zl:Vt->Exit×AS:=λx=>(.exit 0,⟨([.d (.slice gl) x.1,.d (.slice Aw) x.2]++aP 60 []),[],(ab 62 [])⟩)
abbrev NO:=(Unit)⊕(Vt)
abbrev ZN:=(Unit)⊕(((List gm)×(List Ki)))
def FG:NO->Out (Exit×AS):=λx=> .br x.isLeft (.get x.getLeft? λa=> .ok (lF a)) (.get x.getRight? λb=> .ok (zl b))
def lE:A1->ZN->NO:=λ(OA,vj,i) y=>match y with | .inl y=> .inl y | .inr z=> .inr (z)
abbrev A2:=(List gm)×(List Ki)×Int×Int
def pt:A2->AS:=λ(IS,aap,fM,kv)=>⟨([.d (.slice gl) IS,.d (.slice Aw) aap,bF,bF,bF,.d ti fM,.d ti kv]++aP 55 []),[],(ab 62 [])⟩
def jh:Unit->Exit×AS:=λx=>(.ret,⟨(aP 4 ([.d .bool false]++aP 57 [])),[],(ab 62 [])⟩)
abbrev Vv:=(List gm)×(List Ki)×Int
def zo:Vv->Exit×AS:=λx=>(.exit 2,⟨([.d (.slice gl) x.1,.d (.slice Aw) x.2.1,bF,bF,bF,.d ti x.2.2]++aP 56 []),[],(ab 62 [])⟩)
abbrev NQ:=(Unit)⊕(Vv)
abbrev ZP:=(Unit)⊕(Unit)
def FH:NQ->Out (Exit×AS):=λx=> .br x.isLeft (.get x.getLeft? λa=> .ok (jh a)) (.get x.getRight? λb=> .ok (zo b))
def lG:A2->ZP->NQ:=λ(IS,aap,fM,kv) y=>match y with | .inl y=> .inl y | .inr z=> .inr ((IS,aap,fM))
abbrev avE:=(List gm)×(List Ki)
def ae4(t:dw):Bool:=decide (t.1.length<=6) && (decide (t.2.1.length<=6) && akq t)
def Lq(a:Ki):Bool:=decide (a.2.1.length<=4) && a.2.1.all ae4
def Tk(outs:List gm)(acts:List Ki):Bool:=acts.all Lq && (decide (outs.length<=10) && decide (acts.length<=20))
def zm:A2->Prop:=λ(_,acts,i,j)=>acts.length<=9223372036854775807/\∃k m:Nat,i=k/\k < acts.length/\(nth Aw acts k).2.1.length<=4/\j=m/\m<=(nth Aw acts k).2.1.length
def pq:A2->ZP:=λ(_,acts,i,j)=>if((nth Aw acts i.toNat).2.1.drop j.toNat).all ae4 then .inr () else .inl ()
def zk:A1->Prop:=λ(_,acts,i)=>acts.length<=9223372036854775807/\∃k:Nat,k<=acts.length/\i=k
def pn:A1->ZN:=λ(outs,acts,i)=>if(acts.drop i.toNat).all Lq then .inr (outs,acts) else .inl ()
def ayu:avE->Prop:=λ(_,acts)=>acts.length<=9223372036854775807
def aiJ:avE->Bool:=λ(outs,acts)=>Tk outs acts
def ZM:=dz.fv po zk lE pn FG
def LZ:A1->Option NO:=gM ZM po
def ZO:=dz.fv pt zm lG pq FH
def L1:A2->Option NQ:=gM ZO pt
def vo:Fs Tryz.prog ayu bu aiJ:=eN 13 Tryz.f13 (λ(outs,l)=>([.d (.slice gl) outs,.d (.slice Aw) l],[])) (λx=>⟨.d .bool x,[],[]⟩) [some (.slice gl),some (.slice Aw)] [aoP] {loops:=nY [(2,{aV:=[0,1,5]}),(7,{aV:=[0,1,5,6]})],outs:=nX [(2,{aV:=[0,1]},{aV:=[4]}),(7,{aV:=[0,1,5]},{aV:=[4]})],fF:=nK [(2,ZM),(7,ZO)]}
def NN:= @eC Tryz.prog (jI vo.G) vo.an 0 Tryz.f13 0 _ po
abbrev Vs:=kP Tryz.prog (jI vo.G) vo.an 0 Tryz.f13 0 po zk lE pn FG
def NP:= @eC Tryz.prog (jI vo.G) vo.an 0 Tryz.f13 1 _ pt
abbrev Vu:=kP Tryz.prog (jI vo.G) vo.an 0 Tryz.f13 1 pt zm lG pq FH
theorem aiK:jf LZ zk lE pn:=mn (jx [.d (.slice gl),.d (.slice Aw),.d ti] λ_=>b8)
theorem Qo:nq @NN po zk lE pn FG Vs:=oa
theorem L0(OA:(List gm))(vj:(List Ki))(i:Int)(kn:AS->Option R)(kx:Exit->AS->Option R):NN (OA,vj,i) kn kx=aJ ((gr i (((ag vj):Nat):Int))) (aJ (ed i (((ag vj):Nat):Int)) (aJ (qZ (((ag (nth Aw vj (ae i)).2.1):Nat):Int) (4:Int)) (kx (lF ()).1 (lF ()).2) (al (L1 (OA,vj,i,(0:Int))) λx1=>aJ x1.isLeft (al x1.getLeft? λa2=>kx (lF ()).1 (lF ()).2) (al x1.getRight? λb3=>kn (po (b3.1,b3.2.1,(bI .i64 b3.2.2 (1:Int))))))) none) (kx (zl (OA,vj)).1 (zl (OA,vj)).2):=b8
theorem aiL:jf L1 zm lG pq:=mn (jx [.d (.slice gl),.d (.slice Aw),.d ti,.d ti] λ_=>b8)
theorem Qp:nq @NP pt zm lG pq FH Vu:=oa
theorem L4(IS:(List gm))(aap:(List Ki))(fM:Int)(kv:Int)(kn:AS->Option R)(kx:Exit->AS->Option R):NP (IS,aap,fM,kv) kn kx=aJ (ed fM (((ag aap):Nat):Int)) (aJ (gr kv (((ag (nth Aw aap (ae fM)).2.1):Nat):Int)) (aJ (ed fM (((ag aap):Nat):Int)) (aJ (ed kv (((ag (nth Aw aap (ae fM)).2.1):Nat):Int)) (aJ (qZ (((ag (nth ez (nth Aw aap (ae fM)).2.1 (ae kv)).1):Nat):Int) (6:Int)) (kx (jh ()).1 (jh ()).2) (aJ (qZ (((ag (nth ez (nth Aw aap (ae fM)).2.1 (ae kv)).2.1):Nat):Int) (6:Int)) (kx (jh ()).1 (jh ()).2) (al (gb.call (nth ez (nth Aw aap (ae fM)).2.1 (ae kv))) λx1=>aJ ((!x1)) (kx (jh ()).1 (jh ()).2) (kn (pt (IS,aap,fM,(bI .i64 kv (1:Int)))))))) none) none) (kx (zo (IS,aap,fM)).1 (zo (IS,aap,fM)).2)) none:=b8
theorem aEN(outs l)(k:K1 R):vo.A (outs,l) k=al (LZ (outs,l,0)) λx5=>aJ x5.isLeft (al x5.getLeft? λa6=>k (vo.out false)) (al x5.getRight? λb7=>aJ ((ai7 (b7.1.length:Int) 10)) (k (vo.out (ai7 (b7.2.length:Int) 20))) (k (vo.out false))):=b8
theorem amZ:Vu:=by
 refine Qp (λ(_,acts,i,j)=>(nth Aw acts i.toNat).2.1.length - j.toNat) ?_
 rintro⟨outs,acts,i,j⟩ ⟨hl,k,m,rfl,hk,h4,rfl,hm⟩;have hl:acts.length<=9223372036854775807:=hl;have hk:k < acts.length:=hk;have h4:(nth Aw acts k).2.1.length<=4:=h4;have hm:m<=(nth Aw acts k).2.1.length:=hm;obtain⟨l,hl'⟩:∃l:List dw,(nth Aw acts k).2.1=l:=⟨_,rfl⟩;rw[hl']at h4 hm;by_cases h:m < l.length
 ·have n1:nth ez l m=l[m]:=cd (t:=ez) h;have hd:(l.drop m).all ae4=(ae4 l[m] && (l.drop (m+1)).all ae4):=by rw[aq h,ff]
  have step:∀ {R:Type} (kn:AS->Option R) (kx:Exit->AS->Option R),NP (outs,acts,(k:Int),(m:Int)) kn kx=aJ (ae4 l[m]) (kn (pt (outs,acts,(k:Int),((m+1:Nat):Int)))) (kx (jh ()).1 (jh ()).2):=by
   intro R kn kx;rw[L4,bj ak ak,aj,aa,hl',aU ak,aj,aj,bj ak ak,aj,aa,n1,aj4 (d:=l[m]) trivial,N.mD ak];simp only[ah,bu,OL];unfold ae4;by_cases h1:l[m].1.length<=6
   ·rw[cr ak,aM h1,bw,ao];by_cases h2:l[m].2.1.length<=6
    ·rw[cr ak,aM h2,bw,ao];cases akq l[m] <;> rfl
    ·rw[cP ak,aS h2];rfl
   ·rw[cP ak,aS h1];rfl
  cases hp:ae4 l[m]
  ·right;refine⟨jh (),?_,λkn kx=> ?_⟩
   ·simp only[lG,pq,aa,hl',hd,hp,cH,bn,bt];rfl
   ·rw[step,hp,ao]
  ·left;refine⟨(outs,acts,(k:Int),((m+1:Nat):Int)),⟨hl,k,m+1,rfl,hk,by rw[hl'];exact h4,rfl,by rw[hl'];exact h⟩,by simp only[aa,hl'];omega,?_,λkn kx=> ?_⟩
   ·simp only[lG,pq,aa,hl',hd,hp,bw]
   ·rw[step,hp,aj]
 ·right;obtain rfl:m=l.length:=ak;refine⟨zo (outs,acts,(k:Int)),?_,λkn kx=> ?_⟩
  ·simp only[lG,pq,aa,hl',aL];rfl
  ·rw[L4,bj ak ak,aj,aa,hl',aQ ak,ao]
theorem amY:Vs:=by
 refine Qo (λ(_,acts,i)=>acts.length - i.toNat) ?_
 rintro⟨outs,acts,i⟩ ⟨hl,k,hk,rfl⟩;have hl:acts.length<=9223372036854775807:=hl;have hk:k<=acts.length:=hk;by_cases h:k < acts.length
 ·have n1:nth Aw acts k=acts[k]:=cd (t:=Aw) h;have hd:(acts.drop k).all Lq=(Lq acts[k] && (acts.drop (k+1)).all Lq):=by rw[aq h,ff]
  have step:∀ {R:Type} (kn:AS->Option R) (kx:Exit->AS->Option R),NN (outs,acts,(k:Int)) kn kx=aJ (Lq acts[k]) (kn (po (outs,acts,((k+1:Nat):Int)))) (kx (lF ()).1 (lF ()).2):=by
   intro R kn kx;rw[L0,aU ak,aj,bj ak ak,aj,aa,n1];unfold Lq;by_cases h1:acts[k].2.1.length<=4
   ·rw[cr ak,ao,aM h1,bw,aiL (d:=(outs,acts,(k:Int),0)) ⟨hl,k,0,rfl,h,by rw[n1];exact h1,rfl,aK _⟩];simp only[ah,pq,aa,n1,aX,aD];cases acts[k].2.1.all ae4 with
    |false=>rfl
    |true=>
     simp only[bG,lG,dJ,ao,da,ah,aj];rw[N.mD ak]
   ·rw[cP ak,aS h1];rfl
  cases hp:Lq acts[k]
  ·right;refine⟨lF (),?_,λkn kx=> ?_⟩
   ·simp only[lE,pn,aa,hd,hp,cH,bn,bt];rfl
   ·rw[step,hp,ao]
  ·left;refine⟨(outs,acts,((k+1:Nat):Int)),⟨hl,k+1,ak,rfl⟩,by simp only[aa];omega,?_,λkn kx=> ?_⟩
   ·simp only[lE,pn,aa,hd,hp,bw]
   ·rw[step,hp,aj]
 ·right;obtain rfl:k=acts.length:=ak;refine⟨zl (outs,acts),?_,λkn kx=> ?_⟩
  ·simp only[lE,pn,aa,aL];rfl
  ·rw[L0,aQ ak,ao]
theorem aEO:vo.Ok:=by
 rintro⟨outs,acts⟩ hl;rw[aEN,aiK (d:=(outs,acts,0)) ⟨hl,0,aK _,rfl⟩];simp only[ah,pn,aX,aD,bu,aiJ,Tk];cases acts.all Lq with
 |false=>rfl
 |true=>
  simp only[bG,lE,dJ,ao,da,ah,bw];by_cases h1:outs.length<=10
  ·rw[og ak,aj,aM h1,bw];by_cases h2:acts.length<=20
   ·rw[og ak,aM h2]
   ·rw[ke ak,aS h2]
  ·rw[ke ak,ao,aS h1,cH]
theorem ayv:vo.RS:=rE [.d (.slice gl),.d (.slice Aw)] vo
def aEP:=vo.eU aEO 2 ⟨.fv amY,⟨.fv amZ,trivial⟩⟩
abbrev zf:=Ki×(List cZ)×Int×Bool×Nat×Nat×(List (bC×dP))×(List bT)×(List cZ)×(List (bC×ia))
def LV:zf->AS:=λ(a,l,t13,t14,o0L,o1L,o2,o3,o4,o6)=>⟨([.ptr (.bm 0) 0 [] 0,.ptr (.bm 5) 0 [] 0,bF,bF,bF,.dO Aw a,bF,.d (.slice dR) l]++aP 5 ([.d ti t13,.d .bool t14]++aP 33 [])),[apW (.pr (.ptr (.bm 1) 0 [] 0) (.pr (.bA (.bm 4) 0 [] 0 0 o0L) fC)),apW (.pr (.cj (.bm 2) 0) (.pr (.bA (.bm 3) 0 [] 0 0 o1L) fC)),apW (.mp bg eO o2),apW (.vec 256 cD o3),apW (.vec 48 dR o4),apW (.pr (.cj (.bm 6) 0) fC),apW (.mp bg j6 o6)],(ab 48 [])⟩
def Qg:rr:=rr.of {aV:=[0,1,5,7,13,14]} LV
def uF:zf->Option zf:=λx=>(Qg).ay4 .normal (LV x)
theorem Qh(x:zf):uF x=some x:=rr.IP (jx [.d Aw,.d (.slice dR),.d ti,.d .bool,.n,.n,.d (.slice (.pair bg eO)),.d (.slice cD),.d (.slice dR),.d (.slice (.pair bg j6))] λ_=>b8) x
abbrev zg:=Ki×(List cZ)×Int×Bool×Nat×Nat×(List (bC×dP))×(List bT)×(List cZ)×(List (bC×ia))
def LX:zg->AS:=λ(a,l,t13,t23,o0L,o1L,o2,o3,o4,o6)=>⟨([.ptr (.bm 0) 0 [] 0,.ptr (.bm 5) 0 [] 0,bF,bF,bF,.dO Aw a,bF,.d (.slice dR) l]++aP 5 ([.d ti t13]++aP 9 ([.d .bool t23]++aP 24 []))),[apW (.pr (.ptr (.bm 1) 0 [] 0) (.pr (.bA (.bm 4) 0 [] 0 0 o0L) fC)),apW (.pr (.cj (.bm 2) 0) (.pr (.bA (.bm 3) 0 [] 0 0 o1L) fC)),apW (.mp bg eO o2),apW (.vec 256 cD o3),apW (.vec 48 dR o4),apW (.pr (.cj (.bm 6) 0) fC),apW (.mp bg j6 o6)],(ab 48 [])⟩
def Qi:rr:=rr.of {aV:=[0,1,5,7,13,23]} LX
def AY:zg->Option zg:=λx=>(Qi).ay4 .normal (LX x)
theorem Qj(x:zg):AY x=some x:=rr.IP (jx [.d Aw,.d (.slice dR),.d ti,.d .bool,.n,.n,.d (.slice (.pair bg eO)),.d (.slice cD),.d (.slice dR),.d (.slice (.pair bg j6))] λ_=>b8) x
abbrev Ih:=Ki×Nat×Nat×(List (bC×dP))×(List bT)×(List cZ)×(List (bC×ia))
def Th:Ih->SA:=λ(a,o0baL,o1baL,o2,o3,o4,o6)=>([.ptr (.bm 0) 0 [] 0,.ptr (.bm 5) 0 [] 0,.d Aw a],[apW (.pr (.ptr (.bm 1) 0 [] 0) (.pr (.bA (.bm 4) 0 [] 0 0 o0baL) fC)),apW (.pr (.cj (.bm 2) 0) (.pr (.bA (.bm 3) 0 [] 0 0 o1baL) fC)),apW (.mp bg eO o2),apW (.vec 256 cD o3),apW (.vec 48 dR o4),apW (.pr (.cj (.bm 6) 0) fC),apW (.mp bg j6 o6)])
abbrev amT:=((List An)×Nat×Nat×(List (bC×dP))×(List bT)×(List cZ)×(List (bC×ia)))⊕((List An)×Nat×Nat×(List (bC×dP))×(List bT)×(List cZ)×(List (bC×ia))×Nat×(List (bC×dP))×(List bT)×(List cZ))
abbrev Ii:=((List An)×Nat×Nat×(List (bC×dP))×(List bT)×(List cZ)×(List (bC×ia)))⊕((List An)×Nat×Nat×(List (bC×dP))×(List bT)×(List cZ)×(List (bC×ia))×Nat×(List (bC×dP))×(List bT)×(List cZ))
def nI:Ii->fK:=λx=>match x with | .inl x=>⟨.d (.slice MN) x.1,[apW (.pr (.ptr (.bm 1) 0 [] 0) (.pr (.bA (.bm 4) 1 [] 0 0 x.2.1) fC)),apW (.pr (.cj (.bm 2) 0) (.pr (.bA (.bm 3) 1 [] 0 0 x.2.2.1) fC)),apW (.mp bg eO x.2.2.2.1),.obj 1 false (.vec 256 cD x.2.2.2.2.1),.obj 1 false (.vec 48 dR x.2.2.2.2.2.1),apW (.pr (.cj (.bm 6) 0) fC),apW (.mp bg j6 x.2.2.2.2.2.2)],[]⟩ | .inr x=>⟨.d (.slice MN) x.1,[apW (.pr (eT 0) (.pr (.bA (.new 0 3) 0 [] 0 0 x.2.1) fC)),apW (.pr (.cj (.bm 2) 0) (.pr (.bA (.bm 3) 1 [] 0 0 x.2.2.1) fC)),apW (.mp bg eO x.2.2.2.1),.obj 1 false (.vec 256 cD x.2.2.2.2.1),.obj 1 false (.vec 48 dR x.2.2.2.2.2.1),apW (.pr (.cj (.bm 6) 0) fC),apW (.mp bg j6 x.2.2.2.2.2.2.1)],[apW (.pr (.cj (.new 0 1) 0) (.pr (.bA (.new 0 2) 0 [] 0 0 x.2.2.2.2.2.2.2.1) fC)),apW (.mp bg eO x.2.2.2.2.2.2.2.2.1),apW (.vec 256 cD x.2.2.2.2.2.2.2.2.2.1),apW (.vec 48 dR x.2.2.2.2.2.2.2.2.2.2)]⟩
def FB:Ih->amT->Ii:=λ(a,o0baL,o1baL,o2,o3,o4,o6) y=>match y with | .inl y=> .inl y | .inr y=> .inr y
def aPl(v:Int):Bool:=qY v 0 || (qY v 1 || qY v 2)
def aR8(v:Int):Bool:=qY v 3 || qY v 4
def akb(d:Int)(l:List cZ)(nb n:Nat)(a:At)(s:List bT)(bs:List cZ):Kq:=(lA (d,l,nb,n,a,s,bs)).getD (.inl (0,nb,n,a,s,bs))
def Hy(o:bC)(m:Wm):Wm:=if(bN bg o m).isSome then m else eG bg o qa m
def aHX(a:Ki)(nb:Nat)(bs:List cZ)(m:Wm):Wm×List An:=if l6 a=5 then(Hy a.2.2.2.1 m,[]) else if l6 a=6 then(gY bg a.2.2.2.1 m,[]) else if l6 a=7 then fg nb bs m else(m,[])
def NI:Ih->Prop:=λ(a,nb,n,at',s,bs,m)=>(∃A0 b,q9 A0 b nb n at' s bs/\b+a.2.1.length<=400)/\nb<=900/\Yo a.2.1/\WG m
def xt:Ih->amT:=λ(a,nb,n,at',s,bs,m)=>
 if aPl (l6 a) then .inl ([],(mm (nth dR (BX a nb bs) 0) nb (n,at',s) bs).2.1,(mm (nth dR (BX a nb bs) 0) nb (n,at',s) bs).2.2.1,(mm (nth dR (BX a nb bs) 0) nb (n,at',s) bs).2.2.2.1,(mm (nth dR (BX a nb bs) 0) nb (n,at',s) bs).2.2.2.2.1,(mm (nth dR (BX a nb bs) 0) nb (n,at',s) bs).2.2.2.2.2,m)
 else if aR8 (l6 a) then match akb a.2.2.1 (BX a nb bs) nb n at' s bs with
  | .inl x=> .inl ([],x.2.1,x.2.2.1,x.2.2.2.1,x.2.2.2.2.1,x.2.2.2.2.2,m)
  | .inr x=> .inr ([],x.2.1,x.2.2.1,x.2.2.2.1,x.2.2.2.2.1,x.2.2.2.2.2.1,m,x.2.2.2.2.2.2.1,x.2.2.2.2.2.2.2.1,x.2.2.2.2.2.2.2.2.1,x.2.2.2.2.2.2.2.2.2)
 else .inl ((aHX a nb bs m).2,nb,n,at',s,bs,(aHX a nb bs m).1)
def aEA:oR:=jI (P:=Tryz.prog) [axD,al7,arq,adF,aqd,aqg]
def aym:xi:= {res:=[some (.slice MN)],aq9:=[(3,1),(4,1)],avW:=nK [(6,Qg),(9,Qi)]}
def amS:= @HM Tryz.prog aEA aym 0 Tryz.f20 _ Th
abbrev ayl:=ahy @amS NI FB xt nI
theorem ayn(a:Ki)(o0baL:Nat)(o1baL:Nat)(o2:(List (bC×dP)))(o3:(List bT))(o4:(List cZ))(o6:(List (bC×ia)))(k:fK->Option R):amS (a,o0baL,o1baL,o2,o3,o4,o6) k=al (xV.call (a,o0baL,o1baL,o2,o3,o4)) λx4=>al (aJ (qY (cG .and .i64 a.1 (7:Int)) (0:Int)) (uF (a,x4.1,(cG .and .i64 a.1 (7:Int)),(qY (cG .and .i64 a.1 (7:Int)) (0:Int)),x4.2.1,x4.2.2.1,x4.2.2.2.1,x4.2.2.2.2.1,x4.2.2.2.2.2,o6)) (aJ (qY (cG .and .i64 a.1 (7:Int)) (1:Int)) (uF (a,x4.1,(cG .and .i64 a.1 (7:Int)),(qY (cG .and .i64 a.1 (7:Int)) (1:Int)),x4.2.1,x4.2.2.1,x4.2.2.2.1,x4.2.2.2.2.1,x4.2.2.2.2.2,o6)) (uF (a,x4.1,(cG .and .i64 a.1 (7:Int)),(qY (cG .and .i64 a.1 (7:Int)) (2:Int)),x4.2.1,x4.2.2.1,x4.2.2.2.1,x4.2.2.2.2.1,x4.2.2.2.2.2,o6)))) λPf=>aJ (Pf.2.2.2.1) (aJ (ed (0:Int) (((ag Pf.2.1):Nat):Int)) (al (G2.call ((nth dR Pf.2.1 0),Pf.2.2.2.2.1,Pf.2.2.2.2.2.1,Pf.2.2.2.2.2.2.1,Pf.2.2.2.2.2.2.2.1,Pf.2.2.2.2.2.2.2.2.1)) λaSC=>k (nI (.inl (([]:List An),aSC.2.1,aSC.2.2.1,aSC.2.2.2.1,aSC.2.2.2.2.1,aSC.2.2.2.2.2,Pf.2.2.2.2.2.2.2.2.2)))) none) (al (aJ (qY Pf.2.2.1 (3:Int)) (AY (Pf.1,Pf.2.1,Pf.2.2.1,(qY Pf.2.2.1 (3:Int)),Pf.2.2.2.2.1,Pf.2.2.2.2.2.1,Pf.2.2.2.2.2.2.1,Pf.2.2.2.2.2.2.2.1,Pf.2.2.2.2.2.2.2.2.1,Pf.2.2.2.2.2.2.2.2.2)) (AY (Pf.1,Pf.2.1,Pf.2.2.1,(qY Pf.2.2.1 (4:Int)),Pf.2.2.2.2.1,Pf.2.2.2.2.2.1,Pf.2.2.2.2.2.2.1,Pf.2.2.2.2.2.2.2.1,Pf.2.2.2.2.2.2.2.2.1,Pf.2.2.2.2.2.2.2.2.2))) λyr=>aJ (yr.2.2.2.1) (al (lA (yr.1.2.2.1,yr.2.1,yr.2.2.2.2.1,yr.2.2.2.2.2.1,yr.2.2.2.2.2.2.1,yr.2.2.2.2.2.2.2.1,yr.2.2.2.2.2.2.2.2.1)) λDR=>aJ DR.isLeft (al DR.getLeft? λaJq=>k (nI (.inl (([]:List An),aJq.2.1,aJq.2.2.1,aJq.2.2.2.1,aJq.2.2.2.2.1,aJq.2.2.2.2.2,yr.2.2.2.2.2.2.2.2.2)))) (al DR.getRight? λak9=>k (nI (.inr (([]:List An),ak9.2.1,ak9.2.2.1,ak9.2.2.2.1,ak9.2.2.2.2.1,ak9.2.2.2.2.2.1,yr.2.2.2.2.2.2.2.2.2,ak9.2.2.2.2.2.2.1,ak9.2.2.2.2.2.2.2.1,ak9.2.2.2.2.2.2.2.2.1,ak9.2.2.2.2.2.2.2.2.2))))) (aJ (qY yr.2.2.1 (5:Int)) (al (CV.call (yr.1.2.2.2.1,yr.2.2.2.2.2.2.2.2.2)) λPb=>k (nI (.inl (([]:List An),yr.2.2.2.2.1,yr.2.2.2.2.2.1,yr.2.2.2.2.2.2.1,yr.2.2.2.2.2.2.2.1,yr.2.2.2.2.2.2.2.2.1,Pb)))) (aJ (qY yr.2.2.1 (6:Int)) (al (Sj.call (yr.1.2.2.2.1,yr.2.2.2.2.2.2.2.2.2)) λadG=>k (nI (.inl (([]:List An),yr.2.2.2.2.1,yr.2.2.2.2.2.1,yr.2.2.2.2.2.2.1,yr.2.2.2.2.2.2.2.1,yr.2.2.2.2.2.2.2.2.1,adG)))) (aJ (qY yr.2.2.1 (7:Int)) (al (yz.call (yr.2.2.2.2.2.2.2.2.2,yr.2.2.2.2.1,yr.2.2.2.2.2.1,yr.2.2.2.2.2.2.1,yr.2.2.2.2.2.2.2.1,yr.2.2.2.2.2.2.2.2.1)) λYm=>aJ (decide (0=0/\(0+Ym.1)<=(ag Ym.2.2.2.2.2.2.2))) (k (nI (.inl ((cut Ym.2.2.2.2.2.2.2 0 Ym.1),Ym.2.2.1,Ym.2.2.2.1,Ym.2.2.2.2.1,Ym.2.2.2.2.2.1,Ym.2.2.2.2.2.2.1,Ym.2.1)))) none) (k (nI (.inl (([]:List An),yr.2.2.2.2.1,yr.2.2.2.2.2.1,yr.2.2.2.2.2.2.1,yr.2.2.2.2.2.2.2.1,yr.2.2.2.2.2.2.2.2.1,yr.2.2.2.2.2.2.2.2.2)))))))):=b8
theorem aC8{a:Ki}(ht:Yo a.2.1){nb:Nat}(hn:nb<=1000000)(bs:List cZ):(∀b∈BX a nb bs,W5 b)/\UD (BX a nb bs)<=a.2.1.length/\(BX a nb bs).length<=9/\(l6 a < 3->(BX a nb bs).length=1):=by
 unfold BX;split
 ·exact⟨atI ht 1 _ _ ak (BG _ _),acm _ _ _ _,by rw[RA];decide,λ_=>RA _ _ _ _⟩
 ·rename_i h3;split
  ·rename_i hd;exact⟨atI ht _ _ _ ak (BG _ _),acm _ _ _ _,by rw[RA];omega,λh=>absurd h h3⟩
  ·exact⟨λb hb=>(by cases hb),aK _,by show 0<=9;decide,λh=>absurd h h3⟩
theorem apY:∀ {l:List cZ} {b:cZ},b∈l->b.2.2.1.length<=UD l
 |x::l,b,h=>by
  rw[UD];rcases bY.1 h with rfl | h
  ·omega
  ·have:=apY h;omega
theorem q9.akb{A0:At}{m nb n:Nat}{a:At}{s:List bT}{bs:List cZ}(h:q9 A0 m nb n a s bs)(d:Int){l:List cZ}(hl:∀b∈l,W5 b)(hm:m+UD l<=400)(hn:nb+l.length<=1000):
  lA (d,l,nb,n,a,s,bs)=some (Ab.akb d l nb n a s bs):=by
 unfold Ab.akb;rcases h.aHq d hl hm hn with⟨e,_,h1⟩ | ⟨n',a',s',bs',h1,_⟩
 ·rw[h1];rfl
 ·rw[h1];rfl
theorem ayo:ayl:=by
 rintro⟨a,nb,n,at',s,bs,m⟩ ⟨⟨A0,b,h,hb⟩,ayU,ht,hw⟩;have hb:b+a.2.1.length<=400:=hb;have ayU:nb<=900:=ayU;obtain⟨g1,g2,g3,g4⟩:=aC8 ht (nb:=nb) ak bs;rw[ayn,aq8 (d:=(a,nb,n,at',s,bs)) ⟨⟨A0,b,h⟩,ht⟩];simp only[ah,bu,YX,Qh,Qj];rw[show cG .and .i64 a.1 7=l6 a from rfl];refine(bo (λz=>al z _) (?_:_=some (a,BX a nb bs,l6 a,aPl (l6 a),nb,n,at',s,bs,m))).trans ?_
 ·unfold aPl;cases qY (l6 a) 0 <;> cases qY (l6 a) 1 <;> cases qY (l6 a) 2 <;> rfl
 rw[ah];simp only[xt];generalize hl:BX a nb bs=l at g1 g2 g3 g4 ⊢;cases h3:aPl (l6 a) with
 |true=>
  have hv:l6 a < 3:=by unfold aPl qY at h3;simp only[gf,dv]at h3;rcases h3 with h3 | h3 | h3 <;> rw[h3] <;> decide
  have g4:=g4 hv;have aFe:nth dR l 0∈l:=by rw[cd (t:=dR) (show 0 < l.length by omega)];exact aN _
  rw[aj,if_pos rfl,bj (by decide) ak,aj,h.aTi (g1 _ aFe) ak];rfl
 |false=>
  rw[ao,if_neg (by decide)];refine(bo (λz=>al z _) (?_:_=some (a,l,l6 a,aR8 (l6 a),nb,n,at',s,bs,m))).trans ?_
  ·unfold aR8;cases qY (l6 a) 3 <;> cases qY (l6 a) 4 <;> rfl
  rw[ah];simp only[];cases h4:aR8 (l6 a) with
  |true=>
   rw[aj,if_pos rfl,h.akb a.2.2.1 g1 ak ak];simp only[ah];cases akb a.2.2.1 l nb n at' s bs <;> rfl
  |false=>
   rw[ao,if_neg (by decide)];unfold aHX;by_cases c5:l6 a=5
   ·rw[du c5,aj,if_pos c5,EV (d:=(a.2.2.2.1,m)) trivial];rfl
   rw[eS c5,ao,if_neg c5];by_cases c6:l6 a=6
   ·rw[du c6,aj,if_pos c6,ahr (d:=(a.2.2.2.1,m)) trivial];rfl
   rw[eS c6,ao,if_neg c6];by_cases c7:l6 a=7
   ·rw[du c7,aj,if_pos c7,EU (d:=(m,nb,n,at',s,bs)) ⟨⟨A0,b,h⟩,hw⟩];simp only[ah,bu,K6];rw[aM (⟨trivial,ug (aO _)⟩:True/\0+(fg nb bs m).2.length<=(fg nb bs m).2.length),aj,eY rfl];rfl
   rw[eS c7,ao,if_neg c7];rfl
def Eb:=Entry.aee [none,none,some Aw] Th NI FB xt nI
def dC:Ih->Option Ii:=Lz Eb Th
theorem FC:jf dC NI FB xt:=acr (Xd [.d Aw,.n,.n,.d (.slice (.pair bg eO)),.d (.slice cD),.d (.slice dR),.d (.slice (.pair bg j6))] λ_=>b8)
def Tg:SG Tryz.prog:=⟨20,mr,Eb,.of (.aNX (.fn 0 b8 ayo trivial)) (by rfl)⟩
section
def aNH:List aB->Bool:=λvs=>match vs with | [_,_,.d (.pair (.int .i64) _) x]=>decide ((x.1:Int)=3) | _=>false
def aSe:List aB->Bool:=λvs=> !aNH vs
def aTq.E:Entry:=Entry.half [none,none,some Aw] (X:=Ii) (Z:=(List An)×Nat×Nat×(List (bC×dP))×(List bT)×(List cZ)×(List (bC×ia))) Eb.run Eb.out Sum.inl cU
def aTq.sg:SG Tryz.prog:=⟨20,aSe,aTq.E,vm.of (ra.half aRi (Tg.h.1 (by rfl))) (by rfl)⟩
def aTr.E:Entry:=Entry.half [none,none,some Aw] (X:=Ii) (Z:=(List An)×Nat×Nat×(List (bC×dP))×(List bT)×(List cZ)×(List (bC×ia))×Nat×(List (bC×dP))×(List bT)×(List cZ)) Eb.run Eb.out Sum.inr Sum.getRight?
def aTr.sg:SG Tryz.prog:=⟨20,aNH,aTr.E,vm.of (ra.half aRj (Tg.h.1 (by rfl))) (by rfl)⟩
abbrev pS:=(List An)×(List An)×Bool×bC×(List (bC×ia))
def Hq:pS->AS:=λ(d,e,one,n6,n29)=>⟨([bF,bF,bF,eT 29,bF,bF,eT 6]++aP 6 ([.d (.slice MN) d,bF,.d (.slice MN) e,bF,.d .bool one]++aP 235 [])),[],(bM 6 ([dK (.d bg n6)]++bM 22 ([[apW (.pr (.cj (.new 29 1) 0) fC),apW (.mp bg j6 n29)]]++bM 223 [])))⟩
def JH:rr:=rr.of {aV:=[3,6,13,15,17],sites:=[6,29]} Hq
def jd:pS->Option pS:=λx=>(JH).ay4 .normal (Hq x)
theorem Lm(x:pS):jd x=some x:=rr.IP (jx [.d (.slice MN),.d (.slice MN),.d .bool,.d bg,.d (.slice (.pair bg j6))] λ_=>b8) x
abbrev pT:=Bool×Bool×bC×(List (bC×ia))
def Hr:pT->AS:=λ(one,two,n6,n29)=>⟨([bF,bF,bF,eT 29,bF,bF,eT 6]++aP 10 ([.d .bool one,.d .bool two]++aP 234 [])),[],(bM 6 ([dK (.d bg n6)]++bM 22 ([[apW (.pr (.cj (.new 29 1) 0) fC),apW (.mp bg j6 n29)]]++bM 223 [])))⟩
def JI:rr:=rr.of {aV:=[3,6,17,18],sites:=[6,29]} Hr
def gz:pT->Option pT:=λx=>(JI).ay4 .normal (Hr x)
theorem Ln(x:pT):gz x=some x:=rr.IP (jx [.d .bool,.d .bool,.d bg,.d (.slice (.pair bg j6))] λ_=>b8) x
def apE:Unit->Prop:=λ_=>True
def ahc:Unit->Bool:=λ_=>true
def jL:Fs Tryz.prog apE bu ahc:=eN 8 Tryz.f8 (λ_=>([],[])) (λx=>⟨.d .bool x,[],[]⟩) [] [Rc,aLK,ame,awU,aIJ,adF,aTq.sg,aqk,aTr.sg,ap3,aBU,awP,aqd] {loops:=nY [(19,{aV:=[2,3,4,6,7,8,9,11,12,13,14],sites:=[1,4,6,7,10,20,23,24,28,29,44,50,53,58,62,68,72,76,85,89,97,101,105,155,207,212,216,219,223,249]})],outs:=nX [(19,{aV:=[2,3,4,6,7,8,9,11,12,13],sites:=[1,4,6,7,10,20,23,24,28,29,44,50,53,58,62,68,72,76,85,89,97,101,105,155,207,212,216,219,223,249]},{aV:=[0],sites:=[1,4,6,7,10,20,23,24,28,29,44,50,53,58,62,68,72,76,85,89,97,101,105,155,207,212,216,219,223,249]})],avW:=nK [(27,JH),(28,JI)]} 8
theorem at7(d)(k:K1 R):jL.A d k=al (He.call 7) λx7=>al (anK.call x7) λx8=>al (Fe [(100,(x8,()))]) λyr=>aJ yr.isLeft (al yr.getLeft? λauT=>al (UN.call ()) λPb=>k (jL.out false)) (al yr.getRight? λafe=>al (UN.call ()) λYm=>al (vz.call (([(((ab 32 0),(0,())),((0,(([]:List Sg),(0,()))),()))],([(90,(x8,()))],(0,()))),0,0,[7],0)) λaJr=>al (CV.call (((ab 32 0),(1,())),Ym)) λaNa=>al (CV.call (((ab 32 0),(0,())),aNa)) λaXw=>al (jP cU (dC ((7,(([]:List dw),(0,(((ab 32 0),(0,())),())))),0,0,afe.1,afe.2.1,afe.2.2,aXw))) λaQi=>al (jP cU (dC ((0,(([]:List dw),(0,(((ab 32 0),(0,())),())))),aQi.2.1,aQi.2.2.1,aQi.2.2.2.1,aQi.2.2.2.2.1,aQi.2.2.2.2.2.1,aQi.2.2.2.2.2.2))) λaNZ=>al (jP cU (dC ((0,([aJr.1],(0,(((ab 32 0),(0,())),())))),aNZ.2.1,aNZ.2.2.1,aNZ.2.2.2.1,aNZ.2.2.2.2.1,aNZ.2.2.2.2.2.1,aNZ.2.2.2.2.2.2))) λaQP=>al (jP cU (dC ((7,(([]:List dw),(0,(((ab 32 0),(0,())),())))),aQP.2.1,aQP.2.2.1,aQP.2.2.2.1,aQP.2.2.2.2.1,aQP.2.2.2.2.2.1,aQP.2.2.2.2.2.2))) λauU=>al (CU.call (((ab 32 0),(0,())),auU.2.2.2.2.2.2)) λaVa=>al (jP Sum.getRight? (dC ((3,([aJr.1],(1,(((ab 32 0),(0,())),())))),auU.2.1,auU.2.2.1,auU.2.2.2.1,auU.2.2.2.2.1,auU.2.2.2.2.2.1,aVa.1))) λaQQ=>al (jP cU (dC ((7,(([]:List dw),(0,(((ab 32 0),(0,())),())))),aQQ.2.1,aQQ.2.2.2.2.2.2.2.1,aQQ.2.2.2.2.2.2.2.2.1,aQQ.2.2.2.2.2.2.2.2.2.1,aQQ.2.2.2.2.2.2.2.2.2.2,aQQ.2.2.2.2.2.2.1))) λaCb=>al (jP cU (dC ((0,(([]:List dw),(0,(((ab 32 0),(0,())),())))),aCb.2.1,aCb.2.2.1,aCb.2.2.2.1,aCb.2.2.2.2.1,aCb.2.2.2.2.2.1,aCb.2.2.2.2.2.2))) λaB6=>al (jP cU (dC ((0,(([]:List dw),(0,(((ab 32 0),(0,())),())))),aB6.2.1,aB6.2.2.1,aB6.2.2.2.1,aB6.2.2.2.2.1,aB6.2.2.2.2.2.1,aB6.2.2.2.2.2.2))) λaB7=>al (jP cU (dC ((0,(([]:List dw),(0,(((ab 32 0),(0,())),())))),aB7.2.1,aB7.2.2.1,aB7.2.2.2.1,aB7.2.2.2.2.1,aB7.2.2.2.2.2.1,aB7.2.2.2.2.2.2))) λaql=>al (jP cU (dC ((0,(([]:List dw),(0,(((ab 32 0),(0,())),())))),aql.2.1,aql.2.2.1,aql.2.2.2.1,aql.2.2.2.2.1,aql.2.2.2.2.2.1,aql.2.2.2.2.2.2))) λaB8=>al (jP cU (dC ((0,(([]:List dw),(0,(((ab 32 0),(0,())),())))),aB8.2.1,aB8.2.2.1,aB8.2.2.2.1,aB8.2.2.2.2.1,aB8.2.2.2.2.2.1,aB8.2.2.2.2.2.2))) λPa=>al (jP cU (dC ((0,(([]:List dw),(0,(((ab 32 0),(0,())),())))),Pa.2.1,Pa.2.2.1,Pa.2.2.2.1,Pa.2.2.2.2.1,Pa.2.2.2.2.2.1,Pa.2.2.2.2.2.2))) λaB9=>al (jP cU (dC ((0,(([]:List dw),(0,(((ab 32 0),(0,())),())))),aB9.2.1,aB9.2.2.1,aB9.2.2.2.1,aB9.2.2.2.2.1,aB9.2.2.2.2.2.1,aB9.2.2.2.2.2.2))) λafc=>al (jP cU (dC ((7,(([]:List dw),(0,(((ab 32 0),(0,())),())))),afc.2.1,afc.2.2.1,afc.2.2.2.1,afc.2.2.2.2.1,afc.2.2.2.2.2.1,afc.2.2.2.2.2.2))) λUQ=>al (jP cU (dC ((7,(([]:List dw),(0,(((ab 32 0),(0,())),())))),UQ.2.1,UQ.2.2.1,UQ.2.2.2.1,UQ.2.2.2.2.1,UQ.2.2.2.2.2.1,UQ.2.2.2.2.2.2))) λauS=>aJ ((A7 (aQi.1.length:Int) 0)) (k (jL.out false)) (aJ (A7 (auU.1.length:Int) 1) (k (jL.out false)) (aJ (A7 (aCb.1.length:Int) 2) (k (jL.out false)) (aJ (A7 (UQ.1.length:Int) 1) (k (jL.out false)) (aJ (A7 (auS.1.length:Int) 0) (k (jL.out false)) (al (aJ (ed 0 (auU.1.length:Int)) (aJ (qY (nth MN auU.1 0).1 1) (aJ (ed 0 (auU.1.length:Int)) (aJ (qY (nth MN auU.1 0).2.2.2.1 2) (aJ (ed 0 (auU.1.length:Int)) (aJ (Ty.beq bg (nth MN auU.1 0).2.1 ((ab 32 0),(0,()))) (aJ (ed 0 (auU.1.length:Int)) (al (J6.call ((nth MN auU.1 0).2.2.1,aJr.1)) λaM9=>aJ (aM9) (aJ (aVa.2.2.2) (jd (aCb.1,UQ.1,(qY aVa.2.2.1 2),((ab 32 0),(0,())),auS.2.2.2.2.2.2)) (jd (aCb.1,UQ.1,false,((ab 32 0),(0,())),auS.2.2.2.2.2.2))) (jd (aCb.1,UQ.1,false,((ab 32 0),(0,())),auS.2.2.2.2.2.2))) none) (jd (aCb.1,UQ.1,false,((ab 32 0),(0,())),auS.2.2.2.2.2.2))) none) (jd (aCb.1,UQ.1,false,((ab 32 0),(0,())),auS.2.2.2.2.2.2))) none) (jd (aCb.1,UQ.1,false,((ab 32 0),(0,())),auS.2.2.2.2.2.2))) none) λoq=>al (aJ (ed 0 (oq.1.length:Int)) (aJ (qY (nth MN oq.1 0).1 2) (aJ (ed 0 (oq.1.length:Int)) (aJ (qY (nth MN oq.1 0).2.2.2.1 2) (aJ (ed 1 (oq.1.length:Int)) (aJ (qY (nth MN oq.1 1).1 1) (aJ (ed 1 (oq.1.length:Int)) (aJ (qY (nth MN oq.1 1).2.2.2.1 3) (aJ (ed 0 (oq.2.1.length:Int)) (aJ (qY (nth MN oq.2.1 0).1 3) (aJ (ed 0 (oq.2.1.length:Int)) (aJ (qY (nth MN oq.2.1 0).2.2.2.1 3) (al (BO.call (oq.2.2.2.1,oq.2.2.2.2)) λaQg=>aJ (aQg.2) (al (BO.call (((ab 32 0),(1,())),aQg.1)) λaSA=>gz (oq.2.2.1,(!aSA.2),oq.2.2.2.1,aSA.1)) (gz (oq.2.2.1,false,oq.2.2.2.1,aQg.1))) (gz (oq.2.2.1,false,oq.2.2.2.1,oq.2.2.2.2))) none) (gz (oq.2.2.1,false,oq.2.2.2.1,oq.2.2.2.2))) none) (gz (oq.2.2.1,false,oq.2.2.2.1,oq.2.2.2.2))) none) (gz (oq.2.2.1,false,oq.2.2.2.1,oq.2.2.2.2))) none) (gz (oq.2.2.1,false,oq.2.2.2.1,oq.2.2.2.2))) none) (gz (oq.2.2.1,false,oq.2.2.2.1,oq.2.2.2.2))) none) λaCa=>al (wall.call aCa.2.2.2) λaJn=>al (Sj.call (aCa.2.2.1,aJn.2.1)) λaU4=>al (CU.call (aCa.2.2.1,aU4)) λaSB=>aJ (aCa.1) (aJ (aCa.2.1) (aJ (qY ((aJn.1:Nat):Int) 2) (aJ (ed 0 ((aJn.1:Nat):Int)) (aJ (decide (0 < (ag aJn.2.2))) (aJ (Ty.beq bg (nth bg aJn.2.2 0) aCa.2.2.1) (aJ (!aSB.2.2.2) (al (wall.call aSB.1) λaU5=>k (jL.out (qY ((aU5.1:Nat):Int) 1))) (k (jL.out false))) (k (jL.out false))) none) none) (k (jL.out false))) (k (jL.out false))) (k (jL.out false)))))))):=b8
def o0:bC:=(adI,((0:Int),()))
def o1:bC:=(adI,((1:Int),()))
def Pj(d:Int)(l:List dw)(dep:Int):Ki:=(d,(l,(dep,(o0,()))))
def Am(x:ia):Wm:=[(o1,qa),(o0,x)]
theorem azS{k:Int}:Lp (adI,(k,())):=⟨cg,λx hx=>by rw[(nr.1 (show x∈ab 32 (0:Int) from hx)).2];exact⟨by decide,by decide⟩⟩
theorem aVQ:¬o0=o1:=λh=>absurd (bo (λo:bC=>o.2.1) h:(0:Int)=1) (by decide)
theorem aUz:¬o1=o0:=λh=>aVQ h.symm
theorem aQq:Ty.beq bg o0 o1=false:=by
 cases h:Ty.beq bg o0 o1 with
 |false=>rfl
 |true=>exact absurd ((sS _ _).1 h) aVQ
theorem aw6:Ty.beq bg o1 o0=false:=by
 cases h:Ty.beq bg o1 o0 with
 |false=>rfl
 |true=>exact absurd ((sS _ _).1 h) aUz
theorem aQp:Ty.beq bg o0 o0=true:=(sS _ _).2 rfl
theorem aSH:Ty.beq bg o1 o1=true:=(sS _ _).2 rfl
theorem aTu(x:ia):bN bg o0 (Am x)=some x:=by unfold Am;rw[fx,if_neg (by rw[aQq];decide),fx,if_pos aQp]
theorem aVk(x:ia):bN bg o1 (Am x)=some qa:=by unfold Am;rw[fx,if_pos aSH]
theorem aXk(x y:ia):eG bg o0 y (Am x)=Am y:=by unfold Am;rw[pF,if_neg (by rw[aQq];decide),pF,if_pos aQp]
theorem aXl(x:ia):eG bg o1 qa (Am x)=Am x:=by unfold Am;rw[pF,if_pos aSH]
theorem aQ5:H7 o1 o0=1:=by rw[wu (a:=o1) (b:=o0) azS azS];decide+kernel
theorem aSz(x:ia):GQ (Am x)=[o0,o1]:=by
 have hq:∀y∈([o1,o0]:List bC),Lp y:=λy hy=>by
  rcases bY.1 hy with rfl | hy
  ·exact azS
  ·rw[bk.1 hy];exact azS
 refine(GA D7 hq (λx hx y hy a b=>Fh (hq x hx) (hq y hy) a b) ⟨List.Perm.swap o1 o0 [],?_⟩).symm;refine List.pairwise_cons.2 ⟨λy hy=> ?_,List.pairwise_singleton _ _⟩;rw[bk.1 hy,aQ5];decide
theorem aQN{x:ia}(h:alc x):WG (Am x):=⟨by show 2<=_;decide,cV.2 ⟨λh=>aUz (bk.1 h),cV.2 ⟨λh=>(by cases h),fW⟩⟩,λp hp=>by
 rcases bY.1 hp with rfl | hp
 ·exact⟨azS,W4⟩
 ·rw[bk.1 hp];exact⟨azS,h⟩⟩
theorem anP{H:Int}{l:List cZ}{o:bC}(h:xL o l 0=none):fR H l o qa=(qa,[]):=by
 have hr:jC o l=(ez.zero,0,false):=by unfold jC;rw[h]
 have e1:∀id,l9 o qa 0 false id=(qa,[]):=λid=>if_neg (show ¬Ci qa 0 false id=true from λh=>(by cases h))
 have e2:∀id,tY o ez.zero 0 false id qa=(qa,[]):=λid=>if_neg (λh=>(by cases h))
 have e3:Bb o ez.zero 0 false H qa=(qa,[]):=if_neg (λh=>(by cases h));unfold fR;rw[if_neg (show ¬qa.2.2.2.2.1=true from λh=>(by cases h)),hr];simp only[e1,e2,e3,aZ]
theorem aF6{nb:Nat}{bs:List cZ}(x:ia)(h1:xL o1 (bs.take nb) 0=none):fg nb bs (Am x)=(Am (fR nb (bs.take nb) o0 x).1,(fR nb (bs.take nb) o0 x).2):=by
 have g0:nJ o0 (Am x)=x:=by unfold nJ;rw[aTu];rfl
 have e0:lookW nb (bs.take nb) (Am x,[]) o0=(Am (fR nb (bs.take nb) o0 x).1,(fR nb (bs.take nb) o0 x).2):=by
  unfold lookW;rw[show(Am x,([]:List An)).1=Am x from rfl,g0,aXk];split
  ·rename_i hf;rw[show fR nb (bs.take nb) o0 x=(x,[]) from if_pos hf]
  ·rfl
 unfold fg;rw[aSz,bq,bq,cO,e0];generalize fR nb (bs.take nb) o0 x=r;have g1:nJ o1 (Am r.1)=qa:=by unfold nJ;rw[aVk];rfl
 unfold lookW;rw[show(Am r.1,r.2).1=Am r.1 from rfl,g1,if_neg (show ¬qa.2.2.2.2.1=true from λh=>(by cases h)),anP h1,aXl];show(Am r.1,r.2++ [])=_;rw[aZ]
theorem aQa:Yo []:=⟨aK _,λt ht=>(by cases ht)⟩
theorem aSw{K:Int}(hk:KW K):Yo [UW K]:=⟨by show 1<=_;decide,λt ht=>by
 rw[bk.1 ht];exact⟨(AB hk).2.1,iw (jM (AB hk).1).1.2.1 (by decide)⟩⟩
section
variable {A0:At} {b nb n:Nat} {a:At} {s:List bT} {bs:List cZ}
theorem amM(h:q9 A0 b nb n a s bs)(hb:b<=400)(hn:nb<=900)(h1:xL o1 (bs.take nb) 0=none){x:ia}(hx:alc x):
  dC (Pj 7 [] 0,nb,n,a,s,bs,Am x)=some (.inl ((fR nb (bs.take nb) o0 x).2,nb,n,a,s,bs,Am (fR nb (bs.take nb) o0 x).1)):=by
 have e7:l6 (Pj 7 [] 0)=7:=by unfold l6 Pj;decide
 rw[FC (d:=(Pj 7 [] 0,nb,n,a,s,bs,Am x)) ⟨⟨A0,b,h,hb⟩,hn,aQa,aQN hx⟩];simp only[xt,e7,aHX,aF6 x h1];rfl
theorem aOx(h:q9 A0 b nb n a s bs){l:List dw}(hl:Yo l)(hb:b+l.length<=400)(hn:nb<=900){m:Wm}(hm:WG m){r:Int×Nat×Nat×At×List bT×List cZ}(hr:mm (Ap ((nb:Int)+1) (rS nb bs) l 0) nb (n,a,s) bs=r):
  dC (Pj 0 l 0,nb,n,a,s,bs,m)=some (.inl ([],r.2.1,r.2.2.1,r.2.2.2.1,r.2.2.2.2.1,r.2.2.2.2.2,m)):=by
 have e7:l6 (Pj 0 l 0)=0:=by show cG .and .i64 0 7=0;decide
 have eb:nth dR (BX (Pj 0 l 0) nb bs) 0=Ap ((nb:Int)+1) (rS nb bs) l 0:=by unfold BX;rw[if_pos (by rw[e7];decide)];rfl
 rw[FC (d:=(Pj 0 l 0,nb,n,a,s,bs,m)) ⟨⟨A0,b,h,hb⟩,hn,hl,hm⟩];simp only[xt,e7,eb,hr];rfl
theorem aN6(h:q9 A0 b nb n a s bs){c:cZ}(hc:W5 c)(hn:nb<=1000){nb' n':Nat}{a':At}{s':List bT}{bs':List cZ}(e:mm c nb (n,a,s) bs=(0,nb',n',a',s',bs')){m':Nat}(hm:b+c.2.2.1.length<=m'):q9 A0 m' nb' n' a' s' bs':=by
 rcases h.add hc hm hn with⟨e',he,e2⟩ | ⟨n2,a2,s2,e2,h2,_,_⟩
 ·rw[e]at e2;exact absurd (bo (λz=>z.1) e2).symm he
 ·rw[e]at e2;simp only[cE]at e2;obtain⟨_,rfl,rfl,rfl,rfl,rfl⟩:=e2;exact h2
end
def oE:cZ:=Ap 1 adI [] 0
def EW(K:Int)(P1:Bs):cZ:=Ap 2 P1 [UW K] 0
def C3(P1:Bs):cZ:=Ap 2 P1 [] 0
def HK(K:Int)(P2:Bs):cZ:=Ap 3 P2 [UW K] 0
theorem aCJ{K:Int}(hk:KW K)(P1:Bs):AE 1 2 1 (BW K 2) [sW K] [oE,EW K P1]=(1,0,AW K 0 0,[sW K],[oE,EW K P1]):=by have ec:ja (BW K 2)=BW K 2:=aQ3;have eu:=aXn hk 0 0 2;have e:xm [oE,EW K P1] 1 (2,1,BW K 2,[sW K])=(1,0,xP (BW K 2) (sW K),[sW K]):=rfl;unfold AE;rw[ec];show((xm [oE,EW K P1] 1 (2,1,BW K 2,[sW K])).1,(xm [oE,EW K P1] 1 (2,1,BW K 2,[sW K])).2.1,(xm [oE,EW K P1] 1 (2,1,BW K 2,[sW K])).2.2.1,(xm [oE,EW K P1] 1 (2,1,BW K 2,[sW K])).2.2.2,[oE,EW K P1])=_;rw[e];show(1,0,xP (BW K 2) (stepOf (UW K) (AW K 0 0)),[sW K],[oE,EW K P1])=_;rw[eu]
theorem aUL{K:Int}(hk:KW K)(gF:¬iC (TW K)=adI){P1 P2:Bs}(hP:aqV oE=P1)(hQ:aqV (C3 P1)=P2)(h:q9 (AW K 0 0) 1 2 1 (BW K 2) [sW K] [oE,EW K P1]):
  lA (1,[C3 P1,HK K P2],2,1,BW K 2,[sW K],[oE,EW K P1])=some (.inr (0,3,1,BW K 2,[sW K],[oE,EW K P1],1,BW K 3,[sW K],[oE,C3 P1,HK K P2]))/\q9 (AW K 0 0) 2 3 1 (BW K 3) [sW K] [oE,C3 P1,HK K P2]:=by
 have l1:P1.length=32:=by rw[<-hP];exact B8 _
 have l2:P2.length=32:=by rw[<-hQ];exact B8 _
 have v2:W5 (C3 P1):=aTs (by decide) l1 aJw;have v3:W5 (HK K P2):=aV0 hk (by decide) l2 aJw;have e1:mm (C3 P1) 1 (0,AW K 0 0,[sW K]) [oE,EW K P1]=(0,2,0,AW K 0 0,[sW K],[oE,C3 P1]):=aJI (h:=2) (p:=P1) (fill:=0) (nb:=1) (S:=(0,AW K 0 0,[sW K])) (bs:=[oE,EW K P1]) hP.symm rfl (by decide) l1 aJw;have e2:mm (HK K P2) 2 (0,AW K 0 0,[sW K]) [oE,C3 P1]=(0,3,1,BW K 3,[sW K],[oE,C3 P1,HK K P2]):=aVh hk gF (h:=3) (p:=P2) (nb:=2) (n:=0) (s:=[sW K]) (bs:=[oE,C3 P1]) hQ.symm rfl (by decide) l2;have hl:∀b∈ [C3 P1,HK K P2],W5 b:=λb hb=>by
  rcases bY.1 hb with rfl | hb
  ·exact v2
  ·rw[bk.1 hb];exact v3
 have hF:ju (1,[C3 P1,HK K P2],2,1,BW K 2,[sW K],[oE,EW K P1])= .inr (0,3,1,BW K 2,[sW K],[oE,EW K P1],1,BW K 3,[sW K],[oE,C3 P1,HK K P2]):=by
  have ek:jk [C3 P1,HK K P2] (1,0,AW K 0 0,[sW K],[oE,EW K P1])=(0,3,1,BW K 3,[sW K],[oE,C3 P1,HK K P2]):=by rw[jk];show(if(mm (C3 P1) 1 (0,AW K 0 0,[sW K]) [oE,EW K P1]).1≠0 then mm (C3 P1) 1 (0,AW K 0 0,[sW K]) [oE,EW K P1] else jk [HK K P2] (mm (C3 P1) 1 (0,AW K 0 0,[sW K]) [oE,EW K P1]).2)=_;rw[e1,if_neg (λh=>h rfl),jk];show(if(mm (HK K P2) 2 (0,AW K 0 0,[sW K]) [oE,C3 P1]).1≠0 then mm (HK K P2) 2 (0,AW K 0 0,[sW K]) [oE,C3 P1] else jk [] (mm (HK K P2) 2 (0,AW K 0 0,[sW K]) [oE,C3 P1]).2)=_;rw[e2,if_neg (λh=>h rfl)];rfl
  simp only[ju];rw[if_pos ⟨by decide,by decide,by show(1:Int) < ((2:Nat):Int);decide⟩,if_pos (by decide),aCJ hk P1,ek,if_neg (λh=>h rfl)]
 have key:lA (1,[C3 P1,HK K P2],2,1,BW K 2,[sW K],[oE,EW K P1])=some (.inr (0,3,1,BW K 2,[sW K],[oE,EW K P1],1,BW K 3,[sW K],[oE,C3 P1,HK K P2])):=by
  have ai3:xp (1,[C3 P1,HK K P2],2,1,BW K 2,[sW K],[oE,EW K P1]):=⟨h.ch,h.aUX (by decide),by show 2<=_;decide,λ_=>by
   rw[aCJ hk P1];have sg:=aXg hk;refine⟨⟨v2,sg,oS 1,by decide,h.ch.2.2⟩,λ_=> ?_⟩;show Yn [HK K P2] (mm (C3 P1) 1 (0,AW K 0 0,[sW K]) [oE,EW K P1]).2;rw[e1];refine⟨⟨v3,sg,aTp (h.ch.2.2 oE (by simp)) v2.1⟩,λ_=>trivial⟩⟩
  rw[Vc (d:=(1,[C3 P1,HK K P2],2,1,BW K 2,[sW K],[oE,EW K P1])) ai3,hF];rfl
 refine⟨key,?_⟩;rcases h.aHq 1 hl (by show 2<=400;decide) (by show 4<=1000;decide) with⟨e,_,h1⟩ | ⟨n',a',s',bs',h1,_,h2,_⟩
 ·rw[key]at h1;cases h1
 ·rw[key]at h1;simp only[az,Sum.inr.injEq,cE]at h1;obtain⟨_,_,_,_,_,_,rfl,rfl,rfl,rfl⟩:=h1;exact h2
def XT(l:List cZ):Nat->List cZ
 | 0=>l
 |j+1=>XT l j++ [Ap (((j+3:Nat):Int)+1) (rS (j+3) (XT l j)) [] 0]
theorem XU(l:List cZ)(hl:l.length=3):∀j,(XT l j).length=j+3
 | 0=>by show l.length=0+3;omega
 |j+1=>by show(XT l j++ [_]).length=_;rw[ai,XU l hl j];show j+3+1=_;omega
theorem ar0{o:bC}(l:List cZ):∀j,xL o (XT l j) 0=xL o l 0
 | 0=>rfl
 |j+1=>by
  show xL o (XT l j++ [_]) 0=_;rw[Yj,ar0 l j]
  all_goals cases xL o l 0 <;> rfl
theorem aTt{A0:At}{b n:Nat}{a:At}{s:List bT}{l:List cZ}(hl:l.length=3)(h:q9 A0 b 3 n a s l):∀j,j<=100->q9 A0 b (j+3) n a s (XT l j)
 | 0,_=>by rw[aO];exact h
 |j+1,hj=>by have ih:=aTt hl h j ak;have et:(XT l j).take (j+3)=XT l j:=aY (by rw[XU l hl];exact ax _);have e:=aJI (h:=((j+3:Nat):Int)+1) (p:=rS (j+3) (XT l j)) (fill:=0) (nb:=j+3) (S:=(n,a,s)) (bs:=XT l j) rfl rfl ak (BG _ _) aJw;rw[et]at e;have:=aN6 ih (aTs (h:=((j+3:Nat):Int)+1) (p:=rS (j+3) (XT l j)) (fill:=0) ak (BG _ _) aJw) ak e (ax _);rw[show j+3+1=j+1+3 by omega]at this;exact this
theorem aWd{A0:At}{b n:Nat}{a:At}{s:List bT}{l:List cZ}(hl:l.length=3)(h:q9 A0 b 3 n a s l)(hb:b<=400){m:Wm}(hm:WG m)(j:Nat)(hj:j<=100):
  dC (Pj 0 [] 0,j+3,n,a,s,XT l j,m)=some (.inl ([],j+1+3,n,a,s,XT l (j+1),m)):=by
 have ih:=aTt hl h j hj;have et:(XT l j).take (j+3)=XT l j:=aY (by rw[XU l hl];exact ax _);have e:=aJI (h:=((j+3:Nat):Int)+1) (p:=rS (j+3) (XT l j)) (fill:=0) (nb:=j+3) (S:=(n,a,s)) (bs:=XT l j) rfl rfl ak (BG _ _) aJw;rw[et]at e;rw[aOx ih aQa hb ak hm e,show j+3+1=j+1+3 by omega];rfl
theorem aSq{K:Int}(hk:KW K):Uv o0 [UW K]=some (UW K):=by rw[Uv,aS8 hk,if_pos];show(Ty.beq bg o0 o0 || _)=true;rw[aQp];rfl
theorem aSr{K:Int}(hk:KW K):Uv o1 [UW K]=none:=by
 rw[Uv,aS8 hk,if_neg]
 ·rfl
 ·intro h;have h:(aqp o1 o0 || false)=true:=h;rw[Bool.or_false]at h;exact aUz ((sS _ _).1 h)
def HL(K:Int)(h:Int)(f:Bool):ia:=(true,(UW K,(iC (TW K),(h,(f,())))))
theorem acJ{K:Int}(hk:KW K)(h:Int)(f:Bool):alc (HL K h f):=⟨(AB hk).2.1,λ_=>(AB hk).1⟩
theorem aF7{K:Int}(hk:KW K){l:List cZ}{h H:Int}(hs:xL o0 l 0=some (UW K,h)):
  (H - h<=6->fR H l o0 qa=(HL K h false,[(1,(o0,(UW K,(h,()))))]))/\
  (∀h',h'≠h->H - h<=6->fR H l o0 (HL K h' false)=(HL K h false,[(2,(o0,(UW K,(h',())))),(1,(o0,(UW K,(h,()))))]))/\
  (6 < H - h->fR H l o0 (HL K h false)=(HL K h true,[(3,(o0,(UW K,(h,()))))])):=by
 have hr:jC o0 l=(UW K,h,true):=by unfold jC;rw[hs]
 have cY:=(AB hk).2.2.1;have e2:tY o0 (UW K) h true (iC (TW K)) qa=(HL K h false,[(1,(o0,(UW K,(h,()))))]):=if_pos rfl;have e3:∀x:ia,H - h<=6->Bb o0 (UW K) h true H x=(x,[]):=λx hx=>if_neg (by rw[bw,cr ak];decide)
 refine⟨λhH=> ?_,λh' gF hH=> ?_,λhH=> ?_⟩
 ·have e1:l9 o0 qa h true (iC (TW K))=(qa,[]):=if_neg (show ¬Ci qa h true _=true from λh=>(by cases h));unfold fR;rw[if_neg (show ¬qa.2.2.2.2.1=true from λh=>(by cases h)),hr];simp only[cY,e1,e2,e3 _ hH,aZ,aT]
 ·have e1:l9 o0 (HL K h' false) h true (iC (TW K))=(qa,[(2,(o0,(UW K,(h',()))))]):=if_pos (by
   unfold Ci;rw[show A7 h (HL K h' false).2.2.2.1=true from fo (λe:h=h'=>gF e.symm)];rfl)
  unfold fR;rw[if_neg (show ¬(HL K h' false).2.2.2.2.1=true from λh=>(by cases h)),hr];simp only[cY,e1,e2,e3 _ hH,aZ,iW,aT]
 ·have e1:l9 o0 (HL K h false) h true (iC (TW K))=(HL K h false,[]):=if_neg (by
   unfold Ci;rw[show A7 h (HL K h false).2.2.2.1=false from dB rfl,show Ty.beq tH (iC (TW K)) (HL K h false).2.2.1=true by rw[aQ8];exact fY rfl];show ¬(false=true);decide)
  have e2:tY o0 (UW K) h true (iC (TW K)) (HL K h false)=(HL K h false,[]):=if_neg (λh=>(by cases h));have e3:Bb o0 (UW K) h true H (HL K h false)=(HL K h true,[(3,(o0,(UW K,(h,()))))]):=if_pos (by rw[bw];exact cP ak);unfold fR;rw[if_neg (show ¬(HL K h false).2.2.2.2.1=true from λh=>(by cases h)),hr];simp only[cY,e1,e2,e3,aT]
theorem aMz{x:ia}(hx:alc x)(h1:x.1=true):CU.call (o0,Am x)=some (Am x,(x.2.1,(x.2.2.2.1,true))):=by
 have g0:nJ o0 (Am x)=x:=by unfold nJ;rw[aTu];rfl
 rw[UO (d:=(o0,Am x)) (by show nU (nJ o0 (Am x)).2.1;rw[g0];exact hx.1)];simp only[K7,Sz,g0,h1,bG,OP hx.1 (hx.2 h1)]
theorem am2(o:bC)(m:Wm):BO.call (o,m)=some (m,(nJ o m).2.2.2.2.1):=auM (d:=(o,m)) trivial
theorem at8:jL.Ok:=by
 rintro⟨⟩ _;obtain⟨K,hK,hk,gF⟩:∃K:Int,(7:Int)=K/\KW K/\¬iC (TW K)=adI:=⟨7,rfl,⟨by decide,by decide⟩,aW9⟩;obtain⟨P1,hP⟩:∃x,aqV oE=x:=⟨_,rfl⟩;obtain⟨P2,hQ⟩:∃x,aqV (C3 P1)=x:=⟨_,rfl⟩;have l1:P1.length=32:=by rw[<-hP];exact B8 _
 have l2:P2.length=32:=by rw[<-hQ];exact B8 _
 have c1:He.call 7=some (gq K):=by rw[hK];exact Ep (d:=K) ⟨by have:=hk.1;omega,by have:=hk.2;omega⟩
 have c2:anK.call (gq K)=some (LW K 0 0):=aF0 (d:=gq K) trivial;have c3:=aUy K aNn aNn;have c4:UN.call ()=some []:=aqh (d:=()) trivial;have c5:vz.call (TW K,0,0,[7],0)=some (UW K,0):=by rw[hK];exact aSo hk
 have c6:CV.call (o1,[])=some [(o1,qa)]:=EV (d:=(o1,[])) trivial;have c7:CV.call (o0,[(o1,qa)])=some (Am qa):=by
  rw[EV (d:=(o0,[(o1,qa)])) trivial];have e1:bN bg o0 [(o1,qa)]=none:=by rw[fx,if_neg (by rw[aQq];decide),qB]
  have e2:eG bg o0 qa [(o1,qa)]=Am qa:=by rw[pF,if_neg (by rw[aQq];decide)];rfl
  simp only[bu,ak7,e1,e2];rfl
 have i0:q9 (AW K 0 0) 0 0 0 (AW K 0 0) [] []:=q9.new (aVi K aNn aNn);have a1:mm (Ap (((0:Nat):Int)+1) (rS 0 []) [] 0) 0 (0,AW K 0 0,[]) []=(0,1,0,AW K 0 0,[],[oE]):=aJI (h:=1) (p:=adI) (fill:=0) (nb:=0) (S:=(0,AW K 0 0,[])) (bs:=[]) rfl rfl (by decide) cg aJw;have i1:=aN6 i0 (aTs (h:=1) (p:=adI) (fill:=0) (by decide) cg aJw) (by decide) a1 (ax 0);have a2:mm (Ap (((1:Nat):Int)+1) (rS 1 [oE]) [UW K] 0) 1 (0,AW K 0 0,[]) [oE]=(0,2,1,BW K 2,[sW K],[oE,EW K P1]):=by have:=aVh hk gF (h:=2) (p:=P1) (nb:=1) (n:=0) (s:=[]) (bs:=[oE]) hP.symm rfl (by decide) l1;rw[show rS 1 [oE]=P1 from hP];exact this
 have i2:=aN6 i1 (c:=Ap (((1:Nat):Int)+1) (rS 1 [oE]) [UW K] 0) (aV0 hk (by decide) (BG _ _) aJw) (by decide) a2 (show 0+1<=1 by decide);obtain⟨r3,i3⟩:=aUL hk gF hP hQ i2;have l3:([oE,C3 P1,HK K P2]:List cZ).length=3:=rfl;have aXc:xL o0 [oE,EW K P1] 0=some (UW K,2):=by rw[xL,show Uv o0 oE.2.2.1=none from rfl,xL,show Uv o0 (EW K P1).2.2.1=some (UW K) from aSq hk];rfl
 have aXe:xL o1 [oE,EW K P1] 0=none:=by rw[xL,show Uv o1 oE.2.2.1=none from rfl,xL,show Uv o1 (EW K P1).2.2.1=none from aSr hk];rfl
 have aVT:xL o0 [oE,C3 P1,HK K P2] 0=some (UW K,3):=by rw[xL,show Uv o0 oE.2.2.1=none from rfl,xL,show Uv o0 (C3 P1).2.2.1=none from rfl,xL,show Uv o0 (HK K P2).2.2.1=some (UW K) from aSq hk];rfl
 have aVU:xL o1 [oE,C3 P1,HK K P2] 0=none:=by rw[xL,show Uv o1 oE.2.2.1=none from rfl,xL,show Uv o1 (C3 P1).2.2.1=none from rfl,xL,show Uv o1 (HK K P2).2.2.1=none from aSr hk];rfl
 have d9:=amM i0 (by decide) (by decide) rfl W4;rw[show fR ((0:Nat):Int) (([]:List cZ).take 0) o0 qa=(qa,[]) from anP rfl]at d9;have d10:=aOx i0 aQa (by decide) (by decide) (aQN W4) a1;have d11:=aOx i1 (aSw hk) (show 0+1<=400 by decide) (by decide) (aQN W4) a2;have d12:=amM i2 (by decide) (by decide) aXe W4;rw[(aF7 hk (H:=((2:Nat):Int)) (l:=[oE,EW K P1].take 2) aXc).1 (by decide)]at d12;have d13:=aMz (acJ hk 2 false) rfl;have d14:dC (Pj 3 [UW K] 1,2,1,BW K 2,[sW K],[oE,EW K P1],Am (HL K 2 false))=some (.inr ([],3,1,BW K 2,[sW K],[oE,EW K P1],Am (HL K 2 false),1,BW K 3,[sW K],[oE,C3 P1,HK K P2])):=by
  have e7:l6 (Pj 3 [UW K] 1)=3:=by show cG .and .i64 3 7=3;decide
  have eb:BX (Pj 3 [UW K] 1) 2 [oE,EW K P1]=[C3 P1,HK K P2]:=by unfold BX;rw[if_neg (by rw[e7];decide),if_pos ⟨by show(1:Int)<=1;decide,by show(1:Int)<=((2:Nat):Int);decide,by show(1:Int)<=8;decide⟩];show [Ap 2 (rS 1 [oE,EW K P1]) [] 0,Ap 3 (aqV (Ap 2 (rS 1 [oE,EW K P1]) [] 0)) [UW K] 0]=_;rw[show rS 1 [oE,EW K P1]=P1 from hP,show aqV (Ap 2 P1 [] 0)=P2 from hQ];rfl
  have er:akb 1 [C3 P1,HK K P2] 2 1 (BW K 2) [sW K] [oE,EW K P1]= .inr (0,3,1,BW K 2,[sW K],[oE,EW K P1],1,BW K 3,[sW K],[oE,C3 P1,HK K P2]):=by unfold akb;rw[r3];rfl
  rw[FC (d:=(Pj 3 [UW K] 1,2,1,BW K 2,[sW K],[oE,EW K P1],Am (HL K 2 false))) ⟨⟨AW K 0 0,1,i2,by show 1+1<=400;decide⟩,by show 2<=900;decide,aSw hk,aQN (acJ hk 2 false)⟩];simp only[xt,e7,eb];rw[show(Pj 3 [UW K] 1).2.2.1=1 from rfl,er];rfl
 have d15:=amM i3 (by decide) (by decide) aVU (acJ hk 2 false);rw[(aF7 hk (H:=((3:Nat):Int)) (l:=[oE,C3 P1,HK K P2].take 3) aVT).2.1 2 (by decide) (by decide)]at d15;have dg:=λj hj=>aWd l3 i3 (by decide) (aQN (acJ hk 3 false)) j hj
 have i10:=aTt l3 i3 7 (by decide);have e10:(XT [oE,C3 P1,HK K P2] 7).take 10=XT [oE,C3 P1,HK K P2] 7:=aY (by rw[XU _ l3];decide);have aXd:xL o0 ((XT [oE,C3 P1,HK K P2] 7).take 10) 0=some (UW K,3):=by rw[e10,ar0];exact aVT
 have aVV:xL o1 ((XT [oE,C3 P1,HK K P2] 7).take 10) 0=none:=by rw[e10,ar0];exact aVU
 have d23:=amM i10 (by decide) (by decide) aVV (acJ hk 3 false);rw[(aF7 hk (H:=((7+3:Nat):Int)) (l:=(XT [oE,C3 P1,HK K P2] 7).take (7+3)) aXd).2.2 (by decide)]at d23;have d24:=amM i10 (by decide) (by decide) aVV (acJ hk 3 true);rw[show fR ((7+3:Nat):Int) ((XT [oE,C3 P1,HK K P2] 7).take (7+3)) o0 (HL K 3 true)=(HL K 3 true,[]) from if_pos rfl]at d24;have dsame:J6.call (UW K,UW K)=some true:=(aho (d:=(UW K,UW K)) (apw (AB hk).1)).trans (bo some (fY rfl));have f0:BO.call (o0,Am (HL K 3 true))=some (Am (HL K 3 true),true):=by rw[am2];unfold nJ;rw[aTu];rfl
 have f1:BO.call (o1,Am (HL K 3 true))=some (Am (HL K 3 true),false):=by rw[am2];unfold nJ;rw[aVk];rfl
 have w1:wall.call (Am (HL K 3 true))=some (2,Am (HL K 3 true),[o0,o1]):=by rw[adA (d:=Am (HL K 3 true)) ⟨by show 2<=_;decide,λp hp=>((aQN (acJ hk 3 true)).2.2 p hp).1⟩];simp only[bu,auJ,aSz];rfl
 have w2:Sj.call (o0,Am (HL K 3 true))=some [(o1,qa)]:=by
  rw[ahr (d:=(o0,Am (HL K 3 true))) trivial];have:gY bg o0 (Am (HL K 3 true))=[(o1,qa)]:=by unfold Am;rw[vM,if_neg (by rw[aQq];decide),vM,if_pos aQp]
  simp only[bu,awR,this]
 have w3:∃y,CU.call (o0,[(o1,qa)])=some ([(o1,qa)],y)/\y.2.2=false:=by
  have e1:bN bg o0 [(o1,qa)]=none:=by rw[fx,if_neg (by rw[aQq];decide),qB]
  have g0:nJ o0 [(o1,qa)]=qa:=by unfold nJ;rw[e1];rfl
  refine⟨_,UO (d:=(o0,[(o1,qa)])) (by show nU (nJ o0 [(o1,qa)]).2.1;rw[g0];exact v0),?_⟩;simp only[Sz,g0];rfl
 obtain⟨y3,w3,y3f⟩:=w3;have w4:∃l,wall.call [(o1,qa)]=some (1,[(o1,qa)],l):=⟨_,adA (d:=[(o1,qa)]) ⟨by show 1<=_;decide,λp hp=>by rw[bk.1 hp];exact azS⟩⟩;obtain⟨l4,w4⟩:=w4;rw[at7];refine(bo (λz=>al z _) c1).trans ?_
 rw[ah];refine(bo (λz=>al z _) c2).trans ?_
 rw[ah];refine(bo (λz=>al z _) c3).trans ?_
 rw[ah];simp only[dJ,ao,da,ah];refine(bo (λz=>al z _) (c4)).trans ?_
 rw[ah];refine(bo (λz=>al z _) (c5)).trans ?_
 rw[ah];refine(bo (λz=>al z _) (c6)).trans ?_
 rw[ah];refine(bo (λz=>al z _) (c7)).trans ?_
 rw[ah];refine(bo (λz=>al (jP cU z) _) (d9)).trans ?_
 rw[oM,ah];refine(bo (λz=>al (jP cU z) _) (d10)).trans ?_
 rw[oM,ah];refine(bo (λz=>al (jP cU z) _) (d11)).trans ?_
 rw[oM,ah];refine(bo (λz=>al (jP cU z) _) (d12)).trans ?_
 rw[oM,ah];refine(bo (λz=>al z _) (d13)).trans ?_
 rw[ah];refine(bo (λz=>al (jP Sum.getRight? z) _) (d14)).trans ?_
 rw[aK6,ah];refine(bo (λz=>al (jP cU z) _) (d15)).trans ?_
 rw[oM,ah];refine(bo (λz=>al (jP cU z) _) (dg 0 (by decide))).trans ?_
 rw[oM,ah];refine(bo (λz=>al (jP cU z) _) (dg 1 (by decide))).trans ?_
 rw[oM,ah];refine(bo (λz=>al (jP cU z) _) (dg 2 (by decide))).trans ?_
 rw[oM,ah];refine(bo (λz=>al (jP cU z) _) (dg 3 (by decide))).trans ?_
 rw[oM,ah];refine(bo (λz=>al (jP cU z) _) (dg 4 (by decide))).trans ?_
 rw[oM,ah];refine(bo (λz=>al (jP cU z) _) (dg 5 (by decide))).trans ?_
 rw[oM,ah];refine(bo (λz=>al (jP cU z) _) (dg 6 (by decide))).trans ?_
 rw[oM,ah];refine(bo (λz=>al (jP cU z) _) (d23)).trans ?_
 rw[oM,ah];refine(bo (λz=>al (jP cU z) _) (d24)).trans ?_
 rw[oM,ah];have st:∀ {α:Type} {c:Bool} {x y z:Option α},c=true->x=z->aJ c x y=z:=λh1 h2=>by rw[h1];exact h2
 have sf:∀ {α:Type} {c:Bool} {x y z:Option α},c=false->y=z->aJ c x y=z:=λh1 h2=>by rw[h1];exact h2
 refine sf (dB rfl) (sf (dB rfl) (sf (dB rfl) (sf (dB rfl) (sf (dB rfl) ?_))));refine(bo (λz=>al z _) (?_:_=some (([(2,(o0,(UW K,(2,())))),(1,(o0,(UW K,(3,()))))],[(3,(o0,(UW K,(3,()))))],true,o0,Am (HL K 3 true)):pS))).trans ?_
 ·refine st rfl (st (du rfl) (st rfl (st (du rfl) (st rfl (st aQp (st rfl ?_))))));refine(bo (λz=>al z _) dsame).trans ?_
  rw[ah];refine st rfl (st rfl ?_);exact(Lm _).trans rfl
 rw[ah];refine(bo (λz=>al z _) (?_:_=some ((true,true,o0,Am (HL K 3 true)):pT))).trans ?_
 ·refine st rfl (st (du rfl) (st rfl (st (du rfl) (st rfl (st (du rfl) (st rfl (st (du rfl) (st rfl (st (du rfl) (st rfl (st (du rfl) ?_)))))))))));refine(bo (λz=>al z _) f0).trans ?_
  rw[ah];refine st rfl ?_
  refine(bo (λz=>al z _) f1).trans ?_
  rw[ah];exact(Ln _).trans rfl
 rw[ah];refine(bo (λz=>al z _) (w1)).trans ?_
 rw[ah];refine(bo (λz=>al z _) (w2)).trans ?_
 rw[ah];refine(bo (λz=>al z _) (w3)).trans ?_
 rw[ah];refine st rfl (st rfl (st (du rfl) (st rfl (st rfl (st aQp (st (by show(!y3.2.2)=true;rw[y3f];rfl) ?_))))));refine(bo (λz=>al z _) (w4)).trans ?_
 rw[ah];exact bo (λz=>some (jL.out z)) (du rfl)
theorem apF:jL.RS:=rE [] jL
def at9:=jL.eU at8 1 ⟨.none b8,trivial⟩
end
section
def aP8(l:List XL):At:=l.map λe=>(e.1,e.2.1)
theorem aIz(l:List XL):eD (aP8 l)=l.map (·.1):=by unfold aP8 eD;rw[List.map_map];rfl
def aV6(l:List XL):Prop:=l.Pairwise λx y=>¬H7 y.1 x.1 < 0
structure Rl(a:At)(l:List XL):Prop where
 C7:alb a
 aXi:aV6 l
 nd:(eD (aP8 l)).Nodup
 eqv:tm (aP8 l) a
section
variable {a:At} {l:List XL}
theorem Rl.perm(h:Rl a l):(aP8 l).Perm a:=h.eqv.perm h.nd h.C7.1
theorem Rl.aV9(h:Rl a l):alb (aP8 l):=h.C7.perm h.perm.symm
theorem Rl.q(h:Rl a l):∀e∈l,Lp e.1:=λe he=>(h.aV9.2 (e.1,e.2.1) (cT.2 ⟨e,he,rfl⟩)).1
theorem Rl.len(h:Rl a l):l.length=a.length:=by have:=h.perm.length_eq;unfold aP8 at this;rwa[bV]at this
theorem Rl.all(h:Rl a l):l.map (·.1)=aTj a:=by
 have hq:∀x∈eD a,Lp x:=λx hx=>by obtain⟨p,hp,rfl⟩:=cT.1 hx;exact(h.C7.2 p hp).1
 refine GA D7 hq (λx hx y hy a b=>Fh (hq x hx) (hq y hy) a b) ⟨?_,?_⟩
 ·rw[<-aIz];exact h.perm.map _
 ·exact List.pairwise_map.2 h.aXi
end
end
structure MZ(m:Wm)(f:bC->Prop):Prop where
 an9:(m.map (·.1)).Nodup
 get:∀o,(f o/\bN bg o m=some qa)\/(¬f o/\bN bg o m=none)
 azS:∀p∈m,Lp p.1
theorem MZ.want{m:Wm}{f:bC->Prop}(h:MZ m f){o:bC}(ho:Lp o):MZ (Hy o m) (λx=>x=o\/f x)/\(Hy o m).length<=m.length+1:=by
 unfold Hy;rcases h.get o with⟨h1,h2⟩ | ⟨h1,h2⟩
 ·rw[h2];refine⟨⟨h.an9,λx=> ?_,h.azS⟩,oS _⟩;rcases h.get x with⟨h3,h4⟩ | ⟨h3,h4⟩
  ·exact .inl ⟨.inr h3,h4⟩
  ·refine .inr ⟨λe=> ?_,h4⟩;rcases e with rfl | e
   ·exact h3 h1
   ·exact h3 e
 ·rw[h2];refine⟨⟨IK eV h.an9,λx=> ?_,λp hp=> ?_⟩,?_⟩
  ·have hg:bN bg x (eG bg o qa m)=_:=FL eV x o qa m;show(_/\bN bg x (eG bg o qa m)=some qa)\/_/\bN bg x (eG bg o qa m)=none;rw[hg];by_cases e:x=o
   ·rw[if_pos ((sS _ _).2 e)];exact .inl ⟨.inl e,rfl⟩
   ·rw[if_neg (λhb=>e ((sS _ _).1 hb))];rcases h.get x with⟨h3,h4⟩ | ⟨h3,h4⟩
    ·exact .inl ⟨.inr h3,h4⟩
    ·exact .inr ⟨λe'=>e'.elim e h3,h4⟩
  ·rcases ags hp with rfl | hp
   ·exact ho
   ·exact h.azS p hp
  ·show(eG bg o qa m).length<=_;unfold eG;split
   ·rw[rX];exact oS _
   ·rw[ai];exact ax _
theorem MZ.drop{m:Wm}{f:bC->Prop}(h:MZ m f)(o:bC):MZ (gY bg o m) (λx=>¬x=o/\f x)/\(gY bg o m).length<=m.length:=by
 have sub:(gY bg o m).Sublist m:=by
  unfold gY;split
  ·exact List.eraseIdx_sublist _ _
  ·exact List.Sublist.refl _
 refine⟨⟨Cv eV h.an9,λx=> ?_,λp hp=>h.azS p (sub.subset hp)⟩,sub.length_le⟩;have hg:bN bg x (gY bg o m)=_:=aiW eV x o h.an9;rw[hg];by_cases e:x=o
 ·rw[if_pos ((sS _ _).2 e)];exact .inr ⟨λe'=>e'.1 e,rfl⟩
 ·rw[if_neg (λhb=>e ((sS _ _).1 hb))];rcases h.get x with⟨h3,h4⟩ | ⟨h3,h4⟩
  ·exact .inl ⟨⟨e,h3⟩,h4⟩
  ·exact .inr ⟨λe'=>h3 e'.2,h4⟩
theorem MZ.ext{m:Wm}{f g:bC->Prop}(h:MZ m f)(e:∀o,f o↔g o):MZ m g:=⟨h.an9,λo=>by rw[<-e o];exact h.get o,h.azS⟩
theorem MZ.aNY:∀(l:List bC) {m:Wm} {f:bC->Prop},MZ m f->(∀o∈l,Lp o)->MZ (l.foldl (λm o=>Hy o m) m) (λx=>x∈l\/f x)/\(l.foldl (λm o=>Hy o m) m).length<=m.length+l.length
 |[],m,f,h,_=>⟨h.ext λo=>by simp,ax _⟩
 |o::l,m,f,h,hq=>by
  obtain⟨h1,h2⟩:=h.want (hq o aI);obtain⟨h3,h4⟩:=MZ.aNY l h1 λx hx=>hq x (aG _ hx)
  rw[bq];refine⟨h3.ext λx=> ?_,by rw[aA];omega⟩;rw[bY];exact⟨λe=>e.elim (λe=> .inl (.inr e)) λe=>e.elim (λe=> .inl (.inl e)) .inr,λe=>e.elim (λe=>e.elim (λe=> .inr (.inl e)) .inl) λe=> .inr (.inr e)⟩
def aw3(a:Ki)(m:Wm):Wm:=if l6 a=5 then Hy a.2.2.2.1 m else m
def aqx(a:Ki):Prop:=a.2.1.length<=4/\Yo a.2.1/\Lp a.2.2.2.1
theorem aIv{nb d:Nat}{bs l bs':List cZ}{K:Nat}(hd:d<=6)(hK:nb - 6<=K)(hl:nb<=bs.length)(e:bs'.take K=bs.take (nb - d)++l):bs'.take (nb - 6)=bs.take (nb - 6):=by
 have h1:(bs'.take K).take (nb - 6)=bs'.take (nb - 6):=by rw[eJ,dU hK]
 rw[<-h1,e,fk (by rw[bp];omega),eJ,dU ak]
theorem aCw{A0:At}{b nb n:Nat}{at':At}{s:List bT}{bs:List cZ}{m:Wm}(h:q9 A0 b nb n at' s bs)(a:Ki)(ha:aqx a)(hb:b+4<=400)(ayU:nb<=900)(hw:WG m)(h6:l6 a<=5):
  ∃nb' n' at2 s' bs',q9 A0 (b+4) nb' n' at2 s' bs'/\nb<=nb'/\nb'<=nb+9/\bs'.take (nb - 6)=bs.take (nb - 6)/\
   ∀ {β:Type} (g:Nat->Nat->At->List bT->List cZ->Wm->Option β),
    (al (dC (a,nb,n,at',s,bs,m)) λx=>aJ x.isLeft (al x.getLeft? λy=>g y.2.1 y.2.2.1 y.2.2.2.1 y.2.2.2.2.1 y.2.2.2.2.2.1 y.2.2.2.2.2.2)
     (al x.getRight? λy=>g y.2.1 y.2.2.2.2.2.2.2.1 y.2.2.2.2.2.2.2.2.1 y.2.2.2.2.2.2.2.2.2.1 y.2.2.2.2.2.2.2.2.2.2 y.2.2.2.2.2.2.1))=g nb' n' at2 s' bs' (aw3 a m):=by
 obtain⟨a4,ht,hq⟩:=ha;obtain⟨g1,g2,g3,g4⟩:=aC8 ht (nb:=nb) ak bs;have hle:nb<=bs.length:=h.ch.1;have gG:=FC (d:=(a,nb,n,at',s,bs,m)) ⟨⟨A0,b,h,by show b+a.2.1.length<=400;omega⟩,ayU,ht,hw⟩;simp only[FB,xt]at gG
 have same:dC (a,nb,n,at',s,bs,m)=some (.inl ([],nb,n,at',s,bs,aw3 a m))->∃nb' n' at2 s' bs',q9 A0 (b+4) nb' n' at2 s' bs'/\nb<=nb'/\nb'<=nb+9/\bs'.take (nb - 6)=bs.take (nb - 6)/\
   ∀ {β:Type} (g:Nat->Nat->At->List bT->List cZ->Wm->Option β),
    (al (dC (a,nb,n,at',s,bs,m)) λx=>aJ x.isLeft (al x.getLeft? λy=>g y.2.1 y.2.2.1 y.2.2.2.1 y.2.2.2.2.1 y.2.2.2.2.2.1 y.2.2.2.2.2.2)
     (al x.getRight? λy=>g y.2.1 y.2.2.2.2.2.2.2.1 y.2.2.2.2.2.2.2.2.1 y.2.2.2.2.2.2.2.2.2.1 y.2.2.2.2.2.2.2.2.2.2 y.2.2.2.2.2.2.1))=g nb' n' at2 s' bs' (aw3 a m):=λe=>
  ⟨nb,n,at',s,bs,h.mono (qj _ _),ax _,qj _ _,rfl,λg=>by rw[e];rfl⟩
 have hM:¬l6 a=5->aw3 a m=m:=λc=>if_neg c
 cases h3:aPl (l6 a) with
 |true=>
  rw[h3]at gG;simp only[bG]at gG;have hv:l6 a < 3:=by unfold aPl qY at h3;simp only[gf,dv]at h3;rcases h3 with h3 | h3 | h3 <;> rw[h3] <;> decide
  have aFe:nth dR (BX a nb bs) 0∈BX a nb bs:=by rw[cd (t:=dR) (show 0 < (BX a nb bs).length by rw[g4 hv];decide)];exact aN _
  have hlen:=apY aFe;rcases h.add (g1 _ aFe) (m':=b+4) ak ak with⟨e,_,e1⟩ | ⟨n',a',s',e1,h2,_⟩
  ·rw[e1]at gG;refine same ?_
   rw[hM ak];exact gG
  ·rw[e1]at gG;refine⟨nb+1,n',a',s',_,h2,qj _ _,ak,?_,λg=> ?_⟩
   ·rw[fk (by rw[bp];omega),eJ,dU ak]
   ·rw[gG,hM ak];rfl
 |false=>
  rw[h3]at gG;simp only[bn,bt]at gG;cases h4:aR8 (l6 a) with
  |true=>
   rw[h4]at gG;simp only[bG]at gG;have hv:¬l6 a=5:=by
    intro e;rw[e]at h4
    revert h4
    decide
   unfold akb at gG;rcases h.aHq a.2.2.1 g1 ak ak with⟨e,_,e1⟩ | ⟨n',a',s',bs',e1,⟨d1,d2,d3,d4⟩,h2,e2⟩
   ·rw[e1]at gG;refine same ?_
    rw[hM hv];exact gG
   ·rw[e1]at gG;refine⟨_,n',a',s',bs',h2.mono ak,ak,ak,aIv (d:=a.2.2.1.toNat) ak ak hle e2,λg=> ?_⟩;rw[gG,hM hv];rfl
  |false=>
   rw[h4]at gG;simp only[bn,bt]at gG;refine same ?_
   rw[gG];unfold aHX aw3;by_cases c5:l6 a=5
   ·rw[if_pos c5,if_pos c5]
   ·rw[if_neg c5,if_neg ak,if_neg ak,if_neg c5]
theorem aIa{o:bC}{nb nb':Nat}{bs bs':List cZ}{x:dw×Int}(e:xL o (bs.take nb) 0=some x)(hx:x.2+6 < nb)(hn:nb<=nb')(hp:bs'.take (nb - 6)=bs.take (nb - 6)):xL o (bs'.take nb') 0=some x:=by
 have h1:=aIb e (k:=nb - 6) ak;rw[eJ,dU ak]at h1;have e2:bs'.take nb'=bs.take (nb - 6)++(bs'.take nb').drop (nb - 6):=by have h:=dq (nb - 6) (bs'.take nb');rw[eJ,dU ak,hp]at h;exact h.symm
 rw[e2,Yj,h1]
def avC(q:bC)(l:List An):List An:=l.filter λe=>Ty.beq bg e.2.1 q
theorem avD(q:bC)(l l':List An):avC q (l++l')=avC q l++avC q l':=List.filter_append _ _
theorem aKP{q:bC}{l:List An}(h:∀e∈l,e.2.1=q):avC q l=l:=iA.2 λe he=>(sS _ _).2 (h e he)
theorem aEI{q o:bC}{l:List An}(h:∀e∈l,e.2.1=o)(hq:¬o=q):avC q l=[]:=List.filter_eq_nil_iff.2 λe he hb=>hq ((h e he).symm.trans ((sS _ _).1 hb))
theorem N8{H:Int}{l:List cZ}{o:bC}{x:ia}:∀e∈(fR H l o x).2,e.2.1=o:=by
 unfold fR;split
 ·intro e he;cases he
 ·intro e he;simp only[bz]at he;rcases he with(he | he) | he
  ·unfold l9 at he;split at he
   ·rw[bk]at he;subst he;rfl
   ·cases he
  ·unfold tY at he;split at he
   ·rw[bk]at he;subst he;rfl
   ·cases he
  ·unfold Bb at he;split at he
   ·rw[bk]at he;subst he;rfl
   ·cases he
theorem azm{H:Int}{l:List cZ}{o:bC}{x:ia}(hx:nU x.2.1)(hv:nU (jC o l).1):∀e∈(fR H l o x).2,nU e.2.2.1:=by
 unfold fR;split
 ·intro e he;cases he
 ·intro e he;simp only[bz]at he;rcases he with(he | he) | he
  ·unfold l9 at he;split at he
   ·rw[bk]at he;subst he;exact hx
   ·cases he
  ·unfold tY at he;split at he
   ·rw[bk]at he;subst he;exact hv
   ·cases he
  ·unfold Bb at he;split at he
   ·rw[bk]at he;subst he;exact hv
   ·cases he
theorem aaN{o:bC}{v:ia}:∀ {m:Wm} {x:ia},bN bg o m=some x->(eG bg o v m).map (·.1)=m.map (·.1)
 |[],x,h=>by rw[qB]at h;cases h
 |p::l,x,h=>by
  rw[fx]at h;rw[pF];split at h
  ·rename_i hb;rw[if_pos hb,bQ,bQ,(sS _ _).1 hb]
  ·rename_i hb;rw[if_neg hb,bQ,bQ,aaN h]
theorem asy{H:Int}{l:List cZ}{S:Wm×List An}{o:bC}{x:ia}(hg:bN bg o S.1=some x):
  (∀q,bN bg q (lookW H l S o).1=if q=o then some (fR H l o x).1 else bN bg q S.1)/\(lookW H l S o).2=S.2++(fR H l o x).2/\(lookW H l S o).1.map (·.1)=S.1.map (·.1):=by
 have hw:nJ o S.1=x:=by unfold nJ;rw[hg];rfl
 unfold lookW;rw[hw];split
 ·rename_i hf;have e:fR H l o x=(x,[]):=by unfold fR;rw[if_pos hf]
  rw[e];refine⟨λq=> ?_,(aZ _).symm,rfl⟩;by_cases hq:q=o
  ·rw[if_pos hq,hq,hg]
  ·rw[if_neg hq]
 ·refine⟨λq=> ?_,rfl,aaN hg⟩;show bN bg q (eG bg o _ S.1)=_;rw[FL eV];by_cases hq:q=o
  ·rw[if_pos ((sS _ _).2 hq),if_pos hq]
  ·rw[if_neg (λh=>hq ((sS _ _).1 h)),if_neg hq]
theorem KN{H:Int}{l:List cZ}:∀(ks:List bC) {S:Wm×List An},ks.Nodup->(∀o∈ks,(bN bg o S.1).isSome=true)->
  (ks.foldl (lookW H l) S).1.map (·.1)=S.1.map (·.1)/\∀q x,bN bg q S.1=some x->bN bg q (ks.foldl (lookW H l) S).1=some (if q∈ks then(fR H l q x).1 else x)/\avC q (ks.foldl (lookW H l) S).2=avC q S.2++(if q∈ks then(fR H l q x).2 else [])
 |[],S,_,_=>⟨rfl,λq x h=>⟨by rw[if_neg (λh=>by cases h)];exact h,by rw[if_neg (λh=>by cases h),aZ];rfl⟩⟩
 |o::ks,S,hn,hs=>by
  obtain⟨aWM,aJz⟩:=cV.1 hn;obtain⟨y,hy⟩:=bO.1 (hs o aI);obtain⟨h1,h2,h3⟩:=asy (H:=H) (l:=l) hy;have hs':∀o'∈ks,(bN bg o' (lookW H l S o).1).isSome=true:=λo' ho'=>by
   rw[h1];split
   ·rfl
   ·exact hs o' (aG _ ho')
  obtain⟨g1,g2⟩:=KN (H:=H) (l:=l) ks aJz hs';rw[bq];refine⟨g1.trans h3,λq x hq=> ?_⟩;by_cases e:q=o
  ·subst e;obtain rfl:y=x:=by rw[hq]at hy;exact(bf hy).symm
   obtain⟨k1,k2⟩:=g2 q (fR H l q y).1 (by rw[h1,if_pos rfl]);rw[if_neg aWM]at k1 k2;rw[k1,k2,if_pos aI,if_pos aI,h2,avD,aKP N8,aZ];exact⟨rfl,rfl⟩
  ·obtain⟨k1,k2⟩:=g2 q x (by rw[h1,if_neg e];exact hq);rw[k1,k2,h2,avD,aEI N8 (λh=>e h.symm),aZ];by_cases hm:q∈ks
   ·rw[if_pos hm,if_pos hm,if_pos (aG _ hm),if_pos (aG _ hm)];exact⟨rfl,rfl⟩
   ·have aTW:¬q∈o::ks:=λh=>by rcases bY.1 h with h | h;exact e h;exact hm h
    rw[if_neg hm,if_neg hm,if_neg aTW,if_neg aTW];exact⟨rfl,rfl⟩
theorem Yl{m:Wm}(hm:WG m):(GQ m).Nodup/\(∀o∈GQ m,(bN bg o m).isSome=true)/\∀q x,bN bg q m=some x->q∈GQ m:=by
 obtain⟨_,hn,hq⟩:=hm;have hp:=UL λp hp=>(hq p hp).1
 refine⟨hp.symm.nodup_iff.1 hn,λo ho=> ?_,λq x hg=> ?_⟩
 ·obtain⟨p,aJA,XY⟩:=cT.1 (hp.mem_iff.1 ho);have:=(jb eV hn (x:=p.1) (v:=p.2)).2 aJA;rw[<-XY,this];rfl
 ·exact hp.mem_iff.2 (cT.2 ⟨(q,x),(jb eV hn).1 hg,rfl⟩)
theorem FR{nb:Nat}{bs:List cZ}{m:Wm}(hm:WG m){q:bC}{x:ia}(hg:bN bg q m=some x):
  bN bg q (fg nb bs m).1=some (fR nb (bs.take nb) q x).1/\avC q (fg nb bs m).2=(fR nb (bs.take nb) q x).2:=by
 obtain⟨h1,h2,h3⟩:=Yl hm;obtain⟨k1,k2⟩:=(KN (H:=nb) (l:=bs.take nb) (GQ m) (S:=(m,[])) h1 h2).2 q x hg;rw[if_pos (h3 q x hg)]at k1 k2;exact⟨k1,k2⟩
theorem aF8{A0:At}{b nb n:Nat}{a:At}{s:List bT}{bs:List cZ}(h:q9 A0 b nb n a s bs)(H:Int):∀(ks:List bC) {S:Wm×List An},(∀p∈S.1,alc p.2)->(∀e∈S.2,nU e.2.2.1)->
  (∀p∈(ks.foldl (lookW H (bs.take nb)) S).1,alc p.2)/\(∀e∈(ks.foldl (lookW H (bs.take nb)) S).2,nU e.2.2.1)/\(ks.foldl (lookW H (bs.take nb)) S).2.length<=S.2.length+3*ks.length
 |[],S,h1,h2=>⟨h1,h2,ax _⟩
 |o::ks,S,h1,h2=>by
  obtain⟨g1,g2⟩:=av4 h H o (m:=S.1) S.2 h1;have g3:∀e∈(lookW H (bs.take nb) S o).2,nU e.2.2.1:=by
   unfold lookW;split
   ·exact h2
   ·intro e he;rcases bz.1 he with he | he
    ·exact h2 e he
    ·exact azm (arZ h1 o).1 (akr h o).1 e he
  obtain⟨k1,k2,k3⟩:=aF8 h H ks (S:=lookW H (bs.take nb) S o) g1 g3;rw[bq,aA];have g2:(lookW H (bs.take nb) S o).2.length<=S.2.length+3:=g2;exact⟨k1,k2,ak⟩
theorem ago{A0:At}{b nb n:Nat}{a:At}{s:List bT}{bs:List cZ}(h:q9 A0 b nb n a s bs){m:Wm}(hm:WG m):
  WG (fg nb bs m).1/\(∀e∈(fg nb bs m).2,nU e.2.2.1)/\(fg nb bs m).2.length<=3000/\(fg nb bs m).1.length=m.length:=by
 obtain⟨h1,h2,h3⟩:=Yl hm;obtain⟨hl,hn,hq⟩:=hm;obtain⟨k1,k2,k3⟩:=aF8 h nb (GQ m) (S:=(m,[])) (λp hp=>(hq p hp).2) (λe he=>by cases he);have ek:=(KN (H:=nb) (l:=bs.take nb) (GQ m) (S:=(m,[])) h1 h2).1;have hlen:(GQ m).length=m.length:=by rw[(UL λp hp=>(hq p hp).1).length_eq,bV]
 have el:(fg nb bs m).1.length=m.length:=by have:=bo ag ek;rw[bV,bV]at this;exact this
 have ek:(fg nb bs m).1.map (·.1)=m.map (·.1):=ek;refine⟨⟨by rw[el];exact hl,by rw[ek];exact hn,λp hp=>⟨?_,k1 p hp⟩⟩,k2,?_,el⟩
 ·have:p.1∈m.map (·.1):=by rw[<-ek];exact cT.2 ⟨p,hp,rfl⟩
  obtain⟨p',aJA,XY⟩:=cT.1 this;rw[<-XY];exact(hq p' aJA).1
 ·have k3:(fg nb bs m).2.length<=0+3*(GQ m).length:=k3;omega
theorem aR9{o:bC}{t:dw}{x:ia}{h:Int}{ok:Bool}{i:Bs}(hf:x.2.2.2.2.1=false):
  (tY o t h ok i (l9 o x h ok i).1).1.2.2.2.2.1=false/\(ok=true->(tY o t h ok i (l9 o x h ok i).1).1.2.2.2.1=h/\(tY o t h ok i (l9 o x h ok i).1).1.1=true):=by
 unfold tY;by_cases c:(ok && !(l9 o x h ok i).1.1)=true
 ·rw[if_pos c];exact⟨rfl,λ_=>⟨rfl,rfl⟩⟩
 ·rw[if_neg c];by_cases g:Ci x h ok i=true
  ·have e:(l9 o x h ok i).1=qa:=by unfold l9;rw[if_pos g]
   rw[e]at c ⊢;exact⟨rfl,λhk=>absurd (by rw[hk];rfl) c⟩
  ·have e:(l9 o x h ok i).1=x:=by unfold l9;rw[if_neg g]
   rw[e]at c ⊢;refine⟨hf,λhk=> ?_⟩;subst hk;have h1:x.1=true:=by
    cases hx:x.1 with
    |true=>rfl
    |false=>rw[hx]at c;exact absurd rfl c
   refine⟨?_,h1⟩;unfold Ci at g;rw[h1]at g;refine Classical.byContradiction λhn=>g ?_
   rw[show A7 h x.2.2.2.1=true from fo (λh=>hn h.symm)];rfl
theorem aaw{H:Int}{l:List cZ}{o:bC}{x:ia}(hf:x.2.2.2.2.1=true):fR H l o x=(x,[]):=if_pos hf
theorem aIc{o:bC}{l:List cZ}(h:(jC o l).2.2=true):xL o l 0=some ((jC o l).1,(jC o l).2.1):=by
 unfold jC at h ⊢;cases e:xL o l 0 with
 |none=>rw[e]at h;cases h
 |some x=>rfl
theorem aP1{o:bC}{l:List cZ}{t:dw}{h:Int}(e:xL o l 0=some (t,h)):jC o l=(t,h,true):=by unfold jC;rw[e]
def aQT(a:Ki):Prop:=(∀t∈a.2.1,nU t)/\Lp a.2.2.2.1
theorem aEQ{outs:List gm}{acts:List Ki}(h:Tk outs acts=true)(ha:∀a∈acts,aQT a):acts.length<=20/\∀a∈acts,aqx a:=by unfold Tk at h;simp only[au,aW,cW]at h;obtain⟨h1,_,h2⟩:=h;refine⟨h2,λa hm=> ?_⟩;have h3:=h1 a hm;unfold Lq at h3;simp only[au,aW,cW]at h3;obtain⟨h3,h4⟩:=h3;refine⟨h3,⟨ak,λt ht=>⟨(ha a hm).1 t ht,?_⟩⟩,(ha a hm).2⟩;have h5:=h4 t ht;unfold ae4 at h5;simp only[au,aW]at h5;omega
def Sy(nb:Nat)(bs:List cZ)(q:bC)(x:ia):Prop:=x.1=(jC q (bs.take nb)).2.2/\x.2.2.2.2.1=((jC q (bs.take nb)).2.2 && qZ ((nb:Int) - (jC q (bs.take nb)).2.1) 6)/\((jC q (bs.take nb)).2.2=true->x.2.2.1=iC (jC q (bs.take nb)).1/\x.2.2.2.1=(jC q (bs.take nb)).2.1/\iC x.2.1=x.2.2.1)
def Ft(nb:Nat)(bs:List cZ)(q:bC)(x:ia):Prop:=(x.1=true->iC x.2.1=x.2.2.1)/\(x.2.2.2.2.1=true->x.1=true/\∃t,xL q (bs.take nb) 0=some (t,x.2.2.2.1)/\iC t=x.2.2.1/\x.2.2.2.1+6 < nb)
theorem Sy.ft{nb:Nat}{bs:List cZ}{q:bC}{x:ia}(h:Sy nb bs q x):Ft nb bs q x:=by obtain⟨h1,h2,h3⟩:=h;refine⟨λhx=>(h3 (by rw[<-h1];exact hx)).2.2,λhf=> ?_⟩;rw[h2,au]at hf;obtain⟨k1,k2,k3⟩:=h3 hf.1;have c2:=hf.2;unfold qZ at c2;have:=of_decide_eq_true c2;refine⟨by rw[h1];exact hf.1,(jC q (bs.take nb)).1,?_,k1.symm,by rw[k2];omega⟩;rw[k2];exact aIc hf.1
theorem Ft.act{nb nb':Nat}{bs bs':List cZ}{q:bC}{x:ia}(h:Ft nb bs q x)(hn:nb<=nb')(hp:bs'.take (nb - 6)=bs.take (nb - 6)):Ft nb' bs' q x:=by refine⟨h.1,λhf=> ?_⟩;obtain⟨h1,t,h2,h3,h4⟩:=h.2 hf;exact⟨h1,t,aIa h2 h4 hn hp,h3,ak⟩
theorem aWc{nb:Nat}{bs:List cZ}{q:bC}:Ft nb bs q qa:=⟨λh=>(by cases h),λh=>(by cases h)⟩
theorem Ft.look{nb:Nat}{bs:List cZ}{q:bC}{x:ia}(h:Ft nb bs q x):Sy nb bs q (fR nb (bs.take nb) q x).1:=by
 cases hf:x.2.2.2.2.1 with
 |true=>
  rw[aaw hf];obtain⟨h1,t,h2,h3,h4⟩:=h.2 hf;unfold Sy;rw[aP1 h2];exact⟨h1,by rw[hf];exact(by rw[cP (by show(nb:Int) - x.2.2.2.1 > 6;omega)];rfl:true=(true && qZ ((nb:Int) - x.2.2.2.1) 6)),λ_=>⟨h3.symm,rfl,h.1 h1⟩⟩
 |false=>
  have hx:=h.1;unfold Sy fR;rw[if_neg (by rw[hf];decide)];obtain⟨t,hh,ok⟩:=jC q (bs.take nb);obtain⟨k1,k2⟩:=aR9 (o:=q) (t:=t) (h:=hh) (ok:=ok) (i:=iC t) hf;have k3:ok=false->(tY q t hh ok (iC t) (l9 q x hh ok (iC t)).1).1.1=false:=by
   intro e;subst e;unfold tY;rw[cH,if_neg (show ¬(false=true) by decide)];unfold l9;by_cases g:Ci x hh false (iC t)=true
   ·rw[if_pos g];rfl
   ·rw[if_neg g];cases h1:x.1 with
    |false=>rfl
    |true=>unfold Ci at g;rw[h1]at g;exact absurd rfl g
  have k4:ok=true->(tY q t hh ok (iC t) (l9 q x hh ok (iC t)).1).1.2.2.1=iC t/\iC (tY q t hh ok (iC t) (l9 q x hh ok (iC t)).1).1.2.1=iC t:=by
   intro e;subst e;unfold tY;by_cases c:(true && !(l9 q x hh true (iC t)).1.1)=true
   ·rw[if_pos c];exact⟨rfl,rfl⟩
   ·rw[if_neg c];by_cases g:Ci x hh true (iC t)=true
    ·rw[show(l9 q x hh true (iC t)).1=qa by unfold l9;rw[if_pos g]]at c;exact absurd rfl c
    ·have e2:(l9 q x hh true (iC t)).1=x:=by unfold l9;rw[if_neg g]
     rw[e2]at c ⊢;have h1:x.1=true:=by
      cases h1:x.1 with
      |true=>rfl
      |false=>rw[h1]at c;exact absurd rfl c
     unfold Ci at g;rw[h1]at g;have e3:Ty.beq tH (iC t) x.2.2.1=true:=by
      cases e3:Ty.beq tH (iC t) x.2.2.1 with
      |true=>rfl
      |false=>
       refine absurd ?_ g
       rw[e3];cases A7 hh x.2.2.2.1 <;> rfl
     have e4:iC t=x.2.2.1:=beq_eq tH _ _ rfl e3;exact⟨e4.symm,(hx h1).trans e4.symm⟩
  have k5:ok=true->(tY q t hh ok (iC t) (l9 q x hh ok (iC t)).1).1.1=true:=λe=>(k2 e).2
  have k6:ok=true->(tY q t hh ok (iC t) (l9 q x hh ok (iC t)).1).1.2.2.2.1=hh:=λe=>(k2 e).1
  generalize (tY q t hh ok (iC t) (l9 q x hh ok (iC t)).1).1=y at k1 k3 k4 k5 k6;have k7:y.1=ok:=by
   cases ok with
   |true=>exact k5 rfl
   |false=>exact k3 rfl
  show(Bb q t hh ok nb y).1.1=ok/\(Bb q t hh ok nb y).1.2.2.2.2.1=(ok && qZ ((nb:Int) - hh) 6)/\(ok=true->(Bb q t hh ok nb y).1.2.2.1=iC t/\(Bb q t hh ok nb y).1.2.2.2.1=hh/\iC (Bb q t hh ok nb y).1.2.1=(Bb q t hh ok nb y).1.2.2.1);unfold Bb;by_cases c:(ok && qZ ((nb:Int) - hh) 6)=true
  ·rw[if_pos c,c];exact⟨k7,rfl,λe=>⟨(k4 e).1,k6 e,(k4 e).2.trans (k4 e).1.symm⟩⟩
  ·rw[if_neg c];rw[Bool.not_eq_true]at c;rw[c];exact⟨k7,k1,λe=>⟨(k4 e).1,k6 e,(k4 e).2.trans (k4 e).1.symm⟩⟩
theorem Sy.quiet{nb:Nat}{bs:List cZ}{q:bC}{x:ia}(h:Sy nb bs q x):(fR nb (bs.take nb) q x).2=[]:=by
 obtain⟨h1,h2,h3⟩:=h;cases hf:x.2.2.2.2.1 with
 |true=>rw[aaw hf]
 |false=>
  rw[hf]at h2;unfold fR;rw[if_neg (by rw[hf];decide)];generalize jC q (bs.take nb)=r at h1 h2 h3 ⊢;obtain⟨t,hh,ok⟩:=r;have h1:x.1=ok:=h1;have h2:false=(ok && qZ ((nb:Int) - hh) 6):=h2;have h3:ok=true->x.2.2.1=iC t/\x.2.2.2.1=hh/\iC x.2.1=x.2.2.1:=h3;have g:¬Ci x hh ok (iC t)=true:=by
   unfold Ci;rw[h1];cases ok with
   |false=>rw[cH];decide
   |true=>
    obtain⟨a1,a2,_⟩:=h3 rfl;rw[dB a2.symm,a1,beq_refl tH (iC t) rfl];decide
  have e1:l9 q x hh ok (iC t)=(x,[]):=if_neg g;have e2:tY q t hh ok (iC t) x=(x,[]):=if_neg (by rw[h1];cases ok <;> decide);have e3:Bb q t hh ok nb x=(x,[]):=if_neg (by rw[<-h2];decide);simp only[e1,e2,e3,aZ]
theorem aSa{nb:Nat}{bs:List cZ}{q:bC}:(fR nb (bs.take nb) q qa).1.2.1=(jC q (bs.take nb)).1:=by
 have hz:(jC q (bs.take nb)).2.2=false->(jC q (bs.take nb)).1=qa.2.1:=by
  unfold jC;cases xL q (bs.take nb) 0 with
  |none=>intro _;rfl
  |some x=>intro h;cases h
 unfold fR;rw[if_neg (by decide)];generalize jC q (bs.take nb)=r at hz ⊢;obtain⟨t,hh,ok⟩:=r;have e1:(l9 q qa hh ok (iC t)).1=qa:=rfl;show(Bb q t hh ok nb (tY q t hh ok (iC t) (l9 q qa hh ok (iC t)).1).1).1.2.1=t;rw[e1];have e3:∀y,(Bb q t hh ok nb y).1.2.1=y.2.1:=λy=>by unfold Bb;split <;> rfl
 rw[e3];cases ok with
 |true=>rfl
 |false=>exact(hz rfl).symm
theorem QV{nb:Nat}{bs:List cZ}{m:Wm}(hm:WG m){q:bC}{x':ia}(h:bN bg q (fg nb bs m).1=some x'):∃x,bN bg q m=some x/\x'=(fR nb (bs.take nb) q x).1:=by
 obtain⟨h1,h2,h3⟩:=Yl hm;cases hg:bN bg q m with
 |some x=>
  rw[(FR (nb:=nb) (bs:=bs) hm hg).1]at h;exact⟨x,rfl,(bf h).symm⟩
 |none=>
  have ek:(fg nb bs m).1.map (·.1)=m.map (·.1):=(KN (H:=nb) (l:=bs.take nb) (GQ m) (S:=(m,[])) h1 h2).1;have hn:((fg nb bs m).1.map (·.1)).Nodup:=by rw[ek];exact hm.2.1
  have:=(get_none eV (o:=q) hn).2 (by rw[ek];exact(get_none eV hm.2.1).1 hg);rw[this]at h;cases h
theorem anQ{H:Int}{l:List cZ}:∀(ks:List bC) {S:Wm×List An},∀e∈(ks.foldl (lookW H l) S).2,e∈S.2\/e.2.1∈ks
 |[],S,e,he=> .inl he
 |o::ks,S,e,he=>by
  rcases anQ ks (S:=lookW H l S o) e he with h | h
  ·unfold lookW at h;split at h
   ·exact .inl h
   ·rcases bz.1 h with h | h
    ·exact .inl h
    ·exact .inr (by rw[N8 e h];exact aI)
  ·exact .inr (aG _ h)
theorem anO{nb:Nat}{bs:List cZ}{m:Wm}(hm:WG m){e:An}(he:e∈(fg nb bs m).2):∃x,bN bg e.2.1 m=some x:=by
 rcases anQ (GQ m) (S:=(m,[])) e he with h | h
 ·cases h
 ·exact bO.1 ((Yl hm).2.1 _ h)
theorem aax{nb:Nat}{bs:List cZ}{m:Wm}(hm:WG m)(h:∀q x,bN bg q m=some x->Sy nb bs q x):(fg nb bs m).2=[]:=by
 cases e:(fg nb bs m).2 with
 |nil=>rfl
 |cons v l=>
  obtain⟨x,hx⟩:=anO hm (e:=v) (by rw[e];exact aI);have h2:=(FR (nb:=nb) (bs:=bs) hm hx).2;rw[(h _ x hx).quiet,e]at h2;unfold avC at h2;rw[List.filter_cons,if_pos ((sS _ _).2 rfl)]at h2;cases h2
abbrev Kc:=(List Ki)×(List bC)×Bool×Int×Nat×Nat×(List (bC×dP))×(List bT)×(List cZ)×(List (bC×ia))×(List (bC×ia))
abbrev WZ:=(List (bC×ia))×(List (bC×ia))
def xg:Kc->WZ->(((List Ki)×(List bC)×Bool×Nat×Nat×(List (bC×dP))×(List bT)×(List cZ))×((List (bC×ia))×(List (bC×ia)))):=λ(M9,rZ,head,i,aaT,F1,n173,Of,Og,TS,TT) y=>((M9,rZ,head,aaT,F1,n173,Of,Og),y)
abbrev Ke:=(List Ki)×(List bC)×Bool×Int×Nat×Nat×(List (bC×dP))×(List bT)×(List cZ)×(List (bC×ia))×(List (bC×ia))
abbrev W0:=Nat×Nat×(List (bC×dP))×(List bT)×(List cZ)×(List (bC×ia))
def rV:Ke->W0->(((List bC)×Bool×(List (bC×ia)))×(Nat×Nat×(List (bC×dP))×(List bT)×(List cZ)×(List (bC×ia)))):=λ(xT,yS,FN,fM,F2,F3,Oh,Oi,Oj,Ol,zG) y=>((yS,FN,zG),y)
abbrev xR:=(List bC)×Bool×Int×Nat×Nat×(List (bC×dP))×(List bT)×(List cZ)×(List (bC×ia))×(List (bC×ia))
def qW:xR->AS:=λ(r9,Ir,G9,F4,F5,F6,F7,F8,F9,Ga)=>⟨([bF,bF,.d (.slice bg) r9]++aP 4 ([.d .bool Ir,eT 173,.ptr (.new 173 5) 0 [] 0,.ptr (.new 173 7) 0 [] 0,bF,bF,.d ti G9]++aP 160 [])),[],(bM 173 [[apW (.pr (.ptr (.new 173 1) 0 [] 0) (.pr (.bA (.new 173 4) 0 [] 0 0 F4) fC)),apW (.pr (.cj (.new 173 2) 0) (.pr (.bA (.new 173 3) 0 [] 0 0 F5) fC)),apW (.mp bg eO F6),apW (.vec 256 cD F7),apW (.vec 48 dR F8),apW (.pr (.cj (.new 173 6) 0) fC),apW (.mp bg j6 F9),apW (.pr (.cj (.new 173 8) 0) fC),apW (.mp bg j6 Ga)]])⟩
def fI:Unit->Exit×AS:=λx=>(.ret,⟨(aP 6 ([.d .bool false]++aP 167 [])),[],(ab 174 [])⟩)
abbrev Sx:=(Bool)×(Nat×Nat×(List (bC×dP))×(List bT)×(List cZ)×(List (bC×ia))×(List (bC×ia)))
def DP:Sx->Exit×AS:=λx=>(.exit 4,⟨(aP 7 ([.d .bool x.1,eT 173,.ptr (.new 173 5) 0 [] 0,.ptr (.new 173 7) 0 [] 0]++aP 163 [])),[],(bM 173 [[apW (.pr (.ptr (.new 173 1) 0 [] 0) (.pr (.bA (.new 173 4) 0 [] 0 0 x.2.1) fC)),apW (.pr (.cj (.new 173 2) 0) (.pr (.bA (.new 173 3) 0 [] 0 0 x.2.2.1) fC)),apW (.mp bg eO x.2.2.2.1),apW (.vec 256 cD x.2.2.2.2.1),apW (.vec 48 dR x.2.2.2.2.2.1),apW (.pr (.cj (.new 173 6) 0) fC),apW (.mp bg j6 x.2.2.2.2.2.2.1),apW (.pr (.cj (.new 173 8) 0) fC),apW (.mp bg j6 x.2.2.2.2.2.2.2)]])⟩)
abbrev Kf:=(Unit)⊕(Sx)
abbrev W3:=(Unit)⊕((Nat×Nat×(List (bC×dP))×(List bT)×(List cZ)×(List (bC×ia))×(List (bC×ia))))
def DQ:Kf->Out (Exit×AS):=λx=> .br x.isLeft (.get x.getLeft? λa=> .ok (fI a)) (.get x.getRight? λb=> .ok (DP b))
def rW:xR->W3->Kf:=λ(r9,Ir,G9,F4,F5,F6,F7,F8,F9,Ga) y=>match y with | .inl y=> .inl y | .inr z=> .inr ((Ir,z))
abbrev aqi:=(List gm)×(List Ki)×(List bC)
abbrev Sw:=Nat×Nat×At×List bT×List cZ×Wm
def adM(a:Ki)(S:Sw):Sw:=((al (dC (a,S.1,S.2.1,S.2.2.1,S.2.2.2.1,S.2.2.2.2.1,S.2.2.2.2.2)) λx=>aJ x.isLeft (al x.getLeft? λy=>some (y.2.1,y.2.2.1,y.2.2.2.1,y.2.2.2.2.1,y.2.2.2.2.2.1,y.2.2.2.2.2.2)) (al x.getRight? λy=>some (y.2.1,y.2.2.2.2.2.2.2.1,y.2.2.2.2.2.2.2.2.1,y.2.2.2.2.2.2.2.2.2.1,y.2.2.2.2.2.2.2.2.2.2,y.2.2.2.2.2.2.1)))).getD S
def aoa(S:Sw)(a:Ki):Sw:=if l6 a < 5 then((adM a S).1,(adM a S).2.1,(adM a S).2.2.1,(adM a S).2.2.2.1,(adM a S).2.2.2.2.1,(fg (adM a S).1 (adM a S).2.2.2.2.1 (adM a S).2.2.2.2.2).1) else S
def K9(cs:List bC)(k:Nat)(S:Sw):Prop:=(∃A0,q9 A0 (4*k) S.1 S.2.1 S.2.2.1 S.2.2.2.1 S.2.2.2.2.1)/\S.1<=9*k/\WG S.2.2.2.2.2/\S.2.2.2.2.2.length<=10/\(∀q∈cs,∃x,bN bg q S.2.2.2.2.2=some x)/\∀q x,bN bg q S.2.2.2.2.2=some x->Sy S.1 S.2.2.2.2.1 q x
theorem K9.step{cs:List bC}{k nb n:Nat}{a:At}{s:List bT}{bs:List cZ}{m:Wm}(h:K9 cs k (nb,n,a,s,bs,m)){x:Ki}(hx:aqx x)(hk:k<=20)(h5:l6 x < 5):
  ∃A0 nb' n' a' s' bs',q9 A0 (4*(k+1)) nb' n' a' s' bs'/\WG m/\aoa (nb,n,a,s,bs,m) x=(nb',n',a',s',bs',(fg nb' bs' m).1)/\K9 cs (k+1) (nb',n',a',s',bs',(fg nb' bs' m).1)/\
   ∀ {β:Type} (g:Nat->Nat->At->List bT->List cZ->Wm->Option β),
    (al (dC (x,nb,n,a,s,bs,m)) λx=>aJ x.isLeft (al x.getLeft? λy=>g y.2.1 y.2.2.1 y.2.2.2.1 y.2.2.2.2.1 y.2.2.2.2.2.1 y.2.2.2.2.2.2)
     (al x.getRight? λy=>g y.2.1 y.2.2.2.2.2.2.2.1 y.2.2.2.2.2.2.2.2.1 y.2.2.2.2.2.2.2.2.2.1 y.2.2.2.2.2.2.2.2.2.2 y.2.2.2.2.2.2.1))=g nb' n' a' s' bs' m:=by
 obtain⟨⟨A0,hc⟩,ayU,hw,hl,ani,aQE⟩:=h;have ayU:nb<=9*k:=ayU;obtain⟨nb',n',a',s',bs',hc',q1,q2,q3,gG⟩:=aCw hc x hx ak ak hw ak;have eM:aw3 x m=m:=if_neg ak;rw[eM]at gG;have eR:adM x (nb,n,a,s,bs,m)=(nb',n',a',s',bs',m):=by
  unfold adM;refine(bo (λz=>Option.getD z (nb,n,a,s,bs,m)) (gG λnb n a s bs m=>some (nb,n,a,s,bs,m))).trans ?_
  rfl
 obtain⟨v1,v2,v3,v4⟩:=ago hc' hw;refine⟨A0,nb',n',a',s',bs',hc',hw,?_,⟨⟨A0,hc'⟩,by show nb'<=9*(k+1);omega,v1,by show(fg nb' bs' m).1.length<=10;rw[v4];exact hl,λq hq=> ?_,λq x' hx'=> ?_⟩,gG⟩
 ·unfold aoa;rw[if_pos h5,eR]
 ·obtain⟨y,hy⟩:=ani q hq;exact⟨_,(FR (nb:=nb') (bs:=bs') hw hy).1⟩
 ·obtain⟨y,hy,rfl⟩:=QV hw hx';exact((aQE q y hy).ft.act q1 q3).look
theorem K9.skip{cs:List bC}{k:Nat}{S:Sw}(h:K9 cs k S):K9 cs (k+1) S:=by obtain⟨⟨A0,hc⟩,ayU,h⟩:=h;exact⟨⟨A0,hc.mono ak⟩,ak,h⟩
theorem K9.next{cs:List bC}{k:Nat}{S:Sw}(h:K9 cs k S){x:Ki}(hx:aqx x)(hk:k<=20):K9 cs (k+1) (aoa S x):=by
 obtain⟨nb,n,a,s,bs,m⟩:=S;by_cases h5:l6 x < 5
 ·obtain⟨A0,nb',n',a',s',bs',_,_,e,h',_⟩:=h.step hx hk h5;rw[e];exact h'
 ·unfold aoa;rw[if_neg h5];exact h.skip
theorem K9.fold{cs:List bC}:∀(l:List Ki) {k:Nat} {S:Sw},K9 cs k S->(∀x∈l,aqx x)->k+l.length<=20->K9 cs (k+l.length) (l.foldl aoa S)
 |[],_,_,h,_,_=>h
 |x::l,k,S,h,hl,hk=>by rw[aA]at hk ⊢;have:=K9.fold l (h.next (hl x aI) ak) (λy hy=>hl y (aG _ hy)) ak;rw[show k+(l.length+1)=k+1+l.length by omega];exact this
theorem MZ.wg{m:Wm}{f:bC->Prop}(h:MZ m f)(hl:m.length<=1000):WG m/\∀q x,bN bg q m=some x->x=qa:=by
 have hz:∀q x,bN bg q m=some x->x=qa:=λq x hx=>by
  rcases h.get q with⟨_,h2⟩ | ⟨_,h2⟩
  ·rw[h2]at hx;exact(bf hx).symm
  ·rw[h2]at hx;cases hx
 refine⟨⟨hl,h.an9,λp hp=>⟨h.azS p hp,?_⟩⟩,hz⟩;rw[hz p.1 p.2 ((jb eV h.an9).2 hp)];exact W4
theorem apG{o:bC}{l:List cZ}(h:(jC o l).2.2=false):jC o l=(ez.zero,0,false):=by
 unfold jC at h ⊢;cases e:xL o l 0 with
 |none=>rfl
 |some x=>rw[e]at h;cases h
theorem awD{nb:Nat}{bs:List cZ}{m:Wm}(hw:WG m){q:bC}{x:ia}(hx:bN bg q m=some x)(hs:Sy nb bs q x):
  ∃u,CU.call (q,m)=some (m,u,(jC q (bs.take nb)).2.1,(jC q (bs.take nb)).2.2)/\nU u/\iC u=iC (jC q (bs.take nb)).1/\(x.2.1=(jC q (bs.take nb)).1->u=(jC q (bs.take nb)).1):=by
 obtain⟨g1,g2⟩:=(hw.2.2 _ ((jb eV hw.2.1).1 hx)).2;have eg:nJ q m=x:=by unfold nJ;rw[hx];rfl
 obtain⟨h1,h2,h3⟩:=hs;have gG:=UO (d:=(q,m)) (by show nU (nJ q m).2.1;rw[eg];exact g1);simp only[K7,Sz,eg]at gG;cases hk:(jC q (bs.take nb)).2.2 with
 |true=>
  obtain⟨k1,k2,k3⟩:=h3 hk;rw[h1,hk,if_pos rfl,OP g1 (g2 (h1.trans hk)),k2]at gG;exact⟨x.2.1,gG,g1,k3.trans k1,id⟩
 |false=>
  rw[h1,hk,if_neg (by decide)]at gG;have e:=apG hk;rw[e];exact⟨qa.2.1,gG,v0,rfl,λ_=>rfl⟩
def ae7:Kc->Prop:=λ(_,coins,_,i,_)=>coins.length<=10/\∃k:Nat,k<=coins.length/\i=k
def CT:Kc->WZ:=λ(_,coins,_,i,_,_,_,_,_,m,m2)=>((coins.drop i.toNat).foldl (λm o=>Hy o m) m,(coins.drop i.toNat).foldl (λm o=>Hy o m) m2)
def ae9:Ke->Prop:=λ(acts,coins,_,i,nb,n,a,s,bs,m,_)=>acts.length<=20/\(∀x∈acts,aqx x)/\∃k:Nat,i=k/\k<=acts.length/\K9 coins k (nb,n,a,s,bs,m)
def xQ:Ke->W0:=λ(acts,_,_,i,nb,n,a,s,bs,m,_)=>(acts.drop i.toNat).foldl aoa (nb,n,a,s,bs,m)
def xh:xR->Prop:=λ(coins,_,i,nb,n,a,s,bs,m,m2)=>coins.length<=10/\aTc nb n a s bs/\WG m/\WG m2/\(∀q∈coins,∃x y,bN bg q m=some x/\bN bg q m2=some y/\Sy nb bs q x/\Sy nb bs q y/\y.2.1=(jC q (bs.take nb)).1)/\∃k:Nat,k<=coins.length/\i=k
def xS:xR->W3:=λ(_,_,_,nb,n,a,s,bs,m,m2)=> .inr (nb,n,a,s,bs,m,m2)
def auP:aqi->Prop:=λ(outs,acts,coins)=>(∀x∈outs,aqy x)/\acts.length<=9223372036854775807/\(∀a∈acts,aQT a)/\∀o∈coins,Lp o
def aJd:aqi->Bool:=λ_=>true
def qV:Ls ae7 xg CT:=rp (λ(M9,rZ,head,i,aaT,F1,n173,Of,Og,TS,TT)=>⟨([bF,.d (.slice Aw) M9,.d (.slice bg) rZ]++aP 4 ([.d .bool head,eT 173,.ptr (.new 173 5) 0 [] 0,.ptr (.new 173 7) 0 [] 0,.d ti i]++aP 162 [])),[],(bM 173 [[apW (.pr (.ptr (.new 173 1) 0 [] 0) (.pr (.bA (.new 173 4) 0 [] 0 0 aaT) fC)),apW (.pr (.cj (.new 173 2) 0) (.pr (.bA (.new 173 3) 0 [] 0 0 F1) fC)),apW (.mp bg eO n173),apW (.vec 256 cD Of),apW (.vec 48 dR Og),apW (.pr (.cj (.new 173 6) 0) fC),apW (.mp bg j6 TS),apW (.pr (.cj (.new 173 8) 0) fC),apW (.mp bg j6 TT)]])⟩) (λx=>(.exit 0,⟨([bF,.d (.slice Aw) x.1.1,.d (.slice bg) x.1.2.1]++aP 4 ([.d .bool x.1.2.2.1,eT 173,.ptr (.new 173 5) 0 [] 0,.ptr (.new 173 7) 0 [] 0]++aP 163 [])),[],(bM 173 [[apW (.pr (.ptr (.new 173 1) 0 [] 0) (.pr (.bA (.new 173 4) 0 [] 0 0 x.1.2.2.2.1) fC)),apW (.pr (.cj (.new 173 2) 0) (.pr (.bA (.new 173 3) 0 [] 0 0 x.1.2.2.2.2.1) fC)),apW (.mp bg eO x.1.2.2.2.2.2.1),apW (.vec 256 cD x.1.2.2.2.2.2.2.1),apW (.vec 48 dR x.1.2.2.2.2.2.2.2),apW (.pr (.cj (.new 173 6) 0) fC),apW (.mp bg j6 x.2.1),apW (.pr (.cj (.new 173 8) 0) fC),apW (.mp bg j6 x.2.2)]])⟩))
def lj:Ls ae9 rV xQ:=rp (λ(xT,yS,FN,fM,F2,F3,Oh,Oi,Oj,Ol,zG)=>⟨([bF,.d (.slice Aw) xT,.d (.slice bg) yS]++aP 4 ([.d .bool FN,eT 173,.ptr (.new 173 5) 0 [] 0,.ptr (.new 173 7) 0 [] 0,bF,.d ti fM]++aP 161 [])),[],(bM 173 [[apW (.pr (.ptr (.new 173 1) 0 [] 0) (.pr (.bA (.new 173 4) 0 [] 0 0 F2) fC)),apW (.pr (.cj (.new 173 2) 0) (.pr (.bA (.new 173 3) 0 [] 0 0 F3) fC)),apW (.mp bg eO Oh),apW (.vec 256 cD Oi),apW (.vec 48 dR Oj),apW (.pr (.cj (.new 173 6) 0) fC),apW (.mp bg j6 Ol),apW (.pr (.cj (.new 173 8) 0) fC),apW (.mp bg j6 zG)]])⟩) (λx=>(.exit 2,⟨([bF,bF,.d (.slice bg) x.1.1]++aP 4 ([.d .bool x.1.2.1,eT 173,.ptr (.new 173 5) 0 [] 0,.ptr (.new 173 7) 0 [] 0]++aP 163 [])),[],(bM 173 [[apW (.pr (.ptr (.new 173 1) 0 [] 0) (.pr (.bA (.new 173 4) 0 [] 0 0 x.2.1) fC)),apW (.pr (.cj (.new 173 2) 0) (.pr (.bA (.new 173 3) 0 [] 0 0 x.2.2.1) fC)),apW (.mp bg eO x.2.2.2.1),apW (.vec 256 cD x.2.2.2.2.1),apW (.vec 48 dR x.2.2.2.2.2.1),apW (.pr (.cj (.new 173 6) 0) fC),apW (.mp bg j6 x.2.2.2.2.2.2),apW (.pr (.cj (.new 173 8) 0) fC),apW (.mp bg j6 x.1.2.2)]])⟩))
def W1:=dz.fv qW xh rW xS DQ
def Kg:xR->Option Kf:=gM W1 qW
def jN:Fs Tryz.prog auP bu aJd:=eN 5 Tryz.f5 (λ(outs,acts,coins)=>([.d (.slice gl) outs,.d (.slice Aw) acts,.d (.slice bg) coins],[])) (λx=>⟨.d .bool x,[],[]⟩) [some (.slice gl),some (.slice Aw),some (.slice bg)] [at9,ame,awU,aEP,adF,Tg,aqg,Zb,aqk,UC,ap3] {loops:=nY [(10,{aV:=[1,2,7,8,9,10,11],sites:=[14,17,20,23,25,26,27,30,59,65,85,88,91,104,114,124,148,150,156,163,170,173],aK1:=some 173}),(15,{aV:=[1,2,7,8,9,10,12],sites:=[14,17,20,23,25,26,27,30,59,65,85,88,91,104,114,124,148,150,156,163,170,173],aK1:=some 173}),(22,{aV:=[2,7,8,9,10,13],sites:=[14,17,20,23,25,26,27,30,59,65,85,88,91,104,114,124,148,150,156,163,170,173],aK1:=some 173})],outs:=nX [(10,{aV:=[1,2,7,8,9,10],sites:=[173]},{aV:=[6]}),(15,{aV:=[2,7,8,9,10],sites:=[173]},{aV:=[6]}),(22,{aV:=[7,8,9,10],sites:=[173]},{aV:=[6]})],fF:=nK [(10,qV.E),(15,lj.E),(22,W1)]}
def W2:= @eC Tryz.prog (jI jN.G) jN.an 0 Tryz.f5 2 _ qW
abbrev Sv:=kP Tryz.prog (jI jN.G) jN.an 0 Tryz.f5 2 qW xh rW xS DQ
theorem ae8:qV.RS:=rL [.d (.slice Aw),.d (.slice bg),.d .bool,.d ti,.n,.n,.d (.slice (.pair bg eO)),.d (.slice cD),.d (.slice dR),.d (.slice (.pair bg j6)),.d (.slice (.pair bg j6))] qV
theorem Kd(M9 rZ head i aaT F1 n173 Of Og TS TT)(kn:K2 R)(kx:K3 R):jN.R 0 qV (M9,rZ,head,i,aaT,F1,n173,Of,Og,TS,TT) kn kx=aJ ((gr i (rZ.length:Int))) (aJ (ed i (rZ.length:Int)) (al (CV.call ((nth bg rZ (ae i)),TS)) λak8=>aJ (ed i (rZ.length:Int)) (al (CV.call ((nth bg rZ (ae i)),TT)) λaJm=>kn (qV.st (M9,rZ,head,(bI .i64 i 1),aaT,F1,n173,Of,Og,ak8,aJm))) none) none) (qV.go kx ((M9,rZ,head,aaT,F1,n173,Of,Og),(TS,TT))):=b8
theorem afa:lj.RS:=rL [.d (.slice Aw),.d (.slice bg),.d .bool,.d ti,.n,.n,.d (.slice (.pair bg eO)),.d (.slice cD),.d (.slice dR),.d (.slice (.pair bg j6)),.d (.slice (.pair bg j6))] lj
theorem BT(xT yS FN fM F2 F3 Oh Oi Oj Ol zG)(kn:K2 R)(kx:K3 R):jN.R 1 lj (xT,yS,FN,fM,F2,F3,Oh,Oi,Oj,Ol,zG) kn kx=aJ ((gr fM (xT.length:Int))) (aJ (ed fM (xT.length:Int)) (aJ (gr (cG .and .i64 (nth Aw xT (ae fM)).1 7) 5) (aJ (ed fM (xT.length:Int)) (al (dC ((nth Aw xT (ae fM)),F2,F3,Oh,Oi,Oj,Ol)) λyr=>aJ yr.isLeft (al yr.getLeft? λauT=>al (yz.call (auT.2.2.2.2.2.2,auT.2.1,auT.2.2.1,auT.2.2.2.1,auT.2.2.2.2.1,auT.2.2.2.2.2.1)) λDR=>kn (lj.st (xT,yS,FN,(bI .i64 fM 1),DR.2.2.1,DR.2.2.2.1,DR.2.2.2.2.1,DR.2.2.2.2.2.1,DR.2.2.2.2.2.2.1,DR.2.1,zG))) (al yr.getRight? λafe=>al (yz.call (afe.2.2.2.2.2.2.1,afe.2.1,afe.2.2.2.2.2.2.2.1,afe.2.2.2.2.2.2.2.2.1,afe.2.2.2.2.2.2.2.2.2.1,afe.2.2.2.2.2.2.2.2.2.2)) λPb=>kn (lj.st (xT,yS,FN,(bI .i64 fM 1),Pb.2.2.1,Pb.2.2.2.1,Pb.2.2.2.2.1,Pb.2.2.2.2.2.1,Pb.2.2.2.2.2.2.1,Pb.2.1,zG)))) none) (kn (lj.st (xT,yS,FN,(bI .i64 fM 1),F2,F3,Oh,Oi,Oj,Ol,zG)))) none) (lj.go kx ((yS,FN,zG),(F2,F3,Oh,Oi,Oj,Ol))):=b8
theorem afb:jf Kg xh rW xS:=mn (jx [.d (.slice bg),.d .bool,.d ti,.n,.n,.d (.slice (.pair bg eO)),.d (.slice cD),.d (.slice dR),.d (.slice (.pair bg j6)),.d (.slice (.pair bg j6))] λ_=>b8)
theorem O9:nq @W2 qW xh rW xS DQ Sv:=oa
theorem Kh(r9:(List bC))(Ir:Bool)(G9:Int)(F4:Nat)(F5:Nat)(F6:(List (bC×dP)))(F7:(List bT))(F8:(List cZ))(F9:(List (bC×ia)))(Ga:(List (bC×ia)))(kn:AS->Option R)(kx:Exit->AS->Option R):W2 (r9,Ir,G9,F4,F5,F6,F7,F8,F9,Ga) kn kx=aJ ((gr G9 (((ag r9):Nat):Int))) (aJ (ed G9 (((ag r9):Nat):Int)) (al (uB.call ((nth bg r9 (ae G9)),F4,F5,F6,F7,F8)) λYm=>aJ (ed G9 (((ag r9):Nat):Int)) (al (CU.call ((nth bg r9 (ae G9)),F9)) λaJr=>aJ (ed G9 (((ag r9):Nat):Int)) (al (CU.call ((nth bg r9 (ae G9)),Ga)) λaNa=>aJ ((!(Ty.beq .bool Ym.2.2.1 aJr.2.2.2))) (kx (fI ()).1 (fI ()).2) (aJ (!(Ty.beq .bool Ym.2.2.1 aNa.2.2.2)) (kx (fI ()).1 (fI ()).2) (aJ (A7 Ym.2.1 aJr.2.2.1) (kx (fI ()).1 (fI ()).2) (aJ (A7 Ym.2.1 aNa.2.2.1) (kx (fI ()).1 (fI ()).2) (al (tid.call Ym.1) λaXx=>al (tid.call aJr.2.1) λaXy=>aJ ((!(Ty.beq tH aXx aXy))) (kx (fI ()).1 (fI ()).2) (al (J6.call (Ym.1,aNa.2.1)) λaNZ=>aJ ((!aNZ)) (kx (fI ()).1 (fI ()).2) (kn (qW (r9,Ir,(bI .i64 G9 (1:Int)),Ym.2.2.2.1,Ym.2.2.2.2.1,Ym.2.2.2.2.2.1,Ym.2.2.2.2.2.2.1,Ym.2.2.2.2.2.2.2,aJr.1,aNa.1))))))))) none) none) none) (kx (DP (Ir,(F4,F5,F6,F7,F8,F9,Ga))).1 (DP (Ir,(F4,F5,F6,F7,F8,F9,Ga))).2):=b8
theorem aBZ(outs acts coins)(k:K1 R):jN.A (outs,acts,coins) k=al (jL.call ()) λx4=>al (Fe outs) λx5=>aJ x5.isLeft (al x5.getLeft? λaXL=>al (UN.call ()) λx9=>al (UN.call ()) λaXK=>al (vo.call (outs,acts)) λaXs=>aJ ((!aXs)) (k (jN.out x4)) (aJ (qZ (coins.length:Int) 10) (k (jN.out x4)) (k (jN.out x4)))) (al x5.getRight? λaU9=>al (UN.call ()) λaXt=>al (UN.call ()) λaXu=>al (vo.call (outs,acts)) λaXv=>aJ ((!aXv)) (k (jN.out x4)) (aJ (qZ (coins.length:Int) 10) (k (jN.out x4)) (al (qV.call (acts,coins,x4,0,0,0,aU9.1,aU9.2.1,aU9.2.2,aXt,aXu)) λaJG=>al (lj.call (aJG.1.1,aJG.1.2.1,aJG.1.2.2.1,0,aJG.1.2.2.2.1,aJG.1.2.2.2.2.1,aJG.1.2.2.2.2.2.1,aJG.1.2.2.2.2.2.2.1,aJG.1.2.2.2.2.2.2.2,aJG.2.1,aJG.2.2)) λaNb=>al (yz.call (aNb.1.2.2,aNb.2.1,aNb.2.2.1,aNb.2.2.2.1,aNb.2.2.2.2.1,aNb.2.2.2.2.2.1)) λaQS=>al (Kg (aNb.1.1,aNb.1.2.1,0,aQS.2.2.1,aQS.2.2.2.1,aQS.2.2.2.2.1,aQS.2.2.2.2.2.1,aQS.2.2.2.2.2.2.1,aNb.2.2.2.2.2.2,aQS.2.1)) λaQf=>aJ aQf.isLeft (al aQf.getLeft? λa134=>k (jN.out false)) (al aQf.getRight? λb135=>aJ (b135.1) (al (yz.call (b135.2.2.2.2.2.2.1,b135.2.1,b135.2.2.1,b135.2.2.2.1,b135.2.2.2.2.1,b135.2.2.2.2.2.1)) λaqm=>aJ ((qY ((aqm.1:Nat):Int) 0)) (al (yz.call (b135.2.2.2.2.2.2.2,aqm.2.2.1,aqm.2.2.2.1,aqm.2.2.2.2.1,aqm.2.2.2.2.2.1,aqm.2.2.2.2.2.2.1)) λaU2=>k (jN.out (qY ((aU2.1:Nat):Int) 0))) (k (jN.out false))) (k (jN.out false)))))):=b8
theorem ak0:(jN.kM 0 qV):=by
 refine(jN.mf 0 qV) (λ(_,coins,_,i,_)=>coins.length - i.toNat) ?_
 rintro⟨acts,coins,head,i,nb,n,a,s,bs,m,m2⟩ ⟨hl,k,hk,rfl⟩;have hl:coins.length<=10:=hl;have hk:k<=coins.length:=hk;by_cases h:k < coins.length
 ·left;have n1:nth bg coins k=coins[k]:=cd (t:=bg) h;have hd:coins.drop k=coins[k]::coins.drop (k+1):=aq h;refine⟨(acts,coins,head,((k+1:Nat):Int),nb,n,a,s,bs,Hy coins[k] m,Hy coins[k] m2),⟨hl,k+1,h,rfl⟩,by simp only[aa];omega,?_,λkn kx=> ?_⟩
  ·simp only[xg,CT,aa,hd,bq]
  ·have c1:ed (k:Int) (coins.length:Int)=true:=bj ak ak;rw[Kd,aU ak,N.mD ak];simp only[aj,c1,aa,n1];rw[EV (d:=(coins[k],m)) trivial,EV (d:=(coins[k],m2)) trivial];rfl
 ·right;obtain rfl:k=coins.length:=ak;intro R kn kx;rw[Kd,aQ ak,ao];simp only[xg,CT,aa,aL,cO]
theorem ak1:(jN.kM 1 lj):=by
 refine(jN.mf 1 lj) (λ(acts,_,_,i,_)=>acts.length - i.toNat) ?_
 rintro⟨acts,coins,head,i,nb,n,a,s,bs,m,m2⟩ ⟨hl,hg,k,rfl,hk,hI⟩;have hl:acts.length<=20:=hl;have hg:∀x∈acts,aqx x:=hg;have hk:k<=acts.length:=hk;have hI:K9 coins k (nb,n,a,s,bs,m):=hI;by_cases h:k < acts.length
 ·left;have n1:nth Aw acts k=acts[k]:=cd (t:=Aw) h;have hd:acts.drop k=acts[k]::acts.drop (k+1):=aq h;have aWy:=hg _ (aN h);have c1:ed (k:Int) (acts.length:Int)=true:=bj ak ak;by_cases h5:l6 acts[k] < 5
  ·obtain⟨A0,nb',n',a',s',bs',hc',hw,hN,hI',gG⟩:=hI.step aWy ak h5;refine⟨(acts,coins,head,((k+1:Nat):Int),nb',n',a',s',bs',(fg nb' bs' m).1,m2),⟨hl,hg,k+1,rfl,h,hI'⟩,by simp only[aa];omega,?_,λkn kx=> ?_⟩
   ·simp only[rV,xQ,aa,hd,bq,hN]
   ·rw[BT,aU ak,N.mD ak];simp only[aj,c1,aa,n1];rw[show cG .and .i64 acts[k].1 7=l6 acts[k] from rfl,aU h5,aj];refine(gG (λnb n a s bs m=>al (yz.call (m,nb,n,a,s,bs)) λz=>kn (lj.st (acts,coins,head,((k+1:Nat):Int),z.2.2.1,z.2.2.2.1,z.2.2.2.2.1,z.2.2.2.2.2.1,z.2.2.2.2.2.2.1,z.2.1,m2)))).trans ?_
    rw[EU (d:=(m,nb',n',a',s',bs')) ⟨⟨A0,_,hc'⟩,hw⟩];rfl
  ·have hN:aoa (nb,n,a,s,bs,m) acts[k]=(nb,n,a,s,bs,m):=if_neg h5;refine⟨(acts,coins,head,((k+1:Nat):Int),nb,n,a,s,bs,m,m2),⟨hl,hg,k+1,rfl,h,hI.skip⟩,by simp only[aa];omega,?_,λkn kx=> ?_⟩
   ·simp only[rV,xQ,aa,hd,bq,hN]
   ·rw[BT,aU ak,N.mD ak];simp only[aj,c1,aa,n1];rw[show cG .and .i64 acts[k].1 7=l6 acts[k] from rfl,aQ ak,ao]
 ·right;obtain rfl:k=acts.length:=ak;intro R kn kx;rw[BT,aQ ak,ao];simp only[rV,xQ,aa,aL,cO]
theorem ak2:Sv:=by
 refine O9 (λ(coins,_,i,_)=>coins.length - i.toNat) ?_
 rintro⟨coins,head,i,nb,n,a,s,bs,m,m2⟩ ⟨hl,hj,hw,ase,hq,k,hk,rfl⟩;obtain⟨A0,b,hc⟩:=id hj;have hl:coins.length<=10:=hl;have hk:k<=coins.length:=hk;by_cases h:k < coins.length
 ·left;have n1:nth bg coins k=coins[k]:=cd (t:=bg) h;obtain⟨x,y,x1,y1,x2,y2,y3⟩:=hq _ (aN h);refine⟨(coins,head,((k+1:Nat):Int),nb,n,a,s,bs,m,m2),⟨hl,hj,hw,ase,hq,k+1,h,rfl⟩,by simp only[aa];omega,rfl,λkn kx=> ?_⟩;have c1:ed (k:Int) (((ag coins:Nat):Int))=true:=bj ak ak;obtain⟨u,u1,u2,u3,_⟩:=awD hw x1 x2;obtain⟨v,v1,v2,_,v4⟩:=awD ase y1 y2;obtain⟨r1,r2,_⟩:=akr hc coins[k];have avO:ahA (jC coins[k] (bs.take nb)).1:=by
   cases hk:(jC coins[k] (bs.take nb)).2.2 with
   |true=>exact apw (r2 hk).1
   |false=>rw[apG hk];exact⟨⟨aK _,λx hx=>(by cases hx)⟩,aK _,λx hx=>(by cases hx)⟩
  rw[Kh,aU ak,N.mD ak];simp only[aj,c1,aa,n1];rw[ahe hc coins[k]];simp only[ah];rw[u1];simp only[ah];rw[v1];simp only[ah];generalize jC coins[k] (bs.take nb)=r at r1 u3 v4 y3 avO ⊢;rw[v4 y3,beq_refl .bool r.2.2 rfl,dB rfl];simp only[cm,ao];rw[GG (d:=r.1) r1];simp only[ah,bu,R6];rw[GG (d:=u) u2];simp only[ah,bu,R6];rw[u3,beq_refl tH (iC r.1) rfl];simp only[cm,ao];rw[aho (d:=(r.1,r.1)) avO];simp only[ah,bu,akN];rw[fY (trivial:True)];rfl
 ·right;obtain rfl:k=coins.length:=ak;refine⟨_,rfl,λkn kx=> ?_⟩;rw[Kh,aQ ak,ao]
theorem aB0:jN.Ok:=by
 rintro⟨outs,acts,coins⟩ ⟨ho,hl,hg,hq⟩;have hq:∀o∈coins,Lp o:=hq;rw[aBZ,apF (d:=()) trivial];simp only[ah,bu,ahc];rw[afC (d:=outs) ho,aqh (d:=()) trivial,ayv (d:=(outs,acts)) hl];simp only[ah,Ko,bu,aJb,bu,aiJ];cases e:ajz outs with
 |none=>
  simp only[D4,oU,aj,mC,ah];cases Tk outs acts with
  |false=>rfl
  |true=>cases qZ (coins.length:Int) 10 <;> rfl
 |some r=>
  simp only[D4,dJ,ao,da,ah];cases hw:Tk outs acts with
  |false=>rfl
  |true=>
   by_cases aNo:coins.length<=10;rotate_left
   ·rw[cm,ao,cP ak];rfl
   obtain⟨aWh,ha⟩:=aEQ hw hg;have z0:MZ [] (λ_=>False):=⟨fW,λo=> .inr ⟨id,rfl⟩,λp hp=>(by cases hp)⟩;obtain⟨z1,l1⟩:=MZ.aNY coins z0 hq;rw[cm,ao,cr ak,ao,ae8 (d:=(acts,coins,true,0,0,0,r,[],[],[],[])) ⟨aNo,0,aK _,rfl⟩];simp only[ah,xg,CT,aX,aD];generalize coins.foldl (λm o=>Hy o m) []=m1 at z1 l1 ⊢;have l1:m1.length<=coins.length:=by simpa using l1
   obtain⟨w1,wz⟩:=z1.wg ak;have agb:∀q∈coins,bN bg q m1=some qa:=λq hq=>by
    rcases z1.get q with⟨_,h2⟩ | ⟨h2,_⟩
    ·exact h2
    ·exact absurd (.inl hq) h2
   have i0:K9 coins 0 (0,0,r,[],[],m1):=⟨⟨r,q9.new (azF ho e).1⟩,aK _,w1,by show m1.length<=10;omega,λq hq=>⟨_,agb q hq⟩,λq x hx=>by
    rw[wz q x hx];exact⟨rfl,rfl,λh=>by cases h⟩⟩
   rw[afa (d:=(acts,coins,true,0,0,0,r,[],[],m1,m1)) ⟨aWh,ha,0,rfl,aK _,i0⟩];simp only[ah,rV,xQ,aX,aD];have hI:=i0.fold acts ha ak;generalize acts.foldl aoa (0,0,r,[],[],m1)=S at hI ⊢;obtain⟨nb,n,a,s,bs,m⟩:=S;obtain⟨⟨A0,hc⟩,ayU,aR3,aRL,ani,aQE⟩:=hI;have hc:q9 A0 (4*(0+acts.length)) nb n a s bs:=hc;have aR3:WG m:=aR3;have aQE:∀q x,bN bg q m=some x->Sy nb bs q x:=aQE;obtain⟨v1,_,v3,_⟩:=ago hc w1;have aRW:∀q x,bN bg q (fg nb bs m1).1=some x->Sy nb bs q x:=λq x hx=>by obtain⟨y,hy,rfl⟩:=QV w1 hx;rw[wz q y hy];exact aWc.look
   rw[EU (d:=(m1,nb,n,a,s,bs)) ⟨⟨A0,_,hc⟩,w1⟩];simp only[ah,bu,K6];rw[afb (d:=(coins,true,0,nb,n,a,s,bs,m,(fg nb bs m1).1)) ⟨aNo,⟨A0,_,hc⟩,aR3,v1,λq hq=>by
    obtain⟨x,hx⟩:=ani q hq;have hy:=(FR (nb:=nb) (bs:=bs) w1 (agb q hq)).1;exact⟨x,_,hx,hy,aQE q x hx,aRW q _ hy,aSa⟩,0,aK _,rfl⟩]
   simp only[ah,rW,xS,dJ,ao,da,aj];rw[EU (d:=(m,nb,n,a,s,bs)) ⟨⟨A0,_,hc⟩,aR3⟩];simp only[ah,bu,K6];rw[aax aR3 aQE,du (show(([]:List An).length:Int)=0 from rfl),aj,EU (d:=((fg nb bs m1).1,nb,n,a,s,bs)) ⟨⟨A0,_,hc⟩,v1⟩];simp only[ah,bu,K6];rw[aax v1 aRW,du (show(([]:List An).length:Int)=0 from rfl)];rfl
theorem auQ:jN.RS:=rE [.d (.slice gl),.d (.slice Aw),.d (.slice bg)] jN
def aB1:=jN.eU aB0 3 ⟨.fv ak0,⟨.fv ak1,⟨.fv ak2,trivial⟩⟩⟩
end Go.Ab
end
