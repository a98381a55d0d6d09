/-
  Made short by a program of mine (wip/tools/mini.py).
-/
import Derived.Test.YtodfaneojnkngaaGreatS26x5
set_option linter.unusedVariables false
set_option linter.unusedSimpArgs false
set_option maxRecDepth 100000
set_option synthInstance.maxSize 5000
open Int renaming toNat->ae
open List renaming length->ag,replicate->ab,take->aR,drop->bS
open Sum renaming getLeft?->cR
noncomputable section
namespace Go.Ab
open Go.Proofs
def Tr(o:bu):List dD->Option dD
 |[]=>none
 |t::l=>if(dM t).any (aoT o)=true then some t else Tr o l
def A5(o:bu):List dv->Int->Option (dD×Int)
 |[],_=>none
 |b::l,i=>match Tr o b.2.2.1 with | some t=>some (ao1 t,i+1) | none=>A5 o l (i+1)
theorem aof(t:dD):(dM t).length<=64:=by
 unfold dM;split
 ·rename_i h;rw[bZ];exact(jv h).1.2.1
 ·simp
abbrev IW:=Int×dD×bu×bu×(Int×Unit)×Int×Bool
noncomputable def Tt:IW->SA:=λ(t13,t14,o,or,o1bb,o2,o3)=>(([.yl (.bj 0) 0,.d ti t13,.d eJ t14,bB,bB,bB,.dO aW o,.ptr (.bj 1) 0 [] 0,.ptr (.bj 2) 0 [] 0,.ptr (.bj 3) 0 [] 0]++aQ 21 []),[.obj 0 false (.qZ (qG Tryz.prog 4294967824) (lZ ([bB,bB,bB,.dO aW or,.ptr (.bj 1) 0 [] 0,.ptr (.bj 2) 0 [] 0,.ptr (.bj 3) 0 [] 0]++aQ 21 [])) 0),.obj 0 false (.pr (.cX) (.pr (.cX) (.d (.pair ti .unit) o1bb))),.obj 0 false (.d ti o2),.obj 0 false (.d .bool o3)])
abbrev abg:=((bu×Int)×(dD))⊕(bu×(Int×Unit)×Int×Bool)
noncomputable def FB:abg->fA:=λx=>match x with | .inl x=>⟨.d .bool false,[.obj 0 false (.qZ (qG Tryz.prog 4294967824) (lZ ([bB,bB,bB,.dO aW x.1.1,.ptr (.bj 1) 0 [] 0,.ptr (.bj 2) 0 [] 0,.ptr (.bj 3) 0 [] 0]++aQ 21 [])) 2),.obj 0 false (.d eJ x.2),.obj 0 false (.d ti x.1.2),.obj 0 false (.d .bool true)],[]⟩ | .inr x=>⟨.d .bool true,[.obj 0 false (.qZ (qG Tryz.prog 4294967824) (lZ ([bB,bB,bB,.dO aW x.1,.ptr (.bj 1) 0 [] 0,.ptr (.bj 2) 0 [] 0,.ptr (.bj 3) 0 [] 0]++aQ 21 [])) 0),.obj 0 false (.pr (.cX) (.pr (.cX) (.d (.pair ti .unit) x.2.1))),.obj 0 false (.d ti x.2.2.1),.obj 0 false (.d .bool x.2.2.2)],[]⟩
def A4:IW->((dD)⊕(Unit))->abg:=λ(t13,t14,o,or,o1bb,o2,o3) y=>match y with | .inl y=> .inl ((or,t13),y) | .inr y=> .inr (or,o1bb,o2,o3)
def NF:IW->Prop:=λ(_,t,_)=>qv t
def D9:IW->((dD)⊕(Unit)):=λ(_,t,o,_)=>if(dM t).any (aoT o)=true then .inl (ao1 t) else .inr ()
def aGv:ot:=kj (P:=Tryz.prog) [abW,amP,Tz,abQ]
def azx:wQ:= {lp:=some 4294967824}
def aod:= @G4 Tryz.prog aGv azx 0 (aLx Tryz.prog 4294967824) _ Tt
abbrev azw:=agp @aod NF A4 D9 FB
theorem azy{R:Type}(t13:Int)(t14:dD)(o:bu)(or:bu)(o1bb:(Int×Unit))(o2:Int)(o3:Bool)(k:fA->Option R):aod (t13,t14,o,or,o1bb,o2,o3) k=al (rN.call t14) λx1=>al (U1.call (x1,o)) λx2=>aH (x2) (al (qI.call t14) λx3=>al (ko.call x3) λx4=>k (FB (.inl ((or,t13),x4.1)))) (k (FB (.inr (or,o1bb,o2,o3)))):=bX
theorem azz:azw:=by
 rintro⟨h,t,o,o',o1,o2,o3⟩ hv;have hv:qv t:=hv;rw[azy,VM (d:=t) hv.1];simp only[ah,bn,J4];rw[afs (d:=(dM t,o)) (by show(dM t).length<=_;have:=aof t;omega)];simp only[ah,bn,auE,D9];by_cases he:(dM t).any (aoT o)=true
 ·rw[if_pos he,he,aj,NI (d:=t) hv];simp only[ah,bn,I0];rw[TA (d:=as7 t) ⟨(zS hv).1,by show(as7 t).length<=_;have:=(zS hv).2;omega⟩];rfl
 ·have he':(dM t).any (aoT o)=false:=by simpa using he
  rw[if_neg he,he',ao];rfl
def aoe:=Entry.ac1 [none,none,none,none,none,none,none,none,none,none,none,none,none,none,none,none,none,none,none,none,none,none,none,none,none,none,none,none,none,none,none] Tt NF A4 D9 FB
def Vw:IW->Option abg:=Kv aoe Tt
theorem asD:jf Vw NF A4 D9:=aaY (VZ [.d ti,.d eJ,.d aW,.d aW,.d (.pair ti .unit),.d ti,.d .bool] λ_=>bX)
def azA:SG Tryz.prog:=⟨4294967824,lQ,aoe,.aUe (F0.fn 0 bX azz trivial (by rfl)).aMh (by rfl)⟩
abbrev Dl:=Nat×Int×Int×bu×(Int×Unit)×Int×Bool×Nat×Nat×(List (bu×dS))×(List bY)×(List dv)
noncomputable def u7:Dl->AS:=λ(Tw,t11,t12,o0,o1,ee,Kg,o5L,o6L,are,arf,ac6)=>⟨([.yl (.bj 0) 0]++aQ 9 ([.bz (.bj 9) 0 [] 0 0 Tw,.d ti t11,.d ti t12]++aQ 19 [])),[.obj 0 false (.qZ (qG Tryz.prog 4294967824) (lZ ([bB,bB,bB,.dO aW o0,.ptr (.bj 1) 0 [] 0,.ptr (.bj 2) 0 [] 0,.ptr (.bj 3) 0 [] 0]++aQ 21 [])) 0),.obj 0 false (.pr (.cX) (.pr (.cX) (.d (.pair ti .unit) o1))),.obj 0 false (.d ti ee),.obj 0 false (.d .bool Kg),.obj 0 false (.ptr (.bj 5) 0 [] 0),.obj 0 false (.pr (.ptr (.bj 6) 0 [] 0) (.pr (.bz (.bj 9) 0 [] 0 0 o5L) fN)),.obj 0 false (.pr (.cq (.bj 7) 0) (.pr (.bz (.bj 8) 0 [] 0 0 o6L) fN)),.obj 0 false (.mp aW eU are),.obj 0 false (.vec 256 cE arf),.obj 0 false (.vec 48 dW ac6)],(ab 32 [])⟩
abbrev Xe:=bu×dD×Int×Nat×Nat×(List (bu×dS))×(List bY)×(List dv)
noncomputable def Bt:Xe->Exit×AS:=λx=>(.ret,⟨(aQ 32 []),[.obj 0 false (.qZ (qG Tryz.prog 4294967824) (lZ ([bB,bB,bB,.dO aW x.1,.ptr (.bj 1) 0 [] 0,.ptr (.bj 2) 0 [] 0,.ptr (.bj 3) 0 [] 0]++aQ 21 [])) 2),.obj 0 false (.d eJ x.2.1),.obj 0 false (.d ti x.2.2.1),.obj 0 false (.d .bool true),.obj 0 false (.ptr (.bj 5) 0 [] 0),.obj 0 false (.pr (.ptr (.bj 6) 0 [] 0) (.pr (.bz (.bj 9) 0 [] 0 0 x.2.2.2.1) fN)),.obj 0 false (.pr (.cq (.bj 7) 0) (.pr (.bz (.bj 8) 0 [] 0 0 x.2.2.2.2.1) fN)),.obj 0 false (.mp aW eU x.2.2.2.2.2.1),.obj 0 false (.vec 256 cE x.2.2.2.2.2.2.1),.obj 0 false (.vec 48 dW x.2.2.2.2.2.2.2)],(ab 32 [])⟩)
abbrev Xf:=bu×(Int×Unit)×Int×Bool×Nat×Nat×(List (bu×dS))×(List bY)×(List dv)
noncomputable def Bu:Xf->Exit×AS:=λx=>(.exit 0,⟨(aQ 32 []),[.obj 0 false (.qZ (qG Tryz.prog 4294967824) (lZ ([bB,bB,bB,.dO aW x.1,.ptr (.bj 1) 0 [] 0,.ptr (.bj 2) 0 [] 0,.ptr (.bj 3) 0 [] 0]++aQ 21 [])) 0),.obj 0 false (.pr (.cX) (.pr (.cX) (.d (.pair ti .unit) x.2.1))),.obj 0 false (.d ti x.2.2.1),.obj 0 false (.d .bool x.2.2.2.1),.obj 0 false (.ptr (.bj 5) 0 [] 0),.obj 0 false (.pr (.ptr (.bj 6) 0 [] 0) (.pr (.bz (.bj 9) 0 [] 0 0 x.2.2.2.2.1) fN)),.obj 0 false (.pr (.cq (.bj 7) 0) (.pr (.bz (.bj 8) 0 [] 0 0 x.2.2.2.2.2.1) fN)),.obj 0 false (.mp aW eU x.2.2.2.2.2.2.1),.obj 0 false (.vec 256 cE x.2.2.2.2.2.2.2.1),.obj 0 false (.vec 48 dW x.2.2.2.2.2.2.2.2)],(ab 32 [])⟩)
abbrev RA:=(Xe)⊕(Xf)
abbrev ad9:=((bu×dD×Int×Nat×Nat×(List (bu×dS))×(List bY)×(List dv)))⊕((bu×(Int×Unit)×Int×Bool×Nat×Nat×(List (bu×dS))×(List bY)×(List dv)))
def G7:RA->Out (Exit×AS):=λx=> .br x.isLeft (.get x.getLeft? λa=> .ok (Bt a)) (.get x.getRight? λb=> .ok (Bu b))
def oz:Dl->ad9->RA:=λ(Tw,t11,t12,o0,o1,ee,Kg,o5L,o6L,are,arf,ac6) y=>match y with | .inl y=> .inl y | .inr z=> .inr (z)
abbrev Dm:=Int×Nat×Int×Int×(List dD)×Int×Int×bu×(Int×Unit)×Int×Bool×Nat×Nat×(List (bu×dS))×(List bY)×(List dv)
noncomputable def u9:Dm->AS:=λ(i,IZ,Vz,VA,t18,t19,t20,Bq,dQ,jN,Fb,H2,H3,ZU,ZV,ZW)=>⟨([.yl (.bj 0) 0,bB,bB,.d ti i]++aQ 6 ([.bz (.bj 9) 0 [] 0 0 IZ,.d ti Vz,.d ti VA]++aQ 5 ([.d (.slice eJ) t18,.d ti t19,.d ti t20]++aQ 11 []))),[.obj 0 false (.qZ (qG Tryz.prog 4294967824) (lZ ([bB,bB,bB,.dO aW Bq,.ptr (.bj 1) 0 [] 0,.ptr (.bj 2) 0 [] 0,.ptr (.bj 3) 0 [] 0]++aQ 21 [])) 0),.obj 0 false (.pr (.cX) (.pr (.cX) (.d (.pair ti .unit) dQ))),.obj 0 false (.d ti jN),.obj 0 false (.d .bool Fb),.obj 0 false (.ptr (.bj 5) 0 [] 0),.obj 0 false (.pr (.ptr (.bj 6) 0 [] 0) (.pr (.bz (.bj 9) 0 [] 0 0 H2) fN)),.obj 0 false (.pr (.cq (.bj 7) 0) (.pr (.bz (.bj 8) 0 [] 0 0 H3) fN)),.obj 0 false (.mp aW eU ZU),.obj 0 false (.vec 256 cE ZV),.obj 0 false (.vec 48 dW ZW)],(ab 32 [])⟩
abbrev Xh:=(Nat×Nat×(List (bu×dS))×(List bY)×(List dv))×(bu×dD×Int)
noncomputable def Bw:Xh->Exit×AS:=λx=>(.ret,⟨(aQ 32 []),[.obj 0 false (.qZ (qG Tryz.prog 4294967824) (lZ ([bB,bB,bB,.dO aW x.2.1,.ptr (.bj 1) 0 [] 0,.ptr (.bj 2) 0 [] 0,.ptr (.bj 3) 0 [] 0]++aQ 21 [])) 2),.obj 0 false (.d eJ x.2.2.1),.obj 0 false (.d ti x.2.2.2),.obj 0 false (.d .bool true),.obj 0 false (.ptr (.bj 5) 0 [] 0),.obj 0 false (.pr (.ptr (.bj 6) 0 [] 0) (.pr (.bz (.bj 9) 0 [] 0 0 x.1.1) fN)),.obj 0 false (.pr (.cq (.bj 7) 0) (.pr (.bz (.bj 8) 0 [] 0 0 x.1.2.1) fN)),.obj 0 false (.mp aW eU x.1.2.2.1),.obj 0 false (.vec 256 cE x.1.2.2.2.1),.obj 0 false (.vec 48 dW x.1.2.2.2.2)],(ab 32 [])⟩)
abbrev Xi:=(Nat×Int×Int×Nat×Nat×(List (bu×dS))×(List bY)×(List dv))×(bu×(Int×Unit)×Int×Bool)
noncomputable def Bx:Xi->Exit×AS:=λx=>(.exit 2,⟨([.yl (.bj 0) 0]++aQ 9 ([.bz (.bj 9) 0 [] 0 0 x.1.1,.d ti x.1.2.1,.d ti x.1.2.2.1]++aQ 19 [])),[.obj 0 false (.qZ (qG Tryz.prog 4294967824) (lZ ([bB,bB,bB,.dO aW x.2.1,.ptr (.bj 1) 0 [] 0,.ptr (.bj 2) 0 [] 0,.ptr (.bj 3) 0 [] 0]++aQ 21 [])) 0),.obj 0 false (.pr (.cX) (.pr (.cX) (.d (.pair ti .unit) x.2.2.1))),.obj 0 false (.d ti x.2.2.2.1),.obj 0 false (.d .bool x.2.2.2.2),.obj 0 false (.ptr (.bj 5) 0 [] 0),.obj 0 false (.pr (.ptr (.bj 6) 0 [] 0) (.pr (.bz (.bj 9) 0 [] 0 0 x.1.2.2.2.1) fN)),.obj 0 false (.pr (.cq (.bj 7) 0) (.pr (.bz (.bj 8) 0 [] 0 0 x.1.2.2.2.2.1) fN)),.obj 0 false (.mp aW eU x.1.2.2.2.2.2.1),.obj 0 false (.vec 256 cE x.1.2.2.2.2.2.2.1),.obj 0 false (.vec 48 dW x.1.2.2.2.2.2.2.2)],(ab 32 [])⟩)
abbrev RC:=(Xh)⊕(Xi)
abbrev aec:=((bu×dD×Int))⊕((bu×(Int×Unit)×Int×Bool))
def G8:RC->Out (Exit×AS):=λx=> .br x.isLeft (.get x.getLeft? λa=> .ok (Bw a)) (.get x.getRight? λb=> .ok (Bx b))
def kH:Dm->aec->RC:=λ(i,IZ,Vz,VA,t18,t19,t20,Bq,dQ,jN,Fb,H2,H3,ZU,ZV,ZW) y=>match y with | .inl y=> .inl ((H2,H3,ZU,ZV,ZW),y) | .inr z=> .inr (((IZ,Vz,VA,H2,H3,ZU,ZV,ZW),z))
abbrev Xa:=bu×(Int×Unit)×Int×Bool×Nat×Nat×(List (bu×dS))×(List bY)×(List dv)
noncomputable def agv:Xa->SA:=λ(ir,o1bb,o2,o3,o5baL,o6baL,o7,o8,o9)=>([.yl (.bj 0) 0,.ptr (.bj 4) 0 [] 0],[.obj 0 false (.qZ (qG Tryz.prog 4294967824) (lZ ([bB,bB,bB,.dO aW ir,.ptr (.bj 1) 0 [] 0,.ptr (.bj 2) 0 [] 0,.ptr (.bj 3) 0 [] 0]++aQ 21 [])) 0),.obj 0 false (.pr (.cX) (.pr (.cX) (.d (.pair ti .unit) o1bb))),.obj 0 false (.d ti o2),.obj 0 false (.d .bool o3),.obj 0 false (.ptr (.bj 5) 0 [] 0),.obj 0 false (.pr (.ptr (.bj 6) 0 [] 0) (.pr (.bz (.bj 9) 0 [] 0 0 o5baL) fN)),.obj 0 false (.pr (.cq (.bj 7) 0) (.pr (.bz (.bj 8) 0 [] 0 0 o6baL) fN)),.obj 0 false (.mp aW eU o7),.obj 0 false (.vec 256 cE o8),.obj 0 false (.vec 48 dW o9)])
abbrev aAX:=(bu×dD×Int×Nat×Nat×(List (bu×dS))×(List bY)×(List dv))⊕(bu×(Int×Unit)×Int×Bool×Nat×Nat×(List (bu×dS))×(List bY)×(List dv))
abbrev apa:=(bu×dD×Int×Nat×Nat×(List (bu×dS))×(List bY)×(List dv))⊕(bu×(Int×Unit)×Int×Bool×Nat×Nat×(List (bu×dS))×(List bY)×(List dv))
noncomputable def Oa:apa->fA:=λx=>match x with | .inl x=>⟨.nil,[.obj 0 false (.qZ (qG Tryz.prog 4294967824) (lZ ([bB,bB,bB,.dO aW x.1,.ptr (.bj 1) 0 [] 0,.ptr (.bj 2) 0 [] 0,.ptr (.bj 3) 0 [] 0]++aQ 21 [])) 2),.obj 0 false (.d eJ x.2.1),.obj 0 false (.d ti x.2.2.1),.obj 0 false (.d .bool true),.obj 0 false (.ptr (.bj 5) 0 [] 0),.obj 0 false (.pr (.ptr (.bj 6) 0 [] 0) (.pr (.bz (.bj 9) 0 [] 0 0 x.2.2.2.1) fN)),.obj 0 false (.pr (.cq (.bj 7) 0) (.pr (.bz (.bj 8) 0 [] 0 0 x.2.2.2.2.1) fN)),.obj 0 false (.mp aW eU x.2.2.2.2.2.1),.obj 0 false (.vec 256 cE x.2.2.2.2.2.2.1),.obj 0 false (.vec 48 dW x.2.2.2.2.2.2.2)],[]⟩ | .inr x=>⟨.nil,[.obj 0 false (.qZ (qG Tryz.prog 4294967824) (lZ ([bB,bB,bB,.dO aW x.1,.ptr (.bj 1) 0 [] 0,.ptr (.bj 2) 0 [] 0,.ptr (.bj 3) 0 [] 0]++aQ 21 [])) 0),.obj 0 false (.pr (.cX) (.pr (.cX) (.d (.pair ti .unit) x.2.1))),.obj 0 false (.d ti x.2.2.1),.obj 0 false (.d .bool x.2.2.2.1),.obj 0 false (.ptr (.bj 5) 0 [] 0),.obj 0 false (.pr (.ptr (.bj 6) 0 [] 0) (.pr (.bz (.bj 9) 0 [] 0 0 x.2.2.2.2.1) fN)),.obj 0 false (.pr (.cq (.bj 7) 0) (.pr (.bz (.bj 8) 0 [] 0 0 x.2.2.2.2.2.1) fN)),.obj 0 false (.mp aW eU x.2.2.2.2.2.2.1),.obj 0 false (.vec 256 cE x.2.2.2.2.2.2.2.1),.obj 0 false (.vec 48 dW x.2.2.2.2.2.2.2.2)],[]⟩
def Xk:Xa->aAX->apa:=λ(ir,o1bb,o2,o3,o5baL,o6baL,o7,o8,o9) y=>match y with | .inl y=> .inl y | .inr y=> .inr y
def Bv:Dm->Prop:=λ(i,_,_,_,l,n,j,_)=>(0<=i/\i<=1000000)/\l.length<=1000000/\(∀t∈l,qv t)/\n=(l.length:Int)/\∃k:Nat,k<=l.length/\j=k
def pQ:Dm->aec:=λ(i,_,_,_,l,_,j,o,o1,o2,o3,_)=>match Tr o (l.drop j.toNat) with | some t=> .inl (o,ao1 t,i+1) | none=> .inr (o,o1,o2,o3)
def Br:Dl->Prop:=λ(nb,n,i,_,_,_,_,_,_,_,_,bs)=>aoR nb bs/\n=(nb:Int)/\∃k:Nat,k<=nb/\i=k
def sx:Dl->ad9:=λ(nb,_,i,o,o1,o2,o3,o4,o5,m,st,bs)=>match A5 o ((bs.take nb).drop i.toNat) i with
 |some x=> .inl (o,x.1,x.2,o4,o5,m,st,bs)
 |none=> .inr (o,o1,o2,o3,o4,o5,m,st,bs)
def Xj:Xa->Prop:=λ(_,_,_,_,nb,_,_,_,bs)=>aoR nb bs
def Xb:Xa->aAX:=λ(o,o1,o2,o3,nb,o5,m,st,bs)=>match A5 o (bs.take nb) 0 with
 |some x=> .inl (o,x.1,x.2,nb,o5,m,st,bs)
 |none=> .inr (o,o1,o2,o3,nb,o5,m,st,bs)
def Xc:ot:=kj (P:=Tryz.prog) [azA]
def ad7:=dC.fp u7 Br oz sx G7
def N7:Dl->Option RA:=gS ad7 u7
def aea:=dC.fp u9 Bv kH pQ G8
def N8:Dm->Option RC:=gS aea u9
def N9:wQ:= {loops:=nF [(1,{aV:=[0,10,11,12]}),(4,{aV:=[0,3,10,11,12,18,19,20]})],outs:=nE [(1,{},{}),(4,{aV:=[0,10,11,12]},{})],fw:=nr [(1,ad7),(4,aea)]}
def aAV:= @G4 Tryz.prog Xc N9 0 Tryz.f117 _ agv
abbrev aH2:=agp @aAV Xj Xk Xb Oa
def ad8:= @eG Tryz.prog Xc N9 0 Tryz.f117 0 _ u7
abbrev Xd:=lz Tryz.prog Xc N9 0 Tryz.f117 0 u7 Br oz sx G7
def aeb:= @eG Tryz.prog Xc N9 0 Tryz.f117 1 _ u9
abbrev Xg:=lz Tryz.prog Xc N9 0 Tryz.f117 1 u9 Bv kH pQ G8
theorem aj3:jf N7 Br oz sx:=nf (jM [.n,.d ti,.d ti,.d aW,.d (.pair ti .unit),.d ti,.d .bool,.n,.n,.d (.slice (.pair aW eU)),.d (.slice cE),.d (.slice dW)] λ_=>bX)
theorem RB:om @ad8 u7 Br oz sx G7 Xd:=oE
theorem Ei{R:Type}(Tw:Nat)(t11:Int)(t12:Int)(o0:bu)(o1:(Int×Unit))(ee:Int)(Kg:Bool)(o5L:Nat)(o6L:Nat)(are:(List (bu×dS)))(arf:(List bY))(ac6:(List dv))(kn:AS->Option R)(kx:Exit->AS->Option R):ad8 (Tw,t11,t12,o0,o1,ee,Kg,o5L,o6L,are,arf,ac6) kn kx=aH ((fR t12 t11)) (aH (eg t12 ((Tw:Nat):Int)) (aH (decide ((0+(ae t12)) < (ag ac6))) (aH (decide ((((0+(ae t12))*36)+0)=(0+((ae t12)*36)))) (al (N8 (t12,Tw,t11,t12,(nth dW ac6 (0+(ae t12))).2.2.1,(((ag (nth dW ac6 (0+(ae t12))).2.2.1):Nat):Int),(0:Int),o0,o1,ee,Kg,o5L,o6L,are,arf,ac6)) λx1=>aH (x1.isLeft) (al (x1.getLeft?) λa2=>kx (Bt (a2.2.1,a2.2.2.1,a2.2.2.2,a2.1.1,a2.1.2.1,a2.1.2.2.1,a2.1.2.2.2.1,a2.1.2.2.2.2)).1 (Bt (a2.2.1,a2.2.2.1,a2.2.2.2,a2.1.1,a2.1.2.1,a2.1.2.2.1,a2.1.2.2.2.1,a2.1.2.2.2.2)).2) (al (x1.getRight?) λb3=>kn (u7 (b3.1.1,b3.1.2.1,(bI .i64 b3.1.2.2.1 (1:Int)),b3.2.1,b3.2.2.1,b3.2.2.2.1,b3.2.2.2.2,b3.1.2.2.2.1,b3.1.2.2.2.2.1,b3.1.2.2.2.2.2.1,b3.1.2.2.2.2.2.2.1,b3.1.2.2.2.2.2.2.2)))) none) none) none) (kx (Bu (o0,o1,ee,Kg,o5L,o6L,are,arf,ac6)).1 (Bu (o0,o1,ee,Kg,o5L,o6L,are,arf,ac6)).2):=bX
theorem aj4:jf N8 Bv kH pQ:=nf (jM [.d ti,.n,.d ti,.d ti,.d (.slice eJ),.d ti,.d ti,.d aW,.d (.pair ti .unit),.d ti,.d .bool,.n,.n,.d (.slice (.pair aW eU)),.d (.slice cE),.d (.slice dW)] λ_=>bX)
theorem RD:om @aeb u9 Bv kH pQ G8 Xg:=oE
theorem Ej{R:Type}(i:Int)(IZ:Nat)(Vz:Int)(VA:Int)(t18:(List dD))(t19:Int)(t20:Int)(Bq:bu)(dQ:(Int×Unit))(jN:Int)(Fb:Bool)(H2:Nat)(H3:Nat)(ZU:(List (bu×dS)))(ZV:(List bY))(ZW:(List dv))(kn:AS->Option R)(kx:Exit->AS->Option R):aeb (i,IZ,Vz,VA,t18,t19,t20,Bq,dQ,jN,Fb,H2,H3,ZU,ZV,ZW) kn kx=aH ((fR t20 t19)) (aH (eg t20 (((ag t18):Nat):Int)) (same (qG Tryz.prog 4294967824) (qG Tryz.prog 4294967824) (al (Vw ((bI .i64 i (1:Int)),(nth eJ t18 (ae t20)),Bq,Bq,dQ,jN,Fb)) λx1=>aH (x1.isLeft) (al (x1.getLeft?) λaHG=>kx (Bw ((H2,H3,ZU,ZV,ZW),(aHG.1.1,aHG.2,aHG.1.2))).1 (Bw ((H2,H3,ZU,ZV,ZW),(aHG.1.1,aHG.2,aHG.1.2))).2) (al (x1.getRight?) λaHH=>kn (u9 (i,IZ,Vz,VA,t18,t19,(bI .i64 t20 (1:Int)),aHH.1,aHH.2.1,aHH.2.2.1,aHH.2.2.2,H2,H3,ZU,ZV,ZW))))) none) (kx (Bx ((IZ,Vz,VA,H2,H3,ZU,ZV,ZW),(Bq,dQ,jN,Fb))).1 (Bx ((IZ,Vz,VA,H2,H3,ZU,ZV,ZW),(Bq,dQ,jN,Fb))).2):=bX
theorem aH3{R:Type}(ir:bu)(o1bb:(Int×Unit))(o2:Int)(o3:Bool)(o5baL:Nat)(o6baL:Nat)(o7:(List (bu×dS)))(o8:(List bY))(o9:(List dv))(k:fA->Option R):aAV (ir,o1bb,o2,o3,o5baL,o6baL,o7,o8,o9) k=al (N7 (o5baL,((o5baL:Nat):Int),(0:Int),ir,o1bb,o2,o3,o5baL,o6baL,o7,o8,o9)) λx5=>aH (x5.isLeft) (al (x5.getLeft?) λa6=>k (Oa (.inl (a6.1,a6.2.1,a6.2.2.1,a6.2.2.2.1,a6.2.2.2.2.1,a6.2.2.2.2.2.1,a6.2.2.2.2.2.2.1,a6.2.2.2.2.2.2.2)))) (al (x5.getRight?) λb7=>k (Oa (.inr (b7.1,b7.2.1,b7.2.2.1,b7.2.2.2.1,b7.2.2.2.2.1,b7.2.2.2.2.2.1,b7.2.2.2.2.2.2.1,b7.2.2.2.2.2.2.2.1,b7.2.2.2.2.2.2.2.2)))):=bX
theorem ao9:Xg:=by
 refine RD (λ(_,_,_,_,l,_,j,_)=>l.length - j.toNat) ?_
 rintro⟨i,nb,n0,i0,l,n,j,o,o1,o2,o3,o4,o5,m,st,bs⟩ ⟨⟨hi,aNm⟩,hl,hv,rfl,k,hk,rfl⟩;have hl:l.length<=1000000:=hl;have hk:k<=l.length:=hk;have hi:0<=i:=hi;have aNm:i<=1000000:=aNm;by_cases gB:k < l.length
 ·have n1:nth eJ l k=l[k]:=bW (t:=eJ) gB;have hd:l.drop k=l[k]::l.drop (k+1):=aq gB;have hw:=asD (d:=(i+1,l[k],o,o,o1,o2,o3)) (hv _ (aN gB));by_cases he:(dM l[k]).any (aoT o)=true
  ·right;refine⟨Bw ((o4,o5,m,st,bs),(o,ao1 l[k],i+1)),?_,λkn kx=> ?_⟩;rotate_left
   ·rw[Ej,aU ak,aj,bg ak ak,aj,aa,n1,Tl,fG ak ak,hw];simp only[ah,D9,if_pos he,A4,ow,aj,lX]
   ·simp only[kH,pQ,aa,hd,Tr,if_pos he];rfl
  ·left;refine⟨(i,nb,n0,i0,l,(l.length:Int),((k+1:Nat):Int),o,o1,o2,o3,o4,o5,m,st,bs),⟨⟨hi,aNm⟩,hl,hv,rfl,k+1,ak,rfl⟩,by simp only[aa];omega,?_,λkn kx=> ?_⟩
   ·simp only[kH,pQ,aa,hd,Tr,if_neg he]
   ·rw[Ej,aU ak,aj,bg ak ak,aj,aa,n1,Tl,fG ak ak,hw];simp only[ah,D9,if_neg he,A4,eh,ao,dy];rw[N.mu ak]
 ·right;obtain rfl:k=l.length:=ak;refine⟨Bx ((nb,n0,i0,o4,o5,m,st,bs),(o,o1,o2,o3)),?_,λkn kx=> ?_⟩;rotate_left
  ·rw[Ej,aP ak,ao]
  ·simp only[kH,pQ,aa,aL,Tr];rfl
theorem ao8:Xd:=by
 refine RB (λ(nb,_,i,_)=>nb - i.toNat) ?_
 rintro⟨nb,n,i,o,o1,o2,o3,o4,o5,m,st,bs⟩ ⟨⟨h1,h2,h3⟩,rfl,k,hk,rfl⟩;have h1:nb<=bs.length:=h1;have h2:nb<=1000000:=h2;have hk:k<=nb:=hk;by_cases gB:k < nb
 ·have hb:k < bs.length:=ak;have n1:nth dW bs k=bs[k]:=bW (t:=dW) hb;have hd:(bs.take nb).drop k=bs[k]::(bs.take nb).drop (k+1):=by have:=aq (l:=bs.take nb) (i:=k) (by rw[bt];omega);rwa[List.getElem_take]at this
  obtain⟨⟨q1,q2⟩,_⟩:=h3 _ (aN hb);have q1:bs[k].2.2.1.length<=1000000:=gD q1 (by decide);have hw:=aj4 (d:=((k:Int),nb,(nb:Int),(k:Int),bs[k].2.2.1,(bs[k].2.2.1.length:Int),0,o,o1,o2,o3,o4,o5,m,st,bs)) ⟨⟨ak,ak⟩,q1,q2,rfl,0,aM _,rfl⟩;have z1:((0:Int)).toNat=0:=rfl;cases he:Tr o bs[k].2.2.1 with
  |some t=>
   right;refine⟨Bt (o,ao1 t,(k:Int)+1,o4,o5,m,st,bs),?_,λkn kx=> ?_⟩;rotate_left
   ·rw[Ei,aU ak,aj,bg ak ak,aj,aa,aK,gv hb,aj,gv ak,aj,n1,hw];simp only[ah,pQ,z1,aG,he,kH,ow,aj,lX]
   ·simp only[oz,sx,aa,hd,A5,he];rfl
  |none=>
   left;refine⟨(nb,(nb:Int),((k+1:Nat):Int),o,o1,o2,o3,o4,o5,m,st,bs),⟨⟨h1,h2,h3⟩,rfl,k+1,ak,rfl⟩,by simp only[aa];omega,?_,λkn kx=> ?_⟩
   ·simp only[oz,sx,aa,hd,A5,he];rfl
   ·rw[Ei,aU ak,aj,bg ak ak,aj,aa,aK,gv hb,aj,gv ak,aj,n1,hw];simp only[ah,pQ,z1,aG,he,kH,eh,ao,dy];rw[N.mu ak]
 ·right;obtain rfl:k=nb:=ak;refine⟨Bu (o,o1,o2,o3,o4,o5,m,st,bs),?_,λkn kx=> ?_⟩;rotate_left
  ·rw[Ei,aP ak,ao]
  ·have hd:(bs.take k).drop k=[]:=List.drop_eq_nil_of_le (by rw[bt];omega);simp only[oz,sx,aa,hd,A5];rfl
theorem aH4:aH2:=by
 rintro⟨o,o1,o2,o3,nb,o5,m,st,bs⟩ h;have h:aoR nb bs:=h;rw[aH3,aj3 (d:=(nb,(nb:Int),0,o,o1,o2,o3,nb,o5,m,st,bs)) ⟨h,rfl,0,aM _,rfl⟩];have z1:((0:Int)).toNat=0:=rfl;simp only[ah,sx,z1,aG,Xb];cases A5 o (bs.take nb) 0 with
 |some h=>rfl
 |none=>rfl
def aAW:=Entry.ac1 [none,none] agv Xj Xk Xb Oa
def aed:Xa->Option apa:=Kv aAW agv
theorem aAY:jf aed Xj Xk Xb:=aaY (VZ [.d aW,.d (.pair ti .unit),.d ti,.d .bool,.n,.n,.d (.slice (.pair aW eU)),.d (.slice cE),.d (.slice dW)] λ_=>bX)
def aH5:SG Tryz.prog:=⟨117,lQ,aAW,.of (.aMh (.fn 2 bX aH4 (And.intro (.fp ao8 bX) (And.intro (.fp ao9 bX) trivial)))) (by rfl)⟩
abbrev aeu:=bu×Nat×Nat×(List (bu×dS))×(List bY)×(List dv)
def akR:aeu->Prop:=λ(_,nb,_,_,_,bs)=>aoR nb bs
def RY:aeu->(dD×Int×Bool×Nat×Nat×(List (bu×dS))×(List bY)×(List dv)):=λ(o,nb,n,m,st,bs)=>match A5 o (bs.take nb) 0 with
 |some x=>(x.1,x.2,true,nb,n,m,st,bs)
 |none=>(eJ.zero,0,false,nb,n,m,st,bs)
def vS:Fs Tryz.prog akR bn RY:=eK 33 Tryz.f33 (λ(o,o0baL,o1baL,o2,o3,o4)=>([.ptr (.bj 0) 0 [] 0,.d aW o],[.obj 0 false (.pr (.ptr (.bj 1) 0 [] 0) (.pr (.bz (.bj 4) 0 [] 0 0 o0baL) (.d .unit ()))),.obj 0 false (.pr (.cq (.bj 2) 0) (.pr (.bz (.bj 3) 0 [] 0 0 o1baL) (.d .unit ()))),.obj 0 false (.mp aW eU o2),.obj 0 false (.vec 256 cE o3),.obj 0 false (.vec 48 dW o4)])) (λx=>⟨.cons (.d eJ x.1) (.cons (.d ti x.2.1) (.cons (.d .bool x.2.2.1) (.nil))),[.obj 0 false (.pr (.ptr (.bj 1) 0 [] 0) (.pr (.bz (.bj 4) 0 [] 0 0 x.2.2.2.1) (.d .unit ()))),.obj 0 false (.pr (.cq (.bj 2) 0) (.pr (.bz (.bj 3) 0 [] 0 0 x.2.2.2.2.1) (.d .unit ()))),.obj 0 false (.mp aW eU x.2.2.2.2.2.1),.obj 0 false (.vec 256 cE x.2.2.2.2.2.2.1),.obj 0 false (.vec 48 dW x.2.2.2.2.2.2.2)],[]⟩) [none,some aW] [aBR,aH5] {res:=[some eJ,none,none],rf:=nr [(13,(4294967824,[3,4,5,6]))]}
theorem apU{R:Type}(o o0baL o1baL o2 o3 o4)(k:K1 R):vS.A (o,o0baL,o1baL,o2,o3,o4) k=al (XL.call (o0baL,o1baL,o2,o3,o4)) λx1=>al (aed (o,(0,()),0,false,x1.1,x1.2.1,x1.2.2.1,x1.2.2.2.1,x1.2.2.2.2)) λx2=>aH (x2.isLeft) (al (x2.getLeft?) λaOC=>k (vS.out (aOC.2.1,aOC.2.2.1,true,aOC.2.2.2.1,aOC.2.2.2.2.1,aOC.2.2.2.2.2.1,aOC.2.2.2.2.2.2.1,aOC.2.2.2.2.2.2.2))) (al (x2.getRight?) λaQZ=>k (vS.out ((([]:List gz),(([]:List gG),(0,()))),0,false,aQZ.2.2.2.2.1,aQZ.2.2.2.2.2.1,aQZ.2.2.2.2.2.2.1,aQZ.2.2.2.2.2.2.2.1,aQZ.2.2.2.2.2.2.2.2))):=bX
theorem apV:vS.Ok:=by
 rintro⟨o,nb,n,m,st,bs⟩ h;have h:aoR nb bs:=h;rw[apU,awe (d:=(nb,n,m,st,bs)) trivial];simp only[ah,aeo,atK];rw[aAY (d:=(o,(0,()),0,false,nb,n,m,st,bs)) h];simp only[ah,Xb,RY];cases A5 o (bs.take nb) 0 with
 |some h=>rfl
 |none=>rfl
theorem akS:vS.RS:=rE [.d aW,.n,.n,.d (.slice (.pair aW eU)),.d (.slice cE),.d (.slice dW)] vS
def apX:=vS.eP apV
abbrev z6:=Int×Int×Nat×(List (bu×dS))×(List bY)
def sB:z6->AS:=λ(t7,t8,o0L,dQ,ee)=>⟨([.ptr (.bj 0) 0 [] 0]++aQ 6 ([.d ti t7,.d ti t8]++aQ 5 [])),[.obj 0 false (.pr (.cq (.bj 1) 0) (.pr (.bz (.bj 2) 0 [] 0 0 o0L) fN)),.obj 0 false (.mp aW eU dQ),.obj 0 false (.vec 256 cE ee)],(ab 14 [])⟩
abbrev TU:=Nat×(List (bu×dS))×(List bY)
def yf:TU->Exit×AS:=λx=>(.ret,⟨(aQ 4 ([.d .bool false]++aQ 9 [])),[.obj 0 false (.pr (.cq (.bj 1) 0) (.pr (.bz (.bj 2) 0 [] 0 0 x.1) fN)),.obj 0 false (.mp aW eU x.2.1),.obj 0 false (.vec 256 cE x.2.2)],(ab 14 [])⟩)
abbrev TV:=Nat×(List (bu×dS))×(List bY)
def yg:TV->Exit×AS:=λx=>(.exit 0,⟨(aQ 14 []),[.obj 0 false (.pr (.cq (.bj 1) 0) (.pr (.bz (.bj 2) 0 [] 0 0 x.1) fN)),.obj 0 false (.mp aW eU x.2.1),.obj 0 false (.vec 256 cE x.2.2)],(ab 14 [])⟩)
abbrev Me:=(TU)⊕(TV)
abbrev XF:=((Nat×(List (bu×dS))×(List bY)))⊕((Nat×(List (bu×dS))×(List bY)))
def En:Me->Out (Exit×AS):=λx=> .br x.isLeft (.get x.getLeft? λa=> .ok (yf a)) (.get x.getRight? λb=> .ok (yg b))
def mQ:z6->XF->Me:=λ(t7,t8,o0L,dQ,ee) y=>match y with | .inl y=> .inl y | .inr z=> .inr (z)
abbrev atE:=dv×Nat×(List (bu×dS))×(List bY)
def Eb:Nat->aAR->Bool×aAR
 | 0,S=>(true,S)
 |k+1,S=>if S.1=0 then(false,S) else Eb k (S.1 - 1,xt S.2.1 (nth cE S.2.2 (S.1 - 1)),S.2.2)
def ao4(n:Nat)(s:List bY):Prop:=n<=s.length/\s.length<=1000000/\∀st∈s,agr st
theorem aHa:∀(k:Nat) (S:aAR),ao4 S.1 S.2.2->ao4 (Eb k S).2.1 (Eb k S).2.2.2
 | 0,S,h=>h
 |k+1,S,h=>by
  unfold Eb;split
  ·exact h
  ·exact aHa k _ ⟨by have:=h.1;show S.1 - 1<=S.2.2.length;omega,h.2⟩
def ye:z6->Prop:=λ(d,i,n,_,s)=>ao4 n s/\∃m k:Nat,d=m/\i=k/\k<=m/\m<=1000
def oB:z6->XF:=λ(d,i,n,a,s)=>if(Eb (d - i).toNat (n,a,s)).1=true then .inr (Eb (d - i).toNat (n,a,s)).2 else .inl (Eb (d - i).toNat (n,a,s)).2
def avQ:atE->Prop:=λ(b,n,_,s)=>b.2.2.1.length<=1000/\ao4 n s
def agE:atE->(Bool×Nat×(List (bu×dS))×(List bY)):=λ(b,n,a,s)=>Eb b.2.2.1.length (n,a,s)
def XD:=dC.fp sB ye mQ oB En
def Kq:z6->Option Me:=gS XD sB
def F7:Fs Tryz.prog avQ bn agE:=eK 104 Tryz.f104 (λ(b,o0baL,o1,o2)=>([.ptr (.bj 0) 0 [] 0,.d dW b],[.obj 0 false (.pr (.cq (.bj 1) 0) (.pr (.bz (.bj 2) 0 [] 0 0 o0baL) (.d .unit ()))),.obj 0 false (.mp aW eU o1),.obj 0 false (.vec 256 cE o2)])) (λx=>⟨.d .bool x.1,[.obj 0 false (.pr (.cq (.bj 1) 0) (.pr (.bz (.bj 2) 0 [] 0 0 x.2.1) (.d .unit ()))),.obj 0 false (.mp aW eU x.2.2.1),.obj 0 false (.vec 256 cE x.2.2.2)],[]⟩) [none,some dW] [aCR] {loops:=nF [(2,{aV:=[0,7,8]})],outs:=nE [(2,{},{aV:=[4]})],fw:=nr [(2,XD)]}
def XE:= @eG Tryz.prog (kj F7.G) F7.an 0 Tryz.f104 0 _ sB
abbrev TT:=lz Tryz.prog (kj F7.G) F7.an 0 Tryz.f104 0 sB ye mQ oB En
theorem agF:jf Kq ye mQ oB:=nf (jM [.d ti,.d ti,.n,.d (.slice (.pair aW eU)),.d (.slice cE)] λ_=>bX)
theorem On:om @XE sB ye mQ oB En TT:=oE
theorem Cw{R:Type}(t7:Int)(t8:Int)(o0L:Nat)(dQ:(List (bu×dS)))(ee:(List bY))(kn:AS->Option R)(kx:Exit->AS->Option R):XE (t7,t8,o0L,dQ,ee) kn kx=aH ((fR t8 t7)) (al (Ao.call (o0L,dQ,ee)) λx1=>aH ((!x1.1)) (kx (yf (x1.2.1,x1.2.2.1,x1.2.2.2)).1 (yf (x1.2.1,x1.2.2.1,x1.2.2.2)).2) (kn (sB (t7,(bI .i64 t8 (1:Int)),x1.2.1,x1.2.2.1,x1.2.2.2)))) (kx (yg (o0L,dQ,ee)).1 (yg (o0L,dQ,ee)).2):=bX
theorem aBs{R:Type}(b o0baL o1 o2)(k:K1 R):F7.A (b,o0baL,o1,o2) k=al (Kq ((b.2.2.1.length:Int),0,o0baL,o1,o2)) λx2=>aH (x2.isLeft) (al (x2.getLeft?) λa3=>k (F7.out (false,a3.1,a3.2.1,a3.2.2))) (al (x2.getRight?) λb4=>k (F7.out (true,b4.1,b4.2.1,b4.2.2))):=bX
theorem aku:TT:=by
 refine On (λ(d,i,_)=>(d - i).toNat) ?_
 rintro⟨d,i,n,a,s⟩ ⟨hg,m,k,rfl,rfl,hk,hm⟩;have hg:ao4 n s:=hg;have hk:k<=m:=hk;have hm:m<=1000:=hm;by_cases gB:k < m
 ·obtain⟨j,hj⟩:∃j,m=k+1+j:=⟨m - (k+1),ak⟩;have e1:((m:Int) - (k:Int)).toNat=j+1:=ak;have e2:((m:Int) - ((k+1:Nat):Int)).toNat=j:=ak;have hc:=aeH (d:=(n,a,s)) hg;by_cases h0:n=0
  ·right;refine⟨yf (n,a,s),?_,λkn kx=> ?_⟩;rotate_left
   ·rw[Cw,aU ak,aj,hc];simp only[ah,bn,WB,if_pos h0,eV,aj]
   ·simp only[mQ,oB,e1,Eb,if_pos h0,bF,bq];rfl
  ·left;refine⟨((m:Int),((k+1:Nat):Int),n - 1,xt a (nth cE s (n - 1)),s),⟨⟨by have:=hg.1;omega,hg.2⟩,m,k+1,rfl,rfl,ak,hm⟩,by simp only[e1,e2];omega,?_,λkn kx=> ?_⟩
   ·simp only[mQ,oB,e1,e2];rw[Eb,if_neg h0]
   ·rw[Cw,aU ak,aj,hc];simp only[ah,bn,WB,if_neg h0,cz,ao];rw[N.mu ak]
 ·right;obtain rfl:k=m:=ak;refine⟨yg (n,a,s),?_,λkn kx=> ?_⟩;rotate_left
  ·rw[Cw,aP ak,ao]
  ·have e1:((k:Int) - (k:Int)).toNat=0:=ak;simp only[mQ,oB,e1,Eb,bH];rfl
theorem aBt:F7.Ok:=by
 rintro⟨b,n,a,s⟩ ⟨hl,hg⟩;have hl:b.2.2.1.length<=1000:=hl;have e:((b.2.2.1.length:Int) - 0).toNat=b.2.2.1.length:=ak;rw[aBs,agF (d:=((b.2.2.1.length:Int),0,n,a,s)) ⟨hg,b.2.2.1.length,0,rfl,rfl,aM _,hl⟩];simp only[ah,oB,e,agE];cases hu:Eb b.2.2.1.length (n,a,s) with
 |mk r S=>
  cases r with
  |true=>rfl
  |false=>rfl
theorem avR:F7.RS:=rE [.d dW,.n,.d (.slice (.pair aW eU)),.d (.slice cE)] F7
def aBu:=F7.eP aBt 1 ⟨.fp aku,trivial⟩
abbrev tD:=(List dv)×Int×Int×Nat×Nat×(List (bu×dS))×(List bY)×(List dv)×Nat×Nat×(List (bu×dS))×(List bY)×(List dv)
def nJ:tD->AS:=λ(Bo,t32,t33,o0L,o1L,ee,Kg,y7,Nd,Nf,n31,Zy,La)=>⟨([.ptr (.bj 0) 0 [] 0,bB,.d (.slice dW) Bo]++aQ 4 ([eI 31]++aQ 24 ([.d ti t32,.d ti t33]++aQ 47 []))),[.obj 0 false (.pr (.ptr (.bj 1) 0 [] 0) (.pr (.bz (.bj 4) 0 [] 0 0 o0L) fN)),.obj 0 false (.pr (.cq (.bj 2) 0) (.pr (.bz (.bj 3) 0 [] 0 0 o1L) fN)),.obj 0 false (.mp aW eU ee),.obj 0 false (.vec 256 cE Kg),.obj 0 false (.vec 48 dW y7)],(bD 31 ([[.obj 0 false (.pr (.ptr (.new 31 1) 0 [] 0) (.pr (.bz (.new 31 4) 0 [] 0 0 Nd) fN)),.obj 0 false (.pr (.cq (.new 31 2) 0) (.pr (.bz (.new 31 3) 0 [] 0 0 Nf) fN)),.obj 0 false (.mp aW eU n31),.obj 0 false (.vec 256 cE Zy),.obj 0 false (.vec 48 dW La)]]++bD 49 []))⟩
abbrev Ky:=((List dv)×Nat×Nat×(List (bu×dS))×(List bY)×(List dv)×(List dv))×(Nat×Nat×(List (bu×dS))×(List bY))
def tF:Ky->Exit×AS:=λx=>(.exit 1,⟨([.ptr (.bj 0) 0 [] 0,bB,.d (.slice dW) x.1.1]++aQ 4 ([eI 31]++aQ 73 [])),[.obj 0 false (.pr (.ptr (.bj 1) 0 [] 0) (.pr (.bz (.bj 4) 0 [] 0 0 x.1.2.1) fN)),.obj 0 false (.pr (.cq (.bj 2) 0) (.pr (.bz (.bj 3) 0 [] 0 0 x.1.2.2.1) fN)),.obj 0 false (.mp aW eU x.1.2.2.2.1),.obj 0 false (.vec 256 cE x.1.2.2.2.2.1),.obj 0 false (.vec 48 dW x.1.2.2.2.2.2.1)],(bD 31 ([[.obj 0 false (.pr (.ptr (.new 31 1) 0 [] 0) (.pr (.bz (.new 31 4) 0 [] 0 0 x.2.1) fN)),.obj 0 false (.pr (.cq (.new 31 2) 0) (.pr (.bz (.new 31 3) 0 [] 0 0 x.2.2.1) fN)),.obj 0 false (.mp aW eU x.2.2.2.1),.obj 0 false (.vec 256 cE x.2.2.2.2),.obj 0 false (.vec 48 dW x.1.2.2.2.2.2.2)]]++bD 49 []))⟩)
abbrev Ey:=Ky
def Hk:Ey->Out (Exit×AS):=λx=> .ok (tF x)
def jW:tD->(Nat×Nat×(List (bu×dS))×(List bY))->Ey:=λ(Bo,t32,t33,o0L,o1L,ee,Kg,y7,Nd,Nf,n31,Zy,La) y=>((Bo,o0L,o1L,ee,Kg,y7,La),y)
abbrev tG:=(List dv)×Int×Int×Nat×Nat×(List (bu×dS))×(List bY)×(List dv)×Nat×Nat×(List (bu×dS))×(List bY)×(List dv)
def nK:tG->AS:=λ(t63,t64,t65,gU,ui,jN,Fb,ZT,Ng,Nh,Zz,ZA,ZB)=>⟨([.ptr (.bj 0) 0 [] 0]++aQ 6 ([eI 31]++aQ 55 ([.d (.slice dW) t63,.d ti t64,.d ti t65]++aQ 15 []))),[.obj 0 false (.pr (.ptr (.bj 1) 0 [] 0) (.pr (.bz (.bj 4) 0 [] 0 0 gU) fN)),.obj 0 false (.pr (.cq (.bj 2) 0) (.pr (.bz (.bj 3) 0 [] 0 0 ui) fN)),.obj 0 false (.mp aW eU jN),.obj 0 false (.vec 256 cE Fb),.obj 0 false (.vec 48 dW ZT)],(bD 31 ([[.obj 0 false (.pr (.ptr (.new 31 1) 0 [] 0) (.pr (.bz (.new 31 4) 0 [] 0 0 Ng) fN)),.obj 0 false (.pr (.cq (.new 31 2) 0) (.pr (.bz (.new 31 3) 0 [] 0 0 Nh) fN)),.obj 0 false (.mp aW eU Zz),.obj 0 false (.vec 256 cE ZA),.obj 0 false (.vec 48 dW ZB)]]++bD 49 []))⟩
abbrev KA:=(Nat×Nat×(List (bu×dS))×(List bY)×(List dv))×(Int)
def tJ:KA->Exit×AS:=λx=>(.ret,⟨(aQ 6 ([.d ti x.2]++aQ 74 [])),[.obj 0 false (.pr (.ptr (.bj 1) 0 [] 0) (.pr (.bz (.bj 4) 0 [] 0 0 x.1.1) fN)),.obj 0 false (.pr (.cq (.bj 2) 0) (.pr (.bz (.bj 3) 0 [] 0 0 x.1.2.1) fN)),.obj 0 false (.mp aW eU x.1.2.2.1),.obj 0 false (.vec 256 cE x.1.2.2.2.1),.obj 0 false (.vec 48 dW x.1.2.2.2.2)],(ab 81 [])⟩)
abbrev KB:=(Nat×Nat×(List (bu×dS))×(List bY)×(List dv))×(Nat×Nat×(List (bu×dS))×(List bY)×(List dv))
def tK:KB->Exit×AS:=λx=>(.exit 3,⟨([.ptr (.bj 0) 0 [] 0]++aQ 6 ([eI 31]++aQ 73 [])),[.obj 0 false (.pr (.ptr (.bj 1) 0 [] 0) (.pr (.bz (.bj 4) 0 [] 0 0 x.1.1) fN)),.obj 0 false (.pr (.cq (.bj 2) 0) (.pr (.bz (.bj 3) 0 [] 0 0 x.1.2.1) fN)),.obj 0 false (.mp aW eU x.1.2.2.1),.obj 0 false (.vec 256 cE x.1.2.2.2.1),.obj 0 false (.vec 48 dW x.1.2.2.2.2)],(bD 31 ([[.obj 0 false (.pr (.ptr (.new 31 1) 0 [] 0) (.pr (.bz (.new 31 4) 0 [] 0 0 x.2.1) fN)),.obj 0 false (.pr (.cq (.new 31 2) 0) (.pr (.bz (.new 31 3) 0 [] 0 0 x.2.2.1) fN)),.obj 0 false (.mp aW eU x.2.2.2.1),.obj 0 false (.vec 256 cE x.2.2.2.2.1),.obj 0 false (.vec 48 dW x.2.2.2.2.2)]]++bD 49 []))⟩)
abbrev Ez:=(KA)⊕(KB)
abbrev OF:=(Int)⊕((Nat×Nat×(List (bu×dS))×(List bY)×(List dv)))
def Ac:Ez->Out (Exit×AS):=λx=> .br x.isLeft (.get x.getLeft? λa=> .ok (tJ a)) (.get x.getRight? λb=> .ok (tK b))
def jX:tG->OF->Ez:=λ(t63,t64,t65,gU,ui,jN,Fb,ZT,Ng,Nh,Zz,ZA,ZB) y=>match y with | .inl y=> .inl ((gU,ui,jN,Fb,ZT),y) | .inr z=> .inr (((gU,ui,jN,Fb,ZT),z))
abbrev Dt:=Int×(List dv)×Nat×Nat×(List (bu×dS))×(List bY)×(List dv)
def Mo:Dt->SA:=λ(depth,l,o0baL,o1baL,o2,o3,o4)=>([.ptr (.bj 0) 0 [] 0,.d ti depth,.d (.slice dW) l],[.obj 0 false (.pr (.ptr (.bj 1) 0 [] 0) (.pr (.bz (.bj 4) 0 [] 0 0 o0baL) fN)),.obj 0 false (.pr (.cq (.bj 2) 0) (.pr (.bz (.bj 3) 0 [] 0 0 o1baL) fN)),.obj 0 false (.mp aW eU o2),.obj 0 false (.vec 256 cE o3),.obj 0 false (.vec 48 dW o4)])
abbrev aet:=(Int×Nat×Nat×(List (bu×dS))×(List bY)×(List dv))⊕(Int×Nat×Nat×(List (bu×dS))×(List bY)×(List dv)×Nat×(List (bu×dS))×(List bY)×(List dv))
abbrev Jv:=(Int×Nat×Nat×(List (bu×dS))×(List bY)×(List dv))⊕(Int×Nat×Nat×(List (bu×dS))×(List bY)×(List dv)×Nat×(List (bu×dS))×(List bY)×(List dv))
def mz:Jv->fA:=λx=>match x with | .inl x=>⟨.d ti x.1,[.obj 0 false (.pr (.ptr (.bj 1) 0 [] 0) (.pr (.bz (.bj 4) 0 [] 0 0 x.2.1) fN)),.obj 0 false (.pr (.cq (.bj 2) 0) (.pr (.bz (.bj 3) 0 [] 0 0 x.2.2.1) fN)),.obj 0 false (.mp aW eU x.2.2.2.1),.obj 0 false (.vec 256 cE x.2.2.2.2.1),.obj 0 false (.vec 48 dW x.2.2.2.2.2)],[]⟩ | .inr x=>⟨.d ti x.1,[.obj 0 false (.pr (eI 0) (.pr (.bz (.new 0 3) 0 [] 0 0 x.2.1) fN)),.obj 0 false (.pr (.cq (.bj 2) 0) (.pr (.bz (.bj 3) 0 [] 0 0 x.2.2.1) fN)),.obj 0 false (.mp aW eU x.2.2.2.1),.obj 0 false (.vec 256 cE x.2.2.2.2.1),.obj 0 false (.vec 48 dW x.2.2.2.2.2.1)],[.obj 0 false (.pr (.cq (.new 0 1) 0) (.pr (.bz (.new 0 2) 0 [] 0 0 x.2.2.2.2.2.2.1) fN)),.obj 0 false (.mp aW eU x.2.2.2.2.2.2.2.1),.obj 0 false (.vec 256 cE x.2.2.2.2.2.2.2.2.1),.obj 0 false (.vec 48 dW x.2.2.2.2.2.2.2.2.2)]⟩
def Hl:Dt->aet->Jv:=λ(depth,l,o0baL,o1baL,o2,o3,o4) y=>match y with | .inl y=> .inl y | .inr y=> .inr y
abbrev aQ0:=Nat×Nat×At×List bY×List dv
def wU(bs:List dv):Nat->Nat×aAR->Nat×aAR
 | 0,X=>X
 |k+1,X=>wU bs k (X.1 - 1,(Eb (nth dW bs (X.1 - 1)).2.2.1.length X.2).2)
def iS:List dv->aQ0->Int×aQ0
 |[],S=>(0,S)
 |b::l,S=>if(lO b S.1 (S.2.1,S.2.2.1,S.2.2.2.1) S.2.2.2.2).1≠0 then lO b S.1 (S.2.1,S.2.2.1,S.2.2.2.1) S.2.2.2.2 else iS l (lO b S.1 (S.2.1,S.2.2.1,S.2.2.2.1) S.2.2.2.2).2
def W8:List dv->aQ0->Prop
 |[],_=>True
 |b::l,S=>RV (b,S)/\((lO b S.1 (S.2.1,S.2.2.1,S.2.2.2.1) S.2.2.2.2).1=0->W8 l (lO b S.1 (S.2.1,S.2.2.1,S.2.2.2.1) S.2.2.2.2).2)
def tE:tD->Prop:=λ(_,d,i,_,_,_,_,_,nb,n,_,s,bs)=>ao4 n s/\aoR nb bs/\∃m k:Nat,d=m/\i=k/\k<=m/\m<=1000/\m<=k+nb
def mU:tD->(Nat×Nat×(List (bu×dS))×(List bY)):=λ(_,d,i,_,_,_,_,_,nb,n,a,s,bs)=>wU bs (d - i).toNat (nb,n,a,s)
def tI:tG->Prop:=λ(l,m,i,_,_,_,_,_,nb,n,a,s,bs)=>l.length<=1000000/\m=(l.length:Int)/\∃k:Nat,k<=l.length/\i=k/\W8 (l.drop k) (nb,n,a,s,bs)
def kM:tG->OF:=λ(l,_,i,_,_,_,_,_,nb,n,a,s,bs)=>if(iS (l.drop i.toNat) (nb,n,a,s,bs)).1≠0 then .inl (iS (l.drop i.toNat) (nb,n,a,s,bs)).1 else .inr (iS (l.drop i.toNat) (nb,n,a,s,bs)).2
def zY(d:Int)(nb n:Nat)(a:At)(s:List bY)(bs:List dv):aQ0:=((wU (bs.take nb) d.toNat (nb,n,iJ a,s.take n)).1,(wU (bs.take nb) d.toNat (nb,n,iJ a,s.take n)).2.1,(wU (bs.take nb) d.toNat (nb,n,iJ a,s.take n)).2.2.1,(wU (bs.take nb) d.toNat (nb,n,iJ a,s.take n)).2.2.2,bs.take nb)
def wX:Dt->Prop:=λ(d,l,nb,n,a,s,bs)=>aoR nb bs/\Ee 400 n a s/\l.length<=1000000/\((1<=d/\d<=nb/\d < l.length/\d<=6)->W8 l (zY d nb n a s bs))
def jd:Dt->aet:=λ(d,l,nb,n,a,s,bs)=>if 1<=d/\d<=nb/\d < l.length then if d<=6 then if(iS l (zY d nb n a s bs)).1≠0 then .inl ((iS l (zY d nb n a s bs)).1,nb,n,a,s,bs) else .inr (0,(iS l (zY d nb n a s bs)).2.1,n,a,s,bs,(iS l (zY d nb n a s bs)).2.2) else .inl (25,nb,n,a,s,bs) else .inl (1,nb,n,a,s,bs)
def Du:ot:=kj (P:=Tryz.prog) [BE,awi,aBu,akK]
def OB:=dC.fp nJ tE jW mU Hk
def Gb:tD->Option Ey:=gS OB nJ
def OD:=dC.fp nK tI jX kM Ac
def Gd:tG->Option Ez:=gS OD nK
def Ad:wQ:= {loops:=nF [(7,{aV:=[0,2,7,32,33],sites:=[31]}),(13,{aV:=[0,7,63,64,65],sites:=[31],owns:=[⟨7,[.snd,.fst],31,25⟩]})],outs:=nE [(7,{aV:=[0,2,7],sites:=[31]},{aV:=[6]}),(13,{aV:=[0,7],sites:=[31]},{aV:=[6]})],fw:=nr [(7,OB),(13,OD)]}
def aer:= @G4 Tryz.prog Du Ad 0 Tryz.f56 _ Mo
abbrev apQ:=agp @aer wX Hl jd mz
def OC:= @eG Tryz.prog Du Ad 0 Tryz.f56 0 _ nJ
abbrev Kx:=lz Tryz.prog Du Ad 0 Tryz.f56 0 nJ tE jW mU Hk
def OE:= @eG Tryz.prog Du Ad 0 Tryz.f56 1 _ nK
abbrev Kz:=lz Tryz.prog Du Ad 0 Tryz.f56 1 nK tI jX kM Ac
theorem XS:jf Gb tE jW mU:=nf (jM [.d (.slice dW),.d ti,.d ti,.n,.n,.d (.slice (.pair aW eU)),.d (.slice cE),.d (.slice dW),.n,.n,.d (.slice (.pair aW eU)),.d (.slice cE),.d (.slice dW)] λ_=>bX)
theorem J9:aAL @OC nJ tE jW mU tF Kx:=aMK
theorem Gc{R:Type}(Bo:(List dv))(t32:Int)(t33:Int)(o0L:Nat)(o1L:Nat)(ee:(List (bu×dS)))(Kg:(List bY))(y7:(List dv))(Nd:Nat)(Nf:Nat)(n31:(List (bu×dS)))(Zy:(List bY))(La:(List dv))(kn:AS->Option R)(kx:Exit->AS->Option R):OC (Bo,t32,t33,o0L,o1L,ee,Kg,y7,Nd,Nf,n31,Zy,La) kn kx=aH ((fR t33 t32)) (aH (eg (cK .i64 ((Nd:Nat):Int) (1:Int)) ((Nd:Nat):Int)) (aH (decide ((0+(ae (cK .i64 ((Nd:Nat):Int) (1:Int)))) < (ag La))) (aH (decide ((((0+(ae (cK .i64 ((Nd:Nat):Int) (1:Int))))*36)+0)=(0+((ae (cK .i64 ((Nd:Nat):Int) (1:Int)))*36)))) (al (F7.call ((nth dW La (0+(ae (cK .i64 ((Nd:Nat):Int) (1:Int))))),Nf,n31,Zy)) λx1=>aH (inc (cK .i64 ((Nd:Nat):Int) (1:Int)) ((Nd:Nat):Int)) (kn (nJ (Bo,t32,(bI .i64 t33 (1:Int)),o0L,o1L,ee,Kg,y7,((ae (cK .i64 ((Nd:Nat):Int) (1:Int))) - 0),x1.2.1,x1.2.2.1,x1.2.2.2,La))) none) none) none) none) (kx (tF ((Bo,o0L,o1L,ee,Kg,y7,La),(Nd,Nf,n31,Zy))).1 (tF ((Bo,o0L,o1L,ee,Kg,y7,La),(Nd,Nf,n31,Zy))).2):=bX
theorem XT:jf Gd tI jX kM:=nf (jM [.d (.slice dW),.d ti,.d ti,.n,.n,.d (.slice (.pair aW eU)),.d (.slice cE),.d (.slice dW),.n,.n,.d (.slice (.pair aW eU)),.d (.slice cE),.d (.slice dW)] λ_=>bX)
theorem Ka:om @OE nK tI jX kM Ac Kz:=oE
theorem xy{R:Type}(t63:(List dv))(t64:Int)(t65:Int)(gU:Nat)(ui:Nat)(jN:(List (bu×dS)))(Fb:(List bY))(ZT:(List dv))(Ng:Nat)(Nh:Nat)(Zz:(List (bu×dS)))(ZA:(List bY))(ZB:(List dv))(kn:AS->Option R)(kx:Exit->AS->Option R):OE (t63,t64,t65,gU,ui,jN,Fb,ZT,Ng,Nh,Zz,ZA,ZB) kn kx=aH ((fR t65 t64)) (aH (eg t65 (((ag t63):Nat):Int)) (al (F9.call ((nth dW t63 (ae t65)),Ng,Nh,Zz,ZA,ZB)) λx1=>aH ((BT x1.1 (0:Int))) (kx (tJ ((gU,ui,jN,Fb,ZT),x1.1)).1 (tJ ((gU,ui,jN,Fb,ZT),x1.1)).2) (kn (nK (t63,t64,(bI .i64 t65 (1:Int)),gU,ui,jN,Fb,ZT,x1.2.1,x1.2.2.1,x1.2.2.2.1,x1.2.2.2.2.1,x1.2.2.2.2.2)))) none) (kx (tK ((gU,ui,jN,Fb,ZT),(Ng,Nh,Zz,ZA,ZB))).1 (tK ((gU,ui,jN,Fb,ZT),(Ng,Nh,Zz,ZA,ZB))).2):=bX
theorem apR{R:Type}(depth:Int)(l:(List dv))(o0baL:Nat)(o1baL:Nat)(o2:(List (bu×dS)))(o3:(List bY))(o4:(List dv))(k:fA->Option R):aer (depth,l,o0baL,o1baL,o2,o3,o4) k=aH ((fR depth (1:Int))) (k (mz (.inl ((1:Int),o0baL,o1baL,o2,o3,o4)))) (al (oG.call (o0baL,o1baL,o2,o3,o4)) λx1=>aH ((w7 depth x1.2)) (k (mz (.inl ((1:Int),x1.1.1,x1.1.2.1,x1.1.2.2.1,x1.1.2.2.2.1,x1.1.2.2.2.2)))) (aH ((ajU (((ag l):Nat):Int) depth)) (k (mz (.inl ((1:Int),x1.1.1,x1.1.2.1,x1.1.2.2.1,x1.1.2.2.2.1,x1.1.2.2.2.2)))) (aH ((w7 depth (6:Int))) (k (mz (.inl ((25:Int),x1.1.1,x1.1.2.1,x1.1.2.2.1,x1.1.2.2.2.1,x1.1.2.2.2.2)))) (al (Mk.call (x1.1.1,x1.1.2.1,x1.1.2.2.1,x1.1.2.2.2.1,x1.1.2.2.2.2)) λx2=>al (Gb (l,depth,(0:Int),x2.1,x2.2.1,x2.2.2.1,x2.2.2.2.1,x2.2.2.2.2.1,x2.2.2.2.2.2.1,x2.2.2.2.2.2.2.1,x2.2.2.2.2.2.2.2.1,x2.2.2.2.2.2.2.2.2.1,x2.2.2.2.2.2.2.2.2.2)) λx4=>al (Gd (x4.1.1,(((ag x4.1.1):Nat):Int),(0:Int),x4.1.2.1,x4.1.2.2.1,x4.1.2.2.2.1,x4.1.2.2.2.2.1,x4.1.2.2.2.2.2.1,x4.2.1,x4.2.2.1,x4.2.2.2.1,x4.2.2.2.2,x4.1.2.2.2.2.2.2)) λx7=>aH (x7.isLeft) (al (x7.getLeft?) λa8=>k (mz (.inl (a8.2,a8.1.1,a8.1.2.1,a8.1.2.2.1,a8.1.2.2.2.1,a8.1.2.2.2.2)))) (al (x7.getRight?) λb9=>k (mz (.inr ((0:Int),b9.2.1,b9.1.2.1,b9.1.2.2.1,b9.1.2.2.2.1,b9.1.2.2.2.2,b9.2.2.1,b9.2.2.2.1,b9.2.2.2.2.1,b9.2.2.2.2.2)))))))):=bX
theorem acF:Kx:=by
 refine J9 (λ(_,d,i,_)=>(d - i).toNat) ?_
 rintro⟨l,d,i,nb0,n0,a0,s0,bs0,nb,n,a,s,bs⟩ ⟨hg,⟨h1,h2,h3⟩,m,k,rfl,rfl,hk,hm,hn⟩;have hg:ao4 n s:=hg;have h1:nb<=bs.length:=h1;have h2:nb<=1000000:=h2;have hk:k<=m:=hk;have hm:m<=1000:=hm;have hn:m<=k+nb:=hn;by_cases gB:k < m
 ·left;obtain⟨j,hj⟩:∃j,m=k+1+j:=⟨m - (k+1),ak⟩;obtain⟨p,rfl⟩:∃p,nb=p+1:=⟨nb - 1,ak⟩;have e1:((m:Int) - (k:Int)).toNat=j+1:=ak;have e2:((m:Int) - ((k+1:Nat):Int)).toNat=j:=ak;have e3:cK .i64 (((p+1:Nat):Nat):Int) (1:Int)=(p:Int):=by rw[eC ak ak];omega
  have hp:p < bs.length:=ak;have n1:nth dW bs p=bs[p]:=bW (t:=dW) hp;have hu:=avR (d:=(bs[p],n,a,s)) ⟨(h3 _ (aN hp)).1.1,hg⟩;refine⟨(l,(m:Int),((k+1:Nat):Int),nb0,n0,a0,s0,bs0,p,(Eb bs[p].2.2.1.length (n,a,s)).2.1,(Eb bs[p].2.2.1.length (n,a,s)).2.2.1,(Eb bs[p].2.2.1.length (n,a,s)).2.2.2,bs),⟨aHa _ (n,a,s) hg,⟨ak,ak,h3⟩,m,k+1,rfl,rfl,ak,hm,ak⟩,by simp only[e1,e2];omega,?_,λkn kx=> ?_⟩
  ·simp only[jW,mU,e1,e2,wU,iG,n1]
  ·rw[Gc,aU ak,aj,e3,bg ak ak,aj];simp only[aa,aK,cj,aI hp,aj,cr,n1,Nat.sub_zero];rw[hu];simp only[ah,bn,agE];rw[tY ak ak,aj,N.mu ak]
 ·right;obtain rfl:k=m:=ak;intro R kn kx;have e1:((k:Int) - (k:Int)).toNat=0:=ak;rw[Gc,aP ak,ao];simp only[jW,mU,e1,wU]
theorem acG:Kz:=by
 refine Ka (λ(l,_,i,_)=>l.length - i.toNat) ?_
 rintro⟨l,m,i,nb0,n0,a0,s0,bs0,nb,n,a,s,bs⟩ ⟨hl,rfl,k,hk,rfl,hg⟩;have hl:l.length<=1000000:=hl;have hk:k<=l.length:=hk;by_cases gB:k < l.length
 ·have n1:nth dW l k=l[k]:=bW (t:=dW) gB;have hd:l.drop k=l[k]::l.drop (k+1):=aq gB;have hg:W8 (l.drop k) (nb,n,a,s,bs):=hg;rw[hd]at hg;obtain⟨g1,g2⟩:=hg;have hw:=aep (d:=(l[k],nb,n,a,s,bs)) g1;obtain⟨r,hr⟩:∃r,lO l[k] nb (n,a,s) bs=r:=⟨_,rfl⟩;simp only[bn,agQ,hr]at hw g2;by_cases he:r.1=0
  ·left;refine⟨(l,(l.length:Int),((k+1:Nat):Int),nb0,n0,a0,s0,bs0,r.2.1,r.2.2.1,r.2.2.2.1,r.2.2.2.2.1,r.2.2.2.2.2),⟨hl,rfl,k+1,ak,rfl,g2 he⟩,by simp only[aa];omega,?_,λkn kx=> ?_⟩
   ·simp only[jX,kM,aa,hd];rw[show iS (l[k]::l.drop (k+1)) (nb,n,a,s,bs)=iS (l.drop (k+1)) r.2 by rw[iS];simp only[hr];rw[if_neg (λe=>e he)]]
   ·rw[xy,aU ak,aj,bg ak ak,aj,aa,n1,hw];simp only[ah];rw[dA he,ao,N.mu ak]
  ·right;refine⟨tJ ((nb0,n0,a0,s0,bs0),r.1),?_,λkn kx=> ?_⟩;rotate_left
   ·rw[xy,aU ak,aj,bg ak ak,aj,aa,n1,hw];simp only[ah];rw[fe he,aj]
   ·simp only[jX,kM,aa,hd];rw[show iS (l[k]::l.drop (k+1)) (nb,n,a,s,bs)=r by rw[iS];simp only[hr];rw[if_pos he],if_pos he];rfl
 ·right;obtain rfl:k=l.length:=ak;refine⟨tK ((nb0,n0,a0,s0,bs0),(nb,n,a,s,bs)),?_,λkn kx=> ?_⟩;rotate_left
  ·rw[xy,aP ak,ao]
  ·simp only[jX,kM,aa,aL,iS];rw[if_neg (λe=>e rfl)];rfl
theorem apS:apQ:=by
 rintro⟨d,l,nb,n,a,s,bs⟩ ⟨hc,hg,hl,hA⟩;have hg:Ee 400 n a s:=hg;have hl:l.length<=1000000:=hl;obtain⟨h1,h2,h3⟩:=id hc;have h1:nb<=bs.length:=h1;have h2:nb<=1000000:=h2;have ch:=Ex (d:=(nb,n,a,s,bs)) trivial;rw[apR];by_cases a1:1<=d;rotate_left
 ·rw[aU ak,aj];simp only[jd];rw[if_neg (λe:1<=d/\d<=(nb:Int)/\d < (l.length:Int)=>a1 e.1)];rfl
 rw[aP ak,ao,ch];simp only[ah,Ew,Mm];by_cases a2:d<=nb;rotate_left
 ·rw[di ak,aj];simp only[jd];rw[if_neg (λe:1<=d/\d<=(nb:Int)/\d < (l.length:Int)=>a2 e.2.1)];rfl
 rw[cG ak,ao];by_cases a3:d < l.length;rotate_left
 ·rw[oS ak,aj];simp only[jd];rw[if_neg (λe:1<=d/\d<=(nb:Int)/\d < (l.length:Int)=>a3 e.2.2)];rfl
 rw[l5 ak,ao];by_cases a4:d<=6;rotate_left
 ·rw[di ak,aj];simp only[jd];rw[if_pos ⟨a1,a2,a3⟩,if_neg a4];rfl
 have hA:=hA ⟨a1,a2,a3,a4⟩;obtain⟨aOU,_⟩:=hg.canon;have e0:(d - 0).toNat=d.toNat:=ak;have z1:((0:Int)).toNat=0:=rfl;rw[cG ak,ao,apO (d:=(nb,n,a,s,bs)) ⟨hg.mono (by decide),hc⟩];simp only[ah,XP,akN];rw[XS (d:=(l,d,0,nb,n,a,s,bs,nb,n,iJ a,s.take n,bs.take nb)) ⟨⟨aOU.le,by have:=aOU.len;omega,aOU.aGF⟩,⟨by rw[bt];omega,h2,λb hb=>h3 b (fa hb)⟩,d.toNat,0,ak,rfl,aM _,ak,ak⟩];simp only[ah,jW,mU,e0];obtain⟨B,hB⟩:∃B,wU (bs.take nb) d.toNat (nb,n,iJ a,s.take n)=B:=⟨_,rfl⟩;have eB:zY d nb n a s bs=(B.1,B.2.1,B.2.2.1,B.2.2.2,bs.take nb):=by unfold zY;rw[hB]
 rw[eB]at hA;rw[hB,XT (d:=(l,(l.length:Int),0,nb,n,a,s,bs,B.1,B.2.1,B.2.2.1,B.2.2.2,bs.take nb)) ⟨hl,rfl,0,aM _,rfl,hA⟩]
 have key:jd (d,l,nb,n,a,s,bs)=if(iS l (B.1,B.2.1,B.2.2.1,B.2.2.2,bs.take nb)).1≠0 then .inl ((iS l (B.1,B.2.1,B.2.2.1,B.2.2.2,bs.take nb)).1,nb,n,a,s,bs)
   else .inr (0,(iS l (B.1,B.2.1,B.2.2.1,B.2.2.2,bs.take nb)).2.1,n,a,s,bs,(iS l (B.1,B.2.1,B.2.2.1,B.2.2.2,bs.take nb)).2.2):=by
  simp only[jd];rw[if_pos ⟨a1,a2,a3⟩,if_pos a4,eB]
 rw[key];simp only[ah,kM,z1,aG];by_cases he:(iS l (B.1,B.2.1,B.2.2.1,B.2.2.2,bs.take nb)).1=0
 ·rw[if_neg (λe=>e he),if_neg (λe=>e he)];rfl
 ·rw[if_pos he,if_pos he];rfl
def aes:=Entry.ac1 [none,some ti,some (.slice dW)] Mo wX Hl jd mz
def kN:Dt->Option Jv:=Kv aes Mo
theorem T6:jf kN wX Hl jd:=aaY (VZ [.d ti,.d (.slice dW),.n,.n,.d (.slice (.pair aW eU)),.d (.slice cE),.d (.slice dW)] λ_=>bX)
def apT:SG Tryz.prog:=⟨56,lQ,aes,.of (.aMh (.fn 2 bX apS (And.intro (.fp acF bX) (And.intro (.fp acG bX) trivial)))) (by rfl)⟩
def acs:List Int:=ab 32 0
def LW(K af dl:Int):Lk:=([([fS K],(af,(dl,(0,()))))],())
def AW(K af dl:Int):At:=[KD 0 ((100:Int),(LW K af dl,()))]
def TW(K:Int):dD:=([((acs,((0:Int),())),(((0:Int),(([]:List Sg),((0:Int),()))),()))],([((90:Int),(LW K 0 0,()))],((0:Int),())))
def UW(K:Int):dD:=Wt (TW K) (ae 0) (adz (TW K) 0 [K] 0)
def BW(K h:Int):At:=[((nR (TW K),((0:Int),())),(((90:Int),(LW K 0 0,())),(h,())))]
def KW(K:Int):Prop:=0 < K/\K < 2305843009213688669
theorem aRr(K:Int){af dl:Int}(ha:0<=af/\af<=1048576)(hd:0<=dl/\dl<=1048576):kq (LW K af dl)=true:=by have e:kq (LW K af dl)=((uR ([fS K],af,dl,0,()) && true) && true):=rfl;rw[e,aIu _ _ _ (dJ rfl)];simp only[iM,List.all_nil,YZ,MW,aI ha,aI hd,vN]
theorem aSR(K af dl:Int):acx (LW K af dl):=λb hb=>by rw[bo.1 (show b∈ [([fS K],(af,(dl,(0,()))))] from hb)];exact⟨aqN (atw K) axw,u0⟩
theorem aHJ:Sm acs:=⟨cg,λx hx=>by rw[(rQ.1 (show x∈ab 32 (0:Int) from hx)).2];exact⟨by decide,by decide⟩⟩
theorem aN2(K:Int):gO (TW K)=true:=by
 have e2:xA 0 (TW K).2.1=(((rU 0 && (rU 90 && true)) && kq (LW K 0 0)) && true):=rfl;have e1:DF [] (TW K).1=true:=by show DF [] [((acs,((0:Int),())),(((0:Int),(([]:List Sg),((0:Int),()))),()))]=true;rw[DF,DF];rfl
 unfold gO;rw[e1,e2,aRr K ⟨by decide,by decide⟩ ⟨by decide,by decide⟩];rfl
theorem aUp(K:Int):qv (TW K):=by
 refine⟨⟨λo ho=> ?_,by show 1<=_;decide,by show 1<=_;decide⟩,λx hx=> ?_,by show(0:Int)<=_;decide⟩
 ·rw[bo.1 (show o∈ [((90:Int),(LW K 0 0,()))] from ho)];exact⟨aSR K 0 0,by show 1<=_;decide⟩
 ·rw[bo.1 (show x∈ [((acs,((0:Int),())),(((0:Int),(([]:List Sg),((0:Int),()))),()))] from hx)];exact⟨aHJ,⟨λs hs=>(by cases hs),u0⟩,aM _⟩
theorem aQL{K:Int}(hk:KW K):FA (TW K) 0 0 [K]=true:=by unfold FA;rw[aN2,aI ⟨by decide,by show(0:Int) < ((1:Nat):Int);decide,by decide,by decide,dJ rfl⟩];simp only[lv,tn,Mb];have:=hk.1;have:=hk.2;rw[aT ak];rfl
theorem zW{K:Int}(hk:KW K):gO (UW K)=true/\qv (UW K)/\nR (UW K)=nR (TW K)/\dM (UW K)=dM (TW K)/\gM (UW K)=gM (TW K):=aGp (aUp K) (aQL hk) u0
theorem aRx{K:Int}(hk:KW K):dM (UW K)=[(acs,((0:Int),()))]:=by rw[(zW hk).2.2.2.1];unfold dM;rw[if_pos (aN2 K)];rfl
theorem aSS{K:Int}(hk:KW K):gM (UW K)=[(nR (TW K),((0:Int),()))]:=by rw[(zW hk).2.2.2.2];unfold gM;rw[if_pos (aN2 K)];rfl
theorem aVr(K:Int):(UW K).1=[((acs,((0:Int),())),(((((0:Nat):Int),([K].map (λk=>mh k (nR (TW K))),((0:Int),())))),()))]:=rfl
theorem aSZ{K:Int}(hk:KW K)(af dl:Int)(ha:0<=af/\af<=1048576)(hd:0<=dl/\dl<=1048576)(m:List Int)(h a:Int):
  xQ (LW K af dl) (((0:Nat):Int),([K].map (λk=>mh k m),((0:Int),()))) m h a=if h < af\/a < dl then 11 else 0:=
 (aKl (l:=LW K af dl) (i:=0) (b:=([K].map fS,af,dl,0,())) (aRr K ha hd) (by show 0 < 1;decide) rfl _ _ _ _ _).trans (ait [K] (aQA hk) af dl 0 0 m h a (.inl rfl))
theorem gW(K af dl:Int):cd aW (acs,((0:Int),())) (AW K af dl)=some (((100:Int),(LW K af dl,())),((0:Int),())):=by unfold AW KD;rw[fD];exact if_pos ((va _ _).2 rfl)
theorem nW(K af dl:Int)(m:List Int)(hm:¬m=acs):cd aW (m,((0:Int),())) (AW K af dl)=none:=by unfold AW KD;rw[fD,if_neg,sP];intro e;have:=(va _ _).1 e;exact hm (bm (λo:bu=>o.1) this)
theorem aQu{h:Int}{m:List Int}{a:At}{x:gz}{c:dS}(hg:cd aW x.1 a=some c):w8 h m a [x] 0=if xQ c.1.2.1 x.2.1 m h (h - c.2.1)≠0 then .inl (xQ c.1.2.1 x.2.1 m h (h - c.2.1)) else .inr (0+c.1.1):=by simp only[w8,hg]
theorem aUy{K:Int}(hk:KW K)(gj:¬nR (TW K)=acs){af dl h:Int}(ha:0<=af/\af<=1048576)(hd:0<=dl/\dl<=1048576)(h1:1<=h)(h2:h<=1048576):eH (UW K) h (AW K af dl)=if h < af\/h < dl then(0,11) else(10,0):=by
 have aT1:=aSS hk;have alT:=aVr K;have cT:=(zW hk).2.2.1;have de:=aSZ hk af dl ha hd;generalize nR (TW K)=m at gj aT1 alT cT;unfold eH;rw[if_pos ⟨(zW hk).1,h1,h2⟩,alT,cT];have e0:h - ((0:Int))=h:=ak;have e:w8 h m (AW K af dl) [((acs,((0:Int),())),(((((0:Nat):Int),([K].map (λk=>mh k m),((0:Int),())))),()))] 0=if h < af\/h < dl then .inl 11 else .inr 100:=by
  refine(aQu (gW K af dl)).trans ?_
  show(if xQ (LW K af dl) (((0:Nat):Int),([K].map (λk=>mh k m),((0:Int),()))) m h (h - 0)≠0 then(.inl (xQ (LW K af dl) (((0:Nat):Int),([K].map (λk=>mh k m),((0:Int),()))) m h (h - 0)):Int⊕Int) else .inr (0+100))=_;rw[e0,de];by_cases hh:h < af\/h < dl
  ·rw[if_pos hh,if_pos hh,if_pos (by decide)]
  ·rw[if_neg hh,if_neg hh,if_neg (λe=>e rfl)];rfl
 rw[e,aT1];by_cases hh:h < af\/h < dl
 ·rw[if_pos hh,if_pos hh]
 ·rw[if_neg hh,if_neg hh];have n1:([(m,((0:Int),()))]:List bu).any (pX (AW K af dl))=false:=by simp only[lv,tn,pX,nW K af dl m gj,Option.isSome_none,qJ]
  simp only[n1,bF,bq];rfl
theorem aUv{K:Int}(hk:KW K)(af dl h:Int):fi (UW K) h (AW K af dl)=BW K h:=by
 unfold fi BW;rw[aRx hk,aSS hk];generalize nR (TW K)=m;have e:yE [(acs,((0:Int),()))] (AW K af dl)=[]:=by exact als
 rw[e];rfl
theorem aUm{K:Int}(hk:KW K)(af dl:Int):stepOf (UW K) (AW K af dl)=([((acs,((0:Int),())),((((100:Int),(LW K af dl,())),((0:Int),())),()))],([(nR (TW K),((0:Int),()))],())):=by unfold stepOf;rw[aRx hk,aSS hk];rw[aw4 (gW K af dl)]
theorem aVG{K:Int}(hk:KW K)(af dl h:Int):xt (BW K h) (stepOf (UW K) (AW K af dl))=AW K af dl:=by
 rw[aUm hk];unfold xt BW;generalize nR (TW K)=m;have e:yE [(m,((0:Int),()))] [((m,((0:Int),())),(((90:Int),(LW K 0 0,())),(h,())))]=[]:=by exact als
 rw[e];rfl
theorem aTF(K:Int){af dl:Int}(ha:0<=af/\af<=1048576)(hd:0<=dl/\dl<=1048576):Ee 0 0 (AW K af dl) []:=by refine⟨⟨c9.2 ⟨λh=>(by cases h),gr⟩,λp hp=> ?_⟩,ax _,ax _,λst h=>(by cases h),by show(100+0:Int)<=_;decide,by show 1<=_;decide⟩;rw[bo.1 (show p∈ [KD 0 ((100:Int),(LW K af dl,()))] from hp)];exact⟨aHJ,aRr K ha hd,aSR K af dl,by show(0:Int)<=100;decide,by show(100:Int)<=_;decide,iQ 0,by show(0:Int)<=_;decide⟩
theorem aSV(K:Int){af dl:Int}(ha:0<=af/\af<=1048576)(hd:0<=dl/\dl<=1048576):Mn [((100:Int),(LW K af dl,()))]=some (.inr (AW K af dl,[],[])):=by
 have e:ax1 [((100:Int),(LW K af dl,()))]=some (AW K af dl):=by
  unfold ax1;rw[if_pos (dJ rfl)];have e0:Nl 0 ((100:Int),(LW K af dl,()))=true:=by unfold Nl;rw[aRr K ha hd];rfl
  rw[ain,e0];rfl
 rw[awj (d:=[((100:Int),(LW K af dl,()))]) (λo ho=>by
  rw[bo.1 ho];exact⟨aSR K af dl,by show 1<=_;decide,by show(100:Int)<=_;decide⟩)]
 simp only[OA,e];rfl
theorem aQK{K:Int}(hk:KW K):uZ.call (TW K,0,0,[K],0)=some (UW K,0):=by rw[az9 (d:=(TW K,0,0,[K],0)) ⟨aUp K,λx hx=>by rw[bo.1 hx];have:=hk.1;have:=hk.2;exact⟨ak,ak⟩,by show 1<=1000000000;decide⟩];simp only[bn,ajv,aGo,aQL hk,bH];rfl
def zL(h:Int)(p:Bs)(l:List dD)(fill:Int):dv:=(h,(p,(l,(fill,([],())))))
theorem agB{h:Int}{p:Bs}{l:List dD}{fill:Int}(hh:h<=1048576)(hp:p.length=32)(hf:0<=fill/\fill<=10)(hl:l.length<=1)(hv:∀t∈l,qv t/\gO t=true):VP (zL h p l fill)/\amV (zL h p l fill)=zL h p l fill:=by have hb:atn (zL h p l fill):=⟨⟨by show l.length<=_;omega,λt ht=>(hv t ht).1⟩,⟨by show h<=_;omega,hp,by show fill<=_;omega⟩,aM _,λo ho=>(by cases ho)⟩;exact⟨⟨hb,by show l.length<=_;omega,λt ht=>gD (jv (hv t ht).2).1.2.1 (by decide)⟩,aiy hb λt ht=>(hv t ht).2⟩
theorem aPs{x:bu×dS}:iJ [x]=[x]:=List.perm_singleton.1 (wW [x])
theorem aVK{K:Int}(hk:KW K):FW (UW K)=36:=by unfold FW;rw[if_pos (zW hk).1];rfl
theorem aRL(h:Int)(p:Bs)(l:List dD)(fill:Int)(t:dD):avw (zL h p l fill) t=false:=by unfold avw;rw[jb];intro x _ e;cases e
theorem aQC{h:Int}{p:Bs}{fill:Int}{a:At}(h1:1<=h)(h2:h<=1048576)(hf:0<=fill/\fill<=10):sR (zL h p [] fill) a=(0,0):=by
 have f1:Hz h fill=true:=by unfold Hz;exact aI ⟨h1,h2,ak,ak⟩
 have w1:aON (zL h p [] fill)=fill:=rfl;unfold sR;rw[if_pos (show Hz (zL h p [] fill).1 (zL h p [] fill).2.2.2.1=true from f1),w1,if_neg ak];rfl
theorem aQD{K:Int}(hk:KW K){h:Int}{p:Bs}{fill:Int}{x:bu×dS}(h1:1<=h)(h2:h<=1048576)(hf:0<=fill/\fill<=10):sR (zL h p [UW K] fill) [x]=eH (UW K) h [x]:=by
 have f1:Hz h fill=true:=by unfold Hz;exact aI ⟨h1,h2,ak,ak⟩
 have w1:aON (zL h p [UW K] fill)=fill+FW (UW K):=rfl;unfold sR;rw[if_pos (show Hz (zL h p [UW K] fill).1 (zL h p [UW K] fill).2.2.2.1=true from f1),w1,aVK hk,if_neg ak];show(Q8 (zL h p [UW K] fill) h [UW K] [x]).2=_;unfold Q8;rw[aPs,Be,aRL];simp only[bF,bq];by_cases hc:(eH (UW K) h [x]).2=0
 ·rw[if_neg (λe=>e hc),Be];exact Prod.ext (by show(0:Int)+_=_;omega) hc.symm
 ·rw[if_pos hc];exact Prod.ext (apP hc).symm rfl
theorem aH1{h:Int}{p:Bs}{fill:Int}{nb:Nat}{S:aAR}{bs:List dv}(hp:p=rb nb bs)(hh:h=(nb:Int)+1)(h2:h<=1048576)(hl:p.length=32)(hf:0<=fill/\fill<=10):lO (zL h p [] fill) nb S bs=(0,nb+1,S.1,S.2.1,S.2.2,bs.take nb++ [zL h p [] fill]):=by have e:=(agB (l:=[]) h2 hl hf (by decide) (λt ht=>(by cases ht))).2;unfold lO;rw[if_pos (show(zL h p [] fill).2.1=rb nb bs/\(zL h p [] fill).1=(nb:Int)+1 from⟨hp,hh⟩),aQC ak h2 hf,if_pos rfl,e];rfl
theorem aRF{K:Int}(hk:KW K){h:Int}{p:Bs}{fill:Int}{nb n:Nat}{x:bu×dS}{s:List bY}{bs:List dv}(hp:p=rb nb bs)(hh:h=(nb:Int)+1)(h2:h<=1048576)(hl:p.length=32)(hf:0<=fill/\fill<=10):lO (zL h p [UW K] fill) nb (n,[x],s) bs=
  if(eH (UW K) h [x]).2=0 then(0,nb+1,n+1,fi (UW K) h [x],s.take n++ [stepOf (UW K) [x]],bs.take nb++ [zL h p [UW K] fill]) else((eH (UW K) h [x]).2,nb,n,[x],s,bs):=by
 have e:=(agB (l:=[UW K]) h2 hl hf (by show 1<=1;decide) (λt ht=>by rw[bo.1 ht];exact⟨(zW hk).2.1,(zW hk).1⟩)).2;unfold lO;rw[if_pos (show(zL h p [UW K] fill).2.1=rb nb bs/\(zL h p [UW K] fill).1=(nb:Int)+1 from⟨hp,hh⟩),aQD hk ak h2 hf,e];by_cases hc:(eH (UW K) h [x]).2=0
 ·rw[if_pos hc,if_pos hc];have eb:avW (zL h p [UW K] fill) (n,[x],s)=akc h (n,[x],s) (UW K):=rfl;rw[eb];unfold akc;rw[if_neg (λe=>e hc)]
 ·rw[if_neg hc,if_neg hc]
theorem aIF{n nb:Nat}{a:At}{s:List bY}{bs:List dv}(h:aoR nb bs):KC.call (nb,n,a,s,bs)=some ((nb,n,a,s,bs),rb nb bs):=aew (d:=(nb,n,a,s,bs)) h
theorem XQ{n nb:Nat}{a:At}{s:List bY}{bs:List dv}:oG.call (nb,n,a,s,bs)=some ((nb,n,a,s,bs),(nb:Int)):=Ex (d:=(nb,n,a,s,bs)) trivial
theorem BA(b:dv):(apq b).length=32:=(aja _ _).1
theorem A7(nb:Nat)(bs:List dv):(rb nb bs).length=32:=by
 unfold rb;split
 ·exact cg
 ·exact BA _
theorem aIA{nb:Nat}{bs:List dv}{b:dv}(h:aoR nb bs)(hn:nb<=1000)(hb:atn b):aoR (nb+1) (bs.take nb++ [b]):=by
 have h1:nb<=bs.length:=h.1;refine⟨by rw[ai,bt];show nb+1<=min nb bs.length+1;omega,ak,λx hx=> ?_⟩;rcases bE.1 hx with hx | hx
 ·exact h.2.2 x (fa hx)
 ·rw[bo.1 hx];exact hb
theorem aUn{K:Int}(hk:KW K){h:Int}{p:Bs}{fill:Int}(hh:h<=1048576)(hp:p.length=32)(hf:0<=fill/\fill<=10):VP (zL h p [UW K] fill):=(agB hh hp hf (by show 1<=1;decide) (λt ht=>by rw[bo.1 ht];exact⟨(zW hk).2.1,(zW hk).1⟩)).1
theorem aRQ{h:Int}{p:Bs}{fill:Int}(hh:h<=1048576)(hp:p.length=32)(hf:0<=fill/\fill<=10):VP (zL h p [] fill):=(agB hh hp hf (by decide) (λt ht=>(by cases ht))).1
theorem aVC{K:Int}(hk:KW K)(af dl:Int):agr (stepOf (UW K) (AW K af dl)):=by rw[aUm hk];exact⟨by show 1<=_;decide,by show 1<=_;decide⟩
theorem aVs:¬nR (TW 7)=acs:=aSU
theorem aLI:(0:Int)<=0/\(0:Int)<=1048576:=⟨by decide,by decide⟩
theorem aHO:(0:Int)<=0/\(0:Int)<=10:=⟨by decide,by decide⟩
def sW(K:Int):bY:=stepOf (UW K) (AW K 0 0)
theorem aRN{b c:dv}(hb:atn b)(hc:atn c):aoR 2 [b,c]:=⟨ax _,by decide,λx hx=>by
 rcases cn.1 hx with rfl | hx
 ·exact hb
 ·rw[bo.1 hx];exact hc⟩
theorem aUx{K:Int}(hk:KW K)(gj:¬nR (TW K)=acs)(h:Int)(h1:1<=h)(h2:h<=1048576):eH (UW K) h (AW K 0 0)=(10,0):=by rw[aUy hk gj aLI aLI h1 h2,if_neg ak]
theorem aTE{K:Int}(hk:KW K)(gj:¬nR (TW K)=acs){h:Int}{p:Bs}{nb n:Nat}{s:List bY}{bs:List dv}(hp:p=rb nb bs)(hh:h=(nb:Int)+1)(h2:h<=1048576)(hl:p.length=32):lO (zL h p [UW K] 0) nb (n,AW K 0 0,s) bs=(0,nb+1,n+1,BW K h,s.take n++ [sW K],bs.take nb++ [zL h p [UW K] 0]):=by have e:=aRF hk (h:=h) (p:=p) (fill:=0) (nb:=nb) (n:=n) (x:=KD 0 ((100:Int),(LW K 0 0,()))) (s:=s) (bs:=bs) hp hh h2 hl aHO;rw[show([KD 0 ((100:Int),(LW K 0 0,()))]:At)=AW K 0 0 from rfl,aUx hk gj h ak h2,if_pos rfl,aUv hk]at e;exact e
theorem aVz{K:Int}(hk:KW K):Ee 400 0 (AW K 0 0) [sW K]:=by have h:=aTF K aLI aLI;exact⟨h.CF,aM _,by show 1<=_;decide,λst mn=>by rw[bo.1 mn];exact aVC hk 0 0,h.sum,by show 1<=_;decide⟩
def sw(a a':At):Prop:=∀o,cd aW o a=cd aW o a'
theorem sw.refl(a:At):sw a a:=λ_=>rfl
theorem sw.symm{a b:At}(h:sw a b):sw b a:=λo=>(h o).symm
theorem sw.trans{a b c:At}(h:sw a b)(h':sw b c):sw a c:=λo=>(h o).trans (h' o)
theorem sw.perm{a b:At}(h:sw a b)(ha:(eD a).Nodup)(hb:(eD b).Nodup):a.Perm b:=aLG ha hb h
theorem aC6{a b:At}(hb:(eD b).Nodup)(h:a.Perm b):sw a b:=λo=>aFd hb h o
theorem sw.del{a b:At}(h:sw a b)(ha:(eD a).Nodup)(hb:(eD b).Nodup)(l:List bu):sw (yE l a) (yE l b):=λo=>by
 rw[YC o l ha,YC o l hb,h o]
theorem JV(e:Ww)(l:List Ww)(a:At):aaa (e::l) a=aaa l (eL aW e.1 e.2.1 a):=rfl
theorem sw.set{a b:At}(h:sw a b)(o:bu)(c:dS):sw (eL aW o c a) (eL aW o c b):=λx=>by rw[aw7,aw7,h x]
theorem sw.put:∀(l:List Ww) {a b:At},sw a b->sw (aaa l a) (aaa l b)
 |[],_,_,h=>h
 |e::l,a,b,h=>by rw[JV,JV];exact sw.put l (h.set _ _)
theorem aab:∀(l:List Ww) {a:At},(eD a).Nodup->(eD (aaa l a)).Nodup
 |[],_,h=>h
 |e::l,a,h=>by rw[JV];exact aab l (MS h)
theorem aoF{a:At}(h:(eD a).Nodup)(st:bY):(eD (xt a st)).Nodup:=aab _ (EN _ h)
theorem sw.aQT{a b:At}(h:sw a b)(ha:(eD a).Nodup)(hb:(eD b).Nodup)(st:bY):sw (xt a st) (xt b st):=sw.put _ (h.del ha hb _)
theorem sw.add(h:Int):∀(l:List bu) (xs:List gG) {a b:At},sw a b->sw (Ma h l xs a) (Ma h l xs b)
 |[],[],_,_,e=>e
 |[],_::_,_,_,e=>e
 |_::_,[],_,_,e=>e
 |o::l,x::xs,a,b,e=>by rw[zK,zK];exact sw.add h l xs (e.set _ _)
theorem sw.apply{a b:At}(e:sw a b)(ha:(eD a).Nodup)(hb:(eD b).Nodup)(t:dD)(h:Int):sw (fi t h a) (fi t h b):=sw.add h _ _ (e.del ha hb _)
theorem sw.ins{a b:At}(e:sw a b)(h:Int)(id:List Int):∀(l:List gz) (f:Int),w8 h id a l f=w8 h id b l f
 |[],_=>rfl
 |x::l,f=>by
  simp only[w8,e x.1];cases cd aW x.1 b with
  |none=>rfl
  |some c=>simp only[sw.ins e h id l]
theorem sw.check{a b:At}(e:sw a b)(t:dD)(h:Int):eH t h a=eH t h b:=by
 have e2:pX a=pX b:=funext λo=>by unfold pX;rw[e o]
 unfold eH;rw[e.ins,e2]
theorem aLH(x:bu):∀(l:List bu) {a:At} (b:At),(eD a).Nodup->l.Nodup->(∀o∈l,(cd aW o a).isSome=true)->cd aW x (aaa (uW a l) b)=if x∈l then cd aW x a else cd aW x b
 |[],a,b,_,_,_=>by rw[if_neg (by simp)];rfl
 |o::l,a,b,hn,hl,ht=>by
  rw[c9]at hl;obtain⟨c,hc⟩:=bQ.1 (ht o aO);have ht':∀y∈l,(cd aW y (fT aW o a)).isSome=true:=λy hy=>by rw[alL y o hn,if_neg (λe=>hl.1 (by rw[<-e];exact hy))];exact ht y (aJ _ hy)
  rw[uW,JV,aLH x l _ (oQ hn) hl.2 ht',alL x o hn,hc];by_cases h1:x∈l
  ·have h2:¬x=o:=λe=>hl.1 (by rw[<-e];exact h1)
   rw[if_pos h1,if_neg h2,if_pos (aJ _ h1)]
  ·rw[if_neg h1];show cd aW x (eL aW o c b)=_;rw[aw7];by_cases h2:x=o
   ·subst h2;rw[if_pos rfl,if_pos aO,hc]
   ·rw[if_neg h2,if_neg (by simp[h1,h2])]
theorem as8{t:dD}{h nZ:Int}{a:At}(hc:u5 t h a nZ)(ha:(eD a).Nodup):sw (xt (fi t h a) (stepOf t a)) a:=λo=>by
 unfold xt stepOf;rw[aLH o (dM t) _ ha (QO t) hc.there];by_cases h1:o∈dM t
 ·rw[if_pos h1]
 ·rw[if_neg h1];show cd aW o (yE (gM t) (fi t h a))=_;rw[YC o _ (ig ha)];by_cases h2:o∈gM t
  ·rw[if_pos h2,hc.made o h2]
  ·rw[if_neg h2,Ob ha h1 h2]
section
abbrev ajZ:=List (dD×Int)
def lY:At->ajZ->At
 |a,[]=>a
 |a,x::l=>lY (fi x.1 x.2 a) l
def mi:At->ajZ->List bY
 |_,[]=> []
 |a,x::l=>stepOf x.1 a::mi (fi x.1 x.2 a) l
def tl:At->ajZ->Prop
 |_,[]=>True
 |a,x::l=>(eH x.1 x.2 a).2=0/\qv x.1/\tl (fi x.1 x.2 a) l
theorem Ek:∀(l l':ajZ) (a:At),lY a (l++l')=lY (lY a l) l'
 |[],_,_=>rfl
 |x::l,l',a=>Ek l l' (fi x.1 x.2 a)
theorem FD:∀(l l':ajZ) (a:At),mi a (l++l')=mi a l++mi (lY a l) l'
 |[],_,_=>rfl
 |x::l,l',a=>by show stepOf x.1 a::mi (fi x.1 x.2 a) (l++l')=_;rw[FD l l'];rfl
theorem abk:∀(l:ajZ) (a:At),(mi a l).length=l.length
 |[],_=>rfl
 |x::l,a=>bm (· +1) (abk l (fi x.1 x.2 a))
theorem EC:∀(l l':ajZ) (a:At),tl a (l++l')↔tl a l/\tl (lY a l) l'
 |[],_,_=>⟨λh=>⟨trivial,h⟩,λh=>h.2⟩
 |x::l,l',a=>by have ih:=EC l l' (fi x.1 x.2 a);exact⟨λh=>⟨⟨h.1,h.2.1,(ih.1 h.2.2).1⟩,(ih.1 h.2.2).2⟩,λh=>⟨h.1.1,h.1.2.1,ih.2 ⟨h.1.2.2,h.2⟩⟩⟩
theorem R2:∀ {l:ajZ} {a:At},tl a l->∀x∈l,gO x.1=true/\qv x.1
 |[],_,_,_,hx=>(by cases hx)
 |x::l,a,h,y,hy=>by
  rcases cn.1 hy with rfl | hy
  ·exact⟨(Jt h.1).1,h.2.1⟩
  ·exact R2 h.2.2 y hy
theorem X1:∀ {l:ajZ} {a:At},tl a l->∀st∈mi a l,agr st
 |[],_,_,_,hx=>(by cases hx)
 |x::l,a,h,y,hy=>by
  rcases cn.1 hy with rfl | hy
  ·exact aoh (OK h.1)
  ·exact X1 h.2.2 y hy
theorem X2:∀(l:ajZ) {n:Nat} {a:At} {s:List bY},s.length=n->Ee n n a s->tl a l->Ee (n+l.length) (n+l.length) (lY a l) (s++mi a l)
 |[],n,a,s,_,hg,_=>by show Ee n n a (s++ []);rw[bk];exact hg
 |x::l,n,a,s,hs,hg,hc=>by have h1:=hg.app (OK hc.1) hc.2.1;rw[aX ak]at h1;have:=X2 l (s:=s++ [stepOf x.1 a]) (by rw[ai,hs];rfl) h1 hc.2.2;rw[aD,show n+1+l.length=n+(l.length+1) by omega]at this;exact this
theorem sw.gone:∀(l:List bu) {a b:At},sw a b->(eD a).Nodup->(eD b).Nodup->uW a l=uW b l
 |[],_,_,_,_,_=>rfl
 |o::l,a,b,e,ha,hb=>by rw[uW,uW,e o,sw.gone l (a:=fT aW o a) (b:=fT aW o b) (λx=>by rw[alL x o ha,alL x o hb,e x]) (oQ ha) (oQ hb)]
theorem sw.step{a b:At}(e:sw a b)(ha:(eD a).Nodup)(hb:(eD b).Nodup)(t:dD):stepOf t a=stepOf t b:=by unfold stepOf;rw[e.gone _ ha hb]
theorem tx:∀(l:ajZ) {a:At},(eD a).Nodup->(eD (lY a l)).Nodup
 |[],_,h=>h
 |_::l,_,h=>tx l (ig h)
theorem sw.lY:∀(l:ajZ) {a b:At},sw a b->(eD a).Nodup->(eD b).Nodup->sw (lY a l) (Ab.lY b l)
 |[],_,_,e,_,_=>e
 |_::l,_,_,e,ha,hb=>sw.lY l (e.apply ha hb _ _) (ig ha) (ig hb)
theorem sw.mi:∀(l:ajZ) {a b:At},sw a b->(eD a).Nodup->(eD b).Nodup->mi a l=Ab.mi b l
 |[],_,_,_,_,_=>rfl
 |x::l,a,b,e,ha,hb=>by show stepOf x.1 a::Ab.mi (fi x.1 x.2 a) l=stepOf x.1 b::Ab.mi (fi x.1 x.2 b) l;rw[e.step ha hb,sw.mi l (e.apply ha hb _ _) (ig ha) (ig hb)]
theorem sw.ap3:∀(l:ajZ) {a b:At},sw a b->(eD a).Nodup->(eD b).Nodup->tl a l->tl b l
 |[],_,_,_,_,_,_=>trivial
 |x::l,a,b,e,ha,hb,h=>⟨by rw[<-e.check];exact h.1,h.2.1,sw.ap3 l (e.apply ha hb _ _) (ig ha) (ig hb) h.2.2⟩
theorem azL{s q:List bY}{st:bY}{n:Nat}(hn:n<=s.length)(h:s.take n=q++ [st]):n=q.length+1/\nth cE s (n - 1)=st/\s.take (n - 1)=q:=by
 have hl:n=q.length+1:=by have:=bm ag h;rw[bt,ai]at this;simp only[aA,aY]at this;omega
 subst hl;have h1:q.length < s.length:=ak;have e:s.take (q.length+1)=s.take q.length++ [s[q.length]]:=by rw[List.take_add_one,bP h1];rfl
 rw[e]at h;obtain⟨h2,h3⟩:=List.append_inj' h rfl;refine⟨rfl,?_,h2⟩;rw[iG,bW (t:=cE) h1];exact(List.cons.inj h3).1
theorem ab4:∀(k:Nat) (l:ajZ) {a0 a:At} {n:Nat} {s p:List bY},l.length=k->tl a0 l->(eD a0).Nodup->(eD a).Nodup->sw a (lY a0 l)->n<=s.length->s.take n=p++mi a0 l->
  ∃a',Eb k (n,a,s)=(true,n - k,a',s)/\sw a' a0/\(eD a').Nodup/\s.take (n - k)=p/\k<=n
 | 0,l,a0,a,n,s,p,hl,_,_,ha,he,_,hs=>by obtain rfl:=bC hl;exact⟨a,rfl,he,ha,by rw[show mi a0 []=[] from rfl,bk]at hs;exact hs,aM _⟩
 |k+1,l,a0,a,n,s,p,hl,hc,h0,ha,he,hn,hs=>by
  have gj:l≠ []:=λe=>by rw[e]at hl;cases hl
  have el:=List.dropLast_concat_getLast gj;generalize l.getLast gj=x at el;generalize hl':l.dropLast=l' at el;have hk:l'.length=k:=by rw[<-hl',List.length_dropLast];omega
  subst el;obtain⟨c1,c2⟩:=(EC l' [x] a0).1 hc;rw[FD,<-aD]at hs;obtain⟨e1,e2,e3⟩:=azL hn hs;rw[Ek]at he;have hn':=tx l' h0;have e4:sw (xt a (stepOf x.1 (lY a0 l'))) (lY a0 l'):=(he.aQT ha (ig hn') _).trans (as8 (OK c2.1) hn');obtain⟨a',f1,f2,f3,f4,f5⟩:=ab4 k l' (a:=xt a (stepOf x.1 (lY a0 l'))) (n:=n - 1) (s:=s) (p:=p) hk c1 h0 (aoF ha _) e4 ak e3;refine⟨a',?_,f2,f3,by rw[show n - (k+1)=n - 1 - k by omega];exact f4,ak⟩;have aJs:¬n=0:=ak;rw[Eb,if_neg (show ¬(n,a,s).1=0 from aJs)];show Eb k (n - 1,xt a (nth cE s (n - 1)),s)=_;rw[e2,f1,show n - 1 - k=n - (k+1) by omega]
def aG9(b:dv):ajZ:=b.2.2.1.map λt=>(t,b.1)
def KU(bs:List dv):ajZ:=bs.flatMap aG9
theorem JD(l l':List dv):KU (l++l')=KU l++KU l':=List.flatMap_append
theorem JE(b:dv):KU [b]=aG9 b:=bk _
theorem aoG(b:dv)(h:Int):∀(l:List dD) (k fees:Int) (a:At) (x:Int×Int×Int),Be b h l k fees a= .inl x->x.2.2≠0
 |[],_,_,_,_,e=>by rw[Be]at e;cases e
 |t::l,k,fees,a,x,e=>by
  rw[Be]at e;split at e
  ·obtain rfl:=Sum.inl.inj e;show(14:Int)≠0;decide
  ·split at e
   ·rename_i h2;obtain rfl:=Sum.inl.inj e;exact h2
   ·exact aoG b h l _ _ _ x e
theorem ab7(b:dv)(h:Int):∀(l:List dD) (k fees:Int) (a:At) (f:Int),(∀t∈l,qv t)->Be b h l k fees a= .inr f->tl a (l.map λt=>(t,h))
 |[],_,_,_,_,_,_=>trivial
 |t::l,k,fees,a,f,hv,e=>by
  rw[Be]at e;split at e
  ·cases e
  ·split at e
   ·cases e
   ·rename_i h2;exact⟨Decidable.not_not.1 h2,hv t aO,ab7 b h l _ _ _ f (λy hy=>hv y (aJ _ hy)) e⟩
theorem aem{a:At}(ha:(eD a).Nodup):sw (iJ a) a/\(eD (iJ a)).Nodup:=by have hp:=wW a;exact⟨aC6 ha hp,(hp.map _).nodup_iff.2 ha⟩
theorem arn{b:dv}{a:At}(hb:VP b)(ha:(eD a).Nodup)(e:(sR b a).2=0):tl a (aG9 b):=by
 obtain⟨c1,c2⟩:=aem ha;unfold sR at e;split at e
 ·split at e
  ·cases e
  ·have e:(Q8 b b.1 b.2.2.1 a).2.2=0:=e;unfold Q8 at e;split at e
   ·rename_i x hx;exact absurd e (aoG _ _ _ _ _ _ _ hx)
   ·rename_i f hf;exact c1.ap3 _ c2 ha (ab7 _ _ _ _ _ _ _ hb.1.1.2 hf)
 ·cases e
theorem aek(h:Int):∀(l:List dD) {n:Nat} {a:At} {s:List bY},tl a (l.map λt=>(t,h))->n<=s.length->
  ∃s',l.foldl (akc h) (n,a,s)=(n+l.length,lY a (l.map λt=>(t,h)),s')/\s'.take (n+l.length)=s.take n++mi a (l.map λt=>(t,h))/\n+l.length<=s'.length/\(s'.length<=s.length\/s'.length<=n+l.length)/\∀st∈s',st∈s\/st∈mi a (l.map λt=>(t,h))
 |[],n,a,s,_,hn=>⟨s,rfl,(bk _).symm,hn,.inl (ax _),λst h=> .inl h⟩
 |t::l,n,a,s,hc,hn=>by
  obtain⟨c1,c2,c3⟩:=hc;have e:akc h (n,a,s) t=(n+1,fi t h a,s.take n++ [stepOf t a]):=if_neg (λx=>x c1);have hl:(s.take n++ [stepOf t a]).length=n+1:=by rw[ai,bt];simp only[aA,aY];omega
  obtain⟨s',e1,e2,e3,e4,e5⟩:=aek h l (n:=n+1) (a:=fi t h a) (s:=s.take n++ [stepOf t a]) c3 ak;have en:n+1+l.length=n+(t::l).length:=by rw[aA];omega
  rw[en]at e1 e2 e3 e4;refine⟨s',?_,?_,e3,.inr ak,λst mn=> ?_⟩
  ·rw[bp,e];exact e1
  ·rw[e2,aX ak,aD];rfl
  ·rcases e5 st mn with h1 | h1
   ·rcases bE.1 h1 with h2 | h2
    ·exact .inl (fa h2)
    ·exact .inr (by rw[bo.1 h2];exact aO)
   ·exact .inr (aJ _ h1)
structure uQ(A0:At)(m nb n:Nat)(a:At)(s:List bY)(bs:List dv):Prop where
 aNF:Ee 0 0 A0 []
 ch:aoR nb bs
 amI:(eD a).Nodup
 aOP:tl A0 (KU (bs.take nb))
 eqv:sw a (lY A0 (KU (bs.take nb)))
 aGF:s.take n=mi A0 (KU (bs.take nb))
 le:n<=s.length
 len:s.length<=m
 aQQ:∀st∈s,agr st
section
variable {A0:At} {m nb n:Nat} {a:At} {s:List bY} {bs:List dv}
theorem uQ.aTk(h:uQ A0 m nb n a s bs){m':Nat}(hm:m<=m'):Ee m' n a s:=by
 have hg:=X2 (KU (bs.take nb)) (n:=0) (s:=[]) rfl h.aNF h.aOP;have hp:=h.eqv.perm h.amI hg.CF.1;have hn:n=(KU (bs.take nb)).length:=by have:=bm ag h.aGF;rw[abk,bt]at this;have:=h.le;omega
 exact⟨hg.CF.perm hp.symm,h.le,gD h.len hm,h.aQQ,by rw[RE hp];exact hg.sum,by rw[hp.length_eq];have:=hg.aQ6;have:=h.le;have:=h.len;omega⟩
theorem uQ.mono(h:uQ A0 m nb n a s bs){m':Nat}(hm:m<=m'):uQ A0 m' nb n a s bs:=⟨h.aNF,h.ch,h.amI,h.aOP,h.eqv,h.aGF,h.le,gD h.len hm,h.aQQ⟩
theorem uQ.new(h:Ee 0 0 A0 []):uQ A0 0 0 0 A0 [] []:=⟨h,⟨ax _,by decide,λb hb=>(by cases hb)⟩,h.CF.1,trivial,sw.refl _,rfl,ax _,ax _,λst mn=>(by cases mn)⟩
theorem uQ.aSY(h:uQ A0 m nb n a s bs){b:dv}(hb:b∈bs.take nb){t:dD}(ht:t∈b.2.2.1):gO t=true/\qv t:=R2 h.aOP (t,b.1) (pM.2 ⟨b,hb,db.2 ⟨t,ht,rfl⟩⟩)
theorem uQ.pre(h:uQ A0 m nb n a s bs){b:dv}(hb:VP b)(hm:m<=400):RV (b,nb,n,a,s,bs):=⟨hb,h.aTk hm,h.ch⟩
theorem uQ.aRG(h:uQ A0 m nb n a s bs){b:dv}(hb:VP b)(hm:m<=400):F9.call (b,nb,n,a,s,bs)=some (lO b nb (n,a,s) bs):=aep (d:=(b,nb,n,a,s,bs)) (h.pre hb hm)
theorem uQ.add(h:uQ A0 m nb n a s bs){b:dv}(hb:VP b){m':Nat}(hm:m+b.2.2.1.length<=m')(aO0:nb<=1000):
  (∃e,e≠0/\lO b nb (n,a,s) bs=(e,nb,n,a,s,bs))\/
  ∃n' a' s',lO b nb (n,a,s) bs=(0,nb+1,n',a',s',bs.take nb++ [b])/\uQ A0 m' (nb+1) n' a' s' (bs.take nb++ [b])/\b.2.1=rb nb bs/\b.1=(nb:Int)+1:=by
 have hle:nb<=bs.length:=h.ch.1;unfold lO;by_cases ht:b.2.1=rb nb bs/\b.1=(nb:Int)+1;rotate_left
 ·left;rw[if_neg ht];exact⟨1,by decide,rfl⟩
 rw[if_pos ht];by_cases hp:(sR b a).2=0;rotate_left
 ·left;rw[if_neg (show ¬(sR b (n,a,s).2.1).2=0 from hp)];exact⟨_,hp,rfl⟩
 right;have hc:=arn hb h.amI hp;obtain⟨s',e1,e2,e3,e4,e5⟩:=aek b.1 b.2.2.1 (s:=s) hc h.le;have ho:amV b=b:=aiy hb.1 λt ht=>(R2 hc (t,b.1) (db.2 ⟨t,ht,rfl⟩)).1
 have aUF:avW b (n,a,s)=(n+b.2.2.1.length,lY a (aG9 b),s'):=e1;have hlen:(bs.take nb++ [b]).length=nb+1:=by rw[ai,bt];simp only[aA,aY];omega
 have axk:(bs.take nb++ [b]).take (nb+1)=bs.take nb++ [b]:=aX ak;have hA:=tx (KU (bs.take nb)) h.aNF.CF.1;rw[if_pos (show(sR b (n,a,s).2.1).2=0 from hp),aUF,ho];have hs:=h.len;refine⟨_,_,s',rfl,⟨h.aNF,aIA h.ch aO0 hb.1,tx _ h.amI,?_,?_,?_,e3,by have:=h.le;omega,λst mn=> ?_⟩,ht⟩
 ·rw[axk,JD,JE,EC];exact⟨h.aOP,h.eqv.ap3 _ h.amI hA hc⟩
 ·rw[axk,JD,JE,Ek];exact h.eqv.lY _ h.amI hA
 ·rw[axk,JD,JE,FD,<-h.eqv.mi _ h.amI hA,<-h.aGF];exact e2
 ·rcases e5 st mn with h1 | h1
  ·exact h.aQQ st h1
  ·exact X1 hc st h1
theorem uQ.back:∀(d:Nat) {nb n:Nat} {a:At},uQ A0 m nb n a s bs->d<=nb->∃n' a',wU bs d (nb,n,a,s)=(nb - d,n',a',s)/\uQ A0 m (nb - d) n' a' s bs
 | 0,nb,n,a,h,_=>⟨n,a,rfl,h⟩
 |d+1,nb,n,a,h,hd=>by
  obtain⟨p,rfl⟩:∃p,nb=p+1:=⟨nb - 1,ak⟩;have hl:p+1<=bs.length:=h.ch.1;have hp:p < bs.length:=ak;have et:bs.take (p+1)=bs.take p++ [bs[p]]:=by rw[List.take_add_one,bP hp];rfl
  have n1:nth dW bs p=bs[p]:=bW (t:=dW) hp;have hc:=h.aOP;have he:=h.eqv;have hs:=h.aGF;rw[et,JD,JE]at hc he hs;obtain⟨c1,c2⟩:=(EC _ _ _).1 hc;rw[Ek]at he;rw[FD]at hs;obtain⟨a',f1,f2,f3,f4,f5⟩:=ab4 bs[p].2.2.1.length (aG9 bs[p]) (bZ _) c2 (tx _ h.aNF.CF.1) h.amI he h.le hs;have h':uQ A0 m p (n - bs[p].2.2.1.length) a' s bs:=⟨h.aNF,⟨ak,by have:=h.ch.2.1;omega,h.ch.2.2⟩,f3,c1,f2,f4,by have:=h.le;omega,h.len,h.aQQ⟩;obtain⟨n'',a'',g1,g2⟩:=uQ.back d h' ak;refine⟨n'',a'',?_,by rw[show p+1 - (d+1)=p - d by omega];exact g2⟩;rw[wU];show wU bs d (p+1 - 1,(Eb (nth dW bs (p+1 - 1)).2.2.1.length (n,a,s)).2)=_;rw[iG,n1,f1,g1,show p+1 - (d+1)=p - d by omega]
def abH:List dv->Nat
 |[]=>0
 |b::l=>b.2.2.1.length+abH l
theorem uQ.aMr:∀(l:List dv) {m nb n:Nat} {a:At} {s:List bY} {bs:List dv},uQ A0 m nb n a s bs->(∀b∈l,VP b)->m+abH l<=400->nb+l.length<=1000->
  W8 l (nb,n,a,s,bs)/\((iS l (nb,n,a,s,bs)).1≠0\/∃n' a' s' bs',iS l (nb,n,a,s,bs)=(0,nb+l.length,n',a',s',bs')/\uQ A0 (m+abH l) (nb+l.length) n' a' s' bs'/\bs'.take (nb+l.length)=bs.take nb++l)
 |[],m,nb,n,a,s,bs,h,_,_,_=>⟨trivial,.inr ⟨n,a,s,bs,rfl,h,(bk _).symm⟩⟩
 |b::l,m,nb,n,a,s,bs,h,hl,hm,hn=>by
  rw[abH]at hm;rw[aA]at hn;have hb:=hl b aO;have hle:nb<=bs.length:=h.ch.1;have ahQ:=h.pre hb ak;rcases h.add hb (ax _) ak with⟨e,he,ha⟩ | ⟨n',a',s',ha,h',_,_⟩
  ·refine⟨⟨ahQ,λh0=> ?_⟩,.inl ?_⟩
   ·have h0:(lO b nb (n,a,s) bs).1=0:=h0;rw[ha]at h0;exact absurd h0 he
   ·rw[iS];show(if(lO b nb (n,a,s) bs).1≠0 then lO b nb (n,a,s) bs else _).1≠0;rw[ha,if_pos he];exact he
  ·obtain⟨i1,i2⟩:=uQ.aMr l h' (λx hx=>hl x (aJ _ hx)) ak ak;have hlen:(bs.take nb++ [b]).length=nb+1:=by rw[ai,bt];simp only[aA,aY];omega
   have axk:(bs.take nb++ [b]).take (nb+1)=bs.take nb++ [b]:=aX ak;have ek:iS (b::l) (nb,n,a,s,bs)=iS l (nb+1,n',a',s',bs.take nb++ [b]):=by rw[iS];show(if(lO b nb (n,a,s) bs).1≠0 then lO b nb (n,a,s) bs else iS l (lO b nb (n,a,s) bs).2)=_;rw[ha,if_neg (λe=>e rfl)]
   refine⟨⟨ahQ,λ_=> ?_⟩,?_⟩
   ·show W8 l (lO b nb (n,a,s) bs).2;rw[ha];exact i1
   ·rw[ek,show nb+(b::l).length=nb+1+l.length by rw[aA];omega,abH,<-eM];rcases i2 with i2 | ⟨n2,a2,s2,bs2,j1,j2,j3⟩
    ·exact .inl i2
    ·refine .inr ⟨n2,a2,s2,bs2,j1,j2,?_⟩;rw[j3,axk,aD];rfl
theorem uQ.copy(h:uQ A0 m nb n a s bs):uQ A0 m nb n (iJ a) (s.take n) (bs.take nb):=by
 obtain⟨c1,c2⟩:=aem h.amI;have hle:nb<=bs.length:=h.ch.1;have e1:(bs.take nb).take nb=bs.take nb:=by rw[ia,Nat.min_self]
 have e2:(s.take n).take n=s.take n:=by rw[ia,Nat.min_self]
 have hl:=h.le;refine⟨h.aNF,⟨by rw[bt];omega,h.ch.2.1,λb hb=>h.ch.2.2 b (fa hb)⟩,c2,by rw[e1];exact h.aOP,by rw[e1];exact c1.trans h.eqv,by rw[e1,e2];exact h.aGF,by rw[bt];omega,by have:=h.len;rw[bt];omega,λst mn=>h.aQQ st (fa mn)⟩
theorem uQ.aMf(h:uQ A0 m nb n a s bs)(d:Int){l:List dv}(hl:∀b∈l,VP b)(hm:m+abH l<=400)(hn:nb+l.length<=1000):
  (∃e,e≠0/\kN (d,l,nb,n,a,s,bs)=some (.inl (e,nb,n,a,s,bs)))\/
  ∃n' a' s' bs',kN (d,l,nb,n,a,s,bs)=some (.inr (0,nb - d.toNat+l.length,n,a,s,bs,n',a',s',bs'))/\(1<=d/\d<=nb/\d < l.length/\d<=6)/\
   uQ A0 (m+abH l) (nb - d.toNat+l.length) n' a' s' bs'/\bs'.take (nb - d.toNat+l.length)=bs.take (nb - d.toNat)++l:=by
 have key:∀(hd:1<=d/\d<=nb/\d < l.length/\d<=6),∃n1 a1,zY d nb n a s bs=(nb - d.toNat,n1,a1,s.take n,bs.take nb)/\uQ A0 m (nb - d.toNat) n1 a1 (s.take n) (bs.take nb):=λhd=>by obtain⟨n1,a1,e1,e2⟩:=uQ.back d.toNat h.copy ak;refine⟨n1,a1,?_,e2⟩;unfold zY;rw[e1]
 have ahQ:wX (d,l,nb,n,a,s,bs):=⟨h.ch,h.aTk ak,by show l.length<=_;omega,λhd=>by
  obtain⟨n1,a1,e1,e2⟩:=key hd;rw[e1];exact(uQ.aMr l e2 hl hm ak).1⟩
 have hr:=T6 (d:=(d,l,nb,n,a,s,bs)) ahQ;by_cases h1:1<=d/\d<=nb/\d < l.length;rotate_left
 ·left;refine⟨1,by decide,hr.trans (bm some ?_)⟩;have:jd (d,l,nb,n,a,s,bs)= .inl (1,nb,n,a,s,bs):=if_neg h1;rw[this];rfl
 by_cases h2:d<=6;rotate_left
 ·left;refine⟨25,by decide,hr.trans (bm some ?_)⟩;have:jd (d,l,nb,n,a,s,bs)= .inl (25,nb,n,a,s,bs):=(if_pos h1).trans (if_neg h2);rw[this];rfl
 have hd:1<=d/\d<=nb/\d < l.length/\d<=6:=⟨h1.1,h1.2.1,h1.2.2,h2⟩;obtain⟨n1,a1,e1,e2⟩:=key hd
 have hF:jd (d,l,nb,n,a,s,bs)=if(iS l (zY d nb n a s bs)).1≠0 then .inl ((iS l (zY d nb n a s bs)).1,nb,n,a,s,bs)
   else .inr (0,(iS l (zY d nb n a s bs)).2.1,n,a,s,bs,(iS l (zY d nb n a s bs)).2.2):=(if_pos h1).trans (if_pos h2)
 rw[e1]at hF;have etk:(bs.take nb).take (nb - d.toNat)=bs.take (nb - d.toNat):=by rw[ia,fO ak]
 rcases(uQ.aMr l e2 hl hm ak).2 with e3 | ⟨n2,a2,s2,bs2,f1,f2,f3⟩
 ·left;refine⟨_,e3,hr.trans (bm some ?_)⟩;rw[hF,if_pos e3];rfl
 ·right;refine⟨n2,a2,s2,bs2,hr.trans (bm some ?_),hd,f2,by rw[f3,etk]⟩;rw[hF,f1,if_neg (λe=>e rfl)];rfl
def Di(o:bu):List dv->Int->Option (dD×Int)
 |[],_=>none
 |b::l,i=>match Tr o b.2.2.1 with | some t=>some (t,i+1) | none=>Di o l (i+1)
theorem ajb{o:bu}:∀ {l:List dD} {t:dD},Tr o l=some t->t∈l
 |[],_,e=>by cases e
 |x::l,t,e=>by
  rw[Tr]at e;split at e
  ·rw[<-bl e];exact aO
  ·exact aJ _ (ajb e)
theorem af2{o:bu}:∀ {l:List dv} {i:Int},(∀b∈l,∀t∈b.2.2.1,gO t=true/\qv t)->A5 o l i=Di o l i
 |[],_,_=>rfl
 |b::l,i,h=>by
  rw[A5,Di];cases e:Tr o b.2.2.1 with
  |none=>exact af2 λx hx=>h x (aJ _ hx)
  |some t=>
   have:=h b aO t (ajb e);show some (ao1 t,i+1)=some (t,i+1);rw[SV this.2 this.1]
theorem aGt{o:bu}:∀ {l:List dv} {i:Int} {x:dD×Int},Di o l i=some x->i+1<=x.2/\x.2<=i+l.length/\∃b∈l,x.1∈b.2.2.1
 |[],_,_,e=>by cases e
 |b::l,i,x,e=>by
  rw[Di]at e;rw[aA];cases es:Tr o b.2.2.1 with
  |none=>
   rw[es]at e;obtain⟨h1,h2,c,h3,h4⟩:=aGt e;exact⟨ak,ak,c,aJ _ h3,h4⟩
  |some t=>
   rw[es]at e;obtain rfl:=bl e;exact⟨iQ _,by show i+1<=_;omega,b,aO,ajb es⟩
theorem au1{o:bu}:∀(l l':List dv) (i:Int),Di o (l++l') i=match Di o l i with | some x=>some x | none=>Di o l' (i+l.length)
 |[],l',i=>by show Di o l' i=Di o l' (i+((0:Nat):Int));rw[show i+((0:Nat):Int)=i by omega]
 |b::l,l',i=>by
  rw[iF,Di,Di];cases Tr o b.2.2.1 with
  |some t=>rfl
  |none=>
   show Di o (l++l') (i+1)=_;rw[au1 l l',aA,show i+1+(l.length:Int)=i+((l.length+1:Nat):Int) by omega]
theorem uQ.aQO(h:uQ A0 m nb n a s bs)(o:bu):vS.call (o,nb,n,a,s,bs)=some (match Di o (bs.take nb) 0 with
  |some x=>(x.1,x.2,true,nb,n,a,s,bs)
  |none=>(eJ.zero,0,false,nb,n,a,s,bs)):=by
 rw[akS (d:=(o,nb,n,a,s,bs)) h.ch];simp only[bn,RY];rw[af2 λb hb t ht=>h.aSY hb ht]
 all_goals (cases Di o (bs.take nb) 0 <;> rfl)
end
end
abbrev aA0:=bu×Nat×(List bu)
def aA1:aA0->Prop:=λ(_,n,l)=>n=l.length/\l.length<=1000000
def aMt:aA0->(Nat×(List bu)):=λ(o,n,l)=>(n+1,l++ [o])
noncomputable def apc:Fs Tryz.prog aA1 bn aMt:=eK 4294969952 (aLx Tryz.prog 4294969952) (λ(t7,o1L,o2)=>(([.yl (.bj 0) 0,.d aW t7,.undef,.undef,.ptr (.bj 1) 0 [] 0]++aQ 10 []),[.obj 0 false (.qZ (qG Tryz.prog 4294969952) (lZ ([.undef,.undef,.ptr (.bj 1) 0 [] 0]++aQ 10 [])) 0),.obj 0 false (.bz (.bj 2) 0 [] 0 0 o1L),.obj 0 false (.vec 38 aW o2)])) (λx=>⟨.d .bool true,[.obj 0 false (.qZ (qG Tryz.prog 4294969952) (lZ ([.undef,.undef,.ptr (.bj 1) 0 [] 0]++aQ 10 [])) 0),.obj 0 false (.bz (.bj 2) 1 [] 0 0 x.1),.obj 1 false (.vec 38 aW x.2)],[]⟩) [none,none,none,none,none,none,none,none,none,none,none,none,none,none,none] [] {apE:=[(2,1)],lp:=some 4294969952}
theorem aH6{R:Type}(t7 o1L o2)(k:K1 R):apc.A (t7,o1L,o2) k=aH (decide (o1L<=(ag o2))) (aH (cV (o1L+1) 40) (k (apc.out ((o1L+1),((aR o1L o2)++ [t7])))) none) none:=bX
theorem aH7:apc.Ok:=by rintro⟨o,n,l⟩ ⟨rfl,hl⟩;have hl:l.length<=1000000:=hl;rw[aH6,aI (ax _),aj,dh ak ak,aj,bK];rfl
theorem aA2:apc.RS:=rE [.d aW,.n,.d (.slice aW)] apc
def aH8:=apc.aVA aH7
abbrev Az:=Nat×(List bu)×(List (bu×ja))×(List (bu×ja))
noncomputable def sK:Az->AS:=λ(ui,ee,y7,n5)=>⟨([.yl (.bj 0) 0]++aQ 4 ([eI 5]++aQ 8 [])),[.obj 0 false (.qZ (qG Tryz.prog 4294969952) (lZ ([bB,bB,.ptr (.bj 1) 0 [] 0]++aQ 10 [])) 0),.obj 0 false (.bz (.bj 2) 1 [] 0 0 ui),.obj 1 false (.vec 38 aW ee),.obj 0 false (.cq (.bj 4) 0),.obj 0 true (.mp aW jP y7)],(bD 5 ([dK (.sJ (.bj 4) 1 aW jP n5 none)]++bD 8 []))⟩
abbrev BX:=((List (bu×ja)))×(Nat×(List bu))
noncomputable def yU:BX->Exit×AS:=λx=>(.exit 0,⟨(aQ 14 []),[.obj 0 false (.qZ (qG Tryz.prog 4294969952) (lZ ([bB,bB,.ptr (.bj 1) 0 [] 0]++aQ 10 [])) 0),.obj 0 false (.bz (.bj 2) 1 [] 0 0 x.2.1),.obj 1 false (.vec 38 aW x.2.2),.obj 0 false (.cq (.bj 4) 0),.obj 0 false (.mp aW jP x.1)],(ab 14 [])⟩)
def PD:BX->Out (Exit×AS):=λx=> .ok (yU x)
def ua:Az->(Nat×(List bu))->BX:=λ(ui,ee,y7,n5) y=>(y7,y)
abbrev PB:=Nat×(List bu)×(List (bu×ja))
noncomputable def Y4:PB->SA:=λ(o1L,o2,o4)=>([.yl (.bj 0) 0,.ptr (.bj 3) 0 [] 0],[.obj 0 false (.qZ (qG Tryz.prog 4294969952) (lZ ([bB,bB,.ptr (.bj 1) 0 [] 0]++aQ 10 [])) 0),.obj 0 false (.bz (.bj 2) 0 [] 0 0 o1L),.obj 0 false (.vec 38 aW o2),.obj 0 false (.cq (.bj 4) 0),.obj 0 false (.mp aW jP o4)])
abbrev aun:=Nat×(List bu)×(List (bu×ja))
abbrev ah2:=Nat×(List bu)×(List (bu×ja))
noncomputable def Sz:ah2->fA:=λx=>⟨.nil,[.obj 0 false (.qZ (qG Tryz.prog 4294969952) (lZ ([bB,bB,.ptr (.bj 1) 0 [] 0]++aQ 10 [])) 0),.obj 0 false (.bz (.bj 2) 1 [] 0 0 x.1),.obj 1 false (.vec 38 aW x.2.1),.obj 0 false (.cq (.bj 4) 0),.obj 0 false (.mp aW jP x.2.2)],[]⟩
def Sy:PB->aun->ah2:=λ(o1L,o2,o4) y=>y
def tZ:Az->Prop:=λ(n,l,_,rest)=>n=l.length/\l.length+rest.length<=1000000
def qR:Az->(Nat×(List bu))->Prop:=λ(_,l,_,rest) (m,l')=>m=l'.length/\l'.Perm (l++rest.map (·.1))
def Sx:PB->Prop:=λ(n,l,m)=>n=l.length/\l.length+m.length<=1000000
def M3:PB->aun->Prop:=λ(_,l,m) (n',l',m')=>n'=l'.length/\l'.Perm (l++m.map (·.1))/\m'=m
def ah0:ot:=kj (P:=Tryz.prog) [aH8]
def aqM:=dC.V4 sK tZ ua qR PD
def PE:Az->BX->Prop:=aQJ sK tZ ua qR
def Y3:wQ:= {loops:=nF [(1,{aV:=[0,5],sites:=[5],apE:=[(2,1)],aRq:=[5]})],outs:=nE [(1,{apE:=[(2,1)]},{apE:=[(2,1)]})],fw:=nr [(1,aqM)],apE:=[(2,1)]}
def aul:= @G4 Tryz.prog ah0 Y3 0 Tryz.f107 _ Y4
abbrev aD5:=atp @aul Sx Sy M3 Sz
def Y2:= @eG Tryz.prog ah0 Y3 0 Tryz.f107 0 _ sK
abbrev Uy:=atr Tryz.prog ah0 Y3 0 Tryz.f107 0 sK tZ ua qR PD
theorem ah1:avp PE tZ ua qR:=aTg (jM [.n,.d (.slice aW),.d (.slice (.pair aW jP)),.d (.slice (.pair aW jP))] λ_=>bX)
theorem PC:aLy @Y2 sK tZ ua qR yU Uy:=aPr
theorem K6{R:Type}(ui:Nat)(ee:(List bu))(y7:(List (bu×ja)))(n5:(List (bu×ja)))(kn:AS->Option R)(kx:Exit->AS->Option R):Y2 (ui,ee,y7,n5) kn kx=aH (decide (0 < (ag n5))) (aCS (ag n5) λj1=>same (qG Tryz.prog 4294969952) (qG Tryz.prog 4294969952) (al (apc.call ((y6 aW jP n5 j1).1,ui,ee)) λx2=>kn (sK (x2.1,x2.2,y7,(List.eraseIdx n5 j1))))) (kx (yU (y7,(ui,ee))).1 (yU (y7,(ui,ee))).2):=bX
theorem aD6{R:Type}(o1L:Nat)(o2:(List bu))(o4:(List (bu×ja)))(k:fA->Option R):aul (o1L,o2,o4) k=Yo (PE (o1L,o2,o4,o4)) λx3=>k (Sz (x3.2.1,x3.2.2,x3.1)):=bX
theorem amd:Uy:=by
 refine PC (λ(_,_,_,rest)=>rest.length) ?_
 rintro⟨n,l,m,rest⟩ ⟨rfl,hl⟩;have hl:l.length+rest.length<=1000000:=hl;by_cases h:0 < rest.length
 ·left;refine⟨rest.length,λj=>(l.length+1,l++ [(y6 aW jP rest j).1],m,rest.eraseIdx j),h,λj hj=>⟨⟨by simp,?_⟩,?_,λy hy=>⟨y,?_,rfl⟩⟩,λkn kx=> ?_⟩
  ·show(l++ [_]).length+(rest.eraseIdx j).length<=1000000;rw[ai,List.length_eraseIdx,if_pos hj];simp only[aA,aY];omega
  ·show(rest.eraseIdx j).length < rest.length;rw[List.length_eraseIdx,if_pos hj];omega
  ·obtain⟨k,l'⟩:=y;obtain⟨h1,h2⟩:=hy;refine⟨h1,h2.trans ?_⟩;rw[aip hj,aD];refine List.Perm.append_left _ ?_
   have:=((Yt hj).map (·.1)).symm;exact this
  ·rw[K6,aI h,aj];congr 1;funext j;rw[Tl,aA2 (d:=((y6 aW jP rest j).1,l.length,l)) ⟨rfl,by show l.length<=_;omega⟩];rfl
 ·right;obtain rfl:rest=[]:=bC ak;refine⟨(l.length,l),⟨rfl,by simp⟩,λkn kx=> ?_⟩;rw[K6,aT h,ao];rfl
theorem aD7:aD5:=by
 rintro⟨n,l,m⟩ ⟨rfl,hl⟩ k hk;rw[aD6];refine ah1 (d:=(l.length,l,m,m)) ⟨rfl,hl⟩ ⟨((l++m.map (·.1)).length,l++m.map (·.1)),rfl,gY _⟩ λy hy=> ?_
 obtain⟨n',l'⟩:=y;exact hk (n',l',m) ⟨hy.1,hy.2,rfl⟩
def aum:=Entry.V4 [none,none] Y4 Sx Sy M3 Sz
def ae7:PB->ah2->Prop:=aKX aum Y4
theorem axv:avp ae7 Sx Sy M3:=aGf (VZ [.n,.d (.slice aW),.d (.slice (.pair aW jP))] λ_=>bX)
def aD8:SG Tryz.prog:=⟨107,lQ,aum,.aSX (.fn 1 bX aD7 (And.intro (.V4 amd bX) trivial)) (by rfl)⟩
abbrev ajH:=(List (bu×ja))
def agk:ajH->Unit->((List (bu×ja))):=λo0 y=>o0
def aAj:ajH->Prop:=λ_=>True
def aLp:ajH->Unit:=λ_=>()
def acn:Fs Tryz.prog aAj agk aLp:=eK 61 Tryz.f61 (λo0=>([.cq (.bj 0) 0],[.obj 0 false (.mp aW jP o0)])) (λx=>⟨.fn 107 (.cons (.ptr (.new 0 0) 0 [] 0) (.nil)),[.obj 0 false (.mp aW jP x)],[.obj 0 false (.cq (.bj 0) 0)]⟩) [none] [] {bJ:=[1]}
theorem aHp{R:Type}(o0)(k:K1 R):acn.A o0 k=k (acn.out o0):=bX
theorem aHq:acn.Ok:=by intro d _;rw[aHp];rfl
theorem aAk:acn.RS:=rE [.d (.slice (.pair aW jP))] acn
def aHr:=acn.eP aHq
abbrev Xl:=(List (bu×ja))
def agy:Xl->SA:=λo1=>([.cX,.fn 107 (.cons (.ptr (.bj 0) 0 [] 0) (.nil))],[.obj 0 false (.cq (.bj 1) 0),.obj 0 false (.mp aW jP o1)])
abbrev aA5:=Nat×(List (bu×ja))×(List bu)
abbrev apd:=Nat×(List (bu×ja))×(List bu)
def Xo:apd->fA:=λx=>⟨.bz (.new 0 0) 1 [] 0 0 x.1,[.obj 0 false (.cq (.bj 1) 0),.obj 0 false (.mp aW jP x.2.1)],[.obj 1 false (.vec 38 aW x.2.2)]⟩
def Xn:Xl->aA5->apd:=λo1 y=>y
def Xm:Xl->Prop:=λm=>m.length<=1000000
def RF:Xl->aA5->Prop:=λm (n',m',l')=>n'=l'.length/\l'.Perm (m.map (·.1))/\m'=m
def aMu:ot:=kj (P:=Tryz.prog) [aD8]
def aIa:wQ:= {bJ:=[2],aUf:=nr [(7,[⟨2,[.arr],0,46⟩])],rf:=nr [(7,(4294969952,[2]))]}
def aA3:= @G4 Tryz.prog aMu aIa 0 Tryz.f166 _ agy
abbrev aH9:=atp @aA3 Xm Xn RF Xo
theorem aIb{R:Type}(o1:(List (bu×ja)))(k:fA->Option R):aA3 o1 k=Yo (ae7 (0,([]:List bu),o1)) λx1=>k (Xo (x1.1,x1.2.2,x1.2.1)):=bX
theorem aIc:aH9:=by
 intro m hl k hk;have hl:m.length<=1000000:=hl;rw[aIb];refine axv (d:=(0,[],m)) ⟨rfl,by show 0+m.length<=_;omega⟩ ⟨((m.map (·.1)).length,m.map (·.1),m),rfl,gY _,rfl⟩ λy hy=> ?_
 obtain⟨n',l',m'⟩:=y;exact hk (n',m',l') ⟨hy.1,by simpa using hy.2.1,hy.2.2⟩
def aA4:=Entry.V4 [none,none] agy Xm Xn RF Xo
def akd:Xl->apd->Prop:=aKX aA4 agy
theorem aA6:avp akd Xm Xn RF:=aGf (VZ [.d (.slice (.pair aW jP))] λ_=>bX)
def aId:SG Tryz.prog:=⟨166,lQ,aA4,.aSX (.fn 0 bX aIc trivial) (by rfl)⟩
abbrev XX:=(List (bu×ja))
def ag7:XX->SA:=λo1=>([.fn 107 (.cons (.ptr (.bj 0) 0 [] 0) (.nil))],[.obj 0 false (.cq (.bj 1) 0),.obj 0 false (.mp aW jP o1)])
abbrev aCr:=Nat×(List (bu×ja))×(List bu)
abbrev ap2:=Nat×(List (bu×ja))×(List bu)
def X0:ap2->fA:=λx=>⟨.bz (.new 0 0) 1 [] 0 0 x.1,[.obj 0 false (.cq (.bj 1) 0),.obj 0 false (.mp aW jP x.2.1)],[.obj 1 false (.vec 38 aW x.2.2)]⟩
def XZ:XX->aCr->ap2:=λo1 y=>y
def XY:XX->Prop:=λm=>m.length<=1000000
def R1:XX->aCr->Prop:=λm (n',m',l')=>n'=l'.length/\l'.Perm (m.map (·.1))/\m'=m
def aMN:ot:=kj (P:=Tryz.prog) [aId]
def aIT:wQ:= {}
def aCp:= @G4 Tryz.prog aMN aIT 0 Tryz.f105 _ ag7
abbrev aIS:=atp @aCp XY XZ R1 X0
theorem aIU{R:Type}(o1:(List (bu×ja)))(k:fA->Option R):aCp o1 k=Yo (akd o1) λx1=>k (X0 (x1.1,x1.2.1,x1.2.2)):=bX
theorem aIV:aIS:=by
 intro m hl k hk;rw[aIU];refine aA6 (d:=m) hl ⟨((m.map (·.1)).length,m,m.map (·.1)),rfl,gY _,rfl⟩ λy hy=> ?_
 exact hk y hy
def aCq:=Entry.V4 [none] ag7 XY XZ R1 X0
def akX:XX->ap2->Prop:=aKX aCq ag7
theorem aCs:avp akX XY XZ R1:=aGf (VZ [.d (.slice (.pair aW jP))] λ_=>bX)
def aIW:SG Tryz.prog:=⟨105,lQ,aCq,.aSX (.fn 0 bX aIV trivial) (by rfl)⟩
theorem asH{l l':List bu}(h:l.Perm l')(hq:∀x∈l',Jo x):NG (t:=aW) GS l=NG (t:=aW) GS l':=by
 have hq':∀x∈l,Jo x:=λx hx=>hq x (h.mem_iff.1 hx)
 have h1:=abi Af hq';exact FC Af hq (λx hx y hy a b=>Ag (hq x hx) (hq y hy) a b) ⟨h1.1.trans h,h1.2⟩
def Dg(m:Wm):List bu:=NG (t:=aW) GS (m.map (·.1))
abbrev aGx:=(List (bu×ja))
def aGz:aGx->Prop:=λm=>m.length<=1000000/\∀p∈m,Jo p.1
def aGy:aGx->(Nat×(List (bu×ja))×(List bu)):=λm=>(m.length,m,Dg m)
def asI:Fs Tryz.prog aGz bn aGy:=eK 60 Tryz.f60 (λo1=>([.fn 107 (.cons (.ptr (.bj 0) 0 [] 0) (.nil)),.fn 62 (.nil)],[.obj 0 false (.cq (.bj 1) 0),.obj 0 false (.mp aW jP o1)])) (λx=>⟨.bz (.new 0 0) 1 [] 0 0 x.1,[.obj 0 false (.cq (.bj 1) 0),.obj 0 false (.mp aW jP x.2.1)],[.obj 1 false (.vec 38 aW x.2.2)]⟩) [none,none] [aIW,aK9]
theorem aLa{R:Type}(o1)(k:K1 R):asI.A o1 k=Yo (akX o1) λx1=>al (Tu (x1.1,x1.2.2)) λx2=>k (asI.out (x1.1,x1.2.1,x2.2)):=bX
theorem aLb:asI.Ok:=by
 rintro m ⟨hl,hq⟩;have hl:m.length<=1000000:=hl;rw[aLa];refine aCs (d:=m) hl ⟨((m.map (·.1)).length,m,m.map (·.1)),rfl,gY _,rfl⟩ λy hy=> ?_
 obtain⟨n',m',l'⟩:=y;obtain⟨h1,h2,h3⟩:=hy;have h1:n'=l'.length:=h1;have h3:m'=m:=h3;subst h1 h3;have hq':∀x∈m'.map (·.1),Jo x:=λx hx=>by obtain⟨p,hp,rfl⟩:=db.1 hx;exact hq p hp
 have hlen:l'.length=m'.length:=by rw[h2.length_eq,bZ]
 show al (Tu (l'.length,l')) _=_;rw[aGw (d:=(l'.length,l')) ⟨rfl,by show l'.length < _;omega,λx hx=>hq' x (h2.mem_iff.1 hx),λx hx y hy h1 h2'=>Ag (hq' x (h2.mem_iff.1 hx)) (hq' y (h2.mem_iff.1 hy)) h1 h2'⟩];simp only[ah,bn,aGy,Dg];rw[asH h2 hq',hlen];rfl
theorem aGA:asI.RS:=rE [.d (.slice (.pair aW jP))] asI
def aLc:=asI.eP aLb
abbrev aHf:=(List (bu×ja))
def aHg:aHf->Prop:=λm=>m.length<=1000000/\∀p∈m,Jo p.1
def ajD:aHf->(Nat×(List (bu×ja))×(List bu)):=λm=>(m.length,m,Dg m)
def wall:Fs Tryz.prog aHg bn ajD:=eK 26 Tryz.f26 (λo1=>([.ptr (.bj 0) 0 [] 0],[.obj 0 false (.pr (.cq (.bj 1) 0) (.d .unit ())),.obj 0 false (.mp aW jP o1)])) (λx=>⟨.bz (.new 0 0) 1 [] 0 0 x.1,[.obj 0 false (.pr (.cq (.bj 1) 0) (.d .unit ())),.obj 0 false (.mp aW jP x.2.1)],[.obj 1 false (.vec 38 aW x.2.2)]⟩) [none] [aHr,aLc]
theorem aLm{R:Type}(o1)(k:K1 R):wall.A o1 k=al (acn.call o1) λx1=>al (asI.call x1) λx2=>k (wall.out (x2.1,x2.2.1,x2.2.2)):=bX
theorem aLn:wall.Ok:=by intro m h;rw[aLm,aAk (d:=m) trivial];simp only[ah,agk];rw[aGA (d:=m) h];rfl
theorem Q9:wall.RS:=rE [.d (.slice (.pair aW jP))] wall
def ajE:=wall.eP aLn
abbrev ajN:=Int×dD×Nat×(List G0)×bu×ja
abbrev avj:=Nat×(List G0)
def TL:ajN->avj->((bu×ja)×(Nat×(List G0))):=λ(dov,byv,o0L,o1,o2,o3) y=>((o2,o3),y)
def aAp:ajN->Prop:=λ(_,t,n,l,_)=>qv t/\n=l.length/\l.length<=1000000000
def ajO:ajN->avj:=λ(d,t,_,l,o,x)=>(l.length+1,l++ [(d,(o,(ao1 t,(x.2.2.2.1,()))))])
def GO:Fs Tryz.prog aAp TL ajO:=eK 66 Tryz.f66 (λ(dov,byv,o0L,o1,o2,o3)=>([.d ti dov,.d eJ byv,.ptr (.bj 0) 0 [] 0,.ptr (.bj 2) 0 [] 0,.ptr (.bj 3) 0 [] 0],[.obj 0 false (.bz (.bj 1) 0 [] 0 0 o0L),.obj 0 false (.vec 65 LC o1),.obj 0 false (.d aW o2),.obj 0 false (.d jP o3)])) (λx=>⟨.nil,[.obj 0 false (.bz (.bj 1) 1 [] 0 0 x.2.1),.obj 1 false (.vec 65 LC x.2.2),.obj 0 false (.d aW x.1.1),.obj 0 false (.d jP x.1.2)],[]⟩) [some ti,some eJ,none,none,none] [acm]
theorem aHA{R:Type}(dov byv o0L o1 o2 o3)(k:K1 R):GO.A (dov,byv,o0L,o1,o2,o3) k=al (LX.call byv) λx1=>aH (decide (o0L<=(ag o1))) (aH (cV (o0L+1) 112) (k (GO.out ((o2,o3),((o0L+1),((aR o0L o1)++ [(dov,(o2,(x1,(o3.2.2.2.1,()))))]))))) none) none:=bX
theorem aHB:GO.Ok:=by rintro⟨d,t,n,l,o,x⟩ ⟨hv,rfl,hl⟩;have hl:l.length<=1000000000:=hl;rw[aHA,TH (d:=t) hv];simp only[ah,bn,ajG];rw[aI (ax _),aj,dh ak ak,aj,bK];rfl
theorem agm:GO.RS:=rE [.d ti,.d eJ,.n,.d (.slice LC),.d aW,.d jP] GO
def aHC:=GO.eP aHB
def aoS(x:ja):Prop:=qv x.2.1/\(x.1=true->gO x.2.1=true)
theorem v0:qv eJ.zero:=⟨⟨λo ho=>(by cases ho),by decide,by decide⟩,λx hx=>(by cases hx),by decide⟩
theorem acu:aoS td:=⟨v0,λh=>(by cases h)⟩
def qH(o:bu)(l:List dv):dD×Int×Bool:=match Di o l 0 with | some x=>(x.1,x.2,true) | none=>(eJ.zero,0,false)
def aeU(x:ja)(h:Int)(ok:Bool)(id:Bs):Bool:=x.1 && (!ok || (BT h x.2.2.2.1 || !(Ty.beq tH id x.2.2.1)))
def GV(o:bu)(x:ja)(h:Int)(ok:Bool)(id:Bs):ja×List G0:=if aeU x h ok id then(td,[(2,(o,(x.2.1,(x.2.2.2.1,()))))]) else(x,[])
def PK(o:bu)(t:dD)(h:Int)(ok:Bool)(id:Bs)(x:ja):ja×List G0:=if ok && !x.1 then((true,(t,(id,(h,(false,()))))),[(1,(o,(t,(h,()))))]) else(x,[])
def acV(o:bu)(t:dD)(h:Int)(ok:Bool)(H:Int)(x:ja):ja×List G0:=if ok && w7 (H - h) 6 then((x.1,(x.2.1,(x.2.2.1,(x.2.2.2.1,(true,()))))),[(3,(o,(t,(x.2.2.2.1,()))))]) else(x,[])
def ma(H:Int)(l:List dv)(o:bu)(x:ja):ja×List G0:=if x.2.2.2.2.1 then(x,[]) else((acV o (qH o l).1 (qH o l).2.1 (qH o l).2.2 H (PK o (qH o l).1 (qH o l).2.1 (qH o l).2.2 (nR (qH o l).1) (GV o x (qH o l).2.1 (qH o l).2.2 (nR (qH o l).1)).1).1).1,(GV o x (qH o l).2.1 (qH o l).2.2 (nR (qH o l).1)).2++(PK o (qH o l).1 (qH o l).2.1 (qH o l).2.2 (nR (qH o l).1) (GV o x (qH o l).2.1 (qH o l).2.2 (nR (qH o l).1)).1).2++(acV o (qH o l).1 (qH o l).2.1 (qH o l).2.2 H (PK o (qH o l).1 (qH o l).2.1 (qH o l).2.2 (nR (qH o l).1) (GV o x (qH o l).2.1 (qH o l).2.2 (nR (qH o l).1)).1).1).2)
def lookW(H:Int)(l:List dv)(S:Wm×List G0)(o:bu):Wm×List G0:=if(nC o S.1).2.2.2.2.1 then S else(eL aW o (ma H l o (nC o S.1)).1 S.1,S.2++(ma H l o (nC o S.1)).2)
abbrev aco:=Nat×Int×Int×(List (bu×ja))×Nat×Nat×(List (bu×dS))×(List bY)×(List dv)×Nat×(List G0)×(List bu)
abbrev zF:=Int×Bool×Nat×Int×Int×Bool×(List (bu×ja))×Nat×Nat×(List (bu×dS))×(List bY)×(List dv)×Nat×(List G0)×bu×ja×dD×Bs×(List bu)
def LZ:zF->AS:=λ(h,okv,GZ,t16,t17,t67,o1,o2L,o3L,o4,o5,o6,GX,ajV,iD,ZL,ZM,ZN,aEJ)=>⟨([.ptr (.bj 0) 0 [] 0,.ptr (.bj 2) 0 [] 0,bB,bB,bB,eI 95,bB,.ptr (.new 95 2) 0 [] 0,.ptr (.new 95 3) 0 [] 0,.ptr (.new 95 4) 0 [] 0,.d ti h,.d .bool okv,.ptr (.new 95 5) 0 [] 0,.fn 66 (.cons (eI 95) (.cons (.ptr (.new 95 2) 0 [] 0) (.cons (.ptr (.new 95 3) 0 [] 0) (.nil)))),bB,.bz (.new 95 6) 0 [] 0 0 GZ,.d ti t16,.d ti t17]++aQ 49 ([.d .bool t67]++aQ 28 [])),[.obj 0 false (.pr (.cq (.bj 1) 0) fN),.obj 0 false (.mp aW jP o1),.obj 0 false (.pr (.ptr (.bj 3) 0 [] 0) (.pr (.bz (.bj 6) 0 [] 0 0 o2L) fN)),.obj 0 false (.pr (.cq (.bj 4) 0) (.pr (.bz (.bj 5) 0 [] 0 0 o3L) fN)),.obj 0 false (.mp aW eU o4),.obj 0 false (.vec 256 cE o5),.obj 0 false (.vec 48 dW o6)],(bD 95 [[.obj 0 false (.bz (.new 95 1) 0 [] 0 0 GX),.obj 0 false (.vec 65 LC ajV),.obj 0 false (.d aW iD),.obj 0 false (.d jP ZL),.obj 0 false (.d eJ ZM),.obj 0 false (.d tH ZN),.obj 0 false (.vec 38 aW aEJ)]])⟩
def Rk:qL:=qL.of {aV:=[0,1,5,7,8,9,10,11,12,13,15,16,17,67],sites:=[5,7,8,9,12,15,32,37,60,69,75,79,87,95],MD:=[⟨8,[.arr],jP⟩],aOS:=some 95} LZ
def Bj:zF->Option zF:=λx=>(Rk).axr .normal (LZ x)
theorem Rm(x:zF):Bj x=some x:=qL.H4 (jM [.d ti,.d .bool,.n,.d ti,.d ti,.d .bool,.d (.slice (.pair aW jP)),.n,.n,.d (.slice (.pair aW eU)),.d (.slice cE),.d (.slice dW),.n,.d (.slice LC),.d aW,.d jP,.d eJ,.d tB,.d (.slice aW)] λ_=>bX) x
abbrev zG:=Nat×Int×Int×Bool×(List (bu×ja))×Nat×Nat×(List (bu×dS))×(List bY)×(List dv)×Nat×(List G0)×bu×ja×dD×(List bu)
def L0:zG->AS:=λ(GZ,t16,t17,t83,o1,o2L,o3L,o4,o5,o6,GX,ajV,iD,ZL,ZM,ZN)=>⟨([.ptr (.bj 0) 0 [] 0,.ptr (.bj 2) 0 [] 0,bB,bB,bB,eI 95,bB,.ptr (.new 95 2) 0 [] 0,.ptr (.new 95 3) 0 [] 0,.ptr (.new 95 4) 0 [] 0,bB,bB,bB,.fn 66 (.cons (eI 95) (.cons (.ptr (.new 95 2) 0 [] 0) (.cons (.ptr (.new 95 3) 0 [] 0) (.nil)))),bB,.bz (.new 95 5) 0 [] 0 0 GZ,.d ti t16,.d ti t17]++aQ 65 ([.d .bool t83]++aQ 12 [])),[.obj 0 false (.pr (.cq (.bj 1) 0) fN),.obj 0 false (.mp aW jP o1),.obj 0 false (.pr (.ptr (.bj 3) 0 [] 0) (.pr (.bz (.bj 6) 0 [] 0 0 o2L) fN)),.obj 0 false (.pr (.cq (.bj 4) 0) (.pr (.bz (.bj 5) 0 [] 0 0 o3L) fN)),.obj 0 false (.mp aW eU o4),.obj 0 false (.vec 256 cE o5),.obj 0 false (.vec 48 dW o6)],(bD 95 [[.obj 0 false (.bz (.new 95 1) 0 [] 0 0 GX),.obj 0 false (.vec 65 LC ajV),.obj 0 false (.d aW iD),.obj 0 false (.d jP ZL),.obj 0 false (.d eJ ZM),.obj 0 false (.vec 38 aW ZN)]])⟩
def Rn:qL:=qL.of {aV:=[0,1,5,7,8,9,13,15,16,17,83],sites:=[5,7,8,9,12,15,32,37,60,69,75,79,87,95],MD:=[⟨8,[.arr],jP⟩],aOS:=some 95} L0
def Bk:zG->Option zG:=λx=>(Rn).axr .normal (L0 x)
theorem Ro(x:zG):Bk x=some x:=qL.H4 (jM [.n,.d ti,.d ti,.d .bool,.d (.slice (.pair aW jP)),.n,.n,.d (.slice (.pair aW eU)),.d (.slice cE),.d (.slice dW),.n,.d (.slice LC),.d aW,.d jP,.d eJ,.d (.slice aW)] λ_=>bX) x
abbrev zH:=Int×Bool×Nat×Int×Int×(List (bu×ja))×Nat×Nat×(List (bu×dS))×(List bY)×(List dv)×Nat×(List G0)×bu×ja×dD×Bs×(List bu)
def L1:zH->AS:=λ(h,okv,GZ,t16,t17,o1,o2L,o3L,o4,o5,o6,GX,ajV,iD,ZL,ZM,ZN,aEJ)=>⟨([.ptr (.bj 0) 0 [] 0,.ptr (.bj 2) 0 [] 0,bB,bB,bB,eI 95,bB,.ptr (.new 95 2) 0 [] 0,.ptr (.new 95 3) 0 [] 0,.ptr (.new 95 4) 0 [] 0,.d ti h,.d .bool okv,.ptr (.new 95 5) 0 [] 0,.fn 66 (.cons (eI 95) (.cons (.ptr (.new 95 2) 0 [] 0) (.cons (.ptr (.new 95 3) 0 [] 0) (.nil)))),bB,.bz (.new 95 6) 0 [] 0 0 GZ,.d ti t16,.d ti t17]++aQ 78 []),[.obj 0 false (.pr (.cq (.bj 1) 0) fN),.obj 0 false (.mp aW jP o1),.obj 0 false (.pr (.ptr (.bj 3) 0 [] 0) (.pr (.bz (.bj 6) 0 [] 0 0 o2L) fN)),.obj 0 false (.pr (.cq (.bj 4) 0) (.pr (.bz (.bj 5) 0 [] 0 0 o3L) fN)),.obj 0 false (.mp aW eU o4),.obj 0 false (.vec 256 cE o5),.obj 0 false (.vec 48 dW o6)],(bD 95 [[.obj 0 false (.bz (.new 95 1) 0 [] 0 0 GX),.obj 0 false (.vec 65 LC ajV),.obj 0 false (.d aW iD),.obj 0 false (.d jP ZL),.obj 0 false (.d eJ ZM),.obj 0 false (.d tH ZN),.obj 0 false (.vec 38 aW aEJ)]])⟩
def Rp:qL:=qL.of {aV:=[0,1,5,7,8,9,10,11,12,13,15,16,17],sites:=[5,7,8,9,12,15,32,37,60,69,75,79,87,95],MD:=[⟨8,[.arr],jP⟩],aOS:=some 95} L1
def mm:zH->Option zH:=λx=>(Rp).axr .normal (L1 x)
theorem Rq(x:zH):mm x=some x:=qL.H4 (jM [.d ti,.d .bool,.n,.d ti,.d ti,.d (.slice (.pair aW jP)),.n,.n,.d (.slice (.pair aW eU)),.d (.slice cE),.d (.slice dW),.n,.d (.slice LC),.d aW,.d jP,.d eJ,.d tB,.d (.slice aW)] λ_=>bX) x
abbrev zI:=Int×Bool×Nat×Int×Int×(List (bu×ja))×Nat×Nat×(List (bu×dS))×(List bY)×(List dv)×Nat×(List G0)×bu×ja×dD×(List bu)
def L4:zI->AS:=λ(h,okv,GZ,t16,t17,o1,o2L,o3L,o4,o5,o6,GX,ajV,iD,ZL,ZM,ZN)=>⟨([.ptr (.bj 0) 0 [] 0,.ptr (.bj 2) 0 [] 0,bB,bB,bB,eI 95,bB,.ptr (.new 95 2) 0 [] 0,.ptr (.new 95 3) 0 [] 0,.ptr (.new 95 4) 0 [] 0,.d ti h,.d .bool okv,bB,.fn 66 (.cons (eI 95) (.cons (.ptr (.new 95 2) 0 [] 0) (.cons (.ptr (.new 95 3) 0 [] 0) (.nil)))),bB,.bz (.new 95 5) 0 [] 0 0 GZ,.d ti t16,.d ti t17]++aQ 78 []),[.obj 0 false (.pr (.cq (.bj 1) 0) fN),.obj 0 false (.mp aW jP o1),.obj 0 false (.pr (.ptr (.bj 3) 0 [] 0) (.pr (.bz (.bj 6) 0 [] 0 0 o2L) fN)),.obj 0 false (.pr (.cq (.bj 4) 0) (.pr (.bz (.bj 5) 0 [] 0 0 o3L) fN)),.obj 0 false (.mp aW eU o4),.obj 0 false (.vec 256 cE o5),.obj 0 false (.vec 48 dW o6)],(bD 95 [[.obj 0 false (.bz (.new 95 1) 0 [] 0 0 GX),.obj 0 false (.vec 65 LC ajV),.obj 0 false (.d aW iD),.obj 0 false (.d jP ZL),.obj 0 false (.d eJ ZM),.obj 0 false (.vec 38 aW ZN)]])⟩
def Rr:qL:=qL.of {aV:=[0,1,5,7,8,9,10,11,13,15,16,17],sites:=[5,7,8,9,12,15,32,37,60,69,75,79,87,95],MD:=[⟨8,[.arr],jP⟩],aOS:=some 95} L4
def Bl:zI->Option zI:=λx=>(Rr).axr .normal (L4 x)
theorem Rs(x:zI):Bl x=some x:=qL.H4 (jM [.d ti,.d .bool,.n,.d ti,.d ti,.d (.slice (.pair aW jP)),.n,.n,.d (.slice (.pair aW eU)),.d (.slice cE),.d (.slice dW),.n,.d (.slice LC),.d aW,.d jP,.d eJ,.d (.slice aW)] λ_=>bX) x
abbrev avf:=(List (bu×ja))×Nat×Nat×(List (bu×dS))×(List bY)×(List dv)
def aTA(nb n:Nat)(a:At)(s:List bY)(bs:List dv):Prop:=∃A0 m,uQ A0 m nb n a s bs
def ajJ:aco->Prop:=λ(kL,kn,i,m,nb,n,a,s,bs,oL,out,ks)=>aTA nb n a s bs/\ks.length<=1000000/\kL=ks.length/\kn=(ks.length:Int)/\oL=out.length/\(∀p∈m,aoS p.2)/\∃k:Nat,k<=ks.length/\i=k/\out.length<=3*k
def FX:aco->((List (bu×ja))×Nat×Nat×(List (bu×dS))×(List bY)×(List dv)×Nat×(List G0)×(List bu)):=λ(_,_,i,m,nb,n,a,s,bs,_,out,ks)=>(((ks.drop i.toNat).foldl (lookW nb (bs.take nb)) (m,out)).1,nb,n,a,s,bs,((ks.drop i.toNat).foldl (lookW nb (bs.take nb)) (m,out)).2.length,((ks.drop i.toNat).foldl (lookW nb (bs.take nb)) (m,out)).2,ks)
def WG(m:Wm):Prop:=m.length<=1000/\(m.map (·.1)).Nodup/\∀p∈m,Jo p.1/\aoS p.2
def yW(nb:Nat)(bs:List dv)(m:Wm):Wm×List G0:=(Dg m).foldl (lookW nb (bs.take nb)) (m,[])
def aAl:avf->Prop:=λ(m,nb,n,a,s,bs)=>aTA nb n a s bs/\WG m
def ajI:avf->(Nat×(List (bu×ja))×Nat×Nat×(List (bu×dS))×(List bY)×(List dv)×(List G0)):=λ(m,nb,n,a,s,bs)=>((yW nb bs m).2.length,(yW nb bs m).1,nb,n,a,s,bs,(yW nb bs m).2)
def pE:Ls ajJ bn FX:=qz (λ(GZ,t16,t17,dQ,o2L,o3L,y7,ax6,ax7,GX,ajV,iD)=>⟨([.ptr (.bj 0) 0 [] 0,.ptr (.bj 2) 0 [] 0,bB,bB,bB,eI 95]++aQ 9 ([.bz (.new 95 2) 0 [] 0 0 GZ,.d ti t16,.d ti t17]++aQ 78 [])),[.obj 0 false (.pr (.cq (.bj 1) 0) fN),.obj 0 false (.mp aW jP dQ),.obj 0 false (.pr (.ptr (.bj 3) 0 [] 0) (.pr (.bz (.bj 6) 0 [] 0 0 o2L) fN)),.obj 0 false (.pr (.cq (.bj 4) 0) (.pr (.bz (.bj 5) 0 [] 0 0 o3L) fN)),.obj 0 false (.mp aW eU y7),.obj 0 false (.vec 256 cE ax6),.obj 0 false (.vec 48 dW ax7)],(bD 95 [[.obj 0 false (.bz (.new 95 1) 0 [] 0 0 GX),.obj 0 false (.vec 65 LC ajV),.obj 0 false (.vec 38 aW iD)]])⟩) (λx=>(.exit 0,⟨(aQ 5 ([eI 95]++aQ 90 [])),[.obj 0 false (.pr (.cq (.bj 1) 0) fN),.obj 0 false (.mp aW jP x.1),.obj 0 false (.pr (.ptr (.bj 3) 0 [] 0) (.pr (.bz (.bj 6) 0 [] 0 0 x.2.1) fN)),.obj 0 false (.pr (.cq (.bj 4) 0) (.pr (.bz (.bj 5) 0 [] 0 0 x.2.2.1) fN)),.obj 0 false (.mp aW eU x.2.2.2.1),.obj 0 false (.vec 256 cE x.2.2.2.2.1),.obj 0 false (.vec 48 dW x.2.2.2.2.2.1)],(bD 95 [[.obj 0 false (.bz (.new 95 1) 0 [] 0 0 x.2.2.2.2.2.2.1),.obj 0 false (.vec 65 LC x.2.2.2.2.2.2.2.1),.obj 0 false (.vec 38 aW x.2.2.2.2.2.2.2.2)]])⟩))
def LY:Fs Tryz.prog aAl bn ajI:=eK 31 Tryz.f31 (λ(o1,o2baL,o3baL,o4,o5,o6)=>([.ptr (.bj 0) 0 [] 0,.ptr (.bj 2) 0 [] 0],[.obj 0 false (.pr (.cq (.bj 1) 0) (.d .unit ())),.obj 0 false (.mp aW jP o1),.obj 0 false (.pr (.ptr (.bj 3) 0 [] 0) (.pr (.bz (.bj 6) 0 [] 0 0 o2baL) (.d .unit ()))),.obj 0 false (.pr (.cq (.bj 4) 0) (.pr (.bz (.bj 5) 0 [] 0 0 o3baL) (.d .unit ()))),.obj 0 false (.mp aW eU o4),.obj 0 false (.vec 256 cE o5),.obj 0 false (.vec 48 dW o6)])) (λx=>⟨.bz (.new 0 0) 0 [] 0 0 x.1,[.obj 0 false (.pr (.cq (.bj 1) 0) (.d .unit ())),.obj 0 false (.mp aW jP x.2.1),.obj 0 false (.pr (.ptr (.bj 3) 0 [] 0) (.pr (.bz (.bj 6) 0 [] 0 0 x.2.2.1) (.d .unit ()))),.obj 0 false (.pr (.cq (.bj 4) 0) (.pr (.bz (.bj 5) 0 [] 0 0 x.2.2.2.1) (.d .unit ()))),.obj 0 false (.mp aW eU x.2.2.2.2.1),.obj 0 false (.vec 256 cE x.2.2.2.2.2.1),.obj 0 false (.vec 48 dW x.2.2.2.2.2.2.1)],[.obj 0 false (.vec 65 LC x.2.2.2.2.2.2.2)]⟩) [none,none] [ajE,apX,abD,aHC,acm,BE] {loops:=nF [(3,{aV:=[0,1,5,15,16,17],sites:=[5,7,8,9,12,15,32,37,60,69,75,79,87,94,95],owns:=[⟨5,[.arr],94,43⟩],aOS:=some 95})],outs:=nE [(3,{aV:=[5],sites:=[95]},{aV:=[4]})],fw:=nr [(3,pE.E)],aL3:=nr [(13,Rk),(16,Rn)],auk:=nr [(13,Rp),(16,Rr)]}
theorem ajK:pE.RS:=rL [.n,.d ti,.d ti,.d (.slice (.pair aW jP)),.n,.n,.d (.slice (.pair aW eU)),.d (.slice cE),.d (.slice dW),.n,.d (.slice LC),.d (.slice aW)] pE
theorem L7{R:Type}(GZ t16 t17 dQ o2L o3L y7 ax6 ax7 GX ajV iD)(kn:K2 R)(kx:K3 R):LY.R 0 pE (GZ,t16,t17,dQ,o2L,o3L,y7,ax6,ax7,GX,ajV,iD) kn kx=aH ((fR t17 t16)) (aH (eg t17 ((GZ:Nat):Int)) (aH (decide ((0+(ae t17)) < (ag iD))) (aH (decide ((((0+(ae t17))*33)+0)=(0+((ae t17)*33)))) (aH (((cd aW (nth aW iD (0+(ae t17))) dQ).getD (false,((([]:List gz),(([]:List gG),(0,()))),((ab 32 0),(0,(false,())))))).2.2.2.2.1) (kn (pE.st (GZ,t16,(bI .i64 t17 1),dQ,o2L,o3L,y7,ax6,ax7,GX,ajV,iD))) (al (vS.call ((nth aW iD (0+(ae t17))),o2L,o3L,y7,ax6,ax7)) λDh=>al (tid.call Dh.1) λaPg=>al (aH (((cd aW (nth aW iD (0+(ae t17))) dQ).getD (false,((([]:List gz),(([]:List gG),(0,()))),((ab 32 0),(0,(false,())))))).1) (aH ((!Dh.2.2.1)) (al (GO.call (2,((cd aW (nth aW iD (0+(ae t17))) dQ).getD (false,((([]:List gz),(([]:List gG),(0,()))),((ab 32 0),(0,(false,())))))).2.1,GX,ajV,(nth aW iD (0+(ae t17))),((cd aW (nth aW iD (0+(ae t17))) dQ).getD (false,((([]:List gz),(([]:List gG),(0,()))),((ab 32 0),(0,(false,())))))))) λaTv=>mm (Dh.2.1,Dh.2.2.1,GZ,t16,t17,dQ,Dh.2.2.2.1,Dh.2.2.2.2.1,Dh.2.2.2.2.2.1,Dh.2.2.2.2.2.2.1,Dh.2.2.2.2.2.2.2,aTv.2.1,aTv.2.2,aTv.1.1,(false,((([]:List gz),(([]:List gG),(0,()))),((ab 32 0),(0,(false,()))))),Dh.1,aPg,iD)) (aH ((BT Dh.2.1 ((cd aW (nth aW iD (0+(ae t17))) dQ).getD (false,((([]:List gz),(([]:List gG),(0,()))),((ab 32 0),(0,(false,())))))).2.2.2.1)) (al (GO.call (2,((cd aW (nth aW iD (0+(ae t17))) dQ).getD (false,((([]:List gz),(([]:List gG),(0,()))),((ab 32 0),(0,(false,())))))).2.1,GX,ajV,(nth aW iD (0+(ae t17))),((cd aW (nth aW iD (0+(ae t17))) dQ).getD (false,((([]:List gz),(([]:List gG),(0,()))),((ab 32 0),(0,(false,())))))))) λaTx=>mm (Dh.2.1,Dh.2.2.1,GZ,t16,t17,dQ,Dh.2.2.2.1,Dh.2.2.2.2.1,Dh.2.2.2.2.2.1,Dh.2.2.2.2.2.2.1,Dh.2.2.2.2.2.2.2,aTx.2.1,aTx.2.2,aTx.1.1,(false,((([]:List gz),(([]:List gG),(0,()))),((ab 32 0),(0,(false,()))))),Dh.1,aPg,iD)) (aH ((!(Ty.beq tH aPg ((cd aW (nth aW iD (0+(ae t17))) dQ).getD (false,((([]:List gz),(([]:List gG),(0,()))),((ab 32 0),(0,(false,())))))).2.2.1))) (al (GO.call (2,((cd aW (nth aW iD (0+(ae t17))) dQ).getD (false,((([]:List gz),(([]:List gG),(0,()))),((ab 32 0),(0,(false,())))))).2.1,GX,ajV,(nth aW iD (0+(ae t17))),((cd aW (nth aW iD (0+(ae t17))) dQ).getD (false,((([]:List gz),(([]:List gG),(0,()))),((ab 32 0),(0,(false,())))))))) λaTy=>mm (Dh.2.1,Dh.2.2.1,GZ,t16,t17,dQ,Dh.2.2.2.1,Dh.2.2.2.2.1,Dh.2.2.2.2.2.1,Dh.2.2.2.2.2.2.1,Dh.2.2.2.2.2.2.2,aTy.2.1,aTy.2.2,aTy.1.1,(false,((([]:List gz),(([]:List gG),(0,()))),((ab 32 0),(0,(false,()))))),Dh.1,aPg,iD)) (mm (Dh.2.1,Dh.2.2.1,GZ,t16,t17,dQ,Dh.2.2.2.1,Dh.2.2.2.2.1,Dh.2.2.2.2.2.1,Dh.2.2.2.2.2.2.1,Dh.2.2.2.2.2.2.2,GX,ajV,(nth aW iD (0+(ae t17))),((cd aW (nth aW iD (0+(ae t17))) dQ).getD (false,((([]:List gz),(([]:List gG),(0,()))),((ab 32 0),(0,(false,())))))),Dh.1,aPg,iD))))) (mm (Dh.2.1,Dh.2.2.1,GZ,t16,t17,dQ,Dh.2.2.2.1,Dh.2.2.2.2.1,Dh.2.2.2.2.2.1,Dh.2.2.2.2.2.2.1,Dh.2.2.2.2.2.2.2,GX,ajV,(nth aW iD (0+(ae t17))),((cd aW (nth aW iD (0+(ae t17))) dQ).getD (false,((([]:List gz),(([]:List gG),(0,()))),((ab 32 0),(0,(false,())))))),Dh.1,aPg,iD))) λDj=>al (al (aH (Dj.2.1) (Bj (Dj.1,Dj.2.1,Dj.2.2.1,Dj.2.2.2.1,Dj.2.2.2.2.1,(!Dj.2.2.2.2.2.2.2.2.2.2.2.2.2.2.1.1),Dj.2.2.2.2.2.1,Dj.2.2.2.2.2.2.1,Dj.2.2.2.2.2.2.2.1,Dj.2.2.2.2.2.2.2.2.1,Dj.2.2.2.2.2.2.2.2.2.1,Dj.2.2.2.2.2.2.2.2.2.2.1,Dj.2.2.2.2.2.2.2.2.2.2.2.1,Dj.2.2.2.2.2.2.2.2.2.2.2.2.1,Dj.2.2.2.2.2.2.2.2.2.2.2.2.2.1,Dj.2.2.2.2.2.2.2.2.2.2.2.2.2.2.1,Dj.2.2.2.2.2.2.2.2.2.2.2.2.2.2.2.1,Dj.2.2.2.2.2.2.2.2.2.2.2.2.2.2.2.2.1,Dj.2.2.2.2.2.2.2.2.2.2.2.2.2.2.2.2.2)) (Bj (Dj.1,Dj.2.1,Dj.2.2.1,Dj.2.2.2.1,Dj.2.2.2.2.1,false,Dj.2.2.2.2.2.1,Dj.2.2.2.2.2.2.1,Dj.2.2.2.2.2.2.2.1,Dj.2.2.2.2.2.2.2.2.1,Dj.2.2.2.2.2.2.2.2.2.1,Dj.2.2.2.2.2.2.2.2.2.2.1,Dj.2.2.2.2.2.2.2.2.2.2.2.1,Dj.2.2.2.2.2.2.2.2.2.2.2.2.1,Dj.2.2.2.2.2.2.2.2.2.2.2.2.2.1,Dj.2.2.2.2.2.2.2.2.2.2.2.2.2.2.1,Dj.2.2.2.2.2.2.2.2.2.2.2.2.2.2.2.1,Dj.2.2.2.2.2.2.2.2.2.2.2.2.2.2.2.2.1,Dj.2.2.2.2.2.2.2.2.2.2.2.2.2.2.2.2.2))) λGP=>aH (GP.2.2.2.2.2.1) (al (LX.call GP.2.2.2.2.2.2.2.2.2.2.2.2.2.2.2.2.1) λaVN=>al (GO.call (1,GP.2.2.2.2.2.2.2.2.2.2.2.2.2.2.2.2.1,GP.2.2.2.2.2.2.2.2.2.2.2.2.1,GP.2.2.2.2.2.2.2.2.2.2.2.2.2.1,GP.2.2.2.2.2.2.2.2.2.2.2.2.2.2.1,(true,(aVN,(GP.2.2.2.2.2.2.2.2.2.2.2.2.2.2.2.2.2.1,(GP.1,(false,()))))))) λaRA=>Bl (GP.1,GP.2.1,GP.2.2.1,GP.2.2.2.1,GP.2.2.2.2.1,GP.2.2.2.2.2.2.1,GP.2.2.2.2.2.2.2.1,GP.2.2.2.2.2.2.2.2.1,GP.2.2.2.2.2.2.2.2.2.1,GP.2.2.2.2.2.2.2.2.2.2.1,GP.2.2.2.2.2.2.2.2.2.2.2.1,aRA.2.1,aRA.2.2,aRA.1.1,aRA.1.2,GP.2.2.2.2.2.2.2.2.2.2.2.2.2.2.2.2.1,GP.2.2.2.2.2.2.2.2.2.2.2.2.2.2.2.2.2.2)) (Bl (GP.1,GP.2.1,GP.2.2.1,GP.2.2.2.1,GP.2.2.2.2.1,GP.2.2.2.2.2.2.1,GP.2.2.2.2.2.2.2.1,GP.2.2.2.2.2.2.2.2.1,GP.2.2.2.2.2.2.2.2.2.1,GP.2.2.2.2.2.2.2.2.2.2.1,GP.2.2.2.2.2.2.2.2.2.2.2.1,GP.2.2.2.2.2.2.2.2.2.2.2.2.1,GP.2.2.2.2.2.2.2.2.2.2.2.2.2.1,GP.2.2.2.2.2.2.2.2.2.2.2.2.2.2.1,GP.2.2.2.2.2.2.2.2.2.2.2.2.2.2.2.1,GP.2.2.2.2.2.2.2.2.2.2.2.2.2.2.2.2.1,GP.2.2.2.2.2.2.2.2.2.2.2.2.2.2.2.2.2.2))) λL8=>al (aH (L8.2.1) (al (oG.call (L8.2.2.2.2.2.2.1,L8.2.2.2.2.2.2.2.1,L8.2.2.2.2.2.2.2.2.1,L8.2.2.2.2.2.2.2.2.2.1,L8.2.2.2.2.2.2.2.2.2.2.1)) λaPj=>Bk (L8.2.2.1,L8.2.2.2.1,L8.2.2.2.2.1,(w7 (cK .i64 aPj.2 L8.1) 6),L8.2.2.2.2.2.1,aPj.1.1,aPj.1.2.1,aPj.1.2.2.1,aPj.1.2.2.2.1,aPj.1.2.2.2.2,L8.2.2.2.2.2.2.2.2.2.2.2.1,L8.2.2.2.2.2.2.2.2.2.2.2.2.1,L8.2.2.2.2.2.2.2.2.2.2.2.2.2.1,L8.2.2.2.2.2.2.2.2.2.2.2.2.2.2.1,L8.2.2.2.2.2.2.2.2.2.2.2.2.2.2.2.1,L8.2.2.2.2.2.2.2.2.2.2.2.2.2.2.2.2)) (Bk (L8.2.2.1,L8.2.2.2.1,L8.2.2.2.2.1,false,L8.2.2.2.2.2.1,L8.2.2.2.2.2.2.1,L8.2.2.2.2.2.2.2.1,L8.2.2.2.2.2.2.2.2.1,L8.2.2.2.2.2.2.2.2.2.1,L8.2.2.2.2.2.2.2.2.2.2.1,L8.2.2.2.2.2.2.2.2.2.2.2.1,L8.2.2.2.2.2.2.2.2.2.2.2.2.1,L8.2.2.2.2.2.2.2.2.2.2.2.2.2.1,L8.2.2.2.2.2.2.2.2.2.2.2.2.2.2.1,L8.2.2.2.2.2.2.2.2.2.2.2.2.2.2.2.1,L8.2.2.2.2.2.2.2.2.2.2.2.2.2.2.2.2))) λJ7=>aH (J7.2.2.2.1) (al (GO.call (3,J7.2.2.2.2.2.2.2.2.2.2.2.2.2.2.1,J7.2.2.2.2.2.2.2.2.2.2.1,J7.2.2.2.2.2.2.2.2.2.2.2.1,J7.2.2.2.2.2.2.2.2.2.2.2.2.1,(J7.2.2.2.2.2.2.2.2.2.2.2.2.2.1.1,(J7.2.2.2.2.2.2.2.2.2.2.2.2.2.1.2.1,(J7.2.2.2.2.2.2.2.2.2.2.2.2.2.1.2.2.1,(J7.2.2.2.2.2.2.2.2.2.2.2.2.2.1.2.2.2.1,(true,J7.2.2.2.2.2.2.2.2.2.2.2.2.2.1.2.2.2.2.2))))))) λaMk=>kn (pE.st (J7.1,J7.2.1,(bI .i64 J7.2.2.1 1),(eL aW aMk.1.1 aMk.1.2 J7.2.2.2.2.1),J7.2.2.2.2.2.1,J7.2.2.2.2.2.2.1,J7.2.2.2.2.2.2.2.1,J7.2.2.2.2.2.2.2.2.1,J7.2.2.2.2.2.2.2.2.2.1,aMk.2.1,aMk.2.2,J7.2.2.2.2.2.2.2.2.2.2.2.2.2.2.2))) (kn (pE.st (J7.1,J7.2.1,(bI .i64 J7.2.2.1 1),(eL aW J7.2.2.2.2.2.2.2.2.2.2.2.2.1 J7.2.2.2.2.2.2.2.2.2.2.2.2.2.1 J7.2.2.2.2.1),J7.2.2.2.2.2.1,J7.2.2.2.2.2.2.1,J7.2.2.2.2.2.2.2.1,J7.2.2.2.2.2.2.2.2.1,J7.2.2.2.2.2.2.2.2.2.1,J7.2.2.2.2.2.2.2.2.2.2.1,J7.2.2.2.2.2.2.2.2.2.2.2.1,J7.2.2.2.2.2.2.2.2.2.2.2.2.2.2.2))))) none) none) none) (pE.go kx (dQ,o2L,o3L,y7,ax6,ax7,GX,ajV,iD)):=bX
theorem aHs{R:Type}(o1 o2baL o3baL o4 o5 o6)(k:K1 R):LY.A (o1,o2baL,o3baL,o4,o5,o6) k=al (wall.call o1) λaLu=>al (pE.call (aLu.1,((aLu.1:Nat):Int),0,aLu.2.1,o2baL,o3baL,o4,o5,o6,0,([]:List G0),aLu.2.2)) λNW=>k (LY.out (NW.2.2.2.2.2.2.1,NW.1,NW.2.1,NW.2.2.1,NW.2.2.2.1,NW.2.2.2.2.1,NW.2.2.2.2.2.1,NW.2.2.2.2.2.2.2.1)):=bX
theorem aDr{m:Wm}(h:∀p∈m,aoS p.2)(o:bu):aoS (nC o m):=by
 unfold nC;cases hg:cd aW o m with
 |none=>exact acu
 |some x=>
  have:∃p∈m,p.2=x:=by
   unfold cd at hg;cases hi:iC aW o m with
   |none=>rw[hi]at hg;cases hg
   |some i=>
    rw[hi]at hg;have hg:(m[i]?).map (·.2)=some x:=hg;rw[cW]at hg;obtain⟨p,hp,e⟩:=hg;exact⟨p,cI hp,e⟩
  obtain⟨p,hp,rfl⟩:=this;exact h p hp
theorem aGu{A0:At}{b nb n:Nat}{a:At}{s:List bY}{bs:List dv}(h:uQ A0 b nb n a s bs)(o:bu):qv (qH o (bs.take nb)).1/\((qH o (bs.take nb)).2.2=true->gO (qH o (bs.take nb)).1=true/\1<=(qH o (bs.take nb)).2.1)/\0<=(qH o (bs.take nb)).2.1/\(qH o (bs.take nb)).2.1<=nb:=by
 unfold qH;cases e:Di o (bs.take nb) 0 with
 |none=>exact⟨v0,λh=>(by cases h),iQ _,by show(0:Int)<=nb;omega⟩
 |some x=>
  obtain⟨h1,h2,c,h3,h4⟩:=aGt e;obtain⟨h5,h6⟩:=h.aSY h3 h4;rw[bt]at h2;exact⟨h6,λ_=>⟨h5,by show 1<=x.2;omega⟩,by show 0<=x.2;omega,by show x.2<=nb;omega⟩
theorem azB{A0:At}{b nb n:Nat}{a:At}{s:List bY}{bs:List dv}(h:uQ A0 b nb n a s bs)(o:bu):vS.call (o,nb,n,a,s,bs)=some ((qH o (bs.take nb)).1,(qH o (bs.take nb)).2.1,(qH o (bs.take nb)).2.2,nb,n,a,s,bs):=by
 rw[h.aQO o];unfold qH
 all_goals cases Di o (bs.take nb) 0 <;> rfl
theorem aff{m:Wm}{o:bu}{v:ja}{p:bu×ja}(h:p∈eL aW o v m):p=(o,v)\/p∈m:=by
 unfold eL at h;split at h
 ·exact(List.mem_or_eq_of_mem_set h).symm
 ·rcases bE.1 h with h | h
  ·exact .inr h
  ·exact .inl (bo.1 h)
theorem aJ3{A0:At}{b nb n:Nat}{a:At}{s:List bY}{bs:List dv}(h:uQ A0 b nb n a s bs)(H:Int)(o:bu){x:ja}(hx:aoS x):aoS (ma H (bs.take nb) o x).1:=by
 obtain⟨hv,iV,_⟩:=aGu h o;unfold ma;split
 ·exact hx
 ·generalize qH o (bs.take nb)=r at hv iV;have h1:aoS (GV o x r.2.1 r.2.2 (nR r.1)).1:=by
   unfold GV;split
   ·exact acu
   ·exact hx
  have h2:aoS (PK o r.1 r.2.1 r.2.2 (nR r.1) (GV o x r.2.1 r.2.2 (nR r.1)).1).1:=by
   unfold PK;split
   ·rename_i hc;exact⟨hv,λ_=>(iV (by simp only[au]at hc;exact hc.1)).1⟩
   ·exact h1
  show aoS (acV o r.1 r.2.1 r.2.2 H _).1;unfold acV;split
  ·exact⟨h2.1,h2.2⟩
  ·exact h2
theorem axI(H:Int)(l:List dv)(o:bu)(x:ja):(ma H l o x).2.length<=3:=by
 unfold ma;split
 ·exact aM _
 ·have h1:∀h ok id,(GV o x h ok id).2.length<=1:=λh ok id=>by unfold GV;split <;> exact dJ rfl
  have h2:∀t h ok id x,(PK o t h ok id x).2.length<=1:=λt h ok id x=>by unfold PK;split <;> exact dJ rfl
  have h3:∀t h ok H x,(acV o t h ok H x).2.length<=1:=λt h ok H x=>by unfold acV;split <;> exact dJ rfl
  simp only[ai];have:=h1 (qH o l).2.1 (qH o l).2.2 (nR (qH o l).1);have:=h2 (qH o l).1 (qH o l).2.1 (qH o l).2.2 (nR (qH o l).1) (GV o x (qH o l).2.1 (qH o l).2.2 (nR (qH o l).1)).1;have:=h3 (qH o l).1 (qH o l).2.1 (qH o l).2.2 H (PK o (qH o l).1 (qH o l).2.1 (qH o l).2.2 (nR (qH o l).1) (GV o x (qH o l).2.1 (qH o l).2.2 (nR (qH o l).1)).1).1;omega
theorem aJ2{A0:At}{b nb n:Nat}{a:At}{s:List bY}{bs:List dv}(h:uQ A0 b nb n a s bs)(H:Int)(o:bu){m:Wm}(out:List G0)(hm:∀p∈m,aoS p.2):
  (∀p∈(lookW H (bs.take nb) (m,out) o).1,aoS p.2)/\(lookW H (bs.take nb) (m,out) o).2.length<=out.length+3:=by
 unfold lookW;split
 ·exact⟨hm,Nat.le_add_right _ _⟩
 ·refine⟨λp hp=> ?_,?_⟩
  ·rcases aff hp with rfl | hp
   ·exact aJ3 h H o (aDr hm o)
   ·exact hm p hp
  ·rw[ai];have:=axI H (bs.take nb) o (nC o (m,out).1);show out.length+_<=_;omega
theorem aoK:(LY.jR 0 pE):=by
 refine(LY.lp 0 pE) (λ(_,_,i,_,_,_,_,_,_,_,_,ks)=>ks.length - i.toNat) ?_
 rintro⟨kL,kn,i,m,nb,n,a,s,bs,oL,out,ks⟩ ⟨hj,aDy,rfl,rfl,rfl,hm,k,hk,rfl,ho⟩;obtain⟨A0,b,hc⟩:=id hj;have aDy:ks.length<=1000000:=aDy;have hk:k<=ks.length:=hk;have ho:out.length<=3*k:=ho;have aO0:nb<=1000000:=hc.ch.2.1;by_cases h:k < ks.length
 ·left;have n1:nth aW ks k=ks[k]:=bW (t:=aW) h;have hd:ks.drop k=ks[k]::ks.drop (k+1):=aq h;generalize ks[k]=o at n1 hd;obtain⟨g1,g2⟩:=aJ2 hc nb o out hm;refine⟨(ks.length,(ks.length:Int),((k+1:Nat):Int),(lookW nb (bs.take nb) (m,out) o).1,nb,n,a,s,bs,(lookW nb (bs.take nb) (m,out) o).2.length,(lookW nb (bs.take nb) (m,out) o).2,ks),⟨hj,aDy,rfl,rfl,rfl,g1,k+1,h,rfl,by show _<=3*(k+1);omega⟩,by simp only[aa];omega,?_,λkn kx=> ?_⟩
  ·simp only[bn,FX,aa,hd,bp]
  clear g1 g2 hd;have hx:=aDr hm o;obtain⟨hv,iV,h0,hH⟩:=aGu hc o;have csp:=azB hc o;have ex:(cd aW o m).getD (false,((([]:List gz),(([]:List gG),((0:Int),()))),((ab 32 (0:Int)),((0:Int),(false,())))))=nC o m:=rfl;have el:lookW nb (bs.take nb) (m,out) o=if(nC o m).2.2.2.2.1 then(m,out) else(eL aW o (ma nb (bs.take nb) o (nC o m)).1 m,out++(ma nb (bs.take nb) o (nC o m)).2):=rfl
  rw[L7,aU ak,aj,bg ak ak,aj,aa,aK,aI h,aj,aI ak,aj,n1,ex];generalize nC o m=x at hx el ⊢;cases hf:x.2.2.2.2.1 with
  |true=>
   rw[hf,if_pos rfl]at el;rw[aj,el,N.mu ak]
  |false=>
   rw[hf,if_neg (by decide)]at el;have eX:ma nb (bs.take nb) o x=_:=if_neg (by rw[hf];decide);rw[ao,csp,el,eX];generalize qH o (bs.take nb)=r at hv iV h0 hH csp;obtain⟨t,hh,okv⟩:=r;have hv:qv t:=hv;have h0:0<=hh:=h0;have hH:hh<=nb:=hH;rw[ah];show al (tid.call t) _=_;rw[QX (d:=t) hv];simp only[bn,abC,Rq,Rm,Rs,Ro,ah];have c1:∀(out':List G0) (x':ja) (d:Int),out'.length<=1000000000->okv=true->GO.call (d,t,out'.length,out',o,x')=some ((o,x'),(out'.length+1,out'++ [(d,(o,(t,(x'.2.2.2.1,()))))])):=λout' x' d hl hk=>by have:=agm (d:=(d,t,out'.length,out',o,x')) ⟨hv,rfl,hl⟩;simp only[TL,ajO,SV hv (iV hk).1]at this;exact this
   obtain⟨r1,aDC⟩:∃r,GV o x hh okv (nR t)=r:=⟨_,rfl⟩;refine(bm (λz=>al z _) (?_:_=some (hh,okv,ks.length,(ks.length:Int),(k:Int),m,nb,n,a,s,bs,(out++r1.2).length,out++r1.2,o,r1.1,t,nR t,ks))).trans ?_
   ·rw[<-aDC];unfold GV aeU;cases aND:x.1 with
    |false=>simp only[ao,dw,bF,bq,bk]
    |true=>
     have cw:=agm (d:=(2,x.2.1,out.length,out,o,x)) ⟨hx.1,rfl,by show out.length<=_;omega⟩;simp only[TL,ajO,SV hx.1 (hx.2 aND)]at cw;rw[cw];simp only[ah,aj,bO];cases okv with
     |false=>simp only[eV,aj,Bool.true_or,bH,ai];rfl
     |true=>
      simp only[cz,ao,lu];cases BT hh x.2.2.2.1 with
      |true=>simp only[aj,Bool.true_or,bH,ai];rfl
      |false=>
       simp only[ao,lu];cases Ty.beq tH (nR t) x.2.2.1 with
       |true=>simp only[cz,ao,bF,bq,bk]
       |false=>simp only[eV,aj,bH,ai];rfl
   have l1:(out++r1.2).length<=out.length+1:=by
    rw[<-aDC];unfold GV;split
    ·rw[ai];exact ax _
    ·rw[ai];exact ou _
   rw[ah];obtain⟨out1,aT4⟩:∃l,out++r1.2=l:=⟨_,rfl⟩;rw[aT4]at l1 ⊢;obtain⟨r2,acO⟩:∃r,PK o t hh okv (nR t) r1.1=r:=⟨_,rfl⟩;refine(bm (λz=>al z _) (?_:_=some (hh,okv,ks.length,(ks.length:Int),(k:Int),m,nb,n,a,s,bs,(out1++r2.2).length,out1++r2.2,o,r2.1,t,ks))).trans ?_
   ·rw[<-acO];unfold PK;cases ahN:okv with
    |false=>simp only[ao,ah,dw,bF,bq,bk]
    |true=>
     cases aND:r1.1.1 with
     |true=>simp only[aj,ao,ah,cz,Bool.and_false,bF,bq,bk]
     |false=>
      have cw:=c1 out1 (true,(t,(nR t,(hh,(false,()))))) 1 ak ahN;have ck:=TH (d:=t) hv;simp only[bn,ajG,SV hv (iV ahN).1]at ck;simp only[aj,ah,eV,vN,bH,ck,cw,ai];rfl
   have l2:(out1++r2.2).length<=out1.length+1:=by
    rw[<-acO];unfold PK;split
    ·rw[ai];exact ax _
    ·rw[ai];exact ou _
   rw[ah];obtain⟨out2,aRk⟩:∃l,out1++r2.2=l:=⟨_,rfl⟩;rw[aRk]at l2 ⊢;refine(bm (λz=>al z _) (?_:_=some (ks.length,(ks.length:Int),(k:Int),okv && w7 (nb - hh) 6,m,nb,n,a,s,bs,out2.length,out2,o,r2.1,t,ks))).trans ?_
   ·cases okv with
    |false=>simp only[ao,dw]
    |true=>simp only[aj,bO,XQ,ah];rw[eC ak ak]
   rw[ah];simp only[aDC,acO];rw[<-aD,<-aD,aT4,aRk];unfold acV;cases aDu:(okv && w7 (nb - hh) 6) with
   |false=>
    simp only[ao,bF,bq,bk];rw[N.mu ak]
   |true=>
    have ahN:okv=true:=by simp only[au]at aDu;exact aDu.1
    have cw:=c1 out2 (r2.1.1,(r2.1.2.1,(r2.1.2.2.1,(r2.1.2.2.2.1,(true,()))))) 3 ak ahN;simp only[aj,bH];refine(bm (λz=>al z _) cw).trans ?_
    rw[ah,N.mu ak,ai];rfl
 ·right;obtain rfl:k=ks.length:=ak;intro R kn kx;rw[L7,aP ak,ao];simp only[bn,FX,aa,aL,cO]
theorem agl{m:Wm}(h:∀p∈m,Jo p.1):(Dg m).Perm (m.map (·.1)):=(abi Af λx hx=>by
 obtain⟨p,hp,rfl⟩:=db.1 hx;exact h p hp).1
theorem aHt:LY.Ok:=by
 rintro⟨m,nb,n,a,s,bs⟩ ⟨hj,hl,hn,hm⟩;have hl:m.length<=1000:=hl;have hle:nb<=bs.length:=by obtain⟨A0,b,hc⟩:=hj;exact hc.ch.1
 have hlen:(Dg m).length=m.length:=by rw[(agl λp hp=>(hm p hp).1).length_eq,bZ]
 have z1:((0:Int)).toNat=0:=rfl;rw[aHs,Q9 (d:=m) ⟨by show m.length<=_;omega,λp hp=>(hm p hp).1⟩];simp only[ah,bn,ajD];rw[ajK (d:=(m.length,(m.length:Int),0,m,nb,n,a,s,bs,0,[],Dg m)) ⟨hj,by show(Dg m).length<=_;omega,hlen.symm,by show(m.length:Int)=_;rw[hlen],rfl,λp hp=>(hm p hp).2,0,aM _,rfl,ax _⟩];simp only[ah,bn,FX,z1,aG,bn,ajI,yW]
theorem aAm:LY.RS:=rE [.d (.slice (.pair aW jP)),.n,.n,.d (.slice (.pair aW eU)),.d (.slice cE),.d (.slice dW)] LY
def aHu:=LY.eP aHt 1 ⟨.fp aoK,trivial⟩
def AX:Int->SA:=λn=>([.d ti n],[])
def JY:Bs->fA:=λx=>⟨.d tB x,[],[]⟩
def sS:Int->Bs->Bs:=λn y=>y
def JX:Nat->Int->Prop
 | 0=>λ_=>False
 |dep+1=>λn=>0<=n/\n<=9223372036854775807/\n < 128^(dep+1)
def Cb:Int->Bs:=λn=>fV n
theorem asc{n:Int}(h:n < 128):fV n=[n]:=by unfold fV;rw[gw,if_neg ak];rfl
theorem aze{n:Int}(h:128<=n)(h2:n<=9223372036854775807):fV n=(n%128+128)::fV (n / 128):=by unfold fV;rw[afQ h h2];rfl
theorem aoE{n:Int}(h0:0<=n)(h:n < 256):dV .u8 n=n:=by rw[Sp,gQ];omega
theorem afB:∀d d',AX d=AX d'->d=d':=VZ [.d ti] λ_=>bX
def W1(dep:Nat):Entry:=Entry.of [some ti] AX (JX dep) (λd=>sS d (Cb d)) JY
def Vg(dep:Nat):Int->Option Bs:=λd=>(W1 dep).run (AX d).1 (AX d).2
theorem arS{dep:Nat}{d:Int}(h:JX dep d):Vg dep d=some (sS d (Cb d)):=Entry.vk afB h
def auQ(dep:Nat):ot:=at9 191 lQ (W1 dep) (kj (P:=Tryz.prog) [])
def aay:wQ:= {bJ:=[8,13],res:=[some tB]}
def auO(dep:Nat):= @G4 Tryz.prog (auQ dep) aay 0 Tryz.f191 _ AX
theorem aFy{R:Type}(dep:Nat)(n:Int)(k:fA->Option R):auO dep n k=aH ((fR n (128:Int))) (k (JY [(dV .u8 n)])) (al (Vg dep (tf .i64 n (128:Int))) λx1=>aH (cV (1+(ag x1)) 1) (aH (decide (0=0/\(0+(1+(ag x1)))<=(ag ([(bI .u8 (dV .u8 (mq n (128:Int))) (128:Int))]++x1)))) (k (JY (cut ([(bI .u8 (dV .u8 (mq n (128:Int))) (128:Int))]++x1) 0 (1+(ag x1))))) none) none):=bX
theorem aFz:∀(dep:Nat) (d:Int),JX (dep+1) d->auO dep d some=some (JY (sS d (Cb d))):=by
 rintro dep (n:Int) ⟨h0,h1,h2⟩;have h0:0<=n:=h0;have h1:n<=9223372036854775807:=h1;have h2:n < 128^(dep+1):=h2;rw[aFy];simp only[sS,Cb];by_cases h:n < 128
 ·rw[aU h,aj,asc h,aoE h0 ak]
 ·obtain⟨m,rfl⟩:∃m:Nat,n=m:=⟨n.toNat,ak⟩;cases dep with
  |zero=>exact absurd h2 h
  |succ dep=>
   have e:(128:Int)^(dep+1+1)=128^(dep+1)*128:=fE 128 (dep+1);have e1:tf .i64 (m:Int) (128:Int)=((m / 128:Nat):Int):=N.aS5 ak;have e2:mq (m:Int) (128:Int)=((m%128:Nat):Int):=N.aRu;have e3:bI .u8 (dV .u8 ((m%128:Nat):Int)) (128:Int)=(m:Int)%128+128:=by rw[aoE ak ak];show IntKind.u8.wrap _=_;rw[wrap_u8,gQ];omega
   have e4:((m / 128:Nat):Int)=(m:Int) / 128:=ak;have hl:=ka ((m:Int) / 128);rw[aP h,ao,e1,e2,e3,e4,arS (dep:=dep+1) (d:=(m:Int) / 128) ⟨by show 0<=(m:Int) / 128;omega,by show(m:Int) / 128<=_;omega,by show(m:Int) / 128 < _;omega⟩];simp only[ah,sS,Cb];rw[dh ak ak,aze ak h1];have el:([(m:Int)%128+128]++fV ((m:Int) / 128)).length=1+(fV ((m:Int) / 128)).length:=by rw[ai];rfl
   rw[aI ⟨by trivial,by rw[el];omega⟩,eR el];rfl
def auP:Entry:=W1 9
def NB:Int->Option Bs:=Kv auP AX
theorem afC{d:Int}(h:JX 9 d):NB d=some (sS d (Cb d)):=Entry.vk afB h
theorem Vh:∀dep,qA Tryz.prog 191 (W1 dep)
 | 0=>qA.of (an:=aay) (N:=0) (fn:=Tryz.f191) bX (show Sound _ aNa from Sound.nil _) bX bX bX (jR.fn 0 bX trivial) (λ_ h=>False.elim h)
 |dep+1=>qA.of (an:=aay) (N:=0) (fn:=Tryz.f191) bX (show Sound _ (auQ dep) from Sound.cons (uU.of (Vh dep) (by rfl)) (Sound.kj (P:=Tryz.prog) [])) bX bX bX (jR.fn 0 bX trivial) (aFz dep)
def anu:SG Tryz.prog:=⟨191,lQ,auP,.of (Vh 9) (by rfl)⟩
def ayG:(Bs×Int)->Prop:=λ(b,n)=>b.length<=90000000/\n<=9223372036854775807
def mZ:(Bs×Int)->Bs:=λ(b,n)=>cD b n
def qY:Fs Tryz.prog ayG bn mZ:=eK 150 Tryz.f150 (λ(b,n)=>([.d tB b,.d ti n],[])) (λx=>⟨.d tB x,[],[]⟩) [some tB,some ti] [anu] {bJ:=[6],res:=[some tB]}
theorem aFw{R:Type}(b n)(k:K1 R):qY.A (b,n) k=aH (cV (0+(ag b)) 1) (aH ((BS n 0)) (al (NB n) λx1=>aH (decide ((0+(ag b))<=(ag ((aR 0 (ab 0 0))++b)))) (aH (cV ((0+(ag b))+(ag x1)) 1) (aH (decide (0=0/\(0+((0+(ag b))+(ag x1)))<=(ag ((aR (0+(ag b)) ((aR 0 (ab 0 0))++b))++x1)))) (k (qY.out (cut ((aR (0+(ag b)) ((aR 0 (ab 0 0))++b))++x1) 0 ((0+(ag b))+(ag x1))))) none) none) none) (aH (decide (0=0/\(0+(0+(ag b)))<=(ag ((aR 0 (ab 0 0))++b)))) (k (qY.out (cut ((aR 0 (ab 0 0))++b) 0 (0+(ag b))))) none)) none:=bX
theorem aFx:qY.Ok:=by
 rintro⟨b,n⟩ ⟨hb,hn⟩;have hb:b.length<=90000000:=hb;have hn:n<=9223372036854775807:=hn;have e0:(aR 0 (ab 0 0):List Int)=[]:=rfl;rw[aFw];simp only[aK,e0,aS,bn,mZ,cD,ax,iT,cr,aj,eR,bK];rw[dh ak ak,aj];by_cases h:n>=0
 ·have hl:=ka n;rw[fY h,aj,if_neg ak,afC (d:=n) ⟨h,hn,by have e:(128:Int)^(8+1)=9223372036854775808:=rfl;rw[e];show n < _;omega⟩];simp only[ah,sS,Cb];rw[dh ak ak,aI ⟨by trivial,by rw[ai];omega⟩,eR (by rw[ai])];rfl
 ·rw[eA h,if_pos ak];rfl
theorem je:qY.RS:=rE [.d tB,.d ti] qY
def aat:=qY.eP aFx
abbrev Vf:=Int×Nat×Int×(List Int)
def adn:Vf->Prop:=λ(n,m,i,l)=>m=l.length/\∃j:Nat,j<=8/\i=7 - (j:Int)/\l.length<=100000000+j
def Ca:Vf->(Nat×(List Int)):=λ(n,m,i,l)=>(m+(i+1).toNat,l++(iZ n).drop (7 - i).toNat)
def arR:(Bs×Int)->Prop:=λ(b,n)=>b.length<=90000000
def aaw:(Bs×Int)->Bs:=λ(b,n)=>b++iZ n
def qh:Ls adn bn Ca:=qz (λ(wi,outL,i,n7)=>⟨([bB,.d tu wi,bB,bB,bB,nG 7 outL,.d ti i]++aQ 17 []),[],(bD 7 ([dK (.vec 5 tb n7)]++bD 16 []))⟩) (λx=>(.exit 0,⟨(aQ 5 ([nG 7 x.1]++aQ 18 [])),[],(bD 7 ([dK (.vec 5 tb x.2)]++bD 16 []))⟩))
def AV:Fs Tryz.prog arR bn aaw:=eK 194 Tryz.f194 (λ(b,n)=>([.d tB b,.d tu n],[])) (λx=>⟨.d tB x,[],[]⟩) [some tB,some tu] [] {bJ:=[7],loops:=nF [(3,{aV:=[1,5,6],sites:=[7],owns:=[⟨5,[],7,127⟩]})],outs:=nE [(3,{aV:=[5],sites:=[7]},{aV:=[4]})],fw:=nr [(3,qh.E)],res:=[some tB]}
theorem ado:qh.RS:=rL [.d tu,.n,.d ti,.d tB] qh
theorem Is{R:Type}(wi outL i n7)(kn:K2 R)(kx:K3 R):AV.R 0 qh (wi,outL,i,n7) kn kx=aH ((BS i 0)) (aH (me (dV .u64 (fZ .i64 8 i))) (aH (decide (outL<=(ag n7))) (aH (cV (outL+1) 1) (kn (qh.st (wi,(outL+1),(cK .i64 i 1),((aR outL n7)++ [(dV .u8 (ct .u64 wi (dV .u64 (fZ .i64 8 i))))])))) none) none) none) (qh.go kx (outL,n7)):=bX
theorem ayP{R:Type}(b n)(k:K1 R):AV.A (b,n) k=aH (cV (0+(ag b)) 1) (al (qh.call (n,(0+(ag b)),7,((aR 0 (ab 0 0))++b))) λx1=>aH (decide (0=0/\(0+x1.1)<=(ag x1.2))) (k (AV.out (cut x1.2 0 x1.1))) none) none:=bX
theorem aiU:(AV.jR 0 qh):=by
 refine(AV.lp 0 qh) (λ(n,m,i,l)=>(i+1).toNat) ?_
 rintro⟨n,m,i,l⟩ ⟨rfl,j,hj,rfl,hl⟩;have hl:l.length<=100000000+j:=hl;have e1:(7 - (7 - (j:Int))).toNat=j:=ak;by_cases h:j < 8
 ·left;have e2:cK .i64 (7 - (j:Int)) 1=7 - ((j+1:Nat):Int):=by rw[eC ak ak];omega
  have e3:(7 - (7 - ((j+1:Nat):Int))).toNat=j+1:=ak;have e4:fZ .i64 8 (7 - (j:Int))=((56 - 8*j:Nat):Int):=by rw[HI ak ak];omega
  have e5:dV .u64 ((56 - 8*j:Nat):Int)=((56 - 8*j:Nat):Int):=by rw[WM,gQ];omega
  refine⟨(n,l.length+1,7 - ((j+1:Nat):Int),l++ [n / 2^(56 - 8*j)%256]),⟨by rw[ai];rfl,j+1,ak,rfl,by rw[ai];show l.length+1<=_;omega⟩,by simp only;omega,?_,λkn kx=> ?_⟩
  ·simp only[bn,Ca,e1,e3,akj n j h,aD,cU];rw[show l.length+1+(7 - ((j+1:Nat):Int)+1).toNat=l.length+(7 - (j:Int)+1).toNat by omega]
  ·rw[Is,fY ak,e4,e5,sQ ak,ab3 n _ ak,e2,aI (ax _),dh ak ak,bK];rfl
 ·right;obtain rfl:j=8:=ak;intro R kn kx;rw[Is,eA ak,ao];simp only[bn,Ca,e1];rw[dx (by rw[b8];omega),bk];rfl
theorem ayQ:AV.Ok:=by
 rintro⟨b,n⟩ hb;have hb:b.length<=90000000:=hb;have e0:(aR 0 (ab 0 0):List Int)=[]:=rfl;rw[ayP];simp only[aK,e0,aS];rw[dh ak ak,aj,ado (d:=(n,b.length,7,b)) ⟨rfl,0,ak,rfl,ak⟩];simp only[ah,bn,Ca];rw[show(7 - (7:Int)).toNat=0 from rfl,show((7:Int)+1).toNat=8 from rfl,aG];have el:(b++iZ n).length=b.length+8:=by rw[ai,b8]
 rw[aI ⟨by trivial,by rw[el];omega⟩,eR el];rfl
theorem aax:AV.RS:=rE [.d tB,.d tu] AV
def ayR:=AV.eP ayQ 1 ⟨.fp aiU,trivial⟩
def aar:(Int×Int×Int)->Prop:=λ(a,b,o)=>Pn a/\nv b/\Pn o
def Fk:(Int×Int×Int)->Int:=λ(a,b,o)=>(o+a*b)%4611686018427377339
def ant:(Int×Int)->Prop:=λ(a,b)=>Pn a/\nv b
def ayF:(Int×Int)->Int:=λ(a,b)=>oZ a b
def lF:Ls aar bn Fk:=qz (λ(F3,gI,outv)=>⟨([.d tu F3,.d tu gI,bB,bB,bB,.d tu outv]++aQ 16 []),[],(ab 22 [])⟩) (λx=>(.exit 0,⟨(aQ 5 ([.d tu x]++aQ 16 [])),[],(ab 22 [])⟩))
def rJ:Fs Tryz.prog ant bn ayF:=eK 239 Tryz.f239 (λ(a,b)=>([.d tu a,.d tu b],[])) (λx=>⟨.d tu x,[],[]⟩) [some tu,some tu] [] {loops:=nF [(2,{aV:=[0,1,5]})],outs:=nE [(2,{aV:=[5]},{aV:=[4]})],fw:=nr [(2,lF.E)]}
theorem aas:lF.RS:=rL [.d tu,.d tu,.d tu] lF
theorem Gm{R:Type}(F3 gI outv)(kn:K2 R)(kx:K3 R):rJ.R 0 lF (F3,gI,outv) kn kx=aH ((w7 gI 0)) (aH ((qQ (mq gI 2) 1)) (kn (lF.st ((mq (bI .u64 F3 F3) 4611686018427377339),(tf .u64 gI 2),(mq (bI .u64 outv F3) 4611686018427377339)))) (kn (lF.st ((mq (bI .u64 F3 F3) 4611686018427377339),(tf .u64 gI 2),outv)))) (lF.go kx outv):=bX
theorem arJ{R:Type}(a b)(k:K1 R):rJ.A (a,b) k=al (lF.call (a,b,0)) λx1=>k (rJ.out x1):=bX
theorem aw9(o a b:Int)(m:Int):(o+a*b)%m=((if b%2=1 then(o+a)%m else o)+(a+a)%m*(b / 2))%m:=by
 have e:b=2*(b / 2)+b%2:=ak;have hb:b%2=0\/b%2=1:=ak;generalize b / 2=q at*;have l1:∀x y:Int,(x%m+(a+a)%m*y)%m=(x+(a+a)*y)%m:=λx y=>by rw[tm,gF _ (pF m),jm,gF _ (pF m),<-jm,<-tm]
 have l2:∀x y:Int,(x+(a+a)%m*y)%m=(x+(a+a)*y)%m:=λx y=>by rw[tm,jm,gF _ (pF m),<-jm,<-tm]
 rcases hb with h | h
 ·rw[if_neg ak,l2];rw[h]at e;rw[e,Int.add_zero,Int.add_mul,<-qK,pG a 2,Int.two_mul,Int.add_mul]
 ·rw[if_pos h,l1];rw[h]at e;rw[e,Int.mul_add,wR,<-qK,pG a 2,Int.two_mul];congr 1;omega
theorem aL0{n:Int}(h:nv n):tf .u64 n 2=n / 2:=ahZ h.1 ak h.2
theorem adk:(rJ.jR 0 lF):=by
 refine(rJ.lp 0 lF) (λ(a,b,o)=>b.toNat) ?_
 rintro⟨a,b,o⟩ ⟨ha,hb,ho⟩;have ha:Pn a:=ha;have hb:nv b:=hb;have ho:Pn o:=ho;obtain⟨a0,a1⟩:=ha;obtain⟨b0,b1⟩:=hb;obtain⟨o0,o1⟩:=ho;by_cases h:0 < b
 ·left;have e1:mq (bI .u64 a a) 4611686018427377339=(a+a)%4611686018427377339:=by
   have:bI .u64 a a=a+a:=by rw[tX];omega
   rw[this,v8 ak]
  have e2:mq (bI .u64 o a) 4611686018427377339=(o+a)%4611686018427377339:=by
   have:bI .u64 o a=o+a:=by rw[tX];omega
   rw[this,v8 ak]
  refine⟨((a+a)%4611686018427377339,b / 2,if b%2=1 then(o+a)%4611686018427377339 else o),⟨⟨ak,ak⟩,⟨ak,ak⟩,?_⟩,by simp only[];omega,?_,λkn kx=> ?_⟩
  ·show Pn (if b%2=1 then(o+a)%4611686018427377339 else o);split
   ·exact⟨ak,ak⟩
   ·exact⟨o0,o1⟩
  ·exact bm _ (aw9 o a b 4611686018427377339).symm
  ·rw[Gm,di h,e1,e2,aL0 ⟨b0,b1⟩,v8 b0];by_cases h1:b%2=1
   ·rw[dp h1,if_pos h1];rfl
   ·rw[eO h1,if_neg h1];rfl
 ·right;intro R kn kx;obtain rfl:b=0:=ak;rw[Gm,cG ak];simp only[ao,bn,Fk];rw[show(o+a*0)%4611686018427377339=o by omega]
theorem arK:rJ.Ok:=by rintro⟨a,b⟩ ⟨ha,hb⟩;rw[arJ,aas (d:=(a,b,0)) ⟨ha,hb,ak,ak⟩];simp only[ah,bn,Fk,Int.zero_add];rfl
theorem Vd:rJ.RS:=rE [.d tu,.d tu] rJ
def arL:=rJ.eP arK 1 ⟨.fp adk,trivial⟩
def aap:(Int×Int×Int)->Prop:=λ(a,n,o)=>Pn a/\nv n/\Pn o
def zf:(Int×Int×Int)->Int:=λ(a,n,o)=>ajW 64 a n.toNat o
def anq:(Int×Int)->Prop:=λ(a,n)=>Pn a/\nv n
def ayE:(Int×Int)->Int:=λ(a,n)=>pw a n.toNat
def lE:Ls aap bn zf:=qz (λ(F3,wi,outv)=>⟨([.d tu F3,.d tu wi,bB,bB,bB,.d tu outv]++aQ 14 []),[],(ab 20 [])⟩) (λx=>(.exit 0,⟨(aQ 5 ([.d tu x]++aQ 14 [])),[],(ab 20 [])⟩))
def wA:Fs Tryz.prog anq bn ayE:=eK 219 Tryz.f219 (λ(a,n)=>([.d tu a,.d tu n],[])) (λx=>⟨.d tu x,[],[]⟩) [some tu,some tu] [arL] {loops:=nF [(2,{aV:=[0,1,5]})],outs:=nE [(2,{aV:=[5]},{aV:=[4]})],fw:=nr [(2,lE.E)]}
theorem aaq:lE.RS:=rL [.d tu,.d tu,.d tu] lE
theorem Gl{R:Type}(F3 wi outv)(kn:K2 R)(kx:K3 R):wA.R 0 lE (F3,wi,outv) kn kx=aH ((w7 wi 0)) (aH ((qQ (mq wi 2) 1)) (al (rJ.call (outv,F3)) λx1=>al (rJ.call (F3,F3)) λx2=>kn (lE.st (x2,(tf .u64 wi 2),x1))) (al (rJ.call (F3,F3)) λx3=>kn (lE.st (x3,(tf .u64 wi 2),outv)))) (lE.go kx outv):=bX
theorem arD{R:Type}(a n)(k:K1 R):wA.A (a,n) k=al (lE.call (a,n,1)) λx4=>k (wA.out x4):=bX
theorem adj:(wA.jR 0 lE):=by
 refine(wA.lp 0 lE) (λ(a,n,o)=>n.toNat) ?_
 rintro⟨a,n,o⟩ ⟨ha,hn,ho⟩;have ha:Pn a:=ha;have hn:nv n:=hn;have ho:Pn o:=ho;have n0:=hn.1;have n1:=hn.2;by_cases h:0 < n
 ·left;have e:zf (a,n,o)=zf (oZ a a,n / 2,if n%2=1 then oZ o a else o):=by
   show ajW 64 a n.toNat o=ajW 64 (oZ a a) (n / 2).toNat _;rw[aac 64 65 a n.toNat o ak ak];have t1:(n / 2).toNat=n.toNat / 2:=ak;have t2:(n%2=1)=(n.toNat%2=1):=by apply propext;omega
   rw[t1];simp only[t2];show(if n.toNat=0 then o else _)=_;rw[if_neg ak]
  refine⟨(oZ a a,n / 2,if n%2=1 then oZ o a else o),⟨wh a a,⟨ak,ak⟩,?_⟩,by show(n / 2).toNat < n.toNat;omega,?_,λkn kx=> ?_⟩
  ·show Pn (if n%2=1 then oZ o a else o);split
   ·exact wh _ _
   ·exact ho
  ·exact bm _ e.symm
  ·rw[Gl,di h,aL0 hn,v8 n0,Vd (d:=(o,a)) ⟨ho,ha.u⟩,Vd (d:=(a,a)) ⟨ha,ha.u⟩];by_cases h1:n%2=1
   ·rw[dp h1,if_pos h1];rfl
   ·rw[eO h1,if_neg h1];rfl
 ·right;intro R kn kx;obtain rfl:n=0:=ak;rw[Gl,cG ak];simp only[ao,bn,zf];rw[show ajW 64 a (ae 0) o=o from AR _ _ _]
theorem arE:wA.Ok:=by rintro⟨a,n⟩ ⟨ha,hn⟩;rw[arD,aaq (d:=(a,n,1)) ⟨ha,hn,ak,ak⟩];rfl
theorem anr:wA.RS:=rE [.d tu,.d tu] wA
def arF:=wA.eP arE 1 ⟨.fp adj,trivial⟩
def ans:Int->Prop:=λp=>nv p
def JW:Int->Bool:=λp=>uX p
def um:Fs Tryz.prog ans bn JW:=eK 187 Tryz.f187 (λp=>([.d tu p],[])) (λx=>⟨.d .bool x,[],[]⟩) [some tu] [arF]
theorem arG{R:Type}(p)(k:K1 R):um.A p k=aH ((BS p 1)) (aH ((fR p 4611686018427377339)) (al (wA.call (p,2305843009213688669)) λx1=>k (um.out (qQ x1 1))) (k (um.out false))) (k (um.out false)):=bX
theorem arH:um.Ok:=by
 intro(p:Int) hp;have hp:nv p:=hp;rw[arG];simp only[bn,JW,uX];by_cases h:0 < p
 ·rw[fY ak,aj];by_cases h2:p < 4611686018427377339
  ·rw[aU h2,aj,aI ⟨h,h2⟩,bO,anr (d:=(p,2305843009213688669)) ⟨⟨ak,h2⟩,by constructor <;> decide⟩];rfl
  ·rw[aP h2,ao,aT (λx=>h2 x.2),dw]
 ·rw[eA ak,ao,aT (λx=>h x.1),dw]
theorem Vc:um.RS:=rE [.d tu] um
def arI:=um.eP arH
abbrev ph:=nV×Int
def jh:ph->AS:=λ(gI,i)=>⟨([bB,.dO km gI,bB,.d ti i]++aQ 50 []),[],(ab 54 [])⟩
def jO:Unit->Exit×AS:=λx=>(.ret,⟨([bB,bB,.d .bool false]++aQ 51 []),[],(ab 54 [])⟩)
def qf:nV->Exit×AS:=λx=>(.exit 0,⟨([bB,.dO km x]++aQ 52 []),[],(ab 54 [])⟩)
abbrev AU:=(Unit)⊕(nV)
abbrev Ig:=(Unit)⊕(Unit)
def vy:AU->Out (Exit×AS):=λx=> .br x.isLeft (.get x.getLeft? λa=> .ok (jO a)) (.get x.getRight? λb=> .ok (qf b))
def gN:ph->Ig->AU:=λ(gI,i) y=>match y with | .inl y=> .inl y | .inr z=> .inr (gI)
def qe:ph->Prop:=λ(b,i)=>aAK b/\b.1.length<=1000000000/\∃k:Nat,k<=b.1.length/\i=k
def iW:ph->Ig:=λ(b,i)=>if(b.1.drop i.toNat).all uX then .inr () else .inl ()
def adh:nV->Prop:=λb=>aAK b
def Ic:nV->Bool:=λb=>uR b
def Ie:=dC.fp jh qe gN iW vy
def B7:ph->Option AU:=gS Ie jh
def gq:Fs Tryz.prog adh bn Ic:=eK 145 Tryz.f145 (λb=>([.d km b],[])) (λx=>⟨.d .bool x,[],[]⟩) [some km] [arI] {loops:=nF [(4,{aV:=[1,3]})],outs:=nE [(4,{aV:=[1]},{aV:=[2]})],fw:=nr [(4,Ie)]}
def AT:= @eG Tryz.prog (kj gq.G) gq.an 0 Tryz.f145 0 _ jh
abbrev Gk:=lz Tryz.prog (kj gq.G) gq.an 0 Tryz.f145 0 jh qe gN iW vy
theorem SQ:jf B7 qe gN iW:=nf (jM [.d km,.d ti] λ_=>bX)
theorem GY:om @AT jh qe gN iW vy Gk:=oE
theorem B8{R:Type}(gI:nV)(i:Int)(kn:AS->Option R)(kx:Exit->AS->Option R):AT (gI,i) kn kx=aH ((fR i (((ag gI.1):Nat):Int))) (aH (eg i (((ag gI.1):Nat):Int)) (al (um.call (nth tu gI.1 (ae i))) λx1=>aH ((!x1)) (kx (jO ()).1 (jO ()).2) (kn (jh (gI,(bI .i64 i (1:Int)))))) none) (kx (qf gI).1 (qf gI).2):=bX
theorem aiF{R:Type}(b)(k:K1 R):gq.A b k=aH ((w7 (b.1.length:Int) 12)) (k (gq.out false)) (aH ((fR b.2.1 0)) (k (gq.out false)) (aH ((w7 b.2.1 1048576)) (k (gq.out false)) (aH ((fR b.2.2.1 0)) (k (gq.out false)) (aH ((w7 b.2.2.1 1048576)) (k (gq.out false)) (al (B7 (b,0)) λx2=>aH (x2.isLeft) (al (x2.getLeft?) λa3=>k (gq.out false)) (al (x2.getRight?) λb4=>al (um.call b4.2.2.2.1) λx5=>aH ((qQ b4.2.2.2.1 0)) (k (gq.out true)) (k (gq.out x5)))))))):=bX
theorem V6:Gk:=by
 refine GY (λ(b,i)=>b.1.length - i.toNat) ?_
 rintro⟨b,i⟩ ⟨hb,hl,k,hk,rfl⟩;have hl:b.1.length<=1000000000:=hl;have hk:k<=b.1.length:=hk;by_cases h:k < b.1.length
 ·have hx:=hb.1 _ (aN h);have n1:nth (.int .u64) b.1 k=b.1[k]:=bW (t:= .int .u64) h;have hd:(b.1.drop k).all uX=(uX b.1[k] && (b.1.drop (k+1)).all uX):=by rw[aq h,iM]
  have step:∀ {R:Type} (kn:AS->Option R) (kx:Exit->AS->Option R),AT (b,(k:Int)) kn kx=aH (uX b.1[k]) (kn (jh (b,((k+1:Nat):Int)))) (kx (jO ()).1 (jO ()).2):=by intro R kn kx;rw[B8,aU ak,bg ak ak,aa,n1,N.mu ak,Vc (d:=b.1[k]) hx];simp only[aj,ah,bn,JW];cases uX b.1[k] <;> rfl
  cases hp:uX b.1[k]
  ·right;refine⟨jO (),?_,λkn kx=> ?_⟩
   ·simp only[gN,iW,aa,hd,hp,dw,bF,bq];rfl
   ·rw[step,hp,ao]
  ·left;refine⟨(b,((k+1:Nat):Int)),⟨hb,hl,k+1,ak,rfl⟩,by simp only[aa];omega,?_,λkn kx=> ?_⟩
   ·simp only[gN,iW,aa,hd,hp,bO]
   ·rw[step,hp,aj]
 ·right;obtain rfl:k=b.1.length:=ak;refine⟨qf b,?_,λkn kx=> ?_⟩
  ·simp only[gN,iW,aa,aL];rfl
  ·rw[B8];simp(disch:=omega) only[↓S1,↓if_pos,↓if_neg,if_pos,if_neg,bH,bq,S2]
theorem aiG:gq.Ok:=by
 rintro⟨ks,af,dl,sc,u⟩ hb;have hb:aAK (ks,af,dl,sc,u):=hb;have h2:nv sc:=hb.2;rw[aiF];simp only[bn,Ic,uR,MW];by_cases hk:ks.length<=12
 ·rw[cG ak,aI hk,SQ (d:=((ks,af,dl,sc,u),0)) ⟨hb,by show ks.length<=1000000000;omega,0,ak,rfl⟩];simp only[ao,bO,ah,gN,iW,aZ,aG];by_cases a1:af < 0
  ·rw[aU a1,aT (p:=0<=af/\af<=1048576) ak];cases ks.all uX <;> rfl
  by_cases a2:af > 1048576
  ·rw[aP a1,di a2,aT (p:=0<=af/\af<=1048576) ak];cases ks.all uX <;> rfl
  by_cases a3:dl < 0
  ·rw[aP a1,cG a2,aU a3,aT (p:=0<=dl/\dl<=1048576) ak];cases ks.all uX <;> cases(decide (0<=af/\af<=1048576)) <;> rfl
  by_cases a4:dl > 1048576
  ·rw[aP a1,cG a2,aP a3,di a4,aT (p:=0<=dl/\dl<=1048576) ak];cases ks.all uX <;> cases(decide (0<=af/\af<=1048576)) <;> rfl
  rw[aP a1,cG a2,aP a3,cG a4,aI (p:=0<=dl/\dl<=1048576) ak,aI (p:=0<=af/\af<=1048576) ak];cases aDy:ks.all uX
  ·simp only[aDy,bF,bq];rfl
  ·simp only[aDy,bH];show al (um.call sc) _=_;rw[Vc (d:=sc) h2];simp only[ah,bn,JW];by_cases hs:sc=0
   ·rw[aI hs];show aH (qQ sc 0) _ _=_;rw[dp hs];rfl
   ·rw[aT hs];show aH (qQ sc 0) _ _=_;rw[eO hs];rfl
 ·rw[di ak,aT hk];rfl
theorem adi:gq.RS:=rE [.d km] gq
def aiH:=gq.eP aiG 1 ⟨.fp V6,trivial⟩
abbrev qU:=Lk×Int
def j6:qU->AS:=λ(Bo,i)=>⟨([bB,.dO N0 Bo,bB,.d ti i]++aQ 24 []),[],(ab 28 [])⟩
def kB:Unit->Exit×AS:=λx=>(.ret,⟨([bB,bB,.d .bool false]++aQ 25 []),[],(ab 28 [])⟩)
def rv:Unit->Exit×AS:=λx=>(.exit 0,⟨(aQ 28 []),[],(ab 28 [])⟩)
abbrev CT:=(Unit)⊕(Unit)
abbrev Ll:=(Unit)⊕(Unit)
def xD:CT->Out (Exit×AS):=λx=> .br x.isLeft (.get x.getLeft? λa=> .ok (kB a)) (.get x.getRight? λb=> .ok (rv b))
def im:qU->Ll->CT:=λ(Bo,i) y=>match y with | .inl y=> .inl y | .inr z=> .inr (z)
def ru:qU->Prop:=λ(l,i)=>acx l/\l.1.length<=1000000000/\∃k:Nat,k<=l.1.length/\i=k
def jA:qU->Ll:=λ(l,i)=>if(l.1.drop i.toNat).all uR then .inr () else .inl ()
def aiK:Lk->Prop:=λl=>acx l
def Fj:Lk->Bool:=λl=>kq l
def Lj:=dC.fp j6 ru im jA xD
def DP:qU->Option CT:=gS Lj j6
def j5:Fs Tryz.prog aiK bn Fj:=eK 93 Tryz.f93 (λl=>([.d N0 l],[])) (λx=>⟨.d .bool x,[],[]⟩) [some N0] [aiH] {loops:=nF [(4,{aV:=[1,3]})],outs:=nE [(4,{},{aV:=[2]})],fw:=nr [(4,Lj)]}
def CS:= @eG Tryz.prog (kj j5.G) j5.an 0 Tryz.f93 0 _ j6
abbrev Ih:=lz Tryz.prog (kj j5.G) j5.an 0 Tryz.f93 0 j6 ru im jA xD
theorem Wb:jf DP ru im jA:=nf (jM [.d N0,.d ti] λ_=>bX)
theorem Ii:om @CS j6 ru im jA xD Ih:=oE
theorem DQ{R:Type}(Bo:Lk)(i:Int)(kn:AS->Option R)(kx:Exit->AS->Option R):CS (Bo,i) kn kx=aH ((fR i (((ag Bo.1):Nat):Int))) (aH (eg i (((ag Bo.1):Nat):Int)) (al (gq.call (nth km Bo.1 (ae i))) λx1=>aH ((!x1)) (kx (kB ()).1 (kB ()).2) (kn (j6 (Bo,(bI .i64 i (1:Int)))))) none) (kx (rv ()).1 (rv ()).2):=bX
theorem ane{R:Type}(l)(k:K1 R):j5.A l k=aH ((fR (l.1.length:Int) 1)) (k (j5.out false)) (aH ((w7 (l.1.length:Int) 4)) (k (j5.out false)) (al (DP (l,0)) λx2=>aH (x2.isLeft) (al (x2.getLeft?) λa3=>k (j5.out false)) (al (x2.getRight?) λb4=>k (j5.out true)))):=bX
theorem aag:Ih:=by
 refine Ii (λ(l,i)=>l.1.length - i.toNat) ?_
 rintro⟨l,i⟩ ⟨hb,hl,k,hk,rfl⟩;have hl:l.1.length<=1000000000:=hl;have hk:k<=l.1.length:=hk;by_cases h:k < l.1.length
 ·have hx:=hb _ (aN h);have n1:nth (.pair (.slice (.int .u64)) (.pair (.int .i64) (.pair (.int .i64) (.pair (.int .u64) .unit)))) l.1 k=l.1[k]:=bW (t:=(.pair (.slice (.int .u64)) (.pair (.int .i64) (.pair (.int .i64) (.pair (.int .u64) .unit))))) h;have hd:(l.1.drop k).all uR=(uR l.1[k] && (l.1.drop (k+1)).all uR):=by rw[aq h,iM]
  have step:∀ {R:Type} (kn:AS->Option R) (kx:Exit->AS->Option R),CS (l,(k:Int)) kn kx=aH (uR l.1[k]) (kn (j6 (l,((k+1:Nat):Int)))) (kx (kB ()).1 (kB ()).2):=by intro R kn kx;rw[DQ,aU ak,bg ak ak,aa,n1,N.mu ak,adi (d:=l.1[k]) hx];simp only[aj,ah,bn,Ic];cases uR l.1[k] <;> rfl
  cases hp:uR l.1[k]
  ·right;refine⟨kB (),?_,λkn kx=> ?_⟩
   ·simp only[im,jA,aa,hd,hp,dw,bF,bq];rfl
   ·rw[step,hp,ao]
  ·left;refine⟨(l,((k+1:Nat):Int)),⟨hb,hl,k+1,ak,rfl⟩,by simp only[aa];omega,?_,λkn kx=> ?_⟩
   ·simp only[im,jA,aa,hd,hp,bO]
   ·rw[step,hp,aj]
 ·right;obtain rfl:k=l.1.length:=ak;refine⟨rv (),?_,λkn kx=> ?_⟩
  ·simp only[im,jA,aa,aL];rfl
  ·rw[DQ];simp(disch:=omega) only[↓S1,↓if_pos,↓if_neg,if_pos,if_neg,bH,bq,S2]
theorem anf:j5.Ok:=by
 intro l hl;have hl:acx l:=hl;rw[ane];simp only[bn,Fj,kq];by_cases h0:l.1.length < 1
 ·rw[aU ak,aT (p:=0 < l.1.length/\l.1.length<=4) ak,Bool.and_false];rfl
 by_cases h4:l.1.length > 4
 ·rw[aP ak,di ak,aT (p:=0 < l.1.length/\l.1.length<=4) ak,Bool.and_false];rfl
 rw[aP ak,cG ak,aI (p:=0 < l.1.length/\l.1.length<=4) ak,Bool.and_true,Wb (d:=(l,0)) ⟨hl,by show l.1.length<=1000000000;omega,0,ak,rfl⟩];simp only[ao,ah,im,jA,aZ,aG];cases l.1.all uR <;> rfl
theorem Qa:j5.RS:=rE [.d N0] j5
def Va:=j5.eP anf 1 ⟨.fp aag,trivial⟩
abbrev CR:=Lk×Bs×Int×Int×nV
def rr:CR->Bs->((Lk×Int×nV)×(Bs)):=λ(aNJ,vl,gT,kv,n5) y=>((aNJ,gT,n5),y)
def V9:CR->Prop:=λ(l,o,i,j,b)=>b.1.length<=12/\∃k:Nat,k<=b.1.length/\j=k/\o.length+8*b.1.length<=80000000+8*k
def wq:CR->Bs:=λ(l,o,i,j,b)=>l9 o (b.1.drop j.toNat)
def V7:(Lk×Bs×Int)->Prop:=λ(l,o,i)=>(∀b∈l.1,aPk b)/\l.1.length<=4/\∃k:Nat,k<=l.1.length/\i=k/\o.length<=1000+200*k
def CQ:(Lk×Bs×Int)->Bs:=λ(l,o,i)=>(l.1.drop i.toNat).foldl aAz o
def aiI:Lk->Prop:=λl=>acx l
def Nx:Lk->Bs:=λl=>M5 l
def lf:Ls V7 bn CQ:=qz (λ(Bo,outv,i)=>⟨([bB,.dO N0 Bo,bB,.d tB outv,.d ti i]++aQ 53 []),[],(ab 58 [])⟩) (λx=>(.exit 0,⟨([bB,bB,bB,.d tB x]++aQ 54 []),[],(ab 58 [])⟩))
def lg:Ls V9 rr wq:=qz (λ(aNJ,vl,gT,kv,n5)=>⟨([bB,.dO N0 aNJ,bB,.d tB vl,.d ti gT,eI 5,.d ti kv]++aQ 51 []),[],(bD 5 ([dK (.d km n5)]++bD 52 []))⟩) (λx=>(.exit 2,⟨([bB,.dO N0 x.1.1,bB,.d tB x.2,.d ti x.1.2.1,eI 5]++aQ 52 []),[],(bD 5 ([dK (.d km x.1.2.2)]++bD 52 []))⟩))
def kZ:Fs Tryz.prog aiI bn Nx:=eK 160 Tryz.f160 (λl=>([.d N0 l],[])) (λx=>⟨.d tB x,[],[]⟩) [some N0] [Va,aat,ayR] {loops:=nF [(5,{aV:=[1,3,4]}),(10,{aV:=[1,3,4,5,6],sites:=[5]})],outs:=nE [(5,{aV:=[3]},{aV:=[2]}),(10,{aV:=[1,3,4,5],sites:=[5]},{aV:=[2]})],fw:=nr [(5,lf.E),(10,lg.E)],res:=[some tB]}
theorem V8:lf.RS:=rL [.d N0,.d tB,.d ti] lf
theorem DN{R:Type}(Bo outv i)(kn:K2 R)(kx:K3 R):kZ.R 0 lf (Bo,outv,i) kn kx=aH ((fR i (Bo.1.length:Int))) (aH (eg i (Bo.1.length:Int)) (al (qY.call (outv,(((ag (nth km Bo.1 (ae i)).1):Nat):Int))) λx1=>al (lg.call (Bo,x1,i,0,(nth km Bo.1 (ae i)))) λx2=>al (qY.call (x2.2,x2.1.2.2.2.1)) λx3=>al (qY.call (x3,x2.1.2.2.2.2.1)) λx4=>al (AV.call (x4,x2.1.2.2.2.2.2.1)) λx5=>kn (lf.st (x2.1.1,x5,(bI .i64 x2.1.2.1 1)))) none) (lf.go kx outv):=bX
theorem Wa:lg.RS:=rL [.d N0,.d tB,.d ti,.d ti,.d km] lg
theorem DO{R:Type}(aNJ vl gT kv n5)(kn:K2 R)(kx:K3 R):kZ.R 1 lg (aNJ,vl,gT,kv,n5) kn kx=aH ((fR kv (n5.1.length:Int))) (aH (eg kv (n5.1.length:Int)) (al (AV.call (vl,(nth tu n5.1 (ae kv)))) λx1=>kn (lg.st (aNJ,x1,gT,(bI .i64 kv 1),n5))) none) (lg.go kx ((aNJ,gT,n5),vl)):=bX
theorem am9{R:Type}(l)(k:K1 R):kZ.A l k=al (j5.call l) λx1=>aH ((!x1)) (k (kZ.out ([]:List Int))) (al (qY.call (([]:List Int),(l.1.length:Int))) λx2=>al (lf.call (l,x2,0)) λx9=>k (kZ.out x9)):=bX
theorem aaf:(kZ.jR 1 lg):=by
 refine(kZ.lp 1 lg) (λ(l,o,i,j,b)=>b.1.length - j.toNat) ?_
 rintro⟨l,o,i,j,b⟩ ⟨aeZ,k,hk,rfl,hl⟩;have aeZ:b.1.length<=12:=aeZ;have hk:k<=b.1.length:=hk;have hl:o.length+8*b.1.length<=80000000+8*k:=hl;by_cases h:k < b.1.length
 ·left;have n1:nth (.int .u64) b.1 k=b.1[k]:=bW (t:= .int .u64) h;refine⟨(l,o++iZ b.1[k],i,((k+1:Nat):Int),b),⟨aeZ,k+1,ak,rfl,by rw[ai,b8];omega⟩,by simp only[aa];omega,?_,λkn kx=> ?_⟩
  ·simp only[rr,wq,aa];rw[Y1 _ _ _ h]
  ·rw[DO,aU ak,bg ak ak,aa,n1,aax (d:=(o,b.1[k])) (by show o.length<=90000000;omega)];simp only[aj,ah,bn,aaw];rw[N.mu ak]
 ·right;obtain rfl:k=b.1.length:=ak;intro R kn kx;rw[DO,aP ak,ao];simp only[rr,wq,aa,aL];rfl
theorem aae:(kZ.jR 0 lf):=by
 refine(kZ.lp 0 lf) (λ(l,o,i)=>l.1.length - i.toNat) ?_
 rintro⟨l,o,i⟩ ⟨hb,h4,k,hk,rfl,hl⟩;have h4:l.1.length<=4:=h4;have hk:k<=l.1.length:=hk;have hl:o.length<=1000+200*k:=hl;by_cases h:k < l.1.length
 ·left;have hx:=hb _ (aN h);have n1:nth (.pair (.slice (.int .u64)) (.pair (.int .i64) (.pair (.int .i64) (.pair (.int .u64) .unit)))) l.1 k=l.1[k]:=bW (t:=(.pair (.slice (.int .u64)) (.pair (.int .i64) (.pair (.int .i64) (.pair (.int .u64) .unit))))) h;have e0:=agI o l.1[k] hx.1;refine⟨(l,aAz o l.1[k],((k+1:Nat):Int)),⟨hb,h4,k+1,ak,rfl,ak⟩,by simp only[aa];omega,?_,λkn kx=> ?_⟩
  ·simp only[bn,CQ,aa];rw[aq h];rfl
  ·rw[DN,aU ak,bg ak ak,aa,n1];obtain⟨⟨ks,af,dl,sc,u⟩,aNd⟩:∃b,l.1[k]=b:=⟨_,rfl⟩;rw[aNd]at hx e0 ⊢;obtain⟨aeZ,ha,hd⟩:=hx;have aeZ:ks.length<=12:=aeZ;have ha:af<=9223372036854775807:=ha;have hd:dl<=9223372036854775807:=hd;have l1:=dq o ks.length;have l2:=JR ks (cD o ks.length);have l3:=dq (l9 (cD o ks.length) ks) af;have l4:=dq (cD (l9 (cD o ks.length) ks) af) dl;simp only[aj];rw[je (d:=(o,(ks.length:Int))) ⟨by show o.length<=90000000;omega,by show(ks.length:Int)<=9223372036854775807;omega⟩];simp only[ah,bn,mZ];rw[Wa (d:=(l,cD o ks.length,(k:Int),0,(ks,af,dl,sc,u))) ⟨aeZ,0,aM _,rfl,by show(cD o ks.length).length+8*ks.length<=_;omega⟩];simp only[ah,rr,wq,aZ,aG];rw[je (d:=(l9 (cD o ks.length) ks,af)) ⟨by show(l9 (cD o ks.length) ks).length<=90000000;omega,ha⟩];simp only[ah,bn,mZ];rw[je (d:=(cD (l9 (cD o ks.length) ks) af,dl)) ⟨by show(cD (l9 (cD o ks.length) ks) af).length<=90000000;omega,hd⟩];simp only[ah,bn,mZ];rw[aax (d:=(cD (cD (l9 (cD o ks.length) ks) af) dl,sc)) (by show(cD (cD (l9 (cD o ks.length) ks) af) dl).length<=90000000;omega)];simp only[ah,bn,aaw];rw[N.mu ak];rfl
 ·right;obtain rfl:k=l.1.length:=ak;intro R kn kx;rw[DN,aP ak,ao];simp only[bn,CQ,aa,aL];rfl
theorem ana:kZ.Ok:=by
 intro l hl;have hl:acx l:=hl;rw[am9,Qa (d:=l) hl];simp only[ah,bn,Fj,bn,Nx,M5];cases iV:kq l
 ·rfl
 ·obtain⟨h1,h2,h3⟩:=aqX iV;have l1:=dq [] l.1.length;have l0:([]:List Int).length=0:=rfl;simp only[cz,ao,bH];rw[je (d:=([],(l.1.length:Int))) ⟨by show([]:List Int).length<=90000000;omega,by show(l.1.length:Int)<=9223372036854775807;omega⟩];simp only[ah,bn,mZ];rw[V8 (d:=(l,cD [] l.1.length,0)) ⟨h1,h3,0,aM _,rfl,by show(cD [] l.1.length).length<=_;omega⟩];rfl
theorem aiJ:kZ.RS:=rE [.d N0] kZ
def anb:=kZ.eP ana 2 ⟨.fp aae,⟨.fp aaf,trivial⟩⟩
abbrev Ve:=Bs×Nat×Int×(List Int)
def adl:Ve->Prop:=λ(h,m,i,l)=>h.length=32/\m=l.length/\∃k:Nat,k<=32/\i=k/\l.length<=100000000+k
def B9:Ve->(Nat×(List Int)):=λ(h,m,i,l)=>((l++h.drop i.toNat).length,l++h.drop i.toNat)
def arO:(Bs×Bs)->Prop:=λ(b,h)=>b.length<=90000000/\h.length=32
def D3:(Bs×Bs)->Bs:=λ(b,h)=>b++h
def qg:Ls adl bn B9:=qz (λ(Pg,outL,i,n7)=>⟨([bB,bB,bB,.dO tH Pg,bB,nG 7 outL,.d ti i]++aQ 14 []),[],(bD 7 ([dK (.vec 5 tb n7)]++bD 13 []))⟩) (λx=>(.exit 0,⟨(aQ 5 ([nG 7 x.1]++aQ 15 [])),[],(bD 7 ([dK (.vec 5 tb x.2)]++bD 13 []))⟩))
def vz:Fs Tryz.prog arO bn D3:=eK 149 Tryz.f149 (λ(b,h)=>([.d tB b,.d tH h],[])) (λx=>⟨.d tB x,[],[]⟩) [some tB,some tH] [] {bJ:=[7],loops:=nF [(3,{aV:=[3,5,6],sites:=[7],owns:=[⟨5,[],7,127⟩]})],outs:=nE [(3,{aV:=[5],sites:=[7]},{aV:=[4]})],fw:=nr [(3,qg.E)],res:=[some tB]}
theorem adm:qg.RS:=rL [.d tH,.n,.d ti,.d tB] qg
theorem Iq{R:Type}(Pg outL i n7)(kn:K2 R)(kx:K3 R):vz.R 0 qg (Pg,outL,i,n7) kn kx=aH ((fR i 32)) (aH (eg i 32) (aH (decide (outL<=(ag n7))) (aH (cV (outL+1) 1) (kn (qg.st (Pg,(outL+1),(bI .i64 i 1),((aR outL n7)++ [(nth tb Pg (ae i))])))) none) none) none) (qg.go kx (outL,n7)):=bX
theorem ayK{R:Type}(b h)(k:K1 R):vz.A (b,h) k=aH (cV (0+(ag b)) 1) (al (qg.call (h,(0+(ag b)),0,((aR 0 (ab 0 0))++b))) λx1=>aH (decide (0=0/\(0+x1.1)<=(ag x1.2))) (k (vz.out (cut x1.2 0 x1.1))) none) none:=bX
theorem aiT:(vz.jR 0 qg):=by
 refine(vz.lp 0 qg) (λ(_,_,i,_)=>(32 - i).toNat) ?_
 rintro⟨h,m,i,l⟩ ⟨aNb,rfl,k,hk,rfl,hl⟩;have aNb:h.length=32:=aNb;have hl:l.length<=100000000+k:=hl;by_cases gB:k < 32
 ·left;have n1:nth tb h k=h[k]:=bW (t:=tb) ak;have el:(l++ [h[k]]).length=l.length+1:=by rw[ai];rfl
  refine⟨(h,l.length+1,((k+1:Nat):Int),l++ [h[k]]),⟨aNb,el.symm,k+1,ak,rfl,by show(l++ [h[k]]).length<=_;omega⟩,by show(32 - ((k+1:Nat):Int)).toNat < (32 - (k:Int)).toNat;omega,?_,λkn kx=> ?_⟩
  ·simp only[bn,B9,aa];rw[aq (show k < h.length by omega),aD,cU]
  ·rw[Iq,aU ak,aj,bg ak ak,aj,aI (ax _),aj,dh ak ak,aj,N.mu ak,aa,n1,bK]
 ·right;obtain rfl:k=32:=ak;intro T kn kx;rw[Iq,aP ak,ao];simp only[bn,B9,aa];rw[dx ak,bk]
theorem ayL:vz.Ok:=by rintro⟨b,h⟩ ⟨hb,aNb⟩;have hb:b.length<=90000000:=hb;have aNb:h.length=32:=aNb;rw[ayK];simp only[aK,dI,aS];rw[dh ak ak,aj,adm (d:=(h,b.length,0,b)) ⟨aNb,rfl,0,ak,rfl,ak⟩];simp only[ah,bn,B9,aZ,aG,ax,iT,cr,aj,eR,bn,D3]
theorem Fl:vz.RS:=rE [.d tB,.d tB] vz
def afA:=vz.eP ayL 1 ⟨.fp aiT,trivial⟩
def arP:(Bs×Int)->Prop:=λ(b,n)=>b.length<=90000000/\n<=9223372036854775807
def aav:(Bs×Int)->(Nat×(List Int)):=λ(b,n)=>((cD b n).length,cD b n)
def Ir:Fs Tryz.prog arP bn aav:=eK 150 Tryz.f150 (λ(b,n)=>([.d tB b,.d ti n],[])) (λx=>⟨.bz (.new 0 0) 0 [] 0 0 x.1,[],[.obj 0 false (.vec 5 tb x.2)]⟩) [some tB,some ti] [anu] {bJ:=[6],owns:=[⟨4,[],6,127⟩]}
theorem ayM{R:Type}(b n)(k:K1 R):Ir.A (b,n) k=aH (cV (0+(ag b)) 1) (aH ((BS n 0)) (al (NB n) λx1=>aH (decide ((0+(ag b))<=(ag ((aR 0 (ab 0 0))++b)))) (aH (cV ((0+(ag b))+(ag x1)) 1) (k (Ir.out (((0+(ag b))+(ag x1)),((aR (0+(ag b)) ((aR 0 (ab 0 0))++b))++x1)))) none) none) (k (Ir.out ((0+(ag b)),((aR 0 (ab 0 0))++b))))) none:=bX
theorem ayN:Ir.Ok:=by
 rintro⟨b,n⟩ ⟨hb,hn⟩;have hb:b.length<=90000000:=hb;have hn:n<=9223372036854775807:=hn;rw[ayM];simp only[aK,dI,aS,bn,aav,cD,ax,cr,aj,bK];rw[dh ak ak,aj];by_cases h:n>=0
 ·have hl:=ka n;rw[fY h,aj,if_neg ak,afC (d:=n) ⟨h,hn,by have e:(128:Int)^(8+1)=9223372036854775808:=rfl;rw[e];show n < _;omega⟩];simp only[ah,sS,Cb];rw[dh ak ak,ai];rfl
 ·rw[eA h,if_pos ak];rfl
theorem arQ:Ir.RS:=rE [.d tB,.d ti] Ir
def ayO:=Ir.eP ayN
def arM:(Bs×Bs)->Prop:=λ(b,c)=>b.length+c.length<=80000000
def aau:(Bs×Bs)->Bs:=λ(b,c)=>b++(fV c.length++c)
def NA:Fs Tryz.prog arM bn aau:=eK 159 Tryz.f159 (λ(b,c)=>([.d tB b,.d tB c],[])) (λx=>⟨.d tB x,[],[]⟩) [some tB,some tB] [ayO] {res:=[some tB]}
theorem ayH{R:Type}(b c)(k:K1 R):NA.A (b,c) k=al (Ir.call (b,(c.length:Int))) λx1=>aH (decide (x1.1<=(ag x1.2))) (aH (cV (x1.1+(ag c)) 1) (aH (decide (0=0/\(0+(x1.1+(ag c)))<=(ag ((aR x1.1 x1.2)++c)))) (k (NA.out (cut ((aR x1.1 x1.2)++c) 0 (x1.1+(ag c))))) none) none) none:=bX
theorem ayI:NA.Ok:=by
 rintro⟨b,c⟩ h;have h:b.length+c.length<=80000000:=h;have hl:=dq b c.length;have e:cD b c.length=b++fV c.length:=by unfold cD;rw[if_neg ak]
 have el:(b++fV c.length++c).length=(b++fV c.length).length+c.length:=ai;rw[ayH,arQ (d:=(b,(c.length:Int))) ⟨by show b.length<=_;omega,by show(c.length:Int)<=_;omega⟩];simp only[ah,bn,aav,ax,cr,aj,bK,aK,ml];rw[e]at hl ⊢;rw[dh ak ak,aj,aI ak,aj,eR el];simp only[bn,aau,aD]
theorem arN:NA.RS:=rE [.d tB,.d tB] NA
def ayJ:=NA.eP ayI
def ayz:VQ->Prop:=λ_=>True
def aiL:VQ->Bool:=λw=>Bi w
def Qb:Fs Tryz.prog ayz bn aiL:=eK 158 Tryz.f158 (λwv=>([.d azH wv],[])) (λx=>⟨.d .bool x,[],[]⟩) [some azH]
theorem aFo{R:Type}(wv)(k:K1 R):Qb.A wv k=aH ((BS wv.1 0)) (aH ((ajU wv.1 3)) (k (Qb.out (ajU (wv.2.1.length:Int) 12))) (k (Qb.out false))) (k (Qb.out false)):=bX
theorem aFp:Qb.Ok:=by
 rintro⟨b,ss,sc,u⟩ _;rw[aFo];simp only[bn,aiL,Bi];by_cases h:0<=b
 ·rw[fY h,aj];by_cases h2:b < 4
  ·rw[oS ak,aj,aI ⟨h,h2⟩,bO];by_cases h3:ss.length<=12
   ·rw[oS ak,aI h3]
   ·rw[l5 ak,aT h3]
  ·rw[l5 ak,ao,aT (λx=>h2 x.2),dw]
 ·rw[eA h,ao,aT (λx=>h x.1),dw]
theorem ayA:Qb.RS:=rE [.d azH] Qb
def aFq:=Qb.eP aFp
def YF(pre:List gz)(o:bu):Bool:=pre.any λy=>Ty.beq aW y.1 o
def al9:List gz->List gz->Bool
 |_,[]=>true
 |pre,x::l=>(HJ x && !(YF pre x.1)) && al9 (pre++ [x]) l
theorem aD1:∀(l:List gz) (m:List (bu×Bool)) (pre:List gz),(∀o,(cd aW o m).getD false=YF pre o)->DF m l=al9 pre l
 |[],_,_,_=>rfl
 |x::l,m,pre,h=>by
  have e:Ph m x=YF pre x.1:=h x.1;rw[DF,al9,e,aD1 l (eL aW x.1 true m) (pre++ [x]) λo=> ?_,Bool.and_comm (HJ x)];rw[JG gb];unfold YF;rw[List.any_append];simp only[lv,tn,qJ];by_cases h1:o=x.1
  ·rw[if_pos ((va _ _).2 h1),(va x.1 o).2 h1.symm,Bool.or_true];rfl
  ·rw[if_neg (λe=>h1 ((va _ _).1 e)),h o];have:Ty.beq aW x.1 o=false:=by
    cases hb:Ty.beq aW x.1 o with
    |false=>rfl
    |true=>exact absurd ((va _ _).1 hb).symm h1
   rw[this,qJ];rfl
def AK(o:gG):Bool:=rU o.1 && kq o.2.1
theorem amT:∀(l:List gG) (s:Int),0<=s->s<=1125899906842624->xA s l=(l.all AK && decide (s+jZ l<=1125899906842624))
 |[],s,h0,h1=>by rw[aI (show s+jZ []<=1125899906842624 by show s+0<=_;omega)];rfl
 |o::l,s,h0,h1=>by
  have hc:rU s=true:=aI ⟨h0,h1⟩;rw[xA,iM,B4];unfold Ko;rw[hc,bO,show AK o=(rU o.1 && kq o.2.1) from rfl];cases c1:rU o.1 with
  |false=>rfl
  |true=>
   have c2:0<=o.1/\o.1<=1125899906842624:=of_decide_eq_true c1;rw[bO,bO];by_cases hs:s+o.1<=1125899906842624
   ·rw[aI hs,bO,amT l (s+o.1) ak hs,Int.add_assoc,Bool.and_assoc]
   ·rw[aT hs,dw,dw];cases hl:l.all AK with
    |false=>cases kq o.2.1 <;> rfl
    |true=>
     have key:∀l:List gG,l.all AK=true->0<=jZ l:=by
      intro l
      induction l with
      |nil=>intro _;exact iQ 0
      |cons x l ih=>
       intro h;rw[iM,au]at h;have h1:=h.1;unfold AK at h1;rw[au]at h1;have h2:0<=x.1/\x.1<=1125899906842624:=of_decide_eq_true h1.1;have:=ih h.2;rw[B4];omega
     have:=key l hl;rw[aT (show ¬s+(o.1+jZ l)<=1125899906842624 by omega)];cases kq o.2.1 <;> rfl
abbrev qV:=dD×Int
def j7:qV->AS:=λ(tg,i)=>⟨([bB,.dO eJ tg,bB,.d ti i]++aQ 100 []),[],(ab 104 [])⟩
def eT:Unit->Exit×AS:=λx=>(.ret,⟨([bB,bB,.d .bool false]++aQ 101 []),[],(ab 104 [])⟩)
def rC:dD->Exit×AS:=λx=>(.exit 0,⟨([bB,.dO eJ x]++aQ 102 []),[],(ab 104 [])⟩)
abbrev CX:=(Unit)⊕(dD)
abbrev Ln:=(Unit)⊕(dD)
def xE:CX->Out (Exit×AS):=λx=> .br x.isLeft (.get x.getLeft? λa=> .ok (eT a)) (.get x.getRight? λb=> .ok (rC b))
def iq:qV->Ln->CX:=λ(tg,i) y=>match y with | .inl y=> .inl y | .inr z=> .inr (z)
abbrev qW:=dD×Int×Int×gz
def j8:qW->AS:=λ(zR,gT,kv,n4)=>⟨([bB,.dO eJ zR,bB,.d ti gT,eI 4,.d ti kv]++aQ 98 []),[],(bD 4 ([dK (.d fX n4)]++bD 99 []))⟩
def kC:Unit->Exit×AS:=λx=>(.ret,⟨([bB,bB,.d .bool false]++aQ 101 []),[],(ab 104 [])⟩)
def rF:(dD×Int)->Exit×AS:=λx=>(.exit 2,⟨([bB,.dO eJ x.1,bB,.d ti x.2]++aQ 100 []),[],(ab 104 [])⟩)
abbrev CZ:=(Unit)⊕((dD×Int))
abbrev Lp:=(Unit)⊕(Unit)
def xF:CZ->Out (Exit×AS):=λx=> .br x.isLeft (.get x.getLeft? λa=> .ok (kC a)) (.get x.getRight? λb=> .ok (rF b))
def iu:qW->Lp->CZ:=λ(zR,gT,kv,n4) y=>match y with | .inl y=> .inl y | .inr z=> .inr ((zR,gT))
abbrev qX:=dD×Int×Int
def j9:qX->AS:=λ(aGH,sum,Ry)=>⟨([bB,.dO eJ aGH]++aQ 4 ([.d ti sum,.d ti Ry]++aQ 96 [])),[],(ab 104 [])⟩
def fP:Unit->Exit×AS:=λx=>(.ret,⟨([bB,bB,.d .bool false]++aQ 101 []),[],(ab 104 [])⟩)
def rH:Int->Exit×AS:=λx=>(.exit 4,⟨(aQ 6 ([.d ti x]++aQ 97 [])),[],(ab 104 [])⟩)
abbrev C1:=(Unit)⊕(Int)
abbrev Lr:=(Unit)⊕(Int)
def xG:C1->Out (Exit×AS):=λx=> .br x.isLeft (.get x.getLeft? λa=> .ok (fP a)) (.get x.getRight? λb=> .ok (rH b))
def iv:qX->Lr->C1:=λ(aGH,sum,Ry) y=>match y with | .inl y=> .inl y | .inr z=> .inr (z)
def rD:qW->Prop:=λ(t,i,j,x)=>∃(n k:Nat),n<=t.1.length/\k<=n/\n<=1000/\i=n/\j=k
def jC:qW->Lp:=λ(t,i,j,x)=>if YF ((t.1.take i.toNat).drop j.toNat) x.1 then .inl () else .inr ()
def rB:qV->Prop:=λ(t,i)=>t.1.length<=64/\∃k:Nat,k<=t.1.length/\i=k
def jB:qV->Ln:=λ(t,i)=>if al9 (t.1.take i.toNat) (t.1.drop i.toNat) then .inr t else .inl ()
def rG:qX->Prop:=λ(t,s,i)=>t.2.1.length<=64/\(∀o∈t.2.1,acx o.2.1)/\∃k:Nat,k<=t.2.1.length/\i=k/\0<=s/\s<=(k:Int)*1125899906842624
def jD:qX->Lr:=λ(t,s,i)=>if(t.2.1.drop i.toNat).all AK then .inr (s+jZ (t.2.1.drop i.toNat)) else .inl ()
def aiP:dD->Prop:=λt=>aOH t
def Ny:dD->Bool:=λt=>gO t
def Lm:=dC.fp j7 rB iq jB xE
def DT:qV->Option CX:=gS Lm j7
def Lo:=dC.fp j8 rD iu jC xF
def DW:qW->Option CZ:=gS Lo j8
def Lq:=dC.fp j9 rG iv jD xG
def DY:qX->Option C1:=gS Lq j9
def fu:Fs Tryz.prog aiP bn Ny:=eK 100 Tryz.f100 (λt=>([.d eJ t],[])) (λx=>⟨.d .bool x,[],[]⟩) [some eJ] [aFq,Va] {loops:=nF [(4,{aV:=[1,3]}),(10,{aV:=[1,3,4,5],sites:=[4]}),(16,{aV:=[1,6,7]})],outs:=nE [(4,{aV:=[1]},{aV:=[2]}),(10,{aV:=[1,3]},{aV:=[2]}),(16,{aV:=[6]},{aV:=[2]})],fw:=nr [(4,Lm),(10,Lo),(16,Lq)]}
def CW:= @eG Tryz.prog (kj fu.G) fu.an 0 Tryz.f100 0 _ j7
abbrev Ij:=lz Tryz.prog (kj fu.G) fu.an 0 Tryz.f100 0 j7 rB iq jB xE
def CY:= @eG Tryz.prog (kj fu.G) fu.an 0 Tryz.f100 1 _ j8
abbrev Il:=lz Tryz.prog (kj fu.G) fu.an 0 Tryz.f100 1 j8 rD iu jC xF
def C0:= @eG Tryz.prog (kj fu.G) fu.an 0 Tryz.f100 2 _ j9
abbrev Io:=lz Tryz.prog (kj fu.G) fu.an 0 Tryz.f100 2 j9 rG iv jD xG
theorem Wg:jf DT rB iq jB:=nf (jM [.d eJ,.d ti] λ_=>bX)
theorem Ik:om @CW j7 rB iq jB xE Ij:=oE
theorem DU{R:Type}(tg:dD)(i:Int)(kn:AS->Option R)(kx:Exit->AS->Option R):CW (tg,i) kn kx=aH ((fR i (((ag tg.1):Nat):Int))) (aH (eg i (((ag tg.1):Nat):Int)) (aH ((fR (nth fX tg.1 (ae i)).1.2.1 (0:Int))) (kx (eT ()).1 (eT ()).2) (aH ((w7 (nth fX tg.1 (ae i)).1.2.1 (63:Int))) (kx (eT ()).1 (eT ()).2) (al (Qb.call (nth fX tg.1 (ae i)).2.1) λx1=>aH ((!x1)) (kx (eT ()).1 (eT ()).2) (al (DW (tg,i,(0:Int),(nth fX tg.1 (ae i)))) λx2=>aH (x2.isLeft) (al (x2.getLeft?) λa3=>kx (eT ()).1 (eT ()).2) (al (x2.getRight?) λb4=>kn (j7 (b4.1,(bI .i64 b4.2 (1:Int))))))))) none) (kx (rC tg).1 (rC tg).2):=bX
theorem Wh:jf DW rD iu jC:=nf (jM [.d eJ,.d ti,.d ti,.d fX] λ_=>bX)
theorem Im:om @CY j8 rD iu jC xF Il:=oE
theorem DX{R:Type}(zR:dD)(gT:Int)(kv:Int)(n4:gz)(kn:AS->Option R)(kx:Exit->AS->Option R):CY (zR,gT,kv,n4) kn kx=aH ((fR kv gT)) (aH (eg kv (((ag zR.1):Nat):Int)) (aH ((Ty.beq aW (nth fX zR.1 (ae kv)).1 n4.1)) (kx (kC ()).1 (kC ()).2) (kn (j8 (zR,gT,(bI .i64 kv (1:Int)),n4)))) none) (kx (rF (zR,gT)).1 (rF (zR,gT)).2):=bX
theorem Wi:jf DY rG iv jD:=nf (jM [.d eJ,.d ti,.d ti] λ_=>bX)
theorem Ip:om @C0 j9 rG iv jD xG Io:=oE
theorem DZ{R:Type}(aGH:dD)(sum:Int)(Ry:Int)(kn:AS->Option R)(kx:Exit->AS->Option R):C0 (aGH,sum,Ry) kn kx=aH ((fR Ry (((ag aGH.2.1):Nat):Int))) (aH (eg Ry (((ag aGH.2.1):Nat):Int)) (aH ((fR (nth iX aGH.2.1 (ae Ry)).1 (0:Int))) (kx (fP ()).1 (fP ()).2) (aH ((w7 (nth iX aGH.2.1 (ae Ry)).1 (1125899906842624:Int))) (kx (fP ()).1 (fP ()).2) (al (j5.call (nth iX aGH.2.1 (ae Ry)).2.1) λx1=>aH ((!x1)) (kx (fP ()).1 (fP ()).2) (kn (j9 (aGH,(bI .i64 sum (nth iX aGH.2.1 (ae Ry)).1),(bI .i64 Ry (1:Int)))))))) none) (kx (rH sum).1 (rH sum).2):=bX
theorem anj{R:Type}(t)(k:K1 R):fu.A t k=aH ((fR (t.1.length:Int) 1)) (k (fu.out false)) (aH ((w7 (t.1.length:Int) 64)) (k (fu.out false)) (aH ((w7 (t.2.1.length:Int) 64)) (k (fu.out false)) (aH ((fR t.2.2.1 0)) (k (fu.out false)) (al (DT (t,0)) λx5=>aH (x5.isLeft) (al (x5.getLeft?) λa6=>k (fu.out false)) (al (x5.getRight?) λb7=>al (DY (b7,0,0)) λx9=>aH (x9.isLeft) (al (x9.getLeft?) λa10=>k (fu.out false)) (al (x9.getRight?) λaQ4=>k (fu.out (ajU aQ4 1125899906842624)))))))):=bX
theorem aal:Il:=by
 refine Im (λ(_,i,j,_)=>(i - j).toNat) ?_
 rintro⟨t,i,j,x⟩ ⟨n,k,hn,hk,hm,rfl,rfl⟩;by_cases gB:k < n
 ·have aoU:k < (t.1.take n).length:=by rw[bt];omega
  have n1:nth fX t.1 k=t.1[k]:=bW (t:=fX) ak;have hd:(t.1.take n).drop k=t.1[k]::(t.1.take n).drop (k+1):=by rw[aq aoU,List.getElem_take]
  have hh:YF ((t.1.take n).drop k) x.1=(Ty.beq aW t.1[k].1 x.1 || YF ((t.1.take n).drop (k+1)) x.1):=by rw[hd];rfl
  have step:∀ {R:Type} (kn:AS->Option R) (kx:Exit->AS->Option R),CY (t,(n:Int),(k:Int),x) kn kx=aH (Ty.beq aW t.1[k].1 x.1) (kx (kC ()).1 (kC ()).2) (kn (j8 (t,(n:Int),((k+1:Nat):Int),x))):=by intro R kn kx;rw[DX,aU ak,aj,bg ak ak,aj,aa,n1,N.mu ak]
  cases hb:Ty.beq aW t.1[k].1 x.1 with
  |true=>
   right;refine⟨kC (),?_,λkn kx=> ?_⟩
   ·simp only[iu,jC,aa,hh,hb,Bool.true_or,bH];rfl
   ·rw[step,hb,aj]
  |false=>
   left;refine⟨(t,(n:Int),((k+1:Nat):Int),x),⟨n,k+1,hn,ak,hm,rfl,rfl⟩,by show((n:Int) - ((k+1:Nat):Int)).toNat < ((n:Int) - (k:Int)).toNat;omega,?_,λkn kx=> ?_⟩
   ·simp only[iu,jC,aa,hh,hb,lu]
   ·rw[step,hb,ao]
 ·right;obtain rfl:k=n:=ak;have e:(t.1.take k).drop k=[]:=dx (by rw[bt];omega);refine⟨rF (t,(k:Int)),?_,λkn kx=> ?_⟩
  ·simp only[iu,jC,aa,e];rfl
  ·rw[DX,aP ak,ao]
theorem aak:Ij:=by
 refine Ik (λ(t,i)=>t.1.length - i.toNat) ?_
 rintro⟨t,i⟩ ⟨EY,k,hk,rfl⟩;have EY:t.1.length<=64:=EY;have hk:k<=t.1.length:=hk;by_cases gB:k < t.1.length
 ·have n1:nth fX t.1 k=t.1[k]:=bW (t:=fX) gB;have hd:al9 (t.1.take k) (t.1.drop k)=((HJ t.1[k] && !(YF (t.1.take k) t.1[k].1)) && al9 (t.1.take (k+1)) (t.1.drop (k+1))):=by rw[aq gB,al9,hZ gB]
  have step:∀ {R:Type} (kn:AS->Option R) (kx:Exit->AS->Option R),CW (t,(k:Int)) kn kx=aH (HJ t.1[k] && !(YF (t.1.take k) t.1[k].1)) (kn (j7 (t,((k+1:Nat):Int)))) (kx (eT ()).1 (eT ()).2):=by
   intro R kn kx;rw[DU,aU ak,aj,bg ak ak,aj,aa,n1];unfold HJ;by_cases h1:t.1[k].1.2.1 < 0
   ·rw[aU h1,aj,aT ak];rfl
   rw[aP h1,ao];by_cases h2:t.1[k].1.2.1 > 63
   ·rw[di h2,aj,aT ak];rfl
   rw[cG h2,ao,aI ak,ayA (d:=t.1[k].2.1) trivial];simp only[ah,bn,aiL,bO];cases Bi t.1[k].2.1 with
   |false=>rfl
   |true=>
    rw[cz,ao,bO,Wh (d:=(t,(k:Int),0,t.1[k])) ⟨k,0,hk,aM _,ak,rfl,rfl⟩];simp only[ah,iu,jC,aa,aZ,aG];cases YF (t.1.take k) t.1[k].1 with
    |true=>rfl
    |false=>
     simp only[bF,bq,eh,ao,dy,ah,eV,aj];rw[N.mu ak]
  cases hp:HJ t.1[k] && !(YF (t.1.take k) t.1[k].1)
  ·right;refine⟨eT (),?_,λkn kx=> ?_⟩
   ·simp only[iq,jB,aa,hd,hp,dw,bF,bq];rfl
   ·rw[step,hp,ao]
  ·left;refine⟨(t,((k+1:Nat):Int)),⟨EY,k+1,ak,rfl⟩,by simp only[aa];omega,?_,λkn kx=> ?_⟩
   ·simp only[iq,jB,aa,hd,hp,bO]
   ·rw[step,hp,aj]
 ·right;obtain rfl:k=t.1.length:=ak;refine⟨rC t,?_,λkn kx=> ?_⟩
  ·simp only[iq,jB,aa,aL];rfl
  ·rw[DU,aP ak,ao]
theorem aam:Io:=by
 refine Ip (λ(t,_,i)=>t.2.1.length - i.toNat) ?_
 rintro⟨t,s,i⟩ ⟨EY,hu,k,hk,rfl,h0,h1⟩;have EY:t.2.1.length<=64:=EY;have hk:k<=t.2.1.length:=hk;have h0:0<=s:=h0;have h1:s<=(k:Int)*1125899906842624:=h1;by_cases gB:k < t.2.1.length
 ·have n1:nth iX t.2.1 k=t.2.1[k]:=bW (t:=iX) gB;have hd:t.2.1.drop k=t.2.1[k]::t.2.1.drop (k+1):=aq gB;have step:∀ {R:Type} (kn:AS->Option R) (kx:Exit->AS->Option R),C0 (t,s,(k:Int)) kn kx=aH (AK t.2.1[k]) (kn (j9 (t,s+t.2.1[k].1,((k+1:Nat):Int)))) (kx (fP ()).1 (fP ()).2):=by
   intro R kn kx;rw[DZ,aU ak,aj,bg ak ak,aj,aa,n1];unfold AK rU;by_cases c1:t.2.1[k].1 < 0
   ·rw[aU c1,aj,aT ak];rfl
   rw[aP c1,ao];by_cases c2:t.2.1[k].1 > 1125899906842624
   ·rw[di c2,aj,aT ak];rfl
   rw[cG c2,ao,aI ak,Qa (d:=t.2.1[k].2.1) (hu _ (aN gB))];simp only[ah,bn,Fj,bO];rw[fG ak ak,N.mu ak];cases kq t.2.1[k].2.1 <;> rfl
  cases hp:AK t.2.1[k]
  ·right;refine⟨fP (),?_,λkn kx=> ?_⟩
   ·simp only[iv,jD,aa,hd,iM,hp,dw,bF,bq];rfl
   ·rw[step,hp,ao]
  ·left;have hp':=hp;unfold AK at hp';rw[au]at hp';have c:0<=t.2.1[k].1/\t.2.1[k].1<=1125899906842624:=of_decide_eq_true hp'.1;refine⟨(t,s+t.2.1[k].1,((k+1:Nat):Int)),⟨EY,hu,k+1,ak,rfl,by show 0<=s+t.2.1[k].1;omega,by show s+t.2.1[k].1<=((k+1:Nat):Int)*1125899906842624;omega⟩,by simp only[aa];omega,?_,λkn kx=> ?_⟩
   ·simp only[iv,jD,aa,hd,iM,hp,bO,B4,Int.add_assoc]
   ·rw[step,hp,aj]
 ·right;obtain rfl:k=t.2.1.length:=ak;refine⟨rH s,?_,λkn kx=> ?_⟩
  ·simp only[iv,jD,aa,aL];rw[show s+jZ ([]:List gG)=s+0 from rfl,Int.add_zero];rfl
  ·rw[DZ,aP ak,ao]
theorem ank:fu.Ok:=by
 intro t hv;have hv:aOH t:=hv;rw[anj];simp only[bn,Ny,gO,ab0];by_cases h1:t.1.length < 1
 ·rw[aU ak,aT ak];rfl
 by_cases h2:t.1.length > 64
 ·rw[aP ak,ao,di ak,aT ak];rfl
 by_cases h3:t.2.1.length > 64
 ·rw[aP ak,ao,cG ak,ao,di ak,aT ak];rfl
 rw[aP ak,ao,cG ak,ao,cG ak,ao];by_cases h4:t.2.2.1 < 0
 ·rw[aU h4,aT ak];rfl
 rw[aP h4,ao,aI ak,bO,Wg (d:=(t,0)) ⟨by show t.1.length<=64;omega,0,aM _,rfl⟩];simp only[ah,iq,jB,aZ,aG,dI];rw[aD1 t.1 [] [] (λo=>by rw[sP];rfl),amT t.2.1 0 (by decide) (by decide)];cases al9 [] t.1 with
 |false=>rfl
 |true=>
  simp only[bH,eh,ao,dy,ah,bO];rw[Wi (d:=(t,0,0)) ⟨by show t.2.1.length<=64;omega,λo ho=>(hv.1 o ho).1,0,aM _,rfl,iQ 0,ak⟩];simp only[ah,iv,jD,aZ,aG];cases t.2.1.all AK with
  |false=>rfl
  |true=>
   simp only[bH,eh,ao,dy,ah,bO];by_cases hs:0+jZ t.2.1<=1125899906842624
   ·rw[oS hs,aI hs]
   ·rw[l5 hs,aT hs]
theorem aiQ:fu.RS:=rE [.d eJ] fu
def anl:=fu.eP ank 3 ⟨.fp aak,⟨.fp aal,⟨.fp aam,trivial⟩⟩⟩
abbrev CU:=dD×Bs×Int
def rz:CU->Bs->((dD)×(Bs)):=λ(tg,b,i) y=>(tg,y)
abbrev CV:=dD×Bs×Int
def rA:CV->Bs->((dD)×(Bs)):=λ(zR,gI,gT) y=>(zR,y)
def Wc:CU->Prop:=λ(t,b,i)=>(t.1).length<=1000000000/\∃k:Nat,k<=(t.1).length/\i=k/\(t.1.length<=64)/\(∀x∈t.1,x.1.1.length=32/\x.1.2.1<=9223372036854775807)/\(b.length<=100+50*k)
def wu:CU->Bs:=λ(t,b,i)=>(bS (ae i) t.1).foldl JO b
def We:CV->Prop:=λ(t,b,i)=>(t.2.1).length<=1000000000/\∃k:Nat,k<=(t.2.1).length/\i=k/\(t.2.1.length<=64)/\(∀o∈t.2.1,o.1<=9223372036854775807/\acx o.2.1)/\(b.length<=4000+1100*k)
def wx:CV->Bs:=λ(t,b,i)=>(bS (ae i) t.2.1).foldl Ki b
def aiN:dD->Prop:=λt=>gO t=true/\qv t
def aah:dD->Bs:=λt=>uk t
def lh:Ls Wc rz wu:=qz (λ(tg,b,i)=>⟨([bB,.dO eJ tg,bB,.d tB b,.d ti i]++aQ 63 []),[],(ab 68 [])⟩) (λx=>(.exit 0,⟨([bB,.dO eJ x.1,bB,.d tB x.2]++aQ 64 []),[],(ab 68 [])⟩))
def lj:Ls We rA wx:=qz (λ(zR,gI,gT)=>⟨([bB,.dO eJ zR,bB,.d tB gI,bB,.d ti gT]++aQ 62 []),[],(ab 68 [])⟩) (λx=>(.exit 2,⟨([bB,.dO eJ x.1,bB,.d tB x.2]++aQ 64 []),[],(ab 68 [])⟩))
def mf:Fs Tryz.prog aiN bn aah:=eK 101 Tryz.f101 (λt=>([.d eJ t],[])) (λx=>⟨.d tB x,[],[]⟩) [some eJ] [aat,afA,anb,ayJ] {loops:=nF [(3,{aV:=[1,3,4]}),(9,{aV:=[1,3,5]})],outs:=nE [(3,{aV:=[1,3]},{aV:=[2]}),(9,{aV:=[1,3]},{aV:=[2]})],fw:=nr [(3,lh.E),(9,lj.E)],res:=[some tB]}
theorem Wd:lh.RS:=rL [.d eJ,.d tB,.d ti] lh
theorem DR{R:Type}(tg b i)(kn:K2 R)(kx:K3 R):mf.R 0 lh (tg,b,i) kn kx=aH ((fR i (tg.1.length:Int))) (aH (eg i (tg.1.length:Int)) (al (vz.call (b,(nth fX tg.1 (ae i)).1.1)) λx1=>aH (eg i (tg.1.length:Int)) (al (qY.call (x1,(nth fX tg.1 (ae i)).1.2.1)) λx2=>kn (lh.st (tg,x2,(bI .i64 i 1)))) none) none) (lh.go kx (tg,b)):=bX
theorem Wf:lj.RS:=rL [.d eJ,.d tB,.d ti] lj
theorem DS{R:Type}(zR gI gT)(kn:K2 R)(kx:K3 R):mf.R 1 lj (zR,gI,gT) kn kx=aH ((fR gT (zR.2.1.length:Int))) (aH (eg gT (zR.2.1.length:Int)) (al (qY.call (gI,(nth iX zR.2.1 (ae gT)).1)) λx1=>aH (eg gT (zR.2.1.length:Int)) (al (kZ.call (nth iX zR.2.1 (ae gT)).2.1) λx2=>al (NA.call (x1,x2)) λx3=>kn (lj.st (zR,x3,(bI .i64 gT 1)))) none) none) (lj.go kx (zR,gI)):=bX
theorem ang{R:Type}(t)(k:K1 R):mf.A t k=al (qY.call (([]:List Int),(t.1.length:Int))) λx1=>al (lh.call (t,x1,0)) λx4=>al (qY.call (x4.2,(x4.1.2.1.length:Int))) λx5=>al (lj.call (x4.1,x5,0)) λx9=>al (qY.call (x9.2,x9.1.2.2.1)) λaoO=>k (mf.out aoO):=bX
theorem aai:(mf.jR 0 lh):=by
 refine(mf.lp 0 lh) (λ(t,b,i)=>(t.1).length - ae i) ?_
 rintro⟨t,b,i⟩ ⟨hlen,k,hk,rfl,EY,hx,hb⟩;have hlen:(t.1).length<=1000000000:=hlen;have hk:k<=(t.1).length:=hk;have EY:t.1.length<=64:=EY;have hx:∀x∈t.1,x.1.1.length=32/\x.1.2.1<=9223372036854775807:=hx;have hb:b.length<=100+50*k:=hb;by_cases h:k < (t.1).length
 ·left;have n1:nth fX t.1 k=t.1[k]:=bW (t:=fX) h;have hd:bS k t.1=t.1[k]::bS (k+1) t.1:=aq h;refine⟨(t,(JO b t.1[k]),((k+1:Nat):Int)),⟨hlen,k+1,ak,rfl,EY,hx,by have:=ahU b t.1[k];have:=(hx _ (aN h)).1;omega⟩,by simp only[aa];omega,?_,λkn kx=> ?_⟩
  ·simp only[rz,wu,aa,hd,bp]
  ·rw[DR,aU ak,bg ak ak,aa,n1];simp only[aj];have e:=hx _ (aN h);have e2:(b++t.1[k].1.1).length=b.length+t.1[k].1.1.length:=ai;rw[Fl (d:=(b,t.1[k].1.1)) ⟨by show b.length<=_;omega,e.1⟩];simp only[ah,bn,D3];rw[je (d:=(b++t.1[k].1.1,t.1[k].1.2.1)) ⟨by show(b++t.1[k].1.1).length<=_;omega,e.2⟩];simp only[ah,bn,mZ];rw[N.mu ak];rfl
 ·right;obtain rfl:k=(t.1).length:=ak;intro R kn kx;rw[DR,aP ak,ao];simp only[rz,wu,aa,aL,cO]
theorem aaj:(mf.jR 1 lj):=by
 refine(mf.lp 1 lj) (λ(t,b,i)=>(t.2.1).length - ae i) ?_
 rintro⟨t,b,i⟩ ⟨hlen,k,hk,rfl,EY,hx,hb⟩;have hlen:(t.2.1).length<=1000000000:=hlen;have hk:k<=(t.2.1).length:=hk;have EY:t.2.1.length<=64:=EY;have hx:∀o∈t.2.1,o.1<=9223372036854775807/\acx o.2.1:=hx;have hb:b.length<=4000+1100*k:=hb;by_cases h:k < (t.2.1).length
 ·left;have n1:nth iX t.2.1 k=t.2.1[k]:=bW (t:=iX) h;have hd:bS k t.2.1=t.2.1[k]::bS (k+1) t.2.1:=aq h;refine⟨(t,(Ki b t.2.1[k]),((k+1:Nat):Int)),⟨hlen,k+1,ak,rfl,EY,hx,by have:=ZZ b t.2.1[k];omega⟩,by simp only[aa];omega,?_,λkn kx=> ?_⟩
  ·simp only[rA,wx,aa,hd,bp]
  ·rw[DS,aU ak,bg ak ak,aa,n1];simp only[aj];have e:=hx _ (aN h);have e1:=dq b t.2.1[k].1;have e2:=JS t.2.1[k].2.1;rw[je (d:=(b,t.2.1[k].1)) ⟨by show b.length<=_;omega,e.1⟩];simp only[ah,bn,mZ];rw[aiJ (d:=t.2.1[k].2.1) e.2];simp only[ah,bn,Nx];rw[arN (d:=(cD b t.2.1[k].1,M5 t.2.1[k].2.1)) (by show(cD b t.2.1[k].1).length+(M5 t.2.1[k].2.1).length<=_;omega)];simp only[ah,bn,aau];rw[N.mu ak];rfl
 ·right;obtain rfl:k=(t.2.1).length:=ak;intro R kn kx;rw[DS,aP ak,ao];simp only[rA,wx,aa,aL,cO]
theorem anh:mf.Ok:=by
 rintro t ⟨iV,hv⟩;have hv:qv t:=hv;obtain⟨⟨_,a2,a3,_⟩,b1,b2⟩:=jv iV;have h0:([]:List Int).length=0:=rfl;have l0:=dq [] t.1.length;have l1:=WO t.1 (cD [] t.1.length) λx hx=>(hv.2.1 x hx).1.1
 have l2:=dq (t.1.foldl JO (cD [] t.1.length)) t.2.1.length;have l3:=PZ t.2.1 (cD (t.1.foldl JO (cD [] t.1.length)) t.2.1.length);rw[ang,je (d:=([],(t.1.length:Int))) ⟨by show([]:List Int).length<=_;omega,by show(t.1.length:Int)<=_;omega⟩];simp only[ah,bn,mZ];rw[Wd (d:=(t,cD [] t.1.length,0)) ⟨by show t.1.length<=_;omega,0,aM _,rfl,a2,λx hx=>⟨(hv.2.1 x hx).1.1,by have:=Ax (l6 _ _ b1 x hx);omega⟩,by show(cD [] t.1.length).length<=_;omega⟩];simp only[ah,rz,wu,aZ,aG];rw[je (d:=(t.1.foldl JO (cD [] t.1.length),(t.2.1.length:Int))) ⟨by show(t.1.foldl JO (cD [] t.1.length)).length<=_;omega,by show(t.2.1.length:Int)<=_;omega⟩];simp only[ah,bn,mZ];rw[Wf (d:=(t,cD (t.1.foldl JO (cD [] t.1.length)) t.2.1.length,0)) ⟨by show t.2.1.length<=_;omega,0,aM _,rfl,a3,λo ho=>⟨by have:=(j4 _ _ b2 o ho).1;omega,(hv.1.1 o ho).1⟩,by show(cD (t.1.foldl JO (cD [] t.1.length)) t.2.1.length).length<=_;omega⟩];simp only[ah,rA,wx,aZ,aG];rw[je (d:=(t.2.1.foldl Ki (cD (t.1.foldl JO (cD [] t.1.length)) t.2.1.length),t.2.2.1)) ⟨by show(t.2.1.foldl Ki (cD (t.1.foldl JO (cD [] t.1.length)) t.2.1.length)).length<=_;omega,hv.2.2⟩];rfl
theorem aiO:mf.RS:=rE [.d eJ] mf
def ani:=mf.eP anh 2 ⟨.fp aai,⟨.fp aaj,trivial⟩⟩
def ayB:dD->Prop:=λt=>qv t
def aiM:dD->Bs:=λt=>nR t
def Vb:Fs Tryz.prog ayB bn aiM:=eK 53 Tryz.f53 (λt=>([.d eJ t],[])) (λx=>⟨.d tH x,[],[]⟩) [some eJ] [anl,ani,auY]
theorem aFr{R:Type}(t)(k:K1 R):Vb.A t k=al (fu.call t) λx1=>aH ((!x1)) (k (Vb.out (ab 32 0))) (al (mf.call t) λx2=>al (aaW.call ((⟨#[116,120]⟩:ByteArray),[x2])) λx3=>k (Vb.out x3)):=bX
theorem aFs:Vb.Ok:=by
 intro t hv;have hv:qv t:=hv;rw[aFr,aiQ (d:=t) hv.1];simp only[ah,bn,Ny,bn,aiM,nR];cases iV:gO t
 ·rfl
 ·have hl:=Ns iV hv;rw[aiO (d:=t) ⟨iV,hv⟩];simp only[cz,ao,bH,ah,bn,aah];rw[anO (d:=((⟨#[116,120]⟩:ByteArray),[uk t])) (QR (by decide) ak)];rfl
theorem ayC:Vb.RS:=rE [.d eJ] Vb
def aFt:=Vb.eP aFs
abbrev C2:=dv×Bs×Int
def rI:C2->Bs->((dv)×(Bs)):=λ(gI,x,i) y=>(gI,y)
def Wj:C2->Prop:=λ(b,x,i)=>(b.2.2.1).length<=1000000000/\∃k:Nat,k<=(b.2.2.1).length/\i=k/\(b.2.2.1.length<=1000)/\(∀t∈b.2.2.1,qv t)/\(x.length<=1000+32*k)
def wy:C2->Bs:=λ(b,x,i)=>(bS (ae i) b.2.2.1).foldl auf x
def Wl:(dv×Bs×Int)->Prop:=λ(b,x,i)=>(b.2.2.2.2.1).length<=1000000000/\∃k:Nat,k<=(b.2.2.2.2.1).length/\i=k/\(b.2.2.2.2.1.length<=1000)/\(∀o∈b.2.2.2.2.1,avm o)/\(x.length<=100000+43*k)
def wz:(dv×Bs×Int)->Bs:=λ(b,x,i)=>(bS (ae i) b.2.2.2.2.1).foldl aJG x
def aiR:dv->Prop:=λb=>atn b
def Nz:dv->Bs:=λb=>aMB b
def lk:Ls Wj rI wy:=qz (λ(gI,x,i)=>⟨([bB,.dO dW gI,bB,.d tB x,.d ti i]++aQ 60 []),[],(ab 65 [])⟩) (λx=>(.exit 0,⟨([bB,.dO dW x.1,bB,.d tB x.2]++aQ 61 []),[],(ab 65 [])⟩))
def ln:Ls Wl bn wz:=qz (λ(Ru,aAJ,gT)=>⟨([bB,.dO dW Ru,bB,.d tB aAJ,bB,.d ti gT]++aQ 59 []),[],(ab 65 [])⟩) (λx=>(.exit 2,⟨([bB,bB,bB,.d tB x]++aQ 61 []),[],(ab 65 [])⟩))
def mg:Fs Tryz.prog aiR bn Nz:=eK 97 Tryz.f97 (λb=>([.d dW b],[])) (λx=>⟨.d tB x,[],[]⟩) [some dW] [aat,afA,aFt] {loops:=nF [(4,{aV:=[1,3,4]}),(10,{aV:=[1,3,5]})],outs:=nE [(4,{aV:=[1,3]},{aV:=[2]}),(10,{aV:=[3]},{aV:=[2]})],fw:=nr [(4,lk.E),(10,ln.E)]}
theorem Wk:lk.RS:=rL [.d dW,.d tB,.d ti] lk
theorem D0{R:Type}(gI x i)(kn:K2 R)(kx:K3 R):mg.R 0 lk (gI,x,i) kn kx=aH ((fR i (gI.2.2.1.length:Int))) (aH (eg i (gI.2.2.1.length:Int)) (al (Vb.call (nth eJ gI.2.2.1 (ae i))) λx1=>al (vz.call (x,x1)) λx2=>kn (lk.st (gI,x2,(bI .i64 i 1)))) none) (lk.go kx (gI,x)):=bX
theorem Wn:ln.RS:=rL [.d dW,.d tB,.d ti] ln
theorem D1{R:Type}(Ru aAJ gT)(kn:K2 R)(kx:K3 R):mg.R 1 ln (Ru,aAJ,gT) kn kx=aH ((fR gT (Ru.2.2.2.2.1.length:Int))) (aH (eg gT (Ru.2.2.2.2.1.length:Int)) (al (vz.call (aAJ,(nth aW Ru.2.2.2.2.1 (ae gT)).1)) λx1=>aH (eg gT (Ru.2.2.2.2.1.length:Int)) (al (qY.call (x1,(nth aW Ru.2.2.2.2.1 (ae gT)).2.1)) λx2=>kn (ln.st (Ru,x2,(bI .i64 gT 1)))) none) none) (ln.go kx aAJ):=bX
theorem anm{R:Type}(b)(k:K1 R):mg.A b k=al (qY.call (([]:List Int),b.1)) λx1=>al (vz.call (x1,b.2.1)) λx2=>al (qY.call (x2,(b.2.2.1.length:Int))) λx3=>al (lk.call (b,x3,0)) λx6=>al (qY.call (x6.2,x6.1.2.2.2.1)) λx7=>al (qY.call (x7,(x6.1.2.2.2.2.1.length:Int))) λx8=>al (ln.call (x6.1,x8,0)) λavl=>k (mg.out avl):=bX
theorem aan:(mg.jR 0 lk):=by
 refine(mg.lp 0 lk) (λ(b,x,i)=>(b.2.2.1).length - ae i) ?_
 rintro⟨b,x,i⟩ ⟨hlen,k,hk,rfl,h3,hx,hb⟩;have hlen:(b.2.2.1).length<=1000000000:=hlen;have hk:k<=(b.2.2.1).length:=hk;have h3:b.2.2.1.length<=1000:=h3;have hx:∀t∈b.2.2.1,qv t:=hx;have hb:x.length<=1000+32*k:=hb;by_cases h:k < (b.2.2.1).length
 ·left;have n1:nth eJ b.2.2.1 k=b.2.2.1[k]:=bW (t:=eJ) h;have hd:bS k b.2.2.1=b.2.2.1[k]::bS (k+1) b.2.2.1:=aq h;refine⟨(b,(auf x b.2.2.1[k]),((k+1:Nat):Int)),⟨hlen,k+1,ak,rfl,h3,hx,by unfold auf;rw[ai,FN.1];omega⟩,by simp only[aa];omega,?_,λkn kx=> ?_⟩
  ·simp only[rI,wy,aa,hd,bp]
  ·rw[D0,aU ak,bg ak ak,aa,n1];simp only[aj];rw[ayC (d:=b.2.2.1[k]) (hx _ (aN h))];simp only[ah,bn,aiM];rw[Fl (d:=(x,nR b.2.2.1[k])) ⟨by show x.length<=_;omega,FN.1⟩];simp only[ah,bn,D3];rw[N.mu ak];rfl
 ·right;obtain rfl:k=(b.2.2.1).length:=ak;intro R kn kx;rw[D0,aP ak,ao];simp only[rI,wy,aa,aL,cO]
theorem aao:(mg.jR 1 ln):=by
 refine(mg.lp 1 ln) (λ(b,x,i)=>(b.2.2.2.2.1).length - ae i) ?_
 rintro⟨b,x,i⟩ ⟨hlen,k,hk,rfl,h3,hx,hb⟩;have hlen:(b.2.2.2.2.1).length<=1000000000:=hlen;have hk:k<=(b.2.2.2.2.1).length:=hk;have h3:b.2.2.2.2.1.length<=1000:=h3;have hx:∀o∈b.2.2.2.2.1,avm o:=hx;have hb:x.length<=100000+43*k:=hb;by_cases h:k < (b.2.2.2.2.1).length
 ·left;have n1:nth aW b.2.2.2.2.1 k=b.2.2.2.2.1[k]:=bW (t:=aW) h;have hd:bS k b.2.2.2.2.1=b.2.2.2.2.1[k]::bS (k+1) b.2.2.2.2.1:=aq h;refine⟨(b,(aJG x b.2.2.2.2.1[k]),((k+1:Nat):Int)),⟨hlen,k+1,ak,rfl,h3,hx,by have:=JN [b.2.2.2.2.1[k]] x (λo ho=>by rw[bo]at ho;subst ho;exact hx _ (aN h));simp only[bp,cO,aA,aY]at this;omega⟩,by simp only[aa];omega,?_,λkn kx=> ?_⟩
  ·simp only[bn,wz,aa,hd,bp]
  ·rw[D1,aU ak,bg ak ak,aa,n1];simp only[aj];obtain⟨e1,e2⟩:=hx _ (aN h);rw[Fl (d:=(x,b.2.2.2.2.1[k].1)) ⟨by show x.length<=_;omega,e1⟩];simp only[ah,bn,D3];rw[je (d:=(x++b.2.2.2.2.1[k].1,b.2.2.2.2.1[k].2.1)) ⟨by show(x++b.2.2.2.2.1[k].1).length<=_;rw[ai,e1];omega,e2⟩];simp only[ah,bn,mZ];rw[N.mu ak];rfl
 ·right;obtain rfl:k=(b.2.2.2.2.1).length:=ak;intro R kn kx;rw[D1,aP ak,ao];simp only[bn,wz,aa,aL,cO]
theorem ann:mg.Ok:=by rintro b ⟨⟨h1,h2⟩,⟨h3,h4,h5⟩,h6,h7⟩;have z1:((0:Int)).toNat=0:=rfl;have p1:=dq [] b.1;have p2:=dq (cD [] b.1++b.2.1) b.2.2.1.length;rw[ai,h4]at p2;have l0:([]:Bs).length=0:=rfl;rw[l0]at p1;have q1:=WN b.2.2.1 (cD (cD [] b.1++b.2.1) b.2.2.1.length);obtain⟨x3,e3⟩:∃x,cD (cD [] b.1++b.2.1) b.2.2.1.length=x:=⟨_,rfl⟩;rw[e3]at p2 q1;obtain⟨x6,e6⟩:∃x,b.2.2.1.foldl auf x3=x:=⟨_,rfl⟩;rw[e6]at q1;have p7:=dq x6 b.2.2.2.1;have p8:=dq (cD x6 b.2.2.2.1) b.2.2.2.2.1.length;obtain⟨x8,e8⟩:∃x,cD (cD x6 b.2.2.2.1) b.2.2.2.2.1.length=x:=⟨_,rfl⟩;have q2:=JN b.2.2.2.2.1 x8 h7;rw[e8]at p8;rw[anm,je (d:=(([]:List Int),b.1)) ⟨by show(0:Nat)<=_;omega,h3⟩];simp only[ah,bn,mZ];rw[Fl (d:=(cD [] b.1,b.2.1)) ⟨by show(cD [] b.1).length<=_;omega,h4⟩];simp only[ah,bn,D3];rw[je (d:=(cD [] b.1++b.2.1,(b.2.2.1.length:Int))) ⟨by show(cD [] b.1++b.2.1).length<=_;rw[ai,h4];omega,by show(b.2.2.1.length:Int)<=_;omega⟩];simp only[ah,bn,mZ];rw[e3,Wk (d:=(b,x3,0)) ⟨by show b.2.2.1.length<=_;omega,0,aM _,rfl,h1,h2,ak⟩];simp only[ah,rI,wy,z1,aG];rw[e6,je (d:=(x6,b.2.2.2.1)) ⟨by show x6.length<=_;omega,h5⟩];simp only[ah,bn,mZ];rw[je (d:=(cD x6 b.2.2.2.1,(b.2.2.2.2.1.length:Int))) ⟨by show(cD x6 b.2.2.2.1).length<=_;omega,by show(b.2.2.2.2.1.length:Int)<=_;omega⟩];simp only[ah,bn,mZ];rw[e8,Wn (d:=(b,x8,0)) ⟨by show b.2.2.2.2.1.length<=_;omega,0,aM _,rfl,h6,h7,ak⟩];simp only[ah,bn,wz,z1,aG,bn,Nz,aMB,e3,e6,e8]
theorem aiS:mg.RS:=rE [.d dW] mg
def ano:=mg.eP ann 2 ⟨.fp aan,⟨.fp aao,trivial⟩⟩
theorem aIn{b:dv}(h:atn b):(aMB b).length<=1000000:=by obtain⟨⟨h1,h2⟩,⟨h3,h4,h5⟩,h6,h7⟩:=h;have p1:=dq [] b.1;have p2:=dq (cD [] b.1++b.2.1) b.2.2.1.length;rw[ai,h4]at p2;have l0:([]:Bs).length=0:=rfl;rw[l0]at p1;have q1:=WN b.2.2.1 (cD (cD [] b.1++b.2.1) b.2.2.1.length);have p7:=dq (b.2.2.1.foldl auf (cD (cD [] b.1++b.2.1) b.2.2.1.length)) b.2.2.2.1;have p8:=dq (cD (b.2.2.1.foldl auf (cD (cD [] b.1++b.2.1) b.2.2.1.length)) b.2.2.2.1) b.2.2.2.2.1.length;have q2:=JN b.2.2.2.2.1 (cD (cD (b.2.2.1.foldl auf (cD (cD [] b.1++b.2.1) b.2.2.1.length)) b.2.2.2.1) b.2.2.2.2.1.length) h7;unfold aMB;omega
def ayD:dv->Prop:=λb=>atn b
def auN:dv->Bs:=λb=>apq b
def Qc:Fs Tryz.prog ayD bn auN:=eK 47 Tryz.f47 (λb=>([.d dW b],[])) (λx=>⟨.d tH x,[],[]⟩) [some dW] [ano,auY]
theorem aFu{R:Type}(b)(k:K1 R):Qc.A b k=al (mg.call b) λx1=>al (aaW.call ((⟨#[98,108,111,99,107]⟩:ByteArray),[x1])) λx2=>k (Qc.out x2):=bX
theorem aFv:Qc.Ok:=by intro b h;rw[aFu,aiS (d:=b) h];simp only[ah,bn,Nz];rw[anO (d:=((⟨#[98,108,111,99,107]⟩:ByteArray),[aMB b])) (QR (by decide) (aIn h))];rfl
theorem SR:Qc.RS:=rE [.d dW] Qc
def anp:=Qc.eP aFv
abbrev aaP:=Int×Int×(List dD)×Nat×Int×Bs×(List dv)
abbrev auW:=Bs×Int×Int×(List dD)
def Wr(txs:List dD):Nat->Bs->Int->List dv
 | 0,_,_=> []
 |j+1,p,h=>zL h p (if j=0 then txs else []) 0::Wr txs j (apq (zL h p (if j=0 then txs else []) 0)) (h+1)
def acy(txs:List dD):Prop:=txs.length<=100/\∀t∈txs,qv t/\t.1.length<=1000000
theorem aLA{txs:List dD}(ht:acy txs){h:Int}{p:Bs}(hh:h<=9223372036854775807)(hp:p.length=32)(c:Prop) [Decidable c]:VP (zL h p (if c then txs else []) 0):=by
 split
 ·exact⟨⟨⟨gD ht.1 (by decide),λt h=>(ht.2 t h).1⟩,⟨hh,hp,by show(0:Int)<=_;decide⟩,aM _,λo ho=>(by cases ho)⟩,ht.1,λt h=>(ht.2 t h).2⟩
 ·exact⟨⟨⟨aM _,λt ht=>(by cases ht)⟩,⟨hh,hp,by show(0:Int)<=_;decide⟩,aM _,λo ho=>(by cases ho)⟩,aM _,λt ht=>(by cases ht)⟩
theorem asb{txs:List dD}(ht:acy txs):∀(j:Nat) (p:Bs) (h:Int),h+j<=9223372036854775807->p.length=32->∀b∈Wr txs j p h,VP b
 | 0,_,_,_,_,b,hb=>by cases hb
 |j+1,p,h,hh,hp,b,hb=>by
  rcases cn.1 hb with rfl | hb
  ·exact aLA ht ak hp _
  ·exact asb ht j _ (h+1) ak (BA _) b hb
theorem Qs(txs:List dD):∀(j:Nat) (p:Bs) (h:Int),(Wr txs j p h).length=j
 | 0,_,_=>rfl
 |j+1,p,h=>bm (· +1) (Qs txs j _ _)
theorem aaT(txs:List dD):∀(j:Nat) (p:Bs) (h:Int),abH (Wr txs j p h)<=txs.length
 | 0,_,_=>aM _
 | 1,p,h=>ax _
 |j+2,p,h=>by show 0+abH (Wr txs (j+1) _ _)<=_;rw[aK];exact aaT txs (j+1) _ _
def aiZ:aaP->Prop:=λ(h,m',txs,oL,i,p,out)=>(0<=h/\h<=1000000)/\acy txs/\p.length=32/\oL=out.length/\∃m k:Nat,m'=m/\k<=m/\m<=20/\i=k/\out.length=k
def Fu:aaP->(Nat×(List dv)):=λ(h,m,txs,_,i,p,out)=>((out++Wr txs (m - i).toNat p (h+1+i)).length,out++Wr txs (m - i).toNat p (h+1+i))
def azd:auW->Prop:=λ(p,h,m',txs)=>(0<=h/\h<=1000000)/\acy txs/\p.length=32/\∃m:Nat,m'=m/\m<=20
def W3:auW->(List dv):=λ(p,h,m,txs)=>Wr txs m.toNat p (h+1)
def q9:Ls aiZ bn Fu:=qz (λ(dP,Na,ab1,outL,i,n4,n32)=>⟨([bB,.d ti dP,.d ti Na,.d (.slice eJ) ab1,eI 4]++aQ 4 ([nG 32 outL,.d ti i]++aQ 25 [])),[],(bD 4 ([dK (.d tH n4)]++bD 27 [dK (.vec 48 dW n32),[],[],[]]))⟩) (λx=>(.exit 0,⟨(aQ 9 ([nG 32 x.1]++aQ 26 [])),[],(bD 32 [dK (.vec 48 dW x.2),[],[],[]])⟩))
def Gp:Fs Tryz.prog azd bn W3:=eK 44 Tryz.f44 (λ(parent,height,many,txs)=>([.d tH parent,.d ti height,.d ti many,.d (.slice eJ) txs],[])) (λx=>⟨.d (.slice dW) x,[],[]⟩) [some tH,some ti,some ti,some (.slice eJ)] [anp] {bJ:=[4],loops:=nF [(3,{aV:=[1,2,3,4,9,10],sites:=[4,32],owns:=[⟨9,[],32,41⟩]})],outs:=nE [(3,{aV:=[9],sites:=[32]},{aV:=[8]})],fw:=nr [(3,q9.E)],res:=[some (.slice dW)]}
theorem ai0:q9.RS:=rL [.d ti,.d ti,.d (.slice eJ),.n,.d ti,.d tB,.d (.slice dW)] q9
theorem Lw{R:Type}(dP Na ab1 outL i n4 n32)(kn:K2 R)(kx:K3 R):Gp.R 0 q9 (dP,Na,ab1,outL,i,n4,n32) kn kx=aH ((fR i Na)) (aH ((qQ i (cK .i64 Na 1))) (aH (decide (outL<=(ag n32))) (aH (cV (outL+1) 96) (al (Qc.call ((bI .i64 (bI .i64 dP 1) i),(n4,(ab1,(0,(([]:List bu),())))))) λx1=>kn (q9.st (dP,Na,ab1,(outL+1),(bI .i64 i 1),x1,((aR outL n32)++ [((bI .i64 (bI .i64 dP 1) i),(n4,(ab1,(0,(([]:List bu),())))))])))) none) none) (aH (decide (outL<=(ag n32))) (aH (cV (outL+1) 96) (al (Qc.call ((bI .i64 (bI .i64 dP 1) i),(n4,(([]:List dD),(0,(([]:List bu),())))))) λx2=>kn (q9.st (dP,Na,ab1,(outL+1),(bI .i64 i 1),x2,((aR outL n32)++ [((bI .i64 (bI .i64 dP 1) i),(n4,(([]:List dD),(0,(([]:List bu),())))))])))) none) none)) (q9.go kx (outL,n32)):=bX
theorem aF4{R:Type}(parent height many txs)(k:K1 R):Gp.A (parent,height,many,txs) k=al (q9.call (height,many,txs,0,0,parent,([]:List dv))) λx4=>aH (decide (0=0/\(0+x4.1)<=(ag x4.2))) (k (Gp.out (cut x4.2 0 x4.1))) none:=bX
theorem anI:(Gp.jR 0 q9):=by
 refine(Gp.lp 0 q9) (λ(_,m,_,_,i,_)=>(m - i).toNat) ?_
 rintro⟨h,m',txs,oL,i,p,out⟩ ⟨⟨h0,h1⟩,ht,hp,rfl,m,k,rfl,hk,hm,rfl,ho⟩;have h0:0<=h:=h0;have h1:h<=1000000:=h1;have hk:k<=m:=hk;have hm:m<=20:=hm;by_cases gB:k < m
 ·left;obtain⟨j,hj⟩:∃j,m=k+1+j:=⟨m - (k+1),ak⟩;have e1:((m:Int) - (k:Int)).toNat=j+1:=ak;have e2:((m:Int) - ((k+1:Nat):Int)).toNat=j:=ak;have e3:h+1+((k+1:Nat):Int)=h+1+(k:Int)+1:=ak;have hb:=aLA ht (h:=h+1+(k:Int)) (p:=p) ak hp (j=0);refine⟨(h,(m:Int),txs,out.length+1,((k+1:Nat):Int),apq (zL (h+1+(k:Int)) p (if j=0 then txs else []) 0),out++ [zL (h+1+(k:Int)) p (if j=0 then txs else []) 0]),⟨⟨h0,h1⟩,ht,BA _,by rw[ai];rfl,m,k+1,rfl,gB,hm,rfl,by rw[ai,ho];rfl⟩,by simp only[e1,e2];omega,?_,λkn kx=> ?_⟩
  ·simp only[bn,Fu,e1,e2,e3,Wr,aD,cU]
  ·rw[Lw,aU ak,aj,eC ak ak,fG (x:=h) ak ak,fG (x:=h+1) ak ak];by_cases hz:j=0
   ·rw[if_pos hz]at hb ⊢;rw[dp ak,aj,aI (ax _),aj,dh ak ak,aj,bK];refine(bm (λz=>al z _) (SR (d:=zL (h+1+(k:Int)) p txs 0) hb.1)).trans ?_
    rw[ah,N.mu ak];rfl
   ·rw[if_neg hz]at hb ⊢;rw[eO ak,ao,aI (ax _),aj,dh ak ak,aj,bK];refine(bm (λz=>al z _) (SR (d:=zL (h+1+(k:Int)) p [] 0) hb.1)).trans ?_
    rw[ah,N.mu ak];rfl
 ·right;obtain rfl:k=m:=ak;intro R kn kx;have e1:((k:Int) - (k:Int)).toNat=0:=ak;rw[Lw,aP ak,ao];simp only[bn,Fu,e1,Wr,bk]
theorem aF5:Gp.Ok:=by rintro⟨p,h,m',txs⟩ ⟨hh,ht,hp,m,rfl,hm⟩;have e1:((m:Int) - 0).toNat=m:=ak;rw[aF4,ai0 (d:=(h,(m:Int),txs,0,0,p,[])) ⟨hh,ht,hp,rfl,m,0,rfl,aM _,hm,rfl,rfl⟩];simp only[ah,bn,Fu,e1,aS,Int.add_zero,aK];rw[aI (by exact⟨trivial,ax _⟩),aj,eR rfl];simp only[bn,W3,aa]
theorem S8:Gp.RS:=rE [.d tB,.d ti,.d ti,.d (.slice eJ)] Gp
def aF6:=Gp.eP aF5 1 ⟨.fp anI,trivial⟩
abbrev aky:=aHL×Nat×Nat×(List (bu×dS))×(List bY)×(List dv)
def tv(a:aHL):Int:=cF .and .i64 a.1 7
def Ep(a:aHL)(nb:Nat)(bs:List dv):List dv:=if tv a < 3 then Wr a.2.1 1 (rb nb bs) ((nb:Int)+1) else if 1<=a.2.2.1/\a.2.2.1<=nb/\a.2.2.1<=8 then Wr a.2.1 (a.2.2.1.toNat+1) (rb (nb - a.2.2.1.toNat) bs) ((nb:Int) - a.2.2.1+1) else []
def apC:aky->Prop:=λ(a,nb,n,at',s,bs)=>(∃A0 m,uQ A0 m nb n at' s bs)/\acy a.2.1
def XG:aky->((List dv)×Nat×Nat×(List (bu×dS))×(List bY)×(List dv)):=λ(a,nb,n,at',s,bs)=>(Ep a nb bs,nb,n,at',s,bs)
def xw:Fs Tryz.prog apC bn XG:=eK 14 Tryz.f14 (λ(a,o0baL,o1baL,o2,o3,o4)=>([.ptr (.bj 0) 0 [] 0,.d aAH a],[.obj 0 false (.pr (.ptr (.bj 1) 0 [] 0) (.pr (.bz (.bj 4) 0 [] 0 0 o0baL) (.d .unit ()))),.obj 0 false (.pr (.cq (.bj 2) 0) (.pr (.bz (.bj 3) 0 [] 0 0 o1baL) (.d .unit ()))),.obj 0 false (.mp aW eU o2),.obj 0 false (.vec 256 cE o3),.obj 0 false (.vec 48 dW o4)])) (λx=>⟨.d (.slice dW) x.1,[.obj 0 false (.pr (.ptr (.bj 1) 0 [] 0) (.pr (.bz (.bj 4) 0 [] 0 0 x.2.1) (.d .unit ()))),.obj 0 false (.pr (.cq (.bj 2) 0) (.pr (.bz (.bj 3) 0 [] 0 0 x.2.2.1) (.d .unit ()))),.obj 0 false (.mp aW eU x.2.2.2.1),.obj 0 false (.vec 256 cE x.2.2.2.2.1),.obj 0 false (.vec 48 dW x.2.2.2.2.2)],[]⟩) [none,some aAH] [BE,akT,aF6,aID,anp] {res:=[some (.slice dW)]}
theorem avX{R:Type}(a o0baL o1baL o2 o3 o4)(k:K1 R):xw.A (a,o0baL,o1baL,o2,o3,o4) k=al (oG.call (o0baL,o1baL,o2,o3,o4)) λx1=>aH ((fR (cF .and .i64 a.1 7) 3)) (al (KC.call (x1.1.1,x1.1.2.1,x1.1.2.2.1,x1.1.2.2.2.1,x1.1.2.2.2.2)) λx2=>al (Gp.call (x2.2,x1.2,1,a.2.1)) λx3=>k (xw.out (x3,x2.1.1,x2.1.2.1,x2.1.2.2.1,x2.1.2.2.2.1,x2.1.2.2.2.2))) (aH ((fR a.2.2.1 1)) (k (xw.out (([]:List dv),x1.1.1,x1.1.2.1,x1.1.2.2.1,x1.1.2.2.2.1,x1.1.2.2.2.2))) (aH ((w7 a.2.2.1 x1.2)) (k (xw.out (([]:List dv),x1.1.1,x1.1.2.1,x1.1.2.2.1,x1.1.2.2.2.1,x1.1.2.2.2.2))) (aH ((w7 a.2.2.1 8)) (k (xw.out (([]:List dv),x1.1.1,x1.1.2.1,x1.1.2.2.1,x1.1.2.2.2.1,x1.1.2.2.2.2))) (al (agS.call ((cK .i64 x1.2 a.2.2.1),x1.1.1,x1.1.2.1,x1.1.2.2.1,x1.1.2.2.2.1,x1.1.2.2.2.2)) λx4=>aH (x4.2.2) (al (Qc.call x4.2.1) λx5=>al (Gp.call (x5,(cK .i64 x1.2 a.2.2.1),(bI .i64 a.2.2.1 1),a.2.1)) λx6=>k (xw.out (x6,x4.1.1,x4.1.2.1,x4.1.2.2.1,x4.1.2.2.2.1,x4.1.2.2.2.2))) (al (Gp.call ((ab 32 0),(cK .i64 x1.2 a.2.2.1),(bI .i64 a.2.2.1 1),a.2.1)) λx7=>k (xw.out (x7,x4.1.1,x4.1.2.1,x4.1.2.2.1,x4.1.2.2.2.1,x4.1.2.2.2.2))))))):=bX
theorem aN6{A0:At}{m nb n:Nat}{a:At}{s:List bY}{bs:List dv}(h:uQ A0 m nb n a s bs){k:Nat}(hk:k < nb):amV (nth dW bs k)=nth dW bs k/\atn (nth dW bs k):=by have hl:nb<=bs.length:=h.ch.1;have hk':k < bs.length:=ak;have n1:nth dW bs k=bs[k]:=bW (t:=dW) hk';rw[n1];have hv:=h.ch.2.2 _ (aN hk');refine⟨aiy hv λt ht=>(h.aSY (b:=bs[k]) ?_ ht).1,hv⟩;have:(bs.take nb)[k]'(by rw[bt];omega)=bs[k]:=List.getElem_take;rw[<-this];exact aN _
theorem avY:xw.Ok:=by
 rintro⟨a,nb,n,at',s,bs⟩ ⟨⟨A0,m,h⟩,ht⟩;have aO0:nb<=1000000:=h.ch.2.1;have z1:(1:Int).toNat=1:=rfl;have hs:∀l:List dv,aH (decide (0=0/\0+l.length<=l.length)) (some l) none=some l:=λl=>by rw[aI ak];rfl
 rw[avX,XQ,show cF .and .i64 a.1 7=tv a from rfl];simp only[ah,bn,XG,Ep];by_cases h3:tv a < 3
 ·rw[if_pos h3,aU h3,aj,aIF h.ch];simp only[ah];rw[S8 (d:=(rb nb bs,(nb:Int),1,a.2.1)) ⟨⟨ak,ak⟩,ht,A7 _ _,1,rfl,by decide⟩];rfl
 ·rw[if_neg h3,aP h3,ao];by_cases d1:1<=a.2.2.1;rotate_left
  ·rw[aU ak,aj,if_neg (λe=>d1 e.1)]
  rw[aP ak,ao];by_cases d2:a.2.2.1<=nb;rotate_left
  ·rw[di ak,aj,if_neg (λe=>d2 e.2.1)]
  rw[cG ak,ao];by_cases d3:a.2.2.1<=8;rotate_left
  ·rw[di ak,aj,if_neg (λe=>d3 e.2.2)]
  rw[cG ak,ao,if_pos ⟨d1,d2,d3⟩];generalize a.2.2.1=d at d1 d2 d3;obtain⟨k,rfl⟩:∃k:Nat,d=(k:Int):=⟨d.toNat,ak⟩;have ei:cK .i64 (nb:Int) (k:Int)=((nb - k:Nat):Int):=by rw[eC ak ak];omega
  have ej:bI .i64 (k:Int) 1=((k+1:Nat):Int):=by rw[fG ak ak];omega
  rw[ei,ej,aBX (d:=(((nb - k:Nat):Int),nb,n,at',s,bs)) h.ch];simp only[ah,akM,XN,aOK,aa];by_cases hz:nb - k=0
  ·rw[if_neg ak,ao,S8 (d:=(ab 32 0,((nb - k:Nat):Int),((k+1:Nat):Int),a.2.1)) ⟨⟨ak,ak⟩,ht,cg,k+1,rfl,ak⟩];simp only[ah,bn,W3,aa];rw[show rb (nb - k) bs=ab 32 0 from if_pos hz,show((nb - k:Nat):Int)=(nb:Int) - (k:Int) by omega]
  ·obtain⟨o1,o2⟩:=aN6 h (k:=nb - k - 1) ak;rw[if_pos ⟨ak,ak⟩,o1];simp only[aj];rw[SR (d:=nth dW bs (nb - k - 1)) o2];simp only[ah,bn,auN];rw[S8 (d:=(apq (nth dW bs (nb - k - 1)),((nb - k:Nat):Int),((k+1:Nat):Int),a.2.1)) ⟨⟨ak,ak⟩,ht,BA _,k+1,rfl,ak⟩];simp only[ah,bn,W3,aa];rw[show rb (nb - k) bs=apq (nth dW bs (nb - k - 1)) from if_neg hz,show((nb - k:Nat):Int)=(nb:Int) - (k:Int) by omega]
theorem apD:xw.RS:=rE [.d aAH,.n,.n,.d (.slice (.pair aW eU)),.d (.slice cE),.d (.slice dW)] xw
def avZ:=xw.eP avY
abbrev yG:=aHL×(List dv)×Int×Bool×Nat×Nat×(List (bu×dS))×(List bY)×(List dv)×(List (bu×ja))
def KQ:yG->AS:=λ(a,l,t13,t14,o0L,o1L,o2,o3,o4,o6)=>⟨([.ptr (.bj 0) 0 [] 0,.ptr (.bj 5) 0 [] 0,bB,bB,bB,.dO aAH a,bB,.d (.slice dW) l]++aQ 5 ([.d ti t13,.d .bool t14]++aQ 33 [])),[.obj 0 false (.pr (.ptr (.bj 1) 0 [] 0) (.pr (.bz (.bj 4) 0 [] 0 0 o0L) fN)),.obj 0 false (.pr (.cq (.bj 2) 0) (.pr (.bz (.bj 3) 0 [] 0 0 o1L) fN)),.obj 0 false (.mp aW eU o2),.obj 0 false (.vec 256 cE o3),.obj 0 false (.vec 48 dW o4),.obj 0 false (.pr (.cq (.bj 6) 0) fN),.obj 0 false (.mp aW jP o6)],(ab 48 [])⟩
def O4:qL:=qL.of {aV:=[0,1,5,7,13,14]} KQ
def tQ:yG->Option yG:=λx=>(O4).axr .normal (KQ x)
theorem O5(x:yG):tQ x=some x:=qL.H4 (jM [.d aAH,.d (.slice dW),.d ti,.d .bool,.n,.n,.d (.slice (.pair aW eU)),.d (.slice cE),.d (.slice dW),.d (.slice (.pair aW jP))] λ_=>bX) x
abbrev yH:=aHL×(List dv)×Int×Bool×Nat×Nat×(List (bu×dS))×(List bY)×(List dv)×(List (bu×ja))
def KR:yH->AS:=λ(a,l,t13,t23,o0L,o1L,o2,o3,o4,o6)=>⟨([.ptr (.bj 0) 0 [] 0,.ptr (.bj 5) 0 [] 0,bB,bB,bB,.dO aAH a,bB,.d (.slice dW) l]++aQ 5 ([.d ti t13]++aQ 9 ([.d .bool t23]++aQ 24 []))),[.obj 0 false (.pr (.ptr (.bj 1) 0 [] 0) (.pr (.bz (.bj 4) 0 [] 0 0 o0L) fN)),.obj 0 false (.pr (.cq (.bj 2) 0) (.pr (.bz (.bj 3) 0 [] 0 0 o1L) fN)),.obj 0 false (.mp aW eU o2),.obj 0 false (.vec 256 cE o3),.obj 0 false (.vec 48 dW o4),.obj 0 false (.pr (.cq (.bj 6) 0) fN),.obj 0 false (.mp aW jP o6)],(ab 48 [])⟩
def O6:qL:=qL.of {aV:=[0,1,5,7,13,23]} KR
def Ar:yH->Option yH:=λx=>(O6).axr .normal (KR x)
theorem O7(x:yH):Ar x=some x:=qL.H4 (jM [.d aAH,.d (.slice dW),.d ti,.d .bool,.n,.n,.d (.slice (.pair aW eU)),.d (.slice cE),.d (.slice dW),.d (.slice (.pair aW jP))] λ_=>bX) x
abbrev Hv:=aHL×Nat×Nat×(List (bu×dS))×(List bY)×(List dv)×(List (bu×ja))
def R7:Hv->SA:=λ(a,o0baL,o1baL,o2,o3,o4,o6)=>([.ptr (.bj 0) 0 [] 0,.ptr (.bj 5) 0 [] 0,.d aAH a],[.obj 0 false (.pr (.ptr (.bj 1) 0 [] 0) (.pr (.bz (.bj 4) 0 [] 0 0 o0baL) fN)),.obj 0 false (.pr (.cq (.bj 2) 0) (.pr (.bz (.bj 3) 0 [] 0 0 o1baL) fN)),.obj 0 false (.mp aW eU o2),.obj 0 false (.vec 256 cE o3),.obj 0 false (.vec 48 dW o4),.obj 0 false (.pr (.cq (.bj 6) 0) fN),.obj 0 false (.mp aW jP o6)])
abbrev aly:=((List G0)×Nat×Nat×(List (bu×dS))×(List bY)×(List dv)×(List (bu×ja)))⊕((List G0)×Nat×Nat×(List (bu×dS))×(List bY)×(List dv)×(List (bu×ja))×Nat×(List (bu×dS))×(List bY)×(List dv))
abbrev Hw:=((List G0)×Nat×Nat×(List (bu×dS))×(List bY)×(List dv)×(List (bu×ja)))⊕((List G0)×Nat×Nat×(List (bu×dS))×(List bY)×(List dv)×(List (bu×ja))×Nat×(List (bu×dS))×(List bY)×(List dv))
def mY:Hw->fA:=λx=>match x with | .inl x=>⟨.d (.slice LC) x.1,[.obj 0 false (.pr (.ptr (.bj 1) 0 [] 0) (.pr (.bz (.bj 4) 1 [] 0 0 x.2.1) fN)),.obj 0 false (.pr (.cq (.bj 2) 0) (.pr (.bz (.bj 3) 1 [] 0 0 x.2.2.1) fN)),.obj 0 false (.mp aW eU x.2.2.2.1),.obj 1 false (.vec 256 cE x.2.2.2.2.1),.obj 1 false (.vec 48 dW x.2.2.2.2.2.1),.obj 0 false (.pr (.cq (.bj 6) 0) fN),.obj 0 false (.mp aW jP x.2.2.2.2.2.2)],[]⟩ | .inr x=>⟨.d (.slice LC) x.1,[.obj 0 false (.pr (eI 0) (.pr (.bz (.new 0 3) 0 [] 0 0 x.2.1) fN)),.obj 0 false (.pr (.cq (.bj 2) 0) (.pr (.bz (.bj 3) 1 [] 0 0 x.2.2.1) fN)),.obj 0 false (.mp aW eU x.2.2.2.1),.obj 1 false (.vec 256 cE x.2.2.2.2.1),.obj 1 false (.vec 48 dW x.2.2.2.2.2.1),.obj 0 false (.pr (.cq (.bj 6) 0) fN),.obj 0 false (.mp aW jP x.2.2.2.2.2.2.1)],[.obj 0 false (.pr (.cq (.new 0 1) 0) (.pr (.bz (.new 0 2) 0 [] 0 0 x.2.2.2.2.2.2.2.1) fN)),.obj 0 false (.mp aW eU x.2.2.2.2.2.2.2.2.1),.obj 0 false (.vec 256 cE x.2.2.2.2.2.2.2.2.2.1),.obj 0 false (.vec 48 dW x.2.2.2.2.2.2.2.2.2.2)]⟩
def MH:Hv->aly->Hw:=λ(a,o0baL,o1baL,o2,o3,o4,o6) y=>match y with | .inl y=> .inl y | .inr y=> .inr y
def aQv(v:Int):Bool:=qQ v 0 || (qQ v 1 || qQ v 2)
def aRp(v:Int):Bool:=qQ v 3 || qQ v 4
def anz(d:Int)(l:List dv)(nb n:Nat)(a:At)(s:List bY)(bs:List dv):Jv:=(kN (d,l,nb,n,a,s,bs)).getD (.inl (0,nb,n,a,s,bs))
def Ra(o:bu)(m:Wm):Wm:=if(cd aW o m).isSome then m else eL aW o td m
def aKT(a:aHL)(nb:Nat)(bs:List dv)(m:Wm):Wm×List G0:=if tv a=5 then(Ra a.2.2.2.1 m,[]) else if tv a=6 then(fT aW a.2.2.2.1 m,[]) else if tv a=7 then yW nb bs m else(m,[])
def MG:Hv->Prop:=λ(a,nb,n,at',s,bs,m)=>(∃A0 b,uQ A0 b nb n at' s bs/\b+a.2.1.length<=400)/\nb<=900/\acy a.2.1/\WG m
def Aq:Hv->aly:=λ(a,nb,n,at',s,bs,m)=>
 if aQv (tv a) then .inl ([],(lO (nth dW (Ep a nb bs) 0) nb (n,at',s) bs).2.1,(lO (nth dW (Ep a nb bs) 0) nb (n,at',s) bs).2.2.1,(lO (nth dW (Ep a nb bs) 0) nb (n,at',s) bs).2.2.2.1,(lO (nth dW (Ep a nb bs) 0) nb (n,at',s) bs).2.2.2.2.1,(lO (nth dW (Ep a nb bs) 0) nb (n,at',s) bs).2.2.2.2.2,m)
 else if aRp (tv a) then match anz a.2.2.1 (Ep a nb bs) nb n at' s bs with
  | .inl x=> .inl ([],x.2.1,x.2.2.1,x.2.2.2.1,x.2.2.2.2.1,x.2.2.2.2.2,m)
  | .inr x=> .inr ([],x.2.1,x.2.2.1,x.2.2.2.1,x.2.2.2.2.1,x.2.2.2.2.2.1,m,x.2.2.2.2.2.2.1,x.2.2.2.2.2.2.2.1,x.2.2.2.2.2.2.2.2.1,x.2.2.2.2.2.2.2.2.2)
 else .inl ((aKT a nb bs m).2,nb,n,at',s,bs,(aKT a nb bs m).1)
def aCZ:ot:=kj (P:=Tryz.prog) [avZ,akK,apT,acp,acj,aHu]
def awJ:wQ:= {res:=[some (.slice LC)],apE:=[(3,1),(4,1)],auk:=nr [(6,O4),(9,O6)]}
def alx:= @G4 Tryz.prog aCZ awJ 0 Tryz.f20 _ R7
abbrev awI:=agp @alx MG MH Aq mY
theorem awK{R:Type}(a:aHL)(o0baL:Nat)(o1baL:Nat)(o2:(List (bu×dS)))(o3:(List bY))(o4:(List dv))(o6:(List (bu×ja)))(k:fA->Option R):alx (a,o0baL,o1baL,o2,o3,o4,o6) k=al (xw.call (a,o0baL,o1baL,o2,o3,o4)) λx4=>al (aH ((qQ (cF .and .i64 a.1 (7:Int)) (0:Int))) (tQ (a,x4.1,(cF .and .i64 a.1 (7:Int)),(qQ (cF .and .i64 a.1 (7:Int)) (0:Int)),x4.2.1,x4.2.2.1,x4.2.2.2.1,x4.2.2.2.2.1,x4.2.2.2.2.2,o6)) (aH ((qQ (cF .and .i64 a.1 (7:Int)) (1:Int))) (tQ (a,x4.1,(cF .and .i64 a.1 (7:Int)),(qQ (cF .and .i64 a.1 (7:Int)) (1:Int)),x4.2.1,x4.2.2.1,x4.2.2.2.1,x4.2.2.2.2.1,x4.2.2.2.2.2,o6)) (tQ (a,x4.1,(cF .and .i64 a.1 (7:Int)),(qQ (cF .and .i64 a.1 (7:Int)) (2:Int)),x4.2.1,x4.2.2.1,x4.2.2.2.1,x4.2.2.2.2.1,x4.2.2.2.2.2,o6)))) λN3=>aH (N3.2.2.2.1) (aH (eg (0:Int) (((ag N3.2.1):Nat):Int)) (al (F9.call ((nth dW N3.2.1 0),N3.2.2.2.2.1,N3.2.2.2.2.2.1,N3.2.2.2.2.2.2.1,N3.2.2.2.2.2.2.2.1,N3.2.2.2.2.2.2.2.2.1)) λaQY=>k (mY (.inl (([]:List G0),aQY.2.1,aQY.2.2.1,aQY.2.2.2.1,aQY.2.2.2.2.1,aQY.2.2.2.2.2,N3.2.2.2.2.2.2.2.2.2)))) none) (al (aH ((qQ N3.2.2.1 (3:Int))) (Ar (N3.1,N3.2.1,N3.2.2.1,(qQ N3.2.2.1 (3:Int)),N3.2.2.2.2.1,N3.2.2.2.2.2.1,N3.2.2.2.2.2.2.1,N3.2.2.2.2.2.2.2.1,N3.2.2.2.2.2.2.2.2.1,N3.2.2.2.2.2.2.2.2.2)) (Ar (N3.1,N3.2.1,N3.2.2.1,(qQ N3.2.2.1 (4:Int)),N3.2.2.2.2.1,N3.2.2.2.2.2.1,N3.2.2.2.2.2.2.1,N3.2.2.2.2.2.2.2.1,N3.2.2.2.2.2.2.2.2.1,N3.2.2.2.2.2.2.2.2.2))) λvK=>aH (vK.2.2.2.1) (al (kN (vK.1.2.2.1,vK.2.1,vK.2.2.2.2.1,vK.2.2.2.2.2.1,vK.2.2.2.2.2.2.1,vK.2.2.2.2.2.2.2.1,vK.2.2.2.2.2.2.2.2.1)) λG3=>aH (G3.isLeft) (al (G3.getLeft?) λaHI=>k (mY (.inl (([]:List G0),aHI.2.1,aHI.2.2.1,aHI.2.2.2.1,aHI.2.2.2.2.1,aHI.2.2.2.2.2,vK.2.2.2.2.2.2.2.2.2)))) (al (G3.getRight?) λajP=>k (mY (.inr (([]:List G0),ajP.2.1,ajP.2.2.1,ajP.2.2.2.1,ajP.2.2.2.2.1,ajP.2.2.2.2.2.1,vK.2.2.2.2.2.2.2.2.2,ajP.2.2.2.2.2.2.1,ajP.2.2.2.2.2.2.2.1,ajP.2.2.2.2.2.2.2.2.1,ajP.2.2.2.2.2.2.2.2.2))))) (aH ((qQ vK.2.2.1 (5:Int))) (al (Ed.call (vK.1.2.2.2.1,vK.2.2.2.2.2.2.2.2.2)) λNX=>k (mY (.inl (([]:List G0),vK.2.2.2.2.1,vK.2.2.2.2.2.1,vK.2.2.2.2.2.2.1,vK.2.2.2.2.2.2.2.1,vK.2.2.2.2.2.2.2.2.1,NX)))) (aH ((qQ vK.2.2.1 (6:Int))) (al (LV.call (vK.1.2.2.2.1,vK.2.2.2.2.2.2.2.2.2)) λacq=>k (mY (.inl (([]:List G0),vK.2.2.2.2.1,vK.2.2.2.2.2.1,vK.2.2.2.2.2.2.1,vK.2.2.2.2.2.2.2.1,vK.2.2.2.2.2.2.2.2.1,acq)))) (aH ((qQ vK.2.2.1 (7:Int))) (al (LY.call (vK.2.2.2.2.2.2.2.2.2,vK.2.2.2.2.1,vK.2.2.2.2.2.1,vK.2.2.2.2.2.2.1,vK.2.2.2.2.2.2.2.1,vK.2.2.2.2.2.2.2.2.1)) λaAI=>aH (decide (0=0/\(0+aAI.1)<=(ag aAI.2.2.2.2.2.2.2))) (k (mY (.inl ((cut aAI.2.2.2.2.2.2.2 0 aAI.1),aAI.2.2.1,aAI.2.2.2.1,aAI.2.2.2.2.1,aAI.2.2.2.2.2.1,aAI.2.2.2.2.2.2.1,aAI.2.1)))) none) (k (mY (.inl (([]:List G0),vK.2.2.2.2.1,vK.2.2.2.2.2.1,vK.2.2.2.2.2.2.1,vK.2.2.2.2.2.2.2.1,vK.2.2.2.2.2.2.2.2.1,vK.2.2.2.2.2.2.2.2.2)))))))):=bX
theorem aMF{a:aHL}(ht:acy a.2.1){nb:Nat}(hn:nb<=1000000)(bs:List dv):(∀b∈Ep a nb bs,VP b)/\abH (Ep a nb bs)<=a.2.1.length/\(Ep a nb bs).length<=9/\(tv a < 3->(Ep a nb bs).length=1):=by
 unfold Ep;split
 ·exact⟨asb ht 1 _ _ ak (A7 _ _),aaT _ _ _ _,by rw[Qs];decide,λ_=>Qs _ _ _ _⟩
 ·rename_i h3;split
  ·rename_i hd;exact⟨asb ht _ _ _ ak (A7 _ _),aaT _ _ _ _,by rw[Qs];omega,λh=>absurd h h3⟩
  ·exact⟨λb hb=>(by cases hb),aM _,by show 0<=9;decide,λh=>absurd h h3⟩
theorem uQ.anz{A0:At}{m nb n:Nat}{a:At}{s:List bY}{bs:List dv}(h:uQ A0 m nb n a s bs)(d:Int){l:List dv}(hl:∀b∈l,VP b)(hm:m+abH l<=400)(hn:nb+l.length<=1000):
  kN (d,l,nb,n,a,s,bs)=some (Ab.anz d l nb n a s bs):=by
 unfold Ab.anz;rcases h.aMf d hl hm hn with⟨e,_,h1⟩ | ⟨n',a',s',bs',h1,_⟩
 ·rw[h1];rfl
 ·rw[h1];rfl
theorem awL:awI:=by
 rintro⟨a,nb,n,at',s,bs,m⟩ ⟨⟨A0,b,h,hb⟩,aO0,ht,hw⟩;have hb:b+a.2.1.length<=400:=hb;have aO0:nb<=900:=aO0;obtain⟨g1,g2,g3,g4⟩:=aMF ht (nb:=nb) ak bs;rw[awK,apD (d:=(a,nb,n,at',s,bs)) ⟨⟨A0,b,h⟩,ht⟩];simp only[ah,bn,XG,O5,O7];rw[show cF .and .i64 a.1 7=tv a from rfl];refine(bm (λz=>al z _) (?_:_=some (a,Ep a nb bs,tv a,aQv (tv a),nb,n,at',s,bs,m))).trans ?_
 ·unfold aQv;cases qQ (tv a) 0 <;> cases qQ (tv a) 1 <;> cases qQ (tv a) 2 <;> rfl
 rw[ah];simp only[Aq];generalize hl:Ep a nb bs=l at g1 g2 g3 g4 ⊢;cases h3:aQv (tv a) with
 |true=>
  have hv:tv a < 3:=by unfold aQv qQ at h3;simp only[gC,dr]at h3;rcases h3 with h3 | h3 | h3 <;> rw[h3] <;> decide
  have g4:=g4 hv;have aLR:nth dW l 0∈l:=by rw[bW (t:=dW) (show 0 < l.length by omega)];exact aN _
  rw[aj,if_pos rfl,bg (by decide) ak,aj,h.aRG (g1 _ aLR) ak];rfl
 |false=>
  rw[ao,if_neg (by decide)];refine(bm (λz=>al z _) (?_:_=some (a,l,tv a,aRp (tv a),nb,n,at',s,bs,m))).trans ?_
  ·unfold aRp;cases qQ (tv a) 3 <;> cases qQ (tv a) 4 <;> rfl
  rw[ah];simp only[];cases h4:aRp (tv a) with
  |true=>
   rw[aj,if_pos rfl,h.anz a.2.2.1 g1 ak ak];simp only[ah];cases anz a.2.2.1 l nb n at' s bs <;> rfl
  |false=>
   rw[ao,if_neg (by decide)];unfold aKT;by_cases c5:tv a=5
   ·rw[dp c5,aj,if_pos c5,J6 (d:=(a.2.2.2.1,m)) trivial];rfl
   rw[eO c5,ao,if_neg c5];by_cases c6:tv a=6
   ·rw[dp c6,aj,if_pos c6,TF (d:=(a.2.2.2.1,m)) trivial];rfl
   rw[eO c6,ao,if_neg c6];by_cases c7:tv a=7
   ·rw[dp c7,aj,if_pos c7,aAm (d:=(m,nb,n,at',s,bs)) ⟨⟨A0,b,h⟩,hw⟩];simp only[ah,bn,ajI];rw[aI (⟨trivial,tr (aK _)⟩:True/\0+(yW nb bs m).2.length<=(yW nb bs m).2.length),aj,eR rfl];rfl
   rw[eO c7,ao,if_neg c7];rfl
def Dy:=Entry.ac1 [none,none,some aAH] R7 MG MH Aq mY
def ez:Hv->Option Hw:=Kv Dy R7
theorem MI:jf ez MG MH Aq:=aaY (VZ [.d aAH,.n,.n,.d (.slice (.pair aW eU)),.d (.slice cE),.d (.slice dW),.d (.slice (.pair aW jP))] λ_=>bX)
def aeK:SG Tryz.prog:=⟨20,lQ,Dy,.of (.aMh (.fn 0 bX awL trivial)) (by rfl)⟩
section
def aL2:List aB->Bool:=λvs=>match vs with | [_,_,.d (.pair (.int .i64) _) x]=>decide ((x.1:Int)=3) | _=>false
def aQz:List aB->Bool:=λvs=> !aL2 vs
def aRO.E:Entry:=Entry.half [none,none,some aAH] (X:=Hw) (Z:=(List G0)×Nat×Nat×(List (bu×dS))×(List bY)×(List dv)×(List (bu×ja))) Dy.run Dy.out Sum.inl cR
def aRO.sg:SG Tryz.prog:=⟨20,aQz,aRO.E,uU.of (qA.half aPI (aeK.h.1 (by rfl))) (by rfl)⟩
def aRP.E:Entry:=Entry.half [none,none,some aAH] (X:=Hw) (Z:=(List G0)×Nat×Nat×(List (bu×dS))×(List bY)×(List dv)×(List (bu×ja))×Nat×(List (bu×dS))×(List bY)×(List dv)) Dy.run Dy.out Sum.inr Sum.getRight?
def aRP.sg:SG Tryz.prog:=⟨20,aL2,aRP.E,uU.of (qA.half aPJ (aeK.h.1 (by rfl))) (by rfl)⟩
abbrev pq:=(List G0)×(List G0)×Bool×bu×(List (bu×ja))
def Gw:pq->AS:=λ(d,e,one,n6,n29)=>⟨([bB,bB,bB,eI 29,bB,bB,eI 6]++aQ 6 ([.d (.slice LC) d,bB,.d (.slice LC) e,bB,.d .bool one]++aQ 235 [])),[],(bD 6 ([dK (.d aW n6)]++bD 22 ([[.obj 0 false (.pr (.cq (.new 29 1) 0) fN),.obj 0 false (.mp aW jP n29)]]++bD 223 [])))⟩
def IU:qL:=qL.of {aV:=[3,6,13,15,17],sites:=[6,29]} Gw
def iK:pq->Option pq:=λx=>(IU).axr .normal (Gw x)
theorem Kj(x:pq):iK x=some x:=qL.H4 (jM [.d (.slice LC),.d (.slice LC),.d .bool,.d aW,.d (.slice (.pair aW jP))] λ_=>bX) x
abbrev pt:=Bool×Bool×bu×(List (bu×ja))
def Gx:pt->AS:=λ(one,two,n6,n29)=>⟨([bB,bB,bB,eI 29,bB,bB,eI 6]++aQ 10 ([.d .bool one,.d .bool two]++aQ 234 [])),[],(bD 6 ([dK (.d aW n6)]++bD 22 ([[.obj 0 false (.pr (.cq (.new 29 1) 0) fN),.obj 0 false (.mp aW jP n29)]]++bD 223 [])))⟩
def IV:qL:=qL.of {aV:=[3,6,17,18],sites:=[6,29]} Gx
def fW:pt->Option pt:=λx=>(IV).axr .normal (Gx x)
theorem Kk(x:pt):fW x=some x:=qL.H4 (jM [.d .bool,.d .bool,.d aW,.d (.slice (.pair aW jP))] λ_=>bX) x
def aob:Unit->Prop:=λ_=>True
def af1:Unit->Bool:=λ_=>true
def ju:Fs Tryz.prog aob bn af1:=eK 8 Tryz.f8 (λ_=>([],[])) (λx=>⟨.d .bool x,[],[]⟩) [] [P4,aJ1,aB2,avg,aG2,acp,aRO.sg,aoN,aRP.sg,aGW,agi,ajE,acj] {loops:=nF [(19,{aV:=[2,3,4,6,7,8,9,11,12,13,14],sites:=[1,4,6,7,10,20,23,24,28,29,44,50,53,58,62,68,72,76,85,89,97,101,105,155,207,212,216,219,223,249]})],outs:=nE [(19,{aV:=[2,3,4,6,7,8,9,11,12,13],sites:=[1,4,6,7,10,20,23,24,28,29,44,50,53,58,62,68,72,76,85,89,97,101,105,155,207,212,216,219,223,249]},{aV:=[0],sites:=[1,4,6,7,10,20,23,24,28,29,44,50,53,58,62,68,72,76,85,89,97,101,105,155,207,212,216,219,223,249]})],auk:=nr [(27,IU),(28,IV)]} 8
theorem asz{R:Type}(d)(k:K1 R):ju.A d k=al (Gj.call 7) λx7=>al (amk.call x7) λx8=>al (Mn [(100,(x8,()))]) λvK=>aH (vK.isLeft) (al (vK.getLeft?) λaVL=>al (ad3.call ()) λNX=>k (ju.out false)) (al (vK.getRight?) λaOB=>al (ad3.call ()) λaAI=>al (uZ.call (([(((ab 32 0),(0,())),((0,(([]:List Sg),(0,()))),()))],([(90,(x8,()))],(0,()))),0,0,[7],0)) λaPe=>al (Ed.call (((ab 32 0),(1,())),aAI)) λaMj=>al (Ed.call (((ab 32 0),(0,())),aMj)) λaVM=>al (jx cR (ez ((7,(([]:List dD),(0,(((ab 32 0),(0,())),())))),0,0,aOB.1,aOB.2.1,aOB.2.2,aVM))) λaOD=>al (jx cR (ez ((0,(([]:List dD),(0,(((ab 32 0),(0,())),())))),aOD.2.1,aOD.2.2.1,aOD.2.2.2.1,aOD.2.2.2.2.1,aOD.2.2.2.2.2.1,aOD.2.2.2.2.2.2))) λaPf=>al (jx cR (ez ((0,([aPe.1],(0,(((ab 32 0),(0,())),())))),aPf.2.1,aPf.2.2.1,aPf.2.2.2.1,aPf.2.2.2.2.1,aPf.2.2.2.2.2.1,aPf.2.2.2.2.2.2))) λaPh=>al (jx cR (ez ((7,(([]:List dD),(0,(((ab 32 0),(0,())),())))),aPh.2.1,aPh.2.2.1,aPh.2.2.2.1,aPh.2.2.2.2.1,aPh.2.2.2.2.2.1,aPh.2.2.2.2.2.2))) λatk=>al (Ec.call (((ab 32 0),(0,())),atk.2.2.2.2.2.2)) λaTw=>al (jx Sum.getRight? (ez ((3,([aPe.1],(1,(((ab 32 0),(0,())),())))),atk.2.1,atk.2.2.1,atk.2.2.2.1,atk.2.2.2.2.1,atk.2.2.2.2.2.1,aTw.1))) λaPi=>al (jx cR (ez ((7,(([]:List dD),(0,(((ab 32 0),(0,())),())))),aPi.2.1,aPi.2.2.2.2.2.2.2.1,aPi.2.2.2.2.2.2.2.2.1,aPi.2.2.2.2.2.2.2.2.2.1,aPi.2.2.2.2.2.2.2.2.2.2,aPi.2.2.2.2.2.2.1))) λaAx=>al (jx cR (ez ((0,(([]:List dD),(0,(((ab 32 0),(0,())),())))),aAx.2.1,aAx.2.2.1,aAx.2.2.2.1,aAx.2.2.2.2.1,aAx.2.2.2.2.2.1,aAx.2.2.2.2.2.2))) λaAr=>al (jx cR (ez ((0,(([]:List dD),(0,(((ab 32 0),(0,())),())))),aAr.2.1,aAr.2.2.1,aAr.2.2.2.1,aAr.2.2.2.2.1,aAr.2.2.2.2.2.1,aAr.2.2.2.2.2.2))) λaAs=>al (jx cR (ez ((0,(([]:List dD),(0,(((ab 32 0),(0,())),())))),aAs.2.1,aAs.2.2.1,aAs.2.2.2.1,aAs.2.2.2.2.1,aAs.2.2.2.2.2.1,aAs.2.2.2.2.2.2))) λaoP=>al (jx cR (ez ((0,(([]:List dD),(0,(((ab 32 0),(0,())),())))),aoP.2.1,aoP.2.2.1,aoP.2.2.2.1,aoP.2.2.2.2.1,aoP.2.2.2.2.2.1,aoP.2.2.2.2.2.2))) λaAt=>al (jx cR (ez ((0,(([]:List dD),(0,(((ab 32 0),(0,())),())))),aAt.2.1,aAt.2.2.1,aAt.2.2.2.1,aAt.2.2.2.2.1,aAt.2.2.2.2.2.1,aAt.2.2.2.2.2.2))) λNW=>al (jx cR (ez ((0,(([]:List dD),(0,(((ab 32 0),(0,())),())))),NW.2.1,NW.2.2.1,NW.2.2.2.1,NW.2.2.2.2.1,NW.2.2.2.2.2.1,NW.2.2.2.2.2.2))) λaAu=>al (jx cR (ez ((0,(([]:List dD),(0,(((ab 32 0),(0,())),())))),aAu.2.1,aAu.2.2.1,aAu.2.2.2.1,aAu.2.2.2.2.1,aAu.2.2.2.2.2.1,aAu.2.2.2.2.2.2))) λad4=>al (jx cR (ez ((7,(([]:List dD),(0,(((ab 32 0),(0,())),())))),ad4.2.1,ad4.2.2.1,ad4.2.2.2.1,ad4.2.2.2.2.1,ad4.2.2.2.2.2.1,ad4.2.2.2.2.2.2))) λTM=>al (jx cR (ez ((7,(([]:List dD),(0,(((ab 32 0),(0,())),())))),TM.2.1,TM.2.2.1,TM.2.2.2.1,TM.2.2.2.2.1,TM.2.2.2.2.2.1,TM.2.2.2.2.2.2))) λatj=>aH ((BT (aOD.1.length:Int) 0)) (k (ju.out false)) (aH ((BT (atk.1.length:Int) 1)) (k (ju.out false)) (aH ((BT (aAx.1.length:Int) 2)) (k (ju.out false)) (aH ((BT (TM.1.length:Int) 1)) (k (ju.out false)) (aH ((BT (atj.1.length:Int) 0)) (k (ju.out false)) (al (aH (eg 0 (atk.1.length:Int)) (aH ((qQ (nth LC atk.1 0).1 1)) (aH (eg 0 (atk.1.length:Int)) (aH ((qQ (nth LC atk.1 0).2.2.2.1 2)) (aH (eg 0 (atk.1.length:Int)) (aH ((Ty.beq aW (nth LC atk.1 0).2.1 ((ab 32 0),(0,())))) (aH (eg 0 (atk.1.length:Int)) (al (LM.call ((nth LC atk.1 0).2.2.1,aPe.1)) λaLw=>aH (aLw) (aH (aTw.2.2.2) (iK (aAx.1,TM.1,(qQ aTw.2.2.1 2),((ab 32 0),(0,())),atj.2.2.2.2.2.2)) (iK (aAx.1,TM.1,false,((ab 32 0),(0,())),atj.2.2.2.2.2.2))) (iK (aAx.1,TM.1,false,((ab 32 0),(0,())),atj.2.2.2.2.2.2))) none) (iK (aAx.1,TM.1,false,((ab 32 0),(0,())),atj.2.2.2.2.2.2))) none) (iK (aAx.1,TM.1,false,((ab 32 0),(0,())),atj.2.2.2.2.2.2))) none) (iK (aAx.1,TM.1,false,((ab 32 0),(0,())),atj.2.2.2.2.2.2))) none) λnI=>al (aH (eg 0 (nI.1.length:Int)) (aH ((qQ (nth LC nI.1 0).1 2)) (aH (eg 0 (nI.1.length:Int)) (aH ((qQ (nth LC nI.1 0).2.2.2.1 2)) (aH (eg 1 (nI.1.length:Int)) (aH ((qQ (nth LC nI.1 1).1 1)) (aH (eg 1 (nI.1.length:Int)) (aH ((qQ (nth LC nI.1 1).2.2.2.1 3)) (aH (eg 0 (nI.2.1.length:Int)) (aH ((qQ (nth LC nI.2.1 0).1 3)) (aH (eg 0 (nI.2.1.length:Int)) (aH ((qQ (nth LC nI.2.1 0).2.2.2.1 3)) (al (xM.call (nI.2.2.2.1,nI.2.2.2.2)) λaOA=>aH (aOA.2) (al (xM.call (((ab 32 0),(1,())),aOA.1)) λaQW=>fW (nI.2.2.1,(!aQW.2),nI.2.2.2.1,aQW.1)) (fW (nI.2.2.1,false,nI.2.2.2.1,aOA.1))) (fW (nI.2.2.1,false,nI.2.2.2.1,nI.2.2.2.2))) none) (fW (nI.2.2.1,false,nI.2.2.2.1,nI.2.2.2.2))) none) (fW (nI.2.2.1,false,nI.2.2.2.1,nI.2.2.2.2))) none) (fW (nI.2.2.1,false,nI.2.2.2.1,nI.2.2.2.2))) none) (fW (nI.2.2.1,false,nI.2.2.2.1,nI.2.2.2.2))) none) (fW (nI.2.2.1,false,nI.2.2.2.1,nI.2.2.2.2))) none) λaAw=>al (wall.call aAw.2.2.2) λaHF=>al (LV.call (aAw.2.2.1,aHF.2.1)) λaTr=>al (Ec.call (aAw.2.2.1,aTr)) λaQX=>aH (aAw.1) (aH (aAw.2.1) (aH ((qQ ((aHF.1:Nat):Int) 2)) (aH (eg 0 ((aHF.1:Nat):Int)) (aH (decide (0 < (ag aHF.2.2))) (aH ((Ty.beq aW (nth aW aHF.2.2 0) aAw.2.2.1)) (aH ((!aQX.2.2.2)) (al (wall.call aQX.1) λaTs=>k (ju.out (qQ ((aTs.1:Nat):Int) 1))) (k (ju.out false))) (k (ju.out false))) none) none) (k (ju.out false))) (k (ju.out false))) (k (ju.out false)))))))):=bX
def o0:bu:=(acs,((0:Int),()))
def o1:bu:=(acs,((1:Int),()))
def N6(d:Int)(l:List dD)(dep:Int):aHL:=(d,(l,(dep,(o0,()))))
def zJ(x:ja):Wm:=[(o1,td),(o0,x)]
theorem ao0{k:Int}:Jo (acs,(k,())):=⟨cg,λx hx=>by rw[(rQ.1 (show x∈ab 32 (0:Int) from hx)).2];exact⟨by decide,by decide⟩⟩
theorem aUd:¬o0=o1:=λh=>absurd (bm (λo:bu=>o.2.1) h:(0:Int)=1) (by decide)
theorem aSW:¬o1=o0:=λh=>aUd h.symm
theorem aOM:Ty.beq aW o0 o1=false:=by
 cases h:Ty.beq aW o0 o1 with
 |false=>rfl
 |true=>exact absurd ((va _ _).1 h) aUd
theorem avs:Ty.beq aW o1 o0=false:=by
 cases h:Ty.beq aW o1 o0 with
 |false=>rfl
 |true=>exact absurd ((va _ _).1 h) aSW
theorem aOL:Ty.beq aW o0 o0=true:=(va _ _).2 rfl
theorem aQ4:Ty.beq aW o1 o1=true:=(va _ _).2 rfl
theorem aRS(x:ja):cd aW o0 (zJ x)=some x:=by unfold zJ;rw[fD,if_neg (by rw[aOM];decide),fD,if_pos aOL]
theorem aTH(x:ja):cd aW o1 (zJ x)=some td:=by unfold zJ;rw[fD,if_pos aQ4]
theorem aVD(x y:ja):eL aW o0 y (zJ x)=zJ y:=by unfold zJ;rw[sm,if_neg (by rw[aOM];decide),sm,if_pos aOL]
theorem aVE(x:ja):eL aW o1 td (zJ x)=zJ x:=by unfold zJ;rw[sm,if_pos aQ4]
theorem aPu:GS o1 o0=1:=by rw[tM (a:=o1) (b:=o0) ao0 ao0];decide+kernel
theorem aQV(x:ja):Dg (zJ x)=[o0,o1]:=by
 have hq:∀y∈([o1,o0]:List bu),Jo y:=λy hy=>by
  rcases cn.1 hy with rfl | hy
  ·exact ao0
  ·rw[bo.1 hy];exact ao0
 refine(FC Af hq (λx hx y hy a b=>Ag (hq x hx) (hq y hy) a b) ⟨List.Perm.swap o1 o0 [],?_⟩).symm;refine List.pairwise_cons.2 ⟨λy hy=> ?_,List.pairwise_singleton _ _⟩;rw[bo.1 hy,aPu];decide
theorem aPd{x:ja}(h:aoS x):WG (zJ x):=⟨by show 2<=_;decide,c9.2 ⟨λh=>aSW (bo.1 h),c9.2 ⟨λh=>(by cases h),gr⟩⟩,λp hp=>by
 rcases cn.1 hp with rfl | hp
 ·exact⟨ao0,acu⟩
 ·rw[bo.1 hp];exact⟨ao0,h⟩⟩
theorem amo{H:Int}{l:List dv}{o:bu}(h:Di o l 0=none):ma H l o td=(td,[]):=by
 have hr:qH o l=(eJ.zero,0,false):=by unfold qH;rw[h]
 have e1:∀id,GV o td 0 false id=(td,[]):=λid=>if_neg (show ¬aeU td 0 false id=true from λh=>(by cases h))
 have e2:∀id,PK o eJ.zero 0 false id td=(td,[]):=λid=>if_neg (λh=>(by cases h))
 have e3:acV o eJ.zero 0 false H td=(td,[]):=if_neg (λh=>(by cases h));unfold ma;rw[if_neg (show ¬td.2.2.2.2.1=true from λh=>(by cases h)),hr];simp only[e1,e2,e3,bk]
theorem aEq{nb:Nat}{bs:List dv}(x:ja)(h1:Di o1 (bs.take nb) 0=none):yW nb bs (zJ x)=(zJ (ma nb (bs.take nb) o0 x).1,(ma nb (bs.take nb) o0 x).2):=by
 have g0:nC o0 (zJ x)=x:=by unfold nC;rw[aRS];rfl
 have e0:lookW nb (bs.take nb) (zJ x,[]) o0=(zJ (ma nb (bs.take nb) o0 x).1,(ma nb (bs.take nb) o0 x).2):=by
  unfold lookW;rw[show(zJ x,([]:List G0)).1=zJ x from rfl,g0,aVD];split
  ·rename_i hf;rw[show ma nb (bs.take nb) o0 x=(x,[]) from if_pos hf]
  ·rfl
 unfold yW;rw[aQV,bp,bp,cO,e0];generalize ma nb (bs.take nb) o0 x=r;have g1:nC o1 (zJ r.1)=td:=by unfold nC;rw[aTH];rfl
 unfold lookW;rw[show(zJ r.1,r.2).1=zJ r.1 from rfl,g1,if_neg (show ¬td.2.2.2.2.1=true from λh=>(by cases h)),amo h1,aVE];show(zJ r.1,r.2++ [])=_;rw[bk]
theorem aOv:acy []:=⟨aM _,λt ht=>(by cases ht)⟩
theorem aQS{K:Int}(hk:KW K):acy [UW K]:=⟨by show 1<=_;decide,λt ht=>by
 rw[bo.1 ht];exact⟨(zW hk).2.1,gD (jv (zW hk).1).1.2.1 (by decide)⟩⟩
section
variable {A0:At} {b nb n:Nat} {a:At} {s:List bY} {bs:List dv}
theorem alq(h:uQ A0 b nb n a s bs)(hb:b<=400)(hn:nb<=900)(h1:Di o1 (bs.take nb) 0=none){x:ja}(hx:aoS x):
  ez (N6 7 [] 0,nb,n,a,s,bs,zJ x)=some (.inl ((ma nb (bs.take nb) o0 x).2,nb,n,a,s,bs,zJ (ma nb (bs.take nb) o0 x).1)):=by
 have e7:tv (N6 7 [] 0)=7:=by unfold tv N6;decide
 rw[MI (d:=(N6 7 [] 0,nb,n,a,s,bs,zJ x)) ⟨⟨A0,b,h,hb⟩,hn,aOv,aPd hx⟩];simp only[Aq,e7,aKT,aEq x h1];rfl
theorem aMS(h:uQ A0 b nb n a s bs){l:List dD}(hl:acy l)(hb:b+l.length<=400)(hn:nb<=900){m:Wm}(hm:WG m){r:Int×Nat×Nat×At×List bY×List dv}(hr:lO (zL ((nb:Int)+1) (rb nb bs) l 0) nb (n,a,s) bs=r):
  ez (N6 0 l 0,nb,n,a,s,bs,m)=some (.inl ([],r.2.1,r.2.2.1,r.2.2.2.1,r.2.2.2.2.1,r.2.2.2.2.2,m)):=by
 have e7:tv (N6 0 l 0)=0:=by show cF .and .i64 0 7=0;decide
 have eb:nth dW (Ep (N6 0 l 0) nb bs) 0=zL ((nb:Int)+1) (rb nb bs) l 0:=by unfold Ep;rw[if_pos (by rw[e7];decide)];rfl
 rw[MI (d:=(N6 0 l 0,nb,n,a,s,bs,m)) ⟨⟨A0,b,h,hb⟩,hn,hl,hm⟩];simp only[Aq,e7,eb,hr];rfl
theorem aMq(h:uQ A0 b nb n a s bs){c:dv}(hc:VP c)(hn:nb<=1000){nb' n':Nat}{a':At}{s':List bY}{bs':List dv}(e:lO c nb (n,a,s) bs=(0,nb',n',a',s',bs')){m':Nat}(hm:b+c.2.2.1.length<=m'):uQ A0 m' nb' n' a' s' bs':=by
 rcases h.add hc hm hn with⟨e',he,e2⟩ | ⟨n2,a2,s2,e2,h2,_,_⟩
 ·rw[e]at e2;exact absurd (bm (λz=>z.1) e2).symm he
 ·rw[e]at e2;simp only[cC]at e2;obtain⟨_,rfl,rfl,rfl,rfl,rfl⟩:=e2;exact h2
end
def nX:dv:=zL 1 acs [] 0
def Ef(K:Int)(P1:Bs):dv:=zL 2 P1 [UW K] 0
def CB(P1:Bs):dv:=zL 2 P1 [] 0
def G1(K:Int)(P2:Bs):dv:=zL 3 P2 [UW K] 0
theorem aA7{K:Int}(hk:KW K)(P1:Bs):zY 1 2 1 (BW K 2) [sW K] [nX,Ef K P1]=(1,0,AW K 0 0,[sW K],[nX,Ef K P1]):=by have ec:iJ (BW K 2)=BW K 2:=aPs;have eu:=aVG hk 0 0 2;have e:wU [nX,Ef K P1] 1 (2,1,BW K 2,[sW K])=(1,0,xt (BW K 2) (sW K),[sW K]):=rfl;unfold zY;rw[ec];show((wU [nX,Ef K P1] 1 (2,1,BW K 2,[sW K])).1,(wU [nX,Ef K P1] 1 (2,1,BW K 2,[sW K])).2.1,(wU [nX,Ef K P1] 1 (2,1,BW K 2,[sW K])).2.2.1,(wU [nX,Ef K P1] 1 (2,1,BW K 2,[sW K])).2.2.2,[nX,Ef K P1])=_;rw[e];show(1,0,xt (BW K 2) (stepOf (UW K) (AW K 0 0)),[sW K],[nX,Ef K P1])=_;rw[eu]
theorem aS8{K:Int}(hk:KW K)(gj:¬nR (TW K)=acs){P1 P2:Bs}(hP:apq nX=P1)(hQ:apq (CB P1)=P2)(h:uQ (AW K 0 0) 1 2 1 (BW K 2) [sW K] [nX,Ef K P1]):
  kN (1,[CB P1,G1 K P2],2,1,BW K 2,[sW K],[nX,Ef K P1])=some (.inr (0,3,1,BW K 2,[sW K],[nX,Ef K P1],1,BW K 3,[sW K],[nX,CB P1,G1 K P2]))/\uQ (AW K 0 0) 2 3 1 (BW K 3) [sW K] [nX,CB P1,G1 K P2]:=by
 have l1:P1.length=32:=by rw[<-hP];exact BA _
 have l2:P2.length=32:=by rw[<-hQ];exact BA _
 have v2:VP (CB P1):=aRQ (by decide) l1 aHO;have v3:VP (G1 K P2):=aUn hk (by decide) l2 aHO;have e1:lO (CB P1) 1 (0,AW K 0 0,[sW K]) [nX,Ef K P1]=(0,2,0,AW K 0 0,[sW K],[nX,CB P1]):=aH1 (h:=2) (p:=P1) (fill:=0) (nb:=1) (S:=(0,AW K 0 0,[sW K])) (bs:=[nX,Ef K P1]) hP.symm rfl (by decide) l1 aHO;have e2:lO (G1 K P2) 2 (0,AW K 0 0,[sW K]) [nX,CB P1]=(0,3,1,BW K 3,[sW K],[nX,CB P1,G1 K P2]):=aTE hk gj (h:=3) (p:=P2) (nb:=2) (n:=0) (s:=[sW K]) (bs:=[nX,CB P1]) hQ.symm rfl (by decide) l2;have hl:∀b∈ [CB P1,G1 K P2],VP b:=λb hb=>by
  rcases cn.1 hb with rfl | hb
  ·exact v2
  ·rw[bo.1 hb];exact v3
 have hF:jd (1,[CB P1,G1 K P2],2,1,BW K 2,[sW K],[nX,Ef K P1])= .inr (0,3,1,BW K 2,[sW K],[nX,Ef K P1],1,BW K 3,[sW K],[nX,CB P1,G1 K P2]):=by
  have ek:iS [CB P1,G1 K P2] (1,0,AW K 0 0,[sW K],[nX,Ef K P1])=(0,3,1,BW K 3,[sW K],[nX,CB P1,G1 K P2]):=by rw[iS];show(if(lO (CB P1) 1 (0,AW K 0 0,[sW K]) [nX,Ef K P1]).1≠0 then lO (CB P1) 1 (0,AW K 0 0,[sW K]) [nX,Ef K P1] else iS [G1 K P2] (lO (CB P1) 1 (0,AW K 0 0,[sW K]) [nX,Ef K P1]).2)=_;rw[e1,if_neg (λh=>h rfl),iS];show(if(lO (G1 K P2) 2 (0,AW K 0 0,[sW K]) [nX,CB P1]).1≠0 then lO (G1 K P2) 2 (0,AW K 0 0,[sW K]) [nX,CB P1] else iS [] (lO (G1 K P2) 2 (0,AW K 0 0,[sW K]) [nX,CB P1]).2)=_;rw[e2,if_neg (λh=>h rfl)];rfl
  simp only[jd];rw[if_pos ⟨by decide,by decide,by show(1:Int) < ((2:Nat):Int);decide⟩,if_pos (by decide),aA7 hk P1,ek,if_neg (λh=>h rfl)]
 have key:kN (1,[CB P1,G1 K P2],2,1,BW K 2,[sW K],[nX,Ef K P1])=some (.inr (0,3,1,BW K 2,[sW K],[nX,Ef K P1],1,BW K 3,[sW K],[nX,CB P1,G1 K P2])):=by
  have ahQ:wX (1,[CB P1,G1 K P2],2,1,BW K 2,[sW K],[nX,Ef K P1]):=⟨h.ch,h.aTk (by decide),by show 2<=_;decide,λ_=>by
   rw[aA7 hk P1];have sg:=aVz hk;refine⟨⟨v2,sg,ou 1,by decide,h.ch.2.2⟩,λ_=> ?_⟩;show W8 [G1 K P2] (lO (CB P1) 1 (0,AW K 0 0,[sW K]) [nX,Ef K P1]).2;rw[e1];refine⟨⟨v3,sg,aRN (h.ch.2.2 nX (by simp)) v2.1⟩,λ_=>trivial⟩⟩
  rw[T6 (d:=(1,[CB P1,G1 K P2],2,1,BW K 2,[sW K],[nX,Ef K P1])) ahQ,hF];rfl
 refine⟨key,?_⟩;rcases h.aMf 1 hl (by show 2<=400;decide) (by show 4<=1000;decide) with⟨e,_,h1⟩ | ⟨n',a',s',bs',h1,_,h2,_⟩
 ·rw[key]at h1;cases h1
 ·rw[key]at h1;simp only[az,Sum.inr.injEq,cC]at h1;obtain⟨_,_,_,_,_,_,rfl,rfl,rfl,rfl⟩:=h1;exact h2
def WE(l:List dv):Nat->List dv
 | 0=>l
 |j+1=>WE l j++ [zL (((j+3:Nat):Int)+1) (rb (j+3) (WE l j)) [] 0]
theorem WH(l:List dv)(hl:l.length=3):∀j,(WE l j).length=j+3
 | 0=>by show l.length=0+3;omega
 |j+1=>by show(WE l j++ [_]).length=_;rw[ai,WH l hl j];show j+3+1=_;omega
theorem aqs{o:bu}(l:List dv):∀j,Di o (WE l j) 0=Di o l 0
 | 0=>rfl
 |j+1=>by
  show Di o (WE l j++ [_]) 0=_;rw[au1,aqs l j]
  all_goals cases Di o l 0 <;> rfl
theorem aRR{A0:At}{b n:Nat}{a:At}{s:List bY}{l:List dv}(hl:l.length=3)(h:uQ A0 b 3 n a s l):∀j,j<=100->uQ A0 b (j+3) n a s (WE l j)
 | 0,_=>by rw[aK];exact h
 |j+1,hj=>by have ih:=aRR hl h j ak;have et:(WE l j).take (j+3)=WE l j:=aX (by rw[WH l hl];exact ax _);have e:=aH1 (h:=((j+3:Nat):Int)+1) (p:=rb (j+3) (WE l j)) (fill:=0) (nb:=j+3) (S:=(n,a,s)) (bs:=WE l j) rfl rfl ak (A7 _ _) aHO;rw[et]at e;have:=aMq ih (aRQ (h:=((j+3:Nat):Int)+1) (p:=rb (j+3) (WE l j)) (fill:=0) ak (A7 _ _) aHO) ak e (ax _);rw[show j+3+1=j+1+3 by omega]at this;exact this
theorem aUz{A0:At}{b n:Nat}{a:At}{s:List bY}{l:List dv}(hl:l.length=3)(h:uQ A0 b 3 n a s l)(hb:b<=400){m:Wm}(hm:WG m)(j:Nat)(hj:j<=100):
  ez (N6 0 [] 0,j+3,n,a,s,WE l j,m)=some (.inl ([],j+1+3,n,a,s,WE l (j+1),m)):=by
 have ih:=aRR hl h j hj;have et:(WE l j).take (j+3)=WE l j:=aX (by rw[WH l hl];exact ax _);have e:=aH1 (h:=((j+3:Nat):Int)+1) (p:=rb (j+3) (WE l j)) (fill:=0) (nb:=j+3) (S:=(n,a,s)) (bs:=WE l j) rfl rfl ak (A7 _ _) aHO;rw[et]at e;rw[aMS ih aOv hb ak hm e,show j+3+1=j+1+3 by omega];rfl
theorem aQM{K:Int}(hk:KW K):Tr o0 [UW K]=some (UW K):=by rw[Tr,aRx hk,if_pos];show(Ty.beq aW o0 o0 || _)=true;rw[aOL];rfl
theorem aQN{K:Int}(hk:KW K):Tr o1 [UW K]=none:=by
 rw[Tr,aRx hk,if_neg]
 ·rfl
 ·intro h;have h:(aoT o1 o0 || false)=true:=h;rw[qJ]at h;exact aSW ((va _ _).1 h)
def G2(K:Int)(h:Int)(f:Bool):ja:=(true,(UW K,(nR (TW K),(h,(f,())))))
theorem abf{K:Int}(hk:KW K)(h:Int)(f:Bool):aoS (G2 K h f):=⟨(zW hk).2.1,λ_=>(zW hk).1⟩
theorem aEr{K:Int}(hk:KW K){l:List dv}{h H:Int}(hs:Di o0 l 0=some (UW K,h)):
  (H - h<=6->ma H l o0 td=(G2 K h false,[(1,(o0,(UW K,(h,()))))]))/\
  (∀h',h'≠h->H - h<=6->ma H l o0 (G2 K h' false)=(G2 K h false,[(2,(o0,(UW K,(h',())))),(1,(o0,(UW K,(h,()))))]))/\
  (6 < H - h->ma H l o0 (G2 K h false)=(G2 K h true,[(3,(o0,(UW K,(h,()))))])):=by
 have hr:qH o0 l=(UW K,h,true):=by unfold qH;rw[hs]
 have cT:=(zW hk).2.2.1;have e2:PK o0 (UW K) h true (nR (TW K)) td=(G2 K h false,[(1,(o0,(UW K,(h,()))))]):=if_pos rfl;have e3:∀x:ja,H - h<=6->acV o0 (UW K) h true H x=(x,[]):=λx hx=>if_neg (by rw[bO,cG ak];decide)
 refine⟨λhH=> ?_,λh' gj hH=> ?_,λhH=> ?_⟩
 ·have e1:GV o0 td h true (nR (TW K))=(td,[]):=if_neg (show ¬aeU td h true _=true from λh=>(by cases h));unfold ma;rw[if_neg (show ¬td.2.2.2.2.1=true from λh=>(by cases h)),hr];simp only[cT,e1,e2,e3 _ hH,bk,aS]
 ·have e1:GV o0 (G2 K h' false) h true (nR (TW K))=(td,[(2,(o0,(UW K,(h',()))))]):=if_pos (by
   unfold aeU;rw[show BT h (G2 K h' false).2.2.2.1=true from fe (λe:h=h'=>gj e.symm)];rfl)
  unfold ma;rw[if_neg (show ¬(G2 K h' false).2.2.2.2.1=true from λh=>(by cases h)),hr];simp only[cT,e1,e2,e3 _ hH,bk,iF,aS]
 ·have e1:GV o0 (G2 K h false) h true (nR (TW K))=(G2 K h false,[]):=if_neg (by
   unfold aeU;rw[show BT h (G2 K h false).2.2.2.1=false from dA rfl,show Ty.beq tH (nR (TW K)) (G2 K h false).2.2.1=true by rw[aPx];exact gv rfl];show ¬(false=true);decide)
  have e2:PK o0 (UW K) h true (nR (TW K)) (G2 K h false)=(G2 K h false,[]):=if_neg (λh=>(by cases h));have e3:acV o0 (UW K) h true H (G2 K h false)=(G2 K h true,[(3,(o0,(UW K,(h,()))))]):=if_pos (by rw[bO];exact di ak);unfold ma;rw[if_neg (show ¬(G2 K h false).2.2.2.2.1=true from λh=>(by cases h)),hr];simp only[cT,e1,e2,e3,aS]
theorem aKV{x:ja}(hx:aoS x)(h1:x.1=true):Ec.call (o0,zJ x)=some (zJ x,(x.2.1,(x.2.2.2.1,true))):=by
 have g0:nC o0 (zJ x)=x:=by unfold nC;rw[aRS];rfl
 rw[TK (d:=(o0,zJ x)) (by show qv (nC o0 (zJ x)).2.1;rw[g0];exact hx.1)];simp only[TJ,Rt,g0,h1,bH,SV hx.1 (hx.2 h1)]
theorem Yv(o:bu)(m:Wm):xM.call (o,m)=some (m,(nC o m).2.2.2.2.1):=ate (d:=(o,m)) trivial
theorem asA:ju.Ok:=by
 rintro⟨⟩ _;obtain⟨K,hK,hk,gj⟩:∃K:Int,(7:Int)=K/\KW K/\¬nR (TW K)=acs:=⟨7,rfl,⟨by decide,by decide⟩,aVs⟩;obtain⟨P1,hP⟩:∃x,apq nX=x:=⟨_,rfl⟩;obtain⟨P2,hQ⟩:∃x,apq (CB P1)=x:=⟨_,rfl⟩;have l1:P1.length=32:=by rw[<-hP];exact BA _
 have l2:P2.length=32:=by rw[<-hQ];exact BA _
 have c1:Gj.call 7=some (fS K):=by rw[hK];exact DM (d:=K) ⟨by have:=hk.1;omega,by have:=hk.2;omega⟩
 have c2:amk.call (fS K)=some (LW K 0 0):=aEk (d:=fS K) trivial;have c3:=aSV K aLI aLI;have c4:ad3.call ()=some []:=aoL (d:=()) trivial;have c5:uZ.call (TW K,0,0,[7],0)=some (UW K,0):=by rw[hK];exact aQK hk
 have c6:Ed.call (o1,[])=some [(o1,td)]:=J6 (d:=(o1,[])) trivial;have c7:Ed.call (o0,[(o1,td)])=some (zJ td):=by
  rw[J6 (d:=(o0,[(o1,td)])) trivial];have e1:cd aW o0 [(o1,td)]=none:=by rw[fD,if_neg (by rw[aOM];decide),sP]
  have e2:eL aW o0 td [(o1,td)]=zJ td:=by rw[sm,if_neg (by rw[aOM];decide)];rfl
  simp only[bn,W7,e1,e2];rfl
 have i0:uQ (AW K 0 0) 0 0 0 (AW K 0 0) [] []:=uQ.new (aTF K aLI aLI);have a1:lO (zL (((0:Nat):Int)+1) (rb 0 []) [] 0) 0 (0,AW K 0 0,[]) []=(0,1,0,AW K 0 0,[],[nX]):=aH1 (h:=1) (p:=acs) (fill:=0) (nb:=0) (S:=(0,AW K 0 0,[])) (bs:=[]) rfl rfl (by decide) cg aHO;have i1:=aMq i0 (aRQ (h:=1) (p:=acs) (fill:=0) (by decide) cg aHO) (by decide) a1 (ax 0);have a2:lO (zL (((1:Nat):Int)+1) (rb 1 [nX]) [UW K] 0) 1 (0,AW K 0 0,[]) [nX]=(0,2,1,BW K 2,[sW K],[nX,Ef K P1]):=by have:=aTE hk gj (h:=2) (p:=P1) (nb:=1) (n:=0) (s:=[]) (bs:=[nX]) hP.symm rfl (by decide) l1;rw[show rb 1 [nX]=P1 from hP];exact this
 have i2:=aMq i1 (c:=zL (((1:Nat):Int)+1) (rb 1 [nX]) [UW K] 0) (aUn hk (by decide) (A7 _ _) aHO) (by decide) a2 (show 0+1<=1 by decide);obtain⟨r3,i3⟩:=aS8 hk gj hP hQ i2;have l3:([nX,CB P1,G1 K P2]:List dv).length=3:=rfl;have aVv:Di o0 [nX,Ef K P1] 0=some (UW K,2):=by rw[Di,show Tr o0 nX.2.2.1=none from rfl,Di,show Tr o0 (Ef K P1).2.2.1=some (UW K) from aQM hk];rfl
 have aVx:Di o1 [nX,Ef K P1] 0=none:=by rw[Di,show Tr o1 nX.2.2.1=none from rfl,Di,show Tr o1 (Ef K P1).2.2.1=none from aQN hk];rfl
 have aUg:Di o0 [nX,CB P1,G1 K P2] 0=some (UW K,3):=by rw[Di,show Tr o0 nX.2.2.1=none from rfl,Di,show Tr o0 (CB P1).2.2.1=none from rfl,Di,show Tr o0 (G1 K P2).2.2.1=some (UW K) from aQM hk];rfl
 have aUh:Di o1 [nX,CB P1,G1 K P2] 0=none:=by rw[Di,show Tr o1 nX.2.2.1=none from rfl,Di,show Tr o1 (CB P1).2.2.1=none from rfl,Di,show Tr o1 (G1 K P2).2.2.1=none from aQN hk];rfl
 have d9:=alq i0 (by decide) (by decide) rfl acu;rw[show ma ((0:Nat):Int) (([]:List dv).take 0) o0 td=(td,[]) from amo rfl]at d9;have d10:=aMS i0 aOv (by decide) (by decide) (aPd acu) a1;have d11:=aMS i1 (aQS hk) (show 0+1<=400 by decide) (by decide) (aPd acu) a2;have d12:=alq i2 (by decide) (by decide) aVx acu;rw[(aEr hk (H:=((2:Nat):Int)) (l:=[nX,Ef K P1].take 2) aVv).1 (by decide)]at d12;have d13:=aKV (abf hk 2 false) rfl;have d14:ez (N6 3 [UW K] 1,2,1,BW K 2,[sW K],[nX,Ef K P1],zJ (G2 K 2 false))=some (.inr ([],3,1,BW K 2,[sW K],[nX,Ef K P1],zJ (G2 K 2 false),1,BW K 3,[sW K],[nX,CB P1,G1 K P2])):=by
  have e7:tv (N6 3 [UW K] 1)=3:=by show cF .and .i64 3 7=3;decide
  have eb:Ep (N6 3 [UW K] 1) 2 [nX,Ef K P1]=[CB P1,G1 K P2]:=by unfold Ep;rw[if_neg (by rw[e7];decide),if_pos ⟨by show(1:Int)<=1;decide,by show(1:Int)<=((2:Nat):Int);decide,by show(1:Int)<=8;decide⟩];show [zL 2 (rb 1 [nX,Ef K P1]) [] 0,zL 3 (apq (zL 2 (rb 1 [nX,Ef K P1]) [] 0)) [UW K] 0]=_;rw[show rb 1 [nX,Ef K P1]=P1 from hP,show apq (zL 2 P1 [] 0)=P2 from hQ];rfl
  have er:anz 1 [CB P1,G1 K P2] 2 1 (BW K 2) [sW K] [nX,Ef K P1]= .inr (0,3,1,BW K 2,[sW K],[nX,Ef K P1],1,BW K 3,[sW K],[nX,CB P1,G1 K P2]):=by unfold anz;rw[r3];rfl
  rw[MI (d:=(N6 3 [UW K] 1,2,1,BW K 2,[sW K],[nX,Ef K P1],zJ (G2 K 2 false))) ⟨⟨AW K 0 0,1,i2,by show 1+1<=400;decide⟩,by show 2<=900;decide,aQS hk,aPd (abf hk 2 false)⟩];simp only[Aq,e7,eb];rw[show(N6 3 [UW K] 1).2.2.1=1 from rfl,er];rfl
 have d15:=alq i3 (by decide) (by decide) aUh (abf hk 2 false);rw[(aEr hk (H:=((3:Nat):Int)) (l:=[nX,CB P1,G1 K P2].take 3) aUg).2.1 2 (by decide) (by decide)]at d15;have dg:=λj hj=>aUz l3 i3 (by decide) (aPd (abf hk 3 false)) j hj
 have i10:=aRR l3 i3 7 (by decide);have e10:(WE [nX,CB P1,G1 K P2] 7).take 10=WE [nX,CB P1,G1 K P2] 7:=aX (by rw[WH _ l3];decide);have aVw:Di o0 ((WE [nX,CB P1,G1 K P2] 7).take 10) 0=some (UW K,3):=by rw[e10,aqs];exact aUg
 have aUi:Di o1 ((WE [nX,CB P1,G1 K P2] 7).take 10) 0=none:=by rw[e10,aqs];exact aUh
 have d23:=alq i10 (by decide) (by decide) aUi (abf hk 3 false);rw[(aEr hk (H:=((7+3:Nat):Int)) (l:=(WE [nX,CB P1,G1 K P2] 7).take (7+3)) aVw).2.2 (by decide)]at d23;have d24:=alq i10 (by decide) (by decide) aUi (abf hk 3 true);rw[show ma ((7+3:Nat):Int) ((WE [nX,CB P1,G1 K P2] 7).take (7+3)) o0 (G2 K 3 true)=(G2 K 3 true,[]) from if_pos rfl]at d24;have dsame:LM.call (UW K,UW K)=some true:=(az5 (d:=(UW K,UW K)) (aGm (zW hk).1)).trans (bm some (gv rfl));have f0:xM.call (o0,zJ (G2 K 3 true))=some (zJ (G2 K 3 true),true):=by rw[Yv];unfold nC;rw[aRS];rfl
 have f1:xM.call (o1,zJ (G2 K 3 true))=some (zJ (G2 K 3 true),false):=by rw[Yv];unfold nC;rw[aTH];rfl
 have w1:wall.call (zJ (G2 K 3 true))=some (2,zJ (G2 K 3 true),[o0,o1]):=by rw[Q9 (d:=zJ (G2 K 3 true)) ⟨by show 2<=_;decide,λp hp=>((aPd (abf hk 3 true)).2.2 p hp).1⟩];simp only[bn,ajD,aQV];rfl
 have w2:LV.call (o0,zJ (G2 K 3 true))=some [(o1,td)]:=by
  rw[TF (d:=(o0,zJ (G2 K 3 true))) trivial];have:fT aW o0 (zJ (G2 K 3 true))=[(o1,td)]:=by unfold zJ;rw[vi,if_neg (by rw[aOM];decide),vi,if_pos aOL]
  simp only[bn,ajF,this]
 have w3:∃y,Ec.call (o0,[(o1,td)])=some ([(o1,td)],y)/\y.2.2=false:=by
  have e1:cd aW o0 [(o1,td)]=none:=by rw[fD,if_neg (by rw[aOM];decide),sP]
  have g0:nC o0 [(o1,td)]=td:=by unfold nC;rw[e1];rfl
  refine⟨_,TK (d:=(o0,[(o1,td)])) (by show qv (nC o0 [(o1,td)]).2.1;rw[g0];exact v0),?_⟩;simp only[Rt,g0];rfl
 obtain⟨y3,w3,y3f⟩:=w3;have w4:∃l,wall.call [(o1,td)]=some (1,[(o1,td)],l):=⟨_,Q9 (d:=[(o1,td)]) ⟨by show 1<=_;decide,λp hp=>by rw[bo.1 hp];exact ao0⟩⟩;obtain⟨l4,w4⟩:=w4;rw[asz];refine(bm (λz=>al z _) c1).trans ?_
 rw[ah];refine(bm (λz=>al z _) c2).trans ?_
 rw[ah];refine(bm (λz=>al z _) c3).trans ?_
 rw[ah];simp only[eh,ao,dy,ah];refine(bm (λz=>al z _) (c4)).trans ?_
 rw[ah];refine(bm (λz=>al z _) (c5)).trans ?_
 rw[ah];refine(bm (λz=>al z _) (c6)).trans ?_
 rw[ah];refine(bm (λz=>al z _) (c7)).trans ?_
 rw[ah];refine(bm (λz=>al (jx cR z) _) (d9)).trans ?_
 rw[og,ah];refine(bm (λz=>al (jx cR z) _) (d10)).trans ?_
 rw[og,ah];refine(bm (λz=>al (jx cR z) _) (d11)).trans ?_
 rw[og,ah];refine(bm (λz=>al (jx cR z) _) (d12)).trans ?_
 rw[og,ah];refine(bm (λz=>al z _) (d13)).trans ?_
 rw[ah];refine(bm (λz=>al (jx Sum.getRight? z) _) (d14)).trans ?_
 rw[aJo,ah];refine(bm (λz=>al (jx cR z) _) (d15)).trans ?_
 rw[og,ah];refine(bm (λz=>al (jx cR z) _) (dg 0 (by decide))).trans ?_
 rw[og,ah];refine(bm (λz=>al (jx cR z) _) (dg 1 (by decide))).trans ?_
 rw[og,ah];refine(bm (λz=>al (jx cR z) _) (dg 2 (by decide))).trans ?_
 rw[og,ah];refine(bm (λz=>al (jx cR z) _) (dg 3 (by decide))).trans ?_
 rw[og,ah];refine(bm (λz=>al (jx cR z) _) (dg 4 (by decide))).trans ?_
 rw[og,ah];refine(bm (λz=>al (jx cR z) _) (dg 5 (by decide))).trans ?_
 rw[og,ah];refine(bm (λz=>al (jx cR z) _) (dg 6 (by decide))).trans ?_
 rw[og,ah];refine(bm (λz=>al (jx cR z) _) (d23)).trans ?_
 rw[og,ah];refine(bm (λz=>al (jx cR z) _) (d24)).trans ?_
 rw[og,ah];have st:∀ {α:Type} {c:Bool} {x y z:Option α},c=true->x=z->aH c x y=z:=λh1 h2=>by rw[h1];exact h2
 have sf:∀ {α:Type} {c:Bool} {x y z:Option α},c=false->y=z->aH c x y=z:=λh1 h2=>by rw[h1];exact h2
 refine sf (dA rfl) (sf (dA rfl) (sf (dA rfl) (sf (dA rfl) (sf (dA rfl) ?_))));refine(bm (λz=>al z _) (?_:_=some (([(2,(o0,(UW K,(2,())))),(1,(o0,(UW K,(3,()))))],[(3,(o0,(UW K,(3,()))))],true,o0,zJ (G2 K 3 true)):pq))).trans ?_
 ·refine st rfl (st (dp rfl) (st rfl (st (dp rfl) (st rfl (st aOL (st rfl ?_))))));refine(bm (λz=>al z _) dsame).trans ?_
  rw[ah];refine st rfl (st rfl ?_);exact(Kj _).trans rfl
 rw[ah];refine(bm (λz=>al z _) (?_:_=some ((true,true,o0,zJ (G2 K 3 true)):pt))).trans ?_
 ·refine st rfl (st (dp rfl) (st rfl (st (dp rfl) (st rfl (st (dp rfl) (st rfl (st (dp rfl) (st rfl (st (dp rfl) (st rfl (st (dp rfl) ?_)))))))))));refine(bm (λz=>al z _) f0).trans ?_
  rw[ah];refine st rfl ?_
  refine(bm (λz=>al z _) f1).trans ?_
  rw[ah];exact(Kk _).trans rfl
 rw[ah];refine(bm (λz=>al z _) (w1)).trans ?_
 rw[ah];refine(bm (λz=>al z _) (w2)).trans ?_
 rw[ah];refine(bm (λz=>al z _) (w3)).trans ?_
 rw[ah];refine st rfl (st rfl (st (dp rfl) (st rfl (st rfl (st aOL (st (by show(!y3.2.2)=true;rw[y3f];rfl) ?_))))));refine(bm (λz=>al z _) (w4)).trans ?_
 rw[ah];exact bm (λz=>some (ju.out z)) (dp rfl)
theorem aoc:ju.RS:=rE [] ju
def asB:=ju.eP asA 1 ⟨.none bX,trivial⟩
end
section
def aOu(l:List Ww):At:=l.map λe=>(e.1,e.2.1)
def aOO(a b:bu):Bool:=decide (lx a.1 b.1 < 0\/lx a.1 b.1=0/\a.2.1 < b.2.1)
theorem aGR(l:List Ww):eD (aOu l)=l.map (·.1):=by unfold aOu eD;rw[List.map_map];rfl
def aUt(l:List Ww):Prop:=l.Pairwise λx y=>¬GS y.1 x.1 < 0
theorem aIt{a b:bu}(ha:Jo a)(hb:Jo b):aOO a b=decide (GS a b < 0):=by
 unfold aOO;rw[tM ha hb];unfold y8;rw[aih _ _ (ha.1.trans hb.1.symm)];unfold aQB;by_cases h:lx a.1 b.1=0
 ·rw[if_pos h];unfold akV;by_cases h2:a.2.1 < b.2.1
  ·rw[if_pos h2,aI (.inr ⟨h,h2⟩),aI (by decide)]
  ·rw[if_neg h2,aT ak];split
   ·rw[aT (by decide)]
   ·rw[aT (by decide)]
 ·rw[if_neg h];by_cases h2:lx a.1 b.1 < 0
  ·rw[aI (.inl h2),aI h2]
  ·rw[aT ak,aT h2]
structure Rl(a:At)(l:List Ww):Prop where
 CF:ajR a
 aVB:aUt l
 nd:(eD (aOu l)).Nodup
 eqv:sw (aOu l) a
section
variable {a:At} {l:List Ww}
theorem Rl.perm(h:Rl a l):(aOu l).Perm a:=h.eqv.perm h.nd h.CF.1
theorem Rl.aUw(h:Rl a l):ajR (aOu l):=h.CF.perm h.perm.symm
theorem Rl.q(h:Rl a l):∀e∈l,Jo e.1:=λe he=>(h.aUw.2 (e.1,e.2.1) (db.2 ⟨e,he,rfl⟩)).1
theorem Rl.len(h:Rl a l):l.length=a.length:=by have:=h.perm.length_eq;unfold aOu at this;rwa[bZ]at this
theorem Rl.all(h:Rl a l):l.map (·.1)=aRH a:=by
 have hq:∀x∈eD a,Jo x:=λx hx=>by obtain⟨p,hp,rfl⟩:=db.1 hx;exact(h.CF.2 p hp).1
 refine FC Af hq (λx hx y hy a b=>Ag (hq x hx) (hq y hy) a b) ⟨?_,?_⟩
 ·rw[<-aGR];exact h.perm.map _
 ·exact List.pairwise_map.2 h.aVB
end
abbrev D4:=bu×bu×Int
def vB:D4->AS:=λ(F3,gI,i)=>⟨([bB,bB,.dO aW F3,.dO aW gI,bB,.d ti i]++aQ 27 []),[],(ab 33 [])⟩
def Ce:Bool->Exit×AS:=λx=>(.ret,⟨(aQ 4 ([.d .bool x]++aQ 28 [])),[],(ab 33 [])⟩)
def Cf:(bu×bu)->Exit×AS:=λx=>(.exit 0,⟨([bB,bB,.dO aW x.1,.dO aW x.2]++aQ 29 []),[],(ab 33 [])⟩)
abbrev SS:=(Bool)⊕((bu×bu))
abbrev afF:=(Bool)⊕(Unit)
def Iy:SS->Out (Exit×AS):=λx=> .br x.isLeft (.get x.getLeft? λa=> .ok (Ce a)) (.get x.getRight? λb=> .ok (Cf b))
def mG:D4->afF->SS:=λ(F3,gI,i) y=>match y with | .inl y=> .inl y | .inr z=> .inr ((F3,gI))
def Cd:D4->Prop:=λ(a,b,i)=>a.1.length=32/\b.1.length=32/\∃k:Nat,k<=32/\i=k
def sT:D4->afF:=λ(a,b,i)=>if lx (a.1.drop i.toNat) (b.1.drop i.toNat)=0 then .inr () else .inl (decide (lx (a.1.drop i.toNat) (b.1.drop i.toNat) < 0))
def aFD:(bu×bu)->Prop:=λ(a,b)=>a.1.length=32/\b.1.length=32
def arX:(bu×bu)->Bool:=λ(a,b)=>aOO a b
def afD:=dC.fp vB Cd mG sT Iy
def Qd:D4->Option SS:=gS afD vB
def Wp:Fs Tryz.prog aFD bn arX:=eK 35 Tryz.f35 (λ(a,b)=>([.d aW a,.d aW b],[])) (λx=>⟨.d .bool x,[],[]⟩) [some aW,some aW] [] {loops:=nF [(2,{aV:=[2,3,5]})],outs:=nE [(2,{aV:=[2,3]},{aV:=[4]})],fw:=nr [(2,afD)]}
def afE:= @eG Tryz.prog (kj Wp.G) Wp.an 0 Tryz.f35 0 _ vB
abbrev aaD:=lz Tryz.prog (kj Wp.G) Wp.an 0 Tryz.f35 0 vB Cd mG sT Iy
theorem anv:jf Qd Cd mG sT:=nf (jM [.d aW,.d aW,.d ti] λ_=>bX)
theorem SU:om @afE vB Cd mG sT Iy aaD:=oE
theorem Fo{R:Type}(F3:bu)(gI:bu)(i:Int)(kn:AS->Option R)(kx:Exit->AS->Option R):afE (F3,gI,i) kn kx=aH ((fR i (32:Int))) (aH (eg i (32:Int)) (aH (eg i (32:Int)) (aH ((BT (nth tb F3.1 (ae i)) (nth tb gI.1 (ae i)))) (aH (eg i (32:Int)) (aH (eg i (32:Int)) (kx (Ce (fR (nth tb F3.1 (ae i)) (nth tb gI.1 (ae i)))).1 (Ce (fR (nth tb F3.1 (ae i)) (nth tb gI.1 (ae i)))).2) none) none) (kn (vB (F3,gI,(bI .i64 i (1:Int)))))) none) none) (kx (Cf (F3,gI)).1 (Cf (F3,gI)).2):=bX
theorem aKA{R:Type}(a b)(k:K1 R):Wp.A (a,b) k=al (Qd (a,b,0)) λx1=>aH (x1.isLeft) (al (x1.getLeft?) λa2=>k (Wp.out a2)) (al (x1.getRight?) λb3=>k (Wp.out (fR b3.1.2.1 b3.2.2.1))):=bX
theorem arY:aaD:=by
 refine SU (λ(_,_,i)=>(32 - i).toNat) ?_
 rintro⟨a,b,i⟩ ⟨ha,hb,k,hk,rfl⟩;have ha:a.1.length=32:=ha;have hb:b.1.length=32:=hb;by_cases gB:k < 32
 ·have n1:nth tb a.1 k=a.1[k]:=bW (t:=tb) ak;have n2:nth tb b.1 k=b.1[k]:=bW (t:=tb) ak;have hd:lx (a.1.drop k) (b.1.drop k)=if a.1[k]≠b.1[k] then(if a.1[k] < b.1[k] then -1 else 1) else lx (a.1.drop (k+1)) (b.1.drop (k+1)):=by rw[aq (show k < a.1.length by omega),aq (show k < b.1.length by omega),lx]
  by_cases h:a.1[k]=b.1[k]
  ·left;refine⟨(a,b,((k+1:Nat):Int)),⟨ha,hb,k+1,ak,rfl⟩,by show(32 - ((k+1:Nat):Int)).toNat < (32 - (k:Int)).toNat;omega,?_,λkn kx=> ?_⟩
   ·rw[if_neg (λe=>e h)]at hd;simp only[mG,sT,aa,hd]
   ·rw[Fo,aU ak,aj,bg ak ak,aj,aj,aa,n1,n2,dA h,ao,N.mu ak]
  ·right;rw[if_pos h]at hd;refine⟨Ce (decide (a.1[k] < b.1[k])),?_,λkn kx=> ?_⟩
   ·simp only[mG,sT,aa,hd];by_cases h2:a.1[k] < b.1[k]
    ·simp only[h2,bH];rfl
    ·simp only[h2,bq];rfl
   ·rw[Fo,aU ak,aj,bg ak ak,aj,aj,aa,n1,n2,fe h,aj,aj,aj];by_cases h2:a.1[k] < b.1[k]
    ·rw[aU h2,aI h2]
    ·rw[aP h2,aT h2]
 ·right;obtain rfl:k=32:=ak;refine⟨Cf (a,b),?_,λkn kx=> ?_⟩
  ·have e:lx (a.1.drop 32) (b.1.drop 32)=0:=by rw[dx ak,dx ak];rfl
   simp only[mG,sT,aa,e];rfl
  ·rw[Fo,aP ak,ao]
theorem aKB:Wp.Ok:=by
 rintro⟨a,b⟩ ⟨ha,hb⟩;rw[aKA,anv (d:=(a,b,0)) ⟨ha,hb,0,ak,rfl⟩];simp only[ah,mG,sT,aZ,aG,bn,arX,aOO];by_cases h:lx a.1 b.1=0
 ·simp only[h,bH,eh,ao,dy,ah];by_cases h2:a.2.1 < b.2.1
  ·rw[aU h2,aI (.inr ⟨by trivial,h2⟩)]
  ·rw[aP h2,aT (by rintro(h3 | h3);exact absurd h3 (by decide);exact h2 h3.2)]
 ·simp only[h,bq,ow,aj,lX,ah];by_cases h2:lx a.1 b.1 < 0
  ·rw[aI h2,aI (.inl h2)]
  ·rw[aT h2,aT (by rintro(h3 | h3);exact h2 h3;exact h3.1)]
theorem aFE:Wp.RS:=rE [.d aW,.d aW] Wp
def aKC:=Wp.eP aKB 1 ⟨.fp arY,trivial⟩
end
abbrev FP:=(List bu)×(List bu)×Bool×Int×(List (bu×ja))
abbrev Rb:=(List (bu×ja))
def uE:FP->Rb->(((List bu)×(List bu)×Bool)×((List (bu×ja)))):=λ(vT,ER,head,i,n20) y=>((vT,ER,head),y)
abbrev FQ:=(List bu)×(List bu)×Bool×Int×(List (bu×ja))
abbrev Rc:=(List (bu×ja))
def uF:FQ->Rc->(((List bu)×(List bu)×Bool)×((List (bu×ja)))):=λ(EB,vY,MT,gT,afl) y=>((EB,vY,MT),y)
abbrev uG:=(List bu)×(List bu)×Bool×Nat×Int×(List (bu×ja))×(List bu)
def nT:uG->AS:=λ(BF,BM,HE,lL,Ry,UQ,n57)=>⟨([.d (.slice aW) BF,.d (.slice aW) BM,bB,bB,bB,.d .bool HE,eI 20,bB,bB,.bz (.new 57 0) 1 [] 0 0 lL,.d ti Ry]++aQ 138 []),[],(bD 20 ([[.obj 0 false (.pr (.cq (.new 20 1) 0) fN),.obj 0 false (.mp aW jP UQ)]]++bD 36 ([[.obj 1 false (.vec 38 aW n57)]]++bD 91 [])))⟩
def Bf:Unit->Exit×AS:=λx=>(.ret,⟨(aQ 4 ([.d .bool false]++aQ 144 [])),[],(ab 149 [])⟩)
abbrev LR:=(List bu)×(List bu)×Bool×Nat×(List (bu×ja))×(List bu)
def uJ:LR->Exit×AS:=λx=>(.exit 4,⟨([.d (.slice aW) x.1,.d (.slice aW) x.2.1,bB,bB,bB,.d .bool x.2.2.1,eI 20,bB,bB,.bz (.new 57 0) 1 [] 0 0 x.2.2.2.1]++aQ 139 []),[],(bD 20 ([[.obj 0 false (.pr (.cq (.new 20 1) 0) fN),.obj 0 false (.mp aW jP x.2.2.2.2.1)]]++bD 36 ([[.obj 1 false (.vec 38 aW x.2.2.2.2.2)]]++bD 91 [])))⟩)
abbrev FR:=(Unit)⊕(LR)
abbrev Rg:=(Unit)⊕(Unit)
def Bg:FR->Out (Exit×AS):=λx=> .br x.isLeft (.get x.getLeft? λa=> .ok (Bf a)) (.get x.getRight? λb=> .ok (uJ b))
def pC:uG->Rg->FR:=λ(BF,BM,HE,lL,Ry,UQ,n57) y=>match y with | .inl y=> .inl y | .inr z=> .inr ((BF,BM,HE,lL,UQ,n57))
abbrev uK:=(List bu)×(List bu)×Bool×Nat×Int×(List (bu×ja))×(List bu)
def nU:uK->AS:=λ(BG,O8,MU,aqP,aO9,amD,ZH)=>⟨([.d (.slice aW) BG,.d (.slice aW) O8,bB,bB,bB,.d .bool MU,eI 20,bB,bB,.bz (.new 57 0) 1 [] 0 0 aqP,bB,.d ti aO9]++aQ 137 []),[],(bD 20 ([[.obj 0 false (.pr (.cq (.new 20 1) 0) fN),.obj 0 false (.mp aW jP amD)]]++bD 36 ([[.obj 1 false (.vec 38 aW ZH)]]++bD 91 [])))⟩
def kf:Unit->Exit×AS:=λx=>(.ret,⟨(aQ 4 ([.d .bool false]++aQ 144 [])),[],(ab 149 [])⟩)
abbrev LU:=(List bu)×Bool×Nat×(List bu)
def uN:LU->Exit×AS:=λx=>(.exit 6,⟨([.d (.slice aW) x.1]++aQ 4 ([.d .bool x.2.1,bB,bB,bB,.bz (.new 57 0) 1 [] 0 0 x.2.2.1]++aQ 139 [])),[],(bD 57 ([[.obj 1 false (.vec 38 aW x.2.2.2)]]++bD 91 []))⟩)
abbrev FT:=(Unit)⊕(LU)
abbrev Rj:=(Unit)⊕(((List bu)×Bool×Nat×(List bu)))
def Bh:FT->Out (Exit×AS):=λx=> .br x.isLeft (.get x.getLeft? λa=> .ok (kf a)) (.get x.getRight? λb=> .ok (uN b))
def pD:uK->Rj->FT:=λ(BG,O8,MU,aqP,aO9,amD,ZH) y=>match y with | .inl y=> .inl y | .inr z=> .inr (z)
abbrev FU:=(List bu)×(List bu)×Bool×Nat×Int×Bool×Int×(List (bu×ja))×(List bu)
def uO:FU->Bool->(((List bu)×(List bu)×Bool×Nat×Int×(List (bu×ja))×(List bu))×(Bool)):=λ(vU,tR,HF,amf,aHV,dropped,kv,UR,UZ) y=>((vU,tR,HF,amf,aHV,UR,UZ),y)
abbrev FV:=(List bu)×(List bu)×Bool×Nat×Int×Bool×Bool×Int×(List (bu×ja))×(List bu)
def uP:FV->Bool->(((List bu)×(List bu)×Bool×Nat×Int×Bool×(List (bu×ja))×(List bu))×(Bool)):=λ(vV,BN,HG,acQ,aHW,sF,there,V1,US,Lc) y=>((vV,BN,HG,acQ,aHW,sF,US,Lc),y)
abbrev agf:=(List bu)×(List bu)
def ab8:FP->Prop:=λ(coins,dz,axf,i,m)=>(coins).length<=1000000000/\∃k:Nat,k<=(coins).length/\i=k
def zA:FP->Rb:=λ(coins,dz,axf,i,m)=>(bS (ae i) coins).foldl (λm o=>Ra o m) m
def aca:FQ->Prop:=λ(coins,dz,axf,i,m)=>(dz).length<=1000000000/\∃k:Nat,k<=(dz).length/\i=k
def zB:FQ->Rc:=λ(coins,dz,axf,i,m)=>(bS (ae i) dz).foldl (λm o=>fT aW o m) m
def Kd(o:bu)(l:List bu):Bool:=l.any λx=>Ty.beq aW x o
theorem YG{o:bu}{l:List bu}:Kd o l=true↔o∈l:=by unfold Kd;rw[pJ];exact⟨λ⟨x,hx,h⟩=>by rw[<-(va _ _).1 h];exact hx,λh=>⟨o,h,(va _ _).2 rfl⟩⟩
def acf:FU->Prop:=λ(coins,dz,_,_,i,_,j,_,_)=>(0<=i/\i < (coins.length:Int))/\coins.length<=40/\dz.length<=40/\∃k:Nat,k<=dz.length/\j=k
def zC:FU->Bool:=λ(coins,dz,_,_,i,d,j,_,_)=>d || Kd (nth aW coins i.toNat) (dz.drop j.toNat)
def ach:FV->Prop:=λ(coins,_,_,lL,i,_,_,j,_,l)=>(0<=i/\i < (coins.length:Int))/\coins.length<=40/\lL=l.length/\l.length<=1000/\∃k:Nat,k<=l.length/\j=k
def zD:FV->Bool:=λ(coins,_,_,_,i,_,t,j,_,l)=>t || Kd (nth aW coins i.toNat) (l.drop j.toNat)
def uI:uG->Prop:=λ(_,_,_,lL,i,_,l)=>lL=l.length/\l.length<=1000/\(∀x∈l,Jo x)/\(l.Pairwise λx y=>aOO x y=true)/\1<=i/\i<=1001
def uH:uG->Rg:=λ_=> .inr ()
def uM:uK->Prop:=λ(coins,dz,_,lL,i,m,l)=>coins.length<=40/\dz.length<=40/\lL=l.length/\l.length<=1000/\(∀o∈coins,Kd o l= !(Kd o dz)/\nC o m=td)/\∃k:Nat,k<=coins.length/\i=k
def uL:uK->Rj:=λ(coins,_,hd,lL,_,_,l)=> .inr (coins,hd,lL,l)
def aoH:agf->Prop:=λ(coins,dz)=>∀o∈coins,Jo o
def aAe:agf->Bool:=λ_=>true
def np:Ls ab8 uE zA:=qz (λ(vT,ER,head,i,n20)=>⟨([.d (.slice aW) vT,.d (.slice aW) ER,bB,bB,bB,.d .bool head,eI 20,.d ti i]++aQ 141 []),[],(bD 20 ([[.obj 0 false (.pr (.cq (.new 20 1) 0) fN),.obj 0 false (.mp aW jP n20)]]++bD 128 []))⟩) (λx=>(.exit 0,⟨([.d (.slice aW) x.1.1,.d (.slice aW) x.1.2.1,bB,bB,bB,.d .bool x.1.2.2,eI 20]++aQ 142 []),[],(bD 20 ([[.obj 0 false (.pr (.cq (.new 20 1) 0) fN),.obj 0 false (.mp aW jP x.2)]]++bD 128 []))⟩))
def nq:Ls aca uF zB:=qz (λ(EB,vY,MT,gT,afl)=>⟨([.d (.slice aW) EB,.d (.slice aW) vY,bB,bB,bB,.d .bool MT,eI 20,bB,.d ti gT]++aQ 140 []),[],(bD 20 ([[.obj 0 false (.pr (.cq (.new 20 1) 0) fN),.obj 0 false (.mp aW jP afl)]]++bD 128 []))⟩) (λx=>(.exit 2,⟨([.d (.slice aW) x.1.1,.d (.slice aW) x.1.2.1,bB,bB,bB,.d .bool x.1.2.2,eI 20]++aQ 142 []),[],(bD 20 ([[.obj 0 false (.pr (.cq (.new 20 1) 0) fN),.obj 0 false (.mp aW jP x.2)]]++bD 128 []))⟩))
def Re:=dC.fp nT uI pC uH Bg
def GH:uG->Option FR:=gS Re nT
def Rh:=dC.fp nU uM pD uL Bh
def GJ:uK->Option FT:=gS Rh nU
def lK:Ls acf uO zC:=qz (λ(vU,tR,HF,amf,aHV,dropped,kv,UR,UZ)=>⟨([.d (.slice aW) vU,.d (.slice aW) tR,bB,bB,bB,.d .bool HF,eI 20,bB,bB,.bz (.new 57 0) 1 [] 0 0 amf,bB,.d ti aHV,.d .bool dropped,.d ti kv]++aQ 135 []),[],(bD 20 ([[.obj 0 false (.pr (.cq (.new 20 1) 0) fN),.obj 0 false (.mp aW jP UR)]]++bD 36 ([[.obj 1 false (.vec 38 aW UZ)]]++bD 91 [])))⟩) (λx=>(.exit 8,⟨([.d (.slice aW) x.1.1,.d (.slice aW) x.1.2.1,bB,bB,bB,.d .bool x.1.2.2.1,eI 20,bB,bB,.bz (.new 57 0) 1 [] 0 0 x.1.2.2.2.1,bB,.d ti x.1.2.2.2.2.1,.d .bool x.2]++aQ 136 []),[],(bD 20 ([[.obj 0 false (.pr (.cq (.new 20 1) 0) fN),.obj 0 false (.mp aW jP x.1.2.2.2.2.2.1)]]++bD 36 ([[.obj 1 false (.vec 38 aW x.1.2.2.2.2.2.2)]]++bD 91 [])))⟩))
def lM:Ls ach uP zD:=qz (λ(vV,BN,HG,acQ,aHW,sF,there,V1,US,Lc)=>⟨([.d (.slice aW) vV,.d (.slice aW) BN,bB,bB,bB,.d .bool HG,eI 20,bB,bB,.bz (.new 57 0) 1 [] 0 0 acQ,bB,.d ti aHW,.d .bool sF,bB,.d .bool there,.d ti V1]++aQ 133 []),[],(bD 20 ([[.obj 0 false (.pr (.cq (.new 20 1) 0) fN),.obj 0 false (.mp aW jP US)]]++bD 36 ([[.obj 1 false (.vec 38 aW Lc)]]++bD 91 [])))⟩) (λx=>(.exit 10,⟨([.d (.slice aW) x.1.1,.d (.slice aW) x.1.2.1,bB,bB,bB,.d .bool x.1.2.2.1,eI 20,bB,bB,.bz (.new 57 0) 1 [] 0 0 x.1.2.2.2.1,bB,.d ti x.1.2.2.2.2.1,.d .bool x.1.2.2.2.2.2.1,bB,.d .bool x.2]++aQ 134 []),[],(bD 20 ([[.obj 0 false (.pr (.cq (.new 20 1) 0) fN),.obj 0 false (.mp aW jP x.1.2.2.2.2.2.2.1)]]++bD 36 ([[.obj 1 false (.vec 38 aW x.1.2.2.2.2.2.2.2)]]++bD 91 [])))⟩))
def fm:Fs Tryz.prog aoH bn aAe:=eK 7 Tryz.f7 (λ(coins,dz)=>([.d (.slice aW) coins,.d (.slice aW) dz],[])) (λx=>⟨.d .bool x,[],[]⟩) [some (.slice aW),some (.slice aW)] [asB,avg,acp,acj,ajE,aKC,aoN,agi] {loops:=nF [(8,{aV:=[0,1,5,6,7],sites:=[20]}),(12,{aV:=[0,1,5,6,8],sites:=[20]}),(17,{aV:=[0,1,5,6,9,10],sites:=[20,57]}),(22,{aV:=[0,1,5,6,9,11],sites:=[20,57]}),(26,{aV:=[0,1,5,6,9,11,12,13],sites:=[20,57]}),(31,{aV:=[0,1,5,6,9,11,12,14,15],sites:=[20,57]})],outs:=nE [(8,{aV:=[0,1,5,6],sites:=[20]},{aV:=[4]}),(12,{aV:=[0,1,5,6],sites:=[20]},{aV:=[4]}),(17,{aV:=[0,1,5,6,9],sites:=[20,57]},{aV:=[4]}),(22,{aV:=[0,5,9],sites:=[57]},{aV:=[4]}),(26,{aV:=[0,1,5,6,9,11,12],sites:=[20,57]},{aV:=[4]}),(31,{aV:=[0,1,5,6,9,11,12,14],sites:=[20,57]},{aV:=[4]})],fw:=nr [(8,np.E),(12,nq.E),(17,Re),(22,Rh),(26,lK.E),(31,lM.E)]}
def Rf:= @eG Tryz.prog (kj fm.G) fm.an 0 Tryz.f7 2 _ nT
abbrev LQ:=lz Tryz.prog (kj fm.G) fm.an 0 Tryz.f7 2 nT uI pC uH Bg
def Ri:= @eG Tryz.prog (kj fm.G) fm.an 0 Tryz.f7 3 _ nU
abbrev LS:=lz Tryz.prog (kj fm.G) fm.an 0 Tryz.f7 3 nU uM pD uL Bh
theorem ab9:np.RS:=rL [.d (.slice aW),.d (.slice aW),.d .bool,.d ti,.d (.slice (.pair aW jP))] np
theorem GF{R:Type}(vT ER head i n20)(kn:K2 R)(kx:K3 R):fm.R 0 np (vT,ER,head,i,n20) kn kx=aH ((fR i (vT.length:Int))) (aH (eg i (vT.length:Int)) (al (Ed.call ((nth aW vT (ae i)),n20)) λx4=>kn (np.st (vT,ER,head,(bI .i64 i 1),x4))) none) (np.go kx ((vT,ER,head),n20)):=bX
theorem acb:nq.RS:=rL [.d (.slice aW),.d (.slice aW),.d .bool,.d ti,.d (.slice (.pair aW jP))] nq
theorem GG{R:Type}(EB vY MT gT afl)(kn:K2 R)(kx:K3 R):fm.R 1 nq (EB,vY,MT,gT,afl) kn kx=aH ((fR gT (vY.length:Int))) (aH (eg gT (vY.length:Int)) (al (LV.call ((nth aW vY (ae gT)),afl)) λx4=>kn (nq.st (EB,vY,MT,(bI .i64 gT 1),x4))) none) (nq.go kx ((EB,vY,MT),afl)):=bX
theorem acd:jf GH uI pC uH:=nf (jM [.d (.slice aW),.d (.slice aW),.d .bool,.n,.d ti,.d (.slice (.pair aW jP)),.d (.slice aW)] λ_=>bX)
theorem Kl:om @Rf nT uI pC uH Bg LQ:=oE
theorem GI{R:Type}(BF:(List bu))(BM:(List bu))(HE:Bool)(lL:Nat)(Ry:Int)(UQ:(List (bu×ja)))(n57:(List bu))(kn:AS->Option R)(kx:Exit->AS->Option R):Rf (BF,BM,HE,lL,Ry,UQ,n57) kn kx=aH ((fR Ry ((lL:Nat):Int))) (aH (eg (cK .i64 Ry (1:Int)) ((lL:Nat):Int)) (aH (decide ((0+(ae (cK .i64 Ry (1:Int)))) < (ag n57))) (aH (decide ((((0+(ae (cK .i64 Ry (1:Int))))*33)+0)=(0+((ae (cK .i64 Ry (1:Int)))*33)))) (aH (eg Ry ((lL:Nat):Int)) (aH (decide ((0+(ae Ry)) < (ag n57))) (aH (decide ((((0+(ae Ry))*33)+0)=(0+((ae Ry)*33)))) (al (Wp.call ((nth aW n57 (0+(ae (cK .i64 Ry (1:Int))))),(nth aW n57 (0+(ae Ry))))) λx8=>aH ((!x8)) (kx (Bf ()).1 (Bf ()).2) (kn (nT (BF,BM,HE,lL,(bI .i64 Ry (1:Int)),UQ,n57)))) none) none) none) none) none) none) (kx (uJ (BF,BM,HE,lL,UQ,n57)).1 (uJ (BF,BM,HE,lL,UQ,n57)).2):=bX
theorem ace:jf GJ uM pD uL:=nf (jM [.d (.slice aW),.d (.slice aW),.d .bool,.n,.d ti,.d (.slice (.pair aW jP)),.d (.slice aW)] λ_=>bX)
theorem Km:om @Ri nU uM pD uL Bh LS:=oE
theorem GK{R:Type}(BG:(List bu))(O8:(List bu))(MU:Bool)(aqP:Nat)(aO9:Int)(amD:(List (bu×ja)))(ZH:(List bu))(kn:AS->Option R)(kx:Exit->AS->Option R):Ri (BG,O8,MU,aqP,aO9,amD,ZH) kn kx=aH ((fR aO9 (((ag BG):Nat):Int))) (al (lK.call (BG,O8,MU,aqP,aO9,false,(0:Int),amD,ZH)) λaAv=>al (lM.call (aAv.1.1,aAv.1.2.1,aAv.1.2.2.1,aAv.1.2.2.2.1,aAv.1.2.2.2.2.1,aAv.2,false,(0:Int),aAv.1.2.2.2.2.2.1,aAv.1.2.2.2.2.2.2)) λFZ=>aH (eg FZ.1.2.2.2.2.1 (((ag FZ.1.1):Nat):Int)) (al (Ec.call ((nth aW FZ.1.1 (ae FZ.1.2.2.2.2.1)),FZ.1.2.2.2.2.2.2.1)) λvK=>aH ((Ty.beq .bool FZ.2 FZ.1.2.2.2.2.2.1)) (kx (kf ()).1 (kf ()).2) (aH (vK.2.2.2) (kx (kf ()).1 (kf ()).2) (aH (eg FZ.1.2.2.2.2.1 (((ag FZ.1.1):Nat):Int)) (al (xM.call ((nth aW FZ.1.1 (ae FZ.1.2.2.2.2.1)),vK.1)) λNX=>aH (NX.2) (kx (kf ()).1 (kf ()).2) (kn (nU (FZ.1.1,FZ.1.2.1,FZ.1.2.2.1,FZ.1.2.2.2.1,(bI .i64 FZ.1.2.2.2.2.1 (1:Int)),NX.1,FZ.1.2.2.2.2.2.2.2)))) none))) none) (kx (uN (BG,MU,aqP,ZH)).1 (uN (BG,MU,aqP,ZH)).2):=bX
theorem acg:lK.RS:=rL [.d (.slice aW),.d (.slice aW),.d .bool,.n,.d ti,.d .bool,.d ti,.d (.slice (.pair aW jP)),.d (.slice aW)] lK
theorem GL{R:Type}(vU tR HF amf aHV dropped kv UR UZ)(kn:K2 R)(kx:K3 R):fm.R 4 lK (vU,tR,HF,amf,aHV,dropped,kv,UR,UZ) kn kx=aH ((fR kv (tR.length:Int))) (aH (dropped) (kn (lK.st (vU,tR,HF,amf,aHV,true,(bI .i64 kv 1),UR,UZ))) (aH (eg kv (tR.length:Int)) (aH (eg aHV (vU.length:Int)) (kn (lK.st (vU,tR,HF,amf,aHV,(Ty.beq aW (nth aW tR (ae kv)) (nth aW vU (ae aHV))),(bI .i64 kv 1),UR,UZ))) none) none)) (lK.go kx ((vU,tR,HF,amf,aHV,UR,UZ),dropped)):=bX
theorem aci:lM.RS:=rL [.d (.slice aW),.d (.slice aW),.d .bool,.n,.d ti,.d .bool,.d .bool,.d ti,.d (.slice (.pair aW jP)),.d (.slice aW)] lM
theorem GM{R:Type}(vV BN HG acQ aHW sF there V1 US Lc)(kn:K2 R)(kx:K3 R):fm.R 5 lM (vV,BN,HG,acQ,aHW,sF,there,V1,US,Lc) kn kx=aH ((fR V1 ((acQ:Nat):Int))) (aH (there) (kn (lM.st (vV,BN,HG,acQ,aHW,sF,true,(bI .i64 V1 1),US,Lc))) (aH (eg V1 ((acQ:Nat):Int)) (aH (decide ((0+(ae V1)) < (ag Lc))) (aH (decide ((((0+(ae V1))*33)+0)=(0+((ae V1)*33)))) (aH (eg aHW (vV.length:Int)) (kn (lM.st (vV,BN,HG,acQ,aHW,sF,(Ty.beq aW (nth aW Lc (0+(ae V1))) (nth aW vV (ae aHW))),(bI .i64 V1 1),US,Lc))) none) none) none) none)) (lM.go kx ((vV,BN,HG,acQ,aHW,sF,US,Lc),there)):=bX
theorem as9{R:Type}(coins dz)(k:K1 R):fm.A (coins,dz) k=al (ju.call ()) λx4=>al (ad3.call ()) λx8=>aH ((w7 (coins.length:Int) 40)) (k (fm.out x4)) (aH ((w7 (dz.length:Int) 40)) (k (fm.out x4)) (al (np.call (coins,dz,x4,0,x8)) λaAv=>al (nq.call (aAv.1.1,aAv.1.2.1,aAv.1.2.2,0,aAv.2)) λvK=>al (wall.call vK.2) λNX=>al (GH (vK.1.1,vK.1.2.1,vK.1.2.2,NX.1,1,NX.2.1,NX.2.2)) λaMj=>aH (aMj.isLeft) (al (aMj.getLeft?) λa37=>k (fm.out false)) (al (aMj.getRight?) λb38=>al (GJ (b38.1,b38.2.1,b38.2.2.1,b38.2.2.2.1,0,b38.2.2.2.2.1,b38.2.2.2.2.2)) λDj=>aH (Dj.isLeft) (al (Dj.getLeft?) λa67=>k (fm.out false)) (al (Dj.getRight?) λb68=>aH (b68.2.1) (k (fm.out (ajU ((b68.2.2.1:Nat):Int) (b68.1.length:Int)))) (k (fm.out false)))))):=bX
theorem adW:(fm.jR 0 np):=by
 refine(fm.lp 0 np) (λ(coins,dz,axf,i,m)=>(coins).length - ae i) ?_
 rintro⟨coins,dz,axf,i,m⟩ ⟨hlen,k,hk,rfl⟩;have hlen:(coins).length<=1000000000:=hlen;have hk:k<=(coins).length:=hk;by_cases h:k < (coins).length
 ·left;have n1:nth aW coins k=coins[k]:=bW (t:=aW) h;have hd:bS k coins=coins[k]::bS (k+1) coins:=aq h;refine⟨(coins,dz,axf,((k+1:Nat):Int),((λm o=>Ra o m) m coins[k])),⟨hlen,k+1,ak,rfl⟩,by simp only[aa];omega,?_,λkn kx=> ?_⟩
  ·simp only[uE,zA,aa,hd,bp]
  ·rw[GF,aU ak,bg ak ak,aa,n1];simp only[aj];rw[J6 (d:=(coins[k],m)) trivial];simp only[ah,bn,W7];rw[N.mu ak];rfl
 ·right;obtain rfl:k=(coins).length:=ak;intro R kn kx;rw[GF,aP ak,ao];simp only[uE,zA,aa,aL,cO]
theorem adX:(fm.jR 1 nq):=by
 refine(fm.lp 1 nq) (λ(coins,dz,axf,i,m)=>(dz).length - ae i) ?_
 rintro⟨coins,dz,axf,i,m⟩ ⟨hlen,k,hk,rfl⟩;have hlen:(dz).length<=1000000000:=hlen;have hk:k<=(dz).length:=hk;by_cases h:k < (dz).length
 ·left;have n1:nth aW dz k=dz[k]:=bW (t:=aW) h;have hd:bS k dz=dz[k]::bS (k+1) dz:=aq h;refine⟨(coins,dz,axf,((k+1:Nat):Int),((λm o=>fT aW o m) m dz[k])),⟨hlen,k+1,ak,rfl⟩,by simp only[aa];omega,?_,λkn kx=> ?_⟩
  ·simp only[uF,zB,aa,hd,bp]
  ·rw[GG,aU ak,bg ak ak,aa,n1];simp only[aj];rw[TF (d:=(dz[k],m)) trivial];simp only[ah,bn,ajF];rw[N.mu ak]
 ·right;obtain rfl:k=(dz).length:=ak;intro R kn kx;rw[GG,aP ak,ao];simp only[uF,zB,aa,aL,cO]
theorem ad1:(fm.jR 4 lK):=by
 refine(fm.lp 4 lK) (λ(_,dz,_,_,_,_,j,_)=>dz.length - j.toNat) ?_
 rintro⟨coins,dz,hd,lL,i,d,j,m,l⟩ ⟨hi,hc,axe,k,hk,rfl⟩;have aDx:0<=i:=hi.1;have aHQ:i < (coins.length:Int):=hi.2;have hc:coins.length<=40:=hc;have axe:dz.length<=40:=axe;have hk:k<=dz.length:=hk;by_cases h:k < dz.length
 ·left;have n1:nth aW dz k=dz[k]:=bW (t:=aW) h;have axf:dz.drop k=dz[k]::dz.drop (k+1):=aq h;refine⟨(coins,dz,hd,lL,i,d || Ty.beq aW dz[k] (nth aW coins i.toNat),((k+1:Nat):Int),m,l),⟨hi,hc,axe,k+1,h,rfl⟩,by simp only[aa];omega,?_,λkn kx=> ?_⟩
  ·simp only[uO,zC,aa,axf,Kd,lv,Bool.or_assoc]
  ·rw[GL,aU ak,aj,N.mu ak];cases d with
   |true=>rfl
   |false=>rw[ao,bg ak ak,aj,bg ak ak,aj,aa,n1,lu]
 ·right;obtain rfl:k=dz.length:=ak;intro R kn kx;rw[GL,aP ak,ao];simp only[uO,zC,aa,aL,Kd,tn,qJ]
theorem ad2:(fm.jR 5 lM):=by
 refine(fm.lp 5 lM) (λ(_,_,_,_,_,_,_,j,_,l)=>l.length - j.toNat) ?_
 rintro⟨coins,dz,hd,lL,i,d,t,j,m,l⟩ ⟨hi,hc,rfl,hl,k,hk,rfl⟩;have aDx:0<=i:=hi.1;have aHQ:i < (coins.length:Int):=hi.2;have hc:coins.length<=40:=hc;have hl:l.length<=1000:=hl;have hk:k<=l.length:=hk;by_cases h:k < l.length
 ·left;have n1:nth aW l k=l[k]:=bW (t:=aW) h;have axf:l.drop k=l[k]::l.drop (k+1):=aq h;refine⟨(coins,dz,hd,l.length,i,d,t || Ty.beq aW l[k] (nth aW coins i.toNat),((k+1:Nat):Int),m,l),⟨hi,hc,rfl,hl,k+1,h,rfl⟩,by simp only[aa];omega,?_,λkn kx=> ?_⟩
  ·simp only[uP,zD,aa,axf,Kd,lv,Bool.or_assoc]
  ·rw[GM,aU ak,aj,N.mu ak];cases t with
   |true=>rfl
   |false=>rw[ao,bg ak ak,aj,aa,aK,aI h,aj,aI ak,aj,bg ak ak,aj,n1,lu]
 ·right;obtain rfl:k=l.length:=ak;intro R kn kx;rw[GM,aP ak,ao];simp only[uP,zD,aa,aL,Kd,tn,qJ]
theorem aKr{α:Type}{R:α->α->Prop}{l:List α}(h:l.Pairwise R){i j:Nat}(hi:i < j)(hj:j < l.length):R (l[i]'(ak)) l[j]:=List.pairwise_iff_getElem.1 h i j _ hj hi
theorem adY:LQ:=by
 refine Kl (λ(_,_,_,_,i,_,l)=>l.length+1 - i.toNat) ?_
 rintro⟨coins,dz,hd,lL,i,m,l⟩ ⟨rfl,hl,hq,hp,h1,h2⟩;have hl:l.length<=1000:=hl;have h1:1<=i:=h1;have h2:i<=1001:=h2;obtain⟨k,rfl⟩:∃k:Nat,i=(k:Int)+1:=⟨(i - 1).toNat,ak⟩;by_cases h:k+1 < l.length
 ·left;have n1:nth aW l k=l[k]:=bW (t:=aW) ak;have n2:nth aW l (k+1)=l[k+1]:=bW (t:=aW) h;have e1:cK .i64 ((k:Int)+1) 1=(k:Int):=by rw[eC ak ak];omega
  have e2:((k:Int)+1).toNat=k+1:=ak;refine⟨(coins,dz,hd,l.length,(k:Int)+1+1,m,l),⟨rfl,hl,hq,hp,ak,ak⟩,by simp only[e2];omega,rfl,λkn kx=> ?_⟩;rw[GI,aU ak,aj,e1,bg ak ak,aj,aa,aK,aI ak,aj,aI ak,aj,bg ak ak,aj,e2,aK,aI h,aj,aI ak,aj,n1,n2];rw[aFE (d:=(l[k],l[k+1])) ⟨(hq _ (aN _)).1,(hq _ (aN _)).1⟩];simp only[ah,bn,arX,aKr hp (Nat.lt_succ_self k) h,cz,ao];rw[fG ak ak]
 ·right;refine⟨uJ (coins,dz,hd,l.length,m,l),rfl,λkn kx=> ?_⟩;rw[GI,aP ak,ao]
theorem aKU{o:bu}{m:Wm}(h:nC o m=td):Ec.call (o,m)=some (m,(td.2.1,(0,false))):=by rw[TK (d:=(o,m)) (by show qv (nC o m).2.1;rw[h];exact v0)];simp only[Rt,h];rfl
theorem adZ:LS:=by
 refine Km (λ(coins,_,_,_,i,_)=>coins.length - i.toNat) ?_
 rintro⟨coins,dz,hd,lL,i,m,l⟩ ⟨hc,axe,rfl,hl,ho,k,hk,rfl⟩;have hc:coins.length<=40:=hc;have hl:l.length<=1000:=hl;have hk:k<=coins.length:=hk;by_cases h:k < coins.length
 ·left;have n1:nth aW coins k=coins[k]:=bW (t:=aW) h;obtain⟨o1,o2⟩:=ho _ (aN h);refine⟨(coins,dz,hd,l.length,((k+1:Nat):Int),m,l),⟨hc,axe,rfl,hl,ho,k+1,h,rfl⟩,by simp only[aa];omega,rfl,λkn kx=> ?_⟩;rw[GK,aU ak,aj,acg (d:=(coins,dz,hd,l.length,(k:Int),false,0,m,l)) ⟨⟨ak,ak⟩,hc,axe,0,aM _,rfl⟩];simp only[ah,uO,zC];rw[aci (d:=(coins,dz,hd,l.length,(k:Int),_,false,0,m,l)) ⟨⟨ak,ak⟩,hc,rfl,hl,0,aM _,rfl⟩];simp only[ah,uP,zD,aZ,aG,lu,aa,n1];rw[bg ak ak,aj,aKU o2];simp only[ah];rw[o1,show Ty.beq .bool (!(Kd coins[k] dz)) (Kd coins[k] dz)=false by cases Kd coins[k] dz <;> rfl];simp only[ao,Yv,ah,o2];rw[aj,show td.2.2.2.2.1=false from rfl,ao,N.mu ak]
 ·right;obtain rfl:k=coins.length:=ak;refine⟨uN (coins,hd,l.length,l),rfl,λkn kx=> ?_⟩;rw[GK,aP ak,ao]
structure MZ(m:Wm)(f:bu->Prop):Prop where
 amI:(m.map (·.1)).Nodup
 get:∀o,(f o/\cd aW o m=some td)\/(¬f o/\cd aW o m=none)
 ao0:∀p∈m,Jo p.1
theorem MZ.want{m:Wm}{f:bu->Prop}(h:MZ m f){o:bu}(ho:Jo o):MZ (Ra o m) (λx=>x=o\/f x)/\(Ra o m).length<=m.length+1:=by
 unfold Ra;rcases h.get o with⟨h1,h2⟩ | ⟨h1,h2⟩
 ·rw[h2];refine⟨⟨h.amI,λx=> ?_,h.ao0⟩,ou _⟩;rcases h.get x with⟨h3,h4⟩ | ⟨h3,h4⟩
  ·exact .inl ⟨.inr h3,h4⟩
  ·refine .inr ⟨λe=> ?_,h4⟩;rcases e with rfl | e
   ·exact h3 h1
   ·exact h3 e
 ·rw[h2];refine⟨⟨HZ gb h.amI,λx=> ?_,λp hp=> ?_⟩,?_⟩
  ·have hg:cd aW x (eL aW o td m)=_:=JG gb x o td m;show(_/\cd aW x (eL aW o td m)=some td)\/_/\cd aW x (eL aW o td m)=none;rw[hg];by_cases e:x=o
   ·rw[if_pos ((va _ _).2 e)];exact .inl ⟨.inl e,rfl⟩
   ·rw[if_neg (λhb=>e ((va _ _).1 hb))];rcases h.get x with⟨h3,h4⟩ | ⟨h3,h4⟩
    ·exact .inl ⟨.inr h3,h4⟩
    ·exact .inr ⟨λe'=>e'.elim e h3,h4⟩
  ·rcases aff hp with rfl | hp
   ·exact ho
   ·exact h.ao0 p hp
  ·show(eL aW o td m).length<=_;unfold eL;split
   ·rw[ri];exact ou _
   ·rw[ai];exact ax _
theorem MZ.drop{m:Wm}{f:bu->Prop}(h:MZ m f)(o:bu):MZ (fT aW o m) (λx=>¬x=o/\f x)/\(fT aW o m).length<=m.length:=by
 have sub:(fT aW o m).Sublist m:=by
  unfold fT;split
  ·exact List.eraseIdx_sublist _ _
  ·exact List.Sublist.refl _
 refine⟨⟨B2 gb h.amI,λx=> ?_,λp hp=>h.ao0 p (sub.subset hp)⟩,sub.length_le⟩;have hg:cd aW x (fT aW o m)=_:=ahJ gb x o h.amI;rw[hg];by_cases e:x=o
 ·rw[if_pos ((va _ _).2 e)];exact .inr ⟨λe'=>e'.1 e,rfl⟩
 ·rw[if_neg (λhb=>e ((va _ _).1 hb))];rcases h.get x with⟨h3,h4⟩ | ⟨h3,h4⟩
  ·exact .inl ⟨⟨e,h3⟩,h4⟩
  ·exact .inr ⟨λe'=>h3 e'.2,h4⟩
theorem MZ.ext{m:Wm}{f g:bu->Prop}(h:MZ m f)(e:∀o,f o↔g o):MZ m g:=⟨h.amI,λo=>by rw[<-e o];exact h.get o,h.ao0⟩
theorem MZ.aMi:∀(l:List bu) {m:Wm} {f:bu->Prop},MZ m f->(∀o∈l,Jo o)->MZ (l.foldl (λm o=>Ra o m) m) (λx=>x∈l\/f x)/\(l.foldl (λm o=>Ra o m) m).length<=m.length+l.length
 |[],m,f,h,_=>⟨h.ext λo=>by simp,ax _⟩
 |o::l,m,f,h,hq=>by
  obtain⟨h1,h2⟩:=h.want (hq o aO);obtain⟨h3,h4⟩:=MZ.aMi l h1 λx hx=>hq x (aJ _ hx)
  rw[bp];refine⟨h3.ext λx=> ?_,by rw[aA];omega⟩;rw[cn];exact⟨λe=>e.elim (λe=> .inl (.inr e)) λe=>e.elim (λe=> .inl (.inl e)) .inr,λe=>e.elim (λe=>e.elim (λe=> .inr (.inl e)) .inl) λe=> .inr (.inr e)⟩
theorem MZ.dz:∀(l:List bu) {m:Wm} {f:bu->Prop},MZ m f->MZ (l.foldl (λm o=>fT aW o m) m) (λx=>¬x∈l/\f x)/\(l.foldl (λm o=>fT aW o m) m).length<=m.length
 |[],m,f,h=>⟨h.ext λo=>by simp,ax _⟩
 |o::l,m,f,h=>by obtain⟨h1,h2⟩:=h.drop o;obtain⟨h3,h4⟩:=MZ.dz l h1;rw[bp];refine⟨h3.ext λx=> ?_,gD h4 h2⟩;rw[cn];exact⟨λe=>⟨λe'=>e'.elim e.2.1 e.1,e.2.2⟩,λe=>⟨λe'=>e.1 (.inr e'),λe'=>e.1 (.inl e'),e.2⟩⟩
theorem aLq{m:Wm}(hn:(m.map (·.1)).Nodup)(hq:∀p∈m,Jo p.1):(Dg m).Pairwise λx y=>aOO x y=true:=by
 have hq':∀x∈m.map (·.1),Jo x:=λx hx=>by obtain⟨p,hp,rfl⟩:=db.1 hx;exact hq p hp
 obtain⟨h1,h2⟩:=abi Af hq';have h1:(Dg m).Perm (m.map (·.1)):=h1;have aHS:(Dg m).Nodup:=h1.symm.nodup_iff.1 hn |>.imp id
 refine(h2.and aHS).imp_of_mem λ {x y} hx hy ⟨h3,h4⟩=> ?_
 have qx:=hq' x (h1.mem_iff.1 hx);have qy:=hq' y (h1.mem_iff.1 hy);rw[aIt qx qy,bf];refine Classical.byContradiction λh5=>h4 (Ag qx qy h5 h3)
theorem ata:fm.Ok:=by
 rintro⟨coins,dz⟩ hq;have hq:∀o∈coins,Jo o:=hq;rw[as9,aoc (d:=()) trivial];simp only[ah,bn,af1];rw[aoL (d:=()) trivial];simp only[ah,bn,aHv];by_cases h1:coins.length<=40;rotate_left
 ·rw[di ak,aj];rfl
 by_cases h2:dz.length<=40;rotate_left
 ·rw[cG ak,ao,di ak,aj];rfl
 have z0:MZ [] (λ_=>False):=⟨gr,λo=> .inr ⟨id,rfl⟩,λp hp=>(by cases hp)⟩;obtain⟨z1,l1⟩:=MZ.aMi coins z0 hq;obtain⟨z2,l2⟩:=MZ.dz dz z1;rw[cG ak,ao,cG ak,ao,ab9 (d:=(coins,dz,true,0,[])) ⟨by show coins.length<=_;omega,0,aM _,rfl⟩];simp only[ah,uE,zA,aZ,aG];generalize coins.foldl (λm o=>Ra o m) []=m1 at z1 l1 z2 l2 ⊢;rw[acb (d:=(coins,dz,true,0,m1)) ⟨by show dz.length<=_;omega,0,aM _,rfl⟩];simp only[ah,uF,zB,aZ,aG];generalize dz.foldl (λm o=>fT aW o m) m1=m at z2 l2 ⊢;have l1:m1.length<=coins.length:=by simpa using l1
 have hp:=agl z2.ao0;have hlen:(Dg m).length=m.length:=by rw[hp.length_eq,bZ]
 rw[Q9 (d:=m) ⟨by show m.length<=_;omega,z2.ao0⟩];simp only[ah,bn,ajD];rw[<-hlen,acd (d:=(coins,dz,true,(Dg m).length,1,m,Dg m)) ⟨rfl,by show(Dg m).length<=_;omega,λx hx=>by
  obtain⟨p,hp',rfl⟩:=db.1 (hp.mem_iff.1 hx);exact z2.ao0 p hp',aLq z2.amI z2.ao0,by show(1:Int)<=1;decide,by show(1:Int)<=1001;decide⟩]
 simp only[ah,pC,uH,eh,ao,dy];rw[ace (d:=(coins,dz,true,(Dg m).length,0,m,Dg m)) ⟨h1,h2,rfl,by show(Dg m).length<=_;omega,λo ho=> ?_,0,aM _,rfl⟩]
 ·simp only[ah,pD,uL,eh,ao,dy,aj];rw[oS ak];rfl
 ·have hk:Kd o (Dg m)=true↔(¬o∈dz/\(o∈coins\/False)):=by
   rw[YG,hp.mem_iff];have hg:=get_none (l:=m) gb (o:=o) z2.amI;rcases z2.get o with⟨h3,h4⟩ | ⟨h3,h4⟩
   ·refine⟨λ_=>h3,λ_=> ?_⟩;refine Classical.byContradiction λhn=> ?_
    rw[hg.2 hn]at h4;cases h4
   ·exact⟨λhm=>absurd hm (hg.1 h4),λhf=>absurd hf h3⟩
  refine⟨?_,?_⟩
  ·cases hd:Kd o dz with
   |true=>
    cases hw:Kd o (Dg m) with
    |false=>rfl
    |true=>exact absurd (YG.1 hd) (hk.1 hw).1
   |false=>
    exact hk.2 ⟨λhm=>(by rw[YG.2 hm]at hd;cases hd),.inl ho⟩
  ·unfold nC;rcases z2.get o with⟨_,h4⟩ | ⟨_,h4⟩ <;> rw[h4] <;> rfl
theorem aoI:fm.RS:=rE [.d (.slice aW),.d (.slice aW)] fm
def atb:=fm.eP ata 6 ⟨.fp adW,⟨.fp adX,⟨.fp adY,⟨.fp adZ,⟨.fp ad1,⟨.fp ad2,trivial⟩⟩⟩⟩⟩⟩
end Go.Ab
end
