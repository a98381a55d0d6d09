/-
  Made short by a program of mine (wip/tools/mini.py).
-/
import Derived.Test.YtodfaneojnkngaaGreatS27x5
set_option linter.unusedVariables false
set_option linter.unusedSimpArgs false
set_option maxRecDepth 100000
set_option synthInstance.maxSize 5000
open Int renaming toNat->ae
open List renaming length->ag,replicate->ab,take->aQ,drop->bR
open Sum renaming getLeft?->cT
noncomputable section
namespace Go.Ab
open Go.Proofs
def Uh(o:bF):List dv->Option dv
 |[]=>none
 |t::l=>if(dN t).any (ap4 o)=true then some t else Uh o l
def BD(o:bF):List dh->Int->Option (dv×Int)
 |[],_=>none
 |b::l,i=>match Uh o b.2.2.1 with | some t=>some (aqb t,i+1) | none=>BD o l (i+1)
theorem apo(t:dv):(dN t).length<=64:=by
 unfold dN;split
 ·rename_i h;rw[bU];exact(jI h).1.2.1
 ·simp
abbrev JA:=Int×dv×bF×bF×(Int×Unit)×Int×Bool
noncomputable def Ui:JA->SA:=λ(t13,t14,o,or,o1bb,o2,o3)=>(([.yl (.bm 0) 0,.d ti t13,.d eA t14,bE,bE,bE,.dD bl o,.ptr (.bm 1) 0 [] 0,.ptr (.bm 2) 0 [] 0,.ptr (.bm 3) 0 [] 0]++aP 21 []),[.obj 0 false (.rN (ri Tryz.prog 4294967824) (mA ([bE,bE,bE,.dD bl or,.ptr (.bm 1) 0 [] 0,.ptr (.bm 2) 0 [] 0,.ptr (.bm 3) 0 [] 0]++aP 21 [])) 0),.obj 0 false (.pr (.dd) (.pr (.dd) (.d (.pair ti .unit) o1bb))),.obj 0 false (.d ti o2),.obj 0 false (.d .bool o3)])
abbrev acz:=((bF×Int)×(dv))⊕(bF×(Int×Unit)×Int×Bool)
noncomputable def Gs:acz->fG:=λx=>match x with | .inl x=>⟨.d .bool false,[.obj 0 false (.rN (ri Tryz.prog 4294967824) (mA ([bE,bE,bE,.dD bl x.1.1,.ptr (.bm 1) 0 [] 0,.ptr (.bm 2) 0 [] 0,.ptr (.bm 3) 0 [] 0]++aP 21 [])) 2),.obj 0 false (.d eA x.2),.obj 0 false (.d ti x.1.2),.obj 0 false (.d .bool true)],[]⟩ | .inr x=>⟨.d .bool true,[.obj 0 false (.rN (ri Tryz.prog 4294967824) (mA ([bE,bE,bE,.dD bl x.1,.ptr (.bm 1) 0 [] 0,.ptr (.bm 2) 0 [] 0,.ptr (.bm 3) 0 [] 0]++aP 21 [])) 0),.obj 0 false (.pr (.dd) (.pr (.dd) (.d (.pair ti .unit) x.2.1))),.obj 0 false (.d ti x.2.2.1),.obj 0 false (.d .bool x.2.2.2)],[]⟩
def BC:JA->((dv)⊕(Unit))->acz:=λ(t13,t14,o,or,o1bb,o2,o3) y=>match y with | .inl y=> .inl ((or,t13),y) | .inr y=> .inr (or,o1bb,o2,o3)
def OC:JA->Prop:=λ(_,t,_)=>nT t
def EV:JA->((dv)⊕(Unit)):=λ(_,t,o,_)=>if(dN t).any (ap4 o)=true then .inl (aqb t) else .inr ()
def aH2:oT:=jy (P:=Tryz.prog) [ada,anZ,Un,ac4]
def aAS:xi:= {mh:=some 4294967824}
def apm:= @HD Tryz.prog aH2 aAS 0 (aM4 Tryz.prog 4294967824) _ Ui
abbrev aAR:=ahl @apm OC BC EV Gs
theorem aAT{R:Type}(t13:Int)(t14:dv)(o:bF)(or:bF)(o1bb:(Int×Unit))(o2:Int)(o3:Bool)(k:fG->Option R):apm (t13,t14,o,or,o1bb,o2,o3) k=al (sI.call t14) λx1=>al (VW.call (x1,o)) λx2=>aH (x2) (al (rj.call t14) λx3=>al (kO.call x3) λx4=>k (Gs (.inl ((or,t13),x4.1)))) (k (Gs (.inr (or,o1bb,o2,o3)))):=bY
theorem aAU:aAR:=by
 rintro⟨h,t,o,o',o1,o2,o3⟩ hv;have hv:nT t:=hv;rw[aAT,WK (d:=t) hv.1];simp only[ah,bt,KR];rw[agq (d:=(dN t,o)) (by show(dN t).length<=_;have:=apo t;omega)];simp only[ah,bt,avX,EV];by_cases he:(dN t).any (ap4 o)=true
 ·rw[if_pos he,he,aj,OF (d:=t) hv];simp only[ah,bt,JE];rw[Uq (d:=aur t) ⟨(Aw hv).1,by show(aur t).length<=_;have:=(Aw hv).2;omega⟩];rfl
 ·have he':(dN t).any (ap4 o)=false:=by simpa using he
  rw[if_neg he,he',ao];rfl
def apn:=Entry.ad6 [none,none,none,none,none,none,none,none,none,none,none,none,none,none,none,none,none,none,none,none,none,none,none,none,none,none,none,none,none,none,none] Ui OC BC EV Gs
def Wt:JA->Option acz:=Lp apn Ui
theorem atW:iW Wt OC BC EV:=acf (W2 [.d ti,.d eA,.d bl,.d bl,.d (.pair ti .unit),.d ti,.d .bool] λ_=>bY)
def aAV:SG Tryz.prog:=⟨4294967824,ml,apn,.aVF (GL.fn 0 bY aAU trivial (by rfl)).aNO (by rfl)⟩
abbrev D0:=Nat×Int×Int×bF×(Int×Unit)×Int×Bool×Nat×Nat×(List (bF×dQ))×(List bW)×(List dh)
noncomputable def vz:D0->AS:=λ(Ul,t11,t12,o0,o1,ez,K8,o5L,o6L,asx,asy,aeb)=>⟨([.yl (.bm 0) 0]++aP 9 ([.bz (.bm 9) 0 [] 0 0 Ul,.d ti t11,.d ti t12]++aP 19 [])),[.obj 0 false (.rN (ri Tryz.prog 4294967824) (mA ([bE,bE,bE,.dD bl o0,.ptr (.bm 1) 0 [] 0,.ptr (.bm 2) 0 [] 0,.ptr (.bm 3) 0 [] 0]++aP 21 [])) 0),.obj 0 false (.pr (.dd) (.pr (.dd) (.d (.pair ti .unit) o1))),.obj 0 false (.d ti ez),.obj 0 false (.d .bool K8),.obj 0 false (.ptr (.bm 5) 0 [] 0),.obj 0 false (.pr (.ptr (.bm 6) 0 [] 0) (.pr (.bz (.bm 9) 0 [] 0 0 o5L) fP)),.obj 0 false (.pr (.ct (.bm 7) 0) (.pr (.bz (.bm 8) 0 [] 0 0 o6L) fP)),.obj 0 false (.mp bl eQ asx),.obj 0 false (.vec 256 cD asy),.obj 0 false (.vec 48 dR aeb)],(ab 32 [])⟩
abbrev Ym:=bF×dv×Int×Nat×Nat×(List (bF×dQ))×(List bW)×(List dh)
noncomputable def B1:Ym->Exit×AS:=λx=>(.ret,⟨(aP 32 []),[.obj 0 false (.rN (ri Tryz.prog 4294967824) (mA ([bE,bE,bE,.dD bl x.1,.ptr (.bm 1) 0 [] 0,.ptr (.bm 2) 0 [] 0,.ptr (.bm 3) 0 [] 0]++aP 21 [])) 2),.obj 0 false (.d eA x.2.1),.obj 0 false (.d ti x.2.2.1),.obj 0 false (.d .bool true),.obj 0 false (.ptr (.bm 5) 0 [] 0),.obj 0 false (.pr (.ptr (.bm 6) 0 [] 0) (.pr (.bz (.bm 9) 0 [] 0 0 x.2.2.2.1) fP)),.obj 0 false (.pr (.ct (.bm 7) 0) (.pr (.bz (.bm 8) 0 [] 0 0 x.2.2.2.2.1) fP)),.obj 0 false (.mp bl eQ x.2.2.2.2.2.1),.obj 0 false (.vec 256 cD x.2.2.2.2.2.2.1),.obj 0 false (.vec 48 dR x.2.2.2.2.2.2.2)],(ab 32 [])⟩)
abbrev Yn:=bF×(Int×Unit)×Int×Bool×Nat×Nat×(List (bF×dQ))×(List bW)×(List dh)
noncomputable def B2:Yn->Exit×AS:=λx=>(.exit 0,⟨(aP 32 []),[.obj 0 false (.rN (ri Tryz.prog 4294967824) (mA ([bE,bE,bE,.dD bl x.1,.ptr (.bm 1) 0 [] 0,.ptr (.bm 2) 0 [] 0,.ptr (.bm 3) 0 [] 0]++aP 21 [])) 0),.obj 0 false (.pr (.dd) (.pr (.dd) (.d (.pair ti .unit) x.2.1))),.obj 0 false (.d ti x.2.2.1),.obj 0 false (.d .bool x.2.2.2.1),.obj 0 false (.ptr (.bm 5) 0 [] 0),.obj 0 false (.pr (.ptr (.bm 6) 0 [] 0) (.pr (.bz (.bm 9) 0 [] 0 0 x.2.2.2.2.1) fP)),.obj 0 false (.pr (.ct (.bm 7) 0) (.pr (.bz (.bm 8) 0 [] 0 0 x.2.2.2.2.2.1) fP)),.obj 0 false (.mp bl eQ x.2.2.2.2.2.2.1),.obj 0 false (.vec 256 cD x.2.2.2.2.2.2.2.1),.obj 0 false (.vec 48 dR x.2.2.2.2.2.2.2.2)],(ab 32 [])⟩)
abbrev Sn:=(Ym)⊕(Yn)
abbrev ae8:=((bF×dv×Int×Nat×Nat×(List (bF×dQ))×(List bW)×(List dh)))⊕((bF×(Int×Unit)×Int×Bool×Nat×Nat×(List (bF×dQ))×(List bW)×(List dh)))
def HG:Sn->Out (Exit×AS):=λx=> .br x.isLeft (.get x.getLeft? λa=> .ok (B1 a)) (.get x.getRight? λb=> .ok (B2 b))
def oY:D0->ae8->Sn:=λ(Ul,t11,t12,o0,o1,ez,K8,o5L,o6L,asx,asy,aeb) y=>match y with | .inl y=> .inl y | .inr z=> .inr (z)
abbrev D1:=Int×Nat×Int×Int×(List dv)×Int×Int×bF×(Int×Unit)×Int×Bool×Nat×Nat×(List (bF×dQ))×(List bW)×(List dh)
noncomputable def vA:D1->AS:=λ(i,JD,Ww,Wx,t18,t19,t20,BZ,dS,j9,F4,IE,IF,aa7,aa8,aa9)=>⟨([.yl (.bm 0) 0,bE,bE,.d ti i]++aP 6 ([.bz (.bm 9) 0 [] 0 0 JD,.d ti Ww,.d ti Wx]++aP 5 ([.d (.slice eA) t18,.d ti t19,.d ti t20]++aP 11 []))),[.obj 0 false (.rN (ri Tryz.prog 4294967824) (mA ([bE,bE,bE,.dD bl BZ,.ptr (.bm 1) 0 [] 0,.ptr (.bm 2) 0 [] 0,.ptr (.bm 3) 0 [] 0]++aP 21 [])) 0),.obj 0 false (.pr (.dd) (.pr (.dd) (.d (.pair ti .unit) dS))),.obj 0 false (.d ti j9),.obj 0 false (.d .bool F4),.obj 0 false (.ptr (.bm 5) 0 [] 0),.obj 0 false (.pr (.ptr (.bm 6) 0 [] 0) (.pr (.bz (.bm 9) 0 [] 0 0 IE) fP)),.obj 0 false (.pr (.ct (.bm 7) 0) (.pr (.bz (.bm 8) 0 [] 0 0 IF) fP)),.obj 0 false (.mp bl eQ aa7),.obj 0 false (.vec 256 cD aa8),.obj 0 false (.vec 48 dR aa9)],(ab 32 [])⟩
abbrev Yp:=(Nat×Nat×(List (bF×dQ))×(List bW)×(List dh))×(bF×dv×Int)
noncomputable def B4:Yp->Exit×AS:=λx=>(.ret,⟨(aP 32 []),[.obj 0 false (.rN (ri Tryz.prog 4294967824) (mA ([bE,bE,bE,.dD bl x.2.1,.ptr (.bm 1) 0 [] 0,.ptr (.bm 2) 0 [] 0,.ptr (.bm 3) 0 [] 0]++aP 21 [])) 2),.obj 0 false (.d eA x.2.2.1),.obj 0 false (.d ti x.2.2.2),.obj 0 false (.d .bool true),.obj 0 false (.ptr (.bm 5) 0 [] 0),.obj 0 false (.pr (.ptr (.bm 6) 0 [] 0) (.pr (.bz (.bm 9) 0 [] 0 0 x.1.1) fP)),.obj 0 false (.pr (.ct (.bm 7) 0) (.pr (.bz (.bm 8) 0 [] 0 0 x.1.2.1) fP)),.obj 0 false (.mp bl eQ x.1.2.2.1),.obj 0 false (.vec 256 cD x.1.2.2.2.1),.obj 0 false (.vec 48 dR x.1.2.2.2.2)],(ab 32 [])⟩)
abbrev Yq:=(Nat×Int×Int×Nat×Nat×(List (bF×dQ))×(List bW)×(List dh))×(bF×(Int×Unit)×Int×Bool)
noncomputable def B5:Yq->Exit×AS:=λx=>(.exit 2,⟨([.yl (.bm 0) 0]++aP 9 ([.bz (.bm 9) 0 [] 0 0 x.1.1,.d ti x.1.2.1,.d ti x.1.2.2.1]++aP 19 [])),[.obj 0 false (.rN (ri Tryz.prog 4294967824) (mA ([bE,bE,bE,.dD bl x.2.1,.ptr (.bm 1) 0 [] 0,.ptr (.bm 2) 0 [] 0,.ptr (.bm 3) 0 [] 0]++aP 21 [])) 0),.obj 0 false (.pr (.dd) (.pr (.dd) (.d (.pair ti .unit) x.2.2.1))),.obj 0 false (.d ti x.2.2.2.1),.obj 0 false (.d .bool x.2.2.2.2),.obj 0 false (.ptr (.bm 5) 0 [] 0),.obj 0 false (.pr (.ptr (.bm 6) 0 [] 0) (.pr (.bz (.bm 9) 0 [] 0 0 x.1.2.2.2.1) fP)),.obj 0 false (.pr (.ct (.bm 7) 0) (.pr (.bz (.bm 8) 0 [] 0 0 x.1.2.2.2.2.1) fP)),.obj 0 false (.mp bl eQ x.1.2.2.2.2.2.1),.obj 0 false (.vec 256 cD x.1.2.2.2.2.2.2.1),.obj 0 false (.vec 48 dR x.1.2.2.2.2.2.2.2)],(ab 32 [])⟩)
abbrev Sq:=(Yp)⊕(Yq)
abbrev afb:=((bF×dv×Int))⊕((bF×(Int×Unit)×Int×Bool))
def HH:Sq->Out (Exit×AS):=λx=> .br x.isLeft (.get x.getLeft? λa=> .ok (B4 a)) (.get x.getRight? λb=> .ok (B5 b))
def lj:D1->afb->Sq:=λ(i,JD,Ww,Wx,t18,t19,t20,BZ,dS,j9,F4,IE,IF,aa7,aa8,aa9) y=>match y with | .inl y=> .inl ((IE,IF,aa7,aa8,aa9),y) | .inr z=> .inr (((JD,Ww,Wx,IE,IF,aa7,aa8,aa9),z))
abbrev Yi:=bF×(Int×Unit)×Int×Bool×Nat×Nat×(List (bF×dQ))×(List bW)×(List dh)
noncomputable def ahr:Yi->SA:=λ(ir,o1bb,o2,o3,o5baL,o6baL,o7,o8,o9)=>([.yl (.bm 0) 0,.ptr (.bm 4) 0 [] 0],[.obj 0 false (.rN (ri Tryz.prog 4294967824) (mA ([bE,bE,bE,.dD bl ir,.ptr (.bm 1) 0 [] 0,.ptr (.bm 2) 0 [] 0,.ptr (.bm 3) 0 [] 0]++aP 21 [])) 0),.obj 0 false (.pr (.dd) (.pr (.dd) (.d (.pair ti .unit) o1bb))),.obj 0 false (.d ti o2),.obj 0 false (.d .bool o3),.obj 0 false (.ptr (.bm 5) 0 [] 0),.obj 0 false (.pr (.ptr (.bm 6) 0 [] 0) (.pr (.bz (.bm 9) 0 [] 0 0 o5baL) fP)),.obj 0 false (.pr (.ct (.bm 7) 0) (.pr (.bz (.bm 8) 0 [] 0 0 o6baL) fP)),.obj 0 false (.mp bl eQ o7),.obj 0 false (.vec 256 cD o8),.obj 0 false (.vec 48 dR o9)])
abbrev aCk:=(bF×dv×Int×Nat×Nat×(List (bF×dQ))×(List bW)×(List dh))⊕(bF×(Int×Unit)×Int×Bool×Nat×Nat×(List (bF×dQ))×(List bW)×(List dh))
abbrev aql:=(bF×dv×Int×Nat×Nat×(List (bF×dQ))×(List bW)×(List dh))⊕(bF×(Int×Unit)×Int×Bool×Nat×Nat×(List (bF×dQ))×(List bW)×(List dh))
noncomputable def O7:aql->fG:=λx=>match x with | .inl x=>⟨.nil,[.obj 0 false (.rN (ri Tryz.prog 4294967824) (mA ([bE,bE,bE,.dD bl x.1,.ptr (.bm 1) 0 [] 0,.ptr (.bm 2) 0 [] 0,.ptr (.bm 3) 0 [] 0]++aP 21 [])) 2),.obj 0 false (.d eA x.2.1),.obj 0 false (.d ti x.2.2.1),.obj 0 false (.d .bool true),.obj 0 false (.ptr (.bm 5) 0 [] 0),.obj 0 false (.pr (.ptr (.bm 6) 0 [] 0) (.pr (.bz (.bm 9) 0 [] 0 0 x.2.2.2.1) fP)),.obj 0 false (.pr (.ct (.bm 7) 0) (.pr (.bz (.bm 8) 0 [] 0 0 x.2.2.2.2.1) fP)),.obj 0 false (.mp bl eQ x.2.2.2.2.2.1),.obj 0 false (.vec 256 cD x.2.2.2.2.2.2.1),.obj 0 false (.vec 48 dR x.2.2.2.2.2.2.2)],[]⟩ | .inr x=>⟨.nil,[.obj 0 false (.rN (ri Tryz.prog 4294967824) (mA ([bE,bE,bE,.dD bl x.1,.ptr (.bm 1) 0 [] 0,.ptr (.bm 2) 0 [] 0,.ptr (.bm 3) 0 [] 0]++aP 21 [])) 0),.obj 0 false (.pr (.dd) (.pr (.dd) (.d (.pair ti .unit) x.2.1))),.obj 0 false (.d ti x.2.2.1),.obj 0 false (.d .bool x.2.2.2.1),.obj 0 false (.ptr (.bm 5) 0 [] 0),.obj 0 false (.pr (.ptr (.bm 6) 0 [] 0) (.pr (.bz (.bm 9) 0 [] 0 0 x.2.2.2.2.1) fP)),.obj 0 false (.pr (.ct (.bm 7) 0) (.pr (.bz (.bm 8) 0 [] 0 0 x.2.2.2.2.2.1) fP)),.obj 0 false (.mp bl eQ x.2.2.2.2.2.2.1),.obj 0 false (.vec 256 cD x.2.2.2.2.2.2.2.1),.obj 0 false (.vec 48 dR x.2.2.2.2.2.2.2.2)],[]⟩
def Ys:Yi->aCk->aql:=λ(ir,o1bb,o2,o3,o5baL,o6baL,o7,o8,o9) y=>match y with | .inl y=> .inl y | .inr y=> .inr y
def B3:D1->Prop:=λ(i,_,_,_,l,n,j,_)=>(0<=i/\i<=1000000)/\l.length<=1000000/\(∀t∈l,nT t)/\n=(l.length:Int)/\∃k:Nat,k<=l.length/\j=k
def qn:D1->afb:=λ(i,_,_,_,l,_,j,o,o1,o2,o3,_)=>match Uh o (l.drop j.toNat) with | some t=> .inl (o,aqb t,i+1) | none=> .inr (o,o1,o2,o3)
def B0:D0->Prop:=λ(nb,n,i,_,_,_,_,_,_,_,_,bs)=>ap3 nb bs/\n=(nb:Int)/\∃k:Nat,k<=nb/\i=k
def tj:D0->ae8:=λ(nb,_,i,o,o1,o2,o3,o4,o5,m,st,bs)=>match BD o ((bs.take nb).drop i.toNat) i with
 |some x=> .inl (o,x.1,x.2,o4,o5,m,st,bs)
 |none=> .inr (o,o1,o2,o3,o4,o5,m,st,bs)
def Yr:Yi->Prop:=λ(_,_,_,_,nb,_,_,_,bs)=>ap3 nb bs
def Yj:Yi->aCk:=λ(o,o1,o2,o3,nb,o5,m,st,bs)=>match BD o (bs.take nb) 0 with
 |some x=> .inl (o,x.1,x.2,nb,o5,m,st,bs)
 |none=> .inr (o,o1,o2,o3,nb,o5,m,st,bs)
def Yk:oT:=jy (P:=Tryz.prog) [aAV]
def ae6:=dy.fp vz B0 oY tj HG
def O4:D0->Option Sn:=gB ae6 vz
def ae9:=dy.fp vA B3 lj qn HH
def O5:D1->Option Sq:=gB ae9 vA
def O6:xi:= {loops:=nX [(1,{aV:=[0,10,11,12]}),(4,{aV:=[0,3,10,11,12,18,19,20]})],outs:=nV [(1,{},{}),(4,{aV:=[0,10,11,12]},{})],fC:=na [(1,ae6),(4,ae9)]}
def aCi:= @HD Tryz.prog Yk O6 0 Tryz.f117 _ ahr
abbrev aJB:=ahl @aCi Yr Ys Yj O7
def ae7:= @ee Tryz.prog Yk O6 0 Tryz.f117 0 _ vz
abbrev Yl:=kj Tryz.prog Yk O6 0 Tryz.f117 0 vz B0 oY tj HG
def afa:= @ee Tryz.prog Yk O6 0 Tryz.f117 1 _ vA
abbrev Yo:=kj Tryz.prog Yk O6 0 Tryz.f117 1 vA B3 lj qn HH
theorem ak7:iW O4 B0 oY tj:=l6 (jk [.n,.d ti,.d ti,.d bl,.d (.pair ti .unit),.d ti,.d .bool,.n,.n,.d (.slice (.pair bl eQ)),.d (.slice cD),.d (.slice dR)] λ_=>bY)
theorem Sp:mP @ae7 vz B0 oY tj HG Yl:=nD
theorem E4{R:Type}(Ul:Nat)(t11:Int)(t12:Int)(o0:bF)(o1:(Int×Unit))(ez:Int)(K8:Bool)(o5L:Nat)(o6L:Nat)(asx:(List (bF×dQ)))(asy:(List bW))(aeb:(List dh))(kn:AS->Option R)(kx:Exit->AS->Option R):ae7 (Ul,t11,t12,o0,o1,ez,K8,o5L,o6L,asx,asy,aeb) kn kx=aH ((gq t12 t11)) (aH (eo t12 ((Ul:Nat):Int)) (aH (decide ((0+(ae t12)) < (ag aeb))) (aH (decide ((((0+(ae t12))*36)+0)=(0+((ae t12)*36)))) (al (O5 (t12,Ul,t11,t12,(nth dR aeb (0+(ae t12))).2.2.1,(((ag (nth dR aeb (0+(ae t12))).2.2.1):Nat):Int),(0:Int),o0,o1,ez,K8,o5L,o6L,asx,asy,aeb)) λx1=>aH (x1.isLeft) (al (x1.getLeft?) λa2=>kx (B1 (a2.2.1,a2.2.2.1,a2.2.2.2,a2.1.1,a2.1.2.1,a2.1.2.2.1,a2.1.2.2.2.1,a2.1.2.2.2.2)).1 (B1 (a2.2.1,a2.2.2.1,a2.2.2.2,a2.1.1,a2.1.2.1,a2.1.2.2.1,a2.1.2.2.2.1,a2.1.2.2.2.2)).2) (al (x1.getRight?) λb3=>kn (vz (b3.1.1,b3.1.2.1,(bI .i64 b3.1.2.2.1 (1:Int)),b3.2.1,b3.2.2.1,b3.2.2.2.1,b3.2.2.2.2,b3.1.2.2.2.1,b3.1.2.2.2.2.1,b3.1.2.2.2.2.2.1,b3.1.2.2.2.2.2.2.1,b3.1.2.2.2.2.2.2.2)))) none) none) none) (kx (B2 (o0,o1,ez,K8,o5L,o6L,asx,asy,aeb)).1 (B2 (o0,o1,ez,K8,o5L,o6L,asx,asy,aeb)).2):=bY
theorem ak8:iW O5 B3 lj qn:=l6 (jk [.d ti,.n,.d ti,.d ti,.d (.slice eA),.d ti,.d ti,.d bl,.d (.pair ti .unit),.d ti,.d .bool,.n,.n,.d (.slice (.pair bl eQ)),.d (.slice cD),.d (.slice dR)] λ_=>bY)
theorem Sr:mP @afa vA B3 lj qn HH Yo:=nD
theorem E5{R:Type}(i:Int)(JD:Nat)(Ww:Int)(Wx:Int)(t18:(List dv))(t19:Int)(t20:Int)(BZ:bF)(dS:(Int×Unit))(j9:Int)(F4:Bool)(IE:Nat)(IF:Nat)(aa7:(List (bF×dQ)))(aa8:(List bW))(aa9:(List dh))(kn:AS->Option R)(kx:Exit->AS->Option R):afa (i,JD,Ww,Wx,t18,t19,t20,BZ,dS,j9,F4,IE,IF,aa7,aa8,aa9) kn kx=aH ((gq t20 t19)) (aH (eo t20 (((ag t18):Nat):Int)) (same (ri Tryz.prog 4294967824) (ri Tryz.prog 4294967824) (al (Wt ((bI .i64 i (1:Int)),(nth eA t18 (ae t20)),BZ,BZ,dS,j9,F4)) λx1=>aH (x1.isLeft) (al (x1.getLeft?) λaJe=>kx (B4 ((IE,IF,aa7,aa8,aa9),(aJe.1.1,aJe.2,aJe.1.2))).1 (B4 ((IE,IF,aa7,aa8,aa9),(aJe.1.1,aJe.2,aJe.1.2))).2) (al (x1.getRight?) λaJf=>kn (vA (i,JD,Ww,Wx,t18,t19,(bI .i64 t20 (1:Int)),aJf.1,aJf.2.1,aJf.2.2.1,aJf.2.2.2,IE,IF,aa7,aa8,aa9))))) none) (kx (B5 ((JD,Ww,Wx,IE,IF,aa7,aa8,aa9),(BZ,dS,j9,F4))).1 (B5 ((JD,Ww,Wx,IE,IF,aa7,aa8,aa9),(BZ,dS,j9,F4))).2):=bY
theorem aJC{R:Type}(ir:bF)(o1bb:(Int×Unit))(o2:Int)(o3:Bool)(o5baL:Nat)(o6baL:Nat)(o7:(List (bF×dQ)))(o8:(List bW))(o9:(List dh))(k:fG->Option R):aCi (ir,o1bb,o2,o3,o5baL,o6baL,o7,o8,o9) k=al (O4 (o5baL,((o5baL:Nat):Int),(0:Int),ir,o1bb,o2,o3,o5baL,o6baL,o7,o8,o9)) λx5=>aH (x5.isLeft) (al (x5.getLeft?) λa6=>k (O7 (.inl (a6.1,a6.2.1,a6.2.2.1,a6.2.2.2.1,a6.2.2.2.2.1,a6.2.2.2.2.2.1,a6.2.2.2.2.2.2.1,a6.2.2.2.2.2.2.2)))) (al (x5.getRight?) λb7=>k (O7 (.inr (b7.1,b7.2.1,b7.2.2.1,b7.2.2.2.1,b7.2.2.2.2.1,b7.2.2.2.2.2.1,b7.2.2.2.2.2.2.1,b7.2.2.2.2.2.2.2.1,b7.2.2.2.2.2.2.2.2)))):=bY
theorem aqk:Yo:=by
 refine Sr (λ(_,_,_,_,l,_,j,_)=>l.length - j.toNat) ?_
 rintro⟨i,nb,n0,i0,l,n,j,o,o1,o2,o3,o4,o5,m,st,bs⟩ ⟨⟨hi,aOR⟩,hl,hv,rfl,k,hk,rfl⟩;have hl:l.length<=1000000:=hl;have hk:k<=l.length:=hk;have hi:0<=i:=hi;have aOR:i<=1000000:=aOR;by_cases gJ:k < l.length
 ·have n1:nth eA l k=l[k]:=cg (t:=eA) gJ;have hd:l.drop k=l[k]::l.drop (k+1):=aq gJ;have hw:=atW (d:=(i+1,l[k],o,o,o1,o2,o3)) (hv _ (aO gJ));by_cases he:(dN l[k]).any (ap4 o)=true
  ·right;refine⟨B4 ((o4,o5,m,st,bs),(o,aqb l[k],i+1)),?_,λkn kx=> ?_⟩;rotate_left
   ·rw[E5,aU ak,aj,bg ak ak,aj,aa,n1,Ub,fU ak ak,hw];simp only[ah,EV,if_pos he,BC,oX,aj,my]
   ·simp only[lj,qn,aa,hd,Uh,if_pos he];rfl
  ·left;refine⟨(i,nb,n0,i0,l,(l.length:Int),((k+1:Nat):Int),o,o1,o2,o3,o4,o5,m,st,bs),⟨⟨hi,aOR⟩,hl,hv,rfl,k+1,ak,rfl⟩,by simp only[aa];omega,?_,λkn kx=> ?_⟩
   ·simp only[lj,qn,aa,hd,Uh,if_neg he]
   ·rw[E5,aU ak,aj,bg ak ak,aj,aa,n1,Ub,fU ak ak,hw];simp only[ah,EV,if_neg he,BC,dJ,ao,c9];rw[N.mO ak]
 ·right;obtain rfl:k=l.length:=ak;refine⟨B5 ((nb,n0,i0,o4,o5,m,st,bs),(o,o1,o2,o3)),?_,λkn kx=> ?_⟩;rotate_left
  ·rw[E5,aR ak,ao]
  ·simp only[lj,qn,aa,aK,Uh];rfl
theorem aqj:Yl:=by
 refine Sp (λ(nb,_,i,_)=>nb - i.toNat) ?_
 rintro⟨nb,n,i,o,o1,o2,o3,o4,o5,m,st,bs⟩ ⟨⟨h1,h2,h3⟩,rfl,k,hk,rfl⟩;have h1:nb<=bs.length:=h1;have h2:nb<=1000000:=h2;have hk:k<=nb:=hk;by_cases gJ:k < nb
 ·have hb:k < bs.length:=ak;have n1:nth dR bs k=bs[k]:=cg (t:=dR) hb;have hd:(bs.take nb).drop k=bs[k]::(bs.take nb).drop (k+1):=by have:=aq (l:=bs.take nb) (i:=k) (by rw[bp];omega);rwa[List.getElem_take]at this
  obtain⟨⟨q1,q2⟩,_⟩:=h3 _ (aO hb);have q1:bs[k].2.2.1.length<=1000000:=il q1 (by decide);have hw:=ak8 (d:=((k:Int),nb,(nb:Int),(k:Int),bs[k].2.2.1,(bs[k].2.2.1.length:Int),0,o,o1,o2,o3,o4,o5,m,st,bs)) ⟨⟨ak,ak⟩,q1,q2,rfl,0,aJ _,rfl⟩;have z1:((0:Int)).toNat=0:=rfl;cases he:Uh o bs[k].2.2.1 with
  |some t=>
   right;refine⟨B1 (o,aqb t,(k:Int)+1,o4,o5,m,st,bs),?_,λkn kx=> ?_⟩;rotate_left
   ·rw[E4,aU ak,aj,bg ak ak,aj,aa,aN,fy hb,aj,fy ak,aj,n1,hw];simp only[ah,qn,z1,aD,he,lj,oX,aj,my]
   ·simp only[oY,tj,aa,hd,BD,he];rfl
  |none=>
   left;refine⟨(nb,(nb:Int),((k+1:Nat):Int),o,o1,o2,o3,o4,o5,m,st,bs),⟨⟨h1,h2,h3⟩,rfl,k+1,ak,rfl⟩,by simp only[aa];omega,?_,λkn kx=> ?_⟩
   ·simp only[oY,tj,aa,hd,BD,he];rfl
   ·rw[E4,aU ak,aj,bg ak ak,aj,aa,aN,fy hb,aj,fy ak,aj,n1,hw];simp only[ah,qn,z1,aD,he,lj,dJ,ao,c9];rw[N.mO ak]
 ·right;obtain rfl:k=nb:=ak;refine⟨B2 (o,o1,o2,o3,o4,o5,m,st,bs),?_,λkn kx=> ?_⟩;rotate_left
  ·rw[E4,aR ak,ao]
  ·have hd:(bs.take k).drop k=[]:=List.drop_eq_nil_of_le (by rw[bp];omega);simp only[oY,tj,aa,hd,BD];rfl
theorem aJD:aJB:=by
 rintro⟨o,o1,o2,o3,nb,o5,m,st,bs⟩ h;have h:ap3 nb bs:=h;rw[aJC,ak7 (d:=(nb,(nb:Int),0,o,o1,o2,o3,nb,o5,m,st,bs)) ⟨h,rfl,0,aJ _,rfl⟩];have z1:((0:Int)).toNat=0:=rfl;simp only[ah,tj,z1,aD,Yj];cases BD o (bs.take nb) 0 with
 |some h=>rfl
 |none=>rfl
def aCj:=Entry.ad6 [none,none] ahr Yr Ys Yj O7
def afc:Yi->Option aql:=Lp aCj ahr
theorem aCl:iW afc Yr Ys Yj:=acf (W2 [.d bl,.d (.pair ti .unit),.d ti,.d .bool,.n,.n,.d (.slice (.pair bl eQ)),.d (.slice cD),.d (.slice dR)] λ_=>bY)
def aJE:SG Tryz.prog:=⟨117,ml,aCj,.of (.aNO (.fn 2 bY aJD (And.intro (.fp aqj bY) (And.intro (.fp aqk bY) trivial)))) (by rfl)⟩
abbrev afu:=bF×Nat×Nat×(List (bF×dQ))×(List bW)×(List dh)
def alZ:afu->Prop:=λ(_,nb,_,_,_,bs)=>ap3 nb bs
def SN:afu->(dv×Int×Bool×Nat×Nat×(List (bF×dQ))×(List bW)×(List dh)):=λ(o,nb,n,m,st,bs)=>match BD o (bs.take nb) 0 with
 |some x=>(x.1,x.2,true,nb,n,m,st,bs)
 |none=>(eA.zero,0,false,nb,n,m,st,bs)
def uw:Fs Tryz.prog alZ bt SN:=eN 33 Tryz.f33 (λ(o,o0baL,o1baL,o2,o3,o4)=>([.ptr (.bm 0) 0 [] 0,.d bl o],[.obj 0 false (.pr (.ptr (.bm 1) 0 [] 0) (.pr (.bz (.bm 4) 0 [] 0 0 o0baL) (.d .unit ()))),.obj 0 false (.pr (.ct (.bm 2) 0) (.pr (.bz (.bm 3) 0 [] 0 0 o1baL) (.d .unit ()))),.obj 0 false (.mp bl eQ o2),.obj 0 false (.vec 256 cD o3),.obj 0 false (.vec 48 dR o4)])) (λx=>⟨.cons (.d eA x.1) (.cons (.d ti x.2.1) (.cons (.d .bool x.2.2.1) (.nil))),[.obj 0 false (.pr (.ptr (.bm 1) 0 [] 0) (.pr (.bz (.bm 4) 0 [] 0 0 x.2.2.2.1) (.d .unit ()))),.obj 0 false (.pr (.ct (.bm 2) 0) (.pr (.bz (.bm 3) 0 [] 0 0 x.2.2.2.2.1) (.d .unit ()))),.obj 0 false (.mp bl eQ x.2.2.2.2.2.1),.obj 0 false (.vec 256 cD x.2.2.2.2.2.2.1),.obj 0 false (.vec 48 dR x.2.2.2.2.2.2.2)],[]⟩) [none,some bl] [aDe,aJE] {res:=[some eA,none,none],rf:=na [(13,(4294967824,[3,4,5,6]))]}
theorem aq4{R:Type}(o o0baL o1baL o2 o3 o4)(k:K1 R):uw.A (o,o0baL,o1baL,o2,o3,o4) k=al (YT.call (o0baL,o1baL,o2,o3,o4)) λx1=>al (afc (o,(0,()),0,false,x1.1,x1.2.1,x1.2.2.1,x1.2.2.2.1,x1.2.2.2.2)) λx2=>aH (x2.isLeft) (al (x2.getLeft?) λaP7=>k (uw.out (aP7.2.1,aP7.2.2.1,true,aP7.2.2.2.1,aP7.2.2.2.2.1,aP7.2.2.2.2.2.1,aP7.2.2.2.2.2.2.1,aP7.2.2.2.2.2.2.2))) (al (x2.getRight?) λaSp=>k (uw.out ((([]:List gG),(([]:List gf),(0,()))),0,false,aSp.2.2.2.2.1,aSp.2.2.2.2.2.1,aSp.2.2.2.2.2.2.1,aSp.2.2.2.2.2.2.2.1,aSp.2.2.2.2.2.2.2.2))):=bY
theorem aq5:uw.Ok:=by
 rintro⟨o,nb,n,m,st,bs⟩ h;have h:ap3 nb bs:=h;rw[aq4,axy (d:=(nb,n,m,st,bs)) trivial];simp only[ah,afn,au1];rw[aCl (d:=(o,(0,()),0,false,nb,n,m,st,bs)) h];simp only[ah,Yj,SN];cases BD o (bs.take nb) 0 with
 |some h=>rfl
 |none=>rfl
theorem al0:uw.RS:=rE [.d bl,.n,.n,.d (.slice (.pair bl eQ)),.d (.slice cD),.d (.slice dR)] uw
def Y2:=uw.eS aq5
abbrev AG:=Int×Int×Nat×(List (bF×dQ))×(List bW)
def tn:AG->AS:=λ(t7,t8,o0L,dS,ez)=>⟨([.ptr (.bm 0) 0 [] 0]++aP 6 ([.d ti t7,.d ti t8]++aP 5 [])),[.obj 0 false (.pr (.ct (.bm 1) 0) (.pr (.bz (.bm 2) 0 [] 0 0 o0L) fP)),.obj 0 false (.mp bl eQ dS),.obj 0 false (.vec 256 cD ez)],(ab 14 [])⟩
abbrev UM:=Nat×(List (bF×dQ))×(List bW)
def yN:UM->Exit×AS:=λx=>(.ret,⟨(aP 4 ([.d .bool false]++aP 9 [])),[.obj 0 false (.pr (.ct (.bm 1) 0) (.pr (.bz (.bm 2) 0 [] 0 0 x.1) fP)),.obj 0 false (.mp bl eQ x.2.1),.obj 0 false (.vec 256 cD x.2.2)],(ab 14 [])⟩)
abbrev UN:=Nat×(List (bF×dQ))×(List bW)
def yO:UN->Exit×AS:=λx=>(.exit 0,⟨(aP 14 []),[.obj 0 false (.pr (.ct (.bm 1) 0) (.pr (.bz (.bm 2) 0 [] 0 0 x.1) fP)),.obj 0 false (.mp bl eQ x.2.1),.obj 0 false (.vec 256 cD x.2.2)],(ab 14 [])⟩)
abbrev M6:=(UM)⊕(UN)
abbrev YN:=((Nat×(List (bF×dQ))×(List bW)))⊕((Nat×(List (bF×dQ))×(List bW)))
def E9:M6->Out (Exit×AS):=λx=> .br x.isLeft (.get x.getLeft? λa=> .ok (yN a)) (.get x.getRight? λb=> .ok (yO b))
def nB:AG->YN->M6:=λ(t7,t8,o0L,dS,ez) y=>match y with | .inl y=> .inl y | .inr z=> .inr (z)
abbrev auW:=dh×Nat×(List (bF×dQ))×(List bW)
def EY:Nat->aCd->Bool×aCd
 | 0,S=>(true,S)
 |k+1,S=>if S.1=0 then(false,S) else EY k (S.1 - 1,xQ S.2.1 (nth cD S.2.2 (S.1 - 1)),S.2.2)
def aqf(n:Nat)(s:List bW):Prop:=n<=s.length/\s.length<=1000000/\∀st∈s,ahn st
theorem aIH:∀(k:Nat) (S:aCd),aqf S.1 S.2.2->aqf (EY k S).2.1 (EY k S).2.2.2
 | 0,S,h=>h
 |k+1,S,h=>by
  unfold EY;split
  ·exact h
  ·exact aIH k _ ⟨by have:=h.1;show S.1 - 1<=S.2.2.length;omega,h.2⟩
def yM:AG->Prop:=λ(d,i,n,_,s)=>aqf n s/\∃m k:Nat,d=m/\i=k/\k<=m/\m<=1000
def pa:AG->YN:=λ(d,i,n,a,s)=>if(EY (d - i).toNat (n,a,s)).1=true then .inr (EY (d - i).toNat (n,a,s)).2 else .inl (EY (d - i).toNat (n,a,s)).2
def axa:auW->Prop:=λ(b,n,_,s)=>b.2.2.1.length<=1000/\aqf n s
def ahA:auW->(Bool×Nat×(List (bF×dQ))×(List bW)):=λ(b,n,a,s)=>EY b.2.2.1.length (n,a,s)
def YL:=dy.fp tn yM nB pa E9
def Lj:AG->Option M6:=gB YL tn
def GR:Fs Tryz.prog axa bt ahA:=eN 104 Tryz.f104 (λ(b,o0baL,o1,o2)=>([.ptr (.bm 0) 0 [] 0,.d dR b],[.obj 0 false (.pr (.ct (.bm 1) 0) (.pr (.bz (.bm 2) 0 [] 0 0 o0baL) (.d .unit ()))),.obj 0 false (.mp bl eQ o1),.obj 0 false (.vec 256 cD o2)])) (λx=>⟨.d .bool x.1,[.obj 0 false (.pr (.ct (.bm 1) 0) (.pr (.bz (.bm 2) 0 [] 0 0 x.2.1) (.d .unit ()))),.obj 0 false (.mp bl eQ x.2.2.1),.obj 0 false (.vec 256 cD x.2.2.2)],[]⟩) [none,some dR] [aEd] {loops:=nX [(2,{aV:=[0,7,8]})],outs:=nV [(2,{},{aV:=[4]})],fC:=na [(2,YL)]}
def YM:= @ee Tryz.prog (jy GR.G) GR.an 0 Tryz.f104 0 _ tn
abbrev UL:=kj Tryz.prog (jy GR.G) GR.an 0 Tryz.f104 0 tn yM nB pa E9
theorem ahB:iW Lj yM nB pa:=l6 (jk [.d ti,.d ti,.n,.d (.slice (.pair bl eQ)),.d (.slice cD)] λ_=>bY)
theorem Pk:mP @YM tn yM nB pa E9 UL:=nD
theorem CY{R:Type}(t7:Int)(t8:Int)(o0L:Nat)(dS:(List (bF×dQ)))(ez:(List bW))(kn:AS->Option R)(kx:Exit->AS->Option R):YM (t7,t8,o0L,dS,ez) kn kx=aH ((gq t8 t7)) (al (AV.call (o0L,dS,ez)) λx1=>aH ((!x1.1)) (kx (yN (x1.2.1,x1.2.2.1,x1.2.2.2)).1 (yN (x1.2.1,x1.2.2.1,x1.2.2.2)).2) (kn (tn (t7,(bI .i64 t8 (1:Int)),x1.2.1,x1.2.2.1,x1.2.2.2)))) (kx (yO (o0L,dS,ez)).1 (yO (o0L,dS,ez)).2):=bY
theorem aCP{R:Type}(b o0baL o1 o2)(k:K1 R):GR.A (b,o0baL,o1,o2) k=al (Lj ((b.2.2.1.length:Int),0,o0baL,o1,o2)) λx2=>aH (x2.isLeft) (al (x2.getLeft?) λa3=>k (GR.out (false,a3.1,a3.2.1,a3.2.2))) (al (x2.getRight?) λb4=>k (GR.out (true,b4.1,b4.2.1,b4.2.2))):=bY
theorem alA:UL:=by
 refine Pk (λ(d,i,_)=>(d - i).toNat) ?_
 rintro⟨d,i,n,a,s⟩ ⟨hg,m,k,rfl,rfl,hk,hm⟩;have hg:aqf n s:=hg;have hk:k<=m:=hk;have hm:m<=1000:=hm;by_cases gJ:k < m
 ·obtain⟨j,hj⟩:∃j,m=k+1+j:=⟨m - (k+1),ak⟩;have e1:((m:Int) - (k:Int)).toNat=j+1:=ak;have e2:((m:Int) - ((k+1:Nat):Int)).toNat=j:=ak;have hc:=afH (d:=(n,a,s)) hg;by_cases h0:n=0
  ·right;refine⟨yN (n,a,s),?_,λkn kx=> ?_⟩;rotate_left
   ·rw[CY,aU ak,aj,hc];simp only[ah,bt,XF,if_pos h0,eZ,aj]
   ·simp only[nB,pa,e1,EY,if_pos h0,bn,bq];rfl
  ·left;refine⟨((m:Int),((k+1:Nat):Int),n - 1,xQ a (nth cD s (n - 1)),s),⟨⟨by have:=hg.1;omega,hg.2⟩,m,k+1,rfl,rfl,ak,hm⟩,by simp only[e1,e2];omega,?_,λkn kx=> ?_⟩
   ·simp only[nB,pa,e1,e2];rw[EY,if_neg h0]
   ·rw[CY,aU ak,aj,hc];simp only[ah,bt,XF,if_neg h0,cz,ao];rw[N.mO ak]
 ·right;obtain rfl:k=m:=ak;refine⟨yO (n,a,s),?_,λkn kx=> ?_⟩;rotate_left
  ·rw[CY,aR ak,ao]
  ·have e1:((k:Int) - (k:Int)).toNat=0:=ak;simp only[nB,pa,e1,EY,bG];rfl
theorem aCQ:GR.Ok:=by
 rintro⟨b,n,a,s⟩ ⟨hl,hg⟩;have hl:b.2.2.1.length<=1000:=hl;have e:((b.2.2.1.length:Int) - 0).toNat=b.2.2.1.length:=ak;rw[aCP,ahB (d:=((b.2.2.1.length:Int),0,n,a,s)) ⟨hg,b.2.2.1.length,0,rfl,rfl,aJ _,hl⟩];simp only[ah,pa,e,ahA];cases hu:EY b.2.2.1.length (n,a,s) with
 |mk r S=>
  cases r with
  |true=>rfl
  |false=>rfl
theorem axb:GR.RS:=rE [.d dR,.n,.d (.slice (.pair bl eQ)),.d (.slice cD)] GR
def aCR:=GR.eS aCQ 1 ⟨.fp alA,trivial⟩
abbrev uk:=(List dh)×Int×Int×Nat×Nat×(List (bF×dQ))×(List bW)×(List dh)×Nat×Nat×(List (bF×dQ))×(List bW)×(List dh)
def ot:uk->AS:=λ(vg,t32,t33,o0L,o1L,ez,K8,zK,N7,N8,n31,aaM,Ma)=>⟨([.ptr (.bm 0) 0 [] 0,bE,.d (.slice dR) vg]++aP 4 ([eT 31]++aP 24 ([.d ti t32,.d ti t33]++aP 47 []))),[.obj 0 false (.pr (.ptr (.bm 1) 0 [] 0) (.pr (.bz (.bm 4) 0 [] 0 0 o0L) fP)),.obj 0 false (.pr (.ct (.bm 2) 0) (.pr (.bz (.bm 3) 0 [] 0 0 o1L) fP)),.obj 0 false (.mp bl eQ ez),.obj 0 false (.vec 256 cD K8),.obj 0 false (.vec 48 dR zK)],(bM 31 ([[.obj 0 false (.pr (.ptr (.new 31 1) 0 [] 0) (.pr (.bz (.new 31 4) 0 [] 0 0 N7) fP)),.obj 0 false (.pr (.ct (.new 31 2) 0) (.pr (.bz (.new 31 3) 0 [] 0 0 N8) fP)),.obj 0 false (.mp bl eQ n31),.obj 0 false (.vec 256 cD aaM),.obj 0 false (.vec 48 dR Ma)]]++bM 49 []))⟩
abbrev Lt:=((List dh)×Nat×Nat×(List (bF×dQ))×(List bW)×(List dh)×(List dh))×(Nat×Nat×(List (bF×dQ))×(List bW))
def uo:Lt->Exit×AS:=λx=>(.exit 1,⟨([.ptr (.bm 0) 0 [] 0,bE,.d (.slice dR) x.1.1]++aP 4 ([eT 31]++aP 73 [])),[.obj 0 false (.pr (.ptr (.bm 1) 0 [] 0) (.pr (.bz (.bm 4) 0 [] 0 0 x.1.2.1) fP)),.obj 0 false (.pr (.ct (.bm 2) 0) (.pr (.bz (.bm 3) 0 [] 0 0 x.1.2.2.1) fP)),.obj 0 false (.mp bl eQ x.1.2.2.2.1),.obj 0 false (.vec 256 cD x.1.2.2.2.2.1),.obj 0 false (.vec 48 dR x.1.2.2.2.2.2.1)],(bM 31 ([[.obj 0 false (.pr (.ptr (.new 31 1) 0 [] 0) (.pr (.bz (.new 31 4) 0 [] 0 0 x.2.1) fP)),.obj 0 false (.pr (.ct (.new 31 2) 0) (.pr (.bz (.new 31 3) 0 [] 0 0 x.2.2.1) fP)),.obj 0 false (.mp bl eQ x.2.2.2.1),.obj 0 false (.vec 256 cD x.2.2.2.2),.obj 0 false (.vec 48 dR x.1.2.2.2.2.2.2)]]++bM 49 []))⟩)
abbrev Fk:=Lt
def HT:Fk->Out (Exit×AS):=λx=> .ok (uo x)
def kk:uk->(Nat×Nat×(List (bF×dQ))×(List bW))->Fk:=λ(vg,t32,t33,o0L,o1L,ez,K8,zK,N7,N8,n31,aaM,Ma) y=>((vg,o0L,o1L,ez,K8,zK,Ma),y)
abbrev uq:=(List dh)×Int×Int×Nat×Nat×(List (bF×dQ))×(List bW)×(List dh)×Nat×Nat×(List (bF×dQ))×(List bW)×(List dh)
def ou:uq->AS:=λ(t63,t64,t65,gZ,uR,j9,F4,aa6,N9,Oa,aaN,aaO,aaP)=>⟨([.ptr (.bm 0) 0 [] 0]++aP 6 ([eT 31]++aP 55 ([.d (.slice dR) t63,.d ti t64,.d ti t65]++aP 15 []))),[.obj 0 false (.pr (.ptr (.bm 1) 0 [] 0) (.pr (.bz (.bm 4) 0 [] 0 0 gZ) fP)),.obj 0 false (.pr (.ct (.bm 2) 0) (.pr (.bz (.bm 3) 0 [] 0 0 uR) fP)),.obj 0 false (.mp bl eQ j9),.obj 0 false (.vec 256 cD F4),.obj 0 false (.vec 48 dR aa6)],(bM 31 ([[.obj 0 false (.pr (.ptr (.new 31 1) 0 [] 0) (.pr (.bz (.new 31 4) 0 [] 0 0 N9) fP)),.obj 0 false (.pr (.ct (.new 31 2) 0) (.pr (.bz (.new 31 3) 0 [] 0 0 Oa) fP)),.obj 0 false (.mp bl eQ aaN),.obj 0 false (.vec 256 cD aaO),.obj 0 false (.vec 48 dR aaP)]]++bM 49 []))⟩
abbrev Lv:=(Nat×Nat×(List (bF×dQ))×(List bW)×(List dh))×(Int)
def uu:Lv->Exit×AS:=λx=>(.ret,⟨(aP 6 ([.d ti x.2]++aP 74 [])),[.obj 0 false (.pr (.ptr (.bm 1) 0 [] 0) (.pr (.bz (.bm 4) 0 [] 0 0 x.1.1) fP)),.obj 0 false (.pr (.ct (.bm 2) 0) (.pr (.bz (.bm 3) 0 [] 0 0 x.1.2.1) fP)),.obj 0 false (.mp bl eQ x.1.2.2.1),.obj 0 false (.vec 256 cD x.1.2.2.2.1),.obj 0 false (.vec 48 dR x.1.2.2.2.2)],(ab 81 [])⟩)
abbrev Lw:=(Nat×Nat×(List (bF×dQ))×(List bW)×(List dh))×(Nat×Nat×(List (bF×dQ))×(List bW)×(List dh))
def uv:Lw->Exit×AS:=λx=>(.exit 3,⟨([.ptr (.bm 0) 0 [] 0]++aP 6 ([eT 31]++aP 73 [])),[.obj 0 false (.pr (.ptr (.bm 1) 0 [] 0) (.pr (.bz (.bm 4) 0 [] 0 0 x.1.1) fP)),.obj 0 false (.pr (.ct (.bm 2) 0) (.pr (.bz (.bm 3) 0 [] 0 0 x.1.2.1) fP)),.obj 0 false (.mp bl eQ x.1.2.2.1),.obj 0 false (.vec 256 cD x.1.2.2.2.1),.obj 0 false (.vec 48 dR x.1.2.2.2.2)],(bM 31 ([[.obj 0 false (.pr (.ptr (.new 31 1) 0 [] 0) (.pr (.bz (.new 31 4) 0 [] 0 0 x.2.1) fP)),.obj 0 false (.pr (.ct (.new 31 2) 0) (.pr (.bz (.new 31 3) 0 [] 0 0 x.2.2.1) fP)),.obj 0 false (.mp bl eQ x.2.2.2.1),.obj 0 false (.vec 256 cD x.2.2.2.2.1),.obj 0 false (.vec 48 dR x.2.2.2.2.2)]]++bM 49 []))⟩)
abbrev Fl:=(Lv)⊕(Lw)
abbrev Pz:=(Int)⊕((Nat×Nat×(List (bF×dQ))×(List bW)×(List dh)))
def AK:Fl->Out (Exit×AS):=λx=> .br x.isLeft (.get x.getLeft? λa=> .ok (uu a)) (.get x.getRight? λb=> .ok (uv b))
def km:uq->Pz->Fl:=λ(t63,t64,t65,gZ,uR,j9,F4,aa6,N9,Oa,aaN,aaO,aaP) y=>match y with | .inl y=> .inl ((gZ,uR,j9,F4,aa6),y) | .inr z=> .inr (((gZ,uR,j9,F4,aa6),z))
abbrev D9:=Int×(List dh)×Nat×Nat×(List (bF×dQ))×(List bW)×(List dh)
def Ng:D9->SA:=λ(depth,l,o0baL,o1baL,o2,o3,o4)=>([.ptr (.bm 0) 0 [] 0,.d ti depth,.d (.slice dR) l],[.obj 0 false (.pr (.ptr (.bm 1) 0 [] 0) (.pr (.bz (.bm 4) 0 [] 0 0 o0baL) fP)),.obj 0 false (.pr (.ct (.bm 2) 0) (.pr (.bz (.bm 3) 0 [] 0 0 o1baL) fP)),.obj 0 false (.mp bl eQ o2),.obj 0 false (.vec 256 cD o3),.obj 0 false (.vec 48 dR o4)])
abbrev aft:=(Int×Nat×Nat×(List (bF×dQ))×(List bW)×(List dh))⊕(Int×Nat×Nat×(List (bF×dQ))×(List bW)×(List dh)×Nat×(List (bF×dQ))×(List bW)×(List dh))
abbrev Kj:=(Int×Nat×Nat×(List (bF×dQ))×(List bW)×(List dh))⊕(Int×Nat×Nat×(List (bF×dQ))×(List bW)×(List dh)×Nat×(List (bF×dQ))×(List bW)×(List dh))
def mW:Kj->fG:=λx=>match x with | .inl x=>⟨.d ti x.1,[.obj 0 false (.pr (.ptr (.bm 1) 0 [] 0) (.pr (.bz (.bm 4) 0 [] 0 0 x.2.1) fP)),.obj 0 false (.pr (.ct (.bm 2) 0) (.pr (.bz (.bm 3) 0 [] 0 0 x.2.2.1) fP)),.obj 0 false (.mp bl eQ x.2.2.2.1),.obj 0 false (.vec 256 cD x.2.2.2.2.1),.obj 0 false (.vec 48 dR x.2.2.2.2.2)],[]⟩ | .inr x=>⟨.d ti x.1,[.obj 0 false (.pr (eT 0) (.pr (.bz (.new 0 3) 0 [] 0 0 x.2.1) fP)),.obj 0 false (.pr (.ct (.bm 2) 0) (.pr (.bz (.bm 3) 0 [] 0 0 x.2.2.1) fP)),.obj 0 false (.mp bl eQ x.2.2.2.1),.obj 0 false (.vec 256 cD x.2.2.2.2.1),.obj 0 false (.vec 48 dR x.2.2.2.2.2.1)],[.obj 0 false (.pr (.ct (.new 0 1) 0) (.pr (.bz (.new 0 2) 0 [] 0 0 x.2.2.2.2.2.2.1) fP)),.obj 0 false (.mp bl eQ x.2.2.2.2.2.2.2.1),.obj 0 false (.vec 256 cD x.2.2.2.2.2.2.2.2.1),.obj 0 false (.vec 48 dR x.2.2.2.2.2.2.2.2.2)]⟩
def HU:D9->aft->Kj:=λ(depth,l,o0baL,o1baL,o2,o3,o4) y=>match y with | .inl y=> .inl y | .inr y=> .inr y
abbrev aSq:=Nat×Nat×At×List bW×List dh
def xm(bs:List dh):Nat->Nat×aCd->Nat×aCd
 | 0,X=>X
 |k+1,X=>xm bs k (X.1 - 1,(EY (nth dR bs (X.1 - 1)).2.2.1.length X.2).2)
def jg:List dh->aSq->Int×aSq
 |[],S=>(0,S)
 |b::l,S=>if(mg b S.1 (S.2.1,S.2.2.1,S.2.2.2.1) S.2.2.2.2).1≠0 then mg b S.1 (S.2.1,S.2.2.1,S.2.2.2.1) S.2.2.2.2 else jg l (mg b S.1 (S.2.1,S.2.2.1,S.2.2.2.1) S.2.2.2.2).2
def Ye:List dh->aSq->Prop
 |[],_=>True
 |b::l,S=>SL (b,S)/\((mg b S.1 (S.2.1,S.2.2.1,S.2.2.2.1) S.2.2.2.2).1=0->Ye l (mg b S.1 (S.2.1,S.2.2.1,S.2.2.2.1) S.2.2.2.2).2)
def um:uk->Prop:=λ(_,d,i,_,_,_,_,_,nb,n,_,s,bs)=>aqf n s/\ap3 nb bs/\∃m k:Nat,d=m/\i=k/\k<=m/\m<=1000/\m<=k+nb
def nF:uk->(Nat×Nat×(List (bF×dQ))×(List bW)):=λ(_,d,i,_,_,_,_,_,nb,n,a,s,bs)=>xm bs (d - i).toNat (nb,n,a,s)
def ur:uq->Prop:=λ(l,m,i,_,_,_,_,_,nb,n,a,s,bs)=>l.length<=1000000/\m=(l.length:Int)/\∃k:Nat,k<=l.length/\i=k/\Ye (l.drop k) (nb,n,a,s,bs)
def lq:uq->Pz:=λ(l,_,i,_,_,_,_,_,nb,n,a,s,bs)=>if(jg (l.drop i.toNat) (nb,n,a,s,bs)).1≠0 then .inl (jg (l.drop i.toNat) (nb,n,a,s,bs)).1 else .inr (jg (l.drop i.toNat) (nb,n,a,s,bs)).2
def AE(d:Int)(nb n:Nat)(a:At)(s:List bW)(bs:List dh):aSq:=((xm (bs.take nb) d.toNat (nb,n,iX a,s.take n)).1,(xm (bs.take nb) d.toNat (nb,n,iX a,s.take n)).2.1,(xm (bs.take nb) d.toNat (nb,n,iX a,s.take n)).2.2.1,(xm (bs.take nb) d.toNat (nb,n,iX a,s.take n)).2.2.2,bs.take nb)
def xp:D9->Prop:=λ(d,l,nb,n,a,s,bs)=>ap3 nb bs/\DZ 400 n a s/\l.length<=1000000/\((1<=d/\d<=nb/\d < l.length/\d<=6)->Ye l (AE d nb n a s bs))
def js:D9->aft:=λ(d,l,nb,n,a,s,bs)=>if 1<=d/\d<=nb/\d < l.length then if d<=6 then if(jg l (AE d nb n a s bs)).1≠0 then .inl ((jg l (AE d nb n a s bs)).1,nb,n,a,s,bs) else .inr (0,(jg l (AE d nb n a s bs)).2.1,n,a,s,bs,(jg l (AE d nb n a s bs)).2.2) else .inl (25,nb,n,a,s,bs) else .inl (1,nb,n,a,s,bs)
def Ea:oT:=jy (P:=Tryz.prog) [Cc,axC,aCR,alR]
def Pv:=dy.fp ot um kk nF HT
def GW:uk->Option Fk:=gB Pv ot
def Px:=dy.fp ou ur km lq AK
def GY:uq->Option Fl:=gB Px ou
def AL:xi:= {loops:=nX [(7,{aV:=[0,2,7,32,33],sites:=[31]}),(13,{aV:=[0,7,63,64,65],sites:=[31],owns:=[⟨7,[.snd,.fst],31,25⟩]})],outs:=nV [(7,{aV:=[0,2,7],sites:=[31]},{aV:=[6]}),(13,{aV:=[0,7],sites:=[31]},{aV:=[6]})],fC:=na [(7,Pv),(13,Px)]}
def afr:= @HD Tryz.prog Ea AL 0 Tryz.f56 _ Ng
abbrev aq0:=ahl @afr xp HU js mW
def Pw:= @ee Tryz.prog Ea AL 0 Tryz.f56 0 _ ot
abbrev Lr:=kj Tryz.prog Ea AL 0 Tryz.f56 0 ot um kk nF HT
def Py:= @ee Tryz.prog Ea AL 0 Tryz.f56 1 _ ou
abbrev Lu:=kj Tryz.prog Ea AL 0 Tryz.f56 1 ou ur km lq AK
theorem Y0:iW GW um kk nF:=l6 (jk [.d (.slice dR),.d ti,.d ti,.n,.n,.d (.slice (.pair bl eQ)),.d (.slice cD),.d (.slice dR),.n,.n,.d (.slice (.pair bl eQ)),.d (.slice cD),.d (.slice dR)] λ_=>bY)
theorem KY:aB7 @Pw ot um kk nF uo Lr:=aOf
theorem GX{R:Type}(vg:(List dh))(t32:Int)(t33:Int)(o0L:Nat)(o1L:Nat)(ez:(List (bF×dQ)))(K8:(List bW))(zK:(List dh))(N7:Nat)(N8:Nat)(n31:(List (bF×dQ)))(aaM:(List bW))(Ma:(List dh))(kn:AS->Option R)(kx:Exit->AS->Option R):Pw (vg,t32,t33,o0L,o1L,ez,K8,zK,N7,N8,n31,aaM,Ma) kn kx=aH ((gq t33 t32)) (aH (eo (cP .i64 ((N7:Nat):Int) (1:Int)) ((N7:Nat):Int)) (aH (decide ((0+(ae (cP .i64 ((N7:Nat):Int) (1:Int)))) < (ag Ma))) (aH (decide ((((0+(ae (cP .i64 ((N7:Nat):Int) (1:Int))))*36)+0)=(0+((ae (cP .i64 ((N7:Nat):Int) (1:Int)))*36)))) (al (GR.call ((nth dR Ma (0+(ae (cP .i64 ((N7:Nat):Int) (1:Int))))),N8,n31,aaM)) λx1=>aH (inc (cP .i64 ((N7:Nat):Int) (1:Int)) ((N7:Nat):Int)) (kn (ot (vg,t32,(bI .i64 t33 (1:Int)),o0L,o1L,ez,K8,zK,((ae (cP .i64 ((N7:Nat):Int) (1:Int))) - 0),x1.2.1,x1.2.2.1,x1.2.2.2,Ma))) none) none) none) none) (kx (uo ((vg,o0L,o1L,ez,K8,zK,Ma),(N7,N8,n31,aaM))).1 (uo ((vg,o0L,o1L,ez,K8,zK,Ma),(N7,N8,n31,aaM))).2):=bY
theorem Y1:iW GY ur km lq:=l6 (jk [.d (.slice dR),.d ti,.d ti,.n,.n,.d (.slice (.pair bl eQ)),.d (.slice cD),.d (.slice dR),.n,.n,.d (.slice (.pair bl eQ)),.d (.slice cD),.d (.slice dR)] λ_=>bY)
theorem KZ:mP @Py ou ur km lq AK Lu:=nD
theorem xW{R:Type}(t63:(List dh))(t64:Int)(t65:Int)(gZ:Nat)(uR:Nat)(j9:(List (bF×dQ)))(F4:(List bW))(aa6:(List dh))(N9:Nat)(Oa:Nat)(aaN:(List (bF×dQ)))(aaO:(List bW))(aaP:(List dh))(kn:AS->Option R)(kx:Exit->AS->Option R):Py (t63,t64,t65,gZ,uR,j9,F4,aa6,N9,Oa,aaN,aaO,aaP) kn kx=aH ((gq t65 t64)) (aH (eo t65 (((ag t63):Nat):Int)) (al (GU.call ((nth dR t63 (ae t65)),N9,Oa,aaN,aaO,aaP)) λx1=>aH ((BY x1.1 (0:Int))) (kx (uu ((gZ,uR,j9,F4,aa6),x1.1)).1 (uu ((gZ,uR,j9,F4,aa6),x1.1)).2) (kn (ou (t63,t64,(bI .i64 t65 (1:Int)),gZ,uR,j9,F4,aa6,x1.2.1,x1.2.2.1,x1.2.2.2.1,x1.2.2.2.2.1,x1.2.2.2.2.2)))) none) (kx (uv ((gZ,uR,j9,F4,aa6),(N9,Oa,aaN,aaO,aaP))).1 (uv ((gZ,uR,j9,F4,aa6),(N9,Oa,aaN,aaO,aaP))).2):=bY
theorem aq1{R:Type}(depth:Int)(l:(List dh))(o0baL:Nat)(o1baL:Nat)(o2:(List (bF×dQ)))(o3:(List bW))(o4:(List dh))(k:fG->Option R):afr (depth,l,o0baL,o1baL,o2,o3,o4) k=aH ((gq depth (1:Int))) (k (mW (.inl ((1:Int),o0baL,o1baL,o2,o3,o4)))) (al (pf.call (o0baL,o1baL,o2,o3,o4)) λx1=>aH ((rz depth x1.2)) (k (mW (.inl ((1:Int),x1.1.1,x1.1.2.1,x1.1.2.2.1,x1.1.2.2.2.1,x1.1.2.2.2.2)))) (aH ((aiU (((ag l):Nat):Int) depth)) (k (mW (.inl ((1:Int),x1.1.1,x1.1.2.1,x1.1.2.2.1,x1.1.2.2.2.1,x1.1.2.2.2.2)))) (aH ((rz depth (6:Int))) (k (mW (.inl ((25:Int),x1.1.1,x1.1.2.1,x1.1.2.2.1,x1.1.2.2.2.1,x1.1.2.2.2.2)))) (al (Nc.call (x1.1.1,x1.1.2.1,x1.1.2.2.1,x1.1.2.2.2.1,x1.1.2.2.2.2)) λx2=>al (GW (l,depth,(0:Int),x2.1,x2.2.1,x2.2.2.1,x2.2.2.2.1,x2.2.2.2.2.1,x2.2.2.2.2.2.1,x2.2.2.2.2.2.2.1,x2.2.2.2.2.2.2.2.1,x2.2.2.2.2.2.2.2.2.1,x2.2.2.2.2.2.2.2.2.2)) λx4=>al (GY (x4.1.1,(((ag x4.1.1):Nat):Int),(0:Int),x4.1.2.1,x4.1.2.2.1,x4.1.2.2.2.1,x4.1.2.2.2.2.1,x4.1.2.2.2.2.2.1,x4.2.1,x4.2.2.1,x4.2.2.2.1,x4.2.2.2.2,x4.1.2.2.2.2.2.2)) λx7=>aH (x7.isLeft) (al (x7.getLeft?) λa8=>k (mW (.inl (a8.2,a8.1.1,a8.1.2.1,a8.1.2.2.1,a8.1.2.2.2.1,a8.1.2.2.2.2)))) (al (x7.getRight?) λb9=>k (mW (.inr ((0:Int),b9.2.1,b9.1.2.1,b9.1.2.2.1,b9.1.2.2.2.1,b9.1.2.2.2.2,b9.2.2.1,b9.2.2.2.1,b9.2.2.2.2.1,b9.2.2.2.2.2)))))))):=bY
theorem adK:Lr:=by
 refine KY (λ(_,d,i,_)=>(d - i).toNat) ?_
 rintro⟨l,d,i,nb0,n0,a0,s0,bs0,nb,n,a,s,bs⟩ ⟨hg,⟨h1,h2,h3⟩,m,k,rfl,rfl,hk,hm,hn⟩;have hg:aqf n s:=hg;have h1:nb<=bs.length:=h1;have h2:nb<=1000000:=h2;have hk:k<=m:=hk;have hm:m<=1000:=hm;have hn:m<=k+nb:=hn;by_cases gJ:k < m
 ·left;obtain⟨j,hj⟩:∃j,m=k+1+j:=⟨m - (k+1),ak⟩;obtain⟨p,rfl⟩:∃p,nb=p+1:=⟨nb - 1,ak⟩;have e1:((m:Int) - (k:Int)).toNat=j+1:=ak;have e2:((m:Int) - ((k+1:Nat):Int)).toNat=j:=ak;have e3:cP .i64 (((p+1:Nat):Nat):Int) (1:Int)=(p:Int):=by rw[eL ak ak];omega
  have hp:p < bs.length:=ak;have n1:nth dR bs p=bs[p]:=cg (t:=dR) hp;have hu:=axb (d:=(bs[p],n,a,s)) ⟨(h3 _ (aO hp)).1.1,hg⟩;refine⟨(l,(m:Int),((k+1:Nat):Int),nb0,n0,a0,s0,bs0,p,(EY bs[p].2.2.1.length (n,a,s)).2.1,(EY bs[p].2.2.1.length (n,a,s)).2.2.1,(EY bs[p].2.2.1.length (n,a,s)).2.2.2,bs),⟨aIH _ (n,a,s) hg,⟨ak,ak,h3⟩,m,k+1,rfl,rfl,ak,hm,ak⟩,by simp only[e1,e2];omega,?_,λkn kx=> ?_⟩
  ·simp only[kk,nF,e1,e2,xm,iT,n1]
  ·rw[GX,aU ak,aj,e3,bg ak ak,aj];simp only[aa,aN,cm,aM hp,aj,cr,n1,Nat.sub_zero];rw[hu];simp only[ah,bt,ahA];rw[uI ak ak,aj,N.mO ak]
 ·right;obtain rfl:k=m:=ak;intro R kn kx;have e1:((k:Int) - (k:Int)).toNat=0:=ak;rw[GX,aR ak,ao];simp only[kk,nF,e1,xm]
theorem adL:Lu:=by
 refine KZ (λ(l,_,i,_)=>l.length - i.toNat) ?_
 rintro⟨l,m,i,nb0,n0,a0,s0,bs0,nb,n,a,s,bs⟩ ⟨hl,rfl,k,hk,rfl,hg⟩;have hl:l.length<=1000000:=hl;have hk:k<=l.length:=hk;by_cases gJ:k < l.length
 ·have n1:nth dR l k=l[k]:=cg (t:=dR) gJ;have hd:l.drop k=l[k]::l.drop (k+1):=aq gJ;have hg:Ye (l.drop k) (nb,n,a,s,bs):=hg;rw[hd]at hg;obtain⟨g1,g2⟩:=hg;have hw:=afo (d:=(l[k],nb,n,a,s,bs)) g1;obtain⟨r,hr⟩:∃r,mg l[k] nb (n,a,s) bs=r:=⟨_,rfl⟩;simp only[bt,ahM,hr]at hw g2;by_cases he:r.1=0
  ·left;refine⟨(l,(l.length:Int),((k+1:Nat):Int),nb0,n0,a0,s0,bs0,r.2.1,r.2.2.1,r.2.2.2.1,r.2.2.2.2.1,r.2.2.2.2.2),⟨hl,rfl,k+1,ak,rfl,g2 he⟩,by simp only[aa];omega,?_,λkn kx=> ?_⟩
   ·simp only[km,lq,aa,hd];rw[show jg (l[k]::l.drop (k+1)) (nb,n,a,s,bs)=jg (l.drop (k+1)) r.2 by rw[jg];simp only[hr];rw[if_neg (λe=>e he)]]
   ·rw[xW,aU ak,aj,bg ak ak,aj,aa,n1,hw];simp only[ah];rw[dB he,ao,N.mO ak]
  ·right;refine⟨uu ((nb0,n0,a0,s0,bs0),r.1),?_,λkn kx=> ?_⟩;rotate_left
   ·rw[xW,aU ak,aj,bg ak ak,aj,aa,n1,hw];simp only[ah];rw[fj he,aj]
   ·simp only[km,lq,aa,hd];rw[show jg (l[k]::l.drop (k+1)) (nb,n,a,s,bs)=r by rw[jg];simp only[hr];rw[if_pos he],if_pos he];rfl
 ·right;obtain rfl:k=l.length:=ak;refine⟨uv ((nb0,n0,a0,s0,bs0),(nb,n,a,s,bs)),?_,λkn kx=> ?_⟩;rotate_left
  ·rw[xW,aR ak,ao]
  ·simp only[km,lq,aa,aK,jg];rw[if_neg (λe=>e rfl)];rfl
theorem aq2:aq0:=by
 rintro⟨d,l,nb,n,a,s,bs⟩ ⟨hc,hg,hl,hA⟩;have hg:DZ 400 n a s:=hg;have hl:l.length<=1000000:=hl;obtain⟨h1,h2,h3⟩:=id hc;have h1:nb<=bs.length:=h1;have h2:nb<=1000000:=h2;have ch:=Fi (d:=(nb,n,a,s,bs)) trivial;rw[aq1];by_cases a1:1<=d;rotate_left
 ·rw[aU ak,aj];simp only[js];rw[if_neg (λe:1<=d/\d<=(nb:Int)/\d < (l.length:Int)=>a1 e.1)];rfl
 rw[aR ak,ao,ch];simp only[ah,Fh,Nf];by_cases a2:d<=nb;rotate_left
 ·rw[cR ak,aj];simp only[js];rw[if_neg (λe:1<=d/\d<=(nb:Int)/\d < (l.length:Int)=>a2 e.2.1)];rfl
 rw[cn ak,ao];by_cases a3:d < l.length;rotate_left
 ·rw[oe ak,aj];simp only[js];rw[if_neg (λe:1<=d/\d<=(nb:Int)/\d < (l.length:Int)=>a3 e.2.2)];rfl
 rw[j7 ak,ao];by_cases a4:d<=6;rotate_left
 ·rw[cR ak,aj];simp only[js];rw[if_pos ⟨a1,a2,a3⟩,if_neg a4];rfl
 have hA:=hA ⟨a1,a2,a3,a4⟩;obtain⟨aQl,_⟩:=hg.canon;have e0:(d - 0).toNat=d.toNat:=ak;have z1:((0:Int)).toNat=0:=rfl;rw[cn ak,ao,aqY (d:=(nb,n,a,s,bs)) ⟨hg.mono (by decide),hc⟩];simp only[ah,YX,alU];rw[Y0 (d:=(l,d,0,nb,n,a,s,bs,nb,n,iX a,s.take n,bs.take nb)) ⟨⟨aQl.le,by have:=aQl.len;omega,aQl.aIc⟩,⟨by rw[bp];omega,h2,λb hb=>h3 b (fg hb)⟩,d.toNat,0,ak,rfl,aJ _,ak,ak⟩];simp only[ah,kk,nF,e0];obtain⟨B,hB⟩:∃B,xm (bs.take nb) d.toNat (nb,n,iX a,s.take n)=B:=⟨_,rfl⟩;have eB:AE d nb n a s bs=(B.1,B.2.1,B.2.2.1,B.2.2.2,bs.take nb):=by unfold AE;rw[hB]
 rw[eB]at hA;rw[hB,Y1 (d:=(l,(l.length:Int),0,nb,n,a,s,bs,B.1,B.2.1,B.2.2.1,B.2.2.2,bs.take nb)) ⟨hl,rfl,0,aJ _,rfl,hA⟩]
 have key:js (d,l,nb,n,a,s,bs)=if(jg l (B.1,B.2.1,B.2.2.1,B.2.2.2,bs.take nb)).1≠0 then .inl ((jg l (B.1,B.2.1,B.2.2.1,B.2.2.2,bs.take nb)).1,nb,n,a,s,bs)
   else .inr (0,(jg l (B.1,B.2.1,B.2.2.1,B.2.2.2,bs.take nb)).2.1,n,a,s,bs,(jg l (B.1,B.2.1,B.2.2.1,B.2.2.2,bs.take nb)).2.2):=by
  simp only[js];rw[if_pos ⟨a1,a2,a3⟩,if_pos a4,eB]
 rw[key];simp only[ah,lq,z1,aD];by_cases he:(jg l (B.1,B.2.1,B.2.2.1,B.2.2.2,bs.take nb)).1=0
 ·rw[if_neg (λe=>e he),if_neg (λe=>e he)];rfl
 ·rw[if_pos he,if_pos he];rfl
def afs:=Entry.ad6 [none,some ti,some (.slice dR)] Ng xp HU js mW
def lr:D9->Option Kj:=Lp afs Ng
theorem UY:iW lr xp HU js:=acf (W2 [.d ti,.d (.slice dR),.n,.n,.d (.slice (.pair bl eQ)),.d (.slice cD),.d (.slice dR)] λ_=>bY)
def aq3:SG Tryz.prog:=⟨56,ml,afs,.of (.aNO (.fn 2 bY aq2 (And.intro (.fp adK bY) (And.intro (.fp adL bY) trivial)))) (by rfl)⟩
def adB:List Int:=ab 32 0
def LW(K af dl:Int):Lk:=([([gg K],(af,(dl,(0,()))))],())
def AW(K af dl:Int):At:=[GZ 0 ((100:Int),(LW K af dl,()))]
def TW(K:Int):dv:=([((adB,((0:Int),())),(((0:Int),(([]:List Sg),((0:Int),()))),()))],([((90:Int),(LW K 0 0,()))],((0:Int),())))
def UW(K:Int):dv:=Xw (TW K) (ae 0) (aeC (TW K) 0 [K] 0)
def BW(K h:Int):At:=[((mj (TW K),((0:Int),())),(((90:Int),(LW K 0 0,())),(h,())))]
def KW(K:Int):Prop:=0 < K/\K < 2305843009213688669
theorem aSP(K:Int){af dl:Int}(ha:0<=af/\af<=1048576)(hd:0<=dl/\dl<=1048576):kP (LW K af dl)=true:=by have e:kP (LW K af dl)=((vd ([gg K],af,dl,0,()) && true) && true):=rfl;rw[e,aJ2 _ _ _ (dI rfl)];simp only[fb,List.all_nil,aaa,NQ,aM ha,aM hd,wc]
theorem aUi(K af dl:Int):adD (LW K af dl):=λb hb=>by rw[bh.1 (show b∈ [([gg K],(af,(dl,(0,()))))] from hb)];exact⟨ar1 (auO K) ayP,u0⟩
theorem aJi:Sm adB:=⟨b8,λx hx=>by rw[(nr.1 (show x∈ab 32 (0:Int) from hx)).2];exact⟨by decide,by decide⟩⟩
theorem aPv(K:Int):gV (TW K)=true:=by
 have e2:xY 0 (TW K).2.1=(((sP 0 && (sP 90 && true)) && kP (LW K 0 0)) && true):=rfl;have e1:Em [] (TW K).1=true:=by show Em [] [((adB,((0:Int),())),(((0:Int),(([]:List Sg),((0:Int),()))),()))]=true;rw[Em,Em];rfl
 unfold gV;rw[e1,e2,aSP K ⟨by decide,by decide⟩ ⟨by decide,by decide⟩];rfl
theorem aVQ(K:Int):nT (TW K):=by
 refine⟨⟨λo ho=> ?_,by show 1<=_;decide,by show 1<=_;decide⟩,λx hx=> ?_,by show(0:Int)<=_;decide⟩
 ·rw[bh.1 (show o∈ [((90:Int),(LW K 0 0,()))] from ho)];exact⟨aUi K 0 0,by show 1<=_;decide⟩
 ·rw[bh.1 (show x∈ [((adB,((0:Int),())),(((0:Int),(([]:List Sg),((0:Int),()))),()))] from hx)];exact⟨aJi,⟨λs hs=>(by cases hs),u0⟩,aJ _⟩
theorem aSb{K:Int}(hk:KW K):Gr (TW K) 0 0 [K]=true:=by unfold Gr;rw[aPv,aM ⟨by decide,by show(0:Int) < ((1:Nat):Int);decide,by decide,by decide,dI rfl⟩];simp only[rp,List.any_nil,M3];have:=hk.1;have:=hk.2;rw[aS ak];rfl
theorem AB{K:Int}(hk:KW K):gV (UW K)=true/\nT (UW K)/\mj (UW K)=mj (TW K)/\dN (UW K)=dN (TW K)/\gS (UW K)=gS (TW K):=aHV (aVQ K) (aSb hk) u0
theorem aSX{K:Int}(hk:KW K):dN (UW K)=[(adB,((0:Int),()))]:=by rw[(AB hk).2.2.2.1];unfold dN;rw[if_pos (aPv K)];rfl
theorem aUj{K:Int}(hk:KW K):gS (UW K)=[(mj (TW K),((0:Int),()))]:=by rw[(AB hk).2.2.2.2];unfold gS;rw[if_pos (aPv K)];rfl
theorem aWV(K:Int):(UW K).1=[((adB,((0:Int),())),(((((0:Nat):Int),([K].map (λk=>mI k (mj (TW K))),((0:Int),())))),()))]:=rfl
theorem aUp{K:Int}(hk:KW K)(af dl:Int)(ha:0<=af/\af<=1048576)(hd:0<=dl/\dl<=1048576)(m:List Int)(h a:Int):
  yy (LW K af dl) (((0:Nat):Int),([K].map (λk=>mI k m),((0:Int),()))) m h a=if h < af\/a < dl then 11 else 0:=
 (aLX (l:=LW K af dl) (i:=0) (b:=([K].map gg,af,dl,0,())) (aSP K ha hd) (by show 0 < 1;decide) rfl _ _ _ _ _).trans (ajs [K] (aR1 hk) af dl 0 0 m h a (.inl rfl))
theorem gW(K af dl:Int):bQ bl (adB,((0:Int),())) (AW K af dl)=some (((100:Int),(LW K af dl,())),((0:Int),())):=by unfold AW GZ;rw[fu];exact if_pos ((qp _ _).2 rfl)
theorem nW(K af dl:Int)(m:List Int)(hm:¬m=adB):bQ bl (m,((0:Int),())) (AW K af dl)=none:=by unfold AW GZ;rw[fu,if_neg,qD];intro e;have:=(qp _ _).1 e;exact hm (bo (λo:bF=>o.1) this)
theorem aRU{h:Int}{m:List Int}{a:At}{x:gG}{c:dQ}(hg:bQ bl x.1 a=some c):xx h m a [x] 0=if yy c.1.2.1 x.2.1 m h (h - c.2.1)≠0 then .inl (yy c.1.2.1 x.2.1 m h (h - c.2.1)) else .inr (0+c.1.1):=by simp only[xx,hg]
theorem aVZ{K:Int}(hk:KW K)(gC:¬mj (TW K)=adB){af dl h:Int}(ha:0<=af/\af<=1048576)(hd:0<=dl/\dl<=1048576)(h1:1<=h)(h2:h<=1048576):eK (UW K) h (AW K af dl)=if h < af\/h < dl then(0,11) else(10,0):=by
 have aVt:=aUj hk;have am2:=aWV K;have cX:=(AB hk).2.2.1;have dm:=aUp hk af dl ha hd;generalize mj (TW K)=m at gC aVt am2 cX;unfold eK;rw[if_pos ⟨(AB hk).1,h1,h2⟩,am2,cX];have e0:h - ((0:Int))=h:=ak;have e:xx h m (AW K af dl) [((adB,((0:Int),())),(((((0:Nat):Int),([K].map (λk=>mI k m),((0:Int),())))),()))] 0=if h < af\/h < dl then .inl 11 else .inr 100:=by
  refine(aRU (gW K af dl)).trans ?_
  show(if yy (LW K af dl) (((0:Nat):Int),([K].map (λk=>mI k m),((0:Int),()))) m h (h - 0)≠0 then(.inl (yy (LW K af dl) (((0:Nat):Int),([K].map (λk=>mI k m),((0:Int),()))) m h (h - 0)):Int⊕Int) else .inr (0+100))=_;rw[e0,dm];by_cases hh:h < af\/h < dl
  ·rw[if_pos hh,if_pos hh,if_pos (by decide)]
  ·rw[if_neg hh,if_neg hh,if_neg (λe=>e rfl)];rfl
 rw[e,aVt];by_cases hh:h < af\/h < dl
 ·rw[if_pos hh,if_pos hh]
 ·rw[if_neg hh,if_neg hh];have n1:([(m,((0:Int),()))]:List bF).any (qw (AW K af dl))=false:=by simp only[rp,List.any_nil,qw,nW K af dl m gC,Option.isSome_none,Bool.or_false]
  simp only[n1,bn,bq];rfl
theorem aVW{K:Int}(hk:KW K)(af dl h:Int):fq (UW K) h (AW K af dl)=BW K h:=by
 unfold fq BW;rw[aSX hk,aUj hk];generalize mj (TW K)=m;have e:zd [(adB,((0:Int),()))] (AW K af dl)=[]:=by exact amy
 rw[e];rfl
theorem aVN{K:Int}(hk:KW K)(af dl:Int):stepOf (UW K) (AW K af dl)=([((adB,((0:Int),())),((((100:Int),(LW K af dl,())),((0:Int),())),()))],([(mj (TW K),((0:Int),()))],())):=by unfold stepOf;rw[aSX hk,aUj hk];rw[ayr (gW K af dl)]
theorem aXa{K:Int}(hk:KW K)(af dl h:Int):xQ (BW K h) (stepOf (UW K) (AW K af dl))=AW K af dl:=by
 rw[aVN hk];unfold xQ BW;generalize mj (TW K)=m;have e:zd [(m,((0:Int),()))] [((m,((0:Int),())),(((90:Int),(LW K 0 0,())),(h,())))]=[]:=by exact amy
 rw[e];rfl
theorem aU6(K:Int){af dl:Int}(ha:0<=af/\af<=1048576)(hd:0<=dl/\dl<=1048576):DZ 0 0 (AW K af dl) []:=by refine⟨⟨cU.2 ⟨λh=>(by cases h),fS⟩,λp hp=> ?_⟩,ax _,ax _,λst h=>(by cases h),by show(100+0:Int)<=_;decide,by show 1<=_;decide⟩;rw[bh.1 (show p∈ [GZ 0 ((100:Int),(LW K af dl,()))] from hp)];exact⟨aJi,aSP K ha hd,aUi K af dl,by show(0:Int)<=100;decide,by show(100:Int)<=_;decide,ix 0,by show(0:Int)<=_;decide⟩
theorem aUm(K:Int){af dl:Int}(ha:0<=af/\af<=1048576)(hd:0<=dl/\dl<=1048576):Fj [((100:Int),(LW K af dl,()))]=some (.inr (AW K af dl,[],[])):=by
 have e:ajm [((100:Int),(LW K af dl,()))]=some (AW K af dl):=by
  unfold ajm;rw[if_pos (dI rfl)];have e0:F7 0 ((100:Int),(LW K af dl,()))=true:=by unfold F7;rw[aSP K ha hd];rfl
  rw[W6,e0];rfl
 rw[afq (d:=[((100:Int),(LW K af dl,()))]) (λo ho=>by
  rw[bh.1 ho];exact⟨aUi K af dl,by show 1<=_;decide,by show(100:Int)<=_;decide⟩)]
 simp only[Kh,e];rfl
theorem aSa{K:Int}(hk:KW K):vp.call (TW K,0,0,[K],0)=some (UW K,0):=by rw[aBt (d:=(TW K,0,0,[K],0)) ⟨aVQ K,λx hx=>by rw[bh.1 hx];have:=hk.1;have:=hk.2;exact⟨ak,ak⟩,by show 1<=1000000000;decide⟩];simp only[bt,akA,aHU,aSb hk,bG];rfl
def Ap(h:Int)(p:Bs)(l:List dv)(fill:Int):dh:=(h,(p,(l,(fill,([],())))))
theorem ahx{h:Int}{p:Bs}{l:List dv}{fill:Int}(hh:h<=1048576)(hp:p.length=32)(hf:0<=fill/\fill<=10)(hl:l.length<=1)(hv:∀t∈l,nT t/\gV t=true):WT (Ap h p l fill)/\an5 (Ap h p l fill)=Ap h p l fill:=by have hb:auF (Ap h p l fill):=⟨⟨by show l.length<=_;omega,λt ht=>(hv t ht).1⟩,⟨by show h<=_;omega,hp,by show fill<=_;omega⟩,aJ _,λo ho=>(by cases ho)⟩;exact⟨⟨hb,by show l.length<=_;omega,λt ht=>il (jI (hv t ht).2).1.2.1 (by decide)⟩,ajx hb λt ht=>(hv t ht).2⟩
theorem aQS{x:bF×dQ}:iX [x]=[x]:=List.perm_singleton.1 (xo [x])
theorem aXe{K:Int}(hk:KW K):GI (UW K)=36:=by unfold GI;rw[if_pos (AB hk).1];rfl
theorem aTb(h:Int)(p:Bs)(l:List dv)(fill:Int)(t:dv):awQ (Ap h p l fill) t=false:=by unfold awQ;rw[jq];intro x _ e;cases e
theorem aR2{h:Int}{p:Bs}{fill:Int}{a:At}(h1:1<=h)(h2:h<=1048576)(hf:0<=fill/\fill<=10):tG (Ap h p [] fill) a=(0,0):=by
 have f1:Ia h fill=true:=by unfold Ia;exact aM ⟨h1,h2,ak,ak⟩
 have w1:aQg (Ap h p [] fill)=fill:=rfl;unfold tG;rw[if_pos (show Ia (Ap h p [] fill).1 (Ap h p [] fill).2.2.2.1=true from f1),w1,if_neg ak];rfl
theorem aR3{K:Int}(hk:KW K){h:Int}{p:Bs}{fill:Int}{x:bF×dQ}(h1:1<=h)(h2:h<=1048576)(hf:0<=fill/\fill<=10):tG (Ap h p [UW K] fill) [x]=eK (UW K) h [x]:=by
 have f1:Ia h fill=true:=by unfold Ia;exact aM ⟨h1,h2,ak,ak⟩
 have w1:aQg (Ap h p [UW K] fill)=fill+GI (UW K):=rfl;unfold tG;rw[if_pos (show Ia (Ap h p [UW K] fill).1 (Ap h p [UW K] fill).2.2.2.1=true from f1),w1,aXe hk,if_neg ak];show(R3 (Ap h p [UW K] fill) h [UW K] [x]).2=_;unfold R3;rw[aQS,BM,aTb];simp only[bn,bq];by_cases hc:(eK (UW K) h [x]).2=0
 ·rw[if_neg (λe=>e hc),BM];exact Prod.ext (by show(0:Int)+_=_;omega) hc.symm
 ·rw[if_pos hc];exact Prod.ext (aqZ hc).symm rfl
theorem aJA{h:Int}{p:Bs}{fill:Int}{nb:Nat}{S:aCd}{bs:List dh}(hp:p=rQ nb bs)(hh:h=(nb:Int)+1)(h2:h<=1048576)(hl:p.length=32)(hf:0<=fill/\fill<=10):mg (Ap h p [] fill) nb S bs=(0,nb+1,S.1,S.2.1,S.2.2,bs.take nb++ [Ap h p [] fill]):=by have e:=(ahx (l:=[]) h2 hl hf (by decide) (λt ht=>(by cases ht))).2;unfold mg;rw[if_pos (show(Ap h p [] fill).2.1=rQ nb bs/\(Ap h p [] fill).1=(nb:Int)+1 from⟨hp,hh⟩),aR2 ak h2 hf,if_pos rfl,e];rfl
theorem aS5{K:Int}(hk:KW K){h:Int}{p:Bs}{fill:Int}{nb n:Nat}{x:bF×dQ}{s:List bW}{bs:List dh}(hp:p=rQ nb bs)(hh:h=(nb:Int)+1)(h2:h<=1048576)(hl:p.length=32)(hf:0<=fill/\fill<=10):mg (Ap h p [UW K] fill) nb (n,[x],s) bs=
  if(eK (UW K) h [x]).2=0 then(0,nb+1,n+1,fq (UW K) h [x],s.take n++ [stepOf (UW K) [x]],bs.take nb++ [Ap h p [UW K] fill]) else((eK (UW K) h [x]).2,nb,n,[x],s,bs):=by
 have e:=(ahx (l:=[UW K]) h2 hl hf (by show 1<=1;decide) (λt ht=>by rw[bh.1 ht];exact⟨(AB hk).2.1,(AB hk).1⟩)).2;unfold mg;rw[if_pos (show(Ap h p [UW K] fill).2.1=rQ nb bs/\(Ap h p [UW K] fill).1=(nb:Int)+1 from⟨hp,hh⟩),aR3 hk ak h2 hf,e];by_cases hc:(eK (UW K) h [x]).2=0
 ·rw[if_pos hc,if_pos hc];have eb:axg (Ap h p [UW K] fill) (n,[x],s)=alg h (n,[x],s) (UW K):=rfl;rw[eb];unfold alg;rw[if_neg (λe=>e hc)]
 ·rw[if_neg hc,if_neg hc]
theorem aKd{n nb:Nat}{a:At}{s:List bW}{bs:List dh}(h:ap3 nb bs):Lx.call (nb,n,a,s,bs)=some ((nb,n,a,s,bs),rQ nb bs):=afw (d:=(nb,n,a,s,bs)) h
theorem YY{n nb:Nat}{a:At}{s:List bW}{bs:List dh}:pf.call (nb,n,a,s,bs)=some ((nb,n,a,s,bs),(nb:Int)):=Fi (d:=(nb,n,a,s,bs)) trivial
theorem B8(b:dh):(aqA b).length=32:=(akc _ _).1
theorem BF(nb:Nat)(bs:List dh):(rQ nb bs).length=32:=by
 unfold rQ;split
 ·exact b8
 ·exact B8 _
theorem aJ8{nb:Nat}{bs:List dh}{b:dh}(h:ap3 nb bs)(hn:nb<=1000)(hb:auF b):ap3 (nb+1) (bs.take nb++ [b]):=by
 have h1:nb<=bs.length:=h.1;refine⟨by rw[ai,bp];show nb+1<=min nb bs.length+1;omega,ak,λx hx=> ?_⟩;rcases bB.1 hx with hx | hx
 ·exact h.2.2 x (fg hx)
 ·rw[bh.1 hx];exact hb
theorem aVO{K:Int}(hk:KW K){h:Int}{p:Bs}{fill:Int}(hh:h<=1048576)(hp:p.length=32)(hf:0<=fill/\fill<=10):WT (Ap h p [UW K] fill):=(ahx hh hp hf (by show 1<=1;decide) (λt ht=>by rw[bh.1 ht];exact⟨(AB hk).2.1,(AB hk).1⟩)).1
theorem aTg{h:Int}{p:Bs}{fill:Int}(hh:h<=1048576)(hp:p.length=32)(hf:0<=fill/\fill<=10):WT (Ap h p [] fill):=(ahx hh hp hf (by decide) (λt ht=>(by cases ht))).1
theorem aW6{K:Int}(hk:KW K)(af dl:Int):ahn (stepOf (UW K) (AW K af dl)):=by rw[aVN hk];exact⟨by show 1<=_;decide,by show 1<=_;decide⟩
theorem aWW:¬mj (TW 7)=adB:=aUl
theorem aNf:(0:Int)<=0/\(0:Int)<=1048576:=⟨by decide,by decide⟩
theorem aJm:(0:Int)<=0/\(0:Int)<=10:=⟨by decide,by decide⟩
def sW(K:Int):bW:=stepOf (UW K) (AW K 0 0)
theorem aTd{b c:dh}(hb:auF b)(hc:auF c):ap3 2 [b,c]:=⟨ax _,by decide,λx hx=>by
 rcases cd.1 hx with rfl | hx
 ·exact hb
 ·rw[bh.1 hx];exact hc⟩
theorem aVY{K:Int}(hk:KW K)(gC:¬mj (TW K)=adB)(h:Int)(h1:1<=h)(h2:h<=1048576):eK (UW K) h (AW K 0 0)=(10,0):=by rw[aVZ hk gC aNf aNf h1 h2,if_neg ak]
theorem aU5{K:Int}(hk:KW K)(gC:¬mj (TW K)=adB){h:Int}{p:Bs}{nb n:Nat}{s:List bW}{bs:List dh}(hp:p=rQ nb bs)(hh:h=(nb:Int)+1)(h2:h<=1048576)(hl:p.length=32):mg (Ap h p [UW K] 0) nb (n,AW K 0 0,s) bs=(0,nb+1,n+1,BW K h,s.take n++ [sW K],bs.take nb++ [Ap h p [UW K] 0]):=by have e:=aS5 hk (h:=h) (p:=p) (fill:=0) (nb:=nb) (n:=n) (x:=GZ 0 ((100:Int),(LW K 0 0,()))) (s:=s) (bs:=bs) hp hh h2 hl aJm;rw[show([GZ 0 ((100:Int),(LW K 0 0,()))]:At)=AW K 0 0 from rfl,aVY hk gC h ak h2,if_pos rfl,aVW hk]at e;exact e
theorem aW3{K:Int}(hk:KW K):DZ 400 0 (AW K 0 0) [sW K]:=by have h:=aU6 K aNf aNf;exact⟨h.C7,aJ _,by show 1<=_;decide,λst mB=>by rw[bh.1 mB];exact aW6 hk 0 0,h.sum,by show 1<=_;decide⟩
def th(a a':At):Prop:=∀o,bQ bl o a=bQ bl o a'
theorem th.refl(a:At):th a a:=λ_=>rfl
theorem th.symm{a b:At}(h:th a b):th b a:=λo=>(h o).symm
theorem th.trans{a b c:At}(h:th a b)(h':th b c):th a c:=λo=>(h o).trans (h' o)
theorem th.perm{a b:At}(h:th a b)(ha:(eC a).Nodup)(hb:(eC b).Nodup):a.Perm b:=aNd ha hb h
theorem aEs{a b:At}(hb:(eC b).Nodup)(h:a.Perm b):th a b:=λo=>aGJ hb h o
theorem th.del{a b:At}(h:th a b)(ha:(eC a).Nodup)(hb:(eC b).Nodup)(l:List bF):th (zd l a) (zd l b):=λo=>by
 rw[ZO o l ha,ZO o l hb,h o]
theorem KI(e:XA)(l:List XA)(a:At):abn (e::l) a=abn l (eF bl e.1 e.2.1 a):=rfl
theorem th.set{a b:At}(h:th a b)(o:bF)(c:dQ):th (eF bl o c a) (eF bl o c b):=λx=>by rw[ayu,ayu,h x]
theorem th.put:∀(l:List XA) {a b:At},th a b->th (abn l a) (abn l b)
 |[],_,_,h=>h
 |e::l,a,b,h=>by rw[KI,KI];exact th.put l (h.set _ _)
theorem abo:∀(l:List XA) {a:At},(eC a).Nodup->(eC (abn l a)).Nodup
 |[],_,h=>h
 |e::l,a,h=>by rw[KI];exact abo l (NO h)
theorem apP{a:At}(h:(eC a).Nodup)(st:bW):(eC (xQ a st)).Nodup:=abo _ (FC _ h)
theorem th.aSj{a b:At}(h:th a b)(ha:(eC a).Nodup)(hb:(eC b).Nodup)(st:bW):th (xQ a st) (xQ b st):=th.put _ (h.del ha hb _)
theorem th.add(h:Int):∀(l:List bF) (xs:List gf) {a b:At},th a b->th (M1 h l xs a) (M1 h l xs b)
 |[],[],_,_,e=>e
 |[],_::_,_,_,e=>e
 |_::_,[],_,_,e=>e
 |o::l,x::xs,a,b,e=>by rw[Ao,Ao];exact th.add h l xs (e.set _ _)
theorem th.apply{a b:At}(e:th a b)(ha:(eC a).Nodup)(hb:(eC b).Nodup)(t:dv)(h:Int):th (fq t h a) (fq t h b):=th.add h _ _ (e.del ha hb _)
theorem th.ins{a b:At}(e:th a b)(h:Int)(id:List Int):∀(l:List gG) (f:Int),xx h id a l f=xx h id b l f
 |[],_=>rfl
 |x::l,f=>by
  simp only[xx,e x.1];cases bQ bl x.1 b with
  |none=>rfl
  |some c=>simp only[th.ins e h id l]
theorem th.check{a b:At}(e:th a b)(t:dv)(h:Int):eK t h a=eK t h b:=by
 have e2:qw a=qw b:=funext λo=>by unfold qw;rw[e o]
 unfold eK;rw[e.ins,e2]
theorem aNe(x:bF):∀(l:List bF) {a:At} (b:At),(eC a).Nodup->l.Nodup->(∀o∈l,(bQ bl o a).isSome=true)->bQ bl x (abn (vm a l) b)=if x∈l then bQ bl x a else bQ bl x b
 |[],a,b,_,_,_=>by rw[if_neg (by simp)];rfl
 |o::l,a,b,hn,hl,ht=>by
  rw[cU]at hl;obtain⟨c,hc⟩:=bN.1 (ht o aL);have ht':∀y∈l,(bQ bl y (gT bl o a)).isSome=true:=λy hy=>by rw[amU y o hn,if_neg (λe=>hl.1 (by rw[<-e];exact hy))];exact ht y (aI _ hy)
  rw[vm,KI,aNe x l _ (pA hn) hl.2 ht',amU x o hn,hc];by_cases h1:x∈l
  ·have h2:¬x=o:=λe=>hl.1 (by rw[<-e];exact h1)
   rw[if_pos h1,if_neg h2,if_pos (aI _ h1)]
  ·rw[if_neg h1];show bQ bl x (eF bl o c b)=_;rw[ayu];by_cases h2:x=o
   ·subst h2;rw[if_pos rfl,if_pos aL,hc]
   ·rw[if_neg h2,if_neg (by simp[h1,h2])]
theorem aus{t:dv}{h oH:Int}{a:At}(hc:vu t h a oH)(ha:(eC a).Nodup):th (xQ (fq t h a) (stepOf t a)) a:=λo=>by
 unfold xQ stepOf;rw[aNe o (dN t) _ ha (RI t) hc.there];by_cases h1:o∈dN t
 ·rw[if_pos h1]
 ·rw[if_neg h1];show bQ bl o (zd (gS t) (fq t h a))=_;rw[ZO o _ (im ha)];by_cases h2:o∈gS t
  ·rw[if_pos h2,hc.made o h2]
  ·rw[if_neg h2,O8 ha h1 h2]
section
abbrev ak3:=List (dv×Int)
def mz:At->ak3->At
 |a,[]=>a
 |a,x::l=>mz (fq x.1 x.2 a) l
def mK:At->ak3->List bW
 |_,[]=> []
 |a,x::l=>stepOf x.1 a::mK (fq x.1 x.2 a) l
def tY:At->ak3->Prop
 |_,[]=>True
 |a,x::l=>(eK x.1 x.2 a).2=0/\nT x.1/\tY (fq x.1 x.2 a) l
theorem E6:∀(l l':ak3) (a:At),mz a (l++l')=mz (mz a l) l'
 |[],_,_=>rfl
 |x::l,l',a=>E6 l l' (fq x.1 x.2 a)
theorem Gu:∀(l l':ak3) (a:At),mK a (l++l')=mK a l++mK (mz a l) l'
 |[],_,_=>rfl
 |x::l,l',a=>by show stepOf x.1 a::mK (fq x.1 x.2 a) (l++l')=_;rw[Gu l l'];rfl
theorem acC:∀(l:ak3) (a:At),(mK a l).length=l.length
 |[],_=>rfl
 |x::l,a=>bo (· +1) (acC l (fq x.1 x.2 a))
theorem Fp:∀(l l':ak3) (a:At),tY a (l++l')↔tY a l/\tY (mz a l) l'
 |[],_,_=>⟨λh=>⟨trivial,h⟩,λh=>h.2⟩
 |x::l,l',a=>by have ih:=Fp l l' (fq x.1 x.2 a);exact⟨λh=>⟨⟨h.1,h.2.1,(ih.1 h.2.2).1⟩,(ih.1 h.2.2).2⟩,λh=>⟨h.1.1,h.1.2.1,ih.2 ⟨h.1.2.2,h.2⟩⟩⟩
theorem SR:∀ {l:ak3} {a:At},tY a l->∀x∈l,gV x.1=true/\nT x.1
 |[],_,_,_,hx=>(by cases hx)
 |x::l,a,h,y,hy=>by
  rcases cd.1 hy with rfl | hy
  ·exact⟨(Kg h.1).1,h.2.1⟩
  ·exact SR h.2.2 y hy
theorem Za:∀ {l:ak3} {a:At},tY a l->∀st∈mK a l,ahn st
 |[],_,_,_,hx=>(by cases hx)
 |x::l,a,h,y,hy=>by
  rcases cd.1 hy with rfl | hy
  ·exact apr (PE h.1)
  ·exact Za h.2.2 y hy
theorem Zb:∀(l:ak3) {n:Nat} {a:At} {s:List bW},s.length=n->DZ n n a s->tY a l->DZ (n+l.length) (n+l.length) (mz a l) (s++mK a l)
 |[],n,a,s,_,hg,_=>by show DZ n n a (s++ []);rw[ba];exact hg
 |x::l,n,a,s,hs,hg,hc=>by have h1:=hg.app (PE hc.1) hc.2.1;rw[aY ak]at h1;have:=Zb l (s:=s++ [stepOf x.1 a]) (by rw[ai,hs];rfl) h1 hc.2.2;rw[aF,show n+1+l.length=n+(l.length+1) by omega]at this;exact this
theorem th.gone:∀(l:List bF) {a b:At},th a b->(eC a).Nodup->(eC b).Nodup->vm a l=vm b l
 |[],_,_,_,_,_=>rfl
 |o::l,a,b,e,ha,hb=>by rw[vm,vm,e o,th.gone l (a:=gT bl o a) (b:=gT bl o b) (λx=>by rw[amU x o ha,amU x o hb,e x]) (pA ha) (pA hb)]
theorem th.step{a b:At}(e:th a b)(ha:(eC a).Nodup)(hb:(eC b).Nodup)(t:dv):stepOf t a=stepOf t b:=by unfold stepOf;rw[e.gone _ ha hb]
theorem ug:∀(l:ak3) {a:At},(eC a).Nodup->(eC (mz a l)).Nodup
 |[],_,h=>h
 |_::l,_,h=>ug l (im h)
theorem th.mz:∀(l:ak3) {a b:At},th a b->(eC a).Nodup->(eC b).Nodup->th (mz a l) (Ab.mz b l)
 |[],_,_,e,_,_=>e
 |_::l,_,_,e,ha,hb=>th.mz l (e.apply ha hb _ _) (im ha) (im hb)
theorem th.mK:∀(l:ak3) {a b:At},th a b->(eC a).Nodup->(eC b).Nodup->mK a l=Ab.mK b l
 |[],_,_,_,_,_=>rfl
 |x::l,a,b,e,ha,hb=>by show stepOf x.1 a::Ab.mK (fq x.1 x.2 a) l=stepOf x.1 b::Ab.mK (fq x.1 x.2 b) l;rw[e.step ha hb,th.mK l (e.apply ha hb _ _) (im ha) (im hb)]
theorem th.arc:∀(l:ak3) {a b:At},th a b->(eC a).Nodup->(eC b).Nodup->tY a l->tY b l
 |[],_,_,_,_,_,_=>trivial
 |x::l,a,b,e,ha,hb,h=>⟨by rw[<-e.check];exact h.1,h.2.1,th.arc l (e.apply ha hb _ _) (im ha) (im hb) h.2.2⟩
theorem aA5{s q:List bW}{st:bW}{n:Nat}(hn:n<=s.length)(h:s.take n=q++ [st]):n=q.length+1/\nth cD s (n - 1)=st/\s.take (n - 1)=q:=by
 have hl:n=q.length+1:=by have:=bo ag h;rw[bp,ai]at this;simp only[aA,aZ]at this;omega
 subst hl;have h1:q.length < s.length:=ak;have e:s.take (q.length+1)=s.take q.length++ [s[q.length]]:=by rw[List.take_add_one,bT h1];rfl
 rw[e]at h;obtain⟨h2,h3⟩:=List.append_inj' h rfl;refine⟨rfl,?_,h2⟩;rw[iT,cg (t:=cD) h1];exact(List.cons.inj h3).1
theorem adl:∀(k:Nat) (l:ak3) {a0 a:At} {n:Nat} {s p:List bW},l.length=k->tY a0 l->(eC a0).Nodup->(eC a).Nodup->th a (mz a0 l)->n<=s.length->s.take n=p++mK a0 l->
  ∃a',EY k (n,a,s)=(true,n - k,a',s)/\th a' a0/\(eC a').Nodup/\s.take (n - k)=p/\k<=n
 | 0,l,a0,a,n,s,p,hl,_,_,ha,he,_,hs=>by obtain rfl:=bD hl;exact⟨a,rfl,he,ha,by rw[show mK a0 []=[] from rfl,ba]at hs;exact hs,aJ _⟩
 |k+1,l,a0,a,n,s,p,hl,hc,h0,ha,he,hn,hs=>by
  have gC:l≠ []:=λe=>by rw[e]at hl;cases hl
  have el:=List.dropLast_concat_getLast gC;generalize l.getLast gC=x at el;generalize hl':l.dropLast=l' at el;have hk:l'.length=k:=by rw[<-hl',List.length_dropLast];omega
  subst el;obtain⟨c1,c2⟩:=(Fp l' [x] a0).1 hc;rw[Gu,<-aF]at hs;obtain⟨e1,e2,e3⟩:=aA5 hn hs;rw[E6]at he;have hn':=ug l' h0;have e4:th (xQ a (stepOf x.1 (mz a0 l'))) (mz a0 l'):=(he.aSj ha (im hn') _).trans (aus (PE c2.1) hn');obtain⟨a',f1,f2,f3,f4,f5⟩:=adl k l' (a:=xQ a (stepOf x.1 (mz a0 l'))) (n:=n - 1) (s:=s) (p:=p) hk c1 h0 (apP ha _) e4 ak e3;refine⟨a',?_,f2,f3,by rw[show n - (k+1)=n - 1 - k by omega];exact f4,ak⟩;have aK4:¬n=0:=ak;rw[EY,if_neg (show ¬(n,a,s).1=0 from aK4)];show EY k (n - 1,xQ a (nth cD s (n - 1)),s)=_;rw[e2,f1,show n - 1 - k=n - (k+1) by omega]
def aIG(b:dh):ak3:=b.2.2.1.map λt=>(t,b.1)
def LU(bs:List dh):ak3:=bs.flatMap aIG
theorem Kr(l l':List dh):LU (l++l')=LU l++LU l':=List.flatMap_append
theorem Ks(b:dh):LU [b]=aIG b:=ba _
theorem apQ(b:dh)(h:Int):∀(l:List dv) (k fees:Int) (a:At) (x:Int×Int×Int),BM b h l k fees a= .inl x->x.2.2≠0
 |[],_,_,_,_,e=>by rw[BM]at e;cases e
 |t::l,k,fees,a,x,e=>by
  rw[BM]at e;split at e
  ·obtain rfl:=Sum.inl.inj e;show(14:Int)≠0;decide
  ·split at e
   ·rename_i h2;obtain rfl:=Sum.inl.inj e;exact h2
   ·exact apQ b h l _ _ _ x e
theorem ado(b:dh)(h:Int):∀(l:List dv) (k fees:Int) (a:At) (f:Int),(∀t∈l,nT t)->BM b h l k fees a= .inr f->tY a (l.map λt=>(t,h))
 |[],_,_,_,_,_,_=>trivial
 |t::l,k,fees,a,f,hv,e=>by
  rw[BM]at e;split at e
  ·cases e
  ·split at e
   ·cases e
   ·rename_i h2;exact⟨Decidable.not_not.1 h2,hv t aL,ado b h l _ _ _ f (λy hy=>hv y (aI _ hy)) e⟩
theorem afl{a:At}(ha:(eC a).Nodup):th (iX a) a/\(eC (iX a)).Nodup:=by have hp:=xo a;exact⟨aEs ha hp,(hp.map _).nodup_iff.2 ha⟩
theorem asF{b:dh}{a:At}(hb:WT b)(ha:(eC a).Nodup)(e:(tG b a).2=0):tY a (aIG b):=by
 obtain⟨c1,c2⟩:=afl ha;unfold tG at e;split at e
 ·split at e
  ·cases e
  ·have e:(R3 b b.1 b.2.2.1 a).2.2=0:=e;unfold R3 at e;split at e
   ·rename_i x hx;exact absurd e (apQ _ _ _ _ _ _ _ hx)
   ·rename_i f hf;exact c1.arc _ c2 ha (ado _ _ _ _ _ _ _ hb.1.1.2 hf)
 ·cases e
theorem afj(h:Int):∀(l:List dv) {n:Nat} {a:At} {s:List bW},tY a (l.map λt=>(t,h))->n<=s.length->
  ∃s',l.foldl (alg h) (n,a,s)=(n+l.length,mz a (l.map λt=>(t,h)),s')/\s'.take (n+l.length)=s.take n++mK a (l.map λt=>(t,h))/\n+l.length<=s'.length/\(s'.length<=s.length\/s'.length<=n+l.length)/\∀st∈s',st∈s\/st∈mK a (l.map λt=>(t,h))
 |[],n,a,s,_,hn=>⟨s,rfl,(ba _).symm,hn,.inl (ax _),λst h=> .inl h⟩
 |t::l,n,a,s,hc,hn=>by
  obtain⟨c1,c2,c3⟩:=hc;have e:alg h (n,a,s) t=(n+1,fq t h a,s.take n++ [stepOf t a]):=if_neg (λx=>x c1);have hl:(s.take n++ [stepOf t a]).length=n+1:=by rw[ai,bp];simp only[aA,aZ];omega
  obtain⟨s',e1,e2,e3,e4,e5⟩:=afj h l (n:=n+1) (a:=fq t h a) (s:=s.take n++ [stepOf t a]) c3 ak;have en:n+1+l.length=n+(t::l).length:=by rw[aA];omega
  rw[en]at e1 e2 e3 e4;refine⟨s',?_,?_,e3,.inr ak,λst mB=> ?_⟩
  ·rw[bA,e];exact e1
  ·rw[e2,aY ak,aF];rfl
  ·rcases e5 st mB with h1 | h1
   ·rcases bB.1 h1 with h2 | h2
    ·exact .inl (fg h2)
    ·exact .inr (by rw[bh.1 h2];exact aL)
   ·exact .inr (aI _ h1)
structure rk(A0:At)(m nb n:Nat)(a:At)(s:List bW)(bs:List dh):Prop where
 aPa:DZ 0 0 A0 []
 ch:ap3 nb bs
 asu:(eC a).Nodup
 aQh:tY A0 (LU (bs.take nb))
 eqv:th a (mz A0 (LU (bs.take nb)))
 aIc:s.take n=mK A0 (LU (bs.take nb))
 le:n<=s.length
 len:s.length<=m
 aSg:∀st∈s,ahn st
section
variable {A0:At} {m nb n:Nat} {a:At} {s:List bW} {bs:List dh}
theorem rk.aUK(h:rk A0 m nb n a s bs){m':Nat}(hm:m<=m'):DZ m' n a s:=by
 have hg:=Zb (LU (bs.take nb)) (n:=0) (s:=[]) rfl h.aPa h.aQh;have hp:=h.eqv.perm h.asu hg.C7.1;have hn:n=(LU (bs.take nb)).length:=by have:=bo ag h.aIc;rw[acC,bp]at this;have:=h.le;omega
 exact⟨hg.C7.perm hp.symm,h.le,il h.len hm,h.aSg,by rw[Ss hp];exact hg.sum,by rw[hp.length_eq];have:=hg.aSv;have:=h.le;have:=h.len;omega⟩
theorem rk.mono(h:rk A0 m nb n a s bs){m':Nat}(hm:m<=m'):rk A0 m' nb n a s bs:=⟨h.aPa,h.ch,h.asu,h.aQh,h.eqv,h.aIc,h.le,il h.len hm,h.aSg⟩
theorem rk.new(h:DZ 0 0 A0 []):rk A0 0 0 0 A0 [] []:=⟨h,⟨ax _,by decide,λb hb=>(by cases hb)⟩,h.C7.1,trivial,th.refl _,rfl,ax _,ax _,λst mB=>(by cases mB)⟩
theorem rk.aSS(h:rk A0 m nb n a s bs){b:dh}(hb:b∈bs.take nb){t:dv}(ht:t∈b.2.2.1):gV t=true/\nT t:=SR h.aQh (t,b.1) (qj.2 ⟨b,hb,cS.2 ⟨t,ht,rfl⟩⟩)
theorem rk.pre(h:rk A0 m nb n a s bs){b:dh}(hb:WT b)(hm:m<=400):SL (b,nb,n,a,s,bs):=⟨hb,h.aUK hm,h.ch⟩
theorem rk.aS6(h:rk A0 m nb n a s bs){b:dh}(hb:WT b)(hm:m<=400):GU.call (b,nb,n,a,s,bs)=some (mg b nb (n,a,s) bs):=afo (d:=(b,nb,n,a,s,bs)) (h.pre hb hm)
theorem rk.add(h:rk A0 m nb n a s bs){b:dh}(hb:WT b){m':Nat}(hm:m+b.2.2.1.length<=m')(aE1:nb<=1000):
  (∃e,e≠0/\mg b nb (n,a,s) bs=(e,nb,n,a,s,bs))\/
  ∃n' a' s',mg b nb (n,a,s) bs=(0,nb+1,n',a',s',bs.take nb++ [b])/\rk A0 m' (nb+1) n' a' s' (bs.take nb++ [b])/\b.2.1=rQ nb bs/\b.1=(nb:Int)+1:=by
 have hle:nb<=bs.length:=h.ch.1;unfold mg;by_cases ht:b.2.1=rQ nb bs/\b.1=(nb:Int)+1;rotate_left
 ·left;rw[if_neg ht];exact⟨1,by decide,rfl⟩
 rw[if_pos ht];by_cases hp:(tG b a).2=0;rotate_left
 ·left;rw[if_neg (show ¬(tG b (n,a,s).2.1).2=0 from hp)];exact⟨_,hp,rfl⟩
 right;have hc:=asF hb h.asu hp;obtain⟨s',e1,e2,e3,e4,e5⟩:=afj b.1 b.2.2.1 (s:=s) hc h.le;have ho:an5 b=b:=ajx hb.1 λt ht=>(SR hc (t,b.1) (cS.2 ⟨t,ht,rfl⟩)).1
 have aV7:axg b (n,a,s)=(n+b.2.2.1.length,mz a (aIG b),s'):=e1;have hlen:(bs.take nb++ [b]).length=nb+1:=by rw[ai,bp];simp only[aA,aZ];omega
 have ayE:(bs.take nb++ [b]).take (nb+1)=bs.take nb++ [b]:=aY ak;have hA:=ug (LU (bs.take nb)) h.aPa.C7.1;rw[if_pos (show(tG b (n,a,s).2.1).2=0 from hp),aV7,ho];have hs:=h.len;refine⟨_,_,s',rfl,⟨h.aPa,aJ8 h.ch aE1 hb.1,ug _ h.asu,?_,?_,?_,e3,by have:=h.le;omega,λst mB=> ?_⟩,ht⟩
 ·rw[ayE,Kr,Ks,Fp];exact⟨h.aQh,h.eqv.arc _ h.asu hA hc⟩
 ·rw[ayE,Kr,Ks,E6];exact h.eqv.mz _ h.asu hA
 ·rw[ayE,Kr,Ks,Gu,<-h.eqv.mK _ h.asu hA,<-h.aIc];exact e2
 ·rcases e5 st mB with h1 | h1
  ·exact h.aSg st h1
  ·exact Za hc st h1
theorem rk.back:∀(d:Nat) {nb n:Nat} {a:At},rk A0 m nb n a s bs->d<=nb->∃n' a',xm bs d (nb,n,a,s)=(nb - d,n',a',s)/\rk A0 m (nb - d) n' a' s bs
 | 0,nb,n,a,h,_=>⟨n,a,rfl,h⟩
 |d+1,nb,n,a,h,hd=>by
  obtain⟨p,rfl⟩:∃p,nb=p+1:=⟨nb - 1,ak⟩;have hl:p+1<=bs.length:=h.ch.1;have hp:p < bs.length:=ak;have et:bs.take (p+1)=bs.take p++ [bs[p]]:=by rw[List.take_add_one,bT hp];rfl
  have n1:nth dR bs p=bs[p]:=cg (t:=dR) hp;have hc:=h.aQh;have he:=h.eqv;have hs:=h.aIc;rw[et,Kr,Ks]at hc he hs;obtain⟨c1,c2⟩:=(Fp _ _ _).1 hc;rw[E6]at he;rw[Gu]at hs;obtain⟨a',f1,f2,f3,f4,f5⟩:=adl bs[p].2.2.1.length (aIG bs[p]) (bU _) c2 (ug _ h.aPa.C7.1) h.asu he h.le hs;have h':rk A0 m p (n - bs[p].2.2.1.length) a' s bs:=⟨h.aPa,⟨ak,by have:=h.ch.2.1;omega,h.ch.2.2⟩,f3,c1,f2,f4,by have:=h.le;omega,h.len,h.aSg⟩;obtain⟨n'',a'',g1,g2⟩:=rk.back d h' ak;refine⟨n'',a'',?_,by rw[show p+1 - (d+1)=p - d by omega];exact g2⟩;rw[xm];show xm bs d (p+1 - 1,(EY (nth dR bs (p+1 - 1)).2.2.1.length (n,a,s)).2)=_;rw[iT,n1,f1,g1,show p+1 - (d+1)=p - d by omega]
def Up:List dh->Nat
 |[]=>0
 |b::l=>b.2.2.1.length+Up l
theorem rk.aNX:∀(l:List dh) {m nb n:Nat} {a:At} {s:List bW} {bs:List dh},rk A0 m nb n a s bs->(∀b∈l,WT b)->m+Up l<=400->nb+l.length<=1000->
  Ye l (nb,n,a,s,bs)/\((jg l (nb,n,a,s,bs)).1≠0\/∃n' a' s' bs',jg l (nb,n,a,s,bs)=(0,nb+l.length,n',a',s',bs')/\rk A0 (m+Up l) (nb+l.length) n' a' s' bs'/\bs'.take (nb+l.length)=bs.take nb++l)
 |[],m,nb,n,a,s,bs,h,_,_,_=>⟨trivial,.inr ⟨n,a,s,bs,rfl,h,(ba _).symm⟩⟩
 |b::l,m,nb,n,a,s,bs,h,hl,hm,hn=>by
  rw[Up]at hm;rw[aA]at hn;have hb:=hl b aL;have hle:nb<=bs.length:=h.ch.1;have aiQ:=h.pre hb ak;rcases h.add hb (ax _) ak with⟨e,he,ha⟩ | ⟨n',a',s',ha,h',_,_⟩
  ·refine⟨⟨aiQ,λh0=> ?_⟩,.inl ?_⟩
   ·have h0:(mg b nb (n,a,s) bs).1=0:=h0;rw[ha]at h0;exact absurd h0 he
   ·rw[jg];show(if(mg b nb (n,a,s) bs).1≠0 then mg b nb (n,a,s) bs else _).1≠0;rw[ha,if_pos he];exact he
  ·obtain⟨i1,i2⟩:=rk.aNX l h' (λx hx=>hl x (aI _ hx)) ak ak;have hlen:(bs.take nb++ [b]).length=nb+1:=by rw[ai,bp];simp only[aA,aZ];omega
   have ayE:(bs.take nb++ [b]).take (nb+1)=bs.take nb++ [b]:=aY ak;have ek:jg (b::l) (nb,n,a,s,bs)=jg l (nb+1,n',a',s',bs.take nb++ [b]):=by rw[jg];show(if(mg b nb (n,a,s) bs).1≠0 then mg b nb (n,a,s) bs else jg l (mg b nb (n,a,s) bs).2)=_;rw[ha,if_neg (λe=>e rfl)]
   refine⟨⟨aiQ,λ_=> ?_⟩,?_⟩
   ·show Ye l (mg b nb (n,a,s) bs).2;rw[ha];exact i1
   ·rw[ek,show nb+(b::l).length=nb+1+l.length by rw[aA];omega,Up,<-eO];rcases i2 with i2 | ⟨n2,a2,s2,bs2,j1,j2,j3⟩
    ·exact .inl i2
    ·refine .inr ⟨n2,a2,s2,bs2,j1,j2,?_⟩;rw[j3,ayE,aF];rfl
theorem rk.copy(h:rk A0 m nb n a s bs):rk A0 m nb n (iX a) (s.take n) (bs.take nb):=by
 obtain⟨c1,c2⟩:=afl h.asu;have hle:nb<=bs.length:=h.ch.1;have e1:(bs.take nb).take nb=bs.take nb:=by rw[eJ,Nat.min_self]
 have e2:(s.take n).take n=s.take n:=by rw[eJ,Nat.min_self]
 have hl:=h.le;refine⟨h.aPa,⟨by rw[bp];omega,h.ch.2.1,λb hb=>h.ch.2.2 b (fg hb)⟩,c2,by rw[e1];exact h.aQh,by rw[e1];exact c1.trans h.eqv,by rw[e1,e2];exact h.aIc,by rw[bp];omega,by have:=h.len;rw[bp];omega,λst mB=>h.aSg st (fg mB)⟩
theorem rk.aHe(h:rk A0 m nb n a s bs)(d:Int){l:List dh}(hl:∀b∈l,WT b)(hm:m+Up l<=400)(hn:nb+l.length<=1000):
  (∃e,e≠0/\lr (d,l,nb,n,a,s,bs)=some (.inl (e,nb,n,a,s,bs)))\/
  ∃n' a' s' bs',lr (d,l,nb,n,a,s,bs)=some (.inr (0,nb - d.toNat+l.length,n,a,s,bs,n',a',s',bs'))/\(1<=d/\d<=nb/\d < l.length/\d<=6)/\
   rk A0 (m+Up l) (nb - d.toNat+l.length) n' a' s' bs'/\bs'.take (nb - d.toNat+l.length)=bs.take (nb - d.toNat)++l:=by
 have key:∀(hd:1<=d/\d<=nb/\d < l.length/\d<=6),∃n1 a1,AE d nb n a s bs=(nb - d.toNat,n1,a1,s.take n,bs.take nb)/\rk A0 m (nb - d.toNat) n1 a1 (s.take n) (bs.take nb):=λhd=>by obtain⟨n1,a1,e1,e2⟩:=rk.back d.toNat h.copy ak;refine⟨n1,a1,?_,e2⟩;unfold AE;rw[e1]
 have aiQ:xp (d,l,nb,n,a,s,bs):=⟨h.ch,h.aUK ak,by show l.length<=_;omega,λhd=>by
  obtain⟨n1,a1,e1,e2⟩:=key hd;rw[e1];exact(rk.aNX l e2 hl hm ak).1⟩
 have hr:=UY (d:=(d,l,nb,n,a,s,bs)) aiQ;by_cases h1:1<=d/\d<=nb/\d < l.length;rotate_left
 ·left;refine⟨1,by decide,hr.trans (bo some ?_)⟩;have:js (d,l,nb,n,a,s,bs)= .inl (1,nb,n,a,s,bs):=if_neg h1;rw[this];rfl
 by_cases h2:d<=6;rotate_left
 ·left;refine⟨25,by decide,hr.trans (bo some ?_)⟩;have:js (d,l,nb,n,a,s,bs)= .inl (25,nb,n,a,s,bs):=(if_pos h1).trans (if_neg h2);rw[this];rfl
 have hd:1<=d/\d<=nb/\d < l.length/\d<=6:=⟨h1.1,h1.2.1,h1.2.2,h2⟩;obtain⟨n1,a1,e1,e2⟩:=key hd
 have hF:js (d,l,nb,n,a,s,bs)=if(jg l (AE d nb n a s bs)).1≠0 then .inl ((jg l (AE d nb n a s bs)).1,nb,n,a,s,bs)
   else .inr (0,(jg l (AE d nb n a s bs)).2.1,n,a,s,bs,(jg l (AE d nb n a s bs)).2.2):=(if_pos h1).trans (if_pos h2)
 rw[e1]at hF;have etk:(bs.take nb).take (nb - d.toNat)=bs.take (nb - d.toNat):=by rw[eJ,dU ak]
 rcases(rk.aNX l e2 hl hm ak).2 with e3 | ⟨n2,a2,s2,bs2,f1,f2,f3⟩
 ·left;refine⟨_,e3,hr.trans (bo some ?_)⟩;rw[hF,if_pos e3];rfl
 ·right;refine⟨n2,a2,s2,bs2,hr.trans (bo some ?_),hd,f2,by rw[f3,etk]⟩;rw[hF,f1,if_neg (λe=>e rfl)];rfl
def yn(o:bF):List dh->Int->Option (dv×Int)
 |[],_=>none
 |b::l,i=>match Uh o b.2.2.1 with | some t=>some (t,i+1) | none=>yn o l (i+1)
theorem akf{o:bF}:∀ {l:List dv} {t:dv},Uh o l=some t->t∈l
 |[],_,e=>by cases e
 |x::l,t,e=>by
  rw[Uh]at e;split at e
  ·rw[<-bk e];exact aL
  ·exact aI _ (akf e)
theorem agY{o:bF}:∀ {l:List dh} {i:Int},(∀b∈l,∀t∈b.2.2.1,gV t=true/\nT t)->BD o l i=yn o l i
 |[],_,_=>rfl
 |b::l,i,h=>by
  rw[BD,yn];cases e:Uh o b.2.2.1 with
  |none=>exact agY λx hx=>h x (aI _ hx)
  |some t=>
   have:=h b aL t (akf e);show some (aqb t,i+1)=some (t,i+1);rw[TM this.2 this.1]
theorem ake{o:bF}:∀ {l:List dh} {i:Int} {x:dv×Int},yn o l i=some x->i+1<=x.2/\x.2<=i+l.length/\∃b∈l,x.1∈b.2.2.1
 |[],_,_,e=>by cases e
 |b::l,i,x,e=>by
  rw[yn]at e;rw[aA];cases es:Uh o b.2.2.1 with
  |none=>
   rw[es]at e;obtain⟨h1,h2,c,h3,h4⟩:=ake e;exact⟨ak,ak,c,aI _ h3,h4⟩
  |some t=>
   rw[es]at e;obtain rfl:=bk e;exact⟨ix _,by show i+1<=_;omega,b,aL,akf es⟩
theorem X8{o:bF}:∀(l l':List dh) (i:Int),yn o (l++l') i=match yn o l i with | some x=>some x | none=>yn o l' (i+l.length)
 |[],l',i=>by show yn o l' i=yn o l' (i+((0:Nat):Int));rw[show i+((0:Nat):Int)=i by omega]
 |b::l,l',i=>by
  rw[gN,yn,yn];cases Uh o b.2.2.1 with
  |some t=>rfl
  |none=>
   show yn o (l++l') (i+1)=_;rw[X8 l l',aA,show i+1+(l.length:Int)=i+((l.length+1:Nat):Int) by omega]
theorem aH0{o:bF}{l:List dh}{i:Int}{x:dv×Int}(e:yn o l i=some x){k:Nat}(hk:x.2<=i+k):yn o (l.take k) i=some x:=by
 have h:=X8 (o:=o) (l.take k) (l.drop k) i;rw[dq,e]at h;cases h1:yn o (l.take k) i with
 |some y=>rw[h1]at h;exact h.symm
 |none=>
  rw[h1]at h;have h2:=ake h.symm;have:(l.drop k).length=l.length - k:=dp;have:(l.take k).length=min k l.length:=bp;obtain⟨h3,h4,_⟩:=h2;omega
theorem rk.aSe(h:rk A0 m nb n a s bs)(o:bF):uw.call (o,nb,n,a,s,bs)=some (match yn o (bs.take nb) 0 with
  |some x=>(x.1,x.2,true,nb,n,a,s,bs)
  |none=>(eA.zero,0,false,nb,n,a,s,bs)):=by
 rw[al0 (d:=(o,nb,n,a,s,bs)) h.ch];simp only[bt,SN];rw[agY λb hb t ht=>h.aSS hb ht]
 all_goals (cases yn o (bs.take nb) 0 <;> rfl)
end
end
abbrev aCn:=bF×Nat×(List bF)
def aCo:aCn->Prop:=λ(_,n,l)=>n=l.length/\l.length<=1000000
def aNZ:aCn->(Nat×(List bF)):=λ(o,n,l)=>(n+1,l++ [o])
noncomputable def aqn:Fs Tryz.prog aCo bt aNZ:=eN 4294969952 (aM4 Tryz.prog 4294969952) (λ(t7,o1L,o2)=>(([.yl (.bm 0) 0,.d bl t7,.undef,.undef,.ptr (.bm 1) 0 [] 0]++aP 10 []),[.obj 0 false (.rN (ri Tryz.prog 4294969952) (mA ([.undef,.undef,.ptr (.bm 1) 0 [] 0]++aP 10 [])) 0),.obj 0 false (.bz (.bm 2) 0 [] 0 0 o1L),.obj 0 false (.vec 38 bl o2)])) (λx=>⟨.d .bool true,[.obj 0 false (.rN (ri Tryz.prog 4294969952) (mA ([.undef,.undef,.ptr (.bm 1) 0 [] 0]++aP 10 [])) 0),.obj 0 false (.bz (.bm 2) 1 [] 0 0 x.1),.obj 1 false (.vec 38 bl x.2)],[]⟩) [none,none,none,none,none,none,none,none,none,none,none,none,none,none,none] [] {aqO:=[(2,1)],mh:=some 4294969952}
theorem aJF{R:Type}(t7 o1L o2)(k:K1 R):aqn.A (t7,o1L,o2) k=aH (decide (o1L<=(ag o2))) (aH (da (o1L+1) 40) (k (aqn.out ((o1L+1),((aQ o1L o2)++ [t7])))) none) none:=bY
theorem aJG:aqn.Ok:=by rintro⟨o,n,l⟩ ⟨rfl,hl⟩;have hl:l.length<=1000000:=hl;rw[aJF,aM (ax _),aj,dr ak ak,aj,bK];rfl
theorem aCp:aqn.RS:=rE [.d bl,.n,.d (.slice bl)] aqn
def aJH:=aqn.aW4 aJG
abbrev A8:=Nat×(List bF)×(List (bF×jn))×(List (bF×jn))
noncomputable def tz:A8->AS:=λ(uR,ez,zK,n5)=>⟨([.yl (.bm 0) 0]++aP 4 ([eT 5]++aP 8 [])),[.obj 0 false (.rN (ri Tryz.prog 4294969952) (mA ([bE,bE,.ptr (.bm 1) 0 [] 0]++aP 10 [])) 0),.obj 0 false (.bz (.bm 2) 1 [] 0 0 uR),.obj 1 false (.vec 38 bl ez),.obj 0 false (.ct (.bm 4) 0),.obj 0 true (.mp bl l7 zK)],(bM 5 ([dK (.tx (.bm 4) 1 bl l7 n5 none)]++bM 8 []))⟩
abbrev Cp:=((List (bF×jn)))×(Nat×(List bF))
noncomputable def zB:Cp->Exit×AS:=λx=>(.exit 0,⟨(aP 14 []),[.obj 0 false (.rN (ri Tryz.prog 4294969952) (mA ([bE,bE,.ptr (.bm 1) 0 [] 0]++aP 10 [])) 0),.obj 0 false (.bz (.bm 2) 1 [] 0 0 x.2.1),.obj 1 false (.vec 38 bl x.2.2),.obj 0 false (.ct (.bm 4) 0),.obj 0 false (.mp bl l7 x.1)],(ab 14 [])⟩)
def QB:Cp->Out (Exit×AS):=λx=> .ok (zB x)
def uK:A8->(Nat×(List bF))->Cp:=λ(uR,ez,zK,n5) y=>(zK,y)
abbrev Qz:=Nat×(List bF)×(List (bF×jn))
noncomputable def aaf:Qz->SA:=λ(o1L,o2,o4)=>([.yl (.bm 0) 0,.ptr (.bm 3) 0 [] 0],[.obj 0 false (.rN (ri Tryz.prog 4294969952) (mA ([bE,bE,.ptr (.bm 1) 0 [] 0]++aP 10 [])) 0),.obj 0 false (.bz (.bm 2) 0 [] 0 0 o1L),.obj 0 false (.vec 38 bl o2),.obj 0 false (.ct (.bm 4) 0),.obj 0 false (.mp bl l7 o4)])
abbrev avF:=Nat×(List bF)×(List (bF×jn))
abbrev ai3:=Nat×(List bF)×(List (bF×jn))
noncomputable def Tq:ai3->fG:=λx=>⟨.nil,[.obj 0 false (.rN (ri Tryz.prog 4294969952) (mA ([bE,bE,.ptr (.bm 1) 0 [] 0]++aP 10 [])) 0),.obj 0 false (.bz (.bm 2) 1 [] 0 0 x.1),.obj 1 false (.vec 38 bl x.2.1),.obj 0 false (.ct (.bm 4) 0),.obj 0 false (.mp bl l7 x.2.2)],[]⟩
def Tp:Qz->avF->ai3:=λ(o1L,o2,o4) y=>y
def uJ:A8->Prop:=λ(n,l,_,rest)=>n=l.length/\l.length+rest.length<=1000000
def rA:A8->(Nat×(List bF))->Prop:=λ(_,l,_,rest) (m,l')=>m=l'.length/\l'.Perm (l++rest.map (·.1))
def To:Qz->Prop:=λ(n,l,m)=>n=l.length/\l.length+m.length<=1000000
def NV:Qz->avF->Prop:=λ(_,l,m) (n',l',m')=>n'=l'.length/\l'.Perm (l++m.map (·.1))/\m'=m
def ai1:oT:=jy (P:=Tryz.prog) [aJH]
def ar0:=dy.W5 tz uJ uK rA QB
def QC:A8->Cp->Prop:=aR9 tz uJ uK rA
def aae:xi:= {loops:=nX [(1,{aV:=[0,5],sites:=[5],aqO:=[(2,1)],aSO:=[5]})],outs:=nV [(1,{aqO:=[(2,1)]},{aqO:=[(2,1)]})],fC:=na [(1,ar0)],aqO:=[(2,1)]}
def avD:= @HD Tryz.prog ai1 aae 0 Tryz.f107 _ aaf
abbrev aFx:=auH @avD To Tp NV Tq
def aad:= @ee Tryz.prog ai1 aae 0 Tryz.f107 0 _ tz
abbrev Vv:=auJ Tryz.prog ai1 aae 0 Tryz.f107 0 tz uJ uK rA QB
theorem ai2:awJ QC uJ uK rA:=aUG (jk [.n,.d (.slice bl),.d (.slice (.pair bl l7)),.d (.slice (.pair bl l7))] λ_=>bY)
theorem QA:aM5 @aad tz uJ uK rA zB Vv:=aQR
theorem L4{R:Type}(uR:Nat)(ez:(List bF))(zK:(List (bF×jn)))(n5:(List (bF×jn)))(kn:AS->Option R)(kx:Exit->AS->Option R):aad (uR,ez,zK,n5) kn kx=aH (decide (0 < (ag n5))) (aEe (ag n5) λj1=>same (ri Tryz.prog 4294969952) (ri Tryz.prog 4294969952) (al (aqn.call ((zJ bl l7 n5 j1).1,uR,ez)) λx2=>kn (tz (x2.1,x2.2,zK,(List.eraseIdx n5 j1))))) (kx (zB (zK,(uR,ez))).1 (zB (zK,(uR,ez))).2):=bY
theorem aFy{R:Type}(o1L:Nat)(o2:(List bF))(o4:(List (bF×jn)))(k:fG->Option R):avD (o1L,o2,o4) k=Zx (QC (o1L,o2,o4,o4)) λx3=>k (Tq (x3.2.1,x3.2.2,x3.1)):=bY
theorem anp:Vv:=by
 refine QA (λ(_,_,_,rest)=>rest.length) ?_
 rintro⟨n,l,m,rest⟩ ⟨rfl,hl⟩;have hl:l.length+rest.length<=1000000:=hl;by_cases h:0 < rest.length
 ·left;refine⟨rest.length,λj=>(l.length+1,l++ [(zJ bl l7 rest j).1],m,rest.eraseIdx j),h,λj hj=>⟨⟨by simp,?_⟩,?_,λy hy=>⟨y,?_,rfl⟩⟩,λkn kx=> ?_⟩
  ·show(l++ [_]).length+(rest.eraseIdx j).length<=1000000;rw[ai,List.length_eraseIdx,if_pos hj];simp only[aA,aZ];omega
  ·show(rest.eraseIdx j).length < rest.length;rw[List.length_eraseIdx,if_pos hj];omega
  ·obtain⟨k,l'⟩:=y;obtain⟨h1,h2⟩:=hy;refine⟨h1,h2.trans ?_⟩;rw[ajo hj,aF];refine List.Perm.append_left _ ?_
   have:=((ZC hj).map (·.1)).symm;exact this
  ·rw[L4,aM h,aj];congr 1;funext j;rw[Ub,aCp (d:=((zJ bl l7 rest j).1,l.length,l)) ⟨rfl,by show l.length<=_;omega⟩];rfl
 ·right;obtain rfl:rest=[]:=bD ak;refine⟨(l.length,l),⟨rfl,by simp⟩,λkn kx=> ?_⟩;rw[L4,aS h,ao];rfl
theorem aFz:aFx:=by
 rintro⟨n,l,m⟩ ⟨rfl,hl⟩ k hk;rw[aFy];refine ai2 (d:=(l.length,l,m,m)) ⟨rfl,hl⟩ ⟨((l++m.map (·.1)).length,l++m.map (·.1)),rfl,ia _⟩ λy hy=> ?_
 obtain⟨n',l'⟩:=y;exact hk (n',l',m) ⟨hy.1,hy.2,rfl⟩
def avE:=Entry.W5 [none,none] aaf To Tp NV Tq
def af4:Qz->ai3->Prop:=aMu avE aaf
theorem ayO:awJ af4 To Tp NV:=aHK (W2 [.n,.d (.slice bl),.d (.slice (.pair bl l7))] λ_=>bY)
def aFA:SG Tryz.prog:=⟨107,ml,avE,.aUo (.fn 1 bY aFz (And.intro (.W5 anp bY) trivial)) (by rfl)⟩
abbrev akL:=(List (bF×jn))
def ahf:akL->Unit->((List (bF×jn))):=λo0 y=>o0
def aBF:akL->Prop:=λ_=>True
def aMX:akL->Unit:=λ_=>()
def adu:Fs Tryz.prog aBF ahf aMX:=eN 61 Tryz.f61 (λo0=>([.ct (.bm 0) 0],[.obj 0 false (.mp bl l7 o0)])) (λx=>⟨.fn 107 (.cons (.ptr (.new 0 0) 0 [] 0) (.nil)),[.obj 0 false (.mp bl l7 x)],[.obj 0 false (.ct (.bm 0) 0)]⟩) [none] [] {bJ:=[1]}
theorem aIX{R:Type}(o0)(k:K1 R):adu.A o0 k=k (adu.out o0):=bY
theorem aIY:adu.Ok:=by intro d _;rw[aIX];rfl
theorem aBG:adu.RS:=rE [.d (.slice (.pair bl l7))] adu
def aIZ:=adu.eS aIY
abbrev Yt:=(List (bF×jn))
def ahu:Yt->SA:=λo1=>([.dd,.fn 107 (.cons (.ptr (.bm 0) 0 [] 0) (.nil))],[.obj 0 false (.ct (.bm 1) 0),.obj 0 false (.mp bl l7 o1)])
abbrev aCs:=Nat×(List (bF×jn))×(List bF)
abbrev aqo:=Nat×(List (bF×jn))×(List bF)
def Yw:aqo->fG:=λx=>⟨.bz (.new 0 0) 1 [] 0 0 x.1,[.obj 0 false (.ct (.bm 1) 0),.obj 0 false (.mp bl l7 x.2.1)],[.obj 1 false (.vec 38 bl x.2.2)]⟩
def Yv:Yt->aCs->aqo:=λo1 y=>y
def Yu:Yt->Prop:=λm=>m.length<=1000000
def Su:Yt->aCs->Prop:=λm (n',m',l')=>n'=l'.length/\l'.Perm (m.map (·.1))/\m'=m
def aN0:oT:=jy (P:=Tryz.prog) [aFA]
def aJJ:xi:= {bJ:=[2],aVG:=na [(7,[⟨2,[.arr],0,46⟩])],rf:=na [(7,(4294969952,[2]))]}
def aCq:= @HD Tryz.prog aN0 aJJ 0 Tryz.f166 _ ahu
abbrev aJI:=auH @aCq Yu Yv Su Yw
theorem aJK{R:Type}(o1:(List (bF×jn)))(k:fG->Option R):aCq o1 k=Zx (af4 (0,([]:List bF),o1)) λx1=>k (Yw (x1.1,x1.2.2,x1.2.1)):=bY
theorem aJL:aJI:=by
 intro m hl k hk;have hl:m.length<=1000000:=hl;rw[aJK];refine ayO (d:=(0,[],m)) ⟨rfl,by show 0+m.length<=_;omega⟩ ⟨((m.map (·.1)).length,m.map (·.1),m),rfl,ia _,rfl⟩ λy hy=> ?_
 obtain⟨n',l',m'⟩:=y;exact hk (n',m',l') ⟨hy.1,by simpa using hy.2.1,hy.2.2⟩
def aCr:=Entry.W5 [none,none] ahu Yu Yv Su Yw
def alh:Yt->aqo->Prop:=aMu aCr ahu
theorem aCt:awJ alh Yu Yv Su:=aHK (W2 [.d (.slice (.pair bl l7))] λ_=>bY)
def aJM:SG Tryz.prog:=⟨166,ml,aCr,.aUo (.fn 0 bY aJL trivial) (by rfl)⟩
abbrev Y6:=(List (bF×jn))
def ah2:Y6->SA:=λo1=>([.fn 107 (.cons (.ptr (.bm 0) 0 [] 0) (.nil))],[.obj 0 false (.ct (.bm 1) 0),.obj 0 false (.mp bl l7 o1)])
abbrev aDN:=Nat×(List (bF×jn))×(List bF)
abbrev arb:=Nat×(List (bF×jn))×(List bF)
def Y9:arb->fG:=λx=>⟨.bz (.new 0 0) 1 [] 0 0 x.1,[.obj 0 false (.ct (.bm 1) 0),.obj 0 false (.mp bl l7 x.2.1)],[.obj 1 false (.vec 38 bl x.2.2)]⟩
def Y8:Y6->aDN->arb:=λo1 y=>y
def Y7:Y6->Prop:=λm=>m.length<=1000000
def SQ:Y6->aDN->Prop:=λm (n',m',l')=>n'=l'.length/\l'.Perm (m.map (·.1))/\m'=m
def aOi:oT:=jy (P:=Tryz.prog) [aJM]
def aKr:xi:= {}
def aDL:= @HD Tryz.prog aOi aKr 0 Tryz.f105 _ ah2
abbrev aKq:=auH @aDL Y7 Y8 SQ Y9
theorem aKs{R:Type}(o1:(List (bF×jn)))(k:fG->Option R):aDL o1 k=Zx (alh o1) λx1=>k (Y9 (x1.1,x1.2.1,x1.2.2)):=bY
theorem aKt:aKq:=by
 intro m hl k hk;rw[aKs];refine aCt (d:=m) hl ⟨((m.map (·.1)).length,m,m.map (·.1)),rfl,ia _,rfl⟩ λy hy=> ?_
 exact hk y hy
def aDM:=Entry.W5 [none] ah2 Y7 Y8 SQ Y9
def al4:Y6->arb->Prop:=aMu aDM ah2
theorem aDO:awJ al4 Y7 Y8 SQ:=aHK (W2 [.d (.slice (.pair bl l7))] λ_=>bY)
def aKu:SG Tryz.prog:=⟨105,ml,aDM,.aUo (.fn 0 bY aKt trivial) (by rfl)⟩
theorem at0{l l':List bF}(h:l.Perm l')(hq:∀x∈l',Le x):OD (t:=bl) HX l=OD (t:=bl) HX l':=by
 have hq':∀x∈l,Le x:=λx hx=>hq x (h.mem_iff.1 hx)
 have h1:=akh Eb hq';exact Gt Eb hq (λx hx y hy a b=>Fm (hq x hx) (hq y hy) a b) ⟨h1.1.trans h,h1.2⟩
def J9(m:Wm):List bF:=OD (t:=bl) HX (m.map (·.1))
abbrev aH4:=(List (bF×jn))
def aH6:aH4->Prop:=λm=>m.length<=1000000/\∀p∈m,Le p.1
def aH5:aH4->(Nat×(List (bF×jn))×(List bF)):=λm=>(m.length,m,J9 m)
def at1:Fs Tryz.prog aH6 bt aH5:=eN 60 Tryz.f60 (λo1=>([.fn 107 (.cons (.ptr (.bm 0) 0 [] 0) (.nil)),.fn 62 (.nil)],[.obj 0 false (.ct (.bm 1) 0),.obj 0 false (.mp bl l7 o1)])) (λx=>⟨.bz (.new 0 0) 1 [] 0 0 x.1,[.obj 0 false (.ct (.bm 1) 0),.obj 0 false (.mp bl l7 x.2.1)],[.obj 1 false (.vec 38 bl x.2.2)]⟩) [none,none] [aKu,aMG]
theorem aMH{R:Type}(o1)(k:K1 R):at1.A o1 k=Zx (al4 o1) λx1=>al (Uj (x1.1,x1.2.2)) λx2=>k (at1.out (x1.1,x1.2.1,x2.2)):=bY
theorem aMI:at1.Ok:=by
 rintro m ⟨hl,hq⟩;have hl:m.length<=1000000:=hl;rw[aMH];refine aDO (d:=m) hl ⟨((m.map (·.1)).length,m,m.map (·.1)),rfl,ia _,rfl⟩ λy hy=> ?_
 obtain⟨n',m',l'⟩:=y;obtain⟨h1,h2,h3⟩:=hy;have h1:n'=l'.length:=h1;have h3:m'=m:=h3;subst h1 h3;have hq':∀x∈m'.map (·.1),Le x:=λx hx=>by obtain⟨p,hp,rfl⟩:=cS.1 hx;exact hq p hp
 have hlen:l'.length=m'.length:=by rw[h2.length_eq,bU]
 show al (Uj (l'.length,l')) _=_;rw[aH3 (d:=(l'.length,l')) ⟨rfl,by show l'.length < _;omega,λx hx=>hq' x (h2.mem_iff.1 hx),λx hx y hy h1 h2'=>Fm (hq' x (h2.mem_iff.1 hx)) (hq' y (h2.mem_iff.1 hy)) h1 h2'⟩];simp only[ah,bt,aH5,J9];rw[at0 h2 hq',hlen];rfl
theorem aH7:at1.RS:=rE [.d (.slice (.pair bl l7))] at1
def aMJ:=at1.eS aMI
abbrev aIM:=(List (bF×jn))
def aIN:aIM->Prop:=λm=>m.length<=1000000/\∀p∈m,Le p.1
def aut:aIM->(Nat×(List (bF×jn))×(List bF)):=λm=>(m.length,m,J9 m)
def wall:Fs Tryz.prog aIN bt aut:=eN 26 Tryz.f26 (λo1=>([.ptr (.bm 0) 0 [] 0],[.obj 0 false (.pr (.ct (.bm 1) 0) (.d .unit ())),.obj 0 false (.mp bl l7 o1)])) (λx=>⟨.bz (.new 0 0) 1 [] 0 0 x.1,[.obj 0 false (.pr (.ct (.bm 1) 0) (.d .unit ())),.obj 0 false (.mp bl l7 x.2.1)],[.obj 1 false (.vec 38 bl x.2.2)]⟩) [none] [aIZ,aMJ]
theorem aMT{R:Type}(o1)(k:K1 R):wall.A o1 k=al (adu.call o1) λx1=>al (at1.call x1) λx2=>k (wall.out (x2.1,x2.2.1,x2.2.2)):=bY
theorem aMU:wall.Ok:=by intro m h;rw[aMT,aBG (d:=m) trivial];simp only[ah,ahf];rw[aH7 (d:=m) h];rfl
theorem adp:wall.RS:=rE [.d (.slice (.pair bl l7))] wall
def awv:=wall.eS aMU
abbrev akQ:=Int×dv×Nat×(List yt)×bF×jn
abbrev awE:=Nat×(List yt)
def UA:akQ->awE->((bF×jn)×(Nat×(List yt))):=λ(dov,byv,o0L,o1,o2,o3) y=>((o2,o3),y)
def aBK:akQ->Prop:=λ(_,t,n,l,_)=>nT t/\n=l.length/\l.length<=1000000000
def akR:akQ->awE:=λ(d,t,_,l,o,x)=>(l.length+1,l++ [(d,(o,(aqb t,(x.2.2.2.1,()))))])
def Hr:Fs Tryz.prog aBK UA akR:=eN 66 Tryz.f66 (λ(dov,byv,o0L,o1,o2,o3)=>([.d ti dov,.d eA byv,.ptr (.bm 0) 0 [] 0,.ptr (.bm 2) 0 [] 0,.ptr (.bm 3) 0 [] 0],[.obj 0 false (.bz (.bm 1) 0 [] 0 0 o0L),.obj 0 false (.vec 65 EX o1),.obj 0 false (.d bl o2),.obj 0 false (.d l7 o3)])) (λx=>⟨.nil,[.obj 0 false (.bz (.bm 1) 1 [] 0 0 x.2.1),.obj 1 false (.vec 65 EX x.2.2),.obj 0 false (.d bl x.1.1),.obj 0 false (.d l7 x.1.2)],[]⟩) [some ti,some eA,none,none,none] [adt]
theorem aI8{R:Type}(dov byv o0L o1 o2 o3)(k:K1 R):Hr.A (dov,byv,o0L,o1,o2,o3) k=al (MR.call byv) λx1=>aH (decide (o0L<=(ag o1))) (aH (da (o0L+1) 112) (k (Hr.out ((o2,o3),((o0L+1),((aQ o0L o1)++ [(dov,(o2,(x1,(o3.2.2.2.1,()))))]))))) none) none:=bY
theorem aI9:Hr.Ok:=by rintro⟨d,t,n,l,o,x⟩ ⟨hv,rfl,hl⟩;have hl:l.length<=1000000000:=hl;rw[aI8,Uw (d:=t) hv];simp only[ah,bt,akK];rw[aM (ax _),aj,dr ak ak,aj,bK];rfl
theorem ahi:Hr.RS:=rE [.d ti,.d eA,.n,.d (.slice EX),.d bl,.d l7] Hr
def aJa:=Hr.eS aI9
def akV(x:jn):Prop:=nT x.2.1/\(x.1=true->gV x.2.1=true)
theorem v0:nT eA.zero:=⟨⟨λo ho=>(by cases ho),by decide,by decide⟩,λx hx=>(by cases hx),by decide⟩
theorem WS:akV tS:=⟨v0,λh=>(by cases h)⟩
def mJ(o:bF)(l:List dh):dv×Int×Bool:=match yn o l 0 with | some x=>(x.1,x.2,true) | none=>(eA.zero,0,false)
def Vj(x:jn)(h:Int)(ok:Bool)(id:Bs):Bool:=x.1 && (!ok || (BY h x.2.2.2.1 || !(Ty.beq tH id x.2.2.1)))
def s9(o:bF)(x:jn)(h:Int)(ok:Bool)(id:Bs):jn×List yt:=if Vj x h ok id then(tS,[(2,(o,(x.2.1,(x.2.2.2.1,()))))]) else(x,[])
def Ba(o:bF)(t:dv)(h:Int)(ok:Bool)(id:Bs)(x:jn):jn×List yt:=if ok && !x.1 then((true,(t,(id,(h,(false,()))))),[(1,(o,(t,(h,()))))]) else(x,[])
def Tw(o:bF)(t:dv)(h:Int)(ok:Bool)(H:Int)(x:jn):jn×List yt:=if ok && rz (H - h) 6 then((x.1,(x.2.1,(x.2.2.1,(x.2.2.2.1,(true,()))))),[(3,(o,(t,(x.2.2.2.1,()))))]) else(x,[])
def gh(H:Int)(l:List dh)(o:bF)(x:jn):jn×List yt:=if x.2.2.2.2.1 then(x,[]) else((Tw o (mJ o l).1 (mJ o l).2.1 (mJ o l).2.2 H (Ba o (mJ o l).1 (mJ o l).2.1 (mJ o l).2.2 (mj (mJ o l).1) (s9 o x (mJ o l).2.1 (mJ o l).2.2 (mj (mJ o l).1)).1).1).1,(s9 o x (mJ o l).2.1 (mJ o l).2.2 (mj (mJ o l).1)).2++(Ba o (mJ o l).1 (mJ o l).2.1 (mJ o l).2.2 (mj (mJ o l).1) (s9 o x (mJ o l).2.1 (mJ o l).2.2 (mj (mJ o l).1)).1).2++(Tw o (mJ o l).1 (mJ o l).2.1 (mJ o l).2.2 H (Ba o (mJ o l).1 (mJ o l).2.1 (mJ o l).2.2 (mj (mJ o l).1) (s9 o x (mJ o l).2.1 (mJ o l).2.2 (mj (mJ o l).1)).1).1).2)
def lookW(H:Int)(l:List dh)(S:Wm×List yt)(o:bF):Wm×List yt:=if(od o S.1).2.2.2.2.1 then S else(eF bl o (gh H l o (od o S.1)).1 S.1,S.2++(gh H l o (od o S.1)).2)
abbrev adv:=Nat×Int×Int×(List (bF×jn))×Nat×Nat×(List (bF×dQ))×(List bW)×(List dh)×Nat×(List yt)×(List bF)
abbrev Aj:=Int×Bool×Nat×Int×Int×Bool×(List (bF×jn))×Nat×Nat×(List (bF×dQ))×(List bW)×(List dh)×Nat×(List yt)×bF×jn×dv×Bs×(List bF)
def MS:Aj->AS:=λ(h,okv,Hz,t16,t17,t67,o1,o2L,o3L,o4,o5,o6,Hx,akY,iR,aaY,aaZ,aa0,aGd)=>⟨([.ptr (.bm 0) 0 [] 0,.ptr (.bm 2) 0 [] 0,bE,bE,bE,eT 95,bE,.ptr (.new 95 2) 0 [] 0,.ptr (.new 95 3) 0 [] 0,.ptr (.new 95 4) 0 [] 0,.d ti h,.d .bool okv,.ptr (.new 95 5) 0 [] 0,.fn 66 (.cons (eT 95) (.cons (.ptr (.new 95 2) 0 [] 0) (.cons (.ptr (.new 95 3) 0 [] 0) (.nil)))),bE,.bz (.new 95 6) 0 [] 0 0 Hz,.d ti t16,.d ti t17]++aP 49 ([.d .bool t67]++aP 28 [])),[.obj 0 false (.pr (.ct (.bm 1) 0) fP),.obj 0 false (.mp bl l7 o1),.obj 0 false (.pr (.ptr (.bm 3) 0 [] 0) (.pr (.bz (.bm 6) 0 [] 0 0 o2L) fP)),.obj 0 false (.pr (.ct (.bm 4) 0) (.pr (.bz (.bm 5) 0 [] 0 0 o3L) fP)),.obj 0 false (.mp bl eQ o4),.obj 0 false (.vec 256 cD o5),.obj 0 false (.vec 48 dR o6)],(bM 95 [[.obj 0 false (.bz (.new 95 1) 0 [] 0 0 Hx),.obj 0 false (.vec 65 EX akY),.obj 0 false (.d bl iR),.obj 0 false (.d l7 aaY),.obj 0 false (.d eA aaZ),.obj 0 false (.d tH aa0),.obj 0 false (.vec 38 bl aGd)]])⟩
def R8:oU:=oU.of {aV:=[0,1,5,7,8,9,10,11,12,13,15,16,17,67],sites:=[5,7,8,9,12,15,32,37,60,69,75,79,87,95],Nw:=[⟨8,[.arr],l7⟩],aKT:=some 95} MS
def BP:Aj->Option Aj:=λx=>(R8).avC .normal (MS x)
theorem R9(x:Aj):BP x=some x:=oU.F5 (jk [.d ti,.d .bool,.n,.d ti,.d ti,.d .bool,.d (.slice (.pair bl l7)),.n,.n,.d (.slice (.pair bl eQ)),.d (.slice cD),.d (.slice dR),.n,.d (.slice EX),.d bl,.d l7,.d eA,.d tB,.d (.slice bl)] λ_=>bY) x
abbrev Ak:=Nat×Int×Int×Bool×(List (bF×jn))×Nat×Nat×(List (bF×dQ))×(List bW)×(List dh)×Nat×(List yt)×bF×jn×dv×(List bF)
def MT:Ak->AS:=λ(Hz,t16,t17,t83,o1,o2L,o3L,o4,o5,o6,Hx,akY,iR,aaY,aaZ,aa0)=>⟨([.ptr (.bm 0) 0 [] 0,.ptr (.bm 2) 0 [] 0,bE,bE,bE,eT 95,bE,.ptr (.new 95 2) 0 [] 0,.ptr (.new 95 3) 0 [] 0,.ptr (.new 95 4) 0 [] 0,bE,bE,bE,.fn 66 (.cons (eT 95) (.cons (.ptr (.new 95 2) 0 [] 0) (.cons (.ptr (.new 95 3) 0 [] 0) (.nil)))),bE,.bz (.new 95 5) 0 [] 0 0 Hz,.d ti t16,.d ti t17]++aP 65 ([.d .bool t83]++aP 12 [])),[.obj 0 false (.pr (.ct (.bm 1) 0) fP),.obj 0 false (.mp bl l7 o1),.obj 0 false (.pr (.ptr (.bm 3) 0 [] 0) (.pr (.bz (.bm 6) 0 [] 0 0 o2L) fP)),.obj 0 false (.pr (.ct (.bm 4) 0) (.pr (.bz (.bm 5) 0 [] 0 0 o3L) fP)),.obj 0 false (.mp bl eQ o4),.obj 0 false (.vec 256 cD o5),.obj 0 false (.vec 48 dR o6)],(bM 95 [[.obj 0 false (.bz (.new 95 1) 0 [] 0 0 Hx),.obj 0 false (.vec 65 EX akY),.obj 0 false (.d bl iR),.obj 0 false (.d l7 aaY),.obj 0 false (.d eA aaZ),.obj 0 false (.vec 38 bl aa0)]])⟩
def Sa:oU:=oU.of {aV:=[0,1,5,7,8,9,13,15,16,17,83],sites:=[5,7,8,9,12,15,32,37,60,69,75,79,87,95],Nw:=[⟨8,[.arr],l7⟩],aKT:=some 95} MT
def BQ:Ak->Option Ak:=λx=>(Sa).avC .normal (MT x)
theorem Sb(x:Ak):BQ x=some x:=oU.F5 (jk [.n,.d ti,.d ti,.d .bool,.d (.slice (.pair bl l7)),.n,.n,.d (.slice (.pair bl eQ)),.d (.slice cD),.d (.slice dR),.n,.d (.slice EX),.d bl,.d l7,.d eA,.d (.slice bl)] λ_=>bY) x
abbrev Al:=Int×Bool×Nat×Int×Int×(List (bF×jn))×Nat×Nat×(List (bF×dQ))×(List bW)×(List dh)×Nat×(List yt)×bF×jn×dv×Bs×(List bF)
def MU:Al->AS:=λ(h,okv,Hz,t16,t17,o1,o2L,o3L,o4,o5,o6,Hx,akY,iR,aaY,aaZ,aa0,aGd)=>⟨([.ptr (.bm 0) 0 [] 0,.ptr (.bm 2) 0 [] 0,bE,bE,bE,eT 95,bE,.ptr (.new 95 2) 0 [] 0,.ptr (.new 95 3) 0 [] 0,.ptr (.new 95 4) 0 [] 0,.d ti h,.d .bool okv,.ptr (.new 95 5) 0 [] 0,.fn 66 (.cons (eT 95) (.cons (.ptr (.new 95 2) 0 [] 0) (.cons (.ptr (.new 95 3) 0 [] 0) (.nil)))),bE,.bz (.new 95 6) 0 [] 0 0 Hz,.d ti t16,.d ti t17]++aP 78 []),[.obj 0 false (.pr (.ct (.bm 1) 0) fP),.obj 0 false (.mp bl l7 o1),.obj 0 false (.pr (.ptr (.bm 3) 0 [] 0) (.pr (.bz (.bm 6) 0 [] 0 0 o2L) fP)),.obj 0 false (.pr (.ct (.bm 4) 0) (.pr (.bz (.bm 5) 0 [] 0 0 o3L) fP)),.obj 0 false (.mp bl eQ o4),.obj 0 false (.vec 256 cD o5),.obj 0 false (.vec 48 dR o6)],(bM 95 [[.obj 0 false (.bz (.new 95 1) 0 [] 0 0 Hx),.obj 0 false (.vec 65 EX akY),.obj 0 false (.d bl iR),.obj 0 false (.d l7 aaY),.obj 0 false (.d eA aaZ),.obj 0 false (.d tH aa0),.obj 0 false (.vec 38 bl aGd)]])⟩
def Sc:oU:=oU.of {aV:=[0,1,5,7,8,9,10,11,12,13,15,16,17],sites:=[5,7,8,9,12,15,32,37,60,69,75,79,87,95],Nw:=[⟨8,[.arr],l7⟩],aKT:=some 95} MU
def mN:Al->Option Al:=λx=>(Sc).avC .normal (MU x)
theorem Sd(x:Al):mN x=some x:=oU.F5 (jk [.d ti,.d .bool,.n,.d ti,.d ti,.d (.slice (.pair bl l7)),.n,.n,.d (.slice (.pair bl eQ)),.d (.slice cD),.d (.slice dR),.n,.d (.slice EX),.d bl,.d l7,.d eA,.d tB,.d (.slice bl)] λ_=>bY) x
abbrev Am:=Int×Bool×Nat×Int×Int×(List (bF×jn))×Nat×Nat×(List (bF×dQ))×(List bW)×(List dh)×Nat×(List yt)×bF×jn×dv×(List bF)
def MV:Am->AS:=λ(h,okv,Hz,t16,t17,o1,o2L,o3L,o4,o5,o6,Hx,akY,iR,aaY,aaZ,aa0)=>⟨([.ptr (.bm 0) 0 [] 0,.ptr (.bm 2) 0 [] 0,bE,bE,bE,eT 95,bE,.ptr (.new 95 2) 0 [] 0,.ptr (.new 95 3) 0 [] 0,.ptr (.new 95 4) 0 [] 0,.d ti h,.d .bool okv,bE,.fn 66 (.cons (eT 95) (.cons (.ptr (.new 95 2) 0 [] 0) (.cons (.ptr (.new 95 3) 0 [] 0) (.nil)))),bE,.bz (.new 95 5) 0 [] 0 0 Hz,.d ti t16,.d ti t17]++aP 78 []),[.obj 0 false (.pr (.ct (.bm 1) 0) fP),.obj 0 false (.mp bl l7 o1),.obj 0 false (.pr (.ptr (.bm 3) 0 [] 0) (.pr (.bz (.bm 6) 0 [] 0 0 o2L) fP)),.obj 0 false (.pr (.ct (.bm 4) 0) (.pr (.bz (.bm 5) 0 [] 0 0 o3L) fP)),.obj 0 false (.mp bl eQ o4),.obj 0 false (.vec 256 cD o5),.obj 0 false (.vec 48 dR o6)],(bM 95 [[.obj 0 false (.bz (.new 95 1) 0 [] 0 0 Hx),.obj 0 false (.vec 65 EX akY),.obj 0 false (.d bl iR),.obj 0 false (.d l7 aaY),.obj 0 false (.d eA aaZ),.obj 0 false (.vec 38 bl aa0)]])⟩
def Se:oU:=oU.of {aV:=[0,1,5,7,8,9,10,11,13,15,16,17],sites:=[5,7,8,9,12,15,32,37,60,69,75,79,87,95],Nw:=[⟨8,[.arr],l7⟩],aKT:=some 95} MV
def BR:Am->Option Am:=λx=>(Se).avC .normal (MV x)
theorem Sf(x:Am):BR x=some x:=oU.F5 (jk [.d ti,.d .bool,.n,.d ti,.d ti,.d (.slice (.pair bl l7)),.n,.n,.d (.slice (.pair bl eQ)),.d (.slice cD),.d (.slice dR),.n,.d (.slice EX),.d bl,.d l7,.d eA,.d (.slice bl)] λ_=>bY) x
abbrev awA:=(List (bF×jn))×Nat×Nat×(List (bF×dQ))×(List bW)×(List dh)
def aU1(nb n:Nat)(a:At)(s:List bW)(bs:List dh):Prop:=∃A0 m,rk A0 m nb n a s bs
def akM:adv->Prop:=λ(kL,kn,i,m,nb,n,a,s,bs,oL,out,ks)=>aU1 nb n a s bs/\ks.length<=1000000/\kL=ks.length/\kn=(ks.length:Int)/\oL=out.length/\(∀p∈m,akV p.2)/\∃k:Nat,k<=ks.length/\i=k/\out.length<=3*k
def GJ:adv->((List (bF×jn))×Nat×Nat×(List (bF×dQ))×(List bW)×(List dh)×Nat×(List yt)×(List bF)):=λ(_,_,i,m,nb,n,a,s,bs,_,out,ks)=>(((ks.drop i.toNat).foldl (lookW nb (bs.take nb)) (m,out)).1,nb,n,a,s,bs,((ks.drop i.toNat).foldl (lookW nb (bs.take nb)) (m,out)).2.length,((ks.drop i.toNat).foldl (lookW nb (bs.take nb)) (m,out)).2,ks)
def WG(m:Wm):Prop:=m.length<=1000/\(m.map (·.1)).Nodup/\∀p∈m,Le p.1/\akV p.2
def iK(nb:Nat)(bs:List dh)(m:Wm):Wm×List yt:=(J9 m).foldl (lookW nb (bs.take nb)) (m,[])
def aBH:awA->Prop:=λ(m,nb,n,a,s,bs)=>aU1 nb n a s bs/\WG m
def Ya:awA->(Nat×(List (bF×jn))×Nat×Nat×(List (bF×dQ))×(List bW)×(List dh)×(List yt)):=λ(m,nb,n,a,s,bs)=>((iK nb bs m).2.length,(iK nb bs m).1,nb,n,a,s,bs,(iK nb bs m).2)
def qc:Ls akM bt GJ:=rW (λ(Hz,t16,t17,dS,o2L,o3L,zK,azr,azs,Hx,akY,iR)=>⟨([.ptr (.bm 0) 0 [] 0,.ptr (.bm 2) 0 [] 0,bE,bE,bE,eT 95]++aP 9 ([.bz (.new 95 2) 0 [] 0 0 Hz,.d ti t16,.d ti t17]++aP 78 [])),[.obj 0 false (.pr (.ct (.bm 1) 0) fP),.obj 0 false (.mp bl l7 dS),.obj 0 false (.pr (.ptr (.bm 3) 0 [] 0) (.pr (.bz (.bm 6) 0 [] 0 0 o2L) fP)),.obj 0 false (.pr (.ct (.bm 4) 0) (.pr (.bz (.bm 5) 0 [] 0 0 o3L) fP)),.obj 0 false (.mp bl eQ zK),.obj 0 false (.vec 256 cD azr),.obj 0 false (.vec 48 dR azs)],(bM 95 [[.obj 0 false (.bz (.new 95 1) 0 [] 0 0 Hx),.obj 0 false (.vec 65 EX akY),.obj 0 false (.vec 38 bl iR)]])⟩) (λx=>(.exit 0,⟨(aP 5 ([eT 95]++aP 90 [])),[.obj 0 false (.pr (.ct (.bm 1) 0) fP),.obj 0 false (.mp bl l7 x.1),.obj 0 false (.pr (.ptr (.bm 3) 0 [] 0) (.pr (.bz (.bm 6) 0 [] 0 0 x.2.1) fP)),.obj 0 false (.pr (.ct (.bm 4) 0) (.pr (.bz (.bm 5) 0 [] 0 0 x.2.2.1) fP)),.obj 0 false (.mp bl eQ x.2.2.2.1),.obj 0 false (.vec 256 cD x.2.2.2.2.1),.obj 0 false (.vec 48 dR x.2.2.2.2.2.1)],(bM 95 [[.obj 0 false (.bz (.new 95 1) 0 [] 0 0 x.2.2.2.2.2.2.1),.obj 0 false (.vec 65 EX x.2.2.2.2.2.2.2.1),.obj 0 false (.vec 38 bl x.2.2.2.2.2.2.2.2)]])⟩))
def Ka:Fs Tryz.prog aBH bt Ya:=eN 31 Tryz.f31 (λ(o1,o2baL,o3baL,o4,o5,o6)=>([.ptr (.bm 0) 0 [] 0,.ptr (.bm 2) 0 [] 0],[.obj 0 false (.pr (.ct (.bm 1) 0) (.d .unit ())),.obj 0 false (.mp bl l7 o1),.obj 0 false (.pr (.ptr (.bm 3) 0 [] 0) (.pr (.bz (.bm 6) 0 [] 0 0 o2baL) (.d .unit ()))),.obj 0 false (.pr (.ct (.bm 4) 0) (.pr (.bz (.bm 5) 0 [] 0 0 o3baL) (.d .unit ()))),.obj 0 false (.mp bl eQ o4),.obj 0 false (.vec 256 cD o5),.obj 0 false (.vec 48 dR o6)])) (λx=>⟨.bz (.new 0 0) 0 [] 0 0 x.1,[.obj 0 false (.pr (.ct (.bm 1) 0) (.d .unit ())),.obj 0 false (.mp bl l7 x.2.1),.obj 0 false (.pr (.ptr (.bm 3) 0 [] 0) (.pr (.bz (.bm 6) 0 [] 0 0 x.2.2.1) (.d .unit ()))),.obj 0 false (.pr (.ct (.bm 4) 0) (.pr (.bz (.bm 5) 0 [] 0 0 x.2.2.2.1) (.d .unit ()))),.obj 0 false (.mp bl eQ x.2.2.2.2.1),.obj 0 false (.vec 256 cD x.2.2.2.2.2.1),.obj 0 false (.vec 48 dR x.2.2.2.2.2.2.1)],[.obj 0 false (.vec 65 EX x.2.2.2.2.2.2.2)]⟩) [none,none] [awv,Y2,Uo,aJa,adt,Cc] {loops:=nX [(3,{aV:=[0,1,5,15,16,17],sites:=[5,7,8,9,12,15,32,37,60,69,75,79,87,94,95],owns:=[⟨5,[.arr],94,43⟩],aKT:=some 95})],outs:=nV [(3,{aV:=[5],sites:=[95]},{aV:=[4]})],fC:=na [(3,qc.E)],aNz:=na [(13,R8),(16,Sa)],ann:=na [(13,Sc),(16,Se)]}
theorem akN:qc.RS:=rL [.n,.d ti,.d ti,.d (.slice (.pair bl l7)),.n,.n,.d (.slice (.pair bl eQ)),.d (.slice cD),.d (.slice dR),.n,.d (.slice EX),.d (.slice bl)] qc
theorem MW{R:Type}(Hz t16 t17 dS o2L o3L zK azr azs Hx akY iR)(kn:K2 R)(kx:K3 R):Ka.R 0 qc (Hz,t16,t17,dS,o2L,o3L,zK,azr,azs,Hx,akY,iR) kn kx=aH ((gq t17 t16)) (aH (eo t17 ((Hz:Nat):Int)) (aH (decide ((0+(ae t17)) < (ag iR))) (aH (decide ((((0+(ae t17))*33)+0)=(0+((ae t17)*33)))) (aH (((bQ bl (nth bl iR (0+(ae t17))) dS).getD (false,((([]:List gG),(([]:List gf),(0,()))),((ab 32 0),(0,(false,())))))).2.2.2.2.1) (kn (qc.st (Hz,t16,(bI .i64 t17 1),dS,o2L,o3L,zK,azr,azs,Hx,akY,iR))) (al (uw.call ((nth bl iR (0+(ae t17))),o2L,o3L,zK,azr,azs)) λDX=>al (tid.call DX.1) λaQD=>al (aH (((bQ bl (nth bl iR (0+(ae t17))) dS).getD (false,((([]:List gG),(([]:List gf),(0,()))),((ab 32 0),(0,(false,())))))).1) (aH ((!DX.2.2.1)) (al (Hr.call (2,((bQ bl (nth bl iR (0+(ae t17))) dS).getD (false,((([]:List gG),(([]:List gf),(0,()))),((ab 32 0),(0,(false,())))))).2.1,Hx,akY,(nth bl iR (0+(ae t17))),((bQ bl (nth bl iR (0+(ae t17))) dS).getD (false,((([]:List gG),(([]:List gf),(0,()))),((ab 32 0),(0,(false,())))))))) λaUW=>mN (DX.2.1,DX.2.2.1,Hz,t16,t17,dS,DX.2.2.2.1,DX.2.2.2.2.1,DX.2.2.2.2.2.1,DX.2.2.2.2.2.2.1,DX.2.2.2.2.2.2.2,aUW.2.1,aUW.2.2,aUW.1.1,(false,((([]:List gG),(([]:List gf),(0,()))),((ab 32 0),(0,(false,()))))),DX.1,aQD,iR)) (aH ((BY DX.2.1 ((bQ bl (nth bl iR (0+(ae t17))) dS).getD (false,((([]:List gG),(([]:List gf),(0,()))),((ab 32 0),(0,(false,())))))).2.2.2.1)) (al (Hr.call (2,((bQ bl (nth bl iR (0+(ae t17))) dS).getD (false,((([]:List gG),(([]:List gf),(0,()))),((ab 32 0),(0,(false,())))))).2.1,Hx,akY,(nth bl iR (0+(ae t17))),((bQ bl (nth bl iR (0+(ae t17))) dS).getD (false,((([]:List gG),(([]:List gf),(0,()))),((ab 32 0),(0,(false,())))))))) λaUZ=>mN (DX.2.1,DX.2.2.1,Hz,t16,t17,dS,DX.2.2.2.1,DX.2.2.2.2.1,DX.2.2.2.2.2.1,DX.2.2.2.2.2.2.1,DX.2.2.2.2.2.2.2,aUZ.2.1,aUZ.2.2,aUZ.1.1,(false,((([]:List gG),(([]:List gf),(0,()))),((ab 32 0),(0,(false,()))))),DX.1,aQD,iR)) (aH ((!(Ty.beq tH aQD ((bQ bl (nth bl iR (0+(ae t17))) dS).getD (false,((([]:List gG),(([]:List gf),(0,()))),((ab 32 0),(0,(false,())))))).2.2.1))) (al (Hr.call (2,((bQ bl (nth bl iR (0+(ae t17))) dS).getD (false,((([]:List gG),(([]:List gf),(0,()))),((ab 32 0),(0,(false,())))))).2.1,Hx,akY,(nth bl iR (0+(ae t17))),((bQ bl (nth bl iR (0+(ae t17))) dS).getD (false,((([]:List gG),(([]:List gf),(0,()))),((ab 32 0),(0,(false,())))))))) λaQF=>mN (DX.2.1,DX.2.2.1,Hz,t16,t17,dS,DX.2.2.2.1,DX.2.2.2.2.1,DX.2.2.2.2.2.1,DX.2.2.2.2.2.2.1,DX.2.2.2.2.2.2.2,aQF.2.1,aQF.2.2,aQF.1.1,(false,((([]:List gG),(([]:List gf),(0,()))),((ab 32 0),(0,(false,()))))),DX.1,aQD,iR)) (mN (DX.2.1,DX.2.2.1,Hz,t16,t17,dS,DX.2.2.2.1,DX.2.2.2.2.1,DX.2.2.2.2.2.1,DX.2.2.2.2.2.2.1,DX.2.2.2.2.2.2.2,Hx,akY,(nth bl iR (0+(ae t17))),((bQ bl (nth bl iR (0+(ae t17))) dS).getD (false,((([]:List gG),(([]:List gf),(0,()))),((ab 32 0),(0,(false,())))))),DX.1,aQD,iR))))) (mN (DX.2.1,DX.2.2.1,Hz,t16,t17,dS,DX.2.2.2.1,DX.2.2.2.2.1,DX.2.2.2.2.2.1,DX.2.2.2.2.2.2.1,DX.2.2.2.2.2.2.2,Hx,akY,(nth bl iR (0+(ae t17))),((bQ bl (nth bl iR (0+(ae t17))) dS).getD (false,((([]:List gG),(([]:List gf),(0,()))),((ab 32 0),(0,(false,())))))),DX.1,aQD,iR))) λE0=>al (al (aH (E0.2.1) (BP (E0.1,E0.2.1,E0.2.2.1,E0.2.2.2.1,E0.2.2.2.2.1,(!E0.2.2.2.2.2.2.2.2.2.2.2.2.2.2.1.1),E0.2.2.2.2.2.1,E0.2.2.2.2.2.2.1,E0.2.2.2.2.2.2.2.1,E0.2.2.2.2.2.2.2.2.1,E0.2.2.2.2.2.2.2.2.2.1,E0.2.2.2.2.2.2.2.2.2.2.1,E0.2.2.2.2.2.2.2.2.2.2.2.1,E0.2.2.2.2.2.2.2.2.2.2.2.2.1,E0.2.2.2.2.2.2.2.2.2.2.2.2.2.1,E0.2.2.2.2.2.2.2.2.2.2.2.2.2.2.1,E0.2.2.2.2.2.2.2.2.2.2.2.2.2.2.2.1,E0.2.2.2.2.2.2.2.2.2.2.2.2.2.2.2.2.1,E0.2.2.2.2.2.2.2.2.2.2.2.2.2.2.2.2.2)) (BP (E0.1,E0.2.1,E0.2.2.1,E0.2.2.2.1,E0.2.2.2.2.1,false,E0.2.2.2.2.2.1,E0.2.2.2.2.2.2.1,E0.2.2.2.2.2.2.2.1,E0.2.2.2.2.2.2.2.2.1,E0.2.2.2.2.2.2.2.2.2.1,E0.2.2.2.2.2.2.2.2.2.2.1,E0.2.2.2.2.2.2.2.2.2.2.2.1,E0.2.2.2.2.2.2.2.2.2.2.2.2.1,E0.2.2.2.2.2.2.2.2.2.2.2.2.2.1,E0.2.2.2.2.2.2.2.2.2.2.2.2.2.2.1,E0.2.2.2.2.2.2.2.2.2.2.2.2.2.2.2.1,E0.2.2.2.2.2.2.2.2.2.2.2.2.2.2.2.2.1,E0.2.2.2.2.2.2.2.2.2.2.2.2.2.2.2.2.2))) λHs=>aH (Hs.2.2.2.2.2.1) (al (MR.call Hs.2.2.2.2.2.2.2.2.2.2.2.2.2.2.2.2.1) λaXk=>al (Hr.call (1,Hs.2.2.2.2.2.2.2.2.2.2.2.2.2.2.2.2.1,Hs.2.2.2.2.2.2.2.2.2.2.2.2.1,Hs.2.2.2.2.2.2.2.2.2.2.2.2.2.1,Hs.2.2.2.2.2.2.2.2.2.2.2.2.2.2.1,(true,(aXk,(Hs.2.2.2.2.2.2.2.2.2.2.2.2.2.2.2.2.2.1,(Hs.1,(false,()))))))) λaS0=>BR (Hs.1,Hs.2.1,Hs.2.2.1,Hs.2.2.2.1,Hs.2.2.2.2.1,Hs.2.2.2.2.2.2.1,Hs.2.2.2.2.2.2.2.1,Hs.2.2.2.2.2.2.2.2.1,Hs.2.2.2.2.2.2.2.2.2.1,Hs.2.2.2.2.2.2.2.2.2.2.1,Hs.2.2.2.2.2.2.2.2.2.2.2.1,aS0.2.1,aS0.2.2,aS0.1.1,aS0.1.2,Hs.2.2.2.2.2.2.2.2.2.2.2.2.2.2.2.2.1,Hs.2.2.2.2.2.2.2.2.2.2.2.2.2.2.2.2.2.2)) (BR (Hs.1,Hs.2.1,Hs.2.2.1,Hs.2.2.2.1,Hs.2.2.2.2.1,Hs.2.2.2.2.2.2.1,Hs.2.2.2.2.2.2.2.1,Hs.2.2.2.2.2.2.2.2.1,Hs.2.2.2.2.2.2.2.2.2.1,Hs.2.2.2.2.2.2.2.2.2.2.1,Hs.2.2.2.2.2.2.2.2.2.2.2.1,Hs.2.2.2.2.2.2.2.2.2.2.2.2.1,Hs.2.2.2.2.2.2.2.2.2.2.2.2.2.1,Hs.2.2.2.2.2.2.2.2.2.2.2.2.2.2.1,Hs.2.2.2.2.2.2.2.2.2.2.2.2.2.2.2.1,Hs.2.2.2.2.2.2.2.2.2.2.2.2.2.2.2.2.1,Hs.2.2.2.2.2.2.2.2.2.2.2.2.2.2.2.2.2.2))) λMY=>al (aH (MY.2.1) (al (pf.call (MY.2.2.2.2.2.2.1,MY.2.2.2.2.2.2.2.1,MY.2.2.2.2.2.2.2.2.1,MY.2.2.2.2.2.2.2.2.2.1,MY.2.2.2.2.2.2.2.2.2.2.1)) λaQG=>BQ (MY.2.2.1,MY.2.2.2.1,MY.2.2.2.2.1,(rz (cP .i64 aQG.2 MY.1) 6),MY.2.2.2.2.2.1,aQG.1.1,aQG.1.2.1,aQG.1.2.2.1,aQG.1.2.2.2.1,aQG.1.2.2.2.2,MY.2.2.2.2.2.2.2.2.2.2.2.1,MY.2.2.2.2.2.2.2.2.2.2.2.2.1,MY.2.2.2.2.2.2.2.2.2.2.2.2.2.1,MY.2.2.2.2.2.2.2.2.2.2.2.2.2.2.1,MY.2.2.2.2.2.2.2.2.2.2.2.2.2.2.2.1,MY.2.2.2.2.2.2.2.2.2.2.2.2.2.2.2.2)) (BQ (MY.2.2.1,MY.2.2.2.1,MY.2.2.2.2.1,false,MY.2.2.2.2.2.1,MY.2.2.2.2.2.2.1,MY.2.2.2.2.2.2.2.1,MY.2.2.2.2.2.2.2.2.1,MY.2.2.2.2.2.2.2.2.2.1,MY.2.2.2.2.2.2.2.2.2.2.1,MY.2.2.2.2.2.2.2.2.2.2.2.1,MY.2.2.2.2.2.2.2.2.2.2.2.2.1,MY.2.2.2.2.2.2.2.2.2.2.2.2.2.1,MY.2.2.2.2.2.2.2.2.2.2.2.2.2.2.1,MY.2.2.2.2.2.2.2.2.2.2.2.2.2.2.2.1,MY.2.2.2.2.2.2.2.2.2.2.2.2.2.2.2.2))) λKU=>aH (KU.2.2.2.1) (al (Hr.call (3,KU.2.2.2.2.2.2.2.2.2.2.2.2.2.2.1,KU.2.2.2.2.2.2.2.2.2.2.1,KU.2.2.2.2.2.2.2.2.2.2.2.1,KU.2.2.2.2.2.2.2.2.2.2.2.2.1,(KU.2.2.2.2.2.2.2.2.2.2.2.2.2.1.1,(KU.2.2.2.2.2.2.2.2.2.2.2.2.2.1.2.1,(KU.2.2.2.2.2.2.2.2.2.2.2.2.2.1.2.2.1,(KU.2.2.2.2.2.2.2.2.2.2.2.2.2.1.2.2.2.1,(true,KU.2.2.2.2.2.2.2.2.2.2.2.2.2.1.2.2.2.2.2))))))) λaNP=>kn (qc.st (KU.1,KU.2.1,(bI .i64 KU.2.2.1 1),(eF bl aNP.1.1 aNP.1.2 KU.2.2.2.2.1),KU.2.2.2.2.2.1,KU.2.2.2.2.2.2.1,KU.2.2.2.2.2.2.2.1,KU.2.2.2.2.2.2.2.2.1,KU.2.2.2.2.2.2.2.2.2.1,aNP.2.1,aNP.2.2,KU.2.2.2.2.2.2.2.2.2.2.2.2.2.2.2))) (kn (qc.st (KU.1,KU.2.1,(bI .i64 KU.2.2.1 1),(eF bl KU.2.2.2.2.2.2.2.2.2.2.2.2.1 KU.2.2.2.2.2.2.2.2.2.2.2.2.2.1 KU.2.2.2.2.1),KU.2.2.2.2.2.1,KU.2.2.2.2.2.2.1,KU.2.2.2.2.2.2.2.1,KU.2.2.2.2.2.2.2.2.1,KU.2.2.2.2.2.2.2.2.2.1,KU.2.2.2.2.2.2.2.2.2.2.1,KU.2.2.2.2.2.2.2.2.2.2.2.1,KU.2.2.2.2.2.2.2.2.2.2.2.2.2.2.2))))) none) none) none) (qc.go kx (dS,o2L,o3L,zK,azr,azs,Hx,akY,iR)):=bY
theorem aI0{R:Type}(o1 o2baL o3baL o4 o5 o6)(k:K1 R):Ka.A (o1,o2baL,o3baL,o4,o5,o6) k=al (wall.call o1) λaM1=>al (qc.call (aM1.1,((aM1.1:Nat):Int),0,aM1.2.1,o2baL,o3baL,o4,o5,o6,0,([]:List yt),aM1.2.2)) λOW=>k (Ka.out (OW.2.2.2.2.2.2.1,OW.1,OW.2.1,OW.2.2.1,OW.2.2.2.1,OW.2.2.2.2.1,OW.2.2.2.2.2.1,OW.2.2.2.2.2.2.2.1)):=bY
theorem arF{m:Wm}(h:∀p∈m,akV p.2)(o:bF):akV (od o m):=by
 unfold od;cases hg:bQ bl o m with
 |none=>exact WS
 |some x=>
  have:∃p∈m,p.2=x:=by
   unfold bQ at hg;cases hi:iQ bl o m with
   |none=>rw[hi]at hg;cases hg
   |some i=>
    rw[hi]at hg;have hg:(m[i]?).map (·.2)=some x:=hg;rw[db]at hg;obtain⟨p,hp,e⟩:=hg;exact⟨p,cI hp,e⟩
  obtain⟨p,hp,rfl⟩:=this;exact h p hp
theorem atV{A0:At}{b nb n:Nat}{a:At}{s:List bW}{bs:List dh}(h:rk A0 b nb n a s bs)(o:bF):nT (mJ o (bs.take nb)).1/\((mJ o (bs.take nb)).2.2=true->gV (mJ o (bs.take nb)).1=true/\1<=(mJ o (bs.take nb)).2.1)/\0<=(mJ o (bs.take nb)).2.1/\(mJ o (bs.take nb)).2.1<=nb:=by
 unfold mJ;cases e:yn o (bs.take nb) 0 with
 |none=>exact⟨v0,λh=>(by cases h),ix _,by show(0:Int)<=nb;omega⟩
 |some x=>
  obtain⟨h1,h2,c,h3,h4⟩:=ake e;obtain⟨h5,h6⟩:=h.aSS h3 h4;rw[bp]at h2;exact⟨h6,λ_=>⟨h5,by show 1<=x.2;omega⟩,by show 0<=x.2;omega,by show x.2<=nb;omega⟩
theorem agZ{A0:At}{b nb n:Nat}{a:At}{s:List bW}{bs:List dh}(h:rk A0 b nb n a s bs)(o:bF):uw.call (o,nb,n,a,s,bs)=some ((mJ o (bs.take nb)).1,(mJ o (bs.take nb)).2.1,(mJ o (bs.take nb)).2.2,nb,n,a,s,bs):=by
 rw[h.aSe o];unfold mJ
 all_goals cases yn o (bs.take nb) 0 <;> rfl
theorem TD{m:Wm}{o:bF}{v:jn}{p:bF×jn}(h:p∈eF bl o v m):p=(o,v)\/p∈m:=by
 unfold eF at h;split at h
 ·exact(List.mem_or_eq_of_mem_set h).symm
 ·rcases bB.1 h with h | h
  ·exact .inr h
  ·exact .inl (bh.1 h)
theorem aLE{A0:At}{b nb n:Nat}{a:At}{s:List bW}{bs:List dh}(h:rk A0 b nb n a s bs)(H:Int)(o:bF){x:jn}(hx:akV x):akV (gh H (bs.take nb) o x).1:=by
 obtain⟨hv,jj,_⟩:=atV h o;unfold gh;split
 ·exact hx
 ·generalize mJ o (bs.take nb)=r at hv jj;have h1:akV (s9 o x r.2.1 r.2.2 (mj r.1)).1:=by
   unfold s9;split
   ·exact WS
   ·exact hx
  have h2:akV (Ba o r.1 r.2.1 r.2.2 (mj r.1) (s9 o x r.2.1 r.2.2 (mj r.1)).1).1:=by
   unfold Ba;split
   ·rename_i hc;exact⟨hv,λ_=>(jj (by simp only[au]at hc;exact hc.1)).1⟩
   ·exact h1
  show akV (Tw o r.1 r.2.1 r.2.2 H _).1;unfold Tw;split
  ·exact⟨h2.1,h2.2⟩
  ·exact h2
theorem ay2(H:Int)(l:List dh)(o:bF)(x:jn):(gh H l o x).2.length<=3:=by
 unfold gh;split
 ·exact aJ _
 ·have h1:∀h ok id,(s9 o x h ok id).2.length<=1:=λh ok id=>by unfold s9;split <;> exact dI rfl
  have h2:∀t h ok id x,(Ba o t h ok id x).2.length<=1:=λt h ok id x=>by unfold Ba;split <;> exact dI rfl
  have h3:∀t h ok H x,(Tw o t h ok H x).2.length<=1:=λt h ok H x=>by unfold Tw;split <;> exact dI rfl
  simp only[ai];have:=h1 (mJ o l).2.1 (mJ o l).2.2 (mj (mJ o l).1);have:=h2 (mJ o l).1 (mJ o l).2.1 (mJ o l).2.2 (mj (mJ o l).1) (s9 o x (mJ o l).2.1 (mJ o l).2.2 (mj (mJ o l).1)).1;have:=h3 (mJ o l).1 (mJ o l).2.1 (mJ o l).2.2 H (Ba o (mJ o l).1 (mJ o l).2.1 (mJ o l).2.2 (mj (mJ o l).1) (s9 o x (mJ o l).2.1 (mJ o l).2.2 (mj (mJ o l).1)).1).1;omega
theorem avK{A0:At}{b nb n:Nat}{a:At}{s:List bW}{bs:List dh}(h:rk A0 b nb n a s bs)(H:Int)(o:bF){m:Wm}(out:List yt)(hm:∀p∈m,akV p.2):
  (∀p∈(lookW H (bs.take nb) (m,out) o).1,akV p.2)/\(lookW H (bs.take nb) (m,out) o).2.length<=out.length+3:=by
 unfold lookW;split
 ·exact⟨hm,j5 _ _⟩
 ·refine⟨λp hp=> ?_,?_⟩
  ·rcases TD hp with rfl | hp
   ·exact aLE h H o (arF hm o)
   ·exact hm p hp
  ·rw[ai];have:=ay2 H (bs.take nb) o (od o (m,out).1);show out.length+_<=_;omega
theorem apV:(Ka.kN 0 qc):=by
 refine(Ka.mh 0 qc) (λ(_,_,i,_,_,_,_,_,_,_,_,ks)=>ks.length - i.toNat) ?_
 rintro⟨kL,kn,i,m,nb,n,a,s,bs,oL,out,ks⟩ ⟨hj,aEX,rfl,rfl,rfl,hm,k,hk,rfl,ho⟩;obtain⟨A0,b,hc⟩:=id hj;have aEX:ks.length<=1000000:=aEX;have hk:k<=ks.length:=hk;have ho:out.length<=3*k:=ho;have aE1:nb<=1000000:=hc.ch.2.1;by_cases h:k < ks.length
 ·left;have n1:nth bl ks k=ks[k]:=cg (t:=bl) h;have hd:ks.drop k=ks[k]::ks.drop (k+1):=aq h;generalize ks[k]=o at n1 hd;obtain⟨g1,g2⟩:=avK hc nb o out hm;refine⟨(ks.length,(ks.length:Int),((k+1:Nat):Int),(lookW nb (bs.take nb) (m,out) o).1,nb,n,a,s,bs,(lookW nb (bs.take nb) (m,out) o).2.length,(lookW nb (bs.take nb) (m,out) o).2,ks),⟨hj,aEX,rfl,rfl,rfl,g1,k+1,h,rfl,by show _<=3*(k+1);omega⟩,by simp only[aa];omega,?_,λkn kx=> ?_⟩
  ·simp only[bt,GJ,aa,hd,bA]
  clear g1 g2 hd;have hx:=arF hm o;obtain⟨hv,jj,h0,hH⟩:=atV hc o;have csp:=agZ hc o;have ex:(bQ bl o m).getD (false,((([]:List gG),(([]:List gf),((0:Int),()))),((ab 32 (0:Int)),((0:Int),(false,())))))=od o m:=rfl;have el:lookW nb (bs.take nb) (m,out) o=if(od o m).2.2.2.2.1 then(m,out) else(eF bl o (gh nb (bs.take nb) o (od o m)).1 m,out++(gh nb (bs.take nb) o (od o m)).2):=rfl
  rw[MW,aU ak,aj,bg ak ak,aj,aa,aN,aM h,aj,aM ak,aj,n1,ex];generalize od o m=x at hx el ⊢;cases hf:x.2.2.2.2.1 with
  |true=>
   rw[hf,if_pos rfl]at el;rw[aj,el,N.mO ak]
  |false=>
   rw[hf,if_neg (by decide)]at el;have eX:gh nb (bs.take nb) o x=_:=if_neg (by rw[hf];decide);rw[ao,csp,el,eX];generalize mJ o (bs.take nb)=r at hv jj h0 hH csp;obtain⟨t,hh,okv⟩:=r;have hv:nT t:=hv;have h0:0<=hh:=h0;have hH:hh<=nb:=hH;rw[ah];show al (tid.call t) _=_;rw[Gy (d:=t) hv];simp only[bt,RR,Sd,R9,Sf,Sb,ah];have c1:∀(out':List yt) (x':jn) (d:Int),out'.length<=1000000000->okv=true->Hr.call (d,t,out'.length,out',o,x')=some ((o,x'),(out'.length+1,out'++ [(d,(o,(t,(x'.2.2.2.1,()))))])):=λout' x' d hl hk=>by have:=ahi (d:=(d,t,out'.length,out',o,x')) ⟨hv,rfl,hl⟩;simp only[UA,akR,TM hv (jj hk).1]at this;exact this
   obtain⟨r1,aE3⟩:∃r,s9 o x hh okv (mj t)=r:=⟨_,rfl⟩;refine(bo (λz=>al z _) (?_:_=some (hh,okv,ks.length,(ks.length:Int),(k:Int),m,nb,n,a,s,bs,(out++r1.2).length,out++r1.2,o,r1.1,t,mj t,ks))).trans ?_
   ·rw[<-aE3];unfold s9 Vj;cases aO8:x.1 with
    |false=>simp only[ao,cM,bn,bq,ba]
    |true=>
     have cw:=ahi (d:=(2,x.2.1,out.length,out,o,x)) ⟨hx.1,rfl,by show out.length<=_;omega⟩;simp only[UA,akR,TM hx.1 (hx.2 aO8)]at cw;rw[cw];simp only[ah,aj,bu];cases okv with
     |false=>simp only[eZ,aj,Bool.true_or,bG,ai];rfl
     |true=>
      simp only[cz,ao,we];cases BY hh x.2.2.2.1 with
      |true=>simp only[aj,Bool.true_or,bG,ai];rfl
      |false=>
       simp only[ao,we];cases Ty.beq tH (mj t) x.2.2.1 with
       |true=>simp only[cz,ao,bn,bq,ba]
       |false=>simp only[eZ,aj,bG,ai];rfl
   have l1:(out++r1.2).length<=out.length+1:=by
    rw[<-aE3];unfold s9;split
    ·rw[ai];exact ax _
    ·rw[ai];exact oV _
   rw[ah];obtain⟨out1,aVw⟩:∃l,out++r1.2=l:=⟨_,rfl⟩;rw[aVw]at l1 ⊢;obtain⟨r2,adT⟩:∃r,Ba o t hh okv (mj t) r1.1=r:=⟨_,rfl⟩;refine(bo (λz=>al z _) (?_:_=some (hh,okv,ks.length,(ks.length:Int),(k:Int),m,nb,n,a,s,bs,(out1++r2.2).length,out1++r2.2,o,r2.1,t,ks))).trans ?_
   ·rw[<-adT];unfold Ba;cases aiN:okv with
    |false=>simp only[ao,ah,cM,bn,bq,ba]
    |true=>
     cases aO8:r1.1.1 with
     |true=>simp only[aj,ao,ah,cz,Bool.and_false,bn,bq,ba]
     |false=>
      have cw:=c1 out1 (true,(t,(mj t,(hh,(false,()))))) 1 ak aiN;have ck:=Uw (d:=t) hv;simp only[bt,akK,TM hv (jj aiN).1]at ck;simp only[aj,ah,eZ,wc,bG,ck,cw,ai];rfl
   have l2:(out1++r2.2).length<=out1.length+1:=by
    rw[<-adT];unfold Ba;split
    ·rw[ai];exact ax _
    ·rw[ai];exact oV _
   rw[ah];obtain⟨out2,aSI⟩:∃l,out1++r2.2=l:=⟨_,rfl⟩;rw[aSI]at l2 ⊢;refine(bo (λz=>al z _) (?_:_=some (ks.length,(ks.length:Int),(k:Int),okv && rz (nb - hh) 6,m,nb,n,a,s,bs,out2.length,out2,o,r2.1,t,ks))).trans ?_
   ·cases okv with
    |false=>simp only[ao,cM]
    |true=>simp only[aj,bu,YY,ah];rw[eL ak ak]
   rw[ah];simp only[aE3,adT];rw[<-aF,<-aF,aVw,aSI];unfold Tw;cases aEU:(okv && rz (nb - hh) 6) with
   |false=>
    simp only[ao,bn,bq,ba];rw[N.mO ak]
   |true=>
    have aiN:okv=true:=by simp only[au]at aEU;exact aEU.1
    have cw:=c1 out2 (r2.1.1,(r2.1.2.1,(r2.1.2.2.1,(r2.1.2.2.2.1,(true,()))))) 3 ak aiN;simp only[aj,bG];refine(bo (λz=>al z _) cw).trans ?_
    rw[ah,N.mO ak,ai];rfl
 ·right;obtain rfl:k=ks.length:=ak;intro R kn kx;rw[MW,aR ak,ao];simp only[bt,GJ,aa,aK,cY]
theorem Ux{m:Wm}(h:∀p∈m,Le p.1):(J9 m).Perm (m.map (·.1)):=(akh Eb λx hx=>by
 obtain⟨p,hp,rfl⟩:=cS.1 hx;exact h p hp).1
theorem aI1:Ka.Ok:=by
 rintro⟨m,nb,n,a,s,bs⟩ ⟨hj,hl,hn,hm⟩;have hl:m.length<=1000:=hl;have hle:nb<=bs.length:=by obtain⟨A0,b,hc⟩:=hj;exact hc.ch.1
 have hlen:(J9 m).length=m.length:=by rw[(Ux λp hp=>(hm p hp).1).length_eq,bU]
 have z1:((0:Int)).toNat=0:=rfl;rw[aI0,adp (d:=m) ⟨by show m.length<=_;omega,λp hp=>(hm p hp).1⟩];simp only[ah,bt,aut];rw[akN (d:=(m.length,(m.length:Int),0,m,nb,n,a,s,bs,0,[],J9 m)) ⟨hj,by show(J9 m).length<=_;omega,hlen.symm,by show(m.length:Int)=_;rw[hlen],rfl,λp hp=>(hm p hp).2,0,aJ _,rfl,ax _⟩];simp only[ah,bt,GJ,z1,aD,bt,Ya,iK]
theorem ahg:Ka.RS:=rE [.d (.slice (.pair bl l7)),.n,.n,.d (.slice (.pair bl eQ)),.d (.slice cD),.d (.slice dR)] Ka
def apX:=Ka.eS aI1 1 ⟨.fp apV,trivial⟩
def Bw:Int->SA:=λn=>([.d ti n],[])
def KL:Bs->fG:=λx=>⟨.d tB x,[],[]⟩
def tI:Int->Bs->Bs:=λn y=>y
def KK:Nat->Int->Prop
 | 0=>λ_=>False
 |dep+1=>λn=>0<=n/\n<=9223372036854775807/\n < 128^(dep+1)
def CE:Int->Bs:=λn=>gl n
theorem ats{n:Int}(h:n < 128):gl n=[n]:=by unfold gl;rw[gH,if_neg ak];rfl
theorem aAz{n:Int}(h:128<=n)(h2:n<=9223372036854775807):gl n=(n%128+128)::gl (n / 128):=by unfold gl;rw[agL h h2];rfl
theorem apO{n:Int}(h0:0<=n)(h:n < 256):dX .u8 n=n:=by rw[Th,gX];omega
theorem agz:∀d d',Bw d=Bw d'->d=d':=W2 [.d ti] λ_=>bY
def X3(dep:Nat):Entry:=Entry.of [some ti] Bw (KK dep) (λd=>tI d (CE d)) KL
def Wc(dep:Nat):Int->Option Bs:=λd=>(X3 dep).run (Bw d).1 (Bw d).2
theorem as9{dep:Nat}{d:Int}(h:KK dep d):Wc dep d=some (tI d (CE d)):=Entry.vK agz h
def av9(dep:Nat):oT:=avr 191 ml (X3 dep) (jy (P:=Tryz.prog) [])
def abP:xi:= {bJ:=[8,13],res:=[some tB]}
def av7(dep:Nat):= @HD Tryz.prog (av9 dep) abP 0 Tryz.f191 _ Bw
theorem aG4{R:Type}(dep:Nat)(n:Int)(k:fG->Option R):av7 dep n k=aH ((gq n (128:Int))) (k (KL [(dX .u8 n)])) (al (Wc dep (tV .i64 n (128:Int))) λx1=>aH (da (1+(ag x1)) 1) (aH (decide (0=0/\(0+(1+(ag x1)))<=(ag ([(bI .u8 (dX .u8 (mR n (128:Int))) (128:Int))]++x1)))) (k (KL (cut ([(bI .u8 (dX .u8 (mR n (128:Int))) (128:Int))]++x1) 0 (1+(ag x1))))) none) none):=bY
theorem aG5:∀(dep:Nat) (d:Int),KK (dep+1) d->av7 dep d some=some (KL (tI d (CE d))):=by
 rintro dep (n:Int) ⟨h0,h1,h2⟩;have h0:0<=n:=h0;have h1:n<=9223372036854775807:=h1;have h2:n < 128^(dep+1):=h2;rw[aG4];simp only[tI,CE];by_cases h:n < 128
 ·rw[aU h,aj,ats h,apO h0 ak]
 ·obtain⟨m,rfl⟩:∃m:Nat,n=m:=⟨n.toNat,ak⟩;cases dep with
  |zero=>exact absurd h2 h
  |succ dep=>
   have e:(128:Int)^(dep+1+1)=128^(dep+1)*128:=fJ 128 (dep+1);have e1:tV .i64 (m:Int) (128:Int)=((m / 128:Nat):Int):=N.aUv ak;have e2:mR (m:Int) (128:Int)=((m%128:Nat):Int):=N.aSU;have e3:bI .u8 (dX .u8 ((m%128:Nat):Int)) (128:Int)=(m:Int)%128+128:=by rw[apO ak ak];show IntKind.u8.wrap _=_;rw[wrap_u8,gX];omega
   have e4:((m / 128:Nat):Int)=(m:Int) / 128:=ak;have hl:=kE ((m:Int) / 128);rw[aR h,ao,e1,e2,e3,e4,as9 (dep:=dep+1) (d:=(m:Int) / 128) ⟨by show 0<=(m:Int) / 128;omega,by show(m:Int) / 128<=_;omega,by show(m:Int) / 128 < _;omega⟩];simp only[ah,tI,CE];rw[dr ak ak,aAz ak h1];have el:([(m:Int)%128+128]++gl ((m:Int) / 128)).length=1+(gl ((m:Int) / 128)).length:=by rw[ai];rfl
   rw[aM ⟨by trivial,by rw[el];omega⟩,eV el];rfl
def av8:Entry:=X3 9
def Oz:Int->Option Bs:=Lp av8 Bw
theorem agA{d:Int}(h:KK 9 d):Oz d=some (tI d (CE d)):=Entry.vK agz h
theorem Wd:∀dep,qZ Tryz.prog 191 (X3 dep)
 | 0=>qZ.of (an:=abP) (N:=0) (fn:=Tryz.f191) bY (show Sound _ aOF from Sound.nil _) bY bY bY (kN.fn 0 bY trivial) (λ_ h=>False.elim h)
 |dep+1=>qZ.of (an:=abP) (N:=0) (fn:=Tryz.f191) bY (show Sound _ (av9 dep) from Sound.cons (vj.of (Wd dep) (by rfl)) (Sound.jy (P:=Tryz.prog) [])) bY bY bY (kN.fn 0 bY trivial) (aG5 dep)
def aoG:SG Tryz.prog:=⟨191,ml,av8,.of (Wd 9) (by rfl)⟩
def az1:(Bs×Int)->Prop:=λ(b,n)=>b.length<=90000000/\n<=9223372036854775807
def nK:(Bs×Int)->Bs:=λ(b,n)=>cF b n
def rM:Fs Tryz.prog az1 bt nK:=eN 150 Tryz.f150 (λ(b,n)=>([.d tB b,.d ti n],[])) (λx=>⟨.d tB x,[],[]⟩) [some tB,some ti] [aoG] {bJ:=[6],res:=[some tB]}
theorem aG2{R:Type}(b n)(k:K1 R):rM.A (b,n) k=aH (da (0+(ag b)) 1) (aH ((Cm n 0)) (al (Oz n) λx1=>aH (decide ((0+(ag b))<=(ag ((aQ 0 (ab 0 0))++b)))) (aH (da ((0+(ag b))+(ag x1)) 1) (aH (decide (0=0/\(0+((0+(ag b))+(ag x1)))<=(ag ((aQ (0+(ag b)) ((aQ 0 (ab 0 0))++b))++x1)))) (k (rM.out (cut ((aQ (0+(ag b)) ((aQ 0 (ab 0 0))++b))++x1) 0 ((0+(ag b))+(ag x1))))) none) none) none) (aH (decide (0=0/\(0+(0+(ag b)))<=(ag ((aQ 0 (ab 0 0))++b)))) (k (rM.out (cut ((aQ 0 (ab 0 0))++b) 0 (0+(ag b))))) none)) none:=bY
theorem aG3:rM.Ok:=by
 rintro⟨b,n⟩ ⟨hb,hn⟩;have hb:b.length<=90000000:=hb;have hn:n<=9223372036854775807:=hn;have e0:(aQ 0 (ab 0 0):List Int)=[]:=rfl;rw[aG2];simp only[aN,e0,aT,bt,nK,cF,ax,jh,cr,aj,eV,bK];rw[dr ak ak,aj];by_cases h:n>=0
 ·have hl:=kE n;rw[gr h,aj,if_neg ak,agA (d:=n) ⟨h,hn,by have e:(128:Int)^(8+1)=9223372036854775808:=rfl;rw[e];show n < _;omega⟩];simp only[ah,tI,CE];rw[dr ak ak,aM ⟨by trivial,by rw[ai];omega⟩,eV (by rw[ai])];rfl
 ·rw[eE h,if_pos ak];rfl
theorem jt:rM.RS:=rE [.d tB,.d ti] rM
def abK:=rM.eS aG3
abbrev Wb:=Int×Nat×Int×(List Int)
def aeq:Wb->Prop:=λ(n,m,i,l)=>m=l.length/\∃j:Nat,j<=8/\i=7 - (j:Int)/\l.length<=100000000+j
def CD:Wb->(Nat×(List Int)):=λ(n,m,i,l)=>(m+(i+1).toNat,l++(jo n).drop (7 - i).toNat)
def as8:(Bs×Int)->Prop:=λ(b,n)=>b.length<=90000000
def abN:(Bs×Int)->Bs:=λ(b,n)=>b++jo n
def qK:Ls aeq bt CD:=rW (λ(wG,outL,i,n7)=>⟨([bE,.d tu wG,bE,bE,bE,oh 7 outL,.d ti i]++aP 17 []),[],(bM 7 ([dK (.vec 5 tb n7)]++bM 16 []))⟩) (λx=>(.exit 0,⟨(aP 5 ([oh 7 x.1]++aP 18 [])),[],(bM 7 ([dK (.vec 5 tb x.2)]++bM 16 []))⟩))
def Bv:Fs Tryz.prog as8 bt abN:=eN 194 Tryz.f194 (λ(b,n)=>([.d tB b,.d tu n],[])) (λx=>⟨.d tB x,[],[]⟩) [some tB,some tu] [] {bJ:=[7],loops:=nX [(3,{aV:=[1,5,6],sites:=[7],owns:=[⟨5,[],7,127⟩]})],outs:=nV [(3,{aV:=[5],sites:=[7]},{aV:=[4]})],fC:=na [(3,qK.E)],res:=[some tB]}
theorem aer:qK.RS:=rL [.d tu,.n,.d ti,.d tB] qK
theorem I9{R:Type}(wG outL i n7)(kn:K2 R)(kx:K3 R):Bv.R 0 qK (wG,outL,i,n7) kn kx=aH ((Cm i 0)) (aH (mF (dX .u64 (gv .i64 8 i))) (aH (decide (outL<=(ag n7))) (aH (da (outL+1) 1) (kn (qK.st (wG,(outL+1),(cP .i64 i 1),((aQ outL n7)++ [(dX .u8 (cv .u64 wG (dX .u64 (gv .i64 8 i))))])))) none) none) none) (qK.go kx (outL,n7)):=bY
theorem aAa{R:Type}(b n)(k:K1 R):Bv.A (b,n) k=aH (da (0+(ag b)) 1) (al (qK.call (n,(0+(ag b)),7,((aQ 0 (ab 0 0))++b))) λx1=>aH (decide (0=0/\(0+x1.1)<=(ag x1.2))) (k (Bv.out (cut x1.2 0 x1.1))) none) none:=bY
theorem ajV:(Bv.kN 0 qK):=by
 refine(Bv.mh 0 qK) (λ(n,m,i,l)=>(i+1).toNat) ?_
 rintro⟨n,m,i,l⟩ ⟨rfl,j,hj,rfl,hl⟩;have hl:l.length<=100000000+j:=hl;have e1:(7 - (7 - (j:Int))).toNat=j:=ak;by_cases h:j < 8
 ·left;have e2:cP .i64 (7 - (j:Int)) 1=7 - ((j+1:Nat):Int):=by rw[eL ak ak];omega
  have e3:(7 - (7 - ((j+1:Nat):Int))).toNat=j+1:=ak;have e4:gv .i64 8 (7 - (j:Int))=((56 - 8*j:Nat):Int):=by rw[Ii ak ak];omega
  have e5:dX .u64 ((56 - 8*j:Nat):Int)=((56 - 8*j:Nat):Int):=by rw[XP,gX];omega
  refine⟨(n,l.length+1,7 - ((j+1:Nat):Int),l++ [n / 2^(56 - 8*j)%256]),⟨by rw[ai];rfl,j+1,ak,rfl,by rw[ai];show l.length+1<=_;omega⟩,by simp only;omega,?_,λkn kx=> ?_⟩
  ·simp only[bt,CD,e1,e3,alo n j h,aF,cZ];rw[show l.length+1+(7 - ((j+1:Nat):Int)+1).toNat=l.length+(7 - (j:Int)+1).toNat by omega]
  ·rw[I9,gr ak,e4,e5,tE ak,adj n _ ak,e2,aM (ax _),dr ak ak,bK];rfl
 ·right;obtain rfl:j=8:=ak;intro R kn kx;rw[I9,eE ak,ao];simp only[bt,CD,e1];rw[dZ (by rw[cj];omega),ba];rfl
theorem aAb:Bv.Ok:=by
 rintro⟨b,n⟩ hb;have hb:b.length<=90000000:=hb;have e0:(aQ 0 (ab 0 0):List Int)=[]:=rfl;rw[aAa];simp only[aN,e0,aT];rw[dr ak ak,aj,aer (d:=(n,b.length,7,b)) ⟨rfl,0,ak,rfl,ak⟩];simp only[ah,bt,CD];rw[show(7 - (7:Int)).toNat=0 from rfl,show((7:Int)+1).toNat=8 from rfl,aD];have el:(b++jo n).length=b.length+8:=by rw[ai,cj]
 rw[aM ⟨by trivial,by rw[el];omega⟩,eV el];rfl
theorem abO:Bv.RS:=rE [.d tB,.d tu] Bv
def aAc:=Bv.eS aAb 1 ⟨.fp ajV,trivial⟩
def abI:(Int×Int×Int)->Prop:=λ(a,b,o)=>Pn a/\nU b/\Pn o
def Ge:(Int×Int×Int)->Int:=λ(a,b,o)=>(o+a*b)%4611686018427377339
def aoF:(Int×Int)->Prop:=λ(a,b)=>Pn a/\nU b
def az0:(Int×Int)->Int:=λ(a,b)=>pJ a b
def l5:Ls abI bt Ge:=rW (λ(UD,iN,outv)=>⟨([.d tu UD,.d tu iN,bE,bE,bE,.d tu outv]++aP 16 []),[],(ab 22 [])⟩) (λx=>(.exit 0,⟨(aP 5 ([.d tu x]++aP 16 [])),[],(ab 22 [])⟩))
def sF:Fs Tryz.prog aoF bt az0:=eN 239 Tryz.f239 (λ(a,b)=>([.d tu a,.d tu b],[])) (λx=>⟨.d tu x,[],[]⟩) [some tu,some tu] [] {loops:=nX [(2,{aV:=[0,1,5]})],outs:=nV [(2,{aV:=[5]},{aV:=[4]})],fC:=na [(2,l5.E)]}
theorem abJ:l5.RS:=rL [.d tu,.d tu,.d tu] l5
theorem G8{R:Type}(UD iN outv)(kn:K2 R)(kx:K3 R):sF.R 0 l5 (UD,iN,outv) kn kx=aH ((rz iN 0)) (aH ((qY (mR iN 2) 1)) (kn (l5.st ((mR (bI .u64 UD UD) 4611686018427377339),(tV .u64 iN 2),(mR (bI .u64 outv UD) 4611686018427377339)))) (kn (l5.st ((mR (bI .u64 UD UD) 4611686018427377339),(tV .u64 iN 2),outv)))) (l5.go kx outv):=bY
theorem as0{R:Type}(a b)(k:K1 R):sF.A (a,b) k=al (l5.call (a,b,0)) λx1=>k (sF.out x1):=bY
theorem ayw(o a b:Int)(m:Int):(o+a*b)%m=((if b%2=1 then(o+a)%m else o)+(a+a)%m*(b / 2))%m:=by
 have e:b=2*(b / 2)+b%2:=ak;have hb:b%2=0\/b%2=1:=ak;generalize b / 2=q at*;have l1:∀x y:Int,(x%m+(a+a)%m*y)%m=(x+(a+a)*y)%m:=λx y=>by rw[tZ,gM _ (qd m),jA,gM _ (qd m),<-jA,<-tZ]
 have l2:∀x y:Int,(x+(a+a)%m*y)%m=(x+(a+a)*y)%m:=λx y=>by rw[tZ,jA,gM _ (qd m),<-jA,<-tZ]
 rcases hb with h | h
 ·rw[if_neg ak,l2];rw[h]at e;rw[e,Int.add_zero,Int.add_mul,<-rn,qe a 2,Int.two_mul,Int.add_mul]
 ·rw[if_pos h,l1];rw[h]at e;rw[e,Int.mul_add,xj,<-rn,qe a 2,Int.two_mul];congr 1;omega
theorem aNw{n:Int}(h:nU n):tV .u64 n 2=n / 2:=ai0 h.1 ak h.2
theorem aen:(sF.kN 0 l5):=by
 refine(sF.mh 0 l5) (λ(a,b,o)=>b.toNat) ?_
 rintro⟨a,b,o⟩ ⟨ha,hb,ho⟩;have ha:Pn a:=ha;have hb:nU b:=hb;have ho:Pn o:=ho;obtain⟨a0,a1⟩:=ha;obtain⟨b0,b1⟩:=hb;obtain⟨o0,o1⟩:=ho;by_cases h:0 < b
 ·left;have e1:mR (bI .u64 a a) 4611686018427377339=(a+a)%4611686018427377339:=by
   have:bI .u64 a a=a+a:=by rw[uH];omega
   rw[this,wx ak]
  have e2:mR (bI .u64 o a) 4611686018427377339=(o+a)%4611686018427377339:=by
   have:bI .u64 o a=o+a:=by rw[uH];omega
   rw[this,wx ak]
  refine⟨((a+a)%4611686018427377339,b / 2,if b%2=1 then(o+a)%4611686018427377339 else o),⟨⟨ak,ak⟩,⟨ak,ak⟩,?_⟩,by simp only[];omega,?_,λkn kx=> ?_⟩
  ·show Pn (if b%2=1 then(o+a)%4611686018427377339 else o);split
   ·exact⟨ak,ak⟩
   ·exact⟨o0,o1⟩
  ·exact bo _ (ayw o a b 4611686018427377339).symm
  ·rw[G8,cR h,e1,e2,aNw ⟨b0,b1⟩,wx b0];by_cases h1:b%2=1
   ·rw[du h1,if_pos h1];rfl
   ·rw[eH h1,if_neg h1];rfl
 ·right;intro R kn kx;obtain rfl:b=0:=ak;rw[G8,cn ak];simp only[ao,bt,Ge];rw[show(o+a*0)%4611686018427377339=o by omega]
theorem as1:sF.Ok:=by rintro⟨a,b⟩ ⟨ha,hb⟩;rw[as0,abJ (d:=(a,b,0)) ⟨ha,hb,ak,ak⟩];simp only[ah,bt,Ge,Int.zero_add];rfl
theorem V9:sF.RS:=rE [.d tu,.d tu] sF
def as2:=sF.eS as1 1 ⟨.fp aen,trivial⟩
def abG:(Int×Int×Int)->Prop:=λ(a,n,o)=>Pn a/\nU n/\Pn o
def zQ:(Int×Int×Int)->Int:=λ(a,n,o)=>akZ 64 a n.toNat o
def aoC:(Int×Int)->Prop:=λ(a,n)=>Pn a/\nU n
def azZ:(Int×Int)->Int:=λ(a,n)=>pw a n.toNat
def lZ:Ls abG bt zQ:=rW (λ(UD,wG,outv)=>⟨([.d tu UD,.d tu wG,bE,bE,bE,.d tu outv]++aP 14 []),[],(ab 20 [])⟩) (λx=>(.exit 0,⟨(aP 5 ([.d tu x]++aP 14 [])),[],(ab 20 [])⟩))
def wR:Fs Tryz.prog aoC bt azZ:=eN 219 Tryz.f219 (λ(a,n)=>([.d tu a,.d tu n],[])) (λx=>⟨.d tu x,[],[]⟩) [some tu,some tu] [as2] {loops:=nX [(2,{aV:=[0,1,5]})],outs:=nV [(2,{aV:=[5]},{aV:=[4]})],fC:=na [(2,lZ.E)]}
theorem abH:lZ.RS:=rL [.d tu,.d tu,.d tu] lZ
theorem G7{R:Type}(UD wG outv)(kn:K2 R)(kx:K3 R):wR.R 0 lZ (UD,wG,outv) kn kx=aH ((rz wG 0)) (aH ((qY (mR wG 2) 1)) (al (sF.call (outv,UD)) λx1=>al (sF.call (UD,UD)) λx2=>kn (lZ.st (x2,(tV .u64 wG 2),x1))) (al (sF.call (UD,UD)) λx3=>kn (lZ.st (x3,(tV .u64 wG 2),outv)))) (lZ.go kx outv):=bY
theorem asU{R:Type}(a n)(k:K1 R):wR.A (a,n) k=al (lZ.call (a,n,1)) λx4=>k (wR.out x4):=bY
theorem aem:(wR.kN 0 lZ):=by
 refine(wR.mh 0 lZ) (λ(a,n,o)=>n.toNat) ?_
 rintro⟨a,n,o⟩ ⟨ha,hn,ho⟩;have ha:Pn a:=ha;have hn:nU n:=hn;have ho:Pn o:=ho;have n0:=hn.1;have n1:=hn.2;by_cases h:0 < n
 ·left;have e:zQ (a,n,o)=zQ (pJ a a,n / 2,if n%2=1 then pJ o a else o):=by
   show akZ 64 a n.toNat o=akZ 64 (pJ a a) (n / 2).toNat _;rw[abp 64 65 a n.toNat o ak ak];have t1:(n / 2).toNat=n.toNat / 2:=ak;have t2:(n%2=1)=(n.toNat%2=1):=by apply propext;omega
   rw[t1];simp only[t2];show(if n.toNat=0 then o else _)=_;rw[if_neg ak]
  refine⟨(pJ a a,n / 2,if n%2=1 then pJ o a else o),⟨wD a a,⟨ak,ak⟩,?_⟩,by show(n / 2).toNat < n.toNat;omega,?_,λkn kx=> ?_⟩
  ·show Pn (if n%2=1 then pJ o a else o);split
   ·exact wD _ _
   ·exact ho
  ·exact bo _ e.symm
  ·rw[G7,cR h,aNw hn,wx n0,V9 (d:=(o,a)) ⟨ho,ha.u⟩,V9 (d:=(a,a)) ⟨ha,ha.u⟩];by_cases h1:n%2=1
   ·rw[du h1,if_pos h1];rfl
   ·rw[eH h1,if_neg h1];rfl
 ·right;intro R kn kx;obtain rfl:n=0:=ak;rw[G7,cn ak];simp only[ao,bt,zQ];rw[show akZ 64 a (ae 0) o=o from Br _ _ _]
theorem asV:wR.Ok:=by rintro⟨a,n⟩ ⟨ha,hn⟩;rw[asU,abH (d:=(a,n,1)) ⟨ha,hn,ak,ak⟩];rfl
theorem aoD:wR.RS:=rE [.d tu,.d tu] wR
def asW:=wR.eS asV 1 ⟨.fp aem,trivial⟩
def aoE:Int->Prop:=λp=>nU p
def KJ:Int->Bool:=λp=>vn p
def uU:Fs Tryz.prog aoE bt KJ:=eN 187 Tryz.f187 (λp=>([.d tu p],[])) (λx=>⟨.d .bool x,[],[]⟩) [some tu] [asW]
theorem asX{R:Type}(p)(k:K1 R):uU.A p k=aH ((Cm p 1)) (aH ((gq p 4611686018427377339)) (al (wR.call (p,2305843009213688669)) λx1=>k (uU.out (qY x1 1))) (k (uU.out false))) (k (uU.out false)):=bY
theorem asY:uU.Ok:=by
 intro(p:Int) hp;have hp:nU p:=hp;rw[asX];simp only[bt,KJ,vn];by_cases h:0 < p
 ·rw[gr ak,aj];by_cases h2:p < 4611686018427377339
  ·rw[aU h2,aj,aM ⟨h,h2⟩,bu,aoD (d:=(p,2305843009213688669)) ⟨⟨ak,h2⟩,by constructor <;> decide⟩];rfl
  ·rw[aR h2,ao,aS (λx=>h2 x.2),cM]
 ·rw[eE ak,ao,aS (λx=>h x.1),cM]
theorem V8:uU.RS:=rE [.d tu] uU
def asZ:=uU.eS asY
abbrev pQ:=oq×Int
def jv:pQ->AS:=λ(iN,i)=>⟨([bE,.dD ke iN,bE,.d ti i]++aP 50 []),[],(ab 54 [])⟩
def ka:Unit->Exit×AS:=λx=>(.ret,⟨([bE,bE,.d .bool false]++aP 51 []),[],(ab 54 [])⟩)
def qI:oq->Exit×AS:=λx=>(.exit 0,⟨([bE,.dD ke x]++aP 52 []),[],(ab 54 [])⟩)
abbrev Bu:=(Unit)⊕(oq)
abbrev IS:=(Unit)⊕(Unit)
def vS:Bu->Out (Exit×AS):=λx=> .br x.isLeft (.get x.getLeft? λa=> .ok (ka a)) (.get x.getRight? λb=> .ok (qI b))
def gU:pQ->IS->Bu:=λ(iN,i) y=>match y with | .inl y=> .inl y | .inr z=> .inr (iN)
def qH:pQ->Prop:=λ(b,i)=>aB6 b/\b.1.length<=1000000000/\∃k:Nat,k<=b.1.length/\i=k
def jl:pQ->IS:=λ(b,i)=>if(b.1.drop i.toNat).all vn then .inr () else .inl ()
def aek:oq->Prop:=λb=>aB6 b
def IP:oq->Bool:=λb=>vd b
def IQ:=dy.fp jv qH gU jl vS
def CA:pQ->Option Bu:=gB IQ jv
def gF:Fs Tryz.prog aek bt IP:=eN 145 Tryz.f145 (λb=>([.d ke b],[])) (λx=>⟨.d .bool x,[],[]⟩) [some ke] [asZ] {loops:=nX [(4,{aV:=[1,3]})],outs:=nV [(4,{aV:=[1]},{aV:=[2]})],fC:=na [(4,IQ)]}
def Bt:= @ee Tryz.prog (jy gF.G) gF.an 0 Tryz.f145 0 _ jv
abbrev G6:=kj Tryz.prog (jy gF.G) gF.an 0 Tryz.f145 0 jv qH gU jl vS
theorem TK:iW CA qH gU jl:=l6 (jk [.d ke,.d ti] λ_=>bY)
theorem Hy:mP @Bt jv qH gU jl vS G6:=nD
theorem CB{R:Type}(iN:oq)(i:Int)(kn:AS->Option R)(kx:Exit->AS->Option R):Bt (iN,i) kn kx=aH ((gq i (((ag iN.1):Nat):Int))) (aH (eo i (((ag iN.1):Nat):Int)) (al (uU.call (nth tu iN.1 (ae i))) λx1=>aH ((!x1)) (kx (ka ()).1 (ka ()).2) (kn (jv (iN,(bI .i64 i (1:Int)))))) none) (kx (qI iN).1 (qI iN).2):=bY
theorem ajE{R:Type}(b)(k:K1 R):gF.A b k=aH ((rz (b.1.length:Int) 12)) (k (gF.out false)) (aH ((gq b.2.1 0)) (k (gF.out false)) (aH ((rz b.2.1 1048576)) (k (gF.out false)) (aH ((gq b.2.2.1 0)) (k (gF.out false)) (aH ((rz b.2.2.1 1048576)) (k (gF.out false)) (al (CA (b,0)) λx2=>aH (x2.isLeft) (al (x2.getLeft?) λa3=>k (gF.out false)) (al (x2.getRight?) λb4=>al (uU.call b4.2.2.2.1) λx5=>aH ((qY b4.2.2.2.1 0)) (k (gF.out true)) (k (gF.out x5)))))))):=bY
theorem W8:G6:=by
 refine Hy (λ(b,i)=>b.1.length - i.toNat) ?_
 rintro⟨b,i⟩ ⟨hb,hl,k,hk,rfl⟩;have hl:b.1.length<=1000000000:=hl;have hk:k<=b.1.length:=hk;by_cases h:k < b.1.length
 ·have hx:=hb.1 _ (aO h);have n1:nth (.int .u64) b.1 k=b.1[k]:=cg (t:= .int .u64) h;have hd:(b.1.drop k).all vn=(vn b.1[k] && (b.1.drop (k+1)).all vn):=by rw[aq h,fb]
  have step:∀ {R:Type} (kn:AS->Option R) (kx:Exit->AS->Option R),Bt (b,(k:Int)) kn kx=aH (vn b.1[k]) (kn (jv (b,((k+1:Nat):Int)))) (kx (ka ()).1 (ka ()).2):=by intro R kn kx;rw[CB,aU ak,bg ak ak,aa,n1,N.mO ak,V8 (d:=b.1[k]) hx];simp only[aj,ah,bt,KJ];cases vn b.1[k] <;> rfl
  cases hp:vn b.1[k]
  ·right;refine⟨ka (),?_,λkn kx=> ?_⟩
   ·simp only[gU,jl,aa,hd,hp,cM,bn,bq];rfl
   ·rw[step,hp,ao]
  ·left;refine⟨(b,((k+1:Nat):Int)),⟨hb,hl,k+1,ak,rfl⟩,by simp only[aa];omega,?_,λkn kx=> ?_⟩
   ·simp only[gU,jl,aa,hd,hp,bu]
   ·rw[step,hp,aj]
 ·right;obtain rfl:k=b.1.length:=ak;refine⟨qI b,?_,λkn kx=> ?_⟩
  ·simp only[gU,jl,aa,aK];rfl
  ·rw[CB];simp(disch:=omega) only[↓S1,↓if_pos,↓if_neg,if_pos,if_neg,bG,bq,S2]
theorem ajF:gF.Ok:=by
 rintro⟨ks,af,dl,sc,u⟩ hb;have hb:aB6 (ks,af,dl,sc,u):=hb;have h2:nU sc:=hb.2;rw[ajE];simp only[bt,IP,vd,NQ];by_cases hk:ks.length<=12
 ·rw[cn ak,aM hk,TK (d:=((ks,af,dl,sc,u),0)) ⟨hb,by show ks.length<=1000000000;omega,0,ak,rfl⟩];simp only[ao,bu,ah,gU,jl,aX,aD];by_cases a1:af < 0
  ·rw[aU a1,aS (p:=0<=af/\af<=1048576) ak];cases ks.all vn <;> rfl
  by_cases a2:af > 1048576
  ·rw[aR a1,cR a2,aS (p:=0<=af/\af<=1048576) ak];cases ks.all vn <;> rfl
  by_cases a3:dl < 0
  ·rw[aR a1,cn a2,aU a3,aS (p:=0<=dl/\dl<=1048576) ak];cases ks.all vn <;> cases(decide (0<=af/\af<=1048576)) <;> rfl
  by_cases a4:dl > 1048576
  ·rw[aR a1,cn a2,aR a3,cR a4,aS (p:=0<=dl/\dl<=1048576) ak];cases ks.all vn <;> cases(decide (0<=af/\af<=1048576)) <;> rfl
  rw[aR a1,cn a2,aR a3,cn a4,aM (p:=0<=dl/\dl<=1048576) ak,aM (p:=0<=af/\af<=1048576) ak];cases aEX:ks.all vn
  ·simp only[aEX,bn,bq];rfl
  ·simp only[aEX,bG];show al (uU.call sc) _=_;rw[V8 (d:=sc) h2];simp only[ah,bt,KJ];by_cases hs:sc=0
   ·rw[aM hs];show aH (qY sc 0) _ _=_;rw[du hs];rfl
   ·rw[aS hs];show aH (qY sc 0) _ _=_;rw[eH hs];rfl
 ·rw[cR ak,aS hk];rfl
theorem ael:gF.RS:=rE [.d ke] gF
def ajG:=gF.eS ajF 1 ⟨.fp W8,trivial⟩
abbrev rD:=Lk×Int
def ku:rD->AS:=λ(vg,i)=>⟨([bE,.dD OZ vg,bE,.d ti i]++aP 24 []),[],(ab 28 [])⟩
def kV:Unit->Exit×AS:=λx=>(.ret,⟨([bE,bE,.d .bool false]++aP 25 []),[],(ab 28 [])⟩)
def si:Unit->Exit×AS:=λx=>(.exit 0,⟨(aP 28 []),[],(ab 28 [])⟩)
abbrev Dr:=(Unit)⊕(Unit)
abbrev Mi:=(Unit)⊕(Unit)
def yd:Dr->Out (Exit×AS):=λx=> .br x.isLeft (.get x.getLeft? λa=> .ok (kV a)) (.get x.getRight? λb=> .ok (si b))
def iA:rD->Mi->Dr:=λ(vg,i) y=>match y with | .inl y=> .inl y | .inr z=> .inr (z)
def sh:rD->Prop:=λ(l,i)=>adD l/\l.1.length<=1000000000/\∃k:Nat,k<=l.1.length/\i=k
def jN:rD->Mi:=λ(l,i)=>if(l.1.drop i.toNat).all vd then .inr () else .inl ()
def ajJ:Lk->Prop:=λl=>adD l
def Gd:Lk->Bool:=λl=>kP l
def Mh:=dy.fp ku sh iA jN yd
def Ex:rD->Option Dr:=gB Mh ku
def kr:Fs Tryz.prog ajJ bt Gd:=eN 93 Tryz.f93 (λl=>([.d OZ l],[])) (λx=>⟨.d .bool x,[],[]⟩) [some OZ] [ajG] {loops:=nX [(4,{aV:=[1,3]})],outs:=nV [(4,{},{aV:=[2]})],fC:=na [(4,Mh)]}
def Dq:= @ee Tryz.prog (jy kr.G) kr.an 0 Tryz.f93 0 _ ku
abbrev IT:=kj Tryz.prog (jy kr.G) kr.an 0 Tryz.f93 0 ku sh iA jN yd
theorem Xd:iW Ex sh iA jN:=l6 (jk [.d OZ,.d ti] λ_=>bY)
theorem IU:mP @Dq ku sh iA jN yd IT:=nD
theorem Ey{R:Type}(vg:Lk)(i:Int)(kn:AS->Option R)(kx:Exit->AS->Option R):Dq (vg,i) kn kx=aH ((gq i (((ag vg.1):Nat):Int))) (aH (eo i (((ag vg.1):Nat):Int)) (al (gF.call (nth ke vg.1 (ae i))) λx1=>aH ((!x1)) (kx (kV ()).1 (kV ()).2) (kn (ku (vg,(bI .i64 i (1:Int)))))) none) (kx (si ()).1 (si ()).2):=bY
theorem aom{R:Type}(l)(k:K1 R):kr.A l k=aH ((gq (l.1.length:Int) 1)) (k (kr.out false)) (aH ((rz (l.1.length:Int) 4)) (k (kr.out false)) (al (Ex (l,0)) λx2=>aH (x2.isLeft) (al (x2.getLeft?) λa3=>k (kr.out false)) (al (x2.getRight?) λb4=>k (kr.out true)))):=bY
theorem abu:IT:=by
 refine IU (λ(l,i)=>l.1.length - i.toNat) ?_
 rintro⟨l,i⟩ ⟨hb,hl,k,hk,rfl⟩;have hl:l.1.length<=1000000000:=hl;have hk:k<=l.1.length:=hk;by_cases h:k < l.1.length
 ·have hx:=hb _ (aO h);have n1:nth (.pair (.slice (.int .u64)) (.pair (.int .i64) (.pair (.int .i64) (.pair (.int .u64) .unit)))) l.1 k=l.1[k]:=cg (t:=(.pair (.slice (.int .u64)) (.pair (.int .i64) (.pair (.int .i64) (.pair (.int .u64) .unit))))) h;have hd:(l.1.drop k).all vd=(vd l.1[k] && (l.1.drop (k+1)).all vd):=by rw[aq h,fb]
  have step:∀ {R:Type} (kn:AS->Option R) (kx:Exit->AS->Option R),Dq (l,(k:Int)) kn kx=aH (vd l.1[k]) (kn (ku (l,((k+1:Nat):Int)))) (kx (kV ()).1 (kV ()).2):=by intro R kn kx;rw[Ey,aU ak,bg ak ak,aa,n1,N.mO ak,ael (d:=l.1[k]) hx];simp only[aj,ah,bt,IP];cases vd l.1[k] <;> rfl
  cases hp:vd l.1[k]
  ·right;refine⟨kV (),?_,λkn kx=> ?_⟩
   ·simp only[iA,jN,aa,hd,hp,cM,bn,bq];rfl
   ·rw[step,hp,ao]
  ·left;refine⟨(l,((k+1:Nat):Int)),⟨hb,hl,k+1,ak,rfl⟩,by simp only[aa];omega,?_,λkn kx=> ?_⟩
   ·simp only[iA,jN,aa,hd,hp,bu]
   ·rw[step,hp,aj]
 ·right;obtain rfl:k=l.1.length:=ak;refine⟨si (),?_,λkn kx=> ?_⟩
  ·simp only[iA,jN,aa,aK];rfl
  ·rw[Ey];simp(disch:=omega) only[↓S1,↓if_pos,↓if_neg,if_pos,if_neg,bG,bq,S2]
theorem aon:kr.Ok:=by
 intro l hl;have hl:adD l:=hl;rw[aom];simp only[bt,Gd,kP];by_cases h0:l.1.length < 1
 ·rw[aU ak,aS (p:=0 < l.1.length/\l.1.length<=4) ak,Bool.and_false];rfl
 by_cases h4:l.1.length > 4
 ·rw[aR ak,cR ak,aS (p:=0 < l.1.length/\l.1.length<=4) ak,Bool.and_false];rfl
 rw[aR ak,cn ak,aM (p:=0 < l.1.length/\l.1.length<=4) ak,Bool.and_true,Xd (d:=(l,0)) ⟨hl,by show l.1.length<=1000000000;omega,0,ak,rfl⟩];simp only[ao,ah,iA,jN,aX,aD];cases l.1.all vd <;> rfl
theorem Q4:kr.RS:=rE [.d OZ] kr
def V6:=kr.eS aon 1 ⟨.fp abu,trivial⟩
abbrev Dp:=Lk×Bs×Int×Int×oq
def sa:Dp->Bs->((Lk×Int×oq)×(Bs)):=λ(aag,vM,fL,kv,n5) y=>((aag,fL,n5),y)
def Xb:Dp->Prop:=λ(l,o,i,j,b)=>b.1.length<=12/\∃k:Nat,k<=b.1.length/\j=k/\o.length+8*b.1.length<=80000000+8*k
def wM:Dp->Bs:=λ(l,o,i,j,b)=>mE o (b.1.drop j.toNat)
def W9:(Lk×Bs×Int)->Prop:=λ(l,o,i)=>(∀b∈l.1,aQI b)/\l.1.length<=4/\∃k:Nat,k<=l.1.length/\i=k/\o.length<=1000+200*k
def Dn:(Lk×Bs×Int)->Bs:=λ(l,o,i)=>(l.1.drop i.toNat).foldl aBV o
def ajH:Lk->Prop:=λl=>adD l
def Ot:Lk->Bs:=λl=>NX l
def lN:Ls W9 bt Dn:=rW (λ(vg,outv,i)=>⟨([bE,.dD OZ vg,bE,.d tB outv,.d ti i]++aP 53 []),[],(ab 58 [])⟩) (λx=>(.exit 0,⟨([bE,bE,bE,.d tB x]++aP 54 []),[],(ab 58 [])⟩))
def lO:Ls Xb sa wM:=rW (λ(aag,vM,fL,kv,n5)=>⟨([bE,.dD OZ aag,bE,.d tB vM,.d ti fL,eT 5,.d ti kv]++aP 51 []),[],(bM 5 ([dK (.d ke n5)]++bM 52 []))⟩) (λx=>(.exit 2,⟨([bE,.dD OZ x.1.1,bE,.d tB x.2,.d ti x.1.2.1,eT 5]++aP 52 []),[],(bM 5 ([dK (.d ke x.1.2.2)]++bM 52 []))⟩))
def lM:Fs Tryz.prog ajH bt Ot:=eN 160 Tryz.f160 (λl=>([.d OZ l],[])) (λx=>⟨.d tB x,[],[]⟩) [some OZ] [V6,abK,aAc] {loops:=nX [(5,{aV:=[1,3,4]}),(10,{aV:=[1,3,4,5,6],sites:=[5]})],outs:=nV [(5,{aV:=[3]},{aV:=[2]}),(10,{aV:=[1,3,4,5],sites:=[5]},{aV:=[2]})],fC:=na [(5,lN.E),(10,lO.E)],res:=[some tB]}
theorem Xa:lN.RS:=rL [.d OZ,.d tB,.d ti] lN
theorem Ev{R:Type}(vg outv i)(kn:K2 R)(kx:K3 R):lM.R 0 lN (vg,outv,i) kn kx=aH ((gq i (vg.1.length:Int))) (aH (eo i (vg.1.length:Int)) (al (rM.call (outv,(((ag (nth ke vg.1 (ae i)).1):Nat):Int))) λx1=>al (lO.call (vg,x1,i,0,(nth ke vg.1 (ae i)))) λx2=>al (rM.call (x2.2,x2.1.2.2.2.1)) λx3=>al (rM.call (x3,x2.1.2.2.2.2.1)) λx4=>al (Bv.call (x4,x2.1.2.2.2.2.2.1)) λx5=>kn (lN.st (x2.1.1,x5,(bI .i64 x2.1.2.1 1)))) none) (lN.go kx outv):=bY
theorem Xc:lO.RS:=rL [.d OZ,.d tB,.d ti,.d ti,.d ke] lO
theorem Ew{R:Type}(aag vM fL kv n5)(kn:K2 R)(kx:K3 R):lM.R 1 lO (aag,vM,fL,kv,n5) kn kx=aH ((gq kv (n5.1.length:Int))) (aH (eo kv (n5.1.length:Int)) (al (Bv.call (vM,(nth tu n5.1 (ae kv)))) λx1=>kn (lO.st (aag,x1,fL,(bI .i64 kv 1),n5))) none) (lO.go kx ((aag,fL,n5),vM)):=bY
theorem aoj{R:Type}(l)(k:K1 R):lM.A l k=al (kr.call l) λx1=>aH ((!x1)) (k (lM.out ([]:List Int))) (al (rM.call (([]:List Int),(l.1.length:Int))) λx2=>al (lN.call (l,x2,0)) λx9=>k (lM.out x9)):=bY
theorem abt:(lM.kN 1 lO):=by
 refine(lM.mh 1 lO) (λ(l,o,i,j,b)=>b.1.length - j.toNat) ?_
 rintro⟨l,o,i,j,b⟩ ⟨afX,k,hk,rfl,hl⟩;have afX:b.1.length<=12:=afX;have hk:k<=b.1.length:=hk;have hl:o.length+8*b.1.length<=80000000+8*k:=hl;by_cases h:k < b.1.length
 ·left;have n1:nth (.int .u64) b.1 k=b.1[k]:=cg (t:= .int .u64) h;refine⟨(l,o++jo b.1[k],i,((k+1:Nat):Int),b),⟨afX,k+1,ak,rfl,by rw[ai,cj];omega⟩,by simp only[aa];omega,?_,λkn kx=> ?_⟩
  ·simp only[sa,wM,aa];rw[aac _ _ _ h]
  ·rw[Ew,aU ak,bg ak ak,aa,n1,abO (d:=(o,b.1[k])) (by show o.length<=90000000;omega)];simp only[aj,ah,bt,abN];rw[N.mO ak]
 ·right;obtain rfl:k=b.1.length:=ak;intro R kn kx;rw[Ew,aR ak,ao];simp only[sa,wM,aa,aK];rfl
theorem abr:(lM.kN 0 lN):=by
 refine(lM.mh 0 lN) (λ(l,o,i)=>l.1.length - i.toNat) ?_
 rintro⟨l,o,i⟩ ⟨hb,h4,k,hk,rfl,hl⟩;have h4:l.1.length<=4:=h4;have hk:k<=l.1.length:=hk;have hl:o.length<=1000+200*k:=hl;by_cases h:k < l.1.length
 ·left;have hx:=hb _ (aO h);have n1:nth (.pair (.slice (.int .u64)) (.pair (.int .i64) (.pair (.int .i64) (.pair (.int .u64) .unit)))) l.1 k=l.1[k]:=cg (t:=(.pair (.slice (.int .u64)) (.pair (.int .i64) (.pair (.int .i64) (.pair (.int .u64) .unit))))) h;have e0:=ahE o l.1[k] hx.1;refine⟨(l,aBV o l.1[k],((k+1:Nat):Int)),⟨hb,h4,k+1,ak,rfl,ak⟩,by simp only[aa];omega,?_,λkn kx=> ?_⟩
  ·simp only[bt,Dn,aa];rw[aq h];rfl
  ·rw[Ev,aU ak,bg ak ak,aa,n1];obtain⟨⟨ks,af,dl,sc,u⟩,aOI⟩:∃b,l.1[k]=b:=⟨_,rfl⟩;rw[aOI]at hx e0 ⊢;obtain⟨afX,ha,hd⟩:=hx;have afX:ks.length<=12:=afX;have ha:af<=9223372036854775807:=ha;have hd:dl<=9223372036854775807:=hd;have l1:=dz o ks.length;have l2:=KE ks (cF o ks.length);have l3:=dz (mE (cF o ks.length) ks) af;have l4:=dz (cF (mE (cF o ks.length) ks) af) dl;simp only[aj];rw[jt (d:=(o,(ks.length:Int))) ⟨by show o.length<=90000000;omega,by show(ks.length:Int)<=9223372036854775807;omega⟩];simp only[ah,bt,nK];rw[Xc (d:=(l,cF o ks.length,(k:Int),0,(ks,af,dl,sc,u))) ⟨afX,0,aJ _,rfl,by show(cF o ks.length).length+8*ks.length<=_;omega⟩];simp only[ah,sa,wM,aX,aD];rw[jt (d:=(mE (cF o ks.length) ks,af)) ⟨by show(mE (cF o ks.length) ks).length<=90000000;omega,ha⟩];simp only[ah,bt,nK];rw[jt (d:=(cF (mE (cF o ks.length) ks) af,dl)) ⟨by show(cF (mE (cF o ks.length) ks) af).length<=90000000;omega,hd⟩];simp only[ah,bt,nK];rw[abO (d:=(cF (cF (mE (cF o ks.length) ks) af) dl,sc)) (by show(cF (cF (mE (cF o ks.length) ks) af) dl).length<=90000000;omega)];simp only[ah,bt,abN];rw[N.mO ak];rfl
 ·right;obtain rfl:k=l.1.length:=ak;intro R kn kx;rw[Ev,aR ak,ao];simp only[bt,Dn,aa,aK];rfl
theorem aok:lM.Ok:=by
 intro l hl;have hl:adD l:=hl;rw[aoj,Q4 (d:=l) hl];simp only[ah,bt,Gd,bt,Ot,NX];cases jj:kP l
 ·rfl
 ·obtain⟨h1,h2,h3⟩:=asa jj;have l1:=dz [] l.1.length;have l0:([]:List Int).length=0:=rfl;simp only[cz,ao,bG];rw[jt (d:=([],(l.1.length:Int))) ⟨by show([]:List Int).length<=90000000;omega,by show(l.1.length:Int)<=9223372036854775807;omega⟩];simp only[ah,bt,nK];rw[Xa (d:=(l,cF [] l.1.length,0)) ⟨h1,h3,0,aJ _,rfl,by show(cF [] l.1.length).length<=_;omega⟩];rfl
theorem ajI:lM.RS:=rE [.d OZ] lM
def aol:=lM.eS aok 2 ⟨.fp abr,⟨.fp abt,trivial⟩⟩
abbrev Wa:=Bs×Nat×Int×(List Int)
def aeo:Wa->Prop:=λ(h,m,i,l)=>h.length=32/\m=l.length/\∃k:Nat,k<=32/\i=k/\l.length<=100000000+k
def CC:Wa->(Nat×(List Int)):=λ(h,m,i,l)=>((l++h.drop i.toNat).length,l++h.drop i.toNat)
def as5:(Bs×Bs)->Prop:=λ(b,h)=>b.length<=90000000/\h.length=32
def EP:(Bs×Bs)->Bs:=λ(b,h)=>b++h
def qJ:Ls aeo bt CC:=rW (λ(Qg,outL,i,n7)=>⟨([bE,bE,bE,.dD tH Qg,bE,oh 7 outL,.d ti i]++aP 14 []),[],(bM 7 ([dK (.vec 5 tb n7)]++bM 13 []))⟩) (λx=>(.exit 0,⟨(aP 5 ([oh 7 x.1]++aP 15 [])),[],(bM 7 ([dK (.vec 5 tb x.2)]++bM 13 []))⟩))
def vT:Fs Tryz.prog as5 bt EP:=eN 149 Tryz.f149 (λ(b,h)=>([.d tB b,.d tH h],[])) (λx=>⟨.d tB x,[],[]⟩) [some tB,some tH] [] {bJ:=[7],loops:=nX [(3,{aV:=[3,5,6],sites:=[7],owns:=[⟨5,[],7,127⟩]})],outs:=nV [(3,{aV:=[5],sites:=[7]},{aV:=[4]})],fC:=na [(3,qJ.E)],res:=[some tB]}
theorem aep:qJ.RS:=rL [.d tH,.n,.d ti,.d tB] qJ
theorem I7{R:Type}(Qg outL i n7)(kn:K2 R)(kx:K3 R):vT.R 0 qJ (Qg,outL,i,n7) kn kx=aH ((gq i 32)) (aH (eo i 32) (aH (decide (outL<=(ag n7))) (aH (da (outL+1) 1) (kn (qJ.st (Qg,(outL+1),(bI .i64 i 1),((aQ outL n7)++ [(nth tb Qg (ae i))])))) none) none) none) (qJ.go kx (outL,n7)):=bY
theorem az5{R:Type}(b h)(k:K1 R):vT.A (b,h) k=aH (da (0+(ag b)) 1) (al (qJ.call (h,(0+(ag b)),0,((aQ 0 (ab 0 0))++b))) λx1=>aH (decide (0=0/\(0+x1.1)<=(ag x1.2))) (k (vT.out (cut x1.2 0 x1.1))) none) none:=bY
theorem ajU:(vT.kN 0 qJ):=by
 refine(vT.mh 0 qJ) (λ(_,_,i,_)=>(32 - i).toNat) ?_
 rintro⟨h,m,i,l⟩ ⟨aOG,rfl,k,hk,rfl,hl⟩;have aOG:h.length=32:=aOG;have hl:l.length<=100000000+k:=hl;by_cases gJ:k < 32
 ·left;have n1:nth tb h k=h[k]:=cg (t:=tb) ak;have el:(l++ [h[k]]).length=l.length+1:=by rw[ai];rfl
  refine⟨(h,l.length+1,((k+1:Nat):Int),l++ [h[k]]),⟨aOG,el.symm,k+1,ak,rfl,by show(l++ [h[k]]).length<=_;omega⟩,by show(32 - ((k+1:Nat):Int)).toNat < (32 - (k:Int)).toNat;omega,?_,λkn kx=> ?_⟩
  ·simp only[bt,CC,aa];rw[aq (show k < h.length by omega),aF,cZ]
  ·rw[I7,aU ak,aj,bg ak ak,aj,aM (ax _),aj,dr ak ak,aj,N.mO ak,aa,n1,bK]
 ·right;obtain rfl:k=32:=ak;intro T kn kx;rw[I7,aR ak,ao];simp only[bt,CC,aa];rw[dZ ak,ba]
theorem az6:vT.Ok:=by rintro⟨b,h⟩ ⟨hb,aOG⟩;have hb:b.length<=90000000:=hb;have aOG:h.length=32:=aOG;rw[az5];simp only[aN,dH,aT];rw[dr ak ak,aj,aep (d:=(h,b.length,0,b)) ⟨aOG,rfl,0,ak,rfl,ak⟩];simp only[ah,bt,CC,aX,aD,ax,jh,cr,aj,eV,bt,EP]
theorem Gf:vT.RS:=rE [.d tB,.d tB] vT
def agy:=vT.eS az6 1 ⟨.fp ajU,trivial⟩
def as6:(Bs×Int)->Prop:=λ(b,n)=>b.length<=90000000/\n<=9223372036854775807
def abM:(Bs×Int)->(Nat×(List Int)):=λ(b,n)=>((cF b n).length,cF b n)
def I8:Fs Tryz.prog as6 bt abM:=eN 150 Tryz.f150 (λ(b,n)=>([.d tB b,.d ti n],[])) (λx=>⟨.bz (.new 0 0) 0 [] 0 0 x.1,[],[.obj 0 false (.vec 5 tb x.2)]⟩) [some tB,some ti] [aoG] {bJ:=[6],owns:=[⟨4,[],6,127⟩]}
theorem az7{R:Type}(b n)(k:K1 R):I8.A (b,n) k=aH (da (0+(ag b)) 1) (aH ((Cm n 0)) (al (Oz n) λx1=>aH (decide ((0+(ag b))<=(ag ((aQ 0 (ab 0 0))++b)))) (aH (da ((0+(ag b))+(ag x1)) 1) (k (I8.out (((0+(ag b))+(ag x1)),((aQ (0+(ag b)) ((aQ 0 (ab 0 0))++b))++x1)))) none) none) (k (I8.out ((0+(ag b)),((aQ 0 (ab 0 0))++b))))) none:=bY
theorem az8:I8.Ok:=by
 rintro⟨b,n⟩ ⟨hb,hn⟩;have hb:b.length<=90000000:=hb;have hn:n<=9223372036854775807:=hn;rw[az7];simp only[aN,dH,aT,bt,abM,cF,ax,cr,aj,bK];rw[dr ak ak,aj];by_cases h:n>=0
 ·have hl:=kE n;rw[gr h,aj,if_neg ak,agA (d:=n) ⟨h,hn,by have e:(128:Int)^(8+1)=9223372036854775808:=rfl;rw[e];show n < _;omega⟩];simp only[ah,tI,CE];rw[dr ak ak,ai];rfl
 ·rw[eE h,if_pos ak];rfl
theorem as7:I8.RS:=rE [.d tB,.d ti] I8
def az9:=I8.eS az8
def as3:(Bs×Bs)->Prop:=λ(b,c)=>b.length+c.length<=80000000
def abL:(Bs×Bs)->Bs:=λ(b,c)=>b++(gl c.length++c)
def Oy:Fs Tryz.prog as3 bt abL:=eN 159 Tryz.f159 (λ(b,c)=>([.d tB b,.d tB c],[])) (λx=>⟨.d tB x,[],[]⟩) [some tB,some tB] [az9] {res:=[some tB]}
theorem az2{R:Type}(b c)(k:K1 R):Oy.A (b,c) k=al (I8.call (b,(c.length:Int))) λx1=>aH (decide (x1.1<=(ag x1.2))) (aH (da (x1.1+(ag c)) 1) (aH (decide (0=0/\(0+(x1.1+(ag c)))<=(ag ((aQ x1.1 x1.2)++c)))) (k (Oy.out (cut ((aQ x1.1 x1.2)++c) 0 (x1.1+(ag c))))) none) none) none:=bY
theorem az3:Oy.Ok:=by
 rintro⟨b,c⟩ h;have h:b.length+c.length<=80000000:=h;have hl:=dz b c.length;have e:cF b c.length=b++gl c.length:=by unfold cF;rw[if_neg ak]
 have el:(b++gl c.length++c).length=(b++gl c.length).length+c.length:=ai;rw[az2,as7 (d:=(b,(c.length:Int))) ⟨by show b.length<=_;omega,by show(c.length:Int)<=_;omega⟩];simp only[ah,bt,abM,ax,cr,aj,bK,aN,mM];rw[e]at hl ⊢;rw[dr ak ak,aj,aM ak,aj,eV el];simp only[bt,abL,aF]
theorem as4:Oy.RS:=rE [.d tB,.d tB] Oy
def az4:=Oy.eS az3
def azU:UC->Prop:=λ_=>True
def ajK:UC->Bool:=λw=>BO w
def Q5:Fs Tryz.prog azU bt ajK:=eN 158 Tryz.f158 (λwv=>([.d aA1 wv],[])) (λx=>⟨.d .bool x,[],[]⟩) [some aA1]
theorem aGU{R:Type}(wv)(k:K1 R):Q5.A wv k=aH ((Cm wv.1 0)) (aH ((aiU wv.1 3)) (k (Q5.out (aiU (wv.2.1.length:Int) 12))) (k (Q5.out false))) (k (Q5.out false)):=bY
theorem aGV:Q5.Ok:=by
 rintro⟨b,ss,sc,u⟩ _;rw[aGU];simp only[bt,ajK,BO];by_cases h:0<=b
 ·rw[gr h,aj];by_cases h2:b < 4
  ·rw[oe ak,aj,aM ⟨h,h2⟩,bu];by_cases h3:ss.length<=12
   ·rw[oe ak,aM h3]
   ·rw[j7 ak,aS h3]
  ·rw[j7 ak,ao,aS (λx=>h2 x.2),cM]
 ·rw[eE h,ao,aS (λx=>h x.1),cM]
theorem azV:Q5.RS:=rE [.d aA1] Q5
def aGW:=Q5.eS aGV
def ZR(pre:List gG)(o:bF):Bool:=pre.any λy=>Ty.beq bl y.1 o
def ank:List gG->List gG->Bool
 |_,[]=>true
 |pre,x::l=>(Ij x && !(ZR pre x.1)) && ank (pre++ [x]) l
theorem aFt:∀(l:List gG) (m:List (bF×Bool)) (pre:List gG),(∀o,(bQ bl o m).getD false=ZR pre o)->Em m l=ank pre l
 |[],_,_,_=>rfl
 |x::l,m,pre,h=>by
  have e:Qh m x=ZR pre x.1:=h x.1;rw[Em,ank,e,aFt l (eF bl x.1 true m) (pre++ [x]) λo=> ?_,Bool.and_comm (Ij x)];rw[zq eM];unfold ZR;rw[List.any_append];simp only[rp,List.any_nil,Bool.or_false];by_cases h1:o=x.1
  ·rw[if_pos ((qp _ _).2 h1),(qp x.1 o).2 h1.symm,Bool.or_true];rfl
  ·rw[if_neg (λe=>h1 ((qp _ _).1 e)),h o];have:Ty.beq bl x.1 o=false:=by
    cases hb:Ty.beq bl x.1 o with
    |false=>rfl
    |true=>exact absurd ((qp _ _).1 hb).symm h1
   rw[this,Bool.or_false];rfl
def Bk(o:gf):Bool:=sP o.1 && kP o.2.1
theorem an3:∀(l:List gf) (s:Int),0<=s->s<=1125899906842624->xY s l=(l.all Bk && decide (s+iY l<=1125899906842624))
 |[],s,h0,h1=>by rw[aM (show s+iY []<=1125899906842624 by show s+0<=_;omega)];rfl
 |o::l,s,h0,h1=>by
  have hc:sP s=true:=aM ⟨h0,h1⟩;rw[xY,fb,tF];unfold Lh;rw[hc,bu,show Bk o=(sP o.1 && kP o.2.1) from rfl];cases c1:sP o.1 with
  |false=>rfl
  |true=>
   have c2:0<=o.1/\o.1<=1125899906842624:=of_decide_eq_true c1;rw[bu,bu];by_cases hs:s+o.1<=1125899906842624
   ·rw[aM hs,bu,an3 l (s+o.1) ak hs,Int.add_assoc,Bool.and_assoc]
   ·rw[aS hs,cM,cM];cases hl:l.all Bk with
    |false=>cases kP o.2.1 <;> rfl
    |true=>
     have key:∀l:List gf,l.all Bk=true->0<=iY l:=by
      intro l
      induction l with
      |nil=>intro _;exact ix 0
      |cons x l ih=>
       intro h;rw[fb,au]at h;have h1:=h.1;unfold Bk at h1;rw[au]at h1;have h2:0<=x.1/\x.1<=1125899906842624:=of_decide_eq_true h1.1;have:=ih h.2;rw[tF];omega
     have:=key l hl;rw[aS (show ¬s+(o.1+iY l)<=1125899906842624 by omega)];cases kP o.2.1 <;> rfl
abbrev rF:=dv×Int
def ky:rF->AS:=λ(oQ,i)=>⟨([bE,.dD eA oQ,bE,.d ti i]++aP 100 []),[],(ab 104 [])⟩
def eY:Unit->Exit×AS:=λx=>(.ret,⟨([bE,bE,.d .bool false]++aP 101 []),[],(ab 104 [])⟩)
def so:dv->Exit×AS:=λx=>(.exit 0,⟨([bE,.dD eA x]++aP 102 []),[],(ab 104 [])⟩)
abbrev Dv:=(Unit)⊕(dv)
abbrev Mk:=(Unit)⊕(dv)
def ye:Dv->Out (Exit×AS):=λx=> .br x.isLeft (.get x.getLeft? λa=> .ok (eY a)) (.get x.getRight? λb=> .ok (so b))
def iB:rF->Mk->Dv:=λ(oQ,i) y=>match y with | .inl y=> .inl y | .inr z=> .inr (z)
abbrev rG:=dv×Int×Int×gG
def kz:rG->AS:=λ(vi,fL,kv,n4)=>⟨([bE,.dD eA vi,bE,.d ti fL,eT 4,.d ti kv]++aP 98 []),[],(bM 4 ([dK (.d fY n4)]++bM 99 []))⟩
def kW:Unit->Exit×AS:=λx=>(.ret,⟨([bE,bE,.d .bool false]++aP 101 []),[],(ab 104 [])⟩)
def sr:(dv×Int)->Exit×AS:=λx=>(.exit 2,⟨([bE,.dD eA x.1,bE,.d ti x.2]++aP 100 []),[],(ab 104 [])⟩)
abbrev Dx:=(Unit)⊕((dv×Int))
abbrev Mm:=(Unit)⊕(Unit)
def yf:Dx->Out (Exit×AS):=λx=> .br x.isLeft (.get x.getLeft? λa=> .ok (kW a)) (.get x.getRight? λb=> .ok (sr b))
def iC:rG->Mm->Dx:=λ(vi,fL,kv,n4) y=>match y with | .inl y=> .inl y | .inr z=> .inr ((vi,fL))
abbrev rH:=dv×Int×Int
def kA:rH->AS:=λ(Xy,sum,W0)=>⟨([bE,.dD eA Xy]++aP 4 ([.d ti sum,.d ti W0]++aP 96 [])),[],(ab 104 [])⟩
def fX:Unit->Exit×AS:=λx=>(.ret,⟨([bE,bE,.d .bool false]++aP 101 []),[],(ab 104 [])⟩)
def sx:Int->Exit×AS:=λx=>(.exit 4,⟨(aP 6 ([.d ti x]++aP 97 [])),[],(ab 104 [])⟩)
abbrev Dz:=(Unit)⊕(Int)
abbrev Mo:=(Unit)⊕(Int)
def yg:Dz->Out (Exit×AS):=λx=> .br x.isLeft (.get x.getLeft? λa=> .ok (fX a)) (.get x.getRight? λb=> .ok (sx b))
def iD:rH->Mo->Dz:=λ(Xy,sum,W0) y=>match y with | .inl y=> .inl y | .inr z=> .inr (z)
def sq:rG->Prop:=λ(t,i,j,x)=>∃(n k:Nat),n<=t.1.length/\k<=n/\n<=1000/\i=n/\j=k
def jP:rG->Mm:=λ(t,i,j,x)=>if ZR ((t.1.take i.toNat).drop j.toNat) x.1 then .inl () else .inr ()
def sm:rF->Prop:=λ(t,i)=>t.1.length<=64/\∃k:Nat,k<=t.1.length/\i=k
def jO:rF->Mk:=λ(t,i)=>if ank (t.1.take i.toNat) (t.1.drop i.toNat) then .inr t else .inl ()
def sw:rH->Prop:=λ(t,s,i)=>t.2.1.length<=64/\(∀o∈t.2.1,adD o.2.1)/\∃k:Nat,k<=t.2.1.length/\i=k/\0<=s/\s<=(k:Int)*1125899906842624
def jQ:rH->Mo:=λ(t,s,i)=>if(t.2.1.drop i.toNat).all Bk then .inr (s+iY (t.2.1.drop i.toNat)) else .inl ()
def ajO:dv->Prop:=λt=>aQa t
def Ou:dv->Bool:=λt=>gV t
def Mj:=dy.fp ky sm iB jO ye
def EB:rF->Option Dv:=gB Mj ky
def Ml:=dy.fp kz sq iC jP yf
def ED:rG->Option Dx:=gB Ml kz
def Mn:=dy.fp kA sw iD jQ yg
def EF:rH->Option Dz:=gB Mn kA
def fB:Fs Tryz.prog ajO bt Ou:=eN 100 Tryz.f100 (λt=>([.d eA t],[])) (λx=>⟨.d .bool x,[],[]⟩) [some eA] [aGW,V6] {loops:=nX [(4,{aV:=[1,3]}),(10,{aV:=[1,3,4,5],sites:=[4]}),(16,{aV:=[1,6,7]})],outs:=nV [(4,{aV:=[1]},{aV:=[2]}),(10,{aV:=[1,3]},{aV:=[2]}),(16,{aV:=[6]},{aV:=[2]})],fC:=na [(4,Mj),(10,Ml),(16,Mn)]}
def Du:= @ee Tryz.prog (jy fB.G) fB.an 0 Tryz.f100 0 _ ky
abbrev IV:=kj Tryz.prog (jy fB.G) fB.an 0 Tryz.f100 0 ky sm iB jO ye
def Dw:= @ee Tryz.prog (jy fB.G) fB.an 0 Tryz.f100 1 _ kz
abbrev IX:=kj Tryz.prog (jy fB.G) fB.an 0 Tryz.f100 1 kz sq iC jP yf
def Dy:= @ee Tryz.prog (jy fB.G) fB.an 0 Tryz.f100 2 _ kA
abbrev IZ:=kj Tryz.prog (jy fB.G) fB.an 0 Tryz.f100 2 kA sw iD jQ yg
theorem Xi:iW EB sm iB jO:=l6 (jk [.d eA,.d ti] λ_=>bY)
theorem IW:mP @Du ky sm iB jO ye IV:=nD
theorem EC{R:Type}(oQ:dv)(i:Int)(kn:AS->Option R)(kx:Exit->AS->Option R):Du (oQ,i) kn kx=aH ((gq i (((ag oQ.1):Nat):Int))) (aH (eo i (((ag oQ.1):Nat):Int)) (aH ((gq (nth fY oQ.1 (ae i)).1.2.1 (0:Int))) (kx (eY ()).1 (eY ()).2) (aH ((rz (nth fY oQ.1 (ae i)).1.2.1 (63:Int))) (kx (eY ()).1 (eY ()).2) (al (Q5.call (nth fY oQ.1 (ae i)).2.1) λx1=>aH ((!x1)) (kx (eY ()).1 (eY ()).2) (al (ED (oQ,i,(0:Int),(nth fY oQ.1 (ae i)))) λx2=>aH (x2.isLeft) (al (x2.getLeft?) λa3=>kx (eY ()).1 (eY ()).2) (al (x2.getRight?) λb4=>kn (ky (b4.1,(bI .i64 b4.2 (1:Int))))))))) none) (kx (so oQ).1 (so oQ).2):=bY
theorem Xj:iW ED sq iC jP:=l6 (jk [.d eA,.d ti,.d ti,.d fY] λ_=>bY)
theorem IY:mP @Dw kz sq iC jP yf IX:=nD
theorem EE{R:Type}(vi:dv)(fL:Int)(kv:Int)(n4:gG)(kn:AS->Option R)(kx:Exit->AS->Option R):Dw (vi,fL,kv,n4) kn kx=aH ((gq kv fL)) (aH (eo kv (((ag vi.1):Nat):Int)) (aH ((Ty.beq bl (nth fY vi.1 (ae kv)).1 n4.1)) (kx (kW ()).1 (kW ()).2) (kn (kz (vi,fL,(bI .i64 kv (1:Int)),n4)))) none) (kx (sr (vi,fL)).1 (sr (vi,fL)).2):=bY
theorem Xk:iW EF sw iD jQ:=l6 (jk [.d eA,.d ti,.d ti] λ_=>bY)
theorem I0:mP @Dy kA sw iD jQ yg IZ:=nD
theorem EG{R:Type}(Xy:dv)(sum:Int)(W0:Int)(kn:AS->Option R)(kx:Exit->AS->Option R):Dy (Xy,sum,W0) kn kx=aH ((gq W0 (((ag Xy.2.1):Nat):Int))) (aH (eo W0 (((ag Xy.2.1):Nat):Int)) (aH ((gq (nth gb Xy.2.1 (ae W0)).1 (0:Int))) (kx (fX ()).1 (fX ()).2) (aH ((rz (nth gb Xy.2.1 (ae W0)).1 (1125899906842624:Int))) (kx (fX ()).1 (fX ()).2) (al (kr.call (nth gb Xy.2.1 (ae W0)).2.1) λx1=>aH ((!x1)) (kx (fX ()).1 (fX ()).2) (kn (kA (Xy,(bI .i64 sum (nth gb Xy.2.1 (ae W0)).1),(bI .i64 W0 (1:Int)))))))) none) (kx (sx sum).1 (sx sum).2):=bY
theorem aos{R:Type}(t)(k:K1 R):fB.A t k=aH ((gq (t.1.length:Int) 1)) (k (fB.out false)) (aH ((rz (t.1.length:Int) 64)) (k (fB.out false)) (aH ((rz (t.2.1.length:Int) 64)) (k (fB.out false)) (aH ((gq t.2.2.1 0)) (k (fB.out false)) (al (EB (t,0)) λx5=>aH (x5.isLeft) (al (x5.getLeft?) λa6=>k (fB.out false)) (al (x5.getRight?) λb7=>al (EF (b7,0,0)) λx9=>aH (x9.isLeft) (al (x9.getLeft?) λa10=>k (fB.out false)) (al (x9.getRight?) λaSt=>k (fB.out (aiU aSt 1125899906842624)))))))):=bY
theorem abz:IX:=by
 refine IY (λ(_,i,j,_)=>(i - j).toNat) ?_
 rintro⟨t,i,j,x⟩ ⟨n,k,hn,hk,hm,rfl,rfl⟩;by_cases gJ:k < n
 ·have ap5:k < (t.1.take n).length:=by rw[bp];omega
  have n1:nth fY t.1 k=t.1[k]:=cg (t:=fY) ak;have hd:(t.1.take n).drop k=t.1[k]::(t.1.take n).drop (k+1):=by rw[aq ap5,List.getElem_take]
  have hh:ZR ((t.1.take n).drop k) x.1=(Ty.beq bl t.1[k].1 x.1 || ZR ((t.1.take n).drop (k+1)) x.1):=by rw[hd];rfl
  have step:∀ {R:Type} (kn:AS->Option R) (kx:Exit->AS->Option R),Dw (t,(n:Int),(k:Int),x) kn kx=aH (Ty.beq bl t.1[k].1 x.1) (kx (kW ()).1 (kW ()).2) (kn (kz (t,(n:Int),((k+1:Nat):Int),x))):=by intro R kn kx;rw[EE,aU ak,aj,bg ak ak,aj,aa,n1,N.mO ak]
  cases hb:Ty.beq bl t.1[k].1 x.1 with
  |true=>
   right;refine⟨kW (),?_,λkn kx=> ?_⟩
   ·simp only[iC,jP,aa,hh,hb,Bool.true_or,bG];rfl
   ·rw[step,hb,aj]
  |false=>
   left;refine⟨(t,(n:Int),((k+1:Nat):Int),x),⟨n,k+1,hn,ak,hm,rfl,rfl⟩,by show((n:Int) - ((k+1:Nat):Int)).toNat < ((n:Int) - (k:Int)).toNat;omega,?_,λkn kx=> ?_⟩
   ·simp only[iC,jP,aa,hh,hb,we]
   ·rw[step,hb,ao]
 ·right;obtain rfl:k=n:=ak;have e:(t.1.take k).drop k=[]:=dZ (by rw[bp];omega);refine⟨sr (t,(k:Int)),?_,λkn kx=> ?_⟩
  ·simp only[iC,jP,aa,e];rfl
  ·rw[EE,aR ak,ao]
theorem aby:IV:=by
 refine IW (λ(t,i)=>t.1.length - i.toNat) ?_
 rintro⟨t,i⟩ ⟨FP,k,hk,rfl⟩;have FP:t.1.length<=64:=FP;have hk:k<=t.1.length:=hk;by_cases gJ:k < t.1.length
 ·have n1:nth fY t.1 k=t.1[k]:=cg (t:=fY) gJ;have hd:ank (t.1.take k) (t.1.drop k)=((Ij t.1[k] && !(ZR (t.1.take k) t.1[k].1)) && ank (t.1.take (k+1)) (t.1.drop (k+1))):=by rw[aq gJ,ank,ik gJ]
  have step:∀ {R:Type} (kn:AS->Option R) (kx:Exit->AS->Option R),Du (t,(k:Int)) kn kx=aH (Ij t.1[k] && !(ZR (t.1.take k) t.1[k].1)) (kn (ky (t,((k+1:Nat):Int)))) (kx (eY ()).1 (eY ()).2):=by
   intro R kn kx;rw[EC,aU ak,aj,bg ak ak,aj,aa,n1];unfold Ij;by_cases h1:t.1[k].1.2.1 < 0
   ·rw[aU h1,aj,aS ak];rfl
   rw[aR h1,ao];by_cases h2:t.1[k].1.2.1 > 63
   ·rw[cR h2,aj,aS ak];rfl
   rw[cn h2,ao,aM ak,azV (d:=t.1[k].2.1) trivial];simp only[ah,bt,ajK,bu];cases BO t.1[k].2.1 with
   |false=>rfl
   |true=>
    rw[cz,ao,bu,Xj (d:=(t,(k:Int),0,t.1[k])) ⟨k,0,hk,aJ _,ak,rfl,rfl⟩];simp only[ah,iC,jP,aa,aX,aD];cases ZR (t.1.take k) t.1[k].1 with
    |true=>rfl
    |false=>
     simp only[bn,bq,dJ,ao,c9,ah,eZ,aj];rw[N.mO ak]
  cases hp:Ij t.1[k] && !(ZR (t.1.take k) t.1[k].1)
  ·right;refine⟨eY (),?_,λkn kx=> ?_⟩
   ·simp only[iB,jO,aa,hd,hp,cM,bn,bq];rfl
   ·rw[step,hp,ao]
  ·left;refine⟨(t,((k+1:Nat):Int)),⟨FP,k+1,ak,rfl⟩,by simp only[aa];omega,?_,λkn kx=> ?_⟩
   ·simp only[iB,jO,aa,hd,hp,bu]
   ·rw[step,hp,aj]
 ·right;obtain rfl:k=t.1.length:=ak;refine⟨so t,?_,λkn kx=> ?_⟩
  ·simp only[iB,jO,aa,aK];rfl
  ·rw[EC,aR ak,ao]
theorem abA:IZ:=by
 refine I0 (λ(t,_,i)=>t.2.1.length - i.toNat) ?_
 rintro⟨t,s,i⟩ ⟨FP,hu,k,hk,rfl,h0,h1⟩;have FP:t.2.1.length<=64:=FP;have hk:k<=t.2.1.length:=hk;have h0:0<=s:=h0;have h1:s<=(k:Int)*1125899906842624:=h1;by_cases gJ:k < t.2.1.length
 ·have n1:nth gb t.2.1 k=t.2.1[k]:=cg (t:=gb) gJ;have hd:t.2.1.drop k=t.2.1[k]::t.2.1.drop (k+1):=aq gJ;have step:∀ {R:Type} (kn:AS->Option R) (kx:Exit->AS->Option R),Dy (t,s,(k:Int)) kn kx=aH (Bk t.2.1[k]) (kn (kA (t,s+t.2.1[k].1,((k+1:Nat):Int)))) (kx (fX ()).1 (fX ()).2):=by
   intro R kn kx;rw[EG,aU ak,aj,bg ak ak,aj,aa,n1];unfold Bk sP;by_cases c1:t.2.1[k].1 < 0
   ·rw[aU c1,aj,aS ak];rfl
   rw[aR c1,ao];by_cases c2:t.2.1[k].1 > 1125899906842624
   ·rw[cR c2,aj,aS ak];rfl
   rw[cn c2,ao,aM ak,Q4 (d:=t.2.1[k].2.1) (hu _ (aO gJ))];simp only[ah,bt,Gd,bu];rw[fU ak ak,N.mO ak];cases kP t.2.1[k].2.1 <;> rfl
  cases hp:Bk t.2.1[k]
  ·right;refine⟨fX (),?_,λkn kx=> ?_⟩
   ·simp only[iD,jQ,aa,hd,fb,hp,cM,bn,bq];rfl
   ·rw[step,hp,ao]
  ·left;have hp':=hp;unfold Bk at hp';rw[au]at hp';have c:0<=t.2.1[k].1/\t.2.1[k].1<=1125899906842624:=of_decide_eq_true hp'.1;refine⟨(t,s+t.2.1[k].1,((k+1:Nat):Int)),⟨FP,hu,k+1,ak,rfl,by show 0<=s+t.2.1[k].1;omega,by show s+t.2.1[k].1<=((k+1:Nat):Int)*1125899906842624;omega⟩,by simp only[aa];omega,?_,λkn kx=> ?_⟩
   ·simp only[iD,jQ,aa,hd,fb,hp,bu,tF,Int.add_assoc]
   ·rw[step,hp,aj]
 ·right;obtain rfl:k=t.2.1.length:=ak;refine⟨sx s,?_,λkn kx=> ?_⟩
  ·simp only[iD,jQ,aa,aK];rw[show s+iY ([]:List gf)=s+0 from rfl,Int.add_zero];rfl
  ·rw[EG,aR ak,ao]
theorem aot:fB.Ok:=by
 intro t hv;have hv:aQa t:=hv;rw[aos];simp only[bt,Ou,gV,adg];by_cases h1:t.1.length < 1
 ·rw[aU ak,aS ak];rfl
 by_cases h2:t.1.length > 64
 ·rw[aR ak,ao,cR ak,aS ak];rfl
 by_cases h3:t.2.1.length > 64
 ·rw[aR ak,ao,cn ak,ao,cR ak,aS ak];rfl
 rw[aR ak,ao,cn ak,ao,cn ak,ao];by_cases h4:t.2.2.1 < 0
 ·rw[aU h4,aS ak];rfl
 rw[aR h4,ao,aM ak,bu,Xi (d:=(t,0)) ⟨by show t.1.length<=64;omega,0,aJ _,rfl⟩];simp only[ah,iB,jO,aX,aD,dH];rw[aFt t.1 [] [] (λo=>by rw[qD];rfl),an3 t.2.1 0 (by decide) (by decide)];cases ank [] t.1 with
 |false=>rfl
 |true=>
  simp only[bG,dJ,ao,c9,ah,bu];rw[Xk (d:=(t,0,0)) ⟨by show t.2.1.length<=64;omega,λo ho=>(hv.1 o ho).1,0,aJ _,rfl,ix 0,ak⟩];simp only[ah,iD,jQ,aX,aD];cases t.2.1.all Bk with
  |false=>rfl
  |true=>
   simp only[bG,dJ,ao,c9,ah,bu];by_cases hs:0+iY t.2.1<=1125899906842624
   ·rw[oe hs,aM hs]
   ·rw[j7 hs,aS hs]
theorem ajP:fB.RS:=rE [.d eA] fB
def aou:=fB.eS aot 3 ⟨.fp aby,⟨.fp abz,⟨.fp abA,trivial⟩⟩⟩
abbrev Ds:=dv×Bs×Int
def sj:Ds->Bs->((dv)×(Bs)):=λ(oQ,b,i) y=>(oQ,y)
abbrev Dt:=dv×Bs×Int
def sk:Dt->Bs->((dv)×(Bs)):=λ(vi,iN,fL) y=>(vi,y)
def Xe:Ds->Prop:=λ(t,b,i)=>(t.1).length<=1000000000/\∃k:Nat,k<=(t.1).length/\i=k/\(t.1.length<=64)/\(∀x∈t.1,x.1.1.length=32/\x.1.2.1<=9223372036854775807)/\(b.length<=100+50*k)
def wN:Ds->Bs:=λ(t,b,i)=>(bR (ae i) t.1).foldl KB b
def Xg:Dt->Prop:=λ(t,b,i)=>(t.2.1).length<=1000000000/\∃k:Nat,k<=(t.2.1).length/\i=k/\(t.2.1.length<=64)/\(∀o∈t.2.1,o.1<=9223372036854775807/\adD o.2.1)/\(b.length<=4000+1100*k)
def wO:Dt->Bs:=λ(t,b,i)=>(bR (ae i) t.2.1).foldl La b
def ajM:dv->Prop:=λt=>gV t=true/\nT t
def abv:dv->Bs:=λt=>uT t
def lP:Ls Xe sj wN:=rW (λ(oQ,b,i)=>⟨([bE,.dD eA oQ,bE,.d tB b,.d ti i]++aP 63 []),[],(ab 68 [])⟩) (λx=>(.exit 0,⟨([bE,.dD eA x.1,bE,.d tB x.2]++aP 64 []),[],(ab 68 [])⟩))
def lQ:Ls Xg sk wO:=rW (λ(vi,iN,fL)=>⟨([bE,.dD eA vi,bE,.d tB iN,bE,.d ti fL]++aP 62 []),[],(ab 68 [])⟩) (λx=>(.exit 2,⟨([bE,.dD eA x.1,bE,.d tB x.2]++aP 64 []),[],(ab 68 [])⟩))
def mG:Fs Tryz.prog ajM bt abv:=eN 101 Tryz.f101 (λt=>([.d eA t],[])) (λx=>⟨.d tB x,[],[]⟩) [some eA] [abK,agy,aol,az4] {loops:=nX [(3,{aV:=[1,3,4]}),(9,{aV:=[1,3,5]})],outs:=nV [(3,{aV:=[1,3]},{aV:=[2]}),(9,{aV:=[1,3]},{aV:=[2]})],fC:=na [(3,lP.E),(9,lQ.E)],res:=[some tB]}
theorem Xf:lP.RS:=rL [.d eA,.d tB,.d ti] lP
theorem Ez{R:Type}(oQ b i)(kn:K2 R)(kx:K3 R):mG.R 0 lP (oQ,b,i) kn kx=aH ((gq i (oQ.1.length:Int))) (aH (eo i (oQ.1.length:Int)) (al (vT.call (b,(nth fY oQ.1 (ae i)).1.1)) λx1=>aH (eo i (oQ.1.length:Int)) (al (rM.call (x1,(nth fY oQ.1 (ae i)).1.2.1)) λx2=>kn (lP.st (oQ,x2,(bI .i64 i 1)))) none) none) (lP.go kx (oQ,b)):=bY
theorem Xh:lQ.RS:=rL [.d eA,.d tB,.d ti] lQ
theorem EA{R:Type}(vi iN fL)(kn:K2 R)(kx:K3 R):mG.R 1 lQ (vi,iN,fL) kn kx=aH ((gq fL (vi.2.1.length:Int))) (aH (eo fL (vi.2.1.length:Int)) (al (rM.call (iN,(nth gb vi.2.1 (ae fL)).1)) λx1=>aH (eo fL (vi.2.1.length:Int)) (al (lM.call (nth gb vi.2.1 (ae fL)).2.1) λx2=>al (Oy.call (x1,x2)) λx3=>kn (lQ.st (vi,x3,(bI .i64 fL 1)))) none) none) (lQ.go kx (vi,iN)):=bY
theorem aoo{R:Type}(t)(k:K1 R):mG.A t k=al (rM.call (([]:List Int),(t.1.length:Int))) λx1=>al (lP.call (t,x1,0)) λx4=>al (rM.call (x4.2,(x4.1.2.1.length:Int))) λx5=>al (lQ.call (x4.1,x5,0)) λx9=>al (rM.call (x9.2,x9.1.2.2.1)) λap0=>k (mG.out ap0):=bY
theorem abw:(mG.kN 0 lP):=by
 refine(mG.mh 0 lP) (λ(t,b,i)=>(t.1).length - ae i) ?_
 rintro⟨t,b,i⟩ ⟨hlen,k,hk,rfl,FP,hx,hb⟩;have hlen:(t.1).length<=1000000000:=hlen;have hk:k<=(t.1).length:=hk;have FP:t.1.length<=64:=FP;have hx:∀x∈t.1,x.1.1.length=32/\x.1.2.1<=9223372036854775807:=hx;have hb:b.length<=100+50*k:=hb;by_cases h:k < (t.1).length
 ·left;have n1:nth fY t.1 k=t.1[k]:=cg (t:=fY) h;have hd:bR k t.1=t.1[k]::bR (k+1) t.1:=aq h;refine⟨(t,(KB b t.1[k]),((k+1:Nat):Int)),⟨hlen,k+1,ak,rfl,FP,hx,by have:=aiV b t.1[k];have:=(hx _ (aO h)).1;omega⟩,by simp only[aa];omega,?_,λkn kx=> ?_⟩
  ·simp only[sj,wN,aa,hd,bA]
  ·rw[Ez,aU ak,bg ak ak,aa,n1];simp only[aj];have e:=hx _ (aO h);have e2:(b++t.1[k].1.1).length=b.length+t.1[k].1.1.length:=ai;rw[Gf (d:=(b,t.1[k].1.1)) ⟨by show b.length<=_;omega,e.1⟩];simp only[ah,bt,EP];rw[jt (d:=(b++t.1[k].1.1,t.1[k].1.2.1)) ⟨by show(b++t.1[k].1.1).length<=_;omega,e.2⟩];simp only[ah,bt,nK];rw[N.mO ak];rfl
 ·right;obtain rfl:k=(t.1).length:=ak;intro R kn kx;rw[Ez,aR ak,ao];simp only[sj,wN,aa,aK,cY]
theorem abx:(mG.kN 1 lQ):=by
 refine(mG.mh 1 lQ) (λ(t,b,i)=>(t.2.1).length - ae i) ?_
 rintro⟨t,b,i⟩ ⟨hlen,k,hk,rfl,FP,hx,hb⟩;have hlen:(t.2.1).length<=1000000000:=hlen;have hk:k<=(t.2.1).length:=hk;have FP:t.2.1.length<=64:=FP;have hx:∀o∈t.2.1,o.1<=9223372036854775807/\adD o.2.1:=hx;have hb:b.length<=4000+1100*k:=hb;by_cases h:k < (t.2.1).length
 ·left;have n1:nth gb t.2.1 k=t.2.1[k]:=cg (t:=gb) h;have hd:bR k t.2.1=t.2.1[k]::bR (k+1) t.2.1:=aq h;refine⟨(t,(La b t.2.1[k]),((k+1:Nat):Int)),⟨hlen,k+1,ak,rfl,FP,hx,by have:=abc b t.2.1[k];omega⟩,by simp only[aa];omega,?_,λkn kx=> ?_⟩
  ·simp only[sk,wO,aa,hd,bA]
  ·rw[EA,aU ak,bg ak ak,aa,n1];simp only[aj];have e:=hx _ (aO h);have e1:=dz b t.2.1[k].1;have e2:=KF t.2.1[k].2.1;rw[jt (d:=(b,t.2.1[k].1)) ⟨by show b.length<=_;omega,e.1⟩];simp only[ah,bt,nK];rw[ajI (d:=t.2.1[k].2.1) e.2];simp only[ah,bt,Ot];rw[as4 (d:=(cF b t.2.1[k].1,NX t.2.1[k].2.1)) (by show(cF b t.2.1[k].1).length+(NX t.2.1[k].2.1).length<=_;omega)];simp only[ah,bt,abL];rw[N.mO ak];rfl
 ·right;obtain rfl:k=(t.2.1).length:=ak;intro R kn kx;rw[EA,aR ak,ao];simp only[sk,wO,aa,aK,cY]
theorem aoq:mG.Ok:=by
 rintro t ⟨jj,hv⟩;have hv:nT t:=hv;obtain⟨⟨_,a2,a3,_⟩,b1,b2⟩:=jI jj;have h0:([]:List Int).length=0:=rfl;have l0:=dz [] t.1.length;have l1:=XR t.1 (cF [] t.1.length) λx hx=>(hv.2.1 x hx).1.1
 have l2:=dz (t.1.foldl KB (cF [] t.1.length)) t.2.1.length;have l3:=QV t.2.1 (cF (t.1.foldl KB (cF [] t.1.length)) t.2.1.length);rw[aoo,jt (d:=([],(t.1.length:Int))) ⟨by show([]:List Int).length<=_;omega,by show(t.1.length:Int)<=_;omega⟩];simp only[ah,bt,nK];rw[Xf (d:=(t,cF [] t.1.length,0)) ⟨by show t.1.length<=_;omega,0,aJ _,rfl,a2,λx hx=>⟨(hv.2.1 x hx).1.1,by have:=A6 (mC _ _ b1 x hx);omega⟩,by show(cF [] t.1.length).length<=_;omega⟩];simp only[ah,sj,wN,aX,aD];rw[jt (d:=(t.1.foldl KB (cF [] t.1.length),(t.2.1.length:Int))) ⟨by show(t.1.foldl KB (cF [] t.1.length)).length<=_;omega,by show(t.2.1.length:Int)<=_;omega⟩];simp only[ah,bt,nK];rw[Xh (d:=(t,cF (t.1.foldl KB (cF [] t.1.length)) t.2.1.length,0)) ⟨by show t.2.1.length<=_;omega,0,aJ _,rfl,a3,λo ho=>⟨by have:=(kq _ _ b2 o ho).1;omega,(hv.1.1 o ho).1⟩,by show(cF (t.1.foldl KB (cF [] t.1.length)) t.2.1.length).length<=_;omega⟩];simp only[ah,sk,wO,aX,aD];rw[jt (d:=(t.2.1.foldl La (cF (t.1.foldl KB (cF [] t.1.length)) t.2.1.length),t.2.2.1)) ⟨by show(t.2.1.foldl La (cF (t.1.foldl KB (cF [] t.1.length)) t.2.1.length)).length<=_;omega,hv.2.2⟩];rfl
theorem ajN:mG.RS:=rE [.d eA] mG
def aor:=mG.eS aoq 2 ⟨.fp abw,⟨.fp abx,trivial⟩⟩
def azW:dv->Prop:=λt=>nT t
def ajL:dv->Bs:=λt=>mj t
def V7:Fs Tryz.prog azW bt ajL:=eN 53 Tryz.f53 (λt=>([.d eA t],[])) (λx=>⟨.d tH x,[],[]⟩) [some eA] [aou,aor,awh]
theorem aGX{R:Type}(t)(k:K1 R):V7.A t k=al (fB.call t) λx1=>aH ((!x1)) (k (V7.out (ab 32 0))) (al (mG.call t) λx2=>al (acd.call ((⟨#[116,120]⟩:ByteArray),[x2])) λx3=>k (V7.out x3)):=bY
theorem aGY:V7.Ok:=by
 intro t hv;have hv:nT t:=hv;rw[aGX,ajP (d:=t) hv.1];simp only[ah,bt,Ou,bt,ajL,mj];cases jj:gV t
 ·rfl
 ·have hl:=Ol jj hv;rw[ajN (d:=t) ⟨jj,hv⟩];simp only[cz,ao,bG,ah,bt,abv];rw[aoX (d:=((⟨#[116,120]⟩:ByteArray),[uT t])) (RL (by decide) ak)];rfl
theorem azX:V7.RS:=rE [.d eA] V7
def aGZ:=V7.eS aGY
abbrev DG:=dh×Bs×Int
def sE:DG->Bs->((dh)×(Bs)):=λ(iN,x,i) y=>(iN,y)
def Xo:DG->Prop:=λ(b,x,i)=>(b.2.2.1).length<=1000000000/\∃k:Nat,k<=(b.2.2.1).length/\i=k/\(b.2.2.1.length<=1000)/\(∀t∈b.2.2.1,nT t)/\(x.length<=1000+32*k)
def wP:DG->Bs:=λ(b,x,i)=>(bR (ae i) b.2.2.1).foldl avx x
def Xq:(dh×Bs×Int)->Prop:=λ(b,x,i)=>(b.2.2.2.2.1).length<=1000000000/\∃k:Nat,k<=(b.2.2.2.2.1).length/\i=k/\(b.2.2.2.2.1.length<=1000)/\(∀o∈b.2.2.2.2.1,awH o)/\(x.length<=100000+43*k)
def wQ:(dh×Bs×Int)->Bs:=λ(b,x,i)=>(bR (ae i) b.2.2.2.2.1).foldl aLi x
def ajS:dh->Prop:=λb=>auF b
def Ox:dh->Bs:=λb=>aN7 b
def lR:Ls Xo sE wP:=rW (λ(iN,x,i)=>⟨([bE,.dD dR iN,bE,.d tB x,.d ti i]++aP 60 []),[],(ab 65 [])⟩) (λx=>(.exit 0,⟨([bE,.dD dR x.1,bE,.d tB x.2]++aP 61 []),[],(ab 65 [])⟩))
def lS:Ls Xq bt wQ:=rW (λ(Sh,aB5,fL)=>⟨([bE,.dD dR Sh,bE,.d tB aB5,bE,.d ti fL]++aP 59 []),[],(ab 65 [])⟩) (λx=>(.exit 2,⟨([bE,bE,bE,.d tB x]++aP 61 []),[],(ab 65 [])⟩))
def mH:Fs Tryz.prog ajS bt Ox:=eN 97 Tryz.f97 (λb=>([.d dR b],[])) (λx=>⟨.d tB x,[],[]⟩) [some dR] [abK,agy,aGZ] {loops:=nX [(4,{aV:=[1,3,4]}),(10,{aV:=[1,3,5]})],outs:=nV [(4,{aV:=[1,3]},{aV:=[2]}),(10,{aV:=[3]},{aV:=[2]})],fC:=na [(4,lR.E),(10,lS.E)]}
theorem Xp:lR.RS:=rL [.d dR,.d tB,.d ti] lR
theorem EN{R:Type}(iN x i)(kn:K2 R)(kx:K3 R):mH.R 0 lR (iN,x,i) kn kx=aH ((gq i (iN.2.2.1.length:Int))) (aH (eo i (iN.2.2.1.length:Int)) (al (V7.call (nth eA iN.2.2.1 (ae i))) λx1=>al (vT.call (x,x1)) λx2=>kn (lR.st (iN,x2,(bI .i64 i 1)))) none) (lR.go kx (iN,x)):=bY
theorem Xr:lS.RS:=rL [.d dR,.d tB,.d ti] lS
theorem EO{R:Type}(Sh aB5 fL)(kn:K2 R)(kx:K3 R):mH.R 1 lS (Sh,aB5,fL) kn kx=aH ((gq fL (Sh.2.2.2.2.1.length:Int))) (aH (eo fL (Sh.2.2.2.2.1.length:Int)) (al (vT.call (aB5,(nth bl Sh.2.2.2.2.1 (ae fL)).1)) λx1=>aH (eo fL (Sh.2.2.2.2.1.length:Int)) (al (rM.call (x1,(nth bl Sh.2.2.2.2.1 (ae fL)).2.1)) λx2=>kn (lS.st (Sh,x2,(bI .i64 fL 1)))) none) none) (lS.go kx aB5):=bY
theorem aoy{R:Type}(b)(k:K1 R):mH.A b k=al (rM.call (([]:List Int),b.1)) λx1=>al (vT.call (x1,b.2.1)) λx2=>al (rM.call (x2,(b.2.2.1.length:Int))) λx3=>al (lR.call (b,x3,0)) λx6=>al (rM.call (x6.2,x6.1.2.2.2.1)) λx7=>al (rM.call (x7,(x6.1.2.2.2.2.1.length:Int))) λx8=>al (lS.call (x6.1,x8,0)) λawG=>k (mH.out awG):=bY
theorem abE:(mH.kN 0 lR):=by
 refine(mH.mh 0 lR) (λ(b,x,i)=>(b.2.2.1).length - ae i) ?_
 rintro⟨b,x,i⟩ ⟨hlen,k,hk,rfl,h3,hx,hb⟩;have hlen:(b.2.2.1).length<=1000000000:=hlen;have hk:k<=(b.2.2.1).length:=hk;have h3:b.2.2.1.length<=1000:=h3;have hx:∀t∈b.2.2.1,nT t:=hx;have hb:x.length<=1000+32*k:=hb;by_cases h:k < (b.2.2.1).length
 ·left;have n1:nth eA b.2.2.1 k=b.2.2.1[k]:=cg (t:=eA) h;have hd:bR k b.2.2.1=b.2.2.1[k]::bR (k+1) b.2.2.1:=aq h;refine⟨(b,(avx x b.2.2.1[k]),((k+1:Nat):Int)),⟨hlen,k+1,ak,rfl,h3,hx,by unfold avx;rw[ai,GG.1];omega⟩,by simp only[aa];omega,?_,λkn kx=> ?_⟩
  ·simp only[sE,wP,aa,hd,bA]
  ·rw[EN,aU ak,bg ak ak,aa,n1];simp only[aj];rw[azX (d:=b.2.2.1[k]) (hx _ (aO h))];simp only[ah,bt,ajL];rw[Gf (d:=(x,mj b.2.2.1[k])) ⟨by show x.length<=_;omega,GG.1⟩];simp only[ah,bt,EP];rw[N.mO ak];rfl
 ·right;obtain rfl:k=(b.2.2.1).length:=ak;intro R kn kx;rw[EN,aR ak,ao];simp only[sE,wP,aa,aK,cY]
theorem abF:(mH.kN 1 lS):=by
 refine(mH.mh 1 lS) (λ(b,x,i)=>(b.2.2.2.2.1).length - ae i) ?_
 rintro⟨b,x,i⟩ ⟨hlen,k,hk,rfl,h3,hx,hb⟩;have hlen:(b.2.2.2.2.1).length<=1000000000:=hlen;have hk:k<=(b.2.2.2.2.1).length:=hk;have h3:b.2.2.2.2.1.length<=1000:=h3;have hx:∀o∈b.2.2.2.2.1,awH o:=hx;have hb:x.length<=100000+43*k:=hb;by_cases h:k < (b.2.2.2.2.1).length
 ·left;have n1:nth bl b.2.2.2.2.1 k=b.2.2.2.2.1[k]:=cg (t:=bl) h;have hd:bR k b.2.2.2.2.1=b.2.2.2.2.1[k]::bR (k+1) b.2.2.2.2.1:=aq h;refine⟨(b,(aLi x b.2.2.2.2.1[k]),((k+1:Nat):Int)),⟨hlen,k+1,ak,rfl,h3,hx,by have:=KA [b.2.2.2.2.1[k]] x (λo ho=>by rw[bh]at ho;subst ho;exact hx _ (aO h));simp only[bA,cY,aA,aZ]at this;omega⟩,by simp only[aa];omega,?_,λkn kx=> ?_⟩
  ·simp only[bt,wQ,aa,hd,bA]
  ·rw[EO,aU ak,bg ak ak,aa,n1];simp only[aj];obtain⟨e1,e2⟩:=hx _ (aO h);rw[Gf (d:=(x,b.2.2.2.2.1[k].1)) ⟨by show x.length<=_;omega,e1⟩];simp only[ah,bt,EP];rw[jt (d:=(x++b.2.2.2.2.1[k].1,b.2.2.2.2.1[k].2.1)) ⟨by show(x++b.2.2.2.2.1[k].1).length<=_;rw[ai,e1];omega,e2⟩];simp only[ah,bt,nK];rw[N.mO ak];rfl
 ·right;obtain rfl:k=(b.2.2.2.2.1).length:=ak;intro R kn kx;rw[EO,aR ak,ao];simp only[bt,wQ,aa,aK,cY]
theorem aoz:mH.Ok:=by rintro b ⟨⟨h1,h2⟩,⟨h3,h4,h5⟩,h6,h7⟩;have z1:((0:Int)).toNat=0:=rfl;have p1:=dz [] b.1;have p2:=dz (cF [] b.1++b.2.1) b.2.2.1.length;rw[ai,h4]at p2;have l0:([]:Bs).length=0:=rfl;rw[l0]at p1;have q1:=XQ b.2.2.1 (cF (cF [] b.1++b.2.1) b.2.2.1.length);obtain⟨x3,e3⟩:∃x,cF (cF [] b.1++b.2.1) b.2.2.1.length=x:=⟨_,rfl⟩;rw[e3]at p2 q1;obtain⟨x6,e6⟩:∃x,b.2.2.1.foldl avx x3=x:=⟨_,rfl⟩;rw[e6]at q1;have p7:=dz x6 b.2.2.2.1;have p8:=dz (cF x6 b.2.2.2.1) b.2.2.2.2.1.length;obtain⟨x8,e8⟩:∃x,cF (cF x6 b.2.2.2.1) b.2.2.2.2.1.length=x:=⟨_,rfl⟩;have q2:=KA b.2.2.2.2.1 x8 h7;rw[e8]at p8;rw[aoy,jt (d:=(([]:List Int),b.1)) ⟨by show(0:Nat)<=_;omega,h3⟩];simp only[ah,bt,nK];rw[Gf (d:=(cF [] b.1,b.2.1)) ⟨by show(cF [] b.1).length<=_;omega,h4⟩];simp only[ah,bt,EP];rw[jt (d:=(cF [] b.1++b.2.1,(b.2.2.1.length:Int))) ⟨by show(cF [] b.1++b.2.1).length<=_;rw[ai,h4];omega,by show(b.2.2.1.length:Int)<=_;omega⟩];simp only[ah,bt,nK];rw[e3,Xp (d:=(b,x3,0)) ⟨by show b.2.2.1.length<=_;omega,0,aJ _,rfl,h1,h2,ak⟩];simp only[ah,sE,wP,z1,aD];rw[e6,jt (d:=(x6,b.2.2.2.1)) ⟨by show x6.length<=_;omega,h5⟩];simp only[ah,bt,nK];rw[jt (d:=(cF x6 b.2.2.2.1,(b.2.2.2.2.1.length:Int))) ⟨by show(cF x6 b.2.2.2.1).length<=_;omega,by show(b.2.2.2.2.1.length:Int)<=_;omega⟩];simp only[ah,bt,nK];rw[e8,Xr (d:=(b,x8,0)) ⟨by show b.2.2.2.2.1.length<=_;omega,0,aJ _,rfl,h6,h7,ak⟩];simp only[ah,bt,wQ,z1,aD,bt,Ox,aN7,e3,e6,e8]
theorem ajT:mH.RS:=rE [.d dR] mH
def aoA:=mH.eS aoz 2 ⟨.fp abE,⟨.fp abF,trivial⟩⟩
theorem aJW{b:dh}(h:auF b):(aN7 b).length<=1000000:=by obtain⟨⟨h1,h2⟩,⟨h3,h4,h5⟩,h6,h7⟩:=h;have p1:=dz [] b.1;have p2:=dz (cF [] b.1++b.2.1) b.2.2.1.length;rw[ai,h4]at p2;have l0:([]:Bs).length=0:=rfl;rw[l0]at p1;have q1:=XQ b.2.2.1 (cF (cF [] b.1++b.2.1) b.2.2.1.length);have p7:=dz (b.2.2.1.foldl avx (cF (cF [] b.1++b.2.1) b.2.2.1.length)) b.2.2.2.1;have p8:=dz (cF (b.2.2.1.foldl avx (cF (cF [] b.1++b.2.1) b.2.2.1.length)) b.2.2.2.1) b.2.2.2.2.1.length;have q2:=KA b.2.2.2.2.1 (cF (cF (b.2.2.1.foldl avx (cF (cF [] b.1++b.2.1) b.2.2.1.length)) b.2.2.2.1) b.2.2.2.2.1.length) h7;unfold aN7;omega
def azY:dh->Prop:=λb=>auF b
def av6:dh->Bs:=λb=>aqA b
def Q6:Fs Tryz.prog azY bt av6:=eN 47 Tryz.f47 (λb=>([.d dR b],[])) (λx=>⟨.d tH x,[],[]⟩) [some dR] [aoA,awh]
theorem aG0{R:Type}(b)(k:K1 R):Q6.A b k=al (mH.call b) λx1=>al (acd.call ((⟨#[98,108,111,99,107]⟩:ByteArray),[x1])) λx2=>k (Q6.out x2):=bY
theorem aG1:Q6.Ok:=by intro b h;rw[aG0,ajT (d:=b) h];simp only[ah,bt,Ox];rw[aoX (d:=((⟨#[98,108,111,99,107]⟩:ByteArray),[aN7 b])) (RL (by decide) (aJW h))];rfl
theorem TL:Q6.RS:=rE [.d dR] Q6
def aoB:=Q6.eS aG1
abbrev ab5:=Int×Int×(List dv)×Nat×Int×Bs×(List dh)
abbrev awf:=Bs×Int×Int×(List dv)
def Xu(txs:List dv):Nat->Bs->Int->List dh
 | 0,_,_=> []
 |j+1,p,h=>Ap h p (if j=0 then txs else []) 0::Xu txs j (aqA (Ap h p (if j=0 then txs else []) 0)) (h+1)
def Yf(txs:List dv):Prop:=txs.length<=100/\∀t∈txs,nT t/\t.1.length<=1000000
theorem aM7{txs:List dv}(ht:Yf txs){h:Int}{p:Bs}(hh:h<=9223372036854775807)(hp:p.length=32)(c:Prop) [Decidable c]:WT (Ap h p (if c then txs else []) 0):=by
 split
 ·exact⟨⟨⟨il ht.1 (by decide),λt h=>(ht.2 t h).1⟩,⟨hh,hp,by show(0:Int)<=_;decide⟩,aJ _,λo ho=>(by cases ho)⟩,ht.1,λt h=>(ht.2 t h).2⟩
 ·exact⟨⟨⟨aJ _,λt ht=>(by cases ht)⟩,⟨hh,hp,by show(0:Int)<=_;decide⟩,aJ _,λo ho=>(by cases ho)⟩,aJ _,λt ht=>(by cases ht)⟩
theorem atr{txs:List dv}(ht:Yf txs):∀(j:Nat) (p:Bs) (h:Int),h+j<=9223372036854775807->p.length=32->∀b∈Xu txs j p h,WT b
 | 0,_,_,_,_,b,hb=>by cases hb
 |j+1,p,h,hh,hp,b,hb=>by
  rcases cd.1 hb with rfl | hb
  ·exact aM7 ht ak hp _
  ·exact atr ht j _ (h+1) ak (B8 _) b hb
theorem Rm(txs:List dv):∀(j:Nat) (p:Bs) (h:Int),(Xu txs j p h).length=j
 | 0,_,_=>rfl
 |j+1,p,h=>bo (· +1) (Rm txs j _ _)
theorem ab9(txs:List dv):∀(j:Nat) (p:Bs) (h:Int),Up (Xu txs j p h)<=txs.length
 | 0,_,_=>aJ _
 | 1,p,h=>ax _
 |j+2,p,h=>by show 0+Up (Xu txs (j+1) _ _)<=_;rw[aN];exact ab9 txs (j+1) _ _
def aj1:ab5->Prop:=λ(h,m',txs,oL,i,p,out)=>(0<=h/\h<=1000000)/\Yf txs/\p.length=32/\oL=out.length/\∃m k:Nat,m'=m/\k<=m/\m<=20/\i=k/\out.length=k
def Gk:ab5->(Nat×(List dh)):=λ(h,m,txs,_,i,p,out)=>((out++Xu txs (m - i).toNat p (h+1+i)).length,out++Xu txs (m - i).toNat p (h+1+i))
def aAy:awf->Prop:=λ(p,h,m',txs)=>(0<=h/\h<=1000000)/\Yf txs/\p.length=32/\∃m:Nat,m'=m/\m<=20
def X5:awf->(List dh):=λ(p,h,m,txs)=>Xu txs m.toNat p (h+1)
def rO:Ls aj1 bt Gk:=rW (λ(dP,N4,adh,outL,i,n4,n32)=>⟨([bE,.d ti dP,.d ti N4,.d (.slice eA) adh,eT 4]++aP 4 ([oh 32 outL,.d ti i]++aP 25 [])),[],(bM 4 ([dK (.d tH n4)]++bM 27 [dK (.vec 48 dR n32),[],[],[]]))⟩) (λx=>(.exit 0,⟨(aP 9 ([oh 32 x.1]++aP 26 [])),[],(bM 32 [dK (.vec 48 dR x.2),[],[],[]])⟩))
def Ha:Fs Tryz.prog aAy bt X5:=eN 44 Tryz.f44 (λ(parent,height,many,txs)=>([.d tH parent,.d ti height,.d ti many,.d (.slice eA) txs],[])) (λx=>⟨.d (.slice dR) x,[],[]⟩) [some tH,some ti,some ti,some (.slice eA)] [aoB] {bJ:=[4],loops:=nX [(3,{aV:=[1,2,3,4,9,10],sites:=[4,32],owns:=[⟨9,[],32,41⟩]})],outs:=nV [(3,{aV:=[9],sites:=[32]},{aV:=[8]})],fC:=na [(3,rO.E)],res:=[some (.slice dR)]}
theorem aj2:rO.RS:=rL [.d ti,.d ti,.d (.slice eA),.n,.d ti,.d tB,.d (.slice dR)] rO
theorem My{R:Type}(dP N4 adh outL i n4 n32)(kn:K2 R)(kx:K3 R):Ha.R 0 rO (dP,N4,adh,outL,i,n4,n32) kn kx=aH ((gq i N4)) (aH ((qY i (cP .i64 N4 1))) (aH (decide (outL<=(ag n32))) (aH (da (outL+1) 96) (al (Q6.call ((bI .i64 (bI .i64 dP 1) i),(n4,(adh,(0,(([]:List bF),())))))) λx1=>kn (rO.st (dP,N4,adh,(outL+1),(bI .i64 i 1),x1,((aQ outL n32)++ [((bI .i64 (bI .i64 dP 1) i),(n4,(adh,(0,(([]:List bF),())))))])))) none) none) (aH (decide (outL<=(ag n32))) (aH (da (outL+1) 96) (al (Q6.call ((bI .i64 (bI .i64 dP 1) i),(n4,(([]:List dv),(0,(([]:List bF),())))))) λx2=>kn (rO.st (dP,N4,adh,(outL+1),(bI .i64 i 1),x2,((aQ outL n32)++ [((bI .i64 (bI .i64 dP 1) i),(n4,(([]:List dv),(0,(([]:List bF),())))))])))) none) none)) (rO.go kx (outL,n32)):=bY
theorem aHz{R:Type}(parent height many txs)(k:K1 R):Ha.A (parent,height,many,txs) k=al (rO.call (height,many,txs,0,0,parent,([]:List dh))) λx4=>aH (decide (0=0/\(0+x4.1)<=(ag x4.2))) (k (Ha.out (cut x4.2 0 x4.1))) none:=bY
theorem aoR:(Ha.kN 0 rO):=by
 refine(Ha.mh 0 rO) (λ(_,m,_,_,i,_)=>(m - i).toNat) ?_
 rintro⟨h,m',txs,oL,i,p,out⟩ ⟨⟨h0,h1⟩,ht,hp,rfl,m,k,rfl,hk,hm,rfl,ho⟩;have h0:0<=h:=h0;have h1:h<=1000000:=h1;have hk:k<=m:=hk;have hm:m<=20:=hm;by_cases gJ:k < m
 ·left;obtain⟨j,hj⟩:∃j,m=k+1+j:=⟨m - (k+1),ak⟩;have e1:((m:Int) - (k:Int)).toNat=j+1:=ak;have e2:((m:Int) - ((k+1:Nat):Int)).toNat=j:=ak;have e3:h+1+((k+1:Nat):Int)=h+1+(k:Int)+1:=ak;have hb:=aM7 ht (h:=h+1+(k:Int)) (p:=p) ak hp (j=0);refine⟨(h,(m:Int),txs,out.length+1,((k+1:Nat):Int),aqA (Ap (h+1+(k:Int)) p (if j=0 then txs else []) 0),out++ [Ap (h+1+(k:Int)) p (if j=0 then txs else []) 0]),⟨⟨h0,h1⟩,ht,B8 _,by rw[ai];rfl,m,k+1,rfl,gJ,hm,rfl,by rw[ai,ho];rfl⟩,by simp only[e1,e2];omega,?_,λkn kx=> ?_⟩
  ·simp only[bt,Gk,e1,e2,e3,Xu,aF,cZ]
  ·rw[My,aU ak,aj,eL ak ak,fU (x:=h) ak ak,fU (x:=h+1) ak ak];by_cases hz:j=0
   ·rw[if_pos hz]at hb ⊢;rw[du ak,aj,aM (ax _),aj,dr ak ak,aj,bK];refine(bo (λz=>al z _) (TL (d:=Ap (h+1+(k:Int)) p txs 0) hb.1)).trans ?_
    rw[ah,N.mO ak];rfl
   ·rw[if_neg hz]at hb ⊢;rw[eH ak,ao,aM (ax _),aj,dr ak ak,aj,bK];refine(bo (λz=>al z _) (TL (d:=Ap (h+1+(k:Int)) p [] 0) hb.1)).trans ?_
    rw[ah,N.mO ak];rfl
 ·right;obtain rfl:k=m:=ak;intro R kn kx;have e1:((k:Int) - (k:Int)).toNat=0:=ak;rw[My,aR ak,ao];simp only[bt,Gk,e1,Xu,ba]
theorem aHA:Ha.Ok:=by rintro⟨p,h,m',txs⟩ ⟨hh,ht,hp,m,rfl,hm⟩;have e1:((m:Int) - 0).toNat=m:=ak;rw[aHz,aj2 (d:=(h,(m:Int),txs,0,0,p,[])) ⟨hh,ht,hp,rfl,m,0,rfl,aJ _,hm,rfl,rfl⟩];simp only[ah,bt,Gk,e1,aT,Int.add_zero,aN];rw[aM (by exact⟨trivial,ax _⟩),aj,eV rfl];simp only[bt,X5,aa]
theorem TX:Ha.RS:=rE [.d tB,.d ti,.d ti,.d (.slice eA)] Ha
def aHB:=Ha.eS aHA 1 ⟨.fp aoR,trivial⟩
abbrev alE:=KV×Nat×Nat×(List (bF×dQ))×(List bW)×(List dh)
def mQ(a:KV):Int:=cG .and .i64 a.1 7
def BV(a:KV)(nb:Nat)(bs:List dh):List dh:=if mQ a < 3 then Xu a.2.1 1 (rQ nb bs) ((nb:Int)+1) else if 1<=a.2.2.1/\a.2.2.1<=nb/\a.2.2.1<=8 then Xu a.2.1 (a.2.2.1.toNat+1) (rQ (nb - a.2.2.1.toNat) bs) ((nb:Int) - a.2.2.1+1) else []
def aqM:alE->Prop:=λ(a,nb,n,at',s,bs)=>(∃A0 m,rk A0 m nb n at' s bs)/\Yf a.2.1
def YO:alE->((List dh)×Nat×Nat×(List (bF×dQ))×(List bW)×(List dh)):=λ(a,nb,n,at',s,bs)=>(BV a nb bs,nb,n,at',s,bs)
def xU:Fs Tryz.prog aqM bt YO:=eN 14 Tryz.f14 (λ(a,o0baL,o1baL,o2,o3,o4)=>([.ptr (.bm 0) 0 [] 0,.d yz a],[.obj 0 false (.pr (.ptr (.bm 1) 0 [] 0) (.pr (.bz (.bm 4) 0 [] 0 0 o0baL) (.d .unit ()))),.obj 0 false (.pr (.ct (.bm 2) 0) (.pr (.bz (.bm 3) 0 [] 0 0 o1baL) (.d .unit ()))),.obj 0 false (.mp bl eQ o2),.obj 0 false (.vec 256 cD o3),.obj 0 false (.vec 48 dR o4)])) (λx=>⟨.d (.slice dR) x.1,[.obj 0 false (.pr (.ptr (.bm 1) 0 [] 0) (.pr (.bz (.bm 4) 0 [] 0 0 x.2.1) (.d .unit ()))),.obj 0 false (.pr (.ct (.bm 2) 0) (.pr (.bz (.bm 3) 0 [] 0 0 x.2.2.1) (.d .unit ()))),.obj 0 false (.mp bl eQ x.2.2.2.1),.obj 0 false (.vec 256 cD x.2.2.2.2.1),.obj 0 false (.vec 48 dR x.2.2.2.2.2)],[]⟩) [none,some yz] [Cc,al1,aHB,aKb,aoB] {res:=[some (.slice dR)]}
theorem axh{R:Type}(a o0baL o1baL o2 o3 o4)(k:K1 R):xU.A (a,o0baL,o1baL,o2,o3,o4) k=al (pf.call (o0baL,o1baL,o2,o3,o4)) λx1=>aH ((gq (cG .and .i64 a.1 7) 3)) (al (Lx.call (x1.1.1,x1.1.2.1,x1.1.2.2.1,x1.1.2.2.2.1,x1.1.2.2.2.2)) λx2=>al (Ha.call (x2.2,x1.2,1,a.2.1)) λx3=>k (xU.out (x3,x2.1.1,x2.1.2.1,x2.1.2.2.1,x2.1.2.2.2.1,x2.1.2.2.2.2))) (aH ((gq a.2.2.1 1)) (k (xU.out (([]:List dh),x1.1.1,x1.1.2.1,x1.1.2.2.1,x1.1.2.2.2.1,x1.1.2.2.2.2))) (aH ((rz a.2.2.1 x1.2)) (k (xU.out (([]:List dh),x1.1.1,x1.1.2.1,x1.1.2.2.1,x1.1.2.2.2.1,x1.1.2.2.2.2))) (aH ((rz a.2.2.1 8)) (k (xU.out (([]:List dh),x1.1.1,x1.1.2.1,x1.1.2.2.1,x1.1.2.2.2.1,x1.1.2.2.2.2))) (al (ahO.call ((cP .i64 x1.2 a.2.2.1),x1.1.1,x1.1.2.1,x1.1.2.2.1,x1.1.2.2.2.1,x1.1.2.2.2.2)) λx4=>aH (x4.2.2) (al (Q6.call x4.2.1) λx5=>al (Ha.call (x5,(cP .i64 x1.2 a.2.2.1),(bI .i64 a.2.2.1 1),a.2.1)) λx6=>k (xU.out (x6,x4.1.1,x4.1.2.1,x4.1.2.2.1,x4.1.2.2.2.1,x4.1.2.2.2.2))) (al (Ha.call ((ab 32 0),(cP .i64 x1.2 a.2.2.1),(bI .i64 a.2.2.1 1),a.2.1)) λx7=>k (xU.out (x7,x4.1.1,x4.1.2.1,x4.1.2.2.1,x4.1.2.2.2.1,x4.1.2.2.2.2))))))):=bY
theorem aPy{A0:At}{m nb n:Nat}{a:At}{s:List bW}{bs:List dh}(h:rk A0 m nb n a s bs){k:Nat}(hk:k < nb):an5 (nth dR bs k)=nth dR bs k/\auF (nth dR bs k):=by have hl:nb<=bs.length:=h.ch.1;have hk':k < bs.length:=ak;have n1:nth dR bs k=bs[k]:=cg (t:=dR) hk';rw[n1];have hv:=h.ch.2.2 _ (aO hk');refine⟨ajx hv λt ht=>(h.aSS (b:=bs[k]) ?_ ht).1,hv⟩;have:(bs.take nb)[k]'(by rw[bp];omega)=bs[k]:=List.getElem_take;rw[<-this];exact aO _
theorem axi:xU.Ok:=by
 rintro⟨a,nb,n,at',s,bs⟩ ⟨⟨A0,m,h⟩,ht⟩;have aE1:nb<=1000000:=h.ch.2.1;have z1:(1:Int).toNat=1:=rfl;have hs:∀l:List dh,aH (decide (0=0/\0+l.length<=l.length)) (some l) none=some l:=λl=>by rw[aM ak];rfl
 rw[axh,YY,show cG .and .i64 a.1 7=mQ a from rfl];simp only[ah,bt,YO,BV];by_cases h3:mQ a < 3
 ·rw[if_pos h3,aU h3,aj,aKd h.ch];simp only[ah];rw[TX (d:=(rQ nb bs,(nb:Int),1,a.2.1)) ⟨⟨ak,ak⟩,ht,BF _ _,1,rfl,by decide⟩];rfl
 ·rw[if_neg h3,aR h3,ao];by_cases d1:1<=a.2.2.1;rotate_left
  ·rw[aU ak,aj,if_neg (λe=>d1 e.1)]
  rw[aR ak,ao];by_cases d2:a.2.2.1<=nb;rotate_left
  ·rw[cR ak,aj,if_neg (λe=>d2 e.2.1)]
  rw[cn ak,ao];by_cases d3:a.2.2.1<=8;rotate_left
  ·rw[cR ak,aj,if_neg (λe=>d3 e.2.2)]
  rw[cn ak,ao,if_pos ⟨d1,d2,d3⟩];generalize a.2.2.1=d at d1 d2 d3;obtain⟨k,rfl⟩:∃k:Nat,d=(k:Int):=⟨d.toNat,ak⟩;have ei:cP .i64 (nb:Int) (k:Int)=((nb - k:Nat):Int):=by rw[eL ak ak];omega
  have ej:bI .i64 (k:Int) 1=((k+1:Nat):Int):=by rw[fU ak ak];omega
  rw[ei,ej,aDk (d:=(((nb - k:Nat):Int),nb,n,at',s,bs)) h.ch];simp only[ah,alT,YV,aQd,aa];by_cases hz:nb - k=0
  ·rw[if_neg ak,ao,TX (d:=(ab 32 0,((nb - k:Nat):Int),((k+1:Nat):Int),a.2.1)) ⟨⟨ak,ak⟩,ht,b8,k+1,rfl,ak⟩];simp only[ah,bt,X5,aa];rw[show rQ (nb - k) bs=ab 32 0 from if_pos hz,show((nb - k:Nat):Int)=(nb:Int) - (k:Int) by omega]
  ·obtain⟨o1,o2⟩:=aPy h (k:=nb - k - 1) ak;rw[if_pos ⟨ak,ak⟩,o1];simp only[aj];rw[TL (d:=nth dR bs (nb - k - 1)) o2];simp only[ah,bt,av6];rw[TX (d:=(aqA (nth dR bs (nb - k - 1)),((nb - k:Nat):Int),((k+1:Nat):Int),a.2.1)) ⟨⟨ak,ak⟩,ht,B8 _,k+1,rfl,ak⟩];simp only[ah,bt,X5,aa];rw[show rQ (nb - k) bs=aqA (nth dR bs (nb - k - 1)) from if_neg hz,show((nb - k:Nat):Int)=(nb:Int) - (k:Int) by omega]
theorem aqN:xU.RS:=rE [.d yz,.n,.n,.d (.slice (.pair bl eQ)),.d (.slice cD),.d (.slice dR)] xU
def axj:=xU.eS axi
abbrev A1:=(List gf)×(List KV)×Int
def pv:A1->AS:=λ(Og,vg,i)=>⟨([.d (.slice gb) Og,.d (.slice yz) vg,bE,bE,bE,.d ti i]++aP 56 []),[],(ab 62 [])⟩
def lB:Unit->Exit×AS:=λx=>(.ret,⟨(aP 4 ([.d .bool false]++aP 57 [])),[],(ab 62 [])⟩)
abbrev Vf:=(List gf)×(List KV)
def zl:Vf->Exit×AS:=λx=>(.exit 0,⟨([.d (.slice gb) x.1,.d (.slice yz) x.2]++aP 60 []),[],(ab 62 [])⟩)
abbrev NG:=(Unit)⊕(Vf)
abbrev ZE:=(Unit)⊕(((List gf)×(List KV)))
def FK:NG->Out (Exit×AS):=λx=> .br x.isLeft (.get x.getLeft? λa=> .ok (lB a)) (.get x.getRight? λb=> .ok (zl b))
def lA:A1->ZE->NG:=λ(Og,vg,i) y=>match y with | .inl y=> .inl y | .inr z=> .inr (z)
abbrev A2:=(List gf)×(List KV)×Int×Int
def py:A2->AS:=λ(IH,aag,fL,kv)=>⟨([.d (.slice gb) IH,.d (.slice yz) aag,bE,bE,bE,.d ti fL,.d ti kv]++aP 55 []),[],(ab 62 [])⟩
def jc:Unit->Exit×AS:=λx=>(.ret,⟨(aP 4 ([.d .bool false]++aP 57 [])),[],(ab 62 [])⟩)
abbrev Vh:=(List gf)×(List KV)×Int
def zo:Vh->Exit×AS:=λx=>(.exit 2,⟨([.d (.slice gb) x.1,.d (.slice yz) x.2.1,bE,bE,bE,.d ti x.2.2]++aP 56 []),[],(ab 62 [])⟩)
abbrev NI:=(Unit)⊕(Vh)
abbrev ZG:=(Unit)⊕(Unit)
def FL:NI->Out (Exit×AS):=λx=> .br x.isLeft (.get x.getLeft? λa=> .ok (jc a)) (.get x.getRight? λb=> .ok (zo b))
def lC:A2->ZG->NI:=λ(IH,aag,fL,kv) y=>match y with | .inl y=> .inl y | .inr z=> .inr ((IH,aag,fL))
abbrev avl:=(List gf)×(List KV)
def aeW(t:dv):Bool:=decide (t.1.length<=6) && (decide (t.2.1.length<=6) && akd t)
def Lg(a:KV):Bool:=decide (a.2.1.length<=4) && a.2.1.all aeW
def S4(outs:List gf)(acts:List KV):Bool:=acts.all Lg && (decide (outs.length<=10) && decide (acts.length<=20))
def zm:A2->Prop:=λ(_,acts,i,j)=>acts.length<=9223372036854775807/\∃k m:Nat,i=k/\k < acts.length/\(nth yz acts k).2.1.length<=4/\j=m/\m<=(nth yz acts k).2.1.length
def px:A2->ZG:=λ(_,acts,i,j)=>if((nth yz acts i.toNat).2.1.drop j.toNat).all aeW then .inr () else .inl ()
def zk:A1->Prop:=λ(_,acts,i)=>acts.length<=9223372036854775807/\∃k:Nat,k<=acts.length/\i=k
def pt:A1->ZE:=λ(outs,acts,i)=>if(acts.drop i.toNat).all Lg then .inr (outs,acts) else .inl ()
def aya:avl->Prop:=λ(_,acts)=>acts.length<=9223372036854775807
def aiv:avl->Bool:=λ(outs,acts)=>S4 outs acts
def ZD:=dy.fp pv zk lA pt FK
def LO:A1->Option NG:=gB ZD pv
def ZF:=dy.fp py zm lC px FL
def LQ:A2->Option NI:=gB ZF py
def vl:Fs Tryz.prog aya bt aiv:=eN 13 Tryz.f13 (λ(outs,l)=>([.d (.slice gb) outs,.d (.slice yz) l],[])) (λx=>⟨.d .bool x,[],[]⟩) [some (.slice gb),some (.slice yz)] [aox] {loops:=nX [(2,{aV:=[0,1,5]}),(7,{aV:=[0,1,5,6]})],outs:=nV [(2,{aV:=[0,1]},{aV:=[4]}),(7,{aV:=[0,1,5]},{aV:=[4]})],fC:=na [(2,ZD),(7,ZF)]}
def NF:= @ee Tryz.prog (jy vl.G) vl.an 0 Tryz.f13 0 _ pv
abbrev Ve:=kj Tryz.prog (jy vl.G) vl.an 0 Tryz.f13 0 pv zk lA pt FK
def NH:= @ee Tryz.prog (jy vl.G) vl.an 0 Tryz.f13 1 _ py
abbrev Vg:=kj Tryz.prog (jy vl.G) vl.an 0 Tryz.f13 1 py zm lC px FL
theorem aiw:iW LO zk lA pt:=l6 (jk [.d (.slice gb),.d (.slice yz),.d ti] λ_=>bY)
theorem P8:mP @NF pv zk lA pt FK Ve:=nD
theorem LP{R:Type}(Og:(List gf))(vg:(List KV))(i:Int)(kn:AS->Option R)(kx:Exit->AS->Option R):NF (Og,vg,i) kn kx=aH ((gq i (((ag vg):Nat):Int))) (aH (eo i (((ag vg):Nat):Int)) (aH ((rz (((ag (nth yz vg (ae i)).2.1):Nat):Int) (4:Int))) (kx (lB ()).1 (lB ()).2) (al (LQ (Og,vg,i,(0:Int))) λx1=>aH (x1.isLeft) (al (x1.getLeft?) λa2=>kx (lB ()).1 (lB ()).2) (al (x1.getRight?) λb3=>kn (pv (b3.1,b3.2.1,(bI .i64 b3.2.2 (1:Int))))))) none) (kx (zl (Og,vg)).1 (zl (Og,vg)).2):=bY
theorem aix:iW LQ zm lC px:=l6 (jk [.d (.slice gb),.d (.slice yz),.d ti,.d ti] λ_=>bY)
theorem P9:mP @NH py zm lC px FL Vg:=nD
theorem LR{R:Type}(IH:(List gf))(aag:(List KV))(fL:Int)(kv:Int)(kn:AS->Option R)(kx:Exit->AS->Option R):NH (IH,aag,fL,kv) kn kx=aH (eo fL (((ag aag):Nat):Int)) (aH ((gq kv (((ag (nth yz aag (ae fL)).2.1):Nat):Int))) (aH (eo fL (((ag aag):Nat):Int)) (aH (eo kv (((ag (nth yz aag (ae fL)).2.1):Nat):Int)) (aH ((rz (((ag (nth eA (nth yz aag (ae fL)).2.1 (ae kv)).1):Nat):Int) (6:Int))) (kx (jc ()).1 (jc ()).2) (aH ((rz (((ag (nth eA (nth yz aag (ae fL)).2.1 (ae kv)).2.1):Nat):Int) (6:Int))) (kx (jc ()).1 (jc ()).2) (al (fV.call (nth eA (nth yz aag (ae fL)).2.1 (ae kv))) λx1=>aH ((!x1)) (kx (jc ()).1 (jc ()).2) (kn (py (IH,aag,fL,(bI .i64 kv (1:Int)))))))) none) none) (kx (zo (IH,aag,fL)).1 (zo (IH,aag,fL)).2)) none:=bY
theorem aEy{R:Type}(outs l)(k:K1 R):vl.A (outs,l) k=al (LO (outs,l,0)) λx5=>aH (x5.isLeft) (al (x5.getLeft?) λa6=>k (vl.out false)) (al (x5.getRight?) λb7=>aH ((aiU (b7.1.length:Int) 10)) (k (vl.out (aiU (b7.2.length:Int) 20))) (k (vl.out false))):=bY
theorem amJ:Vg:=by
 refine P9 (λ(_,acts,i,j)=>(nth yz acts i.toNat).2.1.length - j.toNat) ?_
 rintro⟨outs,acts,i,j⟩ ⟨hl,k,m,rfl,hk,h4,rfl,hm⟩;have hl:acts.length<=9223372036854775807:=hl;have hk:k < acts.length:=hk;have h4:(nth yz acts k).2.1.length<=4:=h4;have hm:m<=(nth yz acts k).2.1.length:=hm;obtain⟨l,hl'⟩:∃l:List dv,(nth yz acts k).2.1=l:=⟨_,rfl⟩;rw[hl']at h4 hm;by_cases h:m < l.length
 ·have n1:nth eA l m=l[m]:=cg (t:=eA) h;have hd:(l.drop m).all aeW=(aeW l[m] && (l.drop (m+1)).all aeW):=by rw[aq h,fb]
  have step:∀ {R:Type} (kn:AS->Option R) (kx:Exit->AS->Option R),NH (outs,acts,(k:Int),(m:Int)) kn kx=aH (aeW l[m]) (kn (py (outs,acts,(k:Int),((m+1:Nat):Int)))) (kx (jc ()).1 (jc ()).2):=by
   intro R kn kx;rw[LR,bg ak ak,aj,aa,hl',aU ak,aj,aj,bg ak ak,aj,aa,n1,ajR (d:=l[m]) trivial,N.mO ak];simp only[ah,bt,Ow];unfold aeW;by_cases h1:l[m].1.length<=6
   ·rw[cn ak,aM h1,bu,ao];by_cases h2:l[m].2.1.length<=6
    ·rw[cn ak,aM h2,bu,ao];cases akd l[m] <;> rfl
    ·rw[cR ak,aS h2];rfl
   ·rw[cR ak,aS h1];rfl
  cases hp:aeW l[m]
  ·right;refine⟨jc (),?_,λkn kx=> ?_⟩
   ·simp only[lC,px,aa,hl',hd,hp,cM,bn,bq];rfl
   ·rw[step,hp,ao]
  ·left;refine⟨(outs,acts,(k:Int),((m+1:Nat):Int)),⟨hl,k,m+1,rfl,hk,by rw[hl'];exact h4,rfl,by rw[hl'];exact h⟩,by simp only[aa,hl'];omega,?_,λkn kx=> ?_⟩
   ·simp only[lC,px,aa,hl',hd,hp,bu]
   ·rw[step,hp,aj]
 ·right;obtain rfl:m=l.length:=ak;refine⟨zo (outs,acts,(k:Int)),?_,λkn kx=> ?_⟩
  ·simp only[lC,px,aa,hl',aK];rfl
  ·rw[LR,bg ak ak,aj,aa,hl',aR ak,ao]
theorem amI:Ve:=by
 refine P8 (λ(_,acts,i)=>acts.length - i.toNat) ?_
 rintro⟨outs,acts,i⟩ ⟨hl,k,hk,rfl⟩;have hl:acts.length<=9223372036854775807:=hl;have hk:k<=acts.length:=hk;by_cases h:k < acts.length
 ·have n1:nth yz acts k=acts[k]:=cg (t:=yz) h;have hd:(acts.drop k).all Lg=(Lg acts[k] && (acts.drop (k+1)).all Lg):=by rw[aq h,fb]
  have step:∀ {R:Type} (kn:AS->Option R) (kx:Exit->AS->Option R),NF (outs,acts,(k:Int)) kn kx=aH (Lg acts[k]) (kn (pv (outs,acts,((k+1:Nat):Int)))) (kx (lB ()).1 (lB ()).2):=by
   intro R kn kx;rw[LP,aU ak,aj,bg ak ak,aj,aa,n1];unfold Lg;by_cases h1:acts[k].2.1.length<=4
   ·rw[cn ak,ao,aM h1,bu,aix (d:=(outs,acts,(k:Int),0)) ⟨hl,k,0,rfl,h,by rw[n1];exact h1,rfl,aJ _⟩];simp only[ah,px,aa,n1,aX,aD];cases acts[k].2.1.all aeW with
    |false=>rfl
    |true=>
     simp only[bG,lC,dJ,ao,c9,ah,aj];rw[N.mO ak]
   ·rw[cR ak,aS h1];rfl
  cases hp:Lg acts[k]
  ·right;refine⟨lB (),?_,λkn kx=> ?_⟩
   ·simp only[lA,pt,aa,hd,hp,cM,bn,bq];rfl
   ·rw[step,hp,ao]
  ·left;refine⟨(outs,acts,((k+1:Nat):Int)),⟨hl,k+1,ak,rfl⟩,by simp only[aa];omega,?_,λkn kx=> ?_⟩
   ·simp only[lA,pt,aa,hd,hp,bu]
   ·rw[step,hp,aj]
 ·right;obtain rfl:k=acts.length:=ak;refine⟨zl (outs,acts),?_,λkn kx=> ?_⟩
  ·simp only[lA,pt,aa,aK];rfl
  ·rw[LP,aR ak,ao]
theorem aEz:vl.Ok:=by
 rintro⟨outs,acts⟩ hl;rw[aEy,aiw (d:=(outs,acts,0)) ⟨hl,0,aJ _,rfl⟩];simp only[ah,pt,aX,aD,bt,aiv,S4];cases acts.all Lg with
 |false=>rfl
 |true=>
  simp only[bG,lA,dJ,ao,c9,ah,bu];by_cases h1:outs.length<=10
  ·rw[oe ak,aj,aM h1,bu];by_cases h2:acts.length<=20
   ·rw[oe ak,aM h2]
   ·rw[j7 ak,aS h2]
  ·rw[j7 ak,ao,aS h1,cM]
theorem ayb:vl.RS:=rE [.d (.slice gb),.d (.slice yz)] vl
def aEA:=vl.eS aEz 2 ⟨.fp amI,⟨.fp amJ,trivial⟩⟩
abbrev zf:=KV×(List dh)×Int×Bool×Nat×Nat×(List (bF×dQ))×(List bW)×(List dh)×(List (bF×jn))
def LL:zf->AS:=λ(a,l,t13,t14,o0L,o1L,o2,o3,o4,o6)=>⟨([.ptr (.bm 0) 0 [] 0,.ptr (.bm 5) 0 [] 0,bE,bE,bE,.dD yz a,bE,.d (.slice dR) l]++aP 5 ([.d ti t13,.d .bool t14]++aP 33 [])),[.obj 0 false (.pr (.ptr (.bm 1) 0 [] 0) (.pr (.bz (.bm 4) 0 [] 0 0 o0L) fP)),.obj 0 false (.pr (.ct (.bm 2) 0) (.pr (.bz (.bm 3) 0 [] 0 0 o1L) fP)),.obj 0 false (.mp bl eQ o2),.obj 0 false (.vec 256 cD o3),.obj 0 false (.vec 48 dR o4),.obj 0 false (.pr (.ct (.bm 6) 0) fP),.obj 0 false (.mp bl l7 o6)],(ab 48 [])⟩
def PZ:oU:=oU.of {aV:=[0,1,5,7,13,14]} LL
def uC:zf->Option zf:=λx=>(PZ).avC .normal (LL x)
theorem P0(x:zf):uC x=some x:=oU.F5 (jk [.d yz,.d (.slice dR),.d ti,.d .bool,.n,.n,.d (.slice (.pair bl eQ)),.d (.slice cD),.d (.slice dR),.d (.slice (.pair bl l7))] λ_=>bY) x
abbrev zg:=KV×(List dh)×Int×Bool×Nat×Nat×(List (bF×dQ))×(List bW)×(List dh)×(List (bF×jn))
def LM:zg->AS:=λ(a,l,t13,t23,o0L,o1L,o2,o3,o4,o6)=>⟨([.ptr (.bm 0) 0 [] 0,.ptr (.bm 5) 0 [] 0,bE,bE,bE,.dD yz a,bE,.d (.slice dR) l]++aP 5 ([.d ti t13]++aP 9 ([.d .bool t23]++aP 24 []))),[.obj 0 false (.pr (.ptr (.bm 1) 0 [] 0) (.pr (.bz (.bm 4) 0 [] 0 0 o0L) fP)),.obj 0 false (.pr (.ct (.bm 2) 0) (.pr (.bz (.bm 3) 0 [] 0 0 o1L) fP)),.obj 0 false (.mp bl eQ o2),.obj 0 false (.vec 256 cD o3),.obj 0 false (.vec 48 dR o4),.obj 0 false (.pr (.ct (.bm 6) 0) fP),.obj 0 false (.mp bl l7 o6)],(ab 48 [])⟩
def P3:oU:=oU.of {aV:=[0,1,5,7,13,23]} LM
def AY:zg->Option zg:=λx=>(P3).avC .normal (LM x)
theorem P4(x:zg):AY x=some x:=oU.F5 (jk [.d yz,.d (.slice dR),.d ti,.d .bool,.n,.n,.d (.slice (.pair bl eQ)),.d (.slice cD),.d (.slice dR),.d (.slice (.pair bl l7))] λ_=>bY) x
abbrev H6:=KV×Nat×Nat×(List (bF×dQ))×(List bW)×(List dh)×(List (bF×jn))
def SZ:H6->SA:=λ(a,o0baL,o1baL,o2,o3,o4,o6)=>([.ptr (.bm 0) 0 [] 0,.ptr (.bm 5) 0 [] 0,.d yz a],[.obj 0 false (.pr (.ptr (.bm 1) 0 [] 0) (.pr (.bz (.bm 4) 0 [] 0 0 o0baL) fP)),.obj 0 false (.pr (.ct (.bm 2) 0) (.pr (.bz (.bm 3) 0 [] 0 0 o1baL) fP)),.obj 0 false (.mp bl eQ o2),.obj 0 false (.vec 256 cD o3),.obj 0 false (.vec 48 dR o4),.obj 0 false (.pr (.ct (.bm 6) 0) fP),.obj 0 false (.mp bl l7 o6)])
abbrev amD:=((List yt)×Nat×Nat×(List (bF×dQ))×(List bW)×(List dh)×(List (bF×jn)))⊕((List yt)×Nat×Nat×(List (bF×dQ))×(List bW)×(List dh)×(List (bF×jn))×Nat×(List (bF×dQ))×(List bW)×(List dh))
abbrev H7:=((List yt)×Nat×Nat×(List (bF×dQ))×(List bW)×(List dh)×(List (bF×jn)))⊕((List yt)×Nat×Nat×(List (bF×dQ))×(List bW)×(List dh)×(List (bF×jn))×Nat×(List (bF×dQ))×(List bW)×(List dh))
def nJ:H7->fG:=λx=>match x with | .inl x=>⟨.d (.slice EX) x.1,[.obj 0 false (.pr (.ptr (.bm 1) 0 [] 0) (.pr (.bz (.bm 4) 1 [] 0 0 x.2.1) fP)),.obj 0 false (.pr (.ct (.bm 2) 0) (.pr (.bz (.bm 3) 1 [] 0 0 x.2.2.1) fP)),.obj 0 false (.mp bl eQ x.2.2.2.1),.obj 1 false (.vec 256 cD x.2.2.2.2.1),.obj 1 false (.vec 48 dR x.2.2.2.2.2.1),.obj 0 false (.pr (.ct (.bm 6) 0) fP),.obj 0 false (.mp bl l7 x.2.2.2.2.2.2)],[]⟩ | .inr x=>⟨.d (.slice EX) x.1,[.obj 0 false (.pr (eT 0) (.pr (.bz (.new 0 3) 0 [] 0 0 x.2.1) fP)),.obj 0 false (.pr (.ct (.bm 2) 0) (.pr (.bz (.bm 3) 1 [] 0 0 x.2.2.1) fP)),.obj 0 false (.mp bl eQ x.2.2.2.1),.obj 1 false (.vec 256 cD x.2.2.2.2.1),.obj 1 false (.vec 48 dR x.2.2.2.2.2.1),.obj 0 false (.pr (.ct (.bm 6) 0) fP),.obj 0 false (.mp bl l7 x.2.2.2.2.2.2.1)],[.obj 0 false (.pr (.ct (.new 0 1) 0) (.pr (.bz (.new 0 2) 0 [] 0 0 x.2.2.2.2.2.2.2.1) fP)),.obj 0 false (.mp bl eQ x.2.2.2.2.2.2.2.2.1),.obj 0 false (.vec 256 cD x.2.2.2.2.2.2.2.2.2.1),.obj 0 false (.vec 48 dR x.2.2.2.2.2.2.2.2.2.2)]⟩
def FF:H6->amD->H7:=λ(a,o0baL,o1baL,o2,o3,o4,o6) y=>match y with | .inl y=> .inl y | .inr y=> .inr y
def aPb(v:Int):Bool:=qY v 0 || (qY v 1 || qY v 2)
def aRV(v:Int):Bool:=qY v 3 || qY v 4
def ajY(d:Int)(l:List dh)(nb n:Nat)(a:At)(s:List bW)(bs:List dh):Kj:=(lr (d,l,nb,n,a,s,bs)).getD (.inl (0,nb,n,a,s,bs))
def Hp(o:bF)(m:Wm):Wm:=if(bQ bl o m).isSome then m else eF bl o tS m
def aHL(a:KV)(nb:Nat)(bs:List dh)(m:Wm):Wm×List yt:=if mQ a=5 then(Hp a.2.2.2.1 m,[]) else if mQ a=6 then(gT bl a.2.2.2.1 m,[]) else if mQ a=7 then iK nb bs m else(m,[])
def Nz:H6->Prop:=λ(a,nb,n,at',s,bs,m)=>(∃A0 b,rk A0 b nb n at' s bs/\b+a.2.1.length<=400)/\nb<=900/\Yf a.2.1/\WG m
def xt:H6->amD:=λ(a,nb,n,at',s,bs,m)=>
 if aPb (mQ a) then .inl ([],(mg (nth dR (BV a nb bs) 0) nb (n,at',s) bs).2.1,(mg (nth dR (BV a nb bs) 0) nb (n,at',s) bs).2.2.1,(mg (nth dR (BV a nb bs) 0) nb (n,at',s) bs).2.2.2.1,(mg (nth dR (BV a nb bs) 0) nb (n,at',s) bs).2.2.2.2.1,(mg (nth dR (BV a nb bs) 0) nb (n,at',s) bs).2.2.2.2.2,m)
 else if aRV (mQ a) then match ajY a.2.2.1 (BV a nb bs) nb n at' s bs with
  | .inl x=> .inl ([],x.2.1,x.2.2.1,x.2.2.2.1,x.2.2.2.2.1,x.2.2.2.2.2,m)
  | .inr x=> .inr ([],x.2.1,x.2.2.1,x.2.2.2.1,x.2.2.2.2.1,x.2.2.2.2.2.1,m,x.2.2.2.2.2.2.1,x.2.2.2.2.2.2.2.1,x.2.2.2.2.2.2.2.2.1,x.2.2.2.2.2.2.2.2.2)
 else .inl ((aHL a nb bs m).2,nb,n,at',s,bs,(aHL a nb bs m).1)
def aEl:oT:=jy (P:=Tryz.prog) [axj,alR,aq3,adx,apR,apX]
def ax2:xi:= {res:=[some (.slice EX)],aqO:=[(3,1),(4,1)],ann:=na [(6,PZ),(9,P3)]}
def amC:= @HD Tryz.prog aEl ax2 0 Tryz.f20 _ SZ
abbrev ax1:=ahl @amC Nz FF xt nJ
theorem ax3{R:Type}(a:KV)(o0baL:Nat)(o1baL:Nat)(o2:(List (bF×dQ)))(o3:(List bW))(o4:(List dh))(o6:(List (bF×jn)))(k:fG->Option R):amC (a,o0baL,o1baL,o2,o3,o4,o6) k=al (xU.call (a,o0baL,o1baL,o2,o3,o4)) λx4=>al (aH ((qY (cG .and .i64 a.1 (7:Int)) (0:Int))) (uC (a,x4.1,(cG .and .i64 a.1 (7:Int)),(qY (cG .and .i64 a.1 (7:Int)) (0:Int)),x4.2.1,x4.2.2.1,x4.2.2.2.1,x4.2.2.2.2.1,x4.2.2.2.2.2,o6)) (aH ((qY (cG .and .i64 a.1 (7:Int)) (1:Int))) (uC (a,x4.1,(cG .and .i64 a.1 (7:Int)),(qY (cG .and .i64 a.1 (7:Int)) (1:Int)),x4.2.1,x4.2.2.1,x4.2.2.2.1,x4.2.2.2.2.1,x4.2.2.2.2.2,o6)) (uC (a,x4.1,(cG .and .i64 a.1 (7:Int)),(qY (cG .and .i64 a.1 (7:Int)) (2:Int)),x4.2.1,x4.2.2.1,x4.2.2.2.1,x4.2.2.2.2.1,x4.2.2.2.2.2,o6)))) λMX=>aH (MX.2.2.2.1) (aH (eo (0:Int) (((ag MX.2.1):Nat):Int)) (al (GU.call ((nth dR MX.2.1 0),MX.2.2.2.2.1,MX.2.2.2.2.2.1,MX.2.2.2.2.2.2.1,MX.2.2.2.2.2.2.2.1,MX.2.2.2.2.2.2.2.2.1)) λaSo=>k (nJ (.inl (([]:List yt),aSo.2.1,aSo.2.2.1,aSo.2.2.2.1,aSo.2.2.2.2.1,aSo.2.2.2.2.2,MX.2.2.2.2.2.2.2.2.2)))) none) (al (aH ((qY MX.2.2.1 (3:Int))) (AY (MX.1,MX.2.1,MX.2.2.1,(qY MX.2.2.1 (3:Int)),MX.2.2.2.2.1,MX.2.2.2.2.2.1,MX.2.2.2.2.2.2.1,MX.2.2.2.2.2.2.2.1,MX.2.2.2.2.2.2.2.2.1,MX.2.2.2.2.2.2.2.2.2)) (AY (MX.1,MX.2.1,MX.2.2.1,(qY MX.2.2.1 (4:Int)),MX.2.2.2.2.1,MX.2.2.2.2.2.1,MX.2.2.2.2.2.2.1,MX.2.2.2.2.2.2.2.1,MX.2.2.2.2.2.2.2.2.1,MX.2.2.2.2.2.2.2.2.2))) λBT=>aH (BT.2.2.2.1) (al (lr (BT.1.2.2.1,BT.2.1,BT.2.2.2.2.1,BT.2.2.2.2.2.1,BT.2.2.2.2.2.2.1,BT.2.2.2.2.2.2.2.1,BT.2.2.2.2.2.2.2.2.1)) λHC=>aH (HC.isLeft) (al (HC.getLeft?) λaJg=>k (nJ (.inl (([]:List yt),aJg.2.1,aJg.2.2.1,aJg.2.2.2.1,aJg.2.2.2.2.1,aJg.2.2.2.2.2,BT.2.2.2.2.2.2.2.2.2)))) (al (HC.getRight?) λakS=>k (nJ (.inr (([]:List yt),akS.2.1,akS.2.2.1,akS.2.2.2.1,akS.2.2.2.2.1,akS.2.2.2.2.2.1,BT.2.2.2.2.2.2.2.2.2,akS.2.2.2.2.2.2.1,akS.2.2.2.2.2.2.2.1,akS.2.2.2.2.2.2.2.2.1,akS.2.2.2.2.2.2.2.2.2))))) (aH ((qY BT.2.2.1 (5:Int))) (al (EZ.call (BT.1.2.2.2.1,BT.2.2.2.2.2.2.2.2.2)) λYd=>k (nJ (.inl (([]:List yt),BT.2.2.2.2.1,BT.2.2.2.2.2.1,BT.2.2.2.2.2.2.1,BT.2.2.2.2.2.2.2.1,BT.2.2.2.2.2.2.2.2.1,Yd)))) (aH ((qY BT.2.2.1 (6:Int))) (al (R4.call (BT.1.2.2.2.1,BT.2.2.2.2.2.2.2.2.2)) λady=>k (nJ (.inl (([]:List yt),BT.2.2.2.2.1,BT.2.2.2.2.2.1,BT.2.2.2.2.2.2.1,BT.2.2.2.2.2.2.2.1,BT.2.2.2.2.2.2.2.2.1,ady)))) (aH ((qY BT.2.2.1 (7:Int))) (al (Ka.call (BT.2.2.2.2.2.2.2.2.2,BT.2.2.2.2.1,BT.2.2.2.2.2.1,BT.2.2.2.2.2.2.1,BT.2.2.2.2.2.2.2.1,BT.2.2.2.2.2.2.2.2.1)) λaB4=>aH (decide (0=0/\(0+aB4.1)<=(ag aB4.2.2.2.2.2.2.2))) (k (nJ (.inl ((cut aB4.2.2.2.2.2.2.2 0 aB4.1),aB4.2.2.1,aB4.2.2.2.1,aB4.2.2.2.2.1,aB4.2.2.2.2.2.1,aB4.2.2.2.2.2.2.1,aB4.2.1)))) none) (k (nJ (.inl (([]:List yt),BT.2.2.2.2.1,BT.2.2.2.2.2.1,BT.2.2.2.2.2.2.1,BT.2.2.2.2.2.2.2.1,BT.2.2.2.2.2.2.2.2.1,BT.2.2.2.2.2.2.2.2.2)))))))):=bY
theorem aCT{a:KV}(ht:Yf a.2.1){nb:Nat}(hn:nb<=1000000)(bs:List dh):(∀b∈BV a nb bs,WT b)/\Up (BV a nb bs)<=a.2.1.length/\(BV a nb bs).length<=9/\(mQ a < 3->(BV a nb bs).length=1):=by
 unfold BV;split
 ·exact⟨atr ht 1 _ _ ak (BF _ _),ab9 _ _ _ _,by rw[Rm];decide,λ_=>Rm _ _ _ _⟩
 ·rename_i h3;split
  ·rename_i hd;exact⟨atr ht _ _ _ ak (BF _ _),ab9 _ _ _ _,by rw[Rm];omega,λh=>absurd h h3⟩
  ·exact⟨λb hb=>(by cases hb),aJ _,by show 0<=9;decide,λh=>absurd h h3⟩
theorem apD:∀ {l:List dh} {b:dh},b∈l->b.2.2.1.length<=Up l
 |x::l,b,h=>by
  rw[Up];rcases cd.1 h with rfl | h
  ·omega
  ·have:=apD h;omega
theorem rk.ajY{A0:At}{m nb n:Nat}{a:At}{s:List bW}{bs:List dh}(h:rk A0 m nb n a s bs)(d:Int){l:List dh}(hl:∀b∈l,WT b)(hm:m+Up l<=400)(hn:nb+l.length<=1000):
  lr (d,l,nb,n,a,s,bs)=some (Ab.ajY d l nb n a s bs):=by
 unfold Ab.ajY;rcases h.aHe d hl hm hn with⟨e,_,h1⟩ | ⟨n',a',s',bs',h1,_⟩
 ·rw[h1];rfl
 ·rw[h1];rfl
theorem ax4:ax1:=by
 rintro⟨a,nb,n,at',s,bs,m⟩ ⟨⟨A0,b,h,hb⟩,aE1,ht,hw⟩;have hb:b+a.2.1.length<=400:=hb;have aE1:nb<=900:=aE1;obtain⟨g1,g2,g3,g4⟩:=aCT ht (nb:=nb) ak bs;rw[ax3,aqN (d:=(a,nb,n,at',s,bs)) ⟨⟨A0,b,h⟩,ht⟩];simp only[ah,bt,YO,P0,P4];rw[show cG .and .i64 a.1 7=mQ a from rfl];refine(bo (λz=>al z _) (?_:_=some (a,BV a nb bs,mQ a,aPb (mQ a),nb,n,at',s,bs,m))).trans ?_
 ·unfold aPb;cases qY (mQ a) 0 <;> cases qY (mQ a) 1 <;> cases qY (mQ a) 2 <;> rfl
 rw[ah];simp only[xt];generalize hl:BV a nb bs=l at g1 g2 g3 g4 ⊢;cases h3:aPb (mQ a) with
 |true=>
  have hv:mQ a < 3:=by unfold aPb qY at h3;simp only[fW,dw]at h3;rcases h3 with h3 | h3 | h3 <;> rw[h3] <;> decide
  have g4:=g4 hv;have aEZ:nth dR l 0∈l:=by rw[cg (t:=dR) (show 0 < l.length by omega)];exact aO _
  rw[aj,if_pos rfl,bg (by decide) ak,aj,h.aS6 (g1 _ aEZ) ak];rfl
 |false=>
  rw[ao,if_neg (by decide)];refine(bo (λz=>al z _) (?_:_=some (a,l,mQ a,aRV (mQ a),nb,n,at',s,bs,m))).trans ?_
  ·unfold aRV;cases qY (mQ a) 3 <;> cases qY (mQ a) 4 <;> rfl
  rw[ah];simp only[];cases h4:aRV (mQ a) with
  |true=>
   rw[aj,if_pos rfl,h.ajY a.2.2.1 g1 ak ak];simp only[ah];cases ajY a.2.2.1 l nb n at' s bs <;> rfl
  |false=>
   rw[ao,if_neg (by decide)];unfold aHL;by_cases c5:mQ a=5
   ·rw[du c5,aj,if_pos c5,KT (d:=(a.2.2.2.1,m)) trivial];rfl
   rw[eH c5,ao,if_neg c5];by_cases c6:mQ a=6
   ·rw[du c6,aj,if_pos c6,ahb (d:=(a.2.2.2.1,m)) trivial];rfl
   rw[eH c6,ao,if_neg c6];by_cases c7:mQ a=7
   ·rw[du c7,aj,if_pos c7,ahg (d:=(m,nb,n,at',s,bs)) ⟨⟨A0,b,h⟩,hw⟩];simp only[ah,bt,Ya];rw[aM (⟨trivial,ud (aN _)⟩:True/\0+(iK nb bs m).2.length<=(iK nb bs m).2.length),aj,eV rfl];rfl
   rw[eH c7,ao,if_neg c7];rfl
def Ef:=Entry.ad6 [none,none,some yz] SZ Nz FF xt nJ
def dL:H6->Option H7:=Lp Ef SZ
theorem FG:iW dL Nz FF xt:=acf (W2 [.d yz,.n,.n,.d (.slice (.pair bl eQ)),.d (.slice cD),.d (.slice dR),.d (.slice (.pair bl l7))] λ_=>bY)
def SY:SG Tryz.prog:=⟨20,ml,Ef,.of (.aNO (.fn 0 bY ax4 trivial)) (by rfl)⟩
section
def aNy:List aB->Bool:=λvs=>match vs with | [_,_,.d (.pair (.int .i64) _) x]=>decide ((x.1:Int)=3) | _=>false
def aR0:List aB->Bool:=λvs=> !aNy vs
def aTe.E:Entry:=Entry.half [none,none,some yz] (X:=H7) (Z:=(List yt)×Nat×Nat×(List (bF×dQ))×(List bW)×(List dh)×(List (bF×jn))) Ef.run Ef.out Sum.inl cT
def aTe.sg:SG Tryz.prog:=⟨20,aR0,aTe.E,vj.of (qZ.half aQ8 (SY.h.1 (by rfl))) (by rfl)⟩
def aTf.E:Entry:=Entry.half [none,none,some yz] (X:=H7) (Z:=(List yt)×Nat×Nat×(List (bF×dQ))×(List bW)×(List dh)×(List (bF×jn))×Nat×(List (bF×dQ))×(List bW)×(List dh)) Ef.run Ef.out Sum.inr Sum.getRight?
def aTf.sg:SG Tryz.prog:=⟨20,aNy,aTf.E,vj.of (qZ.half aQ9 (SY.h.1 (by rfl))) (by rfl)⟩
abbrev pV:=(List yt)×(List yt)×Bool×bF×(List (bF×jn))
def Hh:pV->AS:=λ(d,e,one,n6,n29)=>⟨([bE,bE,bE,eT 29,bE,bE,eT 6]++aP 6 ([.d (.slice EX) d,bE,.d (.slice EX) e,bE,.d .bool one]++aP 235 [])),[],(bM 6 ([dK (.d bl n6)]++bM 22 ([[.obj 0 false (.pr (.ct (.new 29 1) 0) fP),.obj 0 false (.mp bl l7 n29)]]++bM 223 [])))⟩
def Jy:oU:=oU.of {aV:=[3,6,13,15,17],sites:=[6,29]} Hh
def iZ:pV->Option pV:=λx=>(Jy).avC .normal (Hh x)
theorem Lb(x:pV):iZ x=some x:=oU.F5 (jk [.d (.slice EX),.d (.slice EX),.d .bool,.d bl,.d (.slice (.pair bl l7))] λ_=>bY) x
abbrev pW:=Bool×Bool×bF×(List (bF×jn))
def Hi:pW->AS:=λ(one,two,n6,n29)=>⟨([bE,bE,bE,eT 29,bE,bE,eT 6]++aP 10 ([.d .bool one,.d .bool two]++aP 234 [])),[],(bM 6 ([dK (.d bl n6)]++bM 22 ([[.obj 0 false (.pr (.ct (.new 29 1) 0) fP),.obj 0 false (.mp bl l7 n29)]]++bM 223 [])))⟩
def Jz:oU:=oU.of {aV:=[3,6,17,18],sites:=[6,29]} Hi
def gm:pW->Option pW:=λx=>(Jz).avC .normal (Hi x)
theorem Lc(x:pW):gm x=some x:=oU.F5 (jk [.d .bool,.d .bool,.d bl,.d (.slice (.pair bl l7))] λ_=>bY) x
def apk:Unit->Prop:=λ_=>True
def agX:Unit->Bool:=λ_=>true
def jH:Fs Tryz.prog apk bt agX:=eN 8 Tryz.f8 (λ_=>([],[])) (λx=>⟨.d .bool x,[],[]⟩) [] [QY,aLD,alY,awB,aIz,adx,aTe.sg,aI7,aTf.sg,aIt,ahd,awv,apR] {loops:=nX [(19,{aV:=[2,3,4,6,7,8,9,11,12,13,14],sites:=[1,4,6,7,10,20,23,24,28,29,44,50,53,58,62,68,72,76,85,89,97,101,105,155,207,212,216,219,223,249]})],outs:=nV [(19,{aV:=[2,3,4,6,7,8,9,11,12,13],sites:=[1,4,6,7,10,20,23,24,28,29,44,50,53,58,62,68,72,76,85,89,97,101,105,155,207,212,216,219,223,249]},{aV:=[0],sites:=[1,4,6,7,10,20,23,24,28,29,44,50,53,58,62,68,72,76,85,89,97,101,105,155,207,212,216,219,223,249]})],ann:=na [(27,Jy),(28,Jz)]} 8
theorem atQ{R:Type}(d)(k:K1 R):jH.A d k=al (G5.call 7) λx7=>al (anv.call x7) λx8=>al (Fj [(100,(x8,()))]) λBT=>aH (BT.isLeft) (al (BT.getLeft?) λaXf=>al (adw.call ()) λYd=>k (jH.out false)) (al (BT.getRight?) λaP6=>al (adw.call ()) λaB4=>al (vp.call (([(((ab 32 0),(0,())),((0,(([]:List Sg),(0,()))),()))],([(90,(x8,()))],(0,()))),0,0,[7],0)) λaQB=>al (EZ.call (((ab 32 0),(1,())),aB4)) λak1=>al (EZ.call (((ab 32 0),(0,())),ak1)) λaJw=>al (jK cT (dL ((7,(([]:List dv),(0,(((ab 32 0),(0,())),())))),0,0,aP6.1,aP6.2.1,aP6.2.2,aJw))) λaJh=>al (jK cT (dL ((0,(([]:List dv),(0,(((ab 32 0),(0,())),())))),aJh.2.1,aJh.2.2.1,aJh.2.2.2.1,aJh.2.2.2.2.1,aJh.2.2.2.2.2.1,aJh.2.2.2.2.2.2))) λaQC=>al (jK cT (dL ((0,([aQB.1],(0,(((ab 32 0),(0,())),())))),aQC.2.1,aQC.2.2.1,aQC.2.2.2.1,aQC.2.2.2.2.1,aQC.2.2.2.2.2.1,aQC.2.2.2.2.2.2))) λaQE=>al (jK cT (dL ((7,(([]:List dv),(0,(((ab 32 0),(0,())),())))),aQE.2.1,aQE.2.2.1,aQE.2.2.2.1,aQE.2.2.2.2.1,aQE.2.2.2.2.2.1,aQE.2.2.2.2.2.2))) λauC=>al (Kb.call (((ab 32 0),(0,())),auC.2.2.2.2.2.2)) λaUY=>al (jK Sum.getRight? (dL ((3,([aQB.1],(1,(((ab 32 0),(0,())),())))),auC.2.1,auC.2.2.1,auC.2.2.2.1,auC.2.2.2.2.1,auC.2.2.2.2.2.1,aUY.1))) λaJx=>al (jK cT (dL ((7,(([]:List dv),(0,(((ab 32 0),(0,())),())))),aJx.2.1,aJx.2.2.2.2.2.2.2.1,aJx.2.2.2.2.2.2.2.2.1,aJx.2.2.2.2.2.2.2.2.2.1,aJx.2.2.2.2.2.2.2.2.2.2,aJx.2.2.2.2.2.2.1))) λaBT=>al (jK cT (dL ((0,(([]:List dv),(0,(((ab 32 0),(0,())),())))),aBT.2.1,aBT.2.2.1,aBT.2.2.2.1,aBT.2.2.2.2.1,aBT.2.2.2.2.2.1,aBT.2.2.2.2.2.2))) λaBM=>al (jK cT (dL ((0,(([]:List dv),(0,(((ab 32 0),(0,())),())))),aBM.2.1,aBM.2.2.1,aBM.2.2.2.1,aBM.2.2.2.2.1,aBM.2.2.2.2.2.1,aBM.2.2.2.2.2.2))) λaBN=>al (jK cT (dL ((0,(([]:List dv),(0,(((ab 32 0),(0,())),())))),aBN.2.1,aBN.2.2.1,aBN.2.2.2.1,aBN.2.2.2.2.1,aBN.2.2.2.2.2.1,aBN.2.2.2.2.2.2))) λap1=>al (jK cT (dL ((0,(([]:List dv),(0,(((ab 32 0),(0,())),())))),ap1.2.1,ap1.2.2.1,ap1.2.2.2.1,ap1.2.2.2.2.1,ap1.2.2.2.2.2.1,ap1.2.2.2.2.2.2))) λaBO=>al (jK cT (dL ((0,(([]:List dv),(0,(((ab 32 0),(0,())),())))),aBO.2.1,aBO.2.2.1,aBO.2.2.2.1,aBO.2.2.2.2.1,aBO.2.2.2.2.2.1,aBO.2.2.2.2.2.2))) λOW=>al (jK cT (dL ((0,(([]:List dv),(0,(((ab 32 0),(0,())),())))),OW.2.1,OW.2.2.1,OW.2.2.2.1,OW.2.2.2.2.1,OW.2.2.2.2.2.1,OW.2.2.2.2.2.2))) λaBP=>al (jK cT (dL ((0,(([]:List dv),(0,(((ab 32 0),(0,())),())))),aBP.2.1,aBP.2.2.1,aBP.2.2.2.1,aBP.2.2.2.2.1,aBP.2.2.2.2.2.1,aBP.2.2.2.2.2.2))) λae1=>al (jK cT (dL ((7,(([]:List dv),(0,(((ab 32 0),(0,())),())))),ae1.2.1,ae1.2.2.1,ae1.2.2.2.1,ae1.2.2.2.2.1,ae1.2.2.2.2.2.1,ae1.2.2.2.2.2.2))) λUB=>al (jK cT (dL ((7,(([]:List dv),(0,(((ab 32 0),(0,())),())))),UB.2.1,UB.2.2.1,UB.2.2.2.1,UB.2.2.2.2.1,UB.2.2.2.2.2.1,UB.2.2.2.2.2.2))) λauB=>aH ((BY (aJh.1.length:Int) 0)) (k (jH.out false)) (aH ((BY (auC.1.length:Int) 1)) (k (jH.out false)) (aH ((BY (aBT.1.length:Int) 2)) (k (jH.out false)) (aH ((BY (UB.1.length:Int) 1)) (k (jH.out false)) (aH ((BY (auB.1.length:Int) 0)) (k (jH.out false)) (al (aH (eo 0 (auC.1.length:Int)) (aH ((qY (nth EX auC.1 0).1 1)) (aH (eo 0 (auC.1.length:Int)) (aH ((qY (nth EX auC.1 0).2.2.2.1 2)) (aH (eo 0 (auC.1.length:Int)) (aH ((Ty.beq bl (nth EX auC.1 0).2.1 ((ab 32 0),(0,())))) (aH (eo 0 (auC.1.length:Int)) (al (MM.call ((nth EX auC.1 0).2.2.1,aQB.1)) λaM3=>aH (aM3) (aH (aUY.2.2.2) (iZ (aBT.1,UB.1,(qY aUY.2.2.1 2),((ab 32 0),(0,())),auB.2.2.2.2.2.2)) (iZ (aBT.1,UB.1,false,((ab 32 0),(0,())),auB.2.2.2.2.2.2))) (iZ (aBT.1,UB.1,false,((ab 32 0),(0,())),auB.2.2.2.2.2.2))) none) (iZ (aBT.1,UB.1,false,((ab 32 0),(0,())),auB.2.2.2.2.2.2))) none) (iZ (aBT.1,UB.1,false,((ab 32 0),(0,())),auB.2.2.2.2.2.2))) none) (iZ (aBT.1,UB.1,false,((ab 32 0),(0,())),auB.2.2.2.2.2.2))) none) λoo=>al (aH (eo 0 (oo.1.length:Int)) (aH ((qY (nth EX oo.1 0).1 2)) (aH (eo 0 (oo.1.length:Int)) (aH ((qY (nth EX oo.1 0).2.2.2.1 2)) (aH (eo 1 (oo.1.length:Int)) (aH ((qY (nth EX oo.1 1).1 1)) (aH (eo 1 (oo.1.length:Int)) (aH ((qY (nth EX oo.1 1).2.2.2.1 3)) (aH (eo 0 (oo.2.1.length:Int)) (aH ((qY (nth EX oo.2.1 0).1 3)) (aH (eo 0 (oo.2.1.length:Int)) (aH ((qY (nth EX oo.2.1 0).2.2.2.1 3)) (al (tg.call (oo.2.2.2.1,oo.2.2.2.2)) λaP5=>aH (aP5.2) (al (tg.call (((ab 32 0),(1,())),aP5.1)) λaSm=>gm (oo.2.2.1,(!aSm.2),oo.2.2.2.1,aSm.1)) (gm (oo.2.2.1,false,oo.2.2.2.1,aP5.1))) (gm (oo.2.2.1,false,oo.2.2.2.1,oo.2.2.2.2))) none) (gm (oo.2.2.1,false,oo.2.2.2.1,oo.2.2.2.2))) none) (gm (oo.2.2.1,false,oo.2.2.2.1,oo.2.2.2.2))) none) (gm (oo.2.2.1,false,oo.2.2.2.1,oo.2.2.2.2))) none) (gm (oo.2.2.1,false,oo.2.2.2.1,oo.2.2.2.2))) none) (gm (oo.2.2.1,false,oo.2.2.2.1,oo.2.2.2.2))) none) λaBQ=>al (wall.call aBQ.2.2.2) λaJd=>al (R4.call (aBQ.2.2.1,aJd.2.1)) λaUR=>al (Kb.call (aBQ.2.2.1,aUR)) λaSn=>aH (aBQ.1) (aH (aBQ.2.1) (aH ((qY ((aJd.1:Nat):Int) 2)) (aH (eo 0 ((aJd.1:Nat):Int)) (aH (decide (0 < (ag aJd.2.2))) (aH ((Ty.beq bl (nth bl aJd.2.2 0) aBQ.2.2.1)) (aH ((!aSn.2.2.2)) (al (wall.call aSn.1) λaUS=>k (jH.out (qY ((aUS.1:Nat):Int) 1))) (k (jH.out false))) (k (jH.out false))) none) none) (k (jH.out false))) (k (jH.out false))) (k (jH.out false)))))))):=bY
def o0:bF:=(adB,((0:Int),()))
def o1:bF:=(adB,((1:Int),()))
def O2(d:Int)(l:List dv)(dep:Int):KV:=(d,(l,(dep,(o0,()))))
def An(x:jn):Wm:=[(o1,tS),(o0,x)]
theorem aB2{k:Int}:Le (adB,(k,())):=⟨b8,λx hx=>by rw[(nr.1 (show x∈ab 32 (0:Int) from hx)).2];exact⟨by decide,by decide⟩⟩
theorem aVE:¬o0=o1:=λh=>absurd (bo (λo:bF=>o.2.1) h:(0:Int)=1) (by decide)
theorem aUn:¬o1=o0:=λh=>aVE h.symm
theorem aQf:Ty.beq bl o0 o1=false:=by
 cases h:Ty.beq bl o0 o1 with
 |false=>rfl
 |true=>exact absurd ((qp _ _).1 h) aVE
theorem awM:Ty.beq bl o1 o0=false:=by
 cases h:Ty.beq bl o1 o0 with
 |false=>rfl
 |true=>exact absurd ((qp _ _).1 h) aUn
theorem aQe:Ty.beq bl o0 o0=true:=(qp _ _).2 rfl
theorem aSt:Ty.beq bl o1 o1=true:=(qp _ _).2 rfl
theorem aTi(x:jn):bQ bl o0 (An x)=some x:=by unfold An;rw[fu,if_neg (by rw[aQf];decide),fu,if_pos aQe]
theorem aU8(x:jn):bQ bl o1 (An x)=some tS:=by unfold An;rw[fu,if_pos aSt]
theorem aW7(x y:jn):eF bl o0 y (An x)=An y:=by unfold An;rw[pI,if_neg (by rw[aQf];decide),pI,if_pos aQe]
theorem aW8(x:jn):eF bl o1 tS (An x)=An x:=by unfold An;rw[pI,if_pos aSt]
theorem aQU:HX o1 o0=1:=by rw[wk (a:=o1) (b:=o0) aB2 aB2];decide+kernel
theorem aSl(x:jn):J9 (An x)=[o0,o1]:=by
 have hq:∀y∈([o1,o0]:List bF),Le y:=λy hy=>by
  rcases cd.1 hy with rfl | hy
  ·exact aB2
  ·rw[bh.1 hy];exact aB2
 refine(Gt Eb hq (λx hx y hy a b=>Fm (hq x hx) (hq y hy) a b) ⟨List.Perm.swap o1 o0 [],?_⟩).symm;refine List.pairwise_cons.2 ⟨λy hy=> ?_,List.pairwise_singleton _ _⟩;rw[bh.1 hy,aQU];decide
theorem aQA{x:jn}(h:akV x):WG (An x):=⟨by show 2<=_;decide,cU.2 ⟨λh=>aUn (bh.1 h),cU.2 ⟨λh=>(by cases h),fS⟩⟩,λp hp=>by
 rcases cd.1 hp with rfl | hp
 ·exact⟨aB2,WS⟩
 ·rw[bh.1 hp];exact⟨aB2,h⟩⟩
theorem anA{H:Int}{l:List dh}{o:bF}(h:yn o l 0=none):gh H l o tS=(tS,[]):=by
 have hr:mJ o l=(eA.zero,0,false):=by unfold mJ;rw[h]
 have e1:∀id,s9 o tS 0 false id=(tS,[]):=λid=>if_neg (show ¬Vj tS 0 false id=true from λh=>(by cases h))
 have e2:∀id,Ba o eA.zero 0 false id tS=(tS,[]):=λid=>if_neg (λh=>(by cases h))
 have e3:Tw o eA.zero 0 false H tS=(tS,[]):=if_neg (λh=>(by cases h));unfold gh;rw[if_neg (show ¬tS.2.2.2.2.1=true from λh=>(by cases h)),hr];simp only[e1,e2,e3,ba]
theorem aFT{nb:Nat}{bs:List dh}(x:jn)(h1:yn o1 (bs.take nb) 0=none):iK nb bs (An x)=(An (gh nb (bs.take nb) o0 x).1,(gh nb (bs.take nb) o0 x).2):=by
 have g0:od o0 (An x)=x:=by unfold od;rw[aTi];rfl
 have e0:lookW nb (bs.take nb) (An x,[]) o0=(An (gh nb (bs.take nb) o0 x).1,(gh nb (bs.take nb) o0 x).2):=by
  unfold lookW;rw[show(An x,([]:List yt)).1=An x from rfl,g0,aW7];split
  ·rename_i hf;rw[show gh nb (bs.take nb) o0 x=(x,[]) from if_pos hf]
  ·rfl
 unfold iK;rw[aSl,bA,bA,cY,e0];generalize gh nb (bs.take nb) o0 x=r;have g1:od o1 (An r.1)=tS:=by unfold od;rw[aU8];rfl
 unfold lookW;rw[show(An r.1,r.2).1=An r.1 from rfl,g1,if_neg (show ¬tS.2.2.2.2.1=true from λh=>(by cases h)),anA h1,aW8];show(An r.1,r.2++ [])=_;rw[ba]
theorem aPZ:Yf []:=⟨aJ _,λt ht=>(by cases ht)⟩
theorem aSi{K:Int}(hk:KW K):Yf [UW K]:=⟨by show 1<=_;decide,λt ht=>by
 rw[bh.1 ht];exact⟨(AB hk).2.1,il (jI (AB hk).1).1.2.1 (by decide)⟩⟩
section
variable {A0:At} {b nb n:Nat} {a:At} {s:List bW} {bs:List dh}
theorem amw(h:rk A0 b nb n a s bs)(hb:b<=400)(hn:nb<=900)(h1:yn o1 (bs.take nb) 0=none){x:jn}(hx:akV x):
  dL (O2 7 [] 0,nb,n,a,s,bs,An x)=some (.inl ((gh nb (bs.take nb) o0 x).2,nb,n,a,s,bs,An (gh nb (bs.take nb) o0 x).1)):=by
 have e7:mQ (O2 7 [] 0)=7:=by unfold mQ O2;decide
 rw[FG (d:=(O2 7 [] 0,nb,n,a,s,bs,An x)) ⟨⟨A0,b,h,hb⟩,hn,aPZ,aQA hx⟩];simp only[xt,e7,aHL,aFT x h1];rfl
theorem aOn(h:rk A0 b nb n a s bs){l:List dv}(hl:Yf l)(hb:b+l.length<=400)(hn:nb<=900){m:Wm}(hm:WG m){r:Int×Nat×Nat×At×List bW×List dh}(hr:mg (Ap ((nb:Int)+1) (rQ nb bs) l 0) nb (n,a,s) bs=r):
  dL (O2 0 l 0,nb,n,a,s,bs,m)=some (.inl ([],r.2.1,r.2.2.1,r.2.2.2.1,r.2.2.2.2.1,r.2.2.2.2.2,m)):=by
 have e7:mQ (O2 0 l 0)=0:=by show cG .and .i64 0 7=0;decide
 have eb:nth dR (BV (O2 0 l 0) nb bs) 0=Ap ((nb:Int)+1) (rQ nb bs) l 0:=by unfold BV;rw[if_pos (by rw[e7];decide)];rfl
 rw[FG (d:=(O2 0 l 0,nb,n,a,s,bs,m)) ⟨⟨A0,b,h,hb⟩,hn,hl,hm⟩];simp only[xt,e7,eb,hr];rfl
theorem aNW(h:rk A0 b nb n a s bs){c:dh}(hc:WT c)(hn:nb<=1000){nb' n':Nat}{a':At}{s':List bW}{bs':List dh}(e:mg c nb (n,a,s) bs=(0,nb',n',a',s',bs')){m':Nat}(hm:b+c.2.2.1.length<=m'):rk A0 m' nb' n' a' s' bs':=by
 rcases h.add hc hm hn with⟨e',he,e2⟩ | ⟨n2,a2,s2,e2,h2,_,_⟩
 ·rw[e]at e2;exact absurd (bo (λz=>z.1) e2).symm he
 ·rw[e]at e2;simp only[cE]at e2;obtain⟨_,rfl,rfl,rfl,rfl,rfl⟩:=e2;exact h2
end
def oF:dh:=Ap 1 adB [] 0
def E1(K:Int)(P1:Bs):dh:=Ap 2 P1 [UW K] 0
def C3(P1:Bs):dh:=Ap 2 P1 [] 0
def HA(K:Int)(P2:Bs):dh:=Ap 3 P2 [UW K] 0
theorem aCu{K:Int}(hk:KW K)(P1:Bs):AE 1 2 1 (BW K 2) [sW K] [oF,E1 K P1]=(1,0,AW K 0 0,[sW K],[oF,E1 K P1]):=by have ec:iX (BW K 2)=BW K 2:=aQS;have eu:=aXa hk 0 0 2;have e:xm [oF,E1 K P1] 1 (2,1,BW K 2,[sW K])=(1,0,xQ (BW K 2) (sW K),[sW K]):=rfl;unfold AE;rw[ec];show((xm [oF,E1 K P1] 1 (2,1,BW K 2,[sW K])).1,(xm [oF,E1 K P1] 1 (2,1,BW K 2,[sW K])).2.1,(xm [oF,E1 K P1] 1 (2,1,BW K 2,[sW K])).2.2.1,(xm [oF,E1 K P1] 1 (2,1,BW K 2,[sW K])).2.2.2,[oF,E1 K P1])=_;rw[e];show(1,0,xQ (BW K 2) (stepOf (UW K) (AW K 0 0)),[sW K],[oF,E1 K P1])=_;rw[eu]
theorem aUy{K:Int}(hk:KW K)(gC:¬mj (TW K)=adB){P1 P2:Bs}(hP:aqA oF=P1)(hQ:aqA (C3 P1)=P2)(h:rk (AW K 0 0) 1 2 1 (BW K 2) [sW K] [oF,E1 K P1]):
  lr (1,[C3 P1,HA K P2],2,1,BW K 2,[sW K],[oF,E1 K P1])=some (.inr (0,3,1,BW K 2,[sW K],[oF,E1 K P1],1,BW K 3,[sW K],[oF,C3 P1,HA K P2]))/\rk (AW K 0 0) 2 3 1 (BW K 3) [sW K] [oF,C3 P1,HA K P2]:=by
 have l1:P1.length=32:=by rw[<-hP];exact B8 _
 have l2:P2.length=32:=by rw[<-hQ];exact B8 _
 have v2:WT (C3 P1):=aTg (by decide) l1 aJm;have v3:WT (HA K P2):=aVO hk (by decide) l2 aJm;have e1:mg (C3 P1) 1 (0,AW K 0 0,[sW K]) [oF,E1 K P1]=(0,2,0,AW K 0 0,[sW K],[oF,C3 P1]):=aJA (h:=2) (p:=P1) (fill:=0) (nb:=1) (S:=(0,AW K 0 0,[sW K])) (bs:=[oF,E1 K P1]) hP.symm rfl (by decide) l1 aJm;have e2:mg (HA K P2) 2 (0,AW K 0 0,[sW K]) [oF,C3 P1]=(0,3,1,BW K 3,[sW K],[oF,C3 P1,HA K P2]):=aU5 hk gC (h:=3) (p:=P2) (nb:=2) (n:=0) (s:=[sW K]) (bs:=[oF,C3 P1]) hQ.symm rfl (by decide) l2;have hl:∀b∈ [C3 P1,HA K P2],WT b:=λb hb=>by
  rcases cd.1 hb with rfl | hb
  ·exact v2
  ·rw[bh.1 hb];exact v3
 have hF:js (1,[C3 P1,HA K P2],2,1,BW K 2,[sW K],[oF,E1 K P1])= .inr (0,3,1,BW K 2,[sW K],[oF,E1 K P1],1,BW K 3,[sW K],[oF,C3 P1,HA K P2]):=by
  have ek:jg [C3 P1,HA K P2] (1,0,AW K 0 0,[sW K],[oF,E1 K P1])=(0,3,1,BW K 3,[sW K],[oF,C3 P1,HA K P2]):=by rw[jg];show(if(mg (C3 P1) 1 (0,AW K 0 0,[sW K]) [oF,E1 K P1]).1≠0 then mg (C3 P1) 1 (0,AW K 0 0,[sW K]) [oF,E1 K P1] else jg [HA K P2] (mg (C3 P1) 1 (0,AW K 0 0,[sW K]) [oF,E1 K P1]).2)=_;rw[e1,if_neg (λh=>h rfl),jg];show(if(mg (HA K P2) 2 (0,AW K 0 0,[sW K]) [oF,C3 P1]).1≠0 then mg (HA K P2) 2 (0,AW K 0 0,[sW K]) [oF,C3 P1] else jg [] (mg (HA K P2) 2 (0,AW K 0 0,[sW K]) [oF,C3 P1]).2)=_;rw[e2,if_neg (λh=>h rfl)];rfl
  simp only[js];rw[if_pos ⟨by decide,by decide,by show(1:Int) < ((2:Nat):Int);decide⟩,if_pos (by decide),aCu hk P1,ek,if_neg (λh=>h rfl)]
 have key:lr (1,[C3 P1,HA K P2],2,1,BW K 2,[sW K],[oF,E1 K P1])=some (.inr (0,3,1,BW K 2,[sW K],[oF,E1 K P1],1,BW K 3,[sW K],[oF,C3 P1,HA K P2])):=by
  have aiQ:xp (1,[C3 P1,HA K P2],2,1,BW K 2,[sW K],[oF,E1 K P1]):=⟨h.ch,h.aUK (by decide),by show 2<=_;decide,λ_=>by
   rw[aCu hk P1];have sg:=aW3 hk;refine⟨⟨v2,sg,oV 1,by decide,h.ch.2.2⟩,λ_=> ?_⟩;show Ye [HA K P2] (mg (C3 P1) 1 (0,AW K 0 0,[sW K]) [oF,E1 K P1]).2;rw[e1];refine⟨⟨v3,sg,aTd (h.ch.2.2 oF (by simp)) v2.1⟩,λ_=>trivial⟩⟩
  rw[UY (d:=(1,[C3 P1,HA K P2],2,1,BW K 2,[sW K],[oF,E1 K P1])) aiQ,hF];rfl
 refine⟨key,?_⟩;rcases h.aHe 1 hl (by show 2<=400;decide) (by show 4<=1000;decide) with⟨e,_,h1⟩ | ⟨n',a',s',bs',h1,_,h2,_⟩
 ·rw[key]at h1;cases h1
 ·rw[key]at h1;simp only[az,Sum.inr.injEq,cE]at h1;obtain⟨_,_,_,_,_,_,rfl,rfl,rfl,rfl⟩:=h1;exact h2
def XI(l:List dh):Nat->List dh
 | 0=>l
 |j+1=>XI l j++ [Ap (((j+3:Nat):Int)+1) (rQ (j+3) (XI l j)) [] 0]
theorem XJ(l:List dh)(hl:l.length=3):∀j,(XI l j).length=j+3
 | 0=>by show l.length=0+3;omega
 |j+1=>by show(XI l j++ [_]).length=_;rw[ai,XJ l hl j];show j+3+1=_;omega
theorem arG{o:bF}(l:List dh):∀j,yn o (XI l j) 0=yn o l 0
 | 0=>rfl
 |j+1=>by
  show yn o (XI l j++ [_]) 0=_;rw[X8,arG l j]
  all_goals cases yn o l 0 <;> rfl
theorem aTh{A0:At}{b n:Nat}{a:At}{s:List bW}{l:List dh}(hl:l.length=3)(h:rk A0 b 3 n a s l):∀j,j<=100->rk A0 b (j+3) n a s (XI l j)
 | 0,_=>by rw[aN];exact h
 |j+1,hj=>by have ih:=aTh hl h j ak;have et:(XI l j).take (j+3)=XI l j:=aY (by rw[XJ l hl];exact ax _);have e:=aJA (h:=((j+3:Nat):Int)+1) (p:=rQ (j+3) (XI l j)) (fill:=0) (nb:=j+3) (S:=(n,a,s)) (bs:=XI l j) rfl rfl ak (BF _ _) aJm;rw[et]at e;have:=aNW ih (aTg (h:=((j+3:Nat):Int)+1) (p:=rQ (j+3) (XI l j)) (fill:=0) ak (BF _ _) aJm) ak e (ax _);rw[show j+3+1=j+1+3 by omega]at this;exact this
theorem aV0{A0:At}{b n:Nat}{a:At}{s:List bW}{l:List dh}(hl:l.length=3)(h:rk A0 b 3 n a s l)(hb:b<=400){m:Wm}(hm:WG m)(j:Nat)(hj:j<=100):
  dL (O2 0 [] 0,j+3,n,a,s,XI l j,m)=some (.inl ([],j+1+3,n,a,s,XI l (j+1),m)):=by
 have ih:=aTh hl h j hj;have et:(XI l j).take (j+3)=XI l j:=aY (by rw[XJ l hl];exact ax _);have e:=aJA (h:=((j+3:Nat):Int)+1) (p:=rQ (j+3) (XI l j)) (fill:=0) (nb:=j+3) (S:=(n,a,s)) (bs:=XI l j) rfl rfl ak (BF _ _) aJm;rw[et]at e;rw[aOn ih aPZ hb ak hm e,show j+3+1=j+1+3 by omega];rfl
theorem aSc{K:Int}(hk:KW K):Uh o0 [UW K]=some (UW K):=by rw[Uh,aSX hk,if_pos];show(Ty.beq bl o0 o0 || _)=true;rw[aQe];rfl
theorem aSd{K:Int}(hk:KW K):Uh o1 [UW K]=none:=by
 rw[Uh,aSX hk,if_neg]
 ·rfl
 ·intro h;have h:(ap4 o1 o0 || false)=true:=h;rw[Bool.or_false]at h;exact aUn ((qp _ _).1 h)
def HB(K:Int)(h:Int)(f:Bool):jn:=(true,(UW K,(mj (TW K),(h,(f,())))))
theorem acy{K:Int}(hk:KW K)(h:Int)(f:Bool):akV (HB K h f):=⟨(AB hk).2.1,λ_=>(AB hk).1⟩
theorem aFU{K:Int}(hk:KW K){l:List dh}{h H:Int}(hs:yn o0 l 0=some (UW K,h)):
  (H - h<=6->gh H l o0 tS=(HB K h false,[(1,(o0,(UW K,(h,()))))]))/\
  (∀h',h'≠h->H - h<=6->gh H l o0 (HB K h' false)=(HB K h false,[(2,(o0,(UW K,(h',())))),(1,(o0,(UW K,(h,()))))]))/\
  (6 < H - h->gh H l o0 (HB K h false)=(HB K h true,[(3,(o0,(UW K,(h,()))))])):=by
 have hr:mJ o0 l=(UW K,h,true):=by unfold mJ;rw[hs]
 have cX:=(AB hk).2.2.1;have e2:Ba o0 (UW K) h true (mj (TW K)) tS=(HB K h false,[(1,(o0,(UW K,(h,()))))]):=if_pos rfl;have e3:∀x:jn,H - h<=6->Tw o0 (UW K) h true H x=(x,[]):=λx hx=>if_neg (by rw[bu,cn ak];decide)
 refine⟨λhH=> ?_,λh' gC hH=> ?_,λhH=> ?_⟩
 ·have e1:s9 o0 tS h true (mj (TW K))=(tS,[]):=if_neg (show ¬Vj tS h true _=true from λh=>(by cases h));unfold gh;rw[if_neg (show ¬tS.2.2.2.2.1=true from λh=>(by cases h)),hr];simp only[cX,e1,e2,e3 _ hH,ba,aT]
 ·have e1:s9 o0 (HB K h' false) h true (mj (TW K))=(tS,[(2,(o0,(UW K,(h',()))))]):=if_pos (by
   unfold Vj;rw[show BY h (HB K h' false).2.2.2.1=true from fj (λe:h=h'=>gC e.symm)];rfl)
  unfold gh;rw[if_neg (show ¬(HB K h' false).2.2.2.2.1=true from λh=>(by cases h)),hr];simp only[cX,e1,e2,e3 _ hH,ba,gN,aT]
 ·have e1:s9 o0 (HB K h false) h true (mj (TW K))=(HB K h false,[]):=if_neg (by
   unfold Vj;rw[show BY h (HB K h false).2.2.2.1=false from dB rfl,show Ty.beq tH (mj (TW K)) (HB K h false).2.2.1=true by rw[aQX];exact fy rfl];show ¬(false=true);decide)
  have e2:Ba o0 (UW K) h true (mj (TW K)) (HB K h false)=(HB K h false,[]):=if_neg (λh=>(by cases h));have e3:Tw o0 (UW K) h true H (HB K h false)=(HB K h true,[(3,(o0,(UW K,(h,()))))]):=if_pos (by rw[bu];exact cR ak);unfold gh;rw[if_neg (show ¬(HB K h false).2.2.2.2.1=true from λh=>(by cases h)),hr];simp only[cX,e1,e2,e3,aT]
theorem aMs{x:jn}(hx:akV x)(h1:x.1=true):Kb.call (o0,An x)=some (An x,(x.2.1,(x.2.2.2.1,true))):=by
 have g0:od o0 (An x)=x:=by unfold od;rw[aTi];rfl
 rw[ahh (d:=(o0,An x)) (by show nT (od o0 (An x)).2.1;rw[g0];exact hx.1)];simp only[Uz,Yb,g0,h1,bG,TM hx.1 (hx.2 h1)]
theorem amN(o:bF)(m:Wm):tg.call (o,m)=some (m,(od o m).2.2.2.2.1):=ads (d:=(o,m)) trivial
theorem atS:jH.Ok:=by
 rintro⟨⟩ _;obtain⟨K,hK,hk,gC⟩:∃K:Int,(7:Int)=K/\KW K/\¬mj (TW K)=adB:=⟨7,rfl,⟨by decide,by decide⟩,aWW⟩;obtain⟨P1,hP⟩:∃x,aqA oF=x:=⟨_,rfl⟩;obtain⟨P2,hQ⟩:∃x,aqA (C3 P1)=x:=⟨_,rfl⟩;have l1:P1.length=32:=by rw[<-hP];exact B8 _
 have l2:P2.length=32:=by rw[<-hQ];exact B8 _
 have c1:G5.call 7=some (gg K):=by rw[hK];exact Eu (d:=K) ⟨by have:=hk.1;omega,by have:=hk.2;omega⟩
 have c2:anv.call (gg K)=some (LW K 0 0):=aFN (d:=gg K) trivial;have c3:=aUm K aNf aNf;have c4:adw.call ()=some []:=apY (d:=()) trivial;have c5:vp.call (TW K,0,0,[7],0)=some (UW K,0):=by rw[hK];exact aSa hk
 have c6:EZ.call (o1,[])=some [(o1,tS)]:=KT (d:=(o1,[])) trivial;have c7:EZ.call (o0,[(o1,tS)])=some (An tS):=by
  rw[KT (d:=(o0,[(o1,tS)])) trivial];have e1:bQ bl o0 [(o1,tS)]=none:=by rw[fu,if_neg (by rw[aQf];decide),qD]
  have e2:eF bl o0 tS [(o1,tS)]=An tS:=by rw[pI,if_neg (by rw[aQf];decide)];rfl
  simp only[bt,Yc,e1,e2];rfl
 have i0:rk (AW K 0 0) 0 0 0 (AW K 0 0) [] []:=rk.new (aU6 K aNf aNf);have a1:mg (Ap (((0:Nat):Int)+1) (rQ 0 []) [] 0) 0 (0,AW K 0 0,[]) []=(0,1,0,AW K 0 0,[],[oF]):=aJA (h:=1) (p:=adB) (fill:=0) (nb:=0) (S:=(0,AW K 0 0,[])) (bs:=[]) rfl rfl (by decide) b8 aJm;have i1:=aNW i0 (aTg (h:=1) (p:=adB) (fill:=0) (by decide) b8 aJm) (by decide) a1 (ax 0);have a2:mg (Ap (((1:Nat):Int)+1) (rQ 1 [oF]) [UW K] 0) 1 (0,AW K 0 0,[]) [oF]=(0,2,1,BW K 2,[sW K],[oF,E1 K P1]):=by have:=aU5 hk gC (h:=2) (p:=P1) (nb:=1) (n:=0) (s:=[]) (bs:=[oF]) hP.symm rfl (by decide) l1;rw[show rQ 1 [oF]=P1 from hP];exact this
 have i2:=aNW i1 (c:=Ap (((1:Nat):Int)+1) (rQ 1 [oF]) [UW K] 0) (aVO hk (by decide) (BF _ _) aJm) (by decide) a2 (show 0+1<=1 by decide);obtain⟨r3,i3⟩:=aUy hk gC hP hQ i2;have l3:([oF,C3 P1,HA K P2]:List dh).length=3:=rfl;have aWZ:yn o0 [oF,E1 K P1] 0=some (UW K,2):=by rw[yn,show Uh o0 oF.2.2.1=none from rfl,yn,show Uh o0 (E1 K P1).2.2.1=some (UW K) from aSc hk];rfl
 have aW1:yn o1 [oF,E1 K P1] 0=none:=by rw[yn,show Uh o1 oF.2.2.1=none from rfl,yn,show Uh o1 (E1 K P1).2.2.1=none from aSd hk];rfl
 have aVH:yn o0 [oF,C3 P1,HA K P2] 0=some (UW K,3):=by rw[yn,show Uh o0 oF.2.2.1=none from rfl,yn,show Uh o0 (C3 P1).2.2.1=none from rfl,yn,show Uh o0 (HA K P2).2.2.1=some (UW K) from aSc hk];rfl
 have aVI:yn o1 [oF,C3 P1,HA K P2] 0=none:=by rw[yn,show Uh o1 oF.2.2.1=none from rfl,yn,show Uh o1 (C3 P1).2.2.1=none from rfl,yn,show Uh o1 (HA K P2).2.2.1=none from aSd hk];rfl
 have d9:=amw i0 (by decide) (by decide) rfl WS;rw[show gh ((0:Nat):Int) (([]:List dh).take 0) o0 tS=(tS,[]) from anA rfl]at d9;have d10:=aOn i0 aPZ (by decide) (by decide) (aQA WS) a1;have d11:=aOn i1 (aSi hk) (show 0+1<=400 by decide) (by decide) (aQA WS) a2;have d12:=amw i2 (by decide) (by decide) aW1 WS;rw[(aFU hk (H:=((2:Nat):Int)) (l:=[oF,E1 K P1].take 2) aWZ).1 (by decide)]at d12;have d13:=aMs (acy hk 2 false) rfl;have d14:dL (O2 3 [UW K] 1,2,1,BW K 2,[sW K],[oF,E1 K P1],An (HB K 2 false))=some (.inr ([],3,1,BW K 2,[sW K],[oF,E1 K P1],An (HB K 2 false),1,BW K 3,[sW K],[oF,C3 P1,HA K P2])):=by
  have e7:mQ (O2 3 [UW K] 1)=3:=by show cG .and .i64 3 7=3;decide
  have eb:BV (O2 3 [UW K] 1) 2 [oF,E1 K P1]=[C3 P1,HA K P2]:=by unfold BV;rw[if_neg (by rw[e7];decide),if_pos ⟨by show(1:Int)<=1;decide,by show(1:Int)<=((2:Nat):Int);decide,by show(1:Int)<=8;decide⟩];show [Ap 2 (rQ 1 [oF,E1 K P1]) [] 0,Ap 3 (aqA (Ap 2 (rQ 1 [oF,E1 K P1]) [] 0)) [UW K] 0]=_;rw[show rQ 1 [oF,E1 K P1]=P1 from hP,show aqA (Ap 2 P1 [] 0)=P2 from hQ];rfl
  have er:ajY 1 [C3 P1,HA K P2] 2 1 (BW K 2) [sW K] [oF,E1 K P1]= .inr (0,3,1,BW K 2,[sW K],[oF,E1 K P1],1,BW K 3,[sW K],[oF,C3 P1,HA K P2]):=by unfold ajY;rw[r3];rfl
  rw[FG (d:=(O2 3 [UW K] 1,2,1,BW K 2,[sW K],[oF,E1 K P1],An (HB K 2 false))) ⟨⟨AW K 0 0,1,i2,by show 1+1<=400;decide⟩,by show 2<=900;decide,aSi hk,aQA (acy hk 2 false)⟩];simp only[xt,e7,eb];rw[show(O2 3 [UW K] 1).2.2.1=1 from rfl,er];rfl
 have d15:=amw i3 (by decide) (by decide) aVI (acy hk 2 false);rw[(aFU hk (H:=((3:Nat):Int)) (l:=[oF,C3 P1,HA K P2].take 3) aVH).2.1 2 (by decide) (by decide)]at d15;have dg:=λj hj=>aV0 l3 i3 (by decide) (aQA (acy hk 3 false)) j hj
 have i10:=aTh l3 i3 7 (by decide);have e10:(XI [oF,C3 P1,HA K P2] 7).take 10=XI [oF,C3 P1,HA K P2] 7:=aY (by rw[XJ _ l3];decide);have aW0:yn o0 ((XI [oF,C3 P1,HA K P2] 7).take 10) 0=some (UW K,3):=by rw[e10,arG];exact aVH
 have aVJ:yn o1 ((XI [oF,C3 P1,HA K P2] 7).take 10) 0=none:=by rw[e10,arG];exact aVI
 have d23:=amw i10 (by decide) (by decide) aVJ (acy hk 3 false);rw[(aFU hk (H:=((7+3:Nat):Int)) (l:=(XI [oF,C3 P1,HA K P2] 7).take (7+3)) aW0).2.2 (by decide)]at d23;have d24:=amw i10 (by decide) (by decide) aVJ (acy hk 3 true);rw[show gh ((7+3:Nat):Int) ((XI [oF,C3 P1,HA K P2] 7).take (7+3)) o0 (HB K 3 true)=(HB K 3 true,[]) from if_pos rfl]at d24;have dsame:MM.call (UW K,UW K)=some true:=(aBp (d:=(UW K,UW K)) (aHS (AB hk).1)).trans (bo some (fy rfl));have f0:tg.call (o0,An (HB K 3 true))=some (An (HB K 3 true),true):=by rw[amN];unfold od;rw[aTi];rfl
 have f1:tg.call (o1,An (HB K 3 true))=some (An (HB K 3 true),false):=by rw[amN];unfold od;rw[aU8];rfl
 have w1:wall.call (An (HB K 3 true))=some (2,An (HB K 3 true),[o0,o1]):=by rw[adp (d:=An (HB K 3 true)) ⟨by show 2<=_;decide,λp hp=>((aQA (acy hk 3 true)).2.2 p hp).1⟩];simp only[bt,aut,aSl];rfl
 have w2:R4.call (o0,An (HB K 3 true))=some [(o1,tS)]:=by
  rw[ahb (d:=(o0,An (HB K 3 true))) trivial];have:gT bl o0 (An (HB K 3 true))=[(o1,tS)]:=by unfold An;rw[vI,if_neg (by rw[aQf];decide),vI,if_pos aQe]
  simp only[bt,awx,this]
 have w3:∃y,Kb.call (o0,[(o1,tS)])=some ([(o1,tS)],y)/\y.2.2=false:=by
  have e1:bQ bl o0 [(o1,tS)]=none:=by rw[fu,if_neg (by rw[aQf];decide),qD]
  have g0:od o0 [(o1,tS)]=tS:=by unfold od;rw[e1];rfl
  refine⟨_,ahh (d:=(o0,[(o1,tS)])) (by show nT (od o0 [(o1,tS)]).2.1;rw[g0];exact v0),?_⟩;simp only[Yb,g0];rfl
 obtain⟨y3,w3,y3f⟩:=w3;have w4:∃l,wall.call [(o1,tS)]=some (1,[(o1,tS)],l):=⟨_,adp (d:=[(o1,tS)]) ⟨by show 1<=_;decide,λp hp=>by rw[bh.1 hp];exact aB2⟩⟩;obtain⟨l4,w4⟩:=w4;rw[atQ];refine(bo (λz=>al z _) c1).trans ?_
 rw[ah];refine(bo (λz=>al z _) c2).trans ?_
 rw[ah];refine(bo (λz=>al z _) c3).trans ?_
 rw[ah];simp only[dJ,ao,c9,ah];refine(bo (λz=>al z _) (c4)).trans ?_
 rw[ah];refine(bo (λz=>al z _) (c5)).trans ?_
 rw[ah];refine(bo (λz=>al z _) (c6)).trans ?_
 rw[ah];refine(bo (λz=>al z _) (c7)).trans ?_
 rw[ah];refine(bo (λz=>al (jK cT z) _) (d9)).trans ?_
 rw[oO,ah];refine(bo (λz=>al (jK cT z) _) (d10)).trans ?_
 rw[oO,ah];refine(bo (λz=>al (jK cT z) _) (d11)).trans ?_
 rw[oO,ah];refine(bo (λz=>al (jK cT z) _) (d12)).trans ?_
 rw[oO,ah];refine(bo (λz=>al z _) (d13)).trans ?_
 rw[ah];refine(bo (λz=>al (jK Sum.getRight? z) _) (d14)).trans ?_
 rw[aKY,ah];refine(bo (λz=>al (jK cT z) _) (d15)).trans ?_
 rw[oO,ah];refine(bo (λz=>al (jK cT z) _) (dg 0 (by decide))).trans ?_
 rw[oO,ah];refine(bo (λz=>al (jK cT z) _) (dg 1 (by decide))).trans ?_
 rw[oO,ah];refine(bo (λz=>al (jK cT z) _) (dg 2 (by decide))).trans ?_
 rw[oO,ah];refine(bo (λz=>al (jK cT z) _) (dg 3 (by decide))).trans ?_
 rw[oO,ah];refine(bo (λz=>al (jK cT z) _) (dg 4 (by decide))).trans ?_
 rw[oO,ah];refine(bo (λz=>al (jK cT z) _) (dg 5 (by decide))).trans ?_
 rw[oO,ah];refine(bo (λz=>al (jK cT z) _) (dg 6 (by decide))).trans ?_
 rw[oO,ah];refine(bo (λz=>al (jK cT z) _) (d23)).trans ?_
 rw[oO,ah];refine(bo (λz=>al (jK cT z) _) (d24)).trans ?_
 rw[oO,ah];have st:∀ {α:Type} {c:Bool} {x y z:Option α},c=true->x=z->aH c x y=z:=λh1 h2=>by rw[h1];exact h2
 have sf:∀ {α:Type} {c:Bool} {x y z:Option α},c=false->y=z->aH c x y=z:=λh1 h2=>by rw[h1];exact h2
 refine sf (dB rfl) (sf (dB rfl) (sf (dB rfl) (sf (dB rfl) (sf (dB rfl) ?_))));refine(bo (λz=>al z _) (?_:_=some (([(2,(o0,(UW K,(2,())))),(1,(o0,(UW K,(3,()))))],[(3,(o0,(UW K,(3,()))))],true,o0,An (HB K 3 true)):pV))).trans ?_
 ·refine st rfl (st (du rfl) (st rfl (st (du rfl) (st rfl (st aQe (st rfl ?_))))));refine(bo (λz=>al z _) dsame).trans ?_
  rw[ah];refine st rfl (st rfl ?_);exact(Lb _).trans rfl
 rw[ah];refine(bo (λz=>al z _) (?_:_=some ((true,true,o0,An (HB K 3 true)):pW))).trans ?_
 ·refine st rfl (st (du rfl) (st rfl (st (du rfl) (st rfl (st (du rfl) (st rfl (st (du rfl) (st rfl (st (du rfl) (st rfl (st (du rfl) ?_)))))))))));refine(bo (λz=>al z _) f0).trans ?_
  rw[ah];refine st rfl ?_
  refine(bo (λz=>al z _) f1).trans ?_
  rw[ah];exact(Lc _).trans rfl
 rw[ah];refine(bo (λz=>al z _) (w1)).trans ?_
 rw[ah];refine(bo (λz=>al z _) (w2)).trans ?_
 rw[ah];refine(bo (λz=>al z _) (w3)).trans ?_
 rw[ah];refine st rfl (st rfl (st (du rfl) (st rfl (st rfl (st aQe (st (by show(!y3.2.2)=true;rw[y3f];rfl) ?_))))));refine(bo (λz=>al z _) (w4)).trans ?_
 rw[ah];exact bo (λz=>some (jH.out z)) (du rfl)
theorem apl:jH.RS:=rE [] jH
def atT:=jH.eS atS 1 ⟨.none bY,trivial⟩
end
section
def aPX(l:List XA):At:=l.map λe=>(e.1,e.2.1)
theorem aIo(l:List XA):eC (aPX l)=l.map (·.1):=by unfold aPX eC;rw[List.map_map];rfl
def aVU(l:List XA):Prop:=l.Pairwise λx y=>¬HX y.1 x.1 < 0
structure Rl(a:At)(l:List XA):Prop where
 C7:akU a
 aW5:aVU l
 nd:(eC (aPX l)).Nodup
 eqv:th (aPX l) a
section
variable {a:At} {l:List XA}
theorem Rl.perm(h:Rl a l):(aPX l).Perm a:=h.eqv.perm h.nd h.C7.1
theorem Rl.aVX(h:Rl a l):akU (aPX l):=h.C7.perm h.perm.symm
theorem Rl.q(h:Rl a l):∀e∈l,Le e.1:=λe he=>(h.aVX.2 (e.1,e.2.1) (cS.2 ⟨e,he,rfl⟩)).1
theorem Rl.len(h:Rl a l):l.length=a.length:=by have:=h.perm.length_eq;unfold aPX at this;rwa[bU]at this
theorem Rl.all(h:Rl a l):l.map (·.1)=aS7 a:=by
 have hq:∀x∈eC a,Le x:=λx hx=>by obtain⟨p,hp,rfl⟩:=cS.1 hx;exact(h.C7.2 p hp).1
 refine Gt Eb hq (λx hx y hy a b=>Fm (hq x hx) (hq y hy) a b) ⟨?_,?_⟩
 ·rw[<-aIo];exact h.perm.map _
 ·exact List.pairwise_map.2 h.aW5
end
end
structure MZ(m:Wm)(f:bF->Prop):Prop where
 asu:(m.map (·.1)).Nodup
 get:∀o,(f o/\bQ bl o m=some tS)\/(¬f o/\bQ bl o m=none)
 aB2:∀p∈m,Le p.1
theorem MZ.want{m:Wm}{f:bF->Prop}(h:MZ m f){o:bF}(ho:Le o):MZ (Hp o m) (λx=>x=o\/f x)/\(Hp o m).length<=m.length+1:=by
 unfold Hp;rcases h.get o with⟨h1,h2⟩ | ⟨h1,h2⟩
 ·rw[h2];refine⟨⟨h.asu,λx=> ?_,h.aB2⟩,oV _⟩;rcases h.get x with⟨h3,h4⟩ | ⟨h3,h4⟩
  ·exact .inl ⟨.inr h3,h4⟩
  ·refine .inr ⟨λe=> ?_,h4⟩;rcases e with rfl | e
   ·exact h3 h1
   ·exact h3 e
 ·rw[h2];refine⟨⟨Cv eM h.asu,λx=> ?_,λp hp=> ?_⟩,?_⟩
  ·have hg:bQ bl x (eF bl o tS m)=_:=zq eM x o tS m;show(_/\bQ bl x (eF bl o tS m)=some tS)\/_/\bQ bl x (eF bl o tS m)=none;rw[hg];by_cases e:x=o
   ·rw[if_pos ((qp _ _).2 e)];exact .inl ⟨.inl e,rfl⟩
   ·rw[if_neg (λhb=>e ((qp _ _).1 hb))];rcases h.get x with⟨h3,h4⟩ | ⟨h3,h4⟩
    ·exact .inl ⟨.inr h3,h4⟩
    ·exact .inr ⟨λe'=>e'.elim e h3,h4⟩
  ·rcases TD hp with rfl | hp
   ·exact ho
   ·exact h.aB2 p hp
  ·show(eF bl o tS m).length<=_;unfold eF;split
   ·rw[rU];exact oV _
   ·rw[ai];exact ax _
theorem MZ.drop{m:Wm}{f:bF->Prop}(h:MZ m f)(o:bF):MZ (gT bl o m) (λx=>¬x=o/\f x)/\(gT bl o m).length<=m.length:=by
 have sub:(gT bl o m).Sublist m:=by
  unfold gT;split
  ·exact List.eraseIdx_sublist _ _
  ·exact List.Sublist.refl _
 refine⟨⟨Cu eM h.asu,λx=> ?_,λp hp=>h.aB2 p (sub.subset hp)⟩,sub.length_le⟩;have hg:bQ bl x (gT bl o m)=_:=aiI eM x o h.asu;rw[hg];by_cases e:x=o
 ·rw[if_pos ((qp _ _).2 e)];exact .inr ⟨λe'=>e'.1 e,rfl⟩
 ·rw[if_neg (λhb=>e ((qp _ _).1 hb))];rcases h.get x with⟨h3,h4⟩ | ⟨h3,h4⟩
  ·exact .inl ⟨⟨e,h3⟩,h4⟩
  ·exact .inr ⟨λe'=>h3 e'.2,h4⟩
theorem MZ.ext{m:Wm}{f g:bF->Prop}(h:MZ m f)(e:∀o,f o↔g o):MZ m g:=⟨h.asu,λo=>by rw[<-e o];exact h.get o,h.aB2⟩
def O3(a:KV)(m:Wm):Wm:=if mQ a=5 then Hp a.2.2.2.1 m else m
def aJy(a:KV):Prop:=a.2.1.length<=4/\Yf a.2.1/\Le a.2.2.2.1
theorem aIk{nb d:Nat}{bs l bs':List dh}{K:Nat}(hd:d<=6)(hK:nb - 6<=K)(hl:nb<=bs.length)(e:bs'.take K=bs.take (nb - d)++l):bs'.take (nb - 6)=bs.take (nb - 6):=by
 have h1:(bs'.take K).take (nb - 6)=bs'.take (nb - 6):=by rw[eJ,dU hK]
 rw[<-h1,e,fh (by rw[bp];omega),eJ,dU ak]
theorem aCh{A0:At}{b nb n:Nat}{at':At}{s:List bW}{bs:List dh}{m:Wm}(h:rk A0 b nb n at' s bs)(a:KV)(ha:aJy a)(hb:b+4<=400)(aE1:nb<=900)(hw:WG m)(h6:mQ a<=5):
  ∃nb' n' at2 s' bs',rk A0 (b+4) nb' n' at2 s' bs'/\nb<=nb'/\nb'<=nb+9/\bs'.take (nb - 6)=bs.take (nb - 6)/\
   ∀ {β:Type} (g:Nat->Nat->At->List bW->List dh->Wm->Option β),
    (al (dL (a,nb,n,at',s,bs,m)) λx=>aH x.isLeft (al x.getLeft? λy=>g y.2.1 y.2.2.1 y.2.2.2.1 y.2.2.2.2.1 y.2.2.2.2.2.1 y.2.2.2.2.2.2)
     (al x.getRight? λy=>g y.2.1 y.2.2.2.2.2.2.2.1 y.2.2.2.2.2.2.2.2.1 y.2.2.2.2.2.2.2.2.2.1 y.2.2.2.2.2.2.2.2.2.2 y.2.2.2.2.2.2.1))=g nb' n' at2 s' bs' (O3 a m):=by
 obtain⟨a4,ht,hq⟩:=ha;obtain⟨g1,g2,g3,g4⟩:=aCT ht (nb:=nb) ak bs;have hle:nb<=bs.length:=h.ch.1;have iO:=FG (d:=(a,nb,n,at',s,bs,m)) ⟨⟨A0,b,h,by show b+a.2.1.length<=400;omega⟩,aE1,ht,hw⟩;simp only[FF,xt]at iO
 have same:dL (a,nb,n,at',s,bs,m)=some (.inl ([],nb,n,at',s,bs,O3 a m))->∃nb' n' at2 s' bs',rk A0 (b+4) nb' n' at2 s' bs'/\nb<=nb'/\nb'<=nb+9/\bs'.take (nb - 6)=bs.take (nb - 6)/\
   ∀ {β:Type} (g:Nat->Nat->At->List bW->List dh->Wm->Option β),
    (al (dL (a,nb,n,at',s,bs,m)) λx=>aH x.isLeft (al x.getLeft? λy=>g y.2.1 y.2.2.1 y.2.2.2.1 y.2.2.2.2.1 y.2.2.2.2.2.1 y.2.2.2.2.2.2)
     (al x.getRight? λy=>g y.2.1 y.2.2.2.2.2.2.2.1 y.2.2.2.2.2.2.2.2.1 y.2.2.2.2.2.2.2.2.2.1 y.2.2.2.2.2.2.2.2.2.2 y.2.2.2.2.2.2.1))=g nb' n' at2 s' bs' (O3 a m):=λe=>
  ⟨nb,n,at',s,bs,h.mono (j5 _ _),ax _,j5 _ _,rfl,λg=>by rw[e];rfl⟩
 have hM:¬mQ a=5->O3 a m=m:=λc=>if_neg c
 cases h3:aPb (mQ a) with
 |true=>
  rw[h3]at iO;simp only[bG]at iO;have hv:mQ a < 3:=by unfold aPb qY at h3;simp only[fW,dw]at h3;rcases h3 with h3 | h3 | h3 <;> rw[h3] <;> decide
  have aEZ:nth dR (BV a nb bs) 0∈BV a nb bs:=by rw[cg (t:=dR) (show 0 < (BV a nb bs).length by rw[g4 hv];decide)];exact aO _
  have hlen:=apD aEZ;rcases h.add (g1 _ aEZ) (m':=b+4) ak ak with⟨e,_,e1⟩ | ⟨n',a',s',e1,h2,_⟩
  ·rw[e1]at iO;refine same ?_
   rw[hM ak];exact iO
  ·rw[e1]at iO;refine⟨nb+1,n',a',s',_,h2,j5 _ _,ak,?_,λg=> ?_⟩
   ·rw[fh (by rw[bp];omega),eJ,dU ak]
   ·rw[iO,hM ak];rfl
 |false=>
  rw[h3]at iO;simp only[bn,bq]at iO;cases h4:aRV (mQ a) with
  |true=>
   rw[h4]at iO;simp only[bG]at iO;have hv:¬mQ a=5:=by
    intro e;rw[e]at h4
    revert h4
    decide
   unfold ajY at iO;rcases h.aHe a.2.2.1 g1 ak ak with⟨e,_,e1⟩ | ⟨n',a',s',bs',e1,⟨d1,d2,d3,d4⟩,h2,e2⟩
   ·rw[e1]at iO;refine same ?_
    rw[hM hv];exact iO
   ·rw[e1]at iO;refine⟨_,n',a',s',bs',h2.mono ak,ak,ak,aIk (d:=a.2.2.1.toNat) ak ak hle e2,λg=> ?_⟩;rw[iO,hM hv];rfl
  |false=>
   rw[h4]at iO;simp only[bn,bq]at iO;refine same ?_
   rw[iO];unfold aHL O3;by_cases c5:mQ a=5
   ·rw[if_pos c5,if_pos c5]
   ·rw[if_neg c5,if_neg ak,if_neg ak,if_neg c5]
theorem aHZ{o:bF}{nb nb':Nat}{bs bs':List dh}{x:dv×Int}(e:yn o (bs.take nb) 0=some x)(hx:x.2+6 < nb)(hn:nb<=nb')(hp:bs'.take (nb - 6)=bs.take (nb - 6)):yn o (bs'.take nb') 0=some x:=by
 have h1:=aH0 e (k:=nb - 6) ak;rw[eJ,dU ak]at h1;have e2:bs'.take nb'=bs.take (nb - 6)++(bs'.take nb').drop (nb - 6):=by have h:=dq (nb - 6) (bs'.take nb');rw[eJ,dU ak,hp]at h;exact h.symm
 rw[e2,X8,h1]
def arv(q:bF)(l:List yt):List yt:=l.filter λe=>Ty.beq bl e.2.1 q
theorem avk(q:bF)(l l':List yt):arv q (l++l')=arv q l++arv q l':=List.filter_append _ _
theorem aKH{q:bF}{l:List yt}(h:∀e∈l,e.2.1=q):arv q l=l:=iv.2 λe he=>(qp _ _).2 (h e he)
theorem aEt{q o:bF}{l:List yt}(h:∀e∈l,e.2.1=o)(hq:¬o=q):arv q l=[]:=List.filter_eq_nil_iff.2 λe he hb=>hq ((h e he).symm.trans ((qp _ _).1 hb))
theorem aan{H:Int}{l:List dh}{o:bF}{x:jn}:∀e∈(gh H l o x).2,e.2.1=o:=by
 unfold gh;split
 ·intro e he;cases he
 ·intro e he;simp only[bB]at he;rcases he with(he | he) | he
  ·unfold s9 at he;split at he
   ·rw[bh]at he;subst he;rfl
   ·cases he
  ·unfold Ba at he;split at he
   ·rw[bh]at he;subst he;rfl
   ·cases he
  ·unfold Tw at he;split at he
   ·rw[bh]at he;subst he;rfl
   ·cases he
theorem ay3{H:Int}{l:List dh}{o:bF}{x:jn}(hx:nT x.2.1)(hv:nT (mJ o l).1):∀e∈(gh H l o x).2,nT e.2.2.1:=by
 unfold gh;split
 ·intro e he;cases he
 ·intro e he;simp only[bB]at he;rcases he with(he | he) | he
  ·unfold s9 at he;split at he
   ·rw[bh]at he;subst he;exact hx
   ·cases he
  ·unfold Ba at he;split at he
   ·rw[bh]at he;subst he;exact hv
   ·cases he
  ·unfold Tw at he;split at he
   ·rw[bh]at he;subst he;exact hv
   ·cases he
theorem aaD{o:bF}{v:jn}:∀ {m:Wm} {x:jn},bQ bl o m=some x->(eF bl o v m).map (·.1)=m.map (·.1)
 |[],x,h=>by rw[qD]at h;cases h
 |p::l,x,h=>by
  rw[fu]at h;rw[pI];split at h
  ·rename_i hb;rw[if_pos hb,bP,bP,(qp _ _).1 hb]
  ·rename_i hb;rw[if_neg hb,bP,bP,aaD h]
theorem asd{H:Int}{l:List dh}{S:Wm×List yt}{o:bF}{x:jn}(hg:bQ bl o S.1=some x):
  (∀q,bQ bl q (lookW H l S o).1=if q=o then some (gh H l o x).1 else bQ bl q S.1)/\(lookW H l S o).2=S.2++(gh H l o x).2/\(lookW H l S o).1.map (·.1)=S.1.map (·.1):=by
 have hw:od o S.1=x:=by unfold od;rw[hg];rfl
 unfold lookW;rw[hw];split
 ·rename_i hf;have e:gh H l o x=(x,[]):=by unfold gh;rw[if_pos hf]
  rw[e];refine⟨λq=> ?_,(ba _).symm,rfl⟩;by_cases hq:q=o
  ·rw[if_pos hq,hq,hg]
  ·rw[if_neg hq]
 ·refine⟨λq=> ?_,rfl,aaD hg⟩;show bQ bl q (eF bl o _ S.1)=_;rw[zq eM];by_cases hq:q=o
  ·rw[if_pos ((qp _ _).2 hq),if_pos hq]
  ·rw[if_neg (λh=>hq ((qp _ _).1 h)),if_neg hq]
theorem Tz{H:Int}{l:List dh}:∀(ks:List bF) {S:Wm×List yt},ks.Nodup->(∀o∈ks,(bQ bl o S.1).isSome=true)->
  (ks.foldl (lookW H l) S).1.map (·.1)=S.1.map (·.1)/\∀q x,bQ bl q S.1=some x->bQ bl q (ks.foldl (lookW H l) S).1=some (if q∈ks then(gh H l q x).1 else x)/\arv q (ks.foldl (lookW H l) S).2=arv q S.2++(if q∈ks then(gh H l q x).2 else [])
 |[],S,_,_=>⟨rfl,λq x h=>⟨by rw[if_neg (λh=>by cases h)];exact h,by rw[if_neg (λh=>by cases h),ba];rfl⟩⟩
 |o::ks,S,hn,hs=>by
  obtain⟨aWy,aJp⟩:=cU.1 hn;obtain⟨y,hy⟩:=bN.1 (hs o aL);obtain⟨h1,h2,h3⟩:=asd (H:=H) (l:=l) hy;have hs':∀o'∈ks,(bQ bl o' (lookW H l S o).1).isSome=true:=λo' ho'=>by
   rw[h1];split
   ·rfl
   ·exact hs o' (aI _ ho')
  obtain⟨g1,g2⟩:=Tz (H:=H) (l:=l) ks aJp hs';rw[bA];refine⟨g1.trans h3,λq x hq=> ?_⟩;by_cases e:q=o
  ·subst e;obtain rfl:y=x:=by rw[hq]at hy;exact(bk hy).symm
   obtain⟨k1,k2⟩:=g2 q (gh H l q y).1 (by rw[h1,if_pos rfl]);rw[if_neg aWy]at k1 k2;rw[k1,k2,if_pos aL,if_pos aL,h2,avk,aKH aan,ba];exact⟨rfl,rfl⟩
  ·obtain⟨k1,k2⟩:=g2 q x (by rw[h1,if_neg e];exact hq);rw[k1,k2,h2,avk,aEt aan (λh=>e h.symm),ba];by_cases hm:q∈ks
   ·rw[if_pos hm,if_pos hm,if_pos (aI _ hm),if_pos (aI _ hm)];exact⟨rfl,rfl⟩
   ·have aTK:¬q∈o::ks:=λh=>by rcases cd.1 h with h | h;exact e h;exact hm h
    rw[if_neg hm,if_neg hm,if_neg aTK,if_neg aTK];exact⟨rfl,rfl⟩
theorem awz{m:Wm}(hm:WG m):(J9 m).Nodup/\(∀o∈J9 m,(bQ bl o m).isSome=true)/\∀q x,bQ bl q m=some x->q∈J9 m:=by
 obtain⟨_,hn,hq⟩:=hm;have hp:=Ux λp hp=>(hq p hp).1
 refine⟨hp.symm.nodup_iff.1 hn,λo ho=> ?_,λq x hg=> ?_⟩
 ·obtain⟨p,aJq,XN⟩:=cS.1 (hp.mem_iff.1 ho);have:=(j8 eM hn (x:=p.1) (v:=p.2)).2 aJq;rw[<-XN,this];rfl
 ·exact hp.mem_iff.2 (cS.2 ⟨(q,x),(j8 eM hn).1 hg,rfl⟩)
theorem asc{nb:Nat}{bs:List dh}{m:Wm}(hm:WG m){q:bF}{x:jn}(hg:bQ bl q m=some x):
  bQ bl q (iK nb bs m).1=some (gh nb (bs.take nb) q x).1/\arv q (iK nb bs m).2=(gh nb (bs.take nb) q x).2:=by
 obtain⟨h1,h2,h3⟩:=awz hm;obtain⟨k1,k2⟩:=(Tz (H:=nb) (l:=bs.take nb) (J9 m) (S:=(m,[])) h1 h2).2 q x hg;rw[if_pos (h3 q x hg)]at k1 k2;exact⟨k1,k2⟩
theorem aFV{A0:At}{b nb n:Nat}{a:At}{s:List bW}{bs:List dh}(h:rk A0 b nb n a s bs)(H:Int):∀(ks:List bF) {S:Wm×List yt},(∀p∈S.1,akV p.2)->(∀e∈S.2,nT e.2.2.1)->
  (∀p∈(ks.foldl (lookW H (bs.take nb)) S).1,akV p.2)/\(∀e∈(ks.foldl (lookW H (bs.take nb)) S).2,nT e.2.2.1)/\(ks.foldl (lookW H (bs.take nb)) S).2.length<=S.2.length+3*ks.length
 |[],S,h1,h2=>⟨h1,h2,ax _⟩
 |o::ks,S,h1,h2=>by
  obtain⟨g1,g2⟩:=avK h H o (m:=S.1) S.2 h1;have g3:∀e∈(lookW H (bs.take nb) S o).2,nT e.2.2.1:=by
   unfold lookW;split
   ·exact h2
   ·intro e he;rcases bB.1 he with he | he
    ·exact h2 e he
    ·exact ay3 (arF h1 o).1 (atV h o).1 e he
  obtain⟨k1,k2,k3⟩:=aFV h H ks (S:=lookW H (bs.take nb) S o) g1 g3;rw[bA,aA];have g2:(lookW H (bs.take nb) S o).2.length<=S.2.length+3:=g2;exact⟨k1,k2,ak⟩
theorem ay1{A0:At}{b nb n:Nat}{a:At}{s:List bW}{bs:List dh}(h:rk A0 b nb n a s bs){m:Wm}(hm:WG m):
  WG (iK nb bs m).1/\(∀e∈(iK nb bs m).2,nT e.2.2.1)/\(iK nb bs m).2.length<=3000/\(iK nb bs m).1.length=m.length:=by
 obtain⟨h1,h2,h3⟩:=awz hm;obtain⟨hl,hn,hq⟩:=hm;obtain⟨k1,k2,k3⟩:=aFV h nb (J9 m) (S:=(m,[])) (λp hp=>(hq p hp).2) (λe he=>by cases he);have ek:=(Tz (H:=nb) (l:=bs.take nb) (J9 m) (S:=(m,[])) h1 h2).1;have hlen:(J9 m).length=m.length:=by rw[(Ux λp hp=>(hq p hp).1).length_eq,bU]
 have el:(iK nb bs m).1.length=m.length:=by have:=bo ag ek;rw[bU,bU]at this;exact this
 have ek:(iK nb bs m).1.map (·.1)=m.map (·.1):=ek;refine⟨⟨by rw[el];exact hl,by rw[ek];exact hn,λp hp=>⟨?_,k1 p hp⟩⟩,k2,?_,el⟩
 ·have:p.1∈m.map (·.1):=by rw[<-ek];exact cS.2 ⟨p,hp,rfl⟩
  obtain⟨p',aJq,XN⟩:=cS.1 this;rw[<-XN];exact(hq p' aJq).1
 ·have k3:(iK nb bs m).2.length<=0+3*(J9 m).length:=k3;omega
theorem aIO{m:Wm}(hm:WG m)(hl:m.length < 1000){o:bF}(ho:Le o):
  WG (Hp o m)/\(Hp o m).length<=m.length+1/\(∀q x,bQ bl q m=some x->bQ bl q (Hp o m)=some x)/\∃x,bQ bl o (Hp o m)=some x/\(bQ bl o m=none->x=tS):=by
 obtain⟨_,hn,hq⟩:=hm;unfold Hp;split
 ·rename_i hs;obtain⟨x,hx⟩:=bN.1 hs;exact⟨⟨Nat.le_of_lt hl,hn,hq⟩,j5 _ _,λ_ _ h=>h,x,hx,λh=>by rw[hx]at h;cases h⟩
 ·rename_i hs;have hg:bQ bl o m=none:=by
   cases e:bQ bl o m with
   |none=>rfl
   |some y=>rw[e]at hs;exact absurd rfl hs
  have hf:=xB (v:=tS) eM ((get_none eM hn).1 hg);refine⟨⟨?_,Cv eM hn,λp hp=> ?_⟩,?_,λq x h=> ?_,tS,?_,λ_=>rfl⟩
  ·rw[hf,ai];exact hl
  ·rcases TD hp with rfl | hp
   ·exact⟨ho,WS⟩
   ·exact hq p hp
  ·rw[hf,ai];exact ax _
  ·rw[zq eM,if_neg (λhb=>by rw[(qp _ _).1 hb,hg]at h;cases h)];exact h
  ·rw[zq eM,if_pos ((qp _ _).2 rfl)]
theorem aNV{a:KV}{m:Wm}(hm:WG m)(hl:m.length < 1000)(ho:Le a.2.2.2.1):
  WG (O3 a m)/\(O3 a m).length<=m.length+1/\∀q x,bQ bl q m=some x->bQ bl q (O3 a m)=some x:=by
 unfold O3;split
 ·obtain⟨h1,h2,h3,_⟩:=aIO hm hl ho;exact⟨h1,h2,h3⟩
 ·exact⟨hm,j5 _ _,λ_ _ h=>h⟩
abbrev xR:=(List KV)×bF×Bool×Bool×Int×Int×Nat×Nat×(List (bF×dQ))×(List bW)×(List dh)×(List (bF×jn))×Bs
def je:xR->AS:=λ(AA,asz,head,final,atv,i,VP,Cw,n129,IA,IB,IC,F2)=>⟨([bE,.d (.slice yz) AA,bE,bE,bE,.dD bl asz,bE,.d .bool head,eT 129,.ptr (.new 129 5) 0 [] 0,.d .bool final,.ptr (.new 129 7) 0 [] 0,.d ti atv,.d ti i]++aP 116 []),[],(bM 129 [[.obj 0 false (.pr (.ptr (.new 129 1) 0 [] 0) (.pr (.bz (.new 129 4) 0 [] 0 0 VP) fP)),.obj 0 false (.pr (.ct (.new 129 2) 0) (.pr (.bz (.new 129 3) 0 [] 0 0 Cw) fP)),.obj 0 false (.mp bl eQ n129),.obj 0 false (.vec 256 cD IA),.obj 0 false (.vec 48 dR IB),.obj 0 false (.pr (.ct (.new 129 6) 0) fP),.obj 0 false (.mp bl l7 IC),.obj 0 false (.d tH F2)]])⟩
def eR:Unit->Exit×AS:=λx=>(.ret,⟨(aP 6 ([.d .bool false]++aP 123 [])),[],(ab 130 [])⟩)
def xg:Bool->Exit×AS:=λx=>(.exit 0,⟨(aP 7 ([.d .bool x]++aP 122 [])),[],(ab 130 [])⟩)
abbrev J3:=(Unit)⊕(Bool)
abbrev WO:=(Unit)⊕(Bool)
def DT:J3->Out (Exit×AS):=λx=> .br x.isLeft (.get x.getLeft? λa=> .ok (eR a)) (.get x.getRight? λb=> .ok (xg b))
def xf:xR->WO->J3:=λ(AA,asz,head,final,atv,i,VP,Cw,n129,IA,IB,IC,F2) y=>match y with | .inl y=> .inl y | .inr z=> .inr (z)
abbrev xS:=(List KV)×bF×Bool×Bool×Int×Int×Nat×Int×Nat×Nat×(List (bF×dQ))×(List bW)×(List dh)×(List (bF×jn))×Bs×(List yt)
def iu:xS->AS:=λ(CV,aGm,C9,zp,UE,fL,lL,kv,wE,wF,Df,Dg,Dh,Di,Cx,kK)=>⟨([bE,.d (.slice yz) CV,bE,bE,bE,.dD bl aGm,bE,.d .bool C9,eT 129,.ptr (.new 129 5) 0 [] 0,.d .bool zp,.ptr (.new 129 7) 0 [] 0,.d ti UE,.d ti fL,bE,.bz (.new 129 8) 0 [] 0 0 lL,.d ti kv]++aP 113 []),[],(bM 129 [[.obj 0 false (.pr (.ptr (.new 129 1) 0 [] 0) (.pr (.bz (.new 129 4) 0 [] 0 0 wE) fP)),.obj 0 false (.pr (.ct (.new 129 2) 0) (.pr (.bz (.new 129 3) 0 [] 0 0 wF) fP)),.obj 0 false (.mp bl eQ Df),.obj 0 false (.vec 256 cD Dg),.obj 0 false (.vec 48 dR Dh),.obj 0 false (.pr (.ct (.new 129 6) 0) fP),.obj 0 false (.mp bl l7 Di),.obj 0 false (.d tH Cx),.obj 0 false (.vec 65 EX kK)]])⟩
def oE:Unit->Exit×AS:=λx=>(.ret,⟨(aP 6 ([.d .bool false]++aP 123 [])),[],(ab 130 [])⟩)
abbrev R7:=((List KV)×bF×Bool×Int×Nat×Nat×(List (bF×dQ))×(List bW)×(List dh)×(List (bF×jn))×(List yt))×(Bool×Int×Bs)
def xh:R7->Exit×AS:=λx=>(.exit 2,⟨([bE,.d (.slice yz) x.1.1,bE,bE,bE,.dD bl x.1.2.1,bE,.d .bool x.1.2.2.1,eT 129,.ptr (.new 129 5) 0 [] 0,.d .bool x.2.1,.ptr (.new 129 7) 0 [] 0,.d ti x.2.2.1,.d ti x.1.2.2.2.1]++aP 116 []),[],(bM 129 [[.obj 0 false (.pr (.ptr (.new 129 1) 0 [] 0) (.pr (.bz (.new 129 4) 0 [] 0 0 x.1.2.2.2.2.1) fP)),.obj 0 false (.pr (.ct (.new 129 2) 0) (.pr (.bz (.new 129 3) 0 [] 0 0 x.1.2.2.2.2.2.1) fP)),.obj 0 false (.mp bl eQ x.1.2.2.2.2.2.2.1),.obj 0 false (.vec 256 cD x.1.2.2.2.2.2.2.2.1),.obj 0 false (.vec 48 dR x.1.2.2.2.2.2.2.2.2.1),.obj 0 false (.pr (.ct (.new 129 6) 0) fP),.obj 0 false (.mp bl l7 x.1.2.2.2.2.2.2.2.2.2.1),.obj 0 false (.d tH x.2.2.2),.obj 0 false (.vec 65 EX x.1.2.2.2.2.2.2.2.2.2.2)]])⟩)
abbrev J6:=(Unit)⊕(R7)
abbrev WR:=(Unit)⊕((Bool×Int×Bs))
def DU:J6->Out (Exit×AS):=λx=> .br x.isLeft (.get x.getLeft? λa=> .ok (oE a)) (.get x.getRight? λb=> .ok (xh b))
def oD:xS->WR->J6:=λ(CV,aGm,C9,zp,UE,fL,lL,kv,wE,wF,Df,Dg,Dh,Di,Cx,kK) y=>match y with | .inl y=> .inl y | .inr z=> .inr (((CV,aGm,C9,fL,wE,wF,Df,Dg,Dh,Di,kK),z))
abbrev xd:=(List KV)×bF×Bool×Bool×Int×Int×Nat×Nat×(List (bF×dQ))×(List bW)×(List dh)×(List (bF×jn))×Bs
def J2:xd->AS:=λ(acts,o,head,final,atv,i,VP,Cw,n129,IA,IB,IC,F2)=>⟨([bE,.d (.slice yz) acts,bE,bE,bE,.dD bl o,bE,.d .bool head,eT 129,.ptr (.new 129 5) 0 [] 0,.d .bool final,.ptr (.new 129 7) 0 [] 0,.d ti atv,.d ti i]++aP 116 []),[],(bM 129 [[.obj 0 false (.pr (.ptr (.new 129 1) 0 [] 0) (.pr (.bz (.new 129 4) 0 [] 0 0 VP) fP)),.obj 0 false (.pr (.ct (.new 129 2) 0) (.pr (.bz (.new 129 3) 0 [] 0 0 Cw) fP)),.obj 0 false (.mp bl eQ n129),.obj 0 false (.vec 256 cD IA),.obj 0 false (.vec 48 dR IB),.obj 0 false (.pr (.ct (.new 129 6) 0) fP),.obj 0 false (.mp bl l7 IC),.obj 0 false (.d tH F2)]])⟩
def MQ:oU:=oU.of {aV:=[1,5,7,8,9,10,11,12,13],sites:=[11,14,17,20,22,23,26,37,56,59,85,94,109,116,126,129],aKT:=some 129} J2
def yr:xd->Option xd:=λx=>(MQ).avC .normal (J2 x)
theorem OT(x:xd):yr x=some x:=oU.F5 (jk [.d (.slice yz),.d bl,.d .bool,.d .bool,.d ti,.d ti,.n,.n,.d (.slice (.pair bl eQ)),.d (.slice cD),.d (.slice dR),.d (.slice (.pair bl l7)),.d tB] λ_=>bY) x
abbrev apS:=(List gf)×(List KV)×bF
def xv(o:bF):Bool×Int×Bs->List yt->Option (Bool×Int×Bs)
 |S,[]=>some S
 |S,e::l=>if Ty.beq bl e.2.1 o=true then(if S.1=true then none else if e.1=3 then xv o (true,e.2.2.2.1,mj e.2.2.1) l else xv o S l) else xv o S l
theorem Qb(o:bF):∀(l:List yt) (S:Bool×Int×Bs),xv o S l=xv o S (arv o l)
 |[],_=>rfl
 |e::l,S=>by
  unfold arv;rw[List.filter_cons];by_cases h:Ty.beq bl e.2.1 o=true
  ·rw[if_pos h,xv,xv,if_pos h,if_pos h,Qb o l,Qb o l];rfl
  ·rw[if_neg h,xv,if_neg h];exact Qb o l S
theorem Qa(o:bF):∀(l l':List yt) (S:Bool×Int×Bs),xv o S (l++l')=(xv o S l).bind λS'=>xv o S' l'
 |[],_,_=>rfl
 |e::l,l',S=>by
  rw[gN,xv,xv];split
  ·split
   ·rfl
   ·split
    ·exact Qa o l l' _
    ·exact Qa o l l' _
  ·exact Qa o l l' _
theorem amM(o:bF)(d:Int)(hd:¬d=3)(r:dv×Int×Unit)(S:Bool×Int×Bs)(hS:S.1=false):xv o S [(d,(o,r))]=some S:=by rw[xv,if_pos ((qp _ _).2 rfl),if_neg (by rw[hS];decide),if_neg hd];rfl
theorem ayd{o:bF}{x:jn}{h:Int}{ok:Bool}{i:Bs}{S:Bool×Int×Bs}(hS:S.1=false):xv o S (s9 o x h ok i).2=some S:=by
 unfold s9;split
 ·exact amM o 2 (by decide) _ S hS
 ·rfl
theorem aye{o:bF}{t:dv}{x:jn}{h:Int}{ok:Bool}{i:Bs}{S:Bool×Int×Bs}(hS:S.1=false):xv o S (Ba o t h ok i x).2=some S:=by
 unfold Ba;split
 ·exact amM o 1 (by decide) _ S hS
 ·rfl
theorem aRW{o:bF}{t:dv}{x:jn}{h:Int}{ok:Bool}{i:Bs}(hf:x.2.2.2.2.1=false):
  (Ba o t h ok i (s9 o x h ok i).1).1.2.2.2.2.1=false/\(ok=true->(Ba o t h ok i (s9 o x h ok i).1).1.2.2.2.1=h/\(Ba o t h ok i (s9 o x h ok i).1).1.1=true):=by
 unfold Ba;by_cases c:(ok && !(s9 o x h ok i).1.1)=true
 ·rw[if_pos c];exact⟨rfl,λ_=>⟨rfl,rfl⟩⟩
 ·rw[if_neg c];by_cases g:Vj x h ok i=true
  ·have e:(s9 o x h ok i).1=tS:=by unfold s9;rw[if_pos g]
   rw[e]at c ⊢;exact⟨rfl,λhk=>absurd (by rw[hk];rfl) c⟩
  ·have e:(s9 o x h ok i).1=x:=by unfold s9;rw[if_neg g]
   rw[e]at c ⊢;refine⟨hf,λhk=> ?_⟩;subst hk;have h1:x.1=true:=by
    cases hx:x.1 with
    |true=>rfl
    |false=>rw[hx]at c;exact absurd rfl c
   refine⟨?_,h1⟩;unfold Vj at g;rw[h1]at g;refine Classical.byContradiction λhn=>g ?_
   rw[show BY h x.2.2.2.1=true from fj (λh=>hn h.symm)];rfl
theorem ase{H:Int}{l:List dh}{o:bF}{x:jn}(hf:x.2.2.2.2.1=true):gh H l o x=(x,[]):=if_pos hf
theorem asf{H:Int}{l:List dh}{o:bF}{x:jn}{a:Int}{b:Bs}(hf:x.2.2.2.2.1=false):
  xv o (false,a,b) (gh H l o x).2=some (if((mJ o l).2.2 && rz (H - (mJ o l).2.1) 6)=true then(true,(mJ o l).2.1,mj (mJ o l).1) else(false,a,b))/\(gh H l o x).1.2.2.2.2.1=((mJ o l).2.2 && rz (H - (mJ o l).2.1) 6):=by
 unfold gh;rw[if_neg (by rw[hf];decide)];obtain⟨t,h,ok⟩:=mJ o l;obtain⟨k1,k2⟩:=aRW (o:=o) (t:=t) (h:=h) (ok:=ok) (i:=mj t) hf;simp only[Qa,ayd (S:=(false,a,b)) rfl,aye (S:=(false,a,b)) rfl,Option.bind_some];generalize (Ba o t h ok (mj t) (s9 o x h ok (mj t)).1).1=y at k1 k2;unfold Tw;by_cases c:(ok && rz (H - h) 6)=true
 ·rw[if_pos c,if_pos c];have hk:ok=true:=by rw[au]at c;exact c.1
  rw[xv,if_pos ((qp _ _).2 rfl),if_neg (show ¬(false=true) by decide),if_pos rfl,xv,(k2 hk).1];exact⟨rfl,c.symm⟩
 ·rw[if_neg c,if_neg c];refine⟨rfl,?_⟩;rw[Bool.not_eq_true]at c;rw[c];exact k1
theorem aH1{o:bF}{l:List dh}(h:(mJ o l).2.2=true):yn o l 0=some ((mJ o l).1,(mJ o l).2.1):=by
 unfold mJ at h ⊢;cases e:yn o l 0 with
 |none=>rw[e]at h;cases h
 |some x=>rfl
theorem aPQ{o:bF}{l:List dh}{t:dv}{h:Int}(e:yn o l 0=some (t,h)):mJ o l=(t,h,true):=by unfold mJ;rw[e]
def aQL(nb:Nat)(bs:List dh)(o:bF)(h:Int)(i:Bs):Prop:=∃t,yn o (bs.take nb) 0=some (t,h)/\mj t=i/\h+6 < nb
def rT:xS->Prop:=λ(_,_,_,_,_,_,lL,kv,_,_,_,_,_,_,_,l)=>lL=l.length/\l.length<=1000000/\(∀e∈l,nT e.2.2.1)/\∃k:Nat,k<=l.length/\kv=k
def nq:xS->WR:=λ(_,o,_,final,at',_,_,kv,_,_,_,_,_,_,i,l)=>match xv o (final,at',i) (l.drop kv.toNat) with | none=> .inl () | some r=> .inr r
def xe:xR->Prop:=λ(acts,o,_,final,at',i,nb,n,a,s,bs,m,idv)=>acts.length<=20/\(∀x∈acts,aJy x)/\∃A0,∃k:Nat,i=k/\k<=acts.length/\rk A0 (4*k) nb n a s bs/\nb<=9*k/\WG m/\m.length<=1+k/\∃x,bQ bl o m=some x/\x.2.2.2.2.1=final/\(final=true->aQL nb bs o at' idv)
def CU:xR->WO:=λ(_,_,head,_)=> .inr head
def aQH(a:KV):Prop:=(∀t∈a.2.1,nT t)/\Le a.2.2.2.1
def auu:apS->Prop:=λ(outs,acts,o)=>(∀x∈outs,aqc x)/\acts.length<=9223372036854775807/\(∀a∈acts,aQH a)/\Le o
def aIR:apS->Bool:=λ_=>true
theorem aEB{outs:List gf}{acts:List KV}(h:S4 outs acts=true)(ha:∀a∈acts,aQH a):acts.length<=20/\∀a∈acts,aJy a:=by unfold S4 at h;simp only[au,aW,cV]at h;obtain⟨h1,_,h2⟩:=h;refine⟨h2,λa hm=> ?_⟩;have h3:=h1 a hm;unfold Lg at h3;simp only[au,aW,cV]at h3;obtain⟨h3,h4⟩:=h3;refine⟨h3,⟨ak,λt ht=>⟨(ha a hm).1 t ht,?_⟩⟩,(ha a hm).2⟩;have h5:=h4 t ht;unfold aeW at h5;simp only[au,aW]at h5;omega
def WM:=dy.fp je xe xf CU DT
def J4:xR->Option J3:=gB WM je
def WQ:=dy.fp iu rT oD nq DU
def J7:xS->Option J6:=gB WQ iu
def oK:Fs Tryz.prog auu bt aIR:=eN 4 Tryz.f4 (λ(outs,acts,o)=>([.d (.slice gb) outs,.d (.slice yz) acts,.d bl o],[])) (λx=>⟨.d .bool x,[],[]⟩) [some (.slice gb),some (.slice yz),some bl] [atT,alY,awB,aEA,adx,SY,apX,Uo,Y2,ahd] {loops:=nX [(13,{aV:=[1,5,7,8,9,10,11,12,13],sites:=[11,14,17,20,22,23,26,37,56,59,85,94,109,116,126,129],aKT:=some 129}),(20,{aV:=[1,5,7,8,9,10,11,12,13,15,16],sites:=[11,14,17,20,22,23,26,37,56,59,85,94,109,116,126,129],aKT:=some 129})],outs:=nV [(13,{aV:=[7]},{aV:=[6]}),(20,{aV:=[1,5,7,8,9,10,11,12,13],sites:=[129]},{aV:=[6]})],fC:=na [(13,WM),(20,WQ)],ann:=na [(18,MQ)]}
def WN:= @ee Tryz.prog (jy oK.G) oK.an 0 Tryz.f4 0 _ je
abbrev R5:=kj Tryz.prog (jy oK.G) oK.an 0 Tryz.f4 0 je xe xf CU DT
def J5:= @ee Tryz.prog (jy oK.G) oK.an 0 Tryz.f4 1 _ iu
abbrev R6:=kj Tryz.prog (jy oK.G) oK.an 0 Tryz.f4 1 iu rT oD nq DU
theorem aeZ:iW J4 xe xf CU:=l6 (jk [.d (.slice yz),.d bl,.d .bool,.d .bool,.d ti,.d ti,.n,.n,.d (.slice (.pair bl eQ)),.d (.slice cD),.d (.slice dR),.d (.slice (.pair bl l7)),.d tB] λ_=>bY)
theorem OU:mP @WN je xe xf CU DT R5:=nD
theorem BN{R:Type}(AA:(List KV))(asz:bF)(head:Bool)(final:Bool)(atv:Int)(i:Int)(VP:Nat)(Cw:Nat)(n129:(List (bF×dQ)))(IA:(List bW))(IB:(List dh))(IC:(List (bF×jn)))(F2:Bs)(kn:AS->Option R)(kx:Exit->AS->Option R):WN (AA,asz,head,final,atv,i,VP,Cw,n129,IA,IB,IC,F2) kn kx=aH ((gq i (((ag AA):Nat):Int))) (aH (eo i (((ag AA):Nat):Int)) (aH ((rz (cG .and .i64 (nth yz AA (ae i)).1 (7:Int)) (5:Int))) (kn (je (AA,asz,head,final,atv,(bI .i64 i (1:Int)),VP,Cw,n129,IA,IB,IC,F2))) (al (al (dL ((nth yz AA (ae i)),VP,Cw,n129,IA,IB,IC)) λaUT=>aH (aUT.isLeft) (al (aUT.getLeft?) λaBR=>yr (AA,asz,head,final,atv,i,aBR.2.1,aBR.2.2.1,aBR.2.2.2.1,aBR.2.2.2.2.1,aBR.2.2.2.2.2.1,aBR.2.2.2.2.2.2,F2)) (al (aUT.getRight?) λaBS=>yr (AA,asz,head,final,atv,i,aBS.2.1,aBS.2.2.2.2.2.2.2.1,aBS.2.2.2.2.2.2.2.2.1,aBS.2.2.2.2.2.2.2.2.2.1,aBS.2.2.2.2.2.2.2.2.2.2,aBS.2.2.2.2.2.2.1,F2))) λak1=>al (Ka.call (ak1.2.2.2.2.2.2.2.2.2.2.2.1,ak1.2.2.2.2.2.2.1,ak1.2.2.2.2.2.2.2.1,ak1.2.2.2.2.2.2.2.2.1,ak1.2.2.2.2.2.2.2.2.2.1,ak1.2.2.2.2.2.2.2.2.2.2.1)) λaJw=>al (J7 (ak1.1,ak1.2.1,ak1.2.2.1,ak1.2.2.2.1,ak1.2.2.2.2.1,ak1.2.2.2.2.2.1,aJw.1,(0:Int),aJw.2.2.1,aJw.2.2.2.1,aJw.2.2.2.2.1,aJw.2.2.2.2.2.1,aJw.2.2.2.2.2.2.1,aJw.2.1,ak1.2.2.2.2.2.2.2.2.2.2.2.2,aJw.2.2.2.2.2.2.2)) λaJh=>aH (aJh.isLeft) (al (aJh.getLeft?) λa45=>kx (eR ()).1 (eR ()).2) (al (aJh.getRight?) λb46=>al (uw.call (b46.1.2.1,b46.1.2.2.2.2.1,b46.1.2.2.2.2.2.1,b46.1.2.2.2.2.2.2.1,b46.1.2.2.2.2.2.2.2.1,b46.1.2.2.2.2.2.2.2.2.1)) λadz=>aH (b46.2.1) (aH ((!adz.2.2.1)) (kx (eR ()).1 (eR ()).2) (aH ((BY adz.2.1 b46.2.2.1)) (kx (eR ()).1 (eR ()).2) (al (tid.call adz.1) λaXj=>aH ((!(Ty.beq tH aXj b46.2.2.2))) (kx (eR ()).1 (eR ()).2) (al (tg.call (b46.1.2.1,b46.1.2.2.2.2.2.2.2.2.2.1)) λaJx=>aH ((!aJx.2)) (kx (eR ()).1 (eR ()).2) (aH ((!b46.2.1)) (al (tg.call (b46.1.2.1,aJx.1)) λaQF=>aH (aQF.2) (kx (eR ()).1 (eR ()).2) (kn (je (b46.1.1,b46.1.2.1,b46.1.2.2.1,b46.2.1,b46.2.2.1,(bI .i64 b46.1.2.2.2.1 (1:Int)),adz.2.2.2.1,adz.2.2.2.2.1,adz.2.2.2.2.2.1,adz.2.2.2.2.2.2.1,adz.2.2.2.2.2.2.2,aQF.1,b46.2.2.2)))) (kn (je (b46.1.1,b46.1.2.1,b46.1.2.2.1,b46.2.1,b46.2.2.1,(bI .i64 b46.1.2.2.2.1 (1:Int)),adz.2.2.2.1,adz.2.2.2.2.1,adz.2.2.2.2.2.1,adz.2.2.2.2.2.2.1,adz.2.2.2.2.2.2.2,aJx.1,b46.2.2.2)))))))) (aH ((!b46.2.1)) (al (tg.call (b46.1.2.1,b46.1.2.2.2.2.2.2.2.2.2.1)) λE0=>aH (E0.2) (kx (eR ()).1 (eR ()).2) (kn (je (b46.1.1,b46.1.2.1,b46.1.2.2.1,b46.2.1,b46.2.2.1,(bI .i64 b46.1.2.2.2.1 (1:Int)),adz.2.2.2.1,adz.2.2.2.2.1,adz.2.2.2.2.2.1,adz.2.2.2.2.2.2.1,adz.2.2.2.2.2.2.2,E0.1,b46.2.2.2)))) (kn (je (b46.1.1,b46.1.2.1,b46.1.2.2.1,b46.2.1,b46.2.2.1,(bI .i64 b46.1.2.2.2.1 (1:Int)),adz.2.2.2.1,adz.2.2.2.2.1,adz.2.2.2.2.2.1,adz.2.2.2.2.2.2.1,adz.2.2.2.2.2.2.2,b46.1.2.2.2.2.2.2.2.2.2.1,b46.2.2.2))))))) none) (kx (xg head).1 (xg head).2):=bY
theorem ae0:iW J7 rT oD nq:=l6 (jk [.d (.slice yz),.d bl,.d .bool,.d .bool,.d ti,.d ti,.n,.d ti,.n,.n,.d (.slice (.pair bl eQ)),.d (.slice cD),.d (.slice dR),.d (.slice (.pair bl l7)),.d tB,.d (.slice EX)] λ_=>bY)
theorem OV:mP @J5 iu rT oD nq DU R6:=nD
theorem J8{R:Type}(CV:(List KV))(aGm:bF)(C9:Bool)(zp:Bool)(UE:Int)(fL:Int)(lL:Nat)(kv:Int)(wE:Nat)(wF:Nat)(Df:(List (bF×dQ)))(Dg:(List bW))(Dh:(List dh))(Di:(List (bF×jn)))(Cx:Bs)(kK:(List yt))(kn:AS->Option R)(kx:Exit->AS->Option R):J5 (CV,aGm,C9,zp,UE,fL,lL,kv,wE,wF,Df,Dg,Dh,Di,Cx,kK) kn kx=aH ((gq kv ((lL:Nat):Int))) (aH (eo kv ((lL:Nat):Int)) (aH (decide ((0+(ae kv)) < (ag kK))) (aH (decide ((((0+(ae kv))*38)+1)=((0+((ae kv)*38))+1))) (aH ((!(Ty.beq bl (nth EX kK (0+(ae kv))).2.1 aGm))) (kn (iu (CV,aGm,C9,zp,UE,fL,lL,(bI .i64 kv (1:Int)),wE,wF,Df,Dg,Dh,Di,Cx,kK))) (aH (zp) (kx (oE ()).1 (oE ()).2) (aH (eo kv ((lL:Nat):Int)) (aH (decide ((0+(ae kv)) < (ag kK))) (aH (decide ((((0+(ae kv))*38)+0)=((0+((ae kv)*38))+0))) (aH ((qY (nth EX kK (0+(ae kv))).1 (3:Int))) (aH (eo kv ((lL:Nat):Int)) (aH (decide ((0+(ae kv)) < (ag kK))) (aH (decide ((((0+(ae kv))*38)+34)=((0+((ae kv)*38))+34))) (al (tid.call (nth EX kK (0+(ae kv))).2.2.1) λx8=>aH (eo kv ((lL:Nat):Int)) (aH (decide ((0+(ae kv)) < (ag kK))) (aH (decide ((((0+(ae kv))*38)+37)=((0+((ae kv)*38))+37))) (kn (iu (CV,aGm,C9,true,(nth EX kK (0+(ae kv))).2.2.2.1,fL,lL,(bI .i64 kv (1:Int)),wE,wF,Df,Dg,Dh,Di,x8,kK))) none) none) none) none) none) none) (kn (iu (CV,aGm,C9,zp,UE,fL,lL,(bI .i64 kv (1:Int)),wE,wF,Df,Dg,Dh,Di,Cx,kK)))) none) none) none))) none) none) none) (kx (xh ((CV,aGm,C9,fL,wE,wF,Df,Dg,Dh,Di,kK),(zp,UE,Cx))).1 (xh ((CV,aGm,C9,fL,wE,wF,Df,Dg,Dh,Di,kK),(zp,UE,Cx))).2):=bY
theorem aBz{R:Type}(outs acts o)(k:K1 R):oK.A (outs,acts,o) k=al (jH.call ()) λx4=>al (Fj outs) λx5=>aH (x5.isLeft) (al (x5.getLeft?) λaXv=>al (adw.call ()) λx9=>al (vl.call (outs,acts)) λMX=>aH ((!MX)) (k (oK.out x4)) (k (oK.out x4))) (al (x5.getRight?) λaUX=>al (adw.call ()) λaXg=>al (vl.call (outs,acts)) λaXh=>aH ((!aXh)) (k (oK.out x4)) (al (EZ.call (o,aXg)) λaXi=>al (J4 (acts,o,x4,false,0,0,0,0,aUX.1,aUX.2.1,aUX.2.2,aXi,(ab 32 0))) λaP4=>aH (aP4.isLeft) (al (aP4.getLeft?) λa114=>k (oK.out false)) (al (aP4.getRight?) λb115=>k (oK.out b115)))):=bY
theorem akJ:R6:=by
  refine OV (λ(_,_,_,_,_,_,lL,kv,_)=>lL - kv.toNat) ?_
  rintro⟨acts,o,head,final,at',i,lL,kv,nb,n,a,s,bs,m,idv,l⟩ ⟨rfl,hl,hv,k,hk,rfl⟩;have hl:l.length<=1000000:=hl;have hv:∀e∈l,nT e.2.2.1:=hv;have hk:k<=l.length:=hk;by_cases h:k < l.length
  · have n1:nth EX l (0+k)=l[k]:=by rw[aN];exact cg (t:=EX) h
    have hd:l.drop k=l[k]::l.drop (k+1):=aq h;have c1:eo (k:Int) ((l.length:Nat):Int)=true:=bg ak ak;have c2:decide (0+k < l.length)=true:=fy ak;have c3:∀j,decide ((0+k)*38+j=0+k*38+j)=true:=λj=>fy ak
    have next:∀S:Bool×Int×Bs,rT (acts,o,head,S.1,S.2.1,i,l.length,((k+1:Nat):Int),nb,n,a,s,bs,m,S.2.2,l):=λS=>⟨rfl,hl,hv,k+1,h,rfl⟩
    have aSL:=hv _ (aO h)
    have step:∀ {R:Type} (kn:AS->Option R) (kx:Exit->AS->Option R),J5 (acts,o,head,final,at',i,l.length,(k:Int),nb,n,a,s,bs,m,idv,l) kn kx=
        aH (!(Ty.beq bl l[k].2.1 o)) (kn (iu (acts,o,head,final,at',i,l.length,((k+1:Nat):Int),nb,n,a,s,bs,m,idv,l)))
         (aH final (kx (oE ()).1 (oE ()).2) (aH (qY l[k].1 3) (kn (iu (acts,o,head,true,l[k].2.2.2.1,i,l.length,((k+1:Nat):Int),nb,n,a,s,bs,m,mj l[k].2.2.1,l)))
          (kn (iu (acts,o,head,final,at',i,l.length,((k+1:Nat):Int),nb,n,a,s,bs,m,idv,l))))):=by
      intro R kn kx;rw[J8,aU ak,aj,N.mO ak];simp only[aa,c1,c2,c3,aj,n1];rw[Gy (d:=l[k].2.2.1) aSL];simp only[ah,bt,RR]
    have hF:∀S:Bool×Int×Bs,nq (acts,o,head,S.1,S.2.1,i,l.length,((k+1:Nat):Int),nb,n,a,s,bs,m,S.2.2,l)=match xv o S (l.drop (k+1)) with | none=> .inl () | some r=> .inr r:=λS=>rfl
    have hF0:nq (acts,o,head,final,at',i,l.length,(k:Int),nb,n,a,s,bs,m,idv,l)=match xv o (final,at',idv) (l[k]::l.drop (k+1)) with | none=> .inl () | some r=> .inr r:=by rw[<-hd];rfl
    rw[xv]at hF0;cases hb:Ty.beq bl l[k].2.1 o with
    |false=>
      left;rw[hb,if_neg (by decide)]at hF0;refine⟨(acts,o,head,final,at',i,l.length,((k+1:Nat):Int),nb,n,a,s,bs,m,idv,l),next (final,at',idv),by simp only[aa];omega,?_,λkn kx=> ?_⟩
      · rw[hF0]
        rfl
      · rw[step,hb];rfl
    |true=>
      rw[hb,if_pos rfl]at hF0;cases final with
      |true=>
        right;refine⟨oE (),?_,λkn kx=> ?_⟩
        · rw[hF0];rfl
        · rw[step,hb];rfl
      |false=>
        left;rw[if_neg (show ¬(false=true) by decide)]at hF0;by_cases h3:l[k].1=3
        · rw[if_pos h3]at hF0
          refine⟨(acts,o,head,true,l[k].2.2.2.1,i,l.length,((k+1:Nat):Int),nb,n,a,s,bs,m,mj l[k].2.2.1,l),next (true,l[k].2.2.2.1,mj l[k].2.2.1),by simp only[aa];omega,?_,λkn kx=> ?_⟩
          · rw[hF0];rfl
          · rw[step,hb,du h3];rfl
        · rw[if_neg h3]at hF0
          refine⟨(acts,o,head,false,at',i,l.length,((k+1:Nat):Int),nb,n,a,s,bs,m,idv,l),next (false,at',idv),by simp only[aa];omega,?_,λkn kx=> ?_⟩
          · rw[hF0];rfl
          · rw[step,hb,eH h3];rfl
  · right
    obtain rfl:k=l.length:=ak;refine⟨xh ((acts,o,head,i,nb,n,a,s,bs,m,l),(final,at',idv)),?_,λkn kx=> ?_⟩
    · simp only[oD,nq,aa,aK,xv]
      rfl
    · rw[J8,aR ak,ao]
theorem akI:R5:=by
 refine OU (λ(acts,_,_,_,_,i,_)=>acts.length - i.toNat) ?_
 rintro⟨acts,o,head,final,at',i,nb,n,a,s,bs,m,idv⟩ ⟨hl,hg,A0,k,rfl,hk,hc,aE1,hw,aK3,x,hx,hf,aiL⟩;have hl:acts.length<=20:=hl;have hg:∀x∈acts,aJy x:=hg;have hk:k<=acts.length:=hk;have hc:rk A0 (4*k) nb n a s bs:=hc;have aE1:nb<=9*k:=aE1;have aK3:m.length<=1+k:=aK3;by_cases h:k < acts.length
 ·left;have n1:nth yz acts k=acts[k]:=cg (t:=yz) h;have aVk:=hg _ (aO h);by_cases h6:mQ acts[k]<=5;rotate_left
  ·refine⟨(acts,o,head,final,at',((k+1:Nat):Int),nb,n,a,s,bs,m,idv),⟨hl,hg,A0,k+1,rfl,h,hc.mono ak,ak,hw,ak,x,hx,hf,aiL⟩,by simp only[aa];omega,rfl,λkn kx=> ?_⟩;rw[BN,aU ak,aj,bg ak ak,aj,aa,n1,show cG .and .i64 acts[k].1 7=mQ acts[k] from rfl,cR ak,aj,N.mO ak]
  ·obtain⟨nb',n',a',s',bs',hc',q1,q2,q3,iO⟩:=aCh hc acts[k] aVk ak ak hw h6;obtain⟨w1,w2,w3⟩:=aNV hw ak aVk.2.2;obtain⟨v1,v2,v3,v4⟩:=ay1 hc' w1;obtain⟨u1,u2⟩:=asc (nb:=nb') (bs:=bs') w1 (w3 o x hx);obtain⟨final',at2,id',hE,hF,hS⟩:∃final' at2 id',xv o (final,at',idv) (iK nb' bs' (O3 acts[k] m)).2=some (final',at2,id')/\(gh nb' (bs'.take nb') o x).1.2.2.2.2.1=final'/\(final'=true->aQL nb' bs' o at2 id'):=by
    rw[Qb,u2];cases final with
    |true=>
     rw[ase hf];obtain⟨t,t1,t2,t3⟩:=aiL rfl;exact⟨true,at',idv,rfl,hf,λ_=>⟨t,aHZ t1 t3 q1 q3,t2,ak⟩⟩
    |false=>
     obtain⟨z1,z2⟩:=asf (H:=(nb':Int)) (l:=bs'.take nb') (o:=o) (a:=at') (b:=idv) hf;by_cases c:((mJ o (bs'.take nb')).2.2 && rz ((nb':Int) - (mJ o (bs'.take nb')).2.1) 6)=true
     ·rw[if_pos c]at z1;rw[c]at z2;rw[au]at c;refine⟨true,_,_,z1,z2,λ_=>⟨_,aH1 c.1,rfl,?_⟩⟩;have c2:=c.2;unfold rz at c2;have:=of_decide_eq_true c2;omega
     ·rw[if_neg c]at z1;rw[Bool.not_eq_true]at c;rw[c]at z2;exact⟨false,_,_,z1,z2,λh=>by cases h⟩
   refine⟨(acts,o,head,final',at2,((k+1:Nat):Int),nb',n',a',s',bs',(iK nb' bs' (O3 acts[k] m)).1,id'),⟨hl,hg,A0,k+1,rfl,h,hc',ak,v1,ak,_,u1,hF,hS⟩,by simp only[aa];omega,rfl,λkn kx=> ?_⟩;rw[BN,aU ak,aj,bg ak ak,aj,aa,n1,show cG .and .i64 acts[k].1 7=mQ acts[k] from rfl,cn ak,ao];simp only[OT];refine(bo (λz=>al z _) (iO (λnb n a s bs m=>some (acts,o,head,final,at',(k:Int),nb,n,a,s,bs,m,idv)))).trans ?_
   simp only[ah];rw[ahg (d:=(O3 acts[k] m,nb',n',a',s',bs')) ⟨⟨A0,_,hc'⟩,w1⟩];simp only[ah,bt,Ya];generalize hM:(iK nb' bs' (O3 acts[k] m)).1=m' at u1 v1 v4 ⊢;generalize (iK nb' bs' (O3 acts[k] m)).2=l at hE v2 v3 ⊢;rw[ae0 (d:=(acts,o,head,final,at',(k:Int),l.length,0,nb',n',a',s',bs',m',idv,l)) ⟨rfl,by show l.length<=_;omega,v2,0,aJ _,rfl⟩];simp only[ah,oD,nq,aX,aD,hE,dJ,ao,c9];rw[agZ hc' o];simp only[ah];have aWQ:tg.call (o,m')=some (m',final'):=by rw[ads (d:=(o,m')) trivial];simp only[adr,apT];rw[show od o m'=(gh nb' (bs'.take nb') o x).1 by unfold od;rw[u1];rfl,hF]
   rw[aWQ];simp only[ah];rw[N.mO ak];cases final' with
   |false=>rfl
   |true=>
    obtain⟨t,t1,t2,t3⟩:=hS rfl;rw[aPQ t1];simp only[aj,cz,ao];obtain⟨_,_,b1,b2,b3⟩:=ake t1;rw[dB rfl,ao,Gy (d:=t) (hc'.aSS b2 b3).2];simp only[ah,bt,RR];rw[t2,beq_refl tH id' rfl];rfl
 ·right;obtain rfl:k=acts.length:=ak;refine⟨xg head,rfl,λkn kx=> ?_⟩;rw[BN,aR ak,ao]
theorem aBA:oK.Ok:=by
 rintro⟨outs,acts,o⟩ ⟨ho,hl,hg,hq⟩;rw[aBz,apl (d:=()) trivial];simp only[ah,bt,agX];rw[afq (d:=outs) ho,apY (d:=()) trivial,ayb (d:=(outs,acts)) hl];simp only[ah,Kh,bt,aI2,bt,aiv];cases e:ajm outs with
 |none=>
  simp only[D8,oX,aj,my,ah];cases S4 outs acts <;> rfl
 |some r=>
  simp only[D8,dJ,ao,c9,ah];cases hw:S4 outs acts with
  |false=>rfl
  |true=>
   obtain⟨aV4,ha⟩:=aEB hw hg;have w0:WG ([]:Wm):=⟨aJ _,fS,λp hp=>by cases hp⟩;obtain⟨w1,w2,_,x,w3,w4⟩:=aIO w0 (by decide) hq;rw[cz,ao,KT (d:=(o,[])) trivial];simp only[ah,bt];rw[show Yc (o,([]:Wm))=Hp o [] from rfl,aeZ (d:=(acts,o,true,false,0,0,0,0,r,[],[],Hp o [],ab 32 0)) ⟨aV4,ha,r,0,rfl,aJ _,rk.new (azm ho e).1,aJ _,w1,w2,x,w3,by rw[w4 rfl];rfl,λh=>by cases h⟩];rfl
theorem auv:oK.RS:=rE [.d (.slice gb),.d (.slice yz),.d bl] oK
def aBB:=oK.eS aBA 2 ⟨.fp akI,⟨.fp akJ,trivial⟩⟩
end Go.Ab
end
