/-
  Made short by a program of mine (wip/tools/mini.py).
-/
import Derived.Test.YtlpebgkekjfhaaaGreatS21x5
set_option linter.unusedVariables false
set_option linter.unusedSimpArgs false
set_option maxRecDepth 100000
set_option synthInstance.maxSize 5000
noncomputable section
namespace Go.Ab
open Go.Proofs
def NK(o:cd):List eZ->Option eZ
 |[]=>none
 |t::l=>if(dT t).any (Hq o)=true then some t else NK o l
def qm(o:cd):List eN->Int->Option (eZ×Int)
 |[],_=>none
 |b::l,i=>match NK o b.2.2.1 with | some t=>some (JT t,i+1) | none=>qm o l (i+1)
theorem G9(t:eZ):(dT t).length<=64:=by
 unfold dT
 split
 ·rename_i h;rw[cK];exact(kk h).1.2.1
 ·simp
abbrev dC.D:=Int×eZ×cd×cd×(Int×Unit)×Int×Bool
def dC.st:dC.D->SA:=λ(t13,t14,o,or,o1bb,o2,o3)=>(([.yl (.aV 0) 0,.d ti t13,.d gU t14,.undef,.undef,.undef,.eD b8 o,.ptr (.aV 1) 0 [] 0,.ptr (.aV 2) 0 [] 0,.ptr (.aV 3) 0 [] 0]++aT 21 []),[.obj 0 false (.mr (ln Tryz.prog 4294968256) (jr ([.undef,.undef,.undef,.eD b8 or,.ptr (.aV 1) 0 [] 0,.ptr (.aV 2) 0 [] 0,.ptr (.aV 3) 0 [] 0]++aT 21 [])) 0),.obj 0 false (.pr (.di) (.pr (.di) (.d (.pair ti .unit) o1bb))),.obj 0 false (.d ti o2),.obj 0 false (.d .bool o3)])
abbrev dC.Y:=(eZ)⊕(Unit)
abbrev dC.X:=((cd×Int)×(eZ))⊕(cd×(Int×Unit)×Int×Bool)
def dC.out:dC.X->gV:=λx=>match x with | .inl x=>⟨.d .bool false,[.obj 0 false (.mr (ln Tryz.prog 4294968256) (jr ([.undef,.undef,.undef,.eD b8 x.1.1,.ptr (.aV 1) 0 [] 0,.ptr (.aV 2) 0 [] 0,.ptr (.aV 3) 0 [] 0]++aT 21 [])) 2),.obj 0 false (.d gU x.2),.obj 0 false (.d ti x.1.2),.obj 0 false (.d .bool true)],[]⟩ | .inr x=>⟨.d .bool true,[.obj 0 false (.mr (ln Tryz.prog 4294968256) (jr ([.undef,.undef,.undef,.eD b8 x.1,.ptr (.aV 1) 0 [] 0,.ptr (.aV 2) 0 [] 0,.ptr (.aV 3) 0 [] 0]++aT 21 [])) 0),.obj 0 false (.pr (.di) (.pr (.di) (.d (.pair ti .unit) x.2.1))),.obj 0 false (.d ti x.2.2.1),.obj 0 false (.d .bool x.2.2.2)],[]⟩
def dC.add:dC.D->dC.Y->dC.X:=λ(t13,t14,o,or,o1bb,o2,o3) y=>match y with | .inl y=> .inl ((or,t13),y) | .inr y=> .inr (or,o1bb,o2,o3)
def dC.aM:dC.D->Prop:=λ(_,t,_)=>rK t
def dC.F:dC.D->dC.Y:=λ(_,t,o,_)=>if(dT t).any (Hq o)=true then .inl (JT t) else .inr ()
def dC.G:mR:=oo (P:=Tryz.prog) [cQ.sg,ku.sg,bV.sg,aC.sg]
def dC.an:rN:= {oH:=some 4294968256}
def dC.A:= @zK Tryz.prog dC.G dC.an 0 (Sr Tryz.prog 4294968256) _ dC.st
abbrev dC.Ok:=CC @dC.A dC.aM dC.add dC.F dC.out
theorem dC.eq{R:Type}(t13:Int)(t14:eZ)(o:cd)(or:cd)(o1bb:(Int×Unit))(o2:Int)(o3:Bool)(k:gV->Option R):dC.A (t13,t14,o,or,o1bb,o2,o3) k=
  ah (cQ.call t14) λx1=>
  ah (ku.call (x1,o)) λx2=>
  aP (x2) (
   ah (bV.call t14) λx3=>
   ah (aC.call x3) λx4=>
   k (dC.out (.inl ((or,t13),x4.1)))) (
   k (dC.out (.inr (or,o1bb,o2,o3)))):=by kernel_rfl
theorem dC.ok:dC.Ok:=by
 rintro⟨h,t,o,o',o1,o2,o3⟩ hv
 have hv:rK t:=hv
 rw[dC.eq,cQ.run (d:=t) hv.1]
 simp only[ab,bP,cQ.F]
 rw[ku.run (d:=(dT t,o)) (by show(dT t).length<=_;have:=G9 t;omega)]
 simp only[ab,bP,ku.F,dC.F]
 by_cases he:(dT t).any (Hq o)=true
 ·rw[if_pos he,he,ag,bV.run (d:=t) hv]
  simp only[ab,bP,bV.F]
  rw[aC.run (d:=Ly t) ⟨(vG hv).1,by show(Ly t).length<=_;have:=(vG hv).2;omega⟩]
  rfl
 ·have he':(dT t).any (Hq o)=false:=by simpa using he
  rw[if_neg he,he',al]
  rfl
def dC.E:=Entry.Bi [none,none,none,none,none,none,none,none,none,none,none,none,none,none,none,none,none,none,none,none,none,none,none,none,none,none,none,none,none,none,none] dC.st dC.aM dC.add dC.F dC.out
def dC.call:dC.D->Option dC.X:=vU dC.E dC.st
theorem dC.run:kF dC.call dC.aM dC.add dC.F:=zF (EG [.d ti,.d gU,.d b8,.d b8,.d (.pair ti .unit),.d ti,.d .bool] λ_=>by kernel_rfl)
def dC.sg:SG Tryz.prog:=⟨4294968256,om,dC.E,.Ye (tQ.fn 0 (by kernel_rfl) dC.ok trivial (by rfl)).PC (by rfl)⟩
abbrev bz.L0.D:=Nat×Int×Int×cd×(Int×Unit)×Int×Bool×Nat×Nat×(List (cd×dP))×(List cn)×(List eN)
def bz.L0.st:bz.L0.D->AS:=λ(sV,t11,t12,o0,o1,eA,vN,o5L,o6L,wS,ur,CT)=>⟨([.yl (.aV 0) 0]++aT 9 ([.aS (.aV 9) 0 [] 0 0 sV,.d ti t11,.d ti t12]++aT 19 [])),[.obj 0 false (.mr (ln Tryz.prog 4294968256) (jr ([.undef,.undef,.undef,.eD b8 o0,.ptr (.aV 1) 0 [] 0,.ptr (.aV 2) 0 [] 0,.ptr (.aV 3) 0 [] 0]++aT 21 [])) 0),.obj 0 false (.pr (.di) (.pr (.di) (.d (.pair ti .unit) o1))),.obj 0 false (.d ti eA),.obj 0 false (.d .bool vN),.obj 0 false (.ptr (.aV 5) 0 [] 0),.obj 0 false (.pr (.ptr (.aV 6) 0 [] 0) (.pr (.aS (.aV 9) 0 [] 0 0 o5L) (.d .unit ()))),.obj 0 false (.pr (.db (.aV 7) 0) (.pr (.aS (.aV 8) 0 [] 0 0 o6L) (.d .unit ()))),.obj 0 false (.mp b8 eR wS),.obj 0 false (.vec 161 cE ur),.obj 0 false (.vec 60 fh CT)],(List.replicate 32 [])⟩
abbrev bz.L0.Y0:=cd×eZ×Int×Nat×Nat×(List (cd×dP))×(List cn)×(List eN)
abbrev bz.L0.X0:=cd×eZ×Int×Nat×Nat×(List (cd×dP))×(List cn)×(List eN)
def bz.L0.eG:bz.L0.X0->Exit×AS:=λx=>(.ret,⟨(aT 32 []),[.obj 0 false (.mr (ln Tryz.prog 4294968256) (jr ([.undef,.undef,.undef,.eD b8 x.1,.ptr (.aV 1) 0 [] 0,.ptr (.aV 2) 0 [] 0,.ptr (.aV 3) 0 [] 0]++aT 21 [])) 2),.obj 0 false (.d gU x.2.1),.obj 0 false (.d ti x.2.2.1),.obj 0 false (.d .bool true),.obj 0 false (.ptr (.aV 5) 0 [] 0),.obj 0 false (.pr (.ptr (.aV 6) 0 [] 0) (.pr (.aS (.aV 9) 0 [] 0 0 x.2.2.2.1) (.d .unit ()))),.obj 0 false (.pr (.db (.aV 7) 0) (.pr (.aS (.aV 8) 0 [] 0 0 x.2.2.2.2.1) (.d .unit ()))),.obj 0 false (.mp b8 eR x.2.2.2.2.2.1),.obj 0 false (.vec 161 cE x.2.2.2.2.2.2.1),.obj 0 false (.vec 60 fh x.2.2.2.2.2.2.2)],(List.replicate 32 [])⟩)
abbrev bz.L0.Y1:=cd×(Int×Unit)×Int×Bool×Nat×Nat×(List (cd×dP))×(List cn)×(List eN)
abbrev bz.L0.X1:=cd×(Int×Unit)×Int×Bool×Nat×Nat×(List (cd×dP))×(List cn)×(List eN)
def bz.L0.gZ:bz.L0.X1->Exit×AS:=λx=>(.exit 0,⟨(aT 32 []),[.obj 0 false (.mr (ln Tryz.prog 4294968256) (jr ([.undef,.undef,.undef,.eD b8 x.1,.ptr (.aV 1) 0 [] 0,.ptr (.aV 2) 0 [] 0,.ptr (.aV 3) 0 [] 0]++aT 21 [])) 0),.obj 0 false (.pr (.di) (.pr (.di) (.d (.pair ti .unit) x.2.1))),.obj 0 false (.d ti x.2.2.1),.obj 0 false (.d .bool x.2.2.2.1),.obj 0 false (.ptr (.aV 5) 0 [] 0),.obj 0 false (.pr (.ptr (.aV 6) 0 [] 0) (.pr (.aS (.aV 9) 0 [] 0 0 x.2.2.2.2.1) (.d .unit ()))),.obj 0 false (.pr (.db (.aV 7) 0) (.pr (.aS (.aV 8) 0 [] 0 0 x.2.2.2.2.2.1) (.d .unit ()))),.obj 0 false (.mp b8 eR x.2.2.2.2.2.2.1),.obj 0 false (.vec 161 cE x.2.2.2.2.2.2.2.1),.obj 0 false (.vec 60 fh x.2.2.2.2.2.2.2.2)],(List.replicate 32 [])⟩)
abbrev bz.L0.X:=(bz.L0.X0)⊕(bz.L0.X1)
abbrev bz.L0.Y:=(bz.L0.Y0)⊕(bz.L0.Y1)
def bz.L0.out:bz.L0.X->Out (Exit×AS):=λx=> .br x.isLeft (.get x.getLeft? λa=> .ok (bz.L0.eG a)) (.get x.getRight? λb=> .ok (bz.L0.gZ b))
def bz.L0.add:bz.L0.D->bz.L0.Y->bz.L0.X:=λ(sV,t11,t12,o0,o1,eA,vN,o5L,o6L,wS,ur,CT) y=>match y with | .inl y=> .inl y | .inr z=> .inr (z)
abbrev bz.L1.D:=Int×Nat×Int×Int×(List eZ)×Int×Int×cd×(Int×Unit)×Int×Bool×Nat×Nat×(List (cd×dP))×(List cn)×(List eN)
def bz.L1.st:bz.L1.D->AS:=λ(i,mm,pX,pY,t18,t19,t20,nM,eQ,iJ,tA,mj,uV,ru,rv,BM)=>⟨([.yl (.aV 0) 0,.undef,.undef,.d ti i]++aT 6 ([.aS (.aV 9) 0 [] 0 0 mm,.d ti pX,.d ti pY]++aT 5 ([.d (.slice gU) t18,.d ti t19,.d ti t20]++aT 11 []))),[.obj 0 false (.mr (ln Tryz.prog 4294968256) (jr ([.undef,.undef,.undef,.eD b8 nM,.ptr (.aV 1) 0 [] 0,.ptr (.aV 2) 0 [] 0,.ptr (.aV 3) 0 [] 0]++aT 21 [])) 0),.obj 0 false (.pr (.di) (.pr (.di) (.d (.pair ti .unit) eQ))),.obj 0 false (.d ti iJ),.obj 0 false (.d .bool tA),.obj 0 false (.ptr (.aV 5) 0 [] 0),.obj 0 false (.pr (.ptr (.aV 6) 0 [] 0) (.pr (.aS (.aV 9) 0 [] 0 0 mj) (.d .unit ()))),.obj 0 false (.pr (.db (.aV 7) 0) (.pr (.aS (.aV 8) 0 [] 0 0 uV) (.d .unit ()))),.obj 0 false (.mp b8 eR ru),.obj 0 false (.vec 161 cE rv),.obj 0 false (.vec 60 fh BM)],(List.replicate 32 [])⟩
abbrev bz.L1.Y0:=cd×eZ×Int
abbrev bz.L1.X0:=(Nat×Nat×(List (cd×dP))×(List cn)×(List eN))×(cd×eZ×Int)
def bz.L1.eG:bz.L1.X0->Exit×AS:=λx=>(.ret,⟨(aT 32 []),[.obj 0 false (.mr (ln Tryz.prog 4294968256) (jr ([.undef,.undef,.undef,.eD b8 x.2.1,.ptr (.aV 1) 0 [] 0,.ptr (.aV 2) 0 [] 0,.ptr (.aV 3) 0 [] 0]++aT 21 [])) 2),.obj 0 false (.d gU x.2.2.1),.obj 0 false (.d ti x.2.2.2),.obj 0 false (.d .bool true),.obj 0 false (.ptr (.aV 5) 0 [] 0),.obj 0 false (.pr (.ptr (.aV 6) 0 [] 0) (.pr (.aS (.aV 9) 0 [] 0 0 x.1.1) (.d .unit ()))),.obj 0 false (.pr (.db (.aV 7) 0) (.pr (.aS (.aV 8) 0 [] 0 0 x.1.2.1) (.d .unit ()))),.obj 0 false (.mp b8 eR x.1.2.2.1),.obj 0 false (.vec 161 cE x.1.2.2.2.1),.obj 0 false (.vec 60 fh x.1.2.2.2.2)],(List.replicate 32 [])⟩)
abbrev bz.L1.Y1:=cd×(Int×Unit)×Int×Bool
abbrev bz.L1.X1:=(Nat×Int×Int×Nat×Nat×(List (cd×dP))×(List cn)×(List eN))×(cd×(Int×Unit)×Int×Bool)
def bz.L1.gZ:bz.L1.X1->Exit×AS:=λx=>(.exit 2,⟨([.yl (.aV 0) 0]++aT 9 ([.aS (.aV 9) 0 [] 0 0 x.1.1,.d ti x.1.2.1,.d ti x.1.2.2.1]++aT 19 [])),[.obj 0 false (.mr (ln Tryz.prog 4294968256) (jr ([.undef,.undef,.undef,.eD b8 x.2.1,.ptr (.aV 1) 0 [] 0,.ptr (.aV 2) 0 [] 0,.ptr (.aV 3) 0 [] 0]++aT 21 [])) 0),.obj 0 false (.pr (.di) (.pr (.di) (.d (.pair ti .unit) x.2.2.1))),.obj 0 false (.d ti x.2.2.2.1),.obj 0 false (.d .bool x.2.2.2.2),.obj 0 false (.ptr (.aV 5) 0 [] 0),.obj 0 false (.pr (.ptr (.aV 6) 0 [] 0) (.pr (.aS (.aV 9) 0 [] 0 0 x.1.2.2.2.1) (.d .unit ()))),.obj 0 false (.pr (.db (.aV 7) 0) (.pr (.aS (.aV 8) 0 [] 0 0 x.1.2.2.2.2.1) (.d .unit ()))),.obj 0 false (.mp b8 eR x.1.2.2.2.2.2.1),.obj 0 false (.vec 161 cE x.1.2.2.2.2.2.2.1),.obj 0 false (.vec 60 fh x.1.2.2.2.2.2.2.2)],(List.replicate 32 [])⟩)
abbrev bz.L1.X:=(bz.L1.X0)⊕(bz.L1.X1)
abbrev bz.L1.Y:=(bz.L1.Y0)⊕(bz.L1.Y1)
def bz.L1.out:bz.L1.X->Out (Exit×AS):=λx=> .br x.isLeft (.get x.getLeft? λa=> .ok (bz.L1.eG a)) (.get x.getRight? λb=> .ok (bz.L1.gZ b))
def bz.L1.add:bz.L1.D->bz.L1.Y->bz.L1.X:=λ(i,mm,pX,pY,t18,t19,t20,nM,eQ,iJ,tA,mj,uV,ru,rv,BM) y=>match y with | .inl y=> .inl ((mj,uV,ru,rv,BM),y) | .inr z=> .inr (((mm,pX,pY,mj,uV,ru,rv,BM),z))
abbrev bz.D:=cd×(Int×Unit)×Int×Bool×Nat×Nat×(List (cd×dP))×(List cn)×(List eN)
def bz.st:bz.D->SA:=λ(ir,o1bb,o2,o3,o5baL,o6baL,o7,o8,o9)=>([.yl (.aV 0) 0,.ptr (.aV 4) 0 [] 0],[.obj 0 false (.mr (ln Tryz.prog 4294968256) (jr ([.undef,.undef,.undef,.eD b8 ir,.ptr (.aV 1) 0 [] 0,.ptr (.aV 2) 0 [] 0,.ptr (.aV 3) 0 [] 0]++aT 21 [])) 0),.obj 0 false (.pr (.di) (.pr (.di) (.d (.pair ti .unit) o1bb))),.obj 0 false (.d ti o2),.obj 0 false (.d .bool o3),.obj 0 false (.ptr (.aV 5) 0 [] 0),.obj 0 false (.pr (.ptr (.aV 6) 0 [] 0) (.pr (.aS (.aV 9) 0 [] 0 0 o5baL) (.d .unit ()))),.obj 0 false (.pr (.db (.aV 7) 0) (.pr (.aS (.aV 8) 0 [] 0 0 o6baL) (.d .unit ()))),.obj 0 false (.mp b8 eR o7),.obj 0 false (.vec 161 cE o8),.obj 0 false (.vec 60 fh o9)])
abbrev bz.Y:=(cd×eZ×Int×Nat×Nat×(List (cd×dP))×(List cn)×(List eN))⊕(cd×(Int×Unit)×Int×Bool×Nat×Nat×(List (cd×dP))×(List cn)×(List eN))
abbrev bz.X:=(cd×eZ×Int×Nat×Nat×(List (cd×dP))×(List cn)×(List eN))⊕(cd×(Int×Unit)×Int×Bool×Nat×Nat×(List (cd×dP))×(List cn)×(List eN))
def bz.out:bz.X->gV:=λx=>match x with | .inl x=>⟨.nil,[.obj 0 false (.mr (ln Tryz.prog 4294968256) (jr ([.undef,.undef,.undef,.eD b8 x.1,.ptr (.aV 1) 0 [] 0,.ptr (.aV 2) 0 [] 0,.ptr (.aV 3) 0 [] 0]++aT 21 [])) 2),.obj 0 false (.d gU x.2.1),.obj 0 false (.d ti x.2.2.1),.obj 0 false (.d .bool true),.obj 0 false (.ptr (.aV 5) 0 [] 0),.obj 0 false (.pr (.ptr (.aV 6) 0 [] 0) (.pr (.aS (.aV 9) 0 [] 0 0 x.2.2.2.1) (.d .unit ()))),.obj 0 false (.pr (.db (.aV 7) 0) (.pr (.aS (.aV 8) 0 [] 0 0 x.2.2.2.2.1) (.d .unit ()))),.obj 0 false (.mp b8 eR x.2.2.2.2.2.1),.obj 0 false (.vec 161 cE x.2.2.2.2.2.2.1),.obj 0 false (.vec 60 fh x.2.2.2.2.2.2.2)],[]⟩ | .inr x=>⟨.nil,[.obj 0 false (.mr (ln Tryz.prog 4294968256) (jr ([.undef,.undef,.undef,.eD b8 x.1,.ptr (.aV 1) 0 [] 0,.ptr (.aV 2) 0 [] 0,.ptr (.aV 3) 0 [] 0]++aT 21 [])) 0),.obj 0 false (.pr (.di) (.pr (.di) (.d (.pair ti .unit) x.2.1))),.obj 0 false (.d ti x.2.2.1),.obj 0 false (.d .bool x.2.2.2.1),.obj 0 false (.ptr (.aV 5) 0 [] 0),.obj 0 false (.pr (.ptr (.aV 6) 0 [] 0) (.pr (.aS (.aV 9) 0 [] 0 0 x.2.2.2.2.1) (.d .unit ()))),.obj 0 false (.pr (.db (.aV 7) 0) (.pr (.aS (.aV 8) 0 [] 0 0 x.2.2.2.2.2.1) (.d .unit ()))),.obj 0 false (.mp b8 eR x.2.2.2.2.2.2.1),.obj 0 false (.vec 161 cE x.2.2.2.2.2.2.2.1),.obj 0 false (.vec 60 fh x.2.2.2.2.2.2.2.2)],[]⟩
def bz.add:bz.D->bz.Y->bz.X:=λ(ir,o1bb,o2,o3,o5baL,o6baL,o7,o8,o9) y=>match y with | .inl y=> .inl y | .inr y=> .inr y
def bz.L1.aM:bz.L1.D->Prop:=λ(i,_,_,_,l,n,j,_)=>(0<=i/\i<=1000000)/\l.length<=1000000/\(∀t∈l,rK t)/\n=(l.length:Int)/\∃k:Nat,k<=l.length/\j=k
def bz.L1.F:bz.L1.D->bz.L1.Y:=λ(i,_,_,_,l,_,j,o,o1,o2,o3,_)=>match NK o (l.drop j.toNat) with | some t=> .inl (o,JT t,i+1) | none=> .inr (o,o1,o2,o3)
def bz.L0.aM:bz.L0.D->Prop:=λ(nb,n,i,_,_,_,_,_,_,_,_,bs)=>y8 nb bs/\n=(nb:Int)/\∃k:Nat,k<=nb/\i=k
def bz.L0.F:bz.L0.D->bz.L0.Y:=λ(nb,_,i,o,o1,o2,o3,o4,o5,m,st,bs)=>match qm o ((bs.take nb).drop i.toNat) i with
 |some x=> .inl (o,x.1,x.2,o4,o5,m,st,bs)
 |none=> .inr (o,o1,o2,o3,o4,o5,m,st,bs)
def bz.aM:bz.D->Prop:=λ(_,_,_,_,nb,_,_,_,bs)=>y8 nb bs
def bz.F:bz.D->bz.Y:=λ(o,o1,o2,o3,nb,o5,m,st,bs)=>match qm o (bs.take nb) 0 with
 |some x=> .inl (o,x.1,x.2,nb,o5,m,st,bs)
 |none=> .inr (o,o1,o2,o3,nb,o5,m,st,bs)
def bz.G:mR:=oo (P:=Tryz.prog) [dC.sg]
def bz.L0.E:=eE.iR bz.L0.st bz.L0.aM bz.L0.add bz.L0.F bz.L0.out
def bz.L0.call:bz.L0.D->Option bz.L0.X:=j9 bz.L0.E bz.L0.st
def bz.L1.E:=eE.iR bz.L1.st bz.L1.aM bz.L1.add bz.L1.F bz.L1.out
def bz.L1.call:bz.L1.D->Option bz.L1.X:=j9 bz.L1.E bz.L1.st
def bz.an:rN:= {loops:=pz [(1,{bo:=[0,10,11,12]}),(4,{bo:=[0,3,10,11,12,18,19,20]})],outs:=py [(1,{},{}),(4,{bo:=[0,10,11,12]},{})],iX:=qg [(1,bz.L0.E),(4,bz.L1.E)]}
def bz.A:= @zK Tryz.prog bz.G bz.an 0 Tryz.f149 _ bz.st
abbrev bz.Ok:=CC @bz.A bz.aM bz.add bz.F bz.out
def bz.L0.R:= @gN Tryz.prog bz.G bz.an 0 Tryz.f149 0 _ bz.L0.st
abbrev bz.L0.Ok:=mS Tryz.prog bz.G bz.an 0 Tryz.f149 0 bz.L0.st bz.L0.aM bz.L0.add bz.L0.F bz.L0.out
def bz.L1.R:= @gN Tryz.prog bz.G bz.an 0 Tryz.f149 1 _ bz.L1.st
abbrev bz.L1.Ok:=mS Tryz.prog bz.G bz.an 0 Tryz.f149 1 bz.L1.st bz.L1.aM bz.L1.add bz.L1.F bz.L1.out
theorem bz.L0.run:kF bz.L0.call bz.L0.aM bz.L0.add bz.L0.F:=oU (oR [.n,.d ti,.d ti,.d b8,.d (.pair ti .unit),.d ti,.d .bool,.n,.n,.d (.slice (.pair b8 eR)),.d (.slice cE),.d (.slice fh)] λ_=>by kernel_rfl)
theorem bz.L0.cM:qa @bz.L0.R bz.L0.st bz.L0.aM bz.L0.add bz.L0.F bz.L0.out bz.L0.Ok:=qD
theorem bz.L0.step{R:Type}(sV:Nat)(t11:Int)(t12:Int)(o0:cd)(o1:(Int×Unit))(eA:Int)(vN:Bool)(o5L:Nat)(o6L:Nat)(wS:(List (cd×dP)))(ur:(List cn))(CT:(List eN))(kn:AS->Option R)(kx:Exit->AS->Option R):bz.L0.R (sV,t11,t12,o0,o1,eA,vN,o5L,o6L,wS,ur,CT) kn kx=
  aP ((jx t12 t11)) (
   aP (jn t12 ((sV:Nat):Int)) (
   aP (decide ((0+(Int.toNat t12)) < (List.length CT))) (
   aP (decide ((((0+(Int.toNat t12))*36)+0)=(0+((Int.toNat t12)*36)))) (
   ah (bz.L1.call (t12,sV,t11,t12,(nth fh CT (0+(Int.toNat t12))).2.2.1,(((List.length (nth fh CT (0+(Int.toNat t12))).2.2.1):Nat):Int),(0:Int),o0,o1,eA,vN,o5L,o6L,wS,ur,CT)) λx1=>
   aP (x1.isLeft) (
    ah (x1.getLeft?) λa2=>
    kx (bz.L0.eG (a2.2.1,a2.2.2.1,a2.2.2.2,a2.1.1,a2.1.2.1,a2.1.2.2.1,a2.1.2.2.2.1,a2.1.2.2.2.2)).1 (bz.L0.eG (a2.2.1,a2.2.2.1,a2.2.2.2,a2.1.1,a2.1.2.1,a2.1.2.2.1,a2.1.2.2.2.1,a2.1.2.2.2.2)).2) (
    ah (x1.getRight?) λb3=>
    kn (bz.L0.st (b3.1.1,b3.1.2.1,(cG .i64 b3.1.2.2.1 (1:Int)),b3.2.1,b3.2.2.1,b3.2.2.2.1,b3.2.2.2.2,b3.1.2.2.2.1,b3.1.2.2.2.2.1,b3.1.2.2.2.2.2.1,b3.1.2.2.2.2.2.2.1,b3.1.2.2.2.2.2.2.2)))) none) none) none) (
   kx (bz.L0.gZ (o0,o1,eA,vN,o5L,o6L,wS,ur,CT)).1 (bz.L0.gZ (o0,o1,eA,vN,o5L,o6L,wS,ur,CT)).2):=by kernel_rfl
theorem bz.L1.run:kF bz.L1.call bz.L1.aM bz.L1.add bz.L1.F:=oU (oR [.d ti,.n,.d ti,.d ti,.d (.slice gU),.d ti,.d ti,.d b8,.d (.pair ti .unit),.d ti,.d .bool,.n,.n,.d (.slice (.pair b8 eR)),.d (.slice cE),.d (.slice fh)] λ_=>by kernel_rfl)
theorem bz.L1.cM:qa @bz.L1.R bz.L1.st bz.L1.aM bz.L1.add bz.L1.F bz.L1.out bz.L1.Ok:=qD
theorem bz.L1.step{R:Type}(i:Int)(mm:Nat)(pX:Int)(pY:Int)(t18:(List eZ))(t19:Int)(t20:Int)(nM:cd)(eQ:(Int×Unit))(iJ:Int)(tA:Bool)(mj:Nat)(uV:Nat)(ru:(List (cd×dP)))(rv:(List cn))(BM:(List eN))(kn:AS->Option R)(kx:Exit->AS->Option R):bz.L1.R (i,mm,pX,pY,t18,t19,t20,nM,eQ,iJ,tA,mj,uV,ru,rv,BM) kn kx=
  aP ((jx t20 t19)) (
   aP (jn t20 (((List.length t18):Nat):Int)) (
   same (ln Tryz.prog 4294968256) (ln Tryz.prog 4294968256) (
    ah (dC.call ((cG .i64 i (1:Int)),(nth gU t18 (Int.toNat t20)),nM,nM,eQ,iJ,tA)) λx1=>
    aP (x1.isLeft) (
     ah (x1.getLeft?) λLQ=>
     kx (bz.L1.eG ((mj,uV,ru,rv,BM),(LQ.1.1,LQ.2,LQ.1.2))).1 (bz.L1.eG ((mj,uV,ru,rv,BM),(LQ.1.1,LQ.2,LQ.1.2))).2) (
     ah (x1.getRight?) λN6=>
     kn (bz.L1.st (i,mm,pX,pY,t18,t19,(cG .i64 t20 (1:Int)),N6.1,N6.2.1,N6.2.2.1,N6.2.2.2,mj,uV,ru,rv,BM))))) none) (
   kx (bz.L1.gZ ((mm,pX,pY,mj,uV,ru,rv,BM),(nM,eQ,iJ,tA))).1 (bz.L1.gZ ((mm,pX,pY,mj,uV,ru,rv,BM),(nM,eQ,iJ,tA))).2):=by kernel_rfl
theorem bz.eq{R:Type}(ir:cd)(o1bb:(Int×Unit))(o2:Int)(o3:Bool)(o5baL:Nat)(o6baL:Nat)(o7:(List (cd×dP)))(o8:(List cn))(o9:(List eN))(k:gV->Option R):bz.A (ir,o1bb,o2,o3,o5baL,o6baL,o7,o8,o9) k=
  ah (bz.L0.call (o5baL,((o5baL:Nat):Int),(0:Int),ir,o1bb,o2,o3,o5baL,o6baL,o7,o8,o9)) λx5=>
  aP (x5.isLeft) (
   ah (x5.getLeft?) λa6=>
   k (bz.out (.inl (a6.1,a6.2.1,a6.2.2.1,a6.2.2.2.1,a6.2.2.2.2.1,a6.2.2.2.2.2.1,a6.2.2.2.2.2.2.1,a6.2.2.2.2.2.2.2)))) (
   ah (x5.getRight?) λb7=>
   k (bz.out (.inr (b7.1,b7.2.1,b7.2.2.1,b7.2.2.2.1,b7.2.2.2.2.1,b7.2.2.2.2.2.1,b7.2.2.2.2.2.2.1,b7.2.2.2.2.2.2.2.1,b7.2.2.2.2.2.2.2.2)))):=by kernel_rfl
theorem bz.L1.ok:bz.L1.Ok:=by
 refine bz.L1.cM (λ(_,_,_,_,l,_,j,_)=>l.length - j.toNat) ?_
 rintro⟨i,nb,n0,i0,l,n,j,o,o1,o2,o3,o4,o5,m,st,bs⟩ ⟨⟨hi,MI⟩,hl,hv,rfl,k,hk,rfl⟩
 have hl:l.length<=1000000:=hl
 have hk:k<=l.length:=hk
 have hi:0<=i:=hi
 have MI:i<=1000000:=MI
 by_cases iv:k < l.length
 ·have n1:nth gU l k=l[k]:=dz (t:=gU) iv
  have hd:l.drop k=l[k]::l.drop (k+1):=ax iv
  have hw:=dC.run (d:=(i+1,l[k],o,o,o1,o2,o3)) (hv _ (aL iv))
  by_cases he:(dT l[k]).any (Hq o)=true
  ·right
   refine⟨bz.L1.eG ((o4,o5,m,st,bs),(o,JT l[k],i+1)),?_,λkn kx=> ?_⟩
   rotate_left
   ·rw[bz.L1.step,bg (by omega),ag,bG (by omega) (by omega),ag,aa,n1,vz,fX (by omega) (by omega),hw]
    simp only[ab,dC.F,if_pos he,dC.add,kH,ag,jH]
   ·simp only[bz.L1.add,bz.L1.F,aa,hd,NK,if_pos he]
    rfl
  ·left
   refine⟨(i,nb,n0,i0,l,(l.length:Int),((k+1:Nat):Int),o,o1,o2,o3,o4,o5,m,st,bs),⟨⟨hi,MI⟩,hl,hv,rfl,k+1,by omega,rfl⟩,by simp only[aa];omega,?_,λkn kx=> ?_⟩
   ·simp only[bz.L1.add,bz.L1.F,aa,hd,NK,if_neg he]
   ·rw[bz.L1.step,bg (by omega),ag,bG (by omega) (by omega),ag,aa,n1,vz,fX (by omega) (by omega),hw]
    simp only[ab,dC.F,if_neg he,dC.add,fe,al,dX]
    rw[N.p9 (by omega)]
 ·right
  obtain rfl:k=l.length:=by omega
  refine⟨bz.L1.gZ ((nb,n0,i0,o4,o5,m,st,bs),(o,o1,o2,o3)),?_,λkn kx=> ?_⟩
  rotate_left
  ·rw[bz.L1.step,aX (by omega),al]
  ·simp only[bz.L1.add,bz.L1.F,aa,aZ,NK]
   rfl
theorem bz.L0.ok:bz.L0.Ok:=by
 refine bz.L0.cM (λ(nb,_,i,_)=>nb - i.toNat) ?_
 rintro⟨nb,n,i,o,o1,o2,o3,o4,o5,m,st,bs⟩ ⟨⟨h1,h2,h3⟩,rfl,k,hk,rfl⟩
 have h1:nb<=bs.length:=h1
 have h2:nb<=1000000:=h2
 have hk:k<=nb:=hk
 by_cases iv:k < nb
 ·have hb:k < bs.length:=by omega
  have n1:nth fh bs k=bs[k]:=dz (t:=fh) hb
  have hd:(bs.take nb).drop k=bs[k]::(bs.take nb).drop (k+1):=by
   have:=ax (l:=bs.take nb) (i:=k) (by rw[bQ];omega)
   rwa[List.getElem_take]at this
  obtain⟨⟨q1,q2⟩,_⟩:=h3 _ (aL hb)
  have q1:bs[k].2.2.1.length<=1000000:=j6 q1 (by decide)
  have hw:=bz.L1.run (d:=((k:Int),nb,(nb:Int),(k:Int),bs[k].2.2.1,(bs[k].2.2.1.length:Int),0,o,o1,o2,o3,o4,o5,m,st,bs)) ⟨⟨by omega,by omega⟩,q1,q2,rfl,0,aK _,rfl⟩
  have z1:((0:Int)).toNat=0:=rfl
  cases he:NK o bs[k].2.2.1 with
  |some t=>
   right
   refine⟨bz.L0.eG (o,JT t,(k:Int)+1,o4,o5,m,st,bs),?_,λkn kx=> ?_⟩
   rotate_left
   ·rw[bz.L0.step,bg (by omega),ag,bG (by omega) (by omega),ag,aa,aI,decide_eq_true hb,ag,decide_eq_true (by omega),ag,n1,hw]
    simp only[ab,bz.L1.F,z1,aJ,he,bz.L1.add,kH,ag,jH]
   ·simp only[bz.L0.add,bz.L0.F,aa,hd,qm,he]
    rfl
  |none=>
   left
   refine⟨(nb,(nb:Int),((k+1:Nat):Int),o,o1,o2,o3,o4,o5,m,st,bs),⟨⟨h1,h2,h3⟩,rfl,k+1,by omega,rfl⟩,by simp only[aa];omega,?_,λkn kx=> ?_⟩
   ·simp only[bz.L0.add,bz.L0.F,aa,hd,qm,he]
    rfl
   ·rw[bz.L0.step,bg (by omega),ag,bG (by omega) (by omega),ag,aa,aI,decide_eq_true hb,ag,decide_eq_true (by omega),ag,n1,hw]
    simp only[ab,bz.L1.F,z1,aJ,he,bz.L1.add,fe,al,dX]
    rw[N.p9 (by omega)]
 ·right
  obtain rfl:k=nb:=by omega
  refine⟨bz.L0.gZ (o,o1,o2,o3,o4,o5,m,st,bs),?_,λkn kx=> ?_⟩
  rotate_left
  ·rw[bz.L0.step,aX (by omega),al]
  ·have hd:(bs.take k).drop k=[]:=List.drop_eq_nil_of_le (by rw[bQ];omega)
   simp only[bz.L0.add,bz.L0.F,aa,hd,qm]
   rfl
theorem bz.ok:bz.Ok:=by
 rintro⟨o,o1,o2,o3,nb,o5,m,st,bs⟩ h
 have h:y8 nb bs:=h
 rw[bz.eq,bz.L0.run (d:=(nb,(nb:Int),0,o,o1,o2,o3,nb,o5,m,st,bs)) ⟨h,rfl,0,aK _,rfl⟩]
 have z1:((0:Int)).toNat=0:=rfl
 simp only[ab,bz.L0.F,z1,aJ,bz.F]
 cases qm o (bs.take nb) 0 with
 |some h=>rfl
 |none=>rfl
def bz.E:=Entry.Bi [none,none] bz.st bz.aM bz.add bz.F bz.out
def bz.call:bz.D->Option bz.X:=vU bz.E bz.st
theorem bz.run:kF bz.call bz.aM bz.add bz.F:=zF (EG [.d b8,.d (.pair ti .unit),.d ti,.d .bool,.n,.n,.d (.slice (.pair b8 eR)),.d (.slice cE),.d (.slice fh)] λ_=>by kernel_rfl)
def bz.sg:SG Tryz.prog:=⟨149,om,bz.E,.of (.PC (.fn 2 (by kernel_rfl) bz.ok (And.intro (.iR bz.L0.ok (by kernel_rfl)) (And.intro (.iR bz.L1.ok (by kernel_rfl)) trivial)))) (by rfl)⟩
abbrev fF.D:=cd×Nat×Nat×(List (cd×dP))×(List cn)×(List eN)
abbrev fF.Y:=eZ×Int×Bool×Nat×Nat×(List (cd×dP))×(List cn)×(List eN)
def fF.aM:fF.D->Prop:=λ(_,nb,_,_,_,bs)=>y8 nb bs
def fF.F:fF.D->fF.Y:=λ(o,nb,n,m,st,bs)=>match qm o (bs.take nb) 0 with
 |some x=>(x.1,x.2,true,nb,n,m,st,bs)
 |none=>(gU.zero,0,false,nb,n,m,st,bs)
def fF:Fs Tryz.prog fF.aM bP fF.F:=gC 60 Tryz.f60 (λ(o,o0baL,o1baL,o2,o3,o4)=>([.ptr (.aV 0) 0 [] 0,.d b8 o],[.obj 0 false (.pr (.ptr (.aV 1) 0 [] 0) (.pr (.aS (.aV 4) 0 [] 0 0 o0baL) (.d .unit ()))),.obj 0 false (.pr (.db (.aV 2) 0) (.pr (.aS (.aV 3) 0 [] 0 0 o1baL) (.d .unit ()))),.obj 0 false (.mp b8 eR o2),.obj 0 false (.vec 161 cE o3),.obj 0 false (.vec 60 fh o4)])) (λx=>⟨.cons (.d gU x.1) (.cons (.d ti x.2.1) (.cons (.d .bool x.2.2.1) (.nil))),[.obj 0 false (.pr (.ptr (.aV 1) 0 [] 0) (.pr (.aS (.aV 4) 0 [] 0 0 x.2.2.2.1) (.d .unit ()))),.obj 0 false (.pr (.db (.aV 2) 0) (.pr (.aS (.aV 3) 0 [] 0 0 x.2.2.2.2.1) (.d .unit ()))),.obj 0 false (.mp b8 eR x.2.2.2.2.2.1),.obj 0 false (.vec 161 cE x.2.2.2.2.2.2.1),.obj 0 false (.vec 60 fh x.2.2.2.2.2.2.2)],[]⟩) [none,some b8] [iF.sg,bz.sg] {res:=[some gU,none,none],rf:=qg [(13,(4294968256,[3,4,5,6]))]}
theorem fF.eq{R:Type}(o o0baL o1baL o2 o3 o4)(k:K1 R):fF.A (o,o0baL,o1baL,o2,o3,o4) k=
  ah (iF.call (o0baL,o1baL,o2,o3,o4)) λx1=>
  ah (bz.call (o,(0,()),0,false,x1.1,x1.2.1,x1.2.2.1,x1.2.2.2.1,x1.2.2.2.2)) λx2=>
  aP (x2.isLeft) (
   ah (x2.getLeft?) λFg=>
   k (fF.out (Fg.2.1,Fg.2.2.1,true,Fg.2.2.2.1,Fg.2.2.2.2.1,Fg.2.2.2.2.2.1,Fg.2.2.2.2.2.2.1,Fg.2.2.2.2.2.2.2))) (
   ah (x2.getRight?) λI5=>
   k (fF.out ((([]:List kC),(([]:List kO),(0,()))),0,false,I5.2.2.2.2.1,I5.2.2.2.2.2.1,I5.2.2.2.2.2.2.1,I5.2.2.2.2.2.2.2.1,I5.2.2.2.2.2.2.2.2))):=by kernel_rfl
theorem fF.ok:fF.Ok:=by
 rintro⟨o,nb,n,m,st,bs⟩ h
 have h:y8 nb bs:=h
 rw[fF.eq,iF.run (d:=(nb,n,m,st,bs)) trivial]
 simp only[ab,iF.add,iF.F]
 rw[bz.run (d:=(o,(0,()),0,false,nb,n,m,st,bs)) h]
 simp only[ab,bz.F,fF.F]
 cases qm o (bs.take nb) 0 with
 |some h=>rfl
 |none=>rfl
theorem fF.run:fF.RS:=rE [.d b8,.n,.n,.d (.slice (.pair b8 eR)),.d (.slice cE),.d (.slice fh)] fF
def fF.sg:=fF.gG fF.ok
abbrev cq.L0.D:=Int×Int×Nat×(List (cd×dP))×(List cn)
def cq.L0.st:cq.L0.D->AS:=λ(t7,t8,o0L,eQ,eA)=>⟨([.ptr (.aV 0) 0 [] 0]++aT 6 ([.d ti t7,.d ti t8]++aT 5 [])),[.obj 0 false (.pr (.db (.aV 1) 0) (.pr (.aS (.aV 2) 0 [] 0 0 o0L) (.d .unit ()))),.obj 0 false (.mp b8 eR eQ),.obj 0 false (.vec 161 cE eA)],(List.replicate 14 [])⟩
abbrev cq.L0.Y0:=Nat×(List (cd×dP))×(List cn)
abbrev cq.L0.X0:=Nat×(List (cd×dP))×(List cn)
def cq.L0.eG:cq.L0.X0->Exit×AS:=λx=>(.ret,⟨(aT 4 ([.d .bool false]++aT 9 [])),[.obj 0 false (.pr (.db (.aV 1) 0) (.pr (.aS (.aV 2) 0 [] 0 0 x.1) (.d .unit ()))),.obj 0 false (.mp b8 eR x.2.1),.obj 0 false (.vec 161 cE x.2.2)],(List.replicate 14 [])⟩)
abbrev cq.L0.Y1:=Nat×(List (cd×dP))×(List cn)
abbrev cq.L0.X1:=Nat×(List (cd×dP))×(List cn)
def cq.L0.gZ:cq.L0.X1->Exit×AS:=λx=>(.exit 0,⟨(aT 14 []),[.obj 0 false (.pr (.db (.aV 1) 0) (.pr (.aS (.aV 2) 0 [] 0 0 x.1) (.d .unit ()))),.obj 0 false (.mp b8 eR x.2.1),.obj 0 false (.vec 161 cE x.2.2)],(List.replicate 14 [])⟩)
abbrev cq.L0.X:=(cq.L0.X0)⊕(cq.L0.X1)
abbrev cq.L0.Y:=(cq.L0.Y0)⊕(cq.L0.Y1)
def cq.L0.out:cq.L0.X->Out (Exit×AS):=λx=> .br x.isLeft (.get x.getLeft? λa=> .ok (cq.L0.eG a)) (.get x.getRight? λb=> .ok (cq.L0.gZ b))
def cq.L0.add:cq.L0.D->cq.L0.Y->cq.L0.X:=λ(t7,t8,o0L,eQ,eA) y=>match y with | .inl y=> .inl y | .inr z=> .inr (z)
abbrev cq.D:=eN×Nat×(List (cd×dP))×(List cn)
abbrev cq.Y:=Bool×Nat×(List (cd×dP))×(List cn)
def vQ:Nat->LZ->Bool×LZ
 | 0,S=>(true,S)
 |k+1,S=>if S.1=0 then(false,S) else vQ k (S.1 - 1,zH S.2.1 (nth cE S.2.2 (S.1 - 1)),S.2.2)
def Hz(n:Nat)(s:List cn):Prop:=n<=s.length/\s.length<=1000000/\∀st∈s,Hy st
theorem NW:∀(k:Nat) (S:LZ),Hz S.1 S.2.2->Hz (vQ k S).2.1 (vQ k S).2.2.2
 | 0,S,h=>h
 |k+1,S,h=>by
  unfold vQ
  split
  ·exact h
  ·exact NW k _ ⟨by have:=h.1;show S.1 - 1<=S.2.2.length;omega,h.2⟩
def cq.L0.aM:cq.L0.D->Prop:=λ(d,i,n,_,s)=>Hz n s/\∃m k:Nat,d=m/\i=k/\k<=m/\m<=1000
def cq.L0.F:cq.L0.D->cq.L0.Y:=λ(d,i,n,a,s)=>if(vQ (d - i).toNat (n,a,s)).1=true then .inr (vQ (d - i).toNat (n,a,s)).2 else .inl (vQ (d - i).toNat (n,a,s)).2
def cq.aM:cq.D->Prop:=λ(b,n,_,s)=>b.2.2.1.length<=1000/\Hz n s
def cq.F:cq.D->cq.Y:=λ(b,n,a,s)=>vQ b.2.2.1.length (n,a,s)
def cq.L0.E:=eE.iR cq.L0.st cq.L0.aM cq.L0.add cq.L0.F cq.L0.out
def cq.L0.call:cq.L0.D->Option cq.L0.X:=j9 cq.L0.E cq.L0.st
def cq:Fs Tryz.prog cq.aM bP cq.F:=gC 129 Tryz.f129 (λ(b,o0baL,o1,o2)=>([.ptr (.aV 0) 0 [] 0,.d fh b],[.obj 0 false (.pr (.db (.aV 1) 0) (.pr (.aS (.aV 2) 0 [] 0 0 o0baL) (.d .unit ()))),.obj 0 false (.mp b8 eR o1),.obj 0 false (.vec 161 cE o2)])) (λx=>⟨.d .bool x.1,[.obj 0 false (.pr (.db (.aV 1) 0) (.pr (.aS (.aV 2) 0 [] 0 0 x.2.1) (.d .unit ()))),.obj 0 false (.mp b8 eR x.2.2.1),.obj 0 false (.vec 161 cE x.2.2.2)],[]⟩) [none,some fh] [cI.sg] {loops:=pz [(2,{bo:=[0,7,8]})],outs:=py [(2,{},{bo:=[4]})],iX:=qg [(2,cq.L0.E)]}
def cq.L0.R:= @gN Tryz.prog (oo cq.G) cq.an 0 Tryz.f129 0 _ cq.L0.st
abbrev cq.L0.Ok:=mS Tryz.prog (oo cq.G) cq.an 0 Tryz.f129 0 cq.L0.st cq.L0.aM cq.L0.add cq.L0.F cq.L0.out
theorem cq.L0.run:kF cq.L0.call cq.L0.aM cq.L0.add cq.L0.F:=oU (oR [.d ti,.d ti,.n,.d (.slice (.pair b8 eR)),.d (.slice cE)] λ_=>by kernel_rfl)
theorem cq.L0.cM:qa @cq.L0.R cq.L0.st cq.L0.aM cq.L0.add cq.L0.F cq.L0.out cq.L0.Ok:=qD
theorem cq.L0.step{R:Type}(t7:Int)(t8:Int)(o0L:Nat)(eQ:(List (cd×dP)))(eA:(List cn))(kn:AS->Option R)(kx:Exit->AS->Option R):cq.L0.R (t7,t8,o0L,eQ,eA) kn kx=
  aP ((jx t8 t7)) (
   ah (cI.call (o0L,eQ,eA)) λx1=>
   aP ((!x1.1)) (
    kx (cq.L0.eG (x1.2.1,x1.2.2.1,x1.2.2.2)).1 (cq.L0.eG (x1.2.1,x1.2.2.1,x1.2.2.2)).2) (
    kn (cq.L0.st (t7,(cG .i64 t8 (1:Int)),x1.2.1,x1.2.2.1,x1.2.2.2)))) (
   kx (cq.L0.gZ (o0L,eQ,eA)).1 (cq.L0.gZ (o0L,eQ,eA)).2):=by kernel_rfl
theorem cq.eq{R:Type}(b o0baL o1 o2)(k:K1 R):cq.A (b,o0baL,o1,o2) k=
  ah (cq.L0.call ((b.2.2.1.length:Int),0,o0baL,o1,o2)) λx2=>
  aP (x2.isLeft) (
   ah (x2.getLeft?) λa3=>
   k (cq.out (false,a3.1,a3.2.1,a3.2.2))) (
   ah (x2.getRight?) λb4=>
   k (cq.out (true,b4.1,b4.2.1,b4.2.2))):=by kernel_rfl
theorem cq.L0.ok:cq.L0.Ok:=by
 refine cq.L0.cM (λ(d,i,_)=>(d - i).toNat) ?_
 rintro⟨d,i,n,a,s⟩ ⟨hg,m,k,rfl,rfl,hk,hm⟩
 have hg:Hz n s:=hg
 have hk:k<=m:=hk
 have hm:m<=1000:=hm
 by_cases iv:k < m
 ·obtain⟨j,hj⟩:∃j,m=k+1+j:=⟨m - (k+1),by omega⟩
  have e1:((m:Int) - (k:Int)).toNat=j+1:=by omega
  have e2:((m:Int) - ((k+1:Nat):Int)).toNat=j:=by omega
  have hc:=cI.run (d:=(n,a,s)) hg
  by_cases h0:n=0
  ·right
   refine⟨cq.L0.eG (n,a,s),?_,λkn kx=> ?_⟩
   rotate_left
   ·rw[cq.L0.step,bg (by omega),ag,hc]
    simp only[ab,bP,cI.F,if_pos h0,ia,ag]
   ·simp only[cq.L0.add,cq.L0.F,e1,vQ,if_pos h0,cv,if_false]
    rfl
  ·left
   refine⟨((m:Int),((k+1:Nat):Int),n - 1,zH a (nth cE s (n - 1)),s),⟨⟨by have:=hg.1;omega,hg.2⟩,m,k+1,rfl,rfl,by omega,hm⟩,by simp only[e1,e2];omega,?_,λkn kx=> ?_⟩
   ·simp only[cq.L0.add,cq.L0.F,e1,e2]
    rw[vQ,if_neg h0]
   ·rw[cq.L0.step,bg (by omega),ag,hc]
    simp only[ab,bP,cI.F,if_neg h0,dj,al]
    rw[N.p9 (by omega)]
 ·right
  obtain rfl:k=m:=by omega
  refine⟨cq.L0.gZ (n,a,s),?_,λkn kx=> ?_⟩
  rotate_left
  ·rw[cq.L0.step,aX (by omega),al]
  ·have e1:((k:Int) - (k:Int)).toNat=0:=by omega
   simp only[cq.L0.add,cq.L0.F,e1,vQ,if_true]
   rfl
theorem cq.ok:cq.Ok:=by
 rintro⟨b,n,a,s⟩ ⟨hl,hg⟩
 have hl:b.2.2.1.length<=1000:=hl
 have e:((b.2.2.1.length:Int) - 0).toNat=b.2.2.1.length:=by omega
 rw[cq.eq,cq.L0.run (d:=((b.2.2.1.length:Int),0,n,a,s)) ⟨hg,b.2.2.1.length,0,rfl,rfl,aK _,hl⟩]
 simp only[ab,cq.L0.F,e,cq.F]
 cases hu:vQ b.2.2.1.length (n,a,s) with
 |mk r S=>
  cases r with
  |true=>rfl
  |false=>rfl
theorem cq.run:cq.RS:=rE [.d fh,.n,.d (.slice (.pair b8 eR)),.d (.slice cE)] cq
def cq.sg:=cq.gG cq.ok 1 ⟨.iR cq.L0.ok,trivial⟩
abbrev au.L0.D:=(List eN)×Int×Int×Nat×Nat×(List (cd×dP))×(List cn)×(List eN)×Nat×Nat×(List (cd×dP))×(List cn)×(List eN)
def au.L0.st:au.L0.D->AS:=λ(yo,t32,t33,o0L,o1L,eA,vN,GH,wM,wN,n31,Bt,vZ)=>⟨([.ptr (.aV 0) 0 [] 0,.undef,.d (.slice fh) yo]++aT 4 ([.ptr (.new 31 0) 0 [] 0]++aT 24 ([.d ti t32,.d ti t33]++aT 47 []))),[.obj 0 false (.pr (.ptr (.aV 1) 0 [] 0) (.pr (.aS (.aV 4) 0 [] 0 0 o0L) (.d .unit ()))),.obj 0 false (.pr (.db (.aV 2) 0) (.pr (.aS (.aV 3) 0 [] 0 0 o1L) (.d .unit ()))),.obj 0 false (.mp b8 eR eA),.obj 0 false (.vec 161 cE vN),.obj 0 false (.vec 60 fh GH)],(ct 31 ([[.obj 0 false (.pr (.ptr (.new 31 1) 0 [] 0) (.pr (.aS (.new 31 4) 0 [] 0 0 wM) (.d .unit ()))),.obj 0 false (.pr (.db (.new 31 2) 0) (.pr (.aS (.new 31 3) 0 [] 0 0 wN) (.d .unit ()))),.obj 0 false (.mp b8 eR n31),.obj 0 false (.vec 161 cE Bt),.obj 0 false (.vec 60 fh vZ)]]++ct 49 []))⟩
abbrev au.L0.Y0:=Nat×Nat×(List (cd×dP))×(List cn)
abbrev au.L0.X0:=((List eN)×Nat×Nat×(List (cd×dP))×(List cn)×(List eN)×(List eN))×(Nat×Nat×(List (cd×dP))×(List cn))
def au.L0.eG:au.L0.X0->Exit×AS:=λx=>(.exit 1,⟨([.ptr (.aV 0) 0 [] 0,.undef,.d (.slice fh) x.1.1]++aT 4 ([.ptr (.new 31 0) 0 [] 0]++aT 73 [])),[.obj 0 false (.pr (.ptr (.aV 1) 0 [] 0) (.pr (.aS (.aV 4) 0 [] 0 0 x.1.2.1) (.d .unit ()))),.obj 0 false (.pr (.db (.aV 2) 0) (.pr (.aS (.aV 3) 0 [] 0 0 x.1.2.2.1) (.d .unit ()))),.obj 0 false (.mp b8 eR x.1.2.2.2.1),.obj 0 false (.vec 161 cE x.1.2.2.2.2.1),.obj 0 false (.vec 60 fh x.1.2.2.2.2.2.1)],(ct 31 ([[.obj 0 false (.pr (.ptr (.new 31 1) 0 [] 0) (.pr (.aS (.new 31 4) 0 [] 0 0 x.2.1) (.d .unit ()))),.obj 0 false (.pr (.db (.new 31 2) 0) (.pr (.aS (.new 31 3) 0 [] 0 0 x.2.2.1) (.d .unit ()))),.obj 0 false (.mp b8 eR x.2.2.2.1),.obj 0 false (.vec 161 cE x.2.2.2.2),.obj 0 false (.vec 60 fh x.1.2.2.2.2.2.2)]]++ct 49 []))⟩)
abbrev au.L0.X:=au.L0.X0
abbrev au.L0.Y:=au.L0.Y0
def au.L0.out:au.L0.X->Out (Exit×AS):=λx=> .ok (au.L0.eG x)
def au.L0.add:au.L0.D->au.L0.Y->au.L0.X:=λ(yo,t32,t33,o0L,o1L,eA,vN,GH,wM,wN,n31,Bt,vZ) y=>((yo,o0L,o1L,eA,vN,GH,vZ),y)
abbrev au.L1.D:=(List eN)×Int×Int×Nat×Nat×(List (cd×dP))×(List cn)×(List eN)×Nat×Nat×(List (cd×dP))×(List cn)×(List eN)
def au.L1.st:au.L1.D->AS:=λ(t63,t64,t65,gY,uT,iJ,tA,BK,wO,wP,Bu,Bv,Bw)=>⟨([.ptr (.aV 0) 0 [] 0]++aT 6 ([.ptr (.new 31 0) 0 [] 0]++aT 55 ([.d (.slice fh) t63,.d ti t64,.d ti t65]++aT 15 []))),[.obj 0 false (.pr (.ptr (.aV 1) 0 [] 0) (.pr (.aS (.aV 4) 0 [] 0 0 gY) (.d .unit ()))),.obj 0 false (.pr (.db (.aV 2) 0) (.pr (.aS (.aV 3) 0 [] 0 0 uT) (.d .unit ()))),.obj 0 false (.mp b8 eR iJ),.obj 0 false (.vec 161 cE tA),.obj 0 false (.vec 60 fh BK)],(ct 31 ([[.obj 0 false (.pr (.ptr (.new 31 1) 0 [] 0) (.pr (.aS (.new 31 4) 0 [] 0 0 wO) (.d .unit ()))),.obj 0 false (.pr (.db (.new 31 2) 0) (.pr (.aS (.new 31 3) 0 [] 0 0 wP) (.d .unit ()))),.obj 0 false (.mp b8 eR Bu),.obj 0 false (.vec 161 cE Bv),.obj 0 false (.vec 60 fh Bw)]]++ct 49 []))⟩
abbrev au.L1.Y0:=Int
abbrev au.L1.X0:=(Nat×Nat×(List (cd×dP))×(List cn)×(List eN))×(Int)
def au.L1.eG:au.L1.X0->Exit×AS:=λx=>(.ret,⟨(aT 6 ([.d ti x.2]++aT 74 [])),[.obj 0 false (.pr (.ptr (.aV 1) 0 [] 0) (.pr (.aS (.aV 4) 0 [] 0 0 x.1.1) (.d .unit ()))),.obj 0 false (.pr (.db (.aV 2) 0) (.pr (.aS (.aV 3) 0 [] 0 0 x.1.2.1) (.d .unit ()))),.obj 0 false (.mp b8 eR x.1.2.2.1),.obj 0 false (.vec 161 cE x.1.2.2.2.1),.obj 0 false (.vec 60 fh x.1.2.2.2.2)],(List.replicate 81 [])⟩)
abbrev au.L1.Y1:=Nat×Nat×(List (cd×dP))×(List cn)×(List eN)
abbrev au.L1.X1:=(Nat×Nat×(List (cd×dP))×(List cn)×(List eN))×(Nat×Nat×(List (cd×dP))×(List cn)×(List eN))
def au.L1.gZ:au.L1.X1->Exit×AS:=λx=>(.exit 3,⟨([.ptr (.aV 0) 0 [] 0]++aT 6 ([.ptr (.new 31 0) 0 [] 0]++aT 73 [])),[.obj 0 false (.pr (.ptr (.aV 1) 0 [] 0) (.pr (.aS (.aV 4) 0 [] 0 0 x.1.1) (.d .unit ()))),.obj 0 false (.pr (.db (.aV 2) 0) (.pr (.aS (.aV 3) 0 [] 0 0 x.1.2.1) (.d .unit ()))),.obj 0 false (.mp b8 eR x.1.2.2.1),.obj 0 false (.vec 161 cE x.1.2.2.2.1),.obj 0 false (.vec 60 fh x.1.2.2.2.2)],(ct 31 ([[.obj 0 false (.pr (.ptr (.new 31 1) 0 [] 0) (.pr (.aS (.new 31 4) 0 [] 0 0 x.2.1) (.d .unit ()))),.obj 0 false (.pr (.db (.new 31 2) 0) (.pr (.aS (.new 31 3) 0 [] 0 0 x.2.2.1) (.d .unit ()))),.obj 0 false (.mp b8 eR x.2.2.2.1),.obj 0 false (.vec 161 cE x.2.2.2.2.1),.obj 0 false (.vec 60 fh x.2.2.2.2.2)]]++ct 49 []))⟩)
abbrev au.L1.X:=(au.L1.X0)⊕(au.L1.X1)
abbrev au.L1.Y:=(au.L1.Y0)⊕(au.L1.Y1)
def au.L1.out:au.L1.X->Out (Exit×AS):=λx=> .br x.isLeft (.get x.getLeft? λa=> .ok (au.L1.eG a)) (.get x.getRight? λb=> .ok (au.L1.gZ b))
def au.L1.add:au.L1.D->au.L1.Y->au.L1.X:=λ(t63,t64,t65,gY,uT,iJ,tA,BK,wO,wP,Bu,Bv,Bw) y=>match y with | .inl y=> .inl ((gY,uT,iJ,tA,BK),y) | .inr z=> .inr (((gY,uT,iJ,tA,BK),z))
abbrev au.D:=Int×(List eN)×Nat×Nat×(List (cd×dP))×(List cn)×(List eN)
def au.st:au.D->SA:=λ(depth,l,o0baL,o1baL,o2,o3,o4)=>([.ptr (.aV 0) 0 [] 0,.d ti depth,.d (.slice fh) l],[.obj 0 false (.pr (.ptr (.aV 1) 0 [] 0) (.pr (.aS (.aV 4) 0 [] 0 0 o0baL) (.d .unit ()))),.obj 0 false (.pr (.db (.aV 2) 0) (.pr (.aS (.aV 3) 0 [] 0 0 o1baL) (.d .unit ()))),.obj 0 false (.mp b8 eR o2),.obj 0 false (.vec 161 cE o3),.obj 0 false (.vec 60 fh o4)])
abbrev au.Y:=(Int×Nat×Nat×(List (cd×dP))×(List cn)×(List eN))⊕(Int×Nat×Nat×(List (cd×dP))×(List cn)×(List eN)×Nat×(List (cd×dP))×(List cn)×(List eN))
abbrev au.X:=(Int×Nat×Nat×(List (cd×dP))×(List cn)×(List eN))⊕(Int×Nat×Nat×(List (cd×dP))×(List cn)×(List eN)×Nat×(List (cd×dP))×(List cn)×(List eN))
def au.out:au.X->gV:=λx=>match x with | .inl x=>⟨.d ti x.1,[.obj 0 false (.pr (.ptr (.aV 1) 0 [] 0) (.pr (.aS (.aV 4) 0 [] 0 0 x.2.1) (.d .unit ()))),.obj 0 false (.pr (.db (.aV 2) 0) (.pr (.aS (.aV 3) 0 [] 0 0 x.2.2.1) (.d .unit ()))),.obj 0 false (.mp b8 eR x.2.2.2.1),.obj 0 false (.vec 161 cE x.2.2.2.2.1),.obj 0 false (.vec 60 fh x.2.2.2.2.2)],[]⟩ | .inr x=>⟨.d ti x.1,[.obj 0 false (.pr (.ptr (.new 0 0) 0 [] 0) (.pr (.aS (.new 0 3) 0 [] 0 0 x.2.1) (.d .unit ()))),.obj 0 false (.pr (.db (.aV 2) 0) (.pr (.aS (.aV 3) 0 [] 0 0 x.2.2.1) (.d .unit ()))),.obj 0 false (.mp b8 eR x.2.2.2.1),.obj 0 false (.vec 161 cE x.2.2.2.2.1),.obj 0 false (.vec 60 fh x.2.2.2.2.2.1)],[.obj 0 false (.pr (.db (.new 0 1) 0) (.pr (.aS (.new 0 2) 0 [] 0 0 x.2.2.2.2.2.2.1) (.d .unit ()))),.obj 0 false (.mp b8 eR x.2.2.2.2.2.2.2.1),.obj 0 false (.vec 161 cE x.2.2.2.2.2.2.2.2.1),.obj 0 false (.vec 60 fh x.2.2.2.2.2.2.2.2.2)]⟩
def au.add:au.D->au.Y->au.X:=λ(depth,l,o0baL,o1baL,o2,o3,o4) y=>match y with | .inl y=> .inl y | .inr y=> .inr y
abbrev UZ:=Nat×Nat×At×List cn×List eN
def rR(bs:List eN):Nat->Nat×LZ->Nat×LZ
 | 0,X=>X
 |k+1,X=>rR bs k (X.1 - 1,(vQ (nth fh bs (X.1 - 1)).2.2.1.length X.2).2)
def lP:List eN->UZ->Int×UZ
 |[],S=>(0,S)
 |b::l,S=>if(qz b S.1 (S.2.1,S.2.2.1,S.2.2.2.1) S.2.2.2.2).1≠0 then qz b S.1 (S.2.1,S.2.2.1,S.2.2.2.1) S.2.2.2.2 else lP l (qz b S.1 (S.2.1,S.2.2.1,S.2.2.2.1) S.2.2.2.2).2
def C7:List eN->UZ->Prop
 |[],_=>True
 |b::l,S=>fT.aM (b,S)/\((qz b S.1 (S.2.1,S.2.2.1,S.2.2.2.1) S.2.2.2.2).1=0->C7 l (qz b S.1 (S.2.1,S.2.2.1,S.2.2.2.1) S.2.2.2.2).2)
def au.L0.aM:au.L0.D->Prop:=λ(_,d,i,_,_,_,_,_,nb,n,_,s,bs)=>Hz n s/\y8 nb bs/\∃m k:Nat,d=m/\i=k/\k<=m/\m<=1000/\m<=k+nb
def au.L0.F:au.L0.D->au.L0.Y:=λ(_,d,i,_,_,_,_,_,nb,n,a,s,bs)=>rR bs (d - i).toNat (nb,n,a,s)
def au.L1.aM:au.L1.D->Prop:=λ(l,m,i,_,_,_,_,_,nb,n,a,s,bs)=>l.length<=1000000/\m=(l.length:Int)/\∃k:Nat,k<=l.length/\i=k/\C7 (l.drop k) (nb,n,a,s,bs)
def au.L1.F:au.L1.D->au.L1.Y:=λ(l,_,i,_,_,_,_,_,nb,n,a,s,bs)=>if(lP (l.drop i.toNat) (nb,n,a,s,bs)).1≠0 then .inl (lP (l.drop i.toNat) (nb,n,a,s,bs)).1 else .inr (lP (l.drop i.toNat) (nb,n,a,s,bs)).2
def xh(d:Int)(nb n:Nat)(a:At)(s:List cn)(bs:List eN):UZ:=
 ((rR (bs.take nb) d.toNat (nb,n,iM a,s.take n)).1,(rR (bs.take nb) d.toNat (nb,n,iM a,s.take n)).2.1,(rR (bs.take nb) d.toNat (nb,n,iM a,s.take n)).2.2.1,(rR (bs.take nb) d.toNat (nb,n,iM a,s.take n)).2.2.2,bs.take nb)
def au.aM:au.D->Prop:=λ(d,l,nb,n,a,s,bs)=>y8 nb bs/\sG 400 n a s/\l.length<=1000000/\((1<=d/\d<=nb/\d < l.length/\d<=6)->C7 l (xh d nb n a s bs))
def au.F:au.D->au.Y:=λ(d,l,nb,n,a,s,bs)=>
 if 1<=d/\d<=nb/\d < l.length then
  if d<=6 then
   if(lP l (xh d nb n a s bs)).1≠0 then .inl ((lP l (xh d nb n a s bs)).1,nb,n,a,s,bs)
   else .inr (0,(lP l (xh d nb n a s bs)).2.1,n,a,s,bs,(lP l (xh d nb n a s bs)).2.2)
  else .inl (25,nb,n,a,s,bs)
 else .inl (1,nb,n,a,s,bs)
def au.G:mR:=oo (P:=Tryz.prog) [de.sg,gF.sg,cq.sg,fT.sg]
def au.L0.E:=eE.iR au.L0.st au.L0.aM au.L0.add au.L0.F au.L0.out
def au.L0.call:au.L0.D->Option au.L0.X:=j9 au.L0.E au.L0.st
def au.L1.E:=eE.iR au.L1.st au.L1.aM au.L1.add au.L1.F au.L1.out
def au.L1.call:au.L1.D->Option au.L1.X:=j9 au.L1.E au.L1.st
def au.an:rN:= {loops:=pz [(7,{bo:=[0,2,7,32,33],sites:=[31]}),(13,{bo:=[0,7,63,64,65],sites:=[31],owns:=[⟨7,[.snd,.fst],31,30⟩]})],outs:=py [(7,{bo:=[0,2,7],sites:=[31]},{bo:=[6]}),(13,{bo:=[0,7],sites:=[31]},{bo:=[6]})],iX:=qg [(7,au.L0.E),(13,au.L1.E)]}
def au.A:= @zK Tryz.prog au.G au.an 0 Tryz.f61 _ au.st
abbrev au.Ok:=CC @au.A au.aM au.add au.F au.out
def au.L0.R:= @gN Tryz.prog au.G au.an 0 Tryz.f61 0 _ au.L0.st
abbrev au.L0.Ok:=mS Tryz.prog au.G au.an 0 Tryz.f61 0 au.L0.st au.L0.aM au.L0.add au.L0.F au.L0.out
def au.L1.R:= @gN Tryz.prog au.G au.an 0 Tryz.f61 1 _ au.L1.st
abbrev au.L1.Ok:=mS Tryz.prog au.G au.an 0 Tryz.f61 1 au.L1.st au.L1.aM au.L1.add au.L1.F au.L1.out
theorem au.L0.run:kF au.L0.call au.L0.aM au.L0.add au.L0.F:=oU (oR [.d (.slice fh),.d ti,.d ti,.n,.n,.d (.slice (.pair b8 eR)),.d (.slice cE),.d (.slice fh),.n,.n,.d (.slice (.pair b8 eR)),.d (.slice cE),.d (.slice fh)] λ_=>by kernel_rfl)
theorem au.L0.cM:LU @au.L0.R au.L0.st au.L0.aM au.L0.add au.L0.F au.L0.eG au.L0.Ok:=QK
theorem au.L0.step{R:Type}(yo:(List eN))(t32:Int)(t33:Int)(o0L:Nat)(o1L:Nat)(eA:(List (cd×dP)))(vN:(List cn))(GH:(List eN))(wM:Nat)(wN:Nat)(n31:(List (cd×dP)))(Bt:(List cn))(vZ:(List eN))(kn:AS->Option R)(kx:Exit->AS->Option R):au.L0.R (yo,t32,t33,o0L,o1L,eA,vN,GH,wM,wN,n31,Bt,vZ) kn kx=
  aP ((jx t33 t32)) (
   aP (jn (dJ .i64 ((wM:Nat):Int) (1:Int)) ((wM:Nat):Int)) (
   aP (decide ((0+(Int.toNat (dJ .i64 ((wM:Nat):Int) (1:Int)))) < (List.length vZ))) (
   aP (decide ((((0+(Int.toNat (dJ .i64 ((wM:Nat):Int) (1:Int))))*36)+0)=(0+((Int.toNat (dJ .i64 ((wM:Nat):Int) (1:Int)))*36)))) (
   ah (cq.call ((nth fh vZ (0+(Int.toNat (dJ .i64 ((wM:Nat):Int) (1:Int))))),wN,n31,Bt)) λx1=>
   aP (inc (dJ .i64 ((wM:Nat):Int) (1:Int)) ((wM:Nat):Int)) (
   kn (au.L0.st (yo,t32,(cG .i64 t33 (1:Int)),o0L,o1L,eA,vN,GH,((Int.toNat (dJ .i64 ((wM:Nat):Int) (1:Int))) - 0),x1.2.1,x1.2.2.1,x1.2.2.2,vZ))) none) none) none) none) (
   kx (au.L0.eG ((yo,o0L,o1L,eA,vN,GH,vZ),(wM,wN,n31,Bt))).1 (au.L0.eG ((yo,o0L,o1L,eA,vN,GH,vZ),(wM,wN,n31,Bt))).2):=by kernel_rfl
theorem au.L1.run:kF au.L1.call au.L1.aM au.L1.add au.L1.F:=oU (oR [.d (.slice fh),.d ti,.d ti,.n,.n,.d (.slice (.pair b8 eR)),.d (.slice cE),.d (.slice fh),.n,.n,.d (.slice (.pair b8 eR)),.d (.slice cE),.d (.slice fh)] λ_=>by kernel_rfl)
theorem au.L1.cM:qa @au.L1.R au.L1.st au.L1.aM au.L1.add au.L1.F au.L1.out au.L1.Ok:=qD
theorem au.L1.step{R:Type}(t63:(List eN))(t64:Int)(t65:Int)(gY:Nat)(uT:Nat)(iJ:(List (cd×dP)))(tA:(List cn))(BK:(List eN))(wO:Nat)(wP:Nat)(Bu:(List (cd×dP)))(Bv:(List cn))(Bw:(List eN))(kn:AS->Option R)(kx:Exit->AS->Option R):au.L1.R (t63,t64,t65,gY,uT,iJ,tA,BK,wO,wP,Bu,Bv,Bw) kn kx=
  aP ((jx t65 t64)) (
   aP (jn t65 (((List.length t63):Nat):Int)) (
   ah (fT.call ((nth fh t63 (Int.toNat t65)),wO,wP,Bu,Bv,Bw)) λx1=>
   aP ((w9 x1.1 (0:Int))) (
    kx (au.L1.eG ((gY,uT,iJ,tA,BK),x1.1)).1 (au.L1.eG ((gY,uT,iJ,tA,BK),x1.1)).2) (
    kn (au.L1.st (t63,t64,(cG .i64 t65 (1:Int)),gY,uT,iJ,tA,BK,x1.2.1,x1.2.2.1,x1.2.2.2.1,x1.2.2.2.2.1,x1.2.2.2.2.2)))) none) (
   kx (au.L1.gZ ((gY,uT,iJ,tA,BK),(wO,wP,Bu,Bv,Bw))).1 (au.L1.gZ ((gY,uT,iJ,tA,BK),(wO,wP,Bu,Bv,Bw))).2):=by kernel_rfl
theorem au.eq{R:Type}(depth:Int)(l:(List eN))(o0baL:Nat)(o1baL:Nat)(o2:(List (cd×dP)))(o3:(List cn))(o4:(List eN))(k:gV->Option R):au.A (depth,l,o0baL,o1baL,o2,o3,o4) k=
  aP ((jx depth (1:Int))) (
   k (au.out (.inl ((1:Int),o0baL,o1baL,o2,o3,o4)))) (
   ah (de.call (o0baL,o1baL,o2,o3,o4)) λx1=>
   aP ((uL depth x1.2)) (
    k (au.out (.inl ((1:Int),x1.1.1,x1.1.2.1,x1.1.2.2.1,x1.1.2.2.2.1,x1.1.2.2.2.2)))) (
    aP ((JA (((List.length l):Nat):Int) depth)) (
     k (au.out (.inl ((1:Int),x1.1.1,x1.1.2.1,x1.1.2.2.1,x1.1.2.2.2.1,x1.1.2.2.2.2)))) (
     aP ((uL depth (6:Int))) (
      k (au.out (.inl ((25:Int),x1.1.1,x1.1.2.1,x1.1.2.2.1,x1.1.2.2.2.1,x1.1.2.2.2.2)))) (
      ah (gF.call (x1.1.1,x1.1.2.1,x1.1.2.2.1,x1.1.2.2.2.1,x1.1.2.2.2.2)) λx2=>
      ah (au.L0.call (l,depth,(0:Int),x2.1,x2.2.1,x2.2.2.1,x2.2.2.2.1,x2.2.2.2.2.1,x2.2.2.2.2.2.1,x2.2.2.2.2.2.2.1,x2.2.2.2.2.2.2.2.1,x2.2.2.2.2.2.2.2.2.1,x2.2.2.2.2.2.2.2.2.2)) λx4=>
      ah (au.L1.call (x4.1.1,(((List.length x4.1.1):Nat):Int),(0:Int),x4.1.2.1,x4.1.2.2.1,x4.1.2.2.2.1,x4.1.2.2.2.2.1,x4.1.2.2.2.2.2.1,x4.2.1,x4.2.2.1,x4.2.2.2.1,x4.2.2.2.2,x4.1.2.2.2.2.2.2)) λx7=>
      aP (x7.isLeft) (
       ah (x7.getLeft?) λa8=>
       k (au.out (.inl (a8.2,a8.1.1,a8.1.2.1,a8.1.2.2.1,a8.1.2.2.2.1,a8.1.2.2.2.2)))) (
       ah (x7.getRight?) λb9=>
       k (au.out (.inr ((0:Int),b9.2.1,b9.1.2.1,b9.1.2.2.1,b9.1.2.2.2.1,b9.1.2.2.2.2,b9.2.2.1,b9.2.2.2.1,b9.2.2.2.2.1,b9.2.2.2.2.2)))))))):=by kernel_rfl
theorem au.L0.ok:au.L0.Ok:=by
 refine au.L0.cM (λ(_,d,i,_)=>(d - i).toNat) ?_
 rintro⟨l,d,i,nb0,n0,a0,s0,bs0,nb,n,a,s,bs⟩ ⟨hg,⟨h1,h2,h3⟩,m,k,rfl,rfl,hk,hm,hn⟩
 have hg:Hz n s:=hg
 have h1:nb<=bs.length:=h1
 have h2:nb<=1000000:=h2
 have hk:k<=m:=hk
 have hm:m<=1000:=hm
 have hn:m<=k+nb:=hn
 by_cases iv:k < m
 ·left
  obtain⟨j,hj⟩:∃j,m=k+1+j:=⟨m - (k+1),by omega⟩
  obtain⟨p,rfl⟩:∃p,nb=p+1:=⟨nb - 1,by omega⟩
  have e1:((m:Int) - (k:Int)).toNat=j+1:=by omega
  have e2:((m:Int) - ((k+1:Nat):Int)).toNat=j:=by omega
  have e3:dJ .i64 (((p+1:Nat):Nat):Int) (1:Int)=(p:Int):=by rw[fP (by omega) (by omega)];omega
  have hp:p < bs.length:=by omega
  have n1:nth fh bs p=bs[p]:=dz (t:=fh) hp
  have hu:=cq.run (d:=(bs[p],n,a,s)) ⟨(h3 _ (aL hp)).1.1,hg⟩
  refine⟨(l,(m:Int),((k+1:Nat):Int),nb0,n0,a0,s0,bs0,p,(vQ bs[p].2.2.1.length (n,a,s)).2.1,(vQ bs[p].2.2.1.length (n,a,s)).2.2.1,(vQ bs[p].2.2.1.length (n,a,s)).2.2.2,bs),⟨NW _ (n,a,s) hg,⟨by omega,by omega,h3⟩,m,k+1,rfl,rfl,by omega,hm,by omega⟩,by simp only[e1,e2];omega,?_,λkn kx=> ?_⟩
  ·simp only[au.L0.add,au.L0.F,e1,e2,rR,kZ,n1]
  ·rw[au.L0.step,bg (by omega),ag,e3,bG (by omega) (by omega),ag]
   simp only[aa,aI,cF,aY hp,ag,decide_true,n1,Nat.sub_zero]
   rw[hu]
   simp only[ab,bP,cq.F]
   rw[oz (by omega) (by omega),ag,N.p9 (by omega)]
 ·right
  obtain rfl:k=m:=by omega
  intro R kn kx
  have e1:((k:Int) - (k:Int)).toNat=0:=by omega
  rw[au.L0.step,aX (by omega),al]
  simp only[au.L0.add,au.L0.F,e1,rR]
theorem au.L1.ok:au.L1.Ok:=by
 refine au.L1.cM (λ(l,_,i,_)=>l.length - i.toNat) ?_
 rintro⟨l,m,i,nb0,n0,a0,s0,bs0,nb,n,a,s,bs⟩ ⟨hl,rfl,k,hk,rfl,hg⟩
 have hl:l.length<=1000000:=hl
 have hk:k<=l.length:=hk
 by_cases iv:k < l.length
 ·have n1:nth fh l k=l[k]:=dz (t:=fh) iv
  have hd:l.drop k=l[k]::l.drop (k+1):=ax iv
  have hg:C7 (l.drop k) (nb,n,a,s,bs):=hg
  rw[hd]at hg
  obtain⟨g1,g2⟩:=hg
  have hw:=fT.run (d:=(l[k],nb,n,a,s,bs)) g1
  obtain⟨r,hr⟩:∃r,qz l[k] nb (n,a,s) bs=r:=⟨_,rfl⟩
  simp only[bP,fT.F,hr]at hw g2
  by_cases he:r.1=0
  ·left
   refine⟨(l,(l.length:Int),((k+1:Nat):Int),nb0,n0,a0,s0,bs0,r.2.1,r.2.2.1,r.2.2.2.1,r.2.2.2.2.1,r.2.2.2.2.2),⟨hl,rfl,k+1,by omega,rfl,g2 he⟩,by simp only[aa];omega,?_,λkn kx=> ?_⟩
   ·simp only[au.L1.add,au.L1.F,aa,hd]
    rw[show lP (l[k]::l.drop (k+1)) (nb,n,a,s,bs)=lP (l.drop (k+1)) r.2 by rw[lP];simp only[hr];rw[if_neg (λe=>e he)]]
   ·rw[au.L1.step,bg (by omega),ag,bG (by omega) (by omega),ag,aa,n1,hw]
    simp only[ab]
    rw[ff he,al,N.p9 (by omega)]
  ·right
   refine⟨au.L1.eG ((nb0,n0,a0,s0,bs0),r.1),?_,λkn kx=> ?_⟩
   rotate_left
   ·rw[au.L1.step,bg (by omega),ag,bG (by omega) (by omega),ag,aa,n1,hw]
    simp only[ab]
    rw[iH he,ag]
   ·simp only[au.L1.add,au.L1.F,aa,hd]
    rw[show lP (l[k]::l.drop (k+1)) (nb,n,a,s,bs)=r by rw[lP];simp only[hr];rw[if_pos he],if_pos he]
    rfl
 ·right
  obtain rfl:k=l.length:=by omega
  refine⟨au.L1.gZ ((nb0,n0,a0,s0,bs0),(nb,n,a,s,bs)),?_,λkn kx=> ?_⟩
  rotate_left
  ·rw[au.L1.step,aX (by omega),al]
  ·simp only[au.L1.add,au.L1.F,aa,aZ,lP]
   rw[if_neg (λe=>e rfl)]
   rfl
theorem au.ok:au.Ok:=by
 rintro⟨d,l,nb,n,a,s,bs⟩ ⟨hc,hg,hl,hA⟩
 have hg:sG 400 n a s:=hg
 have hl:l.length<=1000000:=hl
 obtain⟨h1,h2,h3⟩:=id hc
 have h1:nb<=bs.length:=h1
 have h2:nb<=1000000:=h2
 have ch:=de.run (d:=(nb,n,a,s,bs)) trivial
 rw[au.eq]
 by_cases a1:1<=d
 rotate_left
 ·rw[bg (by omega),ag]
  simp only[au.F]
  rw[if_neg (λe:1<=d/\d<=(nb:Int)/\d < (l.length:Int)=>a1 e.1)]
  rfl
 rw[aX (by omega),al,ch]
 simp only[ab,de.add,de.F]
 by_cases a2:d<=nb
 rotate_left
 ·rw[eY (by omega),ag]
  simp only[au.F]
  rw[if_neg (λe:1<=d/\d<=(nb:Int)/\d < (l.length:Int)=>a2 e.2.1)]
  rfl
 rw[eC (by omega),al]
 by_cases a3:d < l.length
 rotate_left
 ·rw[rj (by omega),ag]
  simp only[au.F]
  rw[if_neg (λe:1<=d/\d<=(nb:Int)/\d < (l.length:Int)=>a3 e.2.2)]
  rfl
 rw[nP (by omega),al]
 by_cases a4:d<=6
 rotate_left
 ·rw[eY (by omega),ag]
  simp only[au.F]
  rw[if_pos ⟨a1,a2,a3⟩,if_neg a4]
  rfl
 have hA:=hA ⟨a1,a2,a3,a4⟩
 obtain⟨SJ,_⟩:=hg.canon
 have e0:(d - 0).toNat=d.toNat:=by omega
 have z1:((0:Int)).toNat=0:=rfl
 rw[eC (by omega),al,gF.run (d:=(nb,n,a,s,bs)) ⟨hg.mono (by decide),hc⟩]
 simp only[ab,gF.add,gF.F]
 rw[au.L0.run (d:=(l,d,0,nb,n,a,s,bs,nb,n,iM a,s.take n,bs.take nb)) ⟨⟨SJ.le,by have:=SJ.len;omega,SJ.Vx⟩,⟨by rw[bQ];omega,h2,λb hb=>h3 b (iZ hb)⟩,d.toNat,0,by omega,rfl,aK _,by omega,by omega⟩]
 simp only[ab,au.L0.add,au.L0.F,e0]
 obtain⟨B,hB⟩:∃B,rR (bs.take nb) d.toNat (nb,n,iM a,s.take n)=B:=⟨_,rfl⟩
 have eB:xh d nb n a s bs=(B.1,B.2.1,B.2.2.1,B.2.2.2,bs.take nb):=by unfold xh;rw[hB]
 rw[eB]at hA
 rw[hB,au.L1.run (d:=(l,(l.length:Int),0,nb,n,a,s,bs,B.1,B.2.1,B.2.2.1,B.2.2.2,bs.take nb)) ⟨hl,rfl,0,aK _,rfl,hA⟩]
 have key:au.F (d,l,nb,n,a,s,bs)=if(lP l (B.1,B.2.1,B.2.2.1,B.2.2.2,bs.take nb)).1≠0 then .inl ((lP l (B.1,B.2.1,B.2.2.1,B.2.2.2,bs.take nb)).1,nb,n,a,s,bs)
   else .inr (0,(lP l (B.1,B.2.1,B.2.2.1,B.2.2.2,bs.take nb)).2.1,n,a,s,bs,(lP l (B.1,B.2.1,B.2.2.1,B.2.2.2,bs.take nb)).2.2):=by
  simp only[au.F]
  rw[if_pos ⟨a1,a2,a3⟩,if_pos a4,eB]
 rw[key]
 simp only[ab,au.L1.F,z1,aJ]
 by_cases he:(lP l (B.1,B.2.1,B.2.2.1,B.2.2.2,bs.take nb)).1=0
 ·rw[if_neg (λe=>e he),if_neg (λe=>e he)]
  rfl
 ·rw[if_pos he,if_pos he]
  rfl
def au.E:=Entry.Bi [none,some ti,some (.slice fh)] au.st au.aM au.add au.F au.out
def au.call:au.D->Option au.X:=vU au.E au.st
theorem au.run:kF au.call au.aM au.add au.F:=zF (EG [.d ti,.d (.slice fh),.n,.n,.d (.slice (.pair b8 eR)),.d (.slice cE),.d (.slice fh)] λ_=>by kernel_rfl)
def au.sg:SG Tryz.prog:=⟨61,om,au.E,.of (.PC (.fn 2 (by kernel_rfl) au.ok (And.intro (.iR au.L0.ok (by kernel_rfl)) (And.intro (.iR au.L1.ok (by kernel_rfl)) trivial)))) (by rfl)⟩
def vf:List Int:=List.replicate 32 0
def LW(K af dl:Int):Lk:=([([fN K],(af,(dl,(0,()))))],())
def AW(K af dl:Int):At:=[tW 0 ((100:Int),(LW K af dl,()))]
def TW(K:Int):eZ:=([((vf,((0:Int),())),(((0:Int),(([]:List Sg),((0:Int),()))),()))],([((90:Int),(LW K 0 0,()))],((0:Int),())))
def UW(K:Int):eZ:=zV (TW K) (Int.toNat 0) (CZ (TW K) 0 [K] 0)
def BW(K h:Int):At:=[((lW (TW K),((0:Int),())),(((90:Int),(LW K 0 0,())),(h,())))]
def KW(K:Int):Prop:=0 < K/\K < 2305843009213688669
theorem Vq(K:Int){af dl:Int}(ha:0<=af/\af<=1048576)(hd:0<=dl/\dl<=1048576):lN (LW K af dl)=true:=by
 have e:lN (LW K af dl)=((uk ([fN K],af,dl,0,()) && true) && true):=rfl
 rw[e,Ot _ _ _ (eK rfl)]
 simp only[List.all_cons,List.all_nil,A6,xu,aY ha,aY hd,Bool.and_self]
theorem WX(K af dl:Int):J6 (LW K af dl):=λb hb=>by
 rw[bI.1 (show b∈ [([fN K],(af,(dl,(0,()))))] from hb)]
 exact⟨Ii (Jg K) KO,u0⟩
theorem N7:Sm vf:=⟨dg,λx hx=>by rw[(List.mem_replicate.1 (show x∈List.replicate 32 (0:Int) from hx)).2];exact⟨by decide,by decide⟩⟩
theorem RR(K:Int):jk (TW K)=true:=by
 have e2:sz 0 (TW K).2.1=(((sm 0 && (sm 90 && true)) && lN (LW K 0 0)) && true):=rfl
 have e1:uo [] (TW K).1=true:=by
  show uo [] [((vf,((0:Int),())),(((0:Int),(([]:List Sg),((0:Int),()))),()))]=true
  rw[uo,uo]
  rfl
 unfold jk
 rw[e1,e2,Vq K ⟨by decide,by decide⟩ ⟨by decide,by decide⟩]
 rfl
theorem Ym(K:Int):rK (TW K):=by
 refine⟨⟨λo ho=> ?_,by show 1<=_;decide,by show 1<=_;decide⟩,λx hx=> ?_,by show(0:Int)<=_;decide⟩
 ·rw[bI.1 (show o∈ [((90:Int),(LW K 0 0,()))] from ho)]
  exact⟨WX K 0 0,by show 1<=_;decide⟩
 ·rw[bI.1 (show x∈ [((vf,((0:Int),())),(((0:Int),(([]:List Sg),((0:Int),()))),()))] from hx)]
  exact⟨N7,⟨λs hs=>(by cases hs),u0⟩,aK _⟩
theorem UG{K:Int}(hk:KW K):tN (TW K) 0 0 [K]=true:=by
 unfold tN
 rw[RR,aY ⟨by decide,by show(0:Int) < ((1:Nat):Int);decide,by decide,by decide,eK rfl⟩]
 simp only[jz,List.any_nil,wk]
 have:=hk.1;have:=hk.2
 rw[cH (by omega)]
 rfl
theorem sH{K:Int}(hk:KW K):jk (UW K)=true/\rK (UW K)/\lW (UW K)=lW (TW K)/\dT (UW K)=dT (TW K)/\iq (UW K)=iq (TW K):=NI (Ym K) (UG hk) u0
theorem Xk{K:Int}(hk:KW K):dT (UW K)=[(vf,((0:Int),()))]:=by
 rw[(sH hk).2.2.2.1]
 unfold dT
 rw[if_pos (RR K)]
 rfl
theorem WY{K:Int}(hk:KW K):iq (UW K)=[(lW (TW K),((0:Int),()))]:=by
 rw[(sH hk).2.2.2.2]
 unfold iq
 rw[if_pos (RR K)]
 rfl
theorem Zn(K:Int):(UW K).1=[((vf,((0:Int),())),(((((0:Nat):Int),([K].map (λk=>kK k (lW (TW K))),((0:Int),())))),()))]:=rfl
theorem W1{K:Int}(hk:KW K)(af dl:Int)(ha:0<=af/\af<=1048576)(hd:0<=dl/\dl<=1048576)(m:List Int)(h a:Int):
  qv (LW K af dl) (((0:Nat):Int),([K].map (λk=>kK k m),((0:Int),()))) m h a=if h < af\/a < dl then 11 else 0:=
 (Pg (l:=LW K af dl) (i:=0) (b:=([K].map fN,af,dl,0,())) (Vq K ha hd) (by show 0 < 1;decide) rfl _ _ _ _ _).trans (EW [K] (Uw hk) af dl 0 0 m h a (.inl rfl))
theorem gW(K af dl:Int):dG b8 (vf,((0:Int),())) (AW K af dl)=some (((100:Int),(LW K af dl,())),((0:Int),())):=by
 unfold AW tW
 rw[iN]
 exact if_pos ((yt _ _).2 rfl)
theorem nW(K af dl:Int)(m:List Int)(hm:¬m=vf):dG b8 (m,((0:Int),())) (AW K af dl)=none:=by
 unfold AW tW
 rw[iN,if_neg,sQ]
 intro e
 have:=(yt _ _).1 e
 exact hm (congrArg (λo:cd=>o.1) this)
theorem Uo{h:Int}{m:List Int}{a:At}{x:kC}{c:dP}(hg:dG b8 x.1 a=some c):rk h m a [x] 0=if qv c.1.2.1 x.2.1 m h (h - c.2.1)≠0 then .inl (qv c.1.2.1 x.2.1 m h (h - c.2.1)) else .inr (0+c.1.1):=by
 simp only[rk,hg]
theorem VT{K:Int}(hk:KW K)(fL:¬lW (TW K)=vf){af dl h:Int}(ha:0<=af/\af<=1048576)(hd:0<=dl/\dl<=1048576)(h1:1<=h)(h2:h<=1048576):e7 (UW K) h (AW K af dl)=if h < af\/h < dl then(0,11) else(10,0):=by
 have X3:=WY hk
 have F8:=Zn K
 have dq:=(sH hk).2.2.1
 have dr:=W1 hk af dl ha hd
 generalize lW (TW K)=m at fL X3 F8 dq
 unfold e7
 rw[if_pos ⟨(sH hk).1,h1,h2⟩,F8,dq]
 have e0:h - ((0:Int))=h:=by omega
 have e:rk h m (AW K af dl) [((vf,((0:Int),())),(((((0:Nat):Int),([K].map (λk=>kK k m),((0:Int),())))),()))] 0=if h < af\/h < dl then .inl 11 else .inr 100:=by
  refine(Uo (gW K af dl)).trans ?_
  show(if qv (LW K af dl) (((0:Nat):Int),([K].map (λk=>kK k m),((0:Int),()))) m h (h - 0)≠0 then(.inl (qv (LW K af dl) (((0:Nat):Int),([K].map (λk=>kK k m),((0:Int),()))) m h (h - 0)):Int⊕Int) else .inr (0+100))=_
  rw[e0,dr]
  by_cases hh:h < af\/h < dl
  ·rw[if_pos hh,if_pos hh,if_pos (by decide)]
  ·rw[if_neg hh,if_neg hh,if_neg (λe=>e rfl)]
   rfl
 rw[e,X3]
 by_cases hh:h < af\/h < dl
 ·rw[if_pos hh,if_pos hh]
 ·rw[if_neg hh,if_neg hh]
  have n1:([(m,((0:Int),()))]:List cd).any (pv (AW K af dl))=false:=by
   simp only[jz,List.any_nil,pv,nW K af dl m fL,Option.isSome_none,Bool.or_false]
  simp only[n1,cv,if_false]
  rfl
theorem VN{K:Int}(hk:KW K)(af dl h:Int):jV (UW K) h (AW K af dl)=BW K h:=by
 unfold jV BW
 rw[Xk hk,WY hk]
 generalize lW (TW K)=m
 have e:so [(vf,((0:Int),()))] (AW K af dl)=[]:=by
  exact FP
 rw[e]
 rfl
theorem Yk{K:Int}(hk:KW K)(af dl:Int):stepOf (UW K) (AW K af dl)=([((vf,((0:Int),())),((((100:Int),(LW K af dl,())),((0:Int),())),()))],([(lW (TW K),((0:Int),()))],())):=by
 unfold stepOf
 rw[Xk hk,WY hk]
 rw[Kw (gW K af dl)]
theorem Zz{K:Int}(hk:KW K)(af dl h:Int):zH (BW K h) (stepOf (UW K) (AW K af dl))=AW K af dl:=by
 rw[Yk hk]
 unfold zH BW
 generalize lW (TW K)=m
 have e:so [(m,((0:Int),()))] [((m,((0:Int),())),(((90:Int),(LW K 0 0,())),(h,())))]=[]:=by
  exact FP
 rw[e]
 rfl
theorem Sx(K:Int){af dl:Int}(ha:0<=af/\af<=1048576)(hd:0<=dl/\dl<=1048576):sG 0 0 (AW K af dl) []:=by
 refine⟨⟨dI.2 ⟨λh=>(by cases h),ja⟩,λp hp=> ?_⟩,aw _,aw _,λst h=>(by cases h),by show(100+0:Int)<=_;decide,by show 1<=_;decide⟩
 rw[bI.1 (show p∈ [tW 0 ((100:Int),(LW K af dl,()))] from hp)]
 exact⟨N7,Vq K ha hd,WX K af dl,by show(0:Int)<=100;decide,by show(100:Int)<=_;decide,kS 0,by show(0:Int)<=_;decide⟩
theorem Uu(K:Int){af dl:Int}(ha:0<=af/\af<=1048576)(hd:0<=dl/\dl<=1048576):eO.call [((100:Int),(LW K af dl,()))]=some (.inr (AW K af dl,[],[])):=by
 have e:K5 [((100:Int),(LW K af dl,()))]=some (AW K af dl):=by
  unfold K5
  rw[if_pos (eK rfl)]
  have e0:wT 0 ((100:Int),(LW K af dl,()))=true:=by
   unfold wT
   rw[Vq K ha hd]
   rfl
  rw[EP,e0]
  rfl
 rw[eO.run (d:=[((100:Int),(LW K af dl,()))]) (λo ho=>by
  rw[bI.1 ho]
  exact⟨WX K af dl,by show 1<=_;decide,by show(100:Int)<=_;decide⟩)]
 simp only[eO.F,e]
 rfl
theorem Qq{K:Int}(hk:KW K):dK.call (TW K,0,0,[K],0)=some (UW K,0):=by
 rw[dK.run (d:=(TW K,0,0,[K],0)) ⟨Ym K,λx hx=>by rw[bI.1 hx];have:=hk.1;have:=hk.2;exact⟨by omega,by omega⟩,by show 1<=1000000000;decide⟩]
 simp only[bP,dK.F,NH,UG hk,if_true]
 rfl
def qX(h:Int)(p:Bs)(l:List eZ)(fill:Int):eN:=(h,(p,(l,(fill,([],())))))
theorem Av{h:Int}{p:Bs}{l:List eZ}{fill:Int}(hh:h<=1048576)(hp:p.length=32)(hf:0<=fill/\fill<=10)(hl:l.length<=1)(hv:∀t∈l,rK t/\jk t=true):Hw (qX h p l fill)/\Ld (qX h p l fill)=qX h p l fill:=by
 have hb:I8 (qX h p l fill):=⟨⟨by show l.length<=_;omega,λt ht=>(hv t ht).1⟩,⟨by show h<=_;omega,hp,by show fill<=_;omega⟩,aK _,λo ho=>(by cases ho)⟩
 exact⟨⟨hb,by show l.length<=_;omega,λt ht=>j6 (kk (hv t ht).2).1.2.1 (by decide)⟩,Pm hb λt ht=>(hv t ht).2⟩
theorem Ox{x:cd×dP}:iM [x]=[x]:=List.perm_singleton.1 (rT [x])
theorem ZD{K:Int}(hk:KW K):tO (UW K)=36:=by
 unfold tO
 rw[if_pos (sH hk).1]
 rfl
theorem VP(h:Int)(p:Bs)(l:List eZ)(fill:Int)(t:eZ):Kc (qX h p l fill) t=false:=by
 unfold Kc
 rw[jl]
 intro x _ e
 cases e
theorem Uy{h:Int}{p:Bs}{fill:Int}{a:At}(h1:1<=h)(h2:h<=1048576)(hf:0<=fill/\fill<=10):sa (qX h p [] fill) a=(0,0):=by
 have f1:uE h fill=true:=by unfold uE;exact aY ⟨h1,h2,by omega,by omega⟩
 have w1:SC (qX h p [] fill)=fill:=rfl
 unfold sa
 rw[if_pos (show uE (qX h p [] fill).1 (qX h p [] fill).2.2.2.1=true from f1),w1,if_neg (by omega)]
 rfl
theorem Uz{K:Int}(hk:KW K){h:Int}{p:Bs}{fill:Int}{x:cd×dP}(h1:1<=h)(h2:h<=1048576)(hf:0<=fill/\fill<=10):sa (qX h p [UW K] fill) [x]=e7 (UW K) h [x]:=by
 have f1:uE h fill=true:=by unfold uE;exact aY ⟨h1,h2,by omega,by omega⟩
 have w1:SC (qX h p [UW K] fill)=fill+tO (UW K):=rfl
 unfold sa
 rw[if_pos (show uE (qX h p [UW K] fill).1 (qX h p [UW K] fill).2.2.2.1=true from f1),w1,ZD hk,if_neg (by omega)]
 show(Cr (qX h p [UW K] fill) h [UW K] [x]).2=_
 unfold Cr
 rw[Ox,wh,VP]
 simp only[cv,if_false]
 by_cases hc:(e7 (UW K) h [x]).2=0
 ·rw[if_neg (λe=>e hc),wh]
  exact Prod.ext (by show(0:Int)+_=_;omega) hc.symm
 ·rw[if_pos hc]
  exact Prod.ext (HP hc).symm rfl
theorem Qz{h:Int}{p:Bs}{fill:Int}{nb:Nat}{S:LZ}{bs:List eN}(hp:p=nZ nb bs)(hh:h=(nb:Int)+1)(h2:h<=1048576)(hl:p.length=32)(hf:0<=fill/\fill<=10):qz (qX h p [] fill) nb S bs=(0,nb+1,S.1,S.2.1,S.2.2,bs.take nb++ [qX h p [] fill]):=by
 have e:=(Av (l:=[]) h2 hl hf (by decide) (λt ht=>(by cases ht))).2
 unfold qz
 rw[if_pos (show(qX h p [] fill).2.1=nZ nb bs/\(qX h p [] fill).1=(nb:Int)+1 from⟨hp,hh⟩),Uy (by omega) h2 hf,if_pos rfl,e]
 rfl
theorem Te{K:Int}(hk:KW K){h:Int}{p:Bs}{fill:Int}{nb n:Nat}{x:cd×dP}{s:List cn}{bs:List eN}(hp:p=nZ nb bs)(hh:h=(nb:Int)+1)(h2:h<=1048576)(hl:p.length=32)(hf:0<=fill/\fill<=10):qz (qX h p [UW K] fill) nb (n,[x],s) bs=
  if(e7 (UW K) h [x]).2=0 then(0,nb+1,n+1,jV (UW K) h [x],s.take n++ [stepOf (UW K) [x]],bs.take nb++ [qX h p [UW K] fill]) else((e7 (UW K) h [x]).2,nb,n,[x],s,bs):=by
 have e:=(Av (l:=[UW K]) h2 hl hf (by show 1<=1;decide) (λt ht=>by rw[bI.1 ht];exact⟨(sH hk).2.1,(sH hk).1⟩)).2
 unfold qz
 rw[if_pos (show(qX h p [UW K] fill).2.1=nZ nb bs/\(qX h p [UW K] fill).1=(nb:Int)+1 from⟨hp,hh⟩),Uz hk (by omega) h2 hf,e]
 by_cases hc:(e7 (UW K) h [x]).2=0
 ·rw[if_pos hc,if_pos hc]
  have eb:HJ (qX h p [UW K] fill) (n,[x],s)=Ma h (n,[x],s) (UW K):=rfl
  rw[eb]
  unfold Ma
  rw[if_neg (λe=>e hc)]
 ·rw[if_neg hc,if_neg hc]
abbrev gQ.D:=Bs×Int×(Int×((List eZ)×(Int×((List cd)×(Int×(eN×((List eN)×Unit)))))))
abbrev gQ.Y:=eN
def gQ.aM:gQ.D->Prop:=λ_=>True
def gQ.F:gQ.D->gQ.Y:=λ(p,h,a)=>(h,(p,(a.2.1,(a.2.2.1,(a.2.2.2.1,())))))
def gQ:Fs Tryz.prog gQ.aM bP gQ.F:=gC 20 Tryz.f20 (λ(parent,height,a)=>([.d tH parent,.d ti height,.d (.pair ti (.pair (.slice gU) (.pair ti (.pair (.slice b8) (.pair ti (.pair fh (.pair (.slice fh) .unit))))))) a],[])) (λx=>⟨.d fh x,[],[]⟩) [some tH,some ti,some (.pair ti (.pair (.slice gU) (.pair ti (.pair (.slice b8) (.pair ti (.pair fh (.pair (.slice fh) .unit)))))))]
theorem gQ.eq{R:Type}(parent height a)(k:K1 R):gQ.A (parent,height,a) k=
 k (gQ.out (height,(parent,(a.2.1,(a.2.2.1,(a.2.2.2.1,())))))):=by kernel_rfl
theorem gQ.ok:gQ.Ok:=by
 rintro⟨p,h,a⟩ _
 rw[gQ.eq]
 rfl
theorem gQ.run:gQ.RS:=rE [.d tB,.d ti,.d (.pair ti (.pair (.slice gU) (.pair ti (.pair (.slice b8) (.pair ti (.pair fh (.pair (.slice fh) .unit)))))))] gQ
def gQ.sg:=gQ.gG gQ.ok
theorem fC.c{n nb:Nat}{a:At}{s:List cn}{bs:List eN}(h:y8 nb bs):fC.call (nb,n,a,s,bs)=some ((nb,n,a,s,bs),nZ nb bs):=fC.run (d:=(nb,n,a,s,bs)) h
theorem de.c{n nb:Nat}{a:At}{s:List cn}{bs:List eN}:de.call (nb,n,a,s,bs)=some ((nb,n,a,s,bs),(nb:Int)):=de.run (d:=(nb,n,a,s,bs)) trivial
theorem dF.c{b:eN}(h:I8 b):dF.call b=some (HI b):=dF.run (d:=b) h
theorem td(b:eN):(HI b).length=32:=(E1 _ _).1
theorem sY(nb:Nat)(bs:List eN):(nZ nb bs).length=32:=by
 unfold nZ
 split
 ·exact dg
 ·exact td _
theorem Jm{nb:Nat}{bs:List eN}{b:eN}(h:y8 nb bs)(hn:nb<=1000)(hb:I8 b):y8 (nb+1) (bs.take nb++ [b]):=by
 have h1:nb<=bs.length:=h.1
 refine⟨by rw[ae,bQ];show nb+1<=min nb bs.length+1;omega,by omega,λx hx=> ?_⟩
 rcases bt.1 hx with hx | hx
 ·exact h.2.2 x (iZ hx)
 ·rw[bI.1 hx];exact hb
theorem Vz{K:Int}(hk:KW K){h:Int}{p:Bs}{fill:Int}(hh:h<=1048576)(hp:p.length=32)(hf:0<=fill/\fill<=10):Hw (qX h p [UW K] fill):=(Av hh hp hf (by show 1<=1;decide) (λt ht=>by rw[bI.1 ht];exact⟨(sH hk).2.1,(sH hk).1⟩)).1
theorem U7{h:Int}{p:Bs}{fill:Int}(hh:h<=1048576)(hp:p.length=32)(hf:0<=fill/\fill<=10):Hw (qX h p [] fill):=(Av hh hp hf (by decide) (λt ht=>(by cases ht))).1
theorem Zw{K:Int}(hk:KW K)(af dl:Int):Hy (stepOf (UW K) (AW K af dl)):=by
 rw[Yk hk]
 exact⟨by show 1<=_;decide,by show 1<=_;decide⟩
theorem tid.cW{K:Int}(hk:KW K):tid.call (UW K)=some (lW (TW K)):=(tid.run (d:=UW K) (sH hk).2.1).trans (congrArg some (sH hk).2.2.1)
theorem Q6{K:Int}(hk:KW K):xp (lW (TW K)) [UW K]=true:=by
 unfold xp
 rw[jz,aY (sH hk).2.2.1]
 rfl
theorem SB{K:Int}(hk:KW K)(fL:¬lW (TW K)=vf){af dl h:Int}(ha:0<=af/\af<=1048576)(hd:0<=dl/\dl<=1048576)(h1:1<=h)(h2:h<=1048576)(ho:¬(h < af\/h < dl)):sG 400 1 (BW K h) [stepOf (UW K) (AW K af dl)]:=by
 have hc:e7 (UW K) h (AW K af dl)=(10,0):=by rw[VT hk fL ha hd h1 h2,if_neg ho]
 have V8:=Ei (t:=UW K) (h:=h) (a:=AW K af dl) (by rw[hc])
 have:=((Sx K ha hd).app V8 (sH hk).2.1).mono (show 0+1<=400 by decide)
 rw[VN hk]at this
 exact this
theorem Xl(K:Int)(h:Int):kI (BW K h)=90:=rfl
def Hj:List av->Bool:=λvs=>match vs with | [_,_,.d (.slice t) l]=>Nat.beq (l:List t.den).length 2 | _=>false
def Ix:List av->Bool:=λvs=> !Hj vs
def W9.E:Entry:=Entry.half [none,some ti,some (.slice fh)] (X:=au.X) (Z:=Int×Nat×Nat×(List (cd×dP))×(List cn)×(List eN)) au.E.run au.E.out Sum.inl Sum.getLeft?
def W9.sg:SG Tryz.prog:=⟨61,Ix,W9.E,vS.of (nX.half Tv (au.sg.h.1 (by rfl))) (by rfl)⟩
def Xa.E:Entry:=Entry.half [none,some ti,some (.slice fh)] (X:=au.X) (Z:=Int×Nat×Nat×(List (cd×dP))×(List cn)×(List eN)×Nat×(List (cd×dP))×(List cn)×(List eN)) au.E.run au.E.out Sum.inr Sum.getRight?
def Xa.sg:SG Tryz.prog:=⟨61,Hj,Xa.E,vS.of (nX.half Tw (au.sg.h.1 (by rfl))) (by rfl)⟩
abbrev dQ.D:=Unit
abbrev dQ.Y:=Bool
def dQ.aM:dQ.D->Prop:=λ_=>True
def dQ.F:dQ.D->dQ.Y:=λ_=>true
def dQ:Fs Tryz.prog dQ.aM bP dQ.F:=gC 13 Tryz.f13 (λ_=>([],[])) (λx=>⟨.d .bool x,[],[]⟩) [] [gm.sg,nY.sg,eO.sg,de.sg,fC.sg,dK.sg,dF.sg,fT.sg,tid.sg,fk.sg,fF.sg,W9.sg,Xa.sg,lh.sg,eo.sg,dV.sg]
theorem dQ.eq{R:Type}(d)(k:K1 R):dQ.A d k=
  ah (gm.call 7) λx1=>
  ah (nY.call x1) λx2=>
  ah (eO.call [(100,(x2,()))]) λx3=>
  aP (x3.isLeft) (
   ah (x3.getLeft?) λVB=>
   k (dQ.out false)) (
   ah (x3.getRight?) λSp=>
   ah (de.call (0,0,Sp.1,Sp.2.1,Sp.2.2)) λx4=>
   aP ((w9 x4.2 0)) (
    k (dQ.out false)) (
    ah (fC.call (x4.1.1,x4.1.2.1,x4.1.2.2.1,x4.1.2.2.2.1,x4.1.2.2.2.2)) λx5=>
    aP ((!(Ty.beq tH x5.2 (List.replicate 32 0)))) (
     k (dQ.out false)) (
     ah (dK.call (([(((List.replicate 32 0),(0,())),((0,(([]:List Sg),(0,()))),()))],([(90,(x2,()))],(0,()))),0,0,[7],0)) λx6=>
     ah (dF.call (1,((List.replicate 32 0),(([]:List eZ),(5,(([]:List cd),())))))) λx7=>
     ah (dF.call (1,((List.replicate 32 0),(([]:List eZ),(5,(([]:List cd),())))))) λx8=>
     ah (dF.call (2,(x8,(([]:List eZ),(0,(([]:List cd),())))))) λx9=>
     ah (fT.call ((1,((List.replicate 32 0),(([]:List eZ),(5,(([]:List cd),()))))),x5.1.1,x5.1.2.1,x5.1.2.2.1,x5.1.2.2.2.1,x5.1.2.2.2.2)) λCB=>
     aP ((w8 CB.1 0)) (
      ah (fT.call ((1,((List.replicate 32 0),(([]:List eZ),(5,(([]:List cd),()))))),CB.2.1,CB.2.2.1,CB.2.2.2.1,CB.2.2.2.2.1,CB.2.2.2.2.2)) λAp=>
      aP ((w8 Ap.1 1)) (
       ah (fT.call ((2,(x7,([x6.1],(0,(([]:List cd),()))))),Ap.2.1,Ap.2.2.1,Ap.2.2.2.1,Ap.2.2.2.2.1,Ap.2.2.2.2.2)) λHv=>
       ah (tid.call x6.1) λZG=>
       ah (fk.call (ZG,Hv.2.1,Hv.2.2.1,Hv.2.2.2.1,Hv.2.2.2.2.1,Hv.2.2.2.2.2)) λSj=>
       ah (fF.call (((List.replicate 32 0),(0,())),Sj.2.2.1,Sj.2.2.2.1,Sj.2.2.2.2.1,Sj.2.2.2.2.2.1,Sj.2.2.2.2.2.2)) λSk=>
       ah (rU Sum.getLeft? (au.call (1,[(2,(x8,(([]:List eZ),(0,(([]:List cd),())))))],Sk.2.2.2.1,Sk.2.2.2.2.1,Sk.2.2.2.2.2.1,Sk.2.2.2.2.2.2.1,Sk.2.2.2.2.2.2.2))) λCs=>
       ah (rU Sum.getLeft? (au.call (3,[(1,((List.replicate 32 0),(([]:List eZ),(5,(([]:List cd),()))))),(2,(x7,([x6.1],(0,(([]:List cd),()))))),(2,(x8,(([]:List eZ),(0,(([]:List cd),()))))),(3,(x9,([x6.1],(0,(([]:List cd),())))))],Cs.2.1,Cs.2.2.1,Cs.2.2.2.1,Cs.2.2.2.2.1,Cs.2.2.2.2.2))) λS5=>
       ah (rU Sum.getRight? (au.call (1,[(2,(x8,(([]:List eZ),(0,(([]:List cd),()))))),(3,(x9,([x6.1],(0,(([]:List cd),())))))],S5.2.1,S5.2.2.1,S5.2.2.2.1,S5.2.2.2.2.1,S5.2.2.2.2.2))) λS6=>
       ah (tid.call x6.1) λXv=>
       ah (fk.call (Xv,S6.2.1,S6.2.2.2.2.2.2.1,S6.2.2.2.2.2.2.2.1,S6.2.2.2.2.2.2.2.2.1,S6.2.2.2.2.2.2.2.2.2)) λLR=>
       ah (lh.call (2,LR.2.2.1,LR.2.2.2.1,LR.2.2.2.2.1,LR.2.2.2.2.2.1,LR.2.2.2.2.2.2)) λQt=>
       ah (eo.call (Qt.1.1,Qt.1.2.1,Qt.1.2.2.1,Qt.1.2.2.2.1,Qt.1.2.2.2.2)) λsZ=>
       aP ((w8 Hv.1 0)) (
        aP ((w8 Sj.1 2)) (
         aP (Sj.2.1) (
          aP ((w8 Sk.2.1 2)) (
           aP (Sk.2.2.1) (
            aP ((w8 Cs.1 1)) (
             aP ((w8 S5.1 1)) (
              aP ((w8 S6.1 0)) (
               ah (de.call (sZ.1.1,sZ.2.1,sZ.2.2.1,sZ.2.2.2.1,sZ.1.2)) λPH=>
               aP ((w8 PH.2 3)) (
                aP ((w8 LR.1 3)) (
                 aP (Qt.2.2) (
                  aP ((w8 (Qt.2.1.2.2.1.length:Int) 0)) (
                   ah (dV.call (sZ.2.2.2.2.1,sZ.2.2.2.2.2.1,sZ.2.2.2.2.2.2)) λCt=>
                   aP ((w8 Ct.1 90)) (
                    ah (fC.call (PH.1.1,PH.1.2.1,PH.1.2.2.1,PH.1.2.2.2.1,PH.1.2.2.2.2)) λZH=>
                    ah (dF.call (3,(x9,([x6.1],(0,(([]:List cd),())))))) λCu=>
                    k (dQ.out (Ty.beq tH ZH.2 Cu))) (
                    k (dQ.out false))) (
                   k (dQ.out false))) (
                  k (dQ.out false))) (
                 k (dQ.out false))) (
                k (dQ.out false))) (
               k (dQ.out false))) (
              k (dQ.out false))) (
             k (dQ.out false))) (
            k (dQ.out false))) (
           k (dQ.out false))) (
          k (dQ.out false))) (
         k (dQ.out false))) (
        k (dQ.out false))) (
       ah (tid.call x6.1) λZI=>
       ah (fk.call (ZI,Ap.2.1,Ap.2.2.1,Ap.2.2.2.1,Ap.2.2.2.2.1,Ap.2.2.2.2.2)) λUM=>
       ah (fF.call (((List.replicate 32 0),(0,())),UM.2.2.1,UM.2.2.2.1,UM.2.2.2.2.1,UM.2.2.2.2.2.1,UM.2.2.2.2.2.2)) λUN=>
       ah (rU Sum.getLeft? (au.call (1,[(2,(x8,(([]:List eZ),(0,(([]:List cd),())))))],UN.2.2.2.1,UN.2.2.2.2.1,UN.2.2.2.2.2.1,UN.2.2.2.2.2.2.1,UN.2.2.2.2.2.2.2))) λzJ=>
       ah (rU Sum.getLeft? (au.call (3,[(1,((List.replicate 32 0),(([]:List eZ),(5,(([]:List cd),()))))),(2,(x7,([x6.1],(0,(([]:List cd),()))))),(2,(x8,(([]:List eZ),(0,(([]:List cd),()))))),(3,(x9,([x6.1],(0,(([]:List cd),())))))],zJ.2.1,zJ.2.2.1,zJ.2.2.2.1,zJ.2.2.2.2.1,zJ.2.2.2.2.2))) λOg=>
       ah (rU Sum.getRight? (au.call (1,[(2,(x8,(([]:List eZ),(0,(([]:List cd),()))))),(3,(x9,([x6.1],(0,(([]:List cd),())))))],Og.2.1,Og.2.2.1,Og.2.2.2.1,Og.2.2.2.2.1,Og.2.2.2.2.2))) λOh=>
       ah (tid.call x6.1) λUO=>
       ah (fk.call (UO,Oh.2.1,Oh.2.2.2.2.2.2.1,Oh.2.2.2.2.2.2.2.1,Oh.2.2.2.2.2.2.2.2.1,Oh.2.2.2.2.2.2.2.2.2)) λLS=>
       ah (lh.call (2,LS.2.2.1,LS.2.2.2.1,LS.2.2.2.2.1,LS.2.2.2.2.2.1,LS.2.2.2.2.2.2)) λSn=>
       ah (eo.call (Sn.1.1,Sn.1.2.1,Sn.1.2.2.1,Sn.1.2.2.2.1,Sn.1.2.2.2.2)) λOi=>
       k (dQ.out false))) (
      ah (tid.call x6.1) λXw=>
      ah (fk.call (Xw,CB.2.1,CB.2.2.1,CB.2.2.2.1,CB.2.2.2.2.1,CB.2.2.2.2.2)) λUP=>
      ah (fF.call (((List.replicate 32 0),(0,())),UP.2.2.1,UP.2.2.2.1,UP.2.2.2.2.1,UP.2.2.2.2.2.1,UP.2.2.2.2.2.2)) λUQ=>
      ah (rU Sum.getLeft? (au.call (1,[(2,(x8,(([]:List eZ),(0,(([]:List cd),())))))],UQ.2.2.2.1,UQ.2.2.2.2.1,UQ.2.2.2.2.2.1,UQ.2.2.2.2.2.2.1,UQ.2.2.2.2.2.2.2))) λUR=>
      ah (rU Sum.getLeft? (au.call (3,[(1,((List.replicate 32 0),(([]:List eZ),(5,(([]:List cd),()))))),(2,(x7,([x6.1],(0,(([]:List cd),()))))),(2,(x8,(([]:List eZ),(0,(([]:List cd),()))))),(3,(x9,([x6.1],(0,(([]:List cd),())))))],UR.2.1,UR.2.2.1,UR.2.2.2.1,UR.2.2.2.2.1,UR.2.2.2.2.2))) λUS=>
      ah (rU Sum.getRight? (au.call (1,[(2,(x8,(([]:List eZ),(0,(([]:List cd),()))))),(3,(x9,([x6.1],(0,(([]:List cd),())))))],US.2.1,US.2.2.1,US.2.2.2.1,US.2.2.2.2.1,US.2.2.2.2.2))) λUT=>
      ah (tid.call x6.1) λZJ=>
      ah (fk.call (ZJ,UT.2.1,UT.2.2.2.2.2.2.1,UT.2.2.2.2.2.2.2.1,UT.2.2.2.2.2.2.2.2.1,UT.2.2.2.2.2.2.2.2.2)) λUU=>
      ah (lh.call (2,UU.2.2.1,UU.2.2.2.1,UU.2.2.2.2.1,UU.2.2.2.2.2.1,UU.2.2.2.2.2.2)) λUX=>
      ah (eo.call (UX.1.1,UX.1.2.1,UX.1.2.2.1,UX.1.2.2.2.1,UX.1.2.2.2.2)) λSq=>
      k (dQ.out false))))):=by kernel_rfl
theorem Zo:¬lW (TW 7)=vf:=W0
theorem Cx:(0:Int)<=0/\(0:Int)<=1048576:=⟨by decide,by decide⟩
theorem LG:(0:Int)<=0/\(0:Int)<=10:=⟨by decide,by decide⟩
theorem XG:(0:Int)<=5/\(5:Int)<=10:=⟨by decide,by decide⟩
def bA:eN:=qX 1 vf [] 5
def bB(K:Int)(P1:Bs):eN:=qX 2 P1 [UW K] 0
def bD(P1:Bs):eN:=qX 2 P1 [] 0
def bE(K:Int)(P2:Bs):eN:=qX 3 P2 [UW K] 0
def sW(K:Int):cn:=stepOf (UW K) (AW K 0 0)
theorem vA:Hw bA:=U7 (by decide) dg XG
theorem vB{K:Int}(hk:KW K)(P1:Bs)(l1:P1.length=32):Hw (bB K P1):=Vz hk (by decide) l1 LG
theorem vD(P1:Bs)(l1:P1.length=32):Hw (bD P1):=U7 (by decide) l1 LG
theorem vE{K:Int}(hk:KW K)(P2:Bs)(l2:P2.length=32):Hw (bE K P2):=Vz hk (by decide) l2 LG
theorem Tg:y8 1 [bA]:=⟨aw _,by decide,λb hb=>by rw[bI.1 hb];exact vA.1⟩
theorem Th{b c:eN}(hb:I8 b)(hc:I8 c):y8 2 [b,c]:=⟨aw _,by decide,λx hx=>by
 rcases cX.1 hx with rfl | hx
 ·exact hb
 ·rw[bI.1 hx];exact hc⟩
theorem VR{b c d:eN}(hb:I8 b)(hc:I8 c)(hd:I8 d):y8 3 [b,c,d]:=⟨aw _,by decide,λx hx=>by
 rcases cX.1 hx with rfl | hx
 ·exact hb
 ·rcases cX.1 hx with rfl | hx
  ·exact hc
  ·rw[bI.1 hx];exact hd⟩
theorem Yt{K:Int}(hk:KW K)(fL:¬lW (TW K)=vf)(h:Int)(h1:1<=h)(h2:h<=1048576):e7 (UW K) h (AW K 0 0)=(10,0):=by
 rw[VT hk fL Cx Cx h1 h2,if_neg (by omega)]
theorem Yp{K:Int}:fT.call (bA,0,0,AW K 0 0,[],[])=some (0,1,0,AW K 0 0,[],[bA]):=by
 rw[fT.run (d:=(bA,0,0,AW K 0 0,[],[])) ⟨vA,aK _,(Sx K Cx Cx).mono (by decide),aw _,by decide,λb hb=>(by cases hb)⟩]
 have e:=Qz (h:=1) (p:=vf) (fill:=5) (nb:=0) (S:=(0,AW K 0 0,[])) (bs:=[]) rfl rfl (by decide) dg XG
 exact congrArg some e
theorem VI{K:Int}:fT.call (bA,1,0,AW K 0 0,[],[bA])=some (1,1,0,AW K 0 0,[],[bA]):=by
 rw[fT.run (d:=(bA,1,0,AW K 0 0,[],[bA])) ⟨vA,aK _,(Sx K Cx Cx).mono (by decide),Tg⟩]
 have e:qz bA 1 (0,AW K 0 0,[]) [bA]=(1,1,0,AW K 0 0,[],[bA]):=by
  unfold qz
  rw[if_neg (λh=>absurd (show(1:Int)=((1:Nat):Int)+1 from h.2) (by decide))]
 exact congrArg some e
theorem XE{K:Int}(hk:KW K)(fL:¬lW (TW K)=vf){h:Int}{p:Bs}{nb n:Nat}{s:List cn}{bs:List eN}(hp:p=nZ nb bs)(hh:h=(nb:Int)+1)(h2:h<=1048576)(hl:p.length=32):qz (qX h p [UW K] 0) nb (n,AW K 0 0,s) bs=(0,nb+1,n+1,BW K h,s.take n++ [sW K],bs.take nb++ [qX h p [UW K] 0]):=by
 have e:=Te hk (h:=h) (p:=p) (fill:=0) (nb:=nb) (n:=n) (x:=tW 0 ((100:Int),(LW K 0 0,()))) (s:=s) (bs:=bs) hp hh h2 hl LG
 rw[show([tW 0 ((100:Int),(LW K 0 0,()))]:At)=AW K 0 0 from rfl,Yt hk fL h (by omega) h2,if_pos rfl,VN hk]at e
 exact e
theorem Yq{K:Int}(hk:KW K)(fL:¬lW (TW K)=vf)(P1:Bs)(hP:HI bA=P1):fT.call (bB K P1,1,0,AW K 0 0,[],[bA])=some (0,2,1,BW K 2,[sW K],[bA,bB K P1]):=by
 have l1:P1.length=32:=by rw[<-hP];exact td _
 rw[fT.run (d:=(bB K P1,1,0,AW K 0 0,[],[bA])) ⟨vB hk P1 l1,aw _,(Sx K Cx Cx).mono (by decide),Tg⟩]
 exact congrArg some (XE hk fL (h:=2) (p:=P1) (nb:=1) (n:=0) (s:=[]) (bs:=[bA]) hP.symm rfl (by decide) l1)
theorem Kp{K:Int}(hk:KW K)(P1:Bs)(h1:P1.length=32):y8 2 [bA,bB K P1]:=Th vA.1 (vB hk P1 h1).1
theorem ZE{K:Int}(hk:KW K)(P1:Bs)(l1:P1.length=32):fk.call (lW (TW K),2,1,BW K 2,[sW K],[bA,bB K P1])=some (2,true,2,1,BW K 2,[sW K],[bA,bB K P1]):=by
 rw[fk.run (d:=(lW (TW K),2,1,BW K 2,[sW K],[bA,bB K P1])) (Kp hk P1 l1)]
 have e:kN (lW (TW K)) [bA,bB K P1] 0=some 2:=by
  have h1:xp (lW (TW K)) (bB K P1).2.2.1=true:=Q6 hk
  rw[kN,if_neg (show ¬xp (lW (TW K)) bA.2.2.1=true from λh=>(by cases h)),kN,if_pos h1]
  rfl
 have e2:([bA,bB K P1]:List eN).take 2=[bA,bB K P1]:=rfl
 simp only[fk.F,e2,e]
theorem Zv{K:Int}(hk:KW K)(P1:Bs)(l1:P1.length=32):fF.call ((vf,((0:Int),())),2,1,BW K 2,[sW K],[bA,bB K P1])=some (JT (UW K),2,true,2,1,BW K 2,[sW K],[bA,bB K P1]):=by
 rw[fF.run (d:=((vf,((0:Int),())),2,1,BW K 2,[sW K],[bA,bB K P1])) (Kp hk P1 l1)]
 have e:qm (vf,((0:Int),())) [bA,bB K P1] 0=some (JT (UW K),2):=by
  have h1:NK (vf,((0:Int),())) (bB K P1).2.2.1=some (UW K):=by
   show NK (vf,((0:Int),())) [UW K]=_
   rw[NK,Xk hk,if_pos]
   rw[jz,Hq,(yt _ _).2 rfl]
   rfl
  rw[qm,show NK (vf,((0:Int),())) bA.2.2.1=none from rfl,qm,h1]
  rfl
 have e2:([bA,bB K P1]:List eN).take 2=[bA,bB K P1]:=rfl
 simp only[fF.F,e2,e]
theorem Zp{K:Int}(hk:KW K)(fL:¬lW (TW K)=vf)(P1:Bs)(l1:P1.length=32):au.call (1,[bD P1],2,1,BW K 2,[sW K],[bA,bB K P1])=some (.inl (1,2,1,BW K 2,[sW K],[bA,bB K P1])):=by
 have hs:=SB hk fL (h:=2) Cx Cx (by decide) (by decide) (by decide)
 rw[au.run (d:=(1,[bD P1],2,1,BW K 2,[sW K],[bA,bB K P1])) ⟨Kp hk P1 l1,hs,by show 1<=_;decide,λh=>absurd (show(1:Int) < ((1:Nat):Int) from h.2.2.1) (by decide)⟩]
 simp only[au.F]
 rw[if_neg (λh=>absurd (show(1:Int) < ((1:Nat):Int) from h.2.2) (by decide))]
 rfl
theorem Zr{K:Int}(hk:KW K)(fL:¬lW (TW K)=vf)(P1:Bs)(P2:Bs)(l1:P1.length=32):au.call (3,[bA,bB K P1,bD P1,bE K P2],2,1,BW K 2,[sW K],[bA,bB K P1])=some (.inl (1,2,1,BW K 2,[sW K],[bA,bB K P1])):=by
 have hs:=SB hk fL (h:=2) Cx Cx (by decide) (by decide) (by decide)
 rw[au.run (d:=(3,[bA,bB K P1,bD P1,bE K P2],2,1,BW K 2,[sW K],[bA,bB K P1])) ⟨Kp hk P1 l1,hs,by show 4<=_;decide,λh=>absurd (show(3:Int)<=((2:Nat):Int) from h.2.1) (by decide)⟩]
 simp only[au.F]
 rw[if_neg (λh=>absurd (show(3:Int)<=((2:Nat):Int) from h.2.1) (by decide))]
 rfl
theorem QD{K:Int}(hk:KW K)(P1:Bs):xh 1 2 1 (BW K 2) [sW K] [bA,bB K P1]=(1,0,AW K 0 0,[sW K],[bA,bB K P1]):=by
 have ec:iM (BW K 2)=BW K 2:=Ox
 have eu:=Zz hk 0 0 2
 have e:rR [bA,bB K P1] 1 (2,1,BW K 2,[sW K])=(1,0,zH (BW K 2) (sW K),[sW K]):=rfl
 unfold xh
 rw[ec]
 show((rR [bA,bB K P1] 1 (2,1,BW K 2,[sW K])).1,(rR [bA,bB K P1] 1 (2,1,BW K 2,[sW K])).2.1,(rR [bA,bB K P1] 1 (2,1,BW K 2,[sW K])).2.2.1,(rR [bA,bB K P1] 1 (2,1,BW K 2,[sW K])).2.2.2,[bA,bB K P1])=_
 rw[e]
 show(1,0,zH (BW K 2) (stepOf (UW K) (AW K 0 0)),[sW K],[bA,bB K P1])=_
 rw[eu]
theorem Yi{K:Int}(hk:KW K):sG 400 0 (AW K 0 0) [sW K]:=by
 have h:=Sx K Cx Cx
 exact⟨h.wG,aK _,by show 1<=_;decide,λst lZ=>by rw[bI.1 lZ];exact Zw hk 0 0,h.sum,by show 1<=_;decide⟩
theorem QA{K:Int}(hk:KW K)(fL:¬lW (TW K)=vf)(P1:Bs)(P2:Bs)(hP:HI bA=P1)(hQ:HI (bD P1)=P2):C7 [bD P1,bE K P2] (1,0,AW K 0 0,[sW K],[bA,bB K P1])/\lP [bD P1,bE K P2] (1,0,AW K 0 0,[sW K],[bA,bB K P1])=(0,3,1,BW K 3,[sW K],[bA,bD P1,bE K P2]):=by
 have l1:P1.length=32:=by rw[<-hP];exact td _
 have l2:P2.length=32:=by rw[<-hQ];exact td _
 have e1:qz (bD P1) 1 (0,AW K 0 0,[sW K]) [bA,bB K P1]=(0,2,0,AW K 0 0,[sW K],[bA,bD P1]):=Qz (h:=2) (p:=P1) (fill:=0) (nb:=1) (S:=(0,AW K 0 0,[sW K])) (bs:=[bA,bB K P1]) hP.symm rfl (by decide) l1 LG
 have e2:qz (bE K P2) 2 (0,AW K 0 0,[sW K]) [bA,bD P1]=(0,3,1,BW K 3,[sW K],[bA,bD P1,bE K P2]):=XE hk fL (h:=3) (p:=P2) (nb:=2) (n:=0) (s:=[sW K]) (bs:=[bA,bD P1]) hQ.symm rfl (by decide) l2
 refine⟨⟨⟨vD P1 l1,aK _,Yi hk,Nat.le_succ 1,by decide,(Kp hk P1 l1).2.2⟩,λ_=> ?_⟩,?_⟩
 ·show C7 [bE K P2] (qz (bD P1) 1 (0,AW K 0 0,[sW K]) [bA,bB K P1]).2
  rw[e1]
  exact⟨⟨vE hk P2 l2,aw _,Yi hk,Th vA.1 (vD P1 l1).1⟩,λ_=>trivial⟩
 ·rw[lP]
  show(if(qz (bD P1) 1 (0,AW K 0 0,[sW K]) [bA,bB K P1]).1≠0 then qz (bD P1) 1 (0,AW K 0 0,[sW K]) [bA,bB K P1] else lP [bE K P2] (qz (bD P1) 1 (0,AW K 0 0,[sW K]) [bA,bB K P1]).2)=_
  rw[e1,if_neg (λh=>h rfl),lP]
  show(if(qz (bE K P2) 2 (0,AW K 0 0,[sW K]) [bA,bD P1]).1≠0 then qz (bE K P2) 2 (0,AW K 0 0,[sW K]) [bA,bD P1] else lP [] (qz (bE K P2) 2 (0,AW K 0 0,[sW K]) [bA,bD P1]).2)=_
  rw[e2,if_neg (λh=>h rfl)]
  rfl
theorem Zq{K:Int}(hk:KW K)(fL:¬lW (TW K)=vf)(P1:Bs)(P2:Bs)(hP:HI bA=P1)(hQ:HI (bD P1)=P2):au.call (1,[bD P1,bE K P2],2,1,BW K 2,[sW K],[bA,bB K P1])=some (.inr (0,3,1,BW K 2,[sW K],[bA,bB K P1],1,BW K 3,[sW K],[bA,bD P1,bE K P2])):=by
 have l1:P1.length=32:=by rw[<-hP];exact td _
 have hs:=SB hk fL (h:=2) Cx Cx (by decide) (by decide) (by decide)
 have hb:=QD hk P1
 obtain⟨g1,g2⟩:=QA hk fL P1 P2 hP hQ
 rw[au.run (d:=(1,[bD P1,bE K P2],2,1,BW K 2,[sW K],[bA,bB K P1])) ⟨Kp hk P1 l1,hs,by show 2<=_;decide,λ_=>by rw[hb];exact g1⟩]
 simp only[au.F]
 rw[if_pos ⟨by decide,by decide,by show(1:Int) < ((2:Nat):Int);decide⟩,if_pos (by decide),hb,g2,if_neg (λh=>h rfl)]
 rfl
theorem Mm{K:Int}(hk:KW K)(P1:Bs)(P2:Bs)(h1:P1.length=32)(h2:P2.length=32):y8 3 [bA,bD P1,bE K P2]:=VR vA.1 (vD P1 h1).1 (vE hk P2 h2).1
theorem ZF{K:Int}(hk:KW K)(P1:Bs)(P2:Bs)(l1:P1.length=32)(l2:P2.length=32):fk.call (lW (TW K),3,1,BW K 3,[sW K],[bA,bD P1,bE K P2])=some (3,true,3,1,BW K 3,[sW K],[bA,bD P1,bE K P2]):=by
 rw[fk.run (d:=(lW (TW K),3,1,BW K 3,[sW K],[bA,bD P1,bE K P2])) (Mm hk P1 P2 l1 l2)]
 have e:kN (lW (TW K)) [bA,bD P1,bE K P2] 0=some 3:=by
  have h1:xp (lW (TW K)) (bE K P2).2.2.1=true:=Q6 hk
  rw[kN,if_neg (show ¬xp (lW (TW K)) bA.2.2.1=true from λh=>(by cases h)),kN,if_neg (show ¬xp (lW (TW K)) (bD P1).2.2.1=true from λh=>(by cases h)),kN,if_pos h1]
  rfl
 have e2:([bA,bD P1,bE K P2]:List eN).take 3=[bA,bD P1,bE K P2]:=rfl
 simp only[fk.F,e2,e]
theorem Ys{K:Int}(hk:KW K)(P1:Bs)(P2:Bs)(l1:P1.length=32)(l2:P2.length=32):lh.call (2,3,1,BW K 3,[sW K],[bA,bD P1,bE K P2])=some ((3,1,BW K 3,[sW K],[bA,bD P1,bE K P2]),(bD P1,true)):=by
 rw[lh.run (d:=(2,3,1,BW K 3,[sW K],[bA,bD P1,bE K P2])) (Mm hk P1 P2 l1 l2)]
 have e1:=(Av (h:=2) (p:=P1) (l:=[]) (fill:=0) (by decide) l1 LG (by decide) (λt ht=>(by cases ht))).2
 have e:QC 2 3 [bA,bD P1,bE K P2]=(bD P1,true):=by
  unfold QC
  rw[if_pos (by decide)]
  exact congrArg (λz=>(z,true)) e1
 simp only[lh.F,e]
 rfl
theorem Yu{K:Int}(hk:KW K)(fL:¬lW (TW K)=vf)(P1:Bs)(P2:Bs):eo.call (3,1,BW K 3,[sW K],[bA,bD P1,bE K P2])=some ((3,[bA,bD P1,bE K P2]),(1,BW K 3,[sW K],1,BW K 3,[sW K])):=by
 have hs:=SB hk fL (h:=3) Cx Cx (by decide) (by decide) (by decide)
 have ec:iM (BW K 3)=BW K 3:=Ox
 rw[eo.run (d:=(3,1,BW K 3,[sW K],[bA,bD P1,bE K P2])) (hs.mono (by decide))]
 simp only[eo.F,ec]
 rfl
theorem Zy{K:Int}(hk:KW K)(fL:¬lW (TW K)=vf):dV.call (1,BW K 3,[sW K])=some (90,1,BW K 3,[sW K]):=(SB hk fL (h:=3) Cx Cx (by decide) (by decide) (by decide)).total
theorem dQ.ok:dQ.Ok:=by
 rintro⟨⟩ _
 obtain⟨K,hK,hk,fL⟩:∃K:Int,(7:Int)=K/\KW K/\¬lW (TW K)=vf:=⟨7,rfl,⟨by decide,by decide⟩,Zo⟩
 rw[dQ.eq,hK]
 obtain⟨P1,hP⟩:∃x,HI bA=x:=⟨_,rfl⟩
 obtain⟨P2,hQ⟩:∃x,HI (bD P1)=x:=⟨_,rfl⟩
 have l1:P1.length=32:=by rw[<-hP];exact td _
 have l2:P2.length=32:=by rw[<-hQ];exact td _
 have c1:gm.call K=some (fN K):=gm.run (d:=K) ⟨by have:=hk.1;omega,by have:=hk.2;omega⟩
 have c2:nY.call (fN K)=some (LW K 0 0):=nY.run (d:=fN K) trivial
 have c3:=Uu K Cx Cx
 have c4:de.call (0,0,AW K 0 0,[],[])=some ((0,0,AW K 0 0,[],[]),0):=de.c
 have c5:fC.call (0,0,AW K 0 0,[],[])=some ((0,0,AW K 0 0,[],[]),vf):=fC.c ⟨aw _,by decide,λb hb=>(by cases hb)⟩
 have c6:=Qq hk
 have c7:dF.call bA=some P1:=(dF.c vA.1).trans (congrArg some hP)
 have c8:dF.call (bD P1)=some P2:=(dF.c (vD P1 l1).1).trans (congrArg some hQ)
 have c9:=Yp (K:=K)
 have c10:=VI (K:=K)
 have c11:=Yq hk fL P1 hP
 have c12:=tid.cW hk
 have c13:=ZE hk P1 l1
 have c14:=Zv hk P1 l1
 have c15:=Zp hk fL P1 l1
 have c16:=Zr hk fL P1 P2 l1
 have c17:=Zq hk fL P1 P2 hP hQ
 have c18:=ZF hk P1 P2 l1 l2
 have c19:=Ys hk P1 P2 l1 l2
 have c20:=Yu hk fL P1 P2
 have c21:de.call (3,1,BW K 3,[sW K],[bA,bD P1,bE K P2])=some ((3,1,BW K 3,[sW K],[bA,bD P1,bE K P2]),3):=de.c
 have c22:=Zy hk fL
 have c23:fC.call (3,1,BW K 3,[sW K],[bA,bD P1,bE K P2])=some ((3,1,BW K 3,[sW K],[bA,bD P1,bE K P2]),HI (bE K P2)):=fC.c (Mm hk P1 P2 l1 l2)
 have c24:dF.call (bE K P2)=some (HI (bE K P2)):=dF.c (vE hk P2 l2).1
 generalize HI (bE K P2)=P3 at c23 c24
 have t0:Ty.beq tH vf (List.replicate 32 0)=true:=by rw[Mx];exact decide_eq_true rfl
 have t3:Ty.beq tH P3 P3=true:=by rw[Mx];exact decide_eq_true rfl
 unfold bB bD bE qX at*
 generalize UW K=U at*
 generalize JT U=V at*
 rw[c1,ab,c2,ab,c3,ab]
 simp only[fe,al,dX,ab]
 rw[c4,ab,ff rfl,al,c5,ab,t0,dj,al]
 refine(congrArg (λz=>ah z _) c6).trans ?_
 rw[ab]
 refine(congrArg (λz=>ah z _) c7).trans ?_
 rw[ab]
 refine(congrArg (λz=>ah z _) c7).trans ?_
 rw[ab]
 refine(congrArg (λz=>ah z _) c8).trans ?_
 rw[ab]
 refine(congrArg (λz=>ah z _) c9).trans ?_
 rw[ab]
 rw[jf rfl,ag]
 refine(congrArg (λz=>ah z _) c10).trans ?_
 rw[ab]
 rw[jf rfl,ag]
 refine(congrArg (λz=>ah z _) c11).trans ?_
 rw[ab]
 refine(congrArg (λz=>ah z _) c12).trans ?_
 rw[ab]
 refine(congrArg (λz=>ah z _) c13).trans ?_
 rw[ab]
 refine(congrArg (λz=>ah z _) c14).trans ?_
 rw[ab]
 refine(congrArg (λz=>ah (rU Sum.getLeft? z) _) c15).trans ?_
 rw[Jv,ab]
 refine(congrArg (λz=>ah (rU Sum.getLeft? z) _) c16).trans ?_
 rw[Jv,ab]
 refine(congrArg (λz=>ah (rU Sum.getRight? z) _) c17).trans ?_
 rw[OO,ab]
 refine(congrArg (λz=>ah z _) c12).trans ?_
 rw[ab]
 refine(congrArg (λz=>ah z _) c18).trans ?_
 rw[ab]
 refine(congrArg (λz=>ah z _) c19).trans ?_
 rw[ab]
 refine(congrArg (λz=>ah z _) c20).trans ?_
 rw[ab]
 repeat (first | rw[ag] | rw[jf rfl])
 refine(congrArg (λz=>ah z _) c21).trans ?_
 rw[ab]
 repeat (first | rw[ag] | rw[jf rfl])
 refine(congrArg (λc=>aP c _ _) (jf (rfl:((([]:List eZ).length:Nat):Int)=0))).trans ?_
 rw[ag]
 refine(congrArg (λz=>ah z _) c22).trans ?_
 rw[ab]
 rw[jf rfl,ag]
 refine(congrArg (λz=>ah z _) c23).trans ?_
 rw[ab]
 refine(congrArg (λz=>ah z _) c24).trans ?_
 rw[ab]
 rw[t3]
 rfl
theorem dQ.run:dQ.RS:=rE [] dQ
def dQ.sg:=dQ.gG dQ.ok
abbrev aU.L0.D:=Bool×Int×Int×eZ×Nat×Nat×(List (cd×dP))×(List cn)×(List eN)
def aU.L0.st:aU.L0.D->AS:=λ(head,openv,h,n11,Is,wQ,n40,By,Bz)=>⟨(aT 7 ([.d .bool head,.undef,.undef,.ptr (.new 40 0) 0 [] 0,.ptr (.new 11 0) 0 [] 0,.undef,.d ti openv,.d ti h]++aT 123 [])),[],(ct 11 ([[.obj 0 false (.d gU n11)]]++ct 28 ([[.obj 0 false (.pr (.ptr (.new 40 1) 0 [] 0) (.pr (.aS (.new 40 4) 0 [] 0 0 Is) (.d .unit ()))),.obj 0 false (.pr (.db (.new 40 2) 0) (.pr (.aS (.new 40 3) 0 [] 0 0 wQ) (.d .unit ()))),.obj 0 false (.mp b8 eR n40),.obj 0 false (.vec 161 cE By),.obj 0 false (.vec 60 fh Bz)]]++ct 97 [])))⟩
abbrev aU.L0.Y0:=Unit
abbrev aU.L0.X0:=Unit
def aU.L0.eG:aU.L0.X0->Exit×AS:=λx=>(.ret,⟨(aT 6 ([.d .bool false]++aT 131 [])),[],(List.replicate 138 [])⟩)
abbrev aU.L0.Y1:=Nat×Nat×(List (cd×dP))×(List cn)×(List eN)
abbrev aU.L0.X1:=(Bool×Int×eZ)×(Nat×Nat×(List (cd×dP))×(List cn)×(List eN))
def aU.L0.gZ:aU.L0.X1->Exit×AS:=λx=>(.exit 0,⟨(aT 7 ([.d .bool x.1.1,.undef,.undef,.ptr (.new 40 0) 0 [] 0,.ptr (.new 11 0) 0 [] 0,.undef,.d ti x.1.2.1]++aT 124 [])),[],(ct 11 ([[.obj 0 false (.d gU x.1.2.2)]]++ct 28 ([[.obj 0 false (.pr (.ptr (.new 40 1) 0 [] 0) (.pr (.aS (.new 40 4) 0 [] 0 0 x.2.1) (.d .unit ()))),.obj 0 false (.pr (.db (.new 40 2) 0) (.pr (.aS (.new 40 3) 0 [] 0 0 x.2.2.1) (.d .unit ()))),.obj 0 false (.mp b8 eR x.2.2.2.1),.obj 0 false (.vec 161 cE x.2.2.2.2.1),.obj 0 false (.vec 60 fh x.2.2.2.2.2)]]++ct 97 [])))⟩)
abbrev aU.L0.X:=(aU.L0.X0)⊕(aU.L0.X1)
abbrev aU.L0.Y:=(aU.L0.Y0)⊕(aU.L0.Y1)
def aU.L0.out:aU.L0.X->Out (Exit×AS):=λx=> .br x.isLeft (.get x.getLeft? λa=> .ok (aU.L0.eG a)) (.get x.getRight? λb=> .ok (aU.L0.gZ b))
def aU.L0.add:aU.L0.D->aU.L0.Y->aU.L0.X:=λ(head,openv,h,n11,Is,wQ,n40,By,Bz) y=>match y with | .inl y=> .inl y | .inr z=> .inr (((head,openv,n11),z))
abbrev aU.D:=Int×Int×Int
abbrev aU.Y:=Bool
def yE:Nat->Nat->List eN->List eN
 | 0,_,bs=>bs
 |j+1,nb,bs=>yE j (nb+1) (bs++ [qX ((nb:Int)+1) (nZ nb bs) [] 0])
def BN(af dl:Int):Int:=imax (imax 1 af) dl
def Ol(nb:Nat)(bs:List eN):Prop:=y8 nb bs/\bs.length=nb/\∀b∈bs,b.2.2.1=[]
theorem Jo{nb:Nat}{bs:List eN}(h:Ol nb bs)(hn:nb<=1000):Ol (nb+1) (bs++ [qX ((nb:Int)+1) (nZ nb bs) [] 0]):=by
 have e:bs.take nb=bs:=bk (by rw[h.2.1];exact aw _)
 have h1:=Jm h.1 hn (U7 (h:=(nb:Int)+1) (p:=nZ nb bs) (fill:=0) (by omega) (sY nb bs) LG).1
 rw[e]at h1
 refine⟨h1,by rw[ae,h.2.1];rfl,λb hb=> ?_⟩
 rcases bt.1 hb with hb | hb
 ·exact h.2.2 b hb
 ·rw[bI.1 hb];rfl
theorem Dh:∀(j nb:Nat) (bs:List eN),Ol nb bs->nb+j<=1000->Ol (nb+j) (yE j nb bs)
 | 0,nb,bs,h,_=>h
 |j+1,nb,bs,h,hn=>by
  have:=Dh j (nb+1) _ (Jo h (by omega)) (by omega)
  rw[show nb+(j+1)=nb+1+j by omega]
  exact this
def VH(K af dl:Int):Prop:=KW K/\(¬lW (TW K)=vf)/\(0<=af/\af<=15)/\(0<=dl/\dl<=15)
def aU.L0.aM:aU.L0.D->Prop:=λ(_,op,h,t,nb,n,a,s,bs)=>∃K af dl:Int,VH K af dl/\op=BN af dl/\t=UW K/\n=0/\a=AW K af dl/\s=[]/\∃k:Nat,nb=k/\h=(k:Int)+1/\(k:Int)+1<=op/\Ol nb bs
def aU.L0.F:aU.L0.D->aU.L0.Y:=λ(_,op,h,_,nb,n,a,s,bs)=> .inr (nb+(op - h).toNat,n,a,s,yE (op - h).toNat nb bs)
def aU.aM:aU.D->Prop:=λ(key,af,dl)=>mq key/\(0<=af/\af < 256)/\(0<=dl/\dl < 256)
def aU.F:aU.D->aU.Y:=λ_=>true
def aU.L0.E:=eE.iR aU.L0.st aU.L0.aM aU.L0.add aU.L0.F aU.L0.out
def aU.L0.call:aU.L0.D->Option aU.L0.X:=j9 aU.L0.E aU.L0.st
def aU:Fs Tryz.prog aU.aM bP aU.F:=gC 3 Tryz.f3 (λ(key,after,delay)=>([.d tu key,.d tb after,.d tb delay],[])) (λx=>⟨.d .bool x,[],[]⟩) [some tu,some tb,some tb] [dQ.sg,gm.sg,eO.sg,nY.sg,dK.sg,tid.sg,fC.sg,gQ.sg,fT.sg,fk.sg,eo.sg,dV.sg] {loops:=pz [(12,{bo:=[7,10,11,13,14],sites:=[11,40],owns:=[⟨10,[.snd,.fst],40,30⟩]})],outs:=py [(12,{bo:=[7,10,11,13],sites:=[11,40]},{bo:=[6]})],iX:=qg [(12,aU.L0.E)]}
def aU.L0.R:= @gN Tryz.prog (oo aU.G) aU.an 0 Tryz.f3 0 _ aU.L0.st
abbrev aU.L0.Ok:=mS Tryz.prog (oo aU.G) aU.an 0 Tryz.f3 0 aU.L0.st aU.L0.aM aU.L0.add aU.L0.F aU.L0.out
theorem aU.L0.run:kF aU.L0.call aU.L0.aM aU.L0.add aU.L0.F:=oU (oR [.d .bool,.d ti,.d ti,.d gU,.n,.n,.d (.slice (.pair b8 eR)),.d (.slice cE),.d (.slice fh)] λ_=>by kernel_rfl)
theorem aU.L0.cM:qa @aU.L0.R aU.L0.st aU.L0.aM aU.L0.add aU.L0.F aU.L0.out aU.L0.Ok:=qD
theorem aU.L0.step{R:Type}(head:Bool)(openv:Int)(h:Int)(n11:eZ)(Is:Nat)(wQ:Nat)(n40:(List (cd×dP)))(By:(List cn))(Bz:(List eN))(kn:AS->Option R)(kx:Exit->AS->Option R):aU.L0.R (head,openv,h,n11,Is,wQ,n40,By,Bz) kn kx=
  aP ((jx h openv)) (
   ah (fC.call (Is,wQ,n40,By,Bz)) λLS=>
   ah (gQ.call (LS.2,h,((0:Int),([n11],((0:Int),(([]:List cd),((0:Int),(((0:Int),((List.replicate 32 (0:Int)),(([]:List eZ),((0:Int),(([]:List cd),()))))),(([]:List eN),()))))))))) λSn=>
   ah (fT.call (Sn,LS.1.1,LS.1.2.1,LS.1.2.2.1,LS.1.2.2.2.1,LS.1.2.2.2.2)) λOi=>
   ah (fC.call (Oi.2.1,Oi.2.2.1,Oi.2.2.2.1,Oi.2.2.2.2.1,Oi.2.2.2.2.2)) λSq=>
   ah (gQ.call (Sq.2,h,((0:Int),(([]:List eZ),((0:Int),(([]:List cd),((0:Int),(((0:Int),((List.replicate 32 (0:Int)),(([]:List eZ),((0:Int),(([]:List cd),()))))),(([]:List eN),()))))))))) λZK=>
   ah (fT.call (ZK,Sq.1.1,Sq.1.2.1,Sq.1.2.2.1,Sq.1.2.2.2.1,Sq.1.2.2.2.2)) λS7=>
   aP ((w9 Oi.1 (11:Int))) (
    kx (aU.L0.eG ()).1 (aU.L0.eG ()).2) (
    aP ((w9 S7.1 (0:Int))) (
     kx (aU.L0.eG ()).1 (aU.L0.eG ()).2) (
     kn (aU.L0.st (head,openv,(cG .i64 h (1:Int)),n11,S7.2.1,S7.2.2.1,S7.2.2.2.1,S7.2.2.2.2.1,S7.2.2.2.2.2))))) (
   kx (aU.L0.gZ ((head,openv,n11),(Is,wQ,n40,By,Bz))).1 (aU.L0.gZ ((head,openv,n11),(Is,wQ,n40,By,Bz))).2):=by kernel_rfl
theorem aU.eq{R:Type}(key after delay)(k:K1 R):aU.A (key,after,delay) k=
  ah (dQ.call ()) λx4=>
  ah (gm.call (cG .u64 1 (kQ key 2305843009213688668))) λx8=>
  ah (eO.call [(100,(([([x8],((fa .i64 (kQ after 16)),((fa .i64 (kQ delay 16)),(0,()))))],()),()))]) λx9=>
  aP (x9.isLeft) (
   ah (x9.getLeft?) λZX=>
   ah (gm.call (cG .u64 1 (kQ key 2305843009213688668))) λXv=>
   ah (nY.call Xv) λLR=>
   ah (dK.call (([(((List.replicate 32 0),(0,())),((0,(([]:List Sg),(0,()))),()))],([(90,(LR,()))],(0,()))),0,0,[(cG .u64 1 (kQ key 2305843009213688668))],0)) λQt=>
   k (aU.out false)) (
   ah (x9.getRight?) λXy=>
   ah (gm.call (cG .u64 1 (kQ key 2305843009213688668))) λOg=>
   ah (nY.call Og) λOh=>
   ah (dK.call (([(((List.replicate 32 0),(0,())),((0,(([]:List Sg),(0,()))),()))],([(90,(Oh,()))],(0,()))),0,0,[(cG .u64 1 (kQ key 2305843009213688668))],0)) λUO=>
   aP ((w9 UO.2 0)) (
    k (aU.out false)) (
    ah (tid.call UO.1) λXw=>
    aP ((Ty.beq tH Xw (List.replicate 32 0))) (
     k (aU.out x4)) (
     ah (aU.L0.call (x4,(imax (imax 1 (fa .i64 (kQ after 16))) (fa .i64 (kQ delay 16))),1,UO.1,0,0,Xy.1,Xy.2.1,Xy.2.2)) λN5=>
     aP (N5.isLeft) (
      ah (N5.getLeft?) λa138=>
      k (aU.out false)) (
      ah (N5.getRight?) λb139=>
      ah (fC.call (b139.2.1,b139.2.2.1,b139.2.2.2.1,b139.2.2.2.2.1,b139.2.2.2.2.2)) λLC=>
      ah (gQ.call (LC.2,b139.1.2.1,(0,([b139.1.2.2],(0,(([]:List cd),(0,((0,((List.replicate 32 0),(([]:List eZ),(0,(([]:List cd),()))))),(([]:List eN),()))))))))) λXs=>
      ah (fT.call (Xs,LC.1.1,LC.1.2.1,LC.1.2.2.1,LC.1.2.2.2.1,LC.1.2.2.2.2)) λLD=>
      ah (tid.call b139.1.2.2) λXt=>
      ah (fk.call (Xt,LD.2.1,LD.2.2.1,LD.2.2.2.1,LD.2.2.2.2.1,LD.2.2.2.2.2)) λI4=>
      ah (eo.call (I4.2.2.1,I4.2.2.2.1,I4.2.2.2.2.1,I4.2.2.2.2.2.1,I4.2.2.2.2.2.2)) λSl=>
      aP (b139.1.1) (
       aP ((w8 LD.1 0)) (
        aP (I4.2.1) (
         aP ((w8 I4.1 b139.1.2.1)) (
          ah (dV.call (Sl.2.2.2.2.1,Sl.2.2.2.2.2.1,Sl.2.2.2.2.2.2)) λXu=>
          k (aU.out (w8 Xu.1 90))) (
          k (aU.out false))) (
         k (aU.out false))) (
        k (aU.out false))) (
       k (aU.out false)))))):=by kernel_rfl
theorem Qk{af dl:Int}(ha:0<=af/\af<=15)(hd:0<=dl/\dl<=15):1<=BN af dl/\BN af dl<=15/\(∀h,1<=h->(h < BN af dl↔(h < af\/h < dl))):=by
 unfold BN imax
 split <;> split <;> (refine⟨by omega,by omega,λh h1=>⟨λh2=>by omega,λh2=>by omega⟩⟩)
theorem gQ.c{p:Bs}{h:Int}{l:List eZ}{x:_}:gQ.call (p,h,((0:Int),(l,((0:Int),(([]:List cd),x)))))=some (qX h p l 0):=gQ.run (d:=(p,h,((0:Int),(l,((0:Int),(([]:List cd),x)))))) trivial
theorem gG{K af dl:Int}(ha:0<=af/\af<=15)(hd:0<=dl/\dl<=15):sG 400 0 (AW K af dl) []:=(Sx K (af:=af) (dl:=dl) (by omega) (by omega)).mono (by decide)
theorem Yr{K af dl:Int}{nb:Nat}{bs:List eN}(ha:0<=af/\af<=15)(hd:0<=dl/\dl<=15)(he:Ol nb bs)(hn:nb<=1000):fT.call (qX ((nb:Int)+1) (nZ nb bs) [] 0,nb,0,AW K af dl,[],bs)=some (0,nb+1,0,AW K af dl,[],bs++ [qX ((nb:Int)+1) (nZ nb bs) [] 0]):=by
 have e:bs.take nb=bs:=bk (by rw[he.2.1];exact aw _)
 rw[fT.run (d:=(qX ((nb:Int)+1) (nZ nb bs) [] 0,nb,0,AW K af dl,[],bs)) ⟨U7 (by omega) (sY nb bs) LG,aK _,gG ha hd,he.1⟩]
 have e1:=Qz (h:=(nb:Int)+1) (p:=nZ nb bs) (fill:=0) (nb:=nb) (S:=(0,AW K af dl,[])) (bs:=bs) rfl rfl (by omega) (sY nb bs) LG
 rw[e]at e1
 exact congrArg some e1
theorem XD{K af dl:Int}{nb:Nat}{bs:List eN}(hw:VH K af dl)(he:Ol nb bs)(hn:nb<=1000):fT.call (qX ((nb:Int)+1) (nZ nb bs) [UW K] 0,nb,0,AW K af dl,[],bs)=some (if(nb:Int)+1 < af\/(nb:Int)+1 < dl then(11,nb,0,AW K af dl,[],bs) else(0,nb+1,1,BW K ((nb:Int)+1),[stepOf (UW K) (AW K af dl)],bs++ [qX ((nb:Int)+1) (nZ nb bs) [UW K] 0])):=by
 obtain⟨hk,fL,ha,hd⟩:=hw
 have e:bs.take nb=bs:=bk (by rw[he.2.1];exact aw _)
 rw[fT.run (d:=(qX ((nb:Int)+1) (nZ nb bs) [UW K] 0,nb,0,AW K af dl,[],bs)) ⟨Vz hk (by omega) (sY nb bs) LG,aw _,gG ha hd,he.1⟩]
 have e1:=Te hk (h:=(nb:Int)+1) (p:=nZ nb bs) (fill:=0) (nb:=nb) (n:=0) (x:=tW 0 ((100:Int),(LW K af dl,()))) (s:=[]) (bs:=bs) rfl rfl (by omega) (sY nb bs) LG
 rw[show([tW 0 ((100:Int),(LW K af dl,()))]:At)=AW K af dl from rfl,VT hk fL (by omega) (by omega) (by omega) (by omega),VN hk,e]at e1
 refine(congrArg some e1).trans ?_
 by_cases h:(nb:Int)+1 < af\/(nb:Int)+1 < dl
 ·rw[if_pos h,if_pos h];rfl
 ·rw[if_neg h,if_neg h];rfl
theorem aU.L0.ok:aU.L0.Ok:=by
 refine aU.L0.cM (λ(_,op,h,_)=>(op - h).toNat) ?_
 rintro⟨head,op,h,t,nb,n,a,s,bs⟩ ⟨K,af,dl,hw,rfl,rfl,rfl,rfl,rfl,k,rfl,rfl,dr,he⟩
 have he:Ol nb bs:=he
 obtain⟨hk,fL,ha,hd⟩:=id hw
 obtain⟨o1,o2,o3⟩:=Qk ha hd
 have o3:=o3 ((nb:Int)+1) (by omega)
 have dr:(nb:Int)+1<=BN af dl:=dr
 generalize hO:BN af dl=O at o1 o2 o3 dr ⊢
 by_cases iv:(nb:Int)+1 < O
 ·left
  have c1:=XD hw he (by omega)
  rw[if_pos (o3.1 iv)]at c1
  have c2:=Yr (K:=K) ha hd he (by omega)
  have e1:(O - ((nb:Int)+1)).toNat=(O - (((nb+1:Nat):Int)+1)).toNat+1:=by omega
  refine⟨(head,O,((nb+1:Nat):Int)+1,UW K,nb+1,0,AW K af dl,[],bs++ [qX ((nb:Int)+1) (nZ nb bs) [] 0]),⟨K,af,dl,hw,hO.symm,rfl,rfl,rfl,rfl,nb+1,rfl,rfl,by omega,Jo he (by omega)⟩,by simp only[];omega,?_,λkn kx=> ?_⟩
  ·simp only[aU.L0.add,aU.L0.F,e1,yE]
   rw[show nb+1+(O - (((nb+1:Nat):Int)+1)).toNat=nb+((O - (((nb+1:Nat):Int)+1)).toNat+1) by omega]
  ·rw[aU.L0.step,bg (by omega),ag,fC.c he.1,ab,gQ.c,ab,c1,ab,fC.c he.1,ab,gQ.c,ab,c2,ab,ff rfl,al,ff rfl,al,fX (by omega) (by omega)]
   rfl
 ·right
  obtain rfl:O=(nb:Int)+1:=by omega
  refine⟨aU.L0.gZ ((head,(nb:Int)+1,UW K),(nb,0,AW K af dl,[],bs)),?_,λkn kx=> ?_⟩
  rotate_left
  ·rw[aU.L0.step,aX (by omega),al]
  ·have e0:((nb:Int)+1 - ((nb:Int)+1)).toNat=0:=by omega
   simp only[aU.L0.add,aU.L0.F,e0,yE]
   rfl
theorem Hl(id:Bs)(b:eN)(hb:xp id b.2.2.1=true):∀(l:List eN) (i:Int),(∀x∈l,x.2.2.1=[])->kN id (l++ [b]) i=some (i+l.length+1)
 |[],i,_=>by
  rw[aR,kN,if_pos hb]
  simp
 |x::l,i,h=>by
  rw[List.cons_append,kN,h x aH,if_neg (λe=>by cases e),Hl id b hb l (i+1) λy hy=>h y (aF _ hy),aB]
  congr 1
  omega
theorem aU.ok:aU.Ok:=by
 rintro⟨key,af0,dl0⟩ ⟨Rl,⟨VY,ZL⟩,PT,ZN⟩
 have VY:0<=af0:=VY
 have PT:0<=dl0:=PT
 have hk:=MZ key
 have e1:fa .i64 (kQ af0 16)=af0%16:=by rw[rW VY];exact EC (by omega) (by omega)
 have e2:fa .i64 (kQ dl0 16)=dl0%16:=by rw[rW PT];exact EC (by omega) (by omega)
 have ha:0<=af0%16/\af0%16<=15:=by omega
 have hd:0<=dl0%16/\dl0%16<=15:=by omega
 rw[aU.eq,MY Rl,e1,e2]
 generalize keyOf key=K at hk ⊢
 generalize af0%16=af at ha ⊢
 generalize dl0%16=dl at hd ⊢
 have hk:KW K:=hk
 have c0:dQ.call ()=some true:=dQ.run (d:=()) trivial
 have c1:gm.call K=some (fN K):=gm.run (d:=K) ⟨by have:=hk.1;omega,by have:=hk.2;omega⟩
 have c2:nY.call (fN K)=some (LW K 0 0):=nY.run (d:=fN K) trivial
 have c3:=Uu K (af:=af) (dl:=dl) (by omega) (by omega)
 have c6:=Qq hk
 have c7:=tid.cW hk
 rw[c0,ab,c1,ab]
 refine(congrArg (λz=>ah z _) c3).trans ?_
 rw[ab]
 simp only[fe,al,dX,ab]
 rw[c2,ab]
 refine(congrArg (λz=>ah z _) c6).trans ?_
 rw[ab,ff rfl,al,c7,ab,Mx]
 by_cases fL:lW (TW K)=List.replicate 32 0
 ·rw[decide_eq_true fL,ag]
  rfl
 rw[decide_eq_false fL,al]
 have hw:VH K af dl:=⟨hk,fL,ha,hd⟩
 obtain⟨o1,o2,o3⟩:=Qk ha hd
 have Cy:Ol 0 []:=⟨⟨aw _,by decide,λb hb=>(by cases hb)⟩,rfl,λb hb=>(by cases hb)⟩
 refine(congrArg (λz=>ah z _) (aU.L0.run (d:=(true,BN af dl,1,UW K,0,0,AW K af dl,[],[])) ⟨K,af,dl,hw,rfl,rfl,rfl,rfl,rfl,0,rfl,rfl,o1,Cy⟩)).trans ?_
 obtain⟨j,hj⟩:∃j:Nat,BN af dl=(j:Int)+1:=⟨(BN af dl - 1).toNat,by omega⟩
 have ej:(BN af dl - 1).toNat=j:=by omega
 have he:=Dh j 0 [] Cy (by omega)
 rw[aI]at he
 have X5:¬((j:Int)+1 < af\/(j:Int)+1 < dl):=λh=>by
  have:=(o3 ((j:Int)+1) (by omega)).2 h
  omega
 simp only[ab,aU.L0.add,aU.L0.F,ej,aI,fe,al,dX]
 generalize yE j 0 []=bs at he ⊢
 have c8:=XD hw he (by omega)
 rw[if_neg X5]at c8
 have hb:y8 (j+1) (bs++ [qX ((j:Int)+1) (nZ j bs) [UW K] 0]):=by
  have:=Jm he.1 (by omega) (Vz hk (h:=(j:Int)+1) (p:=nZ j bs) (fill:=0) (by omega) (sY j bs) LG).1
  rwa[bk (by rw[he.2.1];exact aw _)]at this
 have hs:=SB hk fL (af:=af) (dl:=dl) (h:=(j:Int)+1) (by omega) (by omega) (by omega) (by omega) X5
 rw[hj,fC.c he.1,ab,gQ.c,ab,c8,ab,c7,ab]
 have hl:(bs++ [qX ((j:Int)+1) (nZ j bs) [UW K] 0]).length=j+1:=by rw[ae,he.2.1];rfl
 have ew:kN (lW (TW K)) ((bs++ [qX ((j:Int)+1) (nZ j bs) [UW K] 0]).take (j+1)) 0=some ((j:Int)+1):=by
  rw[bk (by rw[hl];exact aw _),Hl _ _ (Q6 hk) bs 0 he.2.2,he.2.1,Int.zero_add]
 rw[fk.run (d:=(lW (TW K),j+1,1,BW K ((j:Int)+1),[stepOf (UW K) (AW K af dl)],bs++ [qX ((j:Int)+1) (nZ j bs) [UW K] 0])) hb]
 simp only[ab,fk.F,ew]
 rw[eo.run (d:=(j+1,1,BW K ((j:Int)+1),[stepOf (UW K) (AW K af dl)],bs++ [qX ((j:Int)+1) (nZ j bs) [UW K] 0])) (hs.mono (by decide))]
 have ec:iM (BW K ((j:Int)+1))=BW K ((j:Int)+1):=Ox
 simp only[ab,eo.add,eo.F,ec]
 rw[ag,jf rfl,ag,ag,jf rfl,ag]
 refine(congrArg (λz=>ah z _) hs.total).trans ?_
 rw[ab,Xl K,jf rfl]
 rfl
theorem aU.run:aU.RS:=rE [.d tu,.d tb,.d tb] aU
def aU.sg:=aU.gG aU.ok 1 ⟨.iR aU.L0.ok,trivial⟩
end Go.Ab
end
