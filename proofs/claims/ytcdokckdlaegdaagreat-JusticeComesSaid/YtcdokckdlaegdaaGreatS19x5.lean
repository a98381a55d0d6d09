/-
  Made short by a program of mine (wip/tools/mini.py).
-/
import Derived.Test.YtcdokckdlaegdaaGreatS19x4
set_option linter.unusedVariables false
set_option linter.unusedSimpArgs false
set_option maxRecDepth 100000
set_option synthInstance.maxSize 5000
noncomputable section
namespace Go.Ab
open Go.Proofs
abbrev hZ.D:=Bs×Bs
def hZ.st:hZ.D->SA:=λ(b,h)=>([.d tB b,.d tH h],[])
abbrev hZ.Y:=Bs
abbrev hZ.X:=Bs
def hZ.out:hZ.X->aX:=λx=>⟨.d tB x,[],[]⟩
def hZ.add:hZ.D->hZ.Y->hZ.X:=λ(b,h) y=>y
def hZ.az:hZ.D->Prop:=λ(b,h)=>b.length+h.length<=100000000/\h.length=32
def hZ.F:hZ.D->hZ.Y:=λ(b,h)=>b++h
def hZ.G:fD:=gr (P:=Tryz.prog) [fT.sg]
def hZ.an:fR:= {}
def hZ.A:= @dm Tryz.prog hZ.G hZ.an 0 Tryz.f108 _ hZ.st
abbrev hZ.Ok:=dn @hZ.A hZ.az hZ.add hZ.F hZ.out
theorem hZ.eq{R:Type}(b:Bs)(h:Bs)(k:aX->Option R):hZ.A (b,h) k=
 ah (fT.call (b,(cut h 0 32))) λx1=>
 k (hZ.out x1):=by kernel_rfl
theorem hZ.ok:hZ.Ok:=by
 rintro⟨b,h⟩ ⟨h1,h2⟩
 have h1:b.length+h.length<=100000000:=h1
 have h2:h.length=32:=h2
 rw[hZ.eq,jf h2,fT.run (d:=(b,h)) h1]
 rfl
def hZ.E:=Entry.dp [some tB,some tH] hZ.st hZ.az hZ.add hZ.F hZ.out
def hZ.call:hZ.D->Option hZ.X:=bX hZ.E hZ.st
theorem hZ.run:b8 hZ.call hZ.az hZ.add hZ.F:=dv (du [.d tB,.d tB] λ_=>by kernel_rfl)
def hZ.sg:SG Tryz.prog:=⟨108,aP,hZ.E,.fn 0 (by kernel_rfl) hZ.ok trivial⟩
abbrev gN.D:=Bs×Bs
def gN.st:gN.D->SA:=λ(b,c)=>([.d tB b,.d tB c],[])
abbrev gN.Y:=Bs
abbrev gN.X:=Bs
def gN.out:gN.X->aX:=λx=>⟨.d tB x,[],[]⟩
def gN.add:gN.D->gN.Y->gN.X:=λ(b,c) y=>y
def gN.az:gN.D->Prop:=λ(b,c)=>b.length+c.length<=90000000
def gN.F:gN.D->gN.Y:=λ(b,c)=>b++(CX c.length++c)
def gN.G:fD:=gr (P:=Tryz.prog) [ek.sg,aF.sg]
def gN.an:fR:= {res:=[some tB]}
def gN.A:= @dm Tryz.prog gN.G gN.an 0 Tryz.f109 _ gN.st
abbrev gN.Ok:=dn @gN.A gN.az gN.add gN.F gN.out
theorem gN.eq{R:Type}(b:Bs)(c:Bs)(k:aX->Option R):gN.A (b,c) k=
 ah (ek.call (((List.length c):Nat):Int)) λx1=>
 ah (aF.call [b,x1,c]) λx2=>
 k (gN.out x2):=by kernel_rfl
theorem gN.ok:gN.Ok:=by
 rintro⟨b,c⟩ h
 have h:b.length+c.length<=90000000:=h
 have hl:=yZ c.length
 rw[gN.eq,ek.run (d:=(c.length:Int)) ⟨by omega,by omega⟩]
 simp only[ab,ek.add,ek.F]
 rw[aF.run (d:=[b,CX c.length,c]) ⟨by show [b,CX c.length,c].length<=_;simp,by show qa [b,CX c.length,c]<=_;simp only[qa,lT,oc,dg,aj];omega⟩]
 simp only[ab,aF.add,aF.F,gN.add,gN.F,lT,oc,dg]
def gN.E:=Entry.dp [some tB,some tB] gN.st gN.az gN.add gN.F gN.out
def gN.call:gN.D->Option gN.X:=bX gN.E gN.st
theorem gN.run:b8 gN.call gN.az gN.add gN.F:=dv (du [.d tB,.d tB] λ_=>by kernel_rfl)
def gN.sg:SG Tryz.prog:=⟨109,aP,gN.E,.fn 0 (by kernel_rfl) gN.ok trivial⟩
def Dr(b:List Int)(x:kX):List Int:=jQ (b++x.1.1) x.1.2.1
def DR(b:List Int)(o:kI):List Int:=jQ b o.1++(CX (Nj o.2.1).length++Nj o.2.1)
def we(t:je):List Int:=jQ (t.2.1.foldl DR (jQ (t.1.foldl Dr (jQ [] t.1.length)) t.2.1.length)) t.2.2.1
def oJ(t:je):List Int:=if j9 t then tag (cm (⟨#[116,120]⟩:ByteArray)) [we t] else List.replicate 32 0
def WG(x:kX):Prop:=Sm x.1.1/\KB x.2.1/\x.2.1.2.1.length<=9223372036854775807
def u9(t:je):Prop:=Ur t/\(∀x∈t.1,WG x)/\t.2.2.1<=9223372036854775807
theorem ub:∀(l:List kX) (m:List (iF×Bool)),tE m l=true->∀x∈l,zI x=true
 |[],_,_,x,hx=>by cases hx
 |y::l,m,h,x,hx=>by
  rw[tE,ak,ak]at h
  rcases cE.1 hx with rfl | hx
  ·exact h.1.2
  ·exact ub l _ h.2 x hx
theorem pC:∀(l:List kI) (s:Int),qh s l=true->∀o∈l,(0<=o.1/\o.1<=1125899906842624)/\lj o.2.1=true
 |[],_,_,o,ho=>by cases ho
 |y::l,s,h,o,ho=>by
  rw[qh,ak,ak]at h
  rcases cE.1 ho with rfl | ho
  ·have h1:=h.1.1
   unfold tS tx at h1
   simp only[ak,decide_eq_true_eq]at h1
   exact⟨h1.2.1,h.1.2⟩
  ·exact pC l _ h.2 o ho
theorem Fp{x:kX}(h:zI x=true):0<=x.1.2.1/\x.1.2.1 < 64/\0<=x.2.1.1/\x.2.1.1 < 4/\x.2.1.2.1.length<=12:=by
 unfold zI uk at h
 simp only[ak,decide_eq_true_eq]at h
 exact⟨h.1.1,h.1.2,h.2.1.1,h.2.1.2,h.2.2⟩
theorem pD{t:je}(h:j9 t=true):(1<=t.1.length/\t.1.length<=64/\t.2.1.length<=64/\0<=t.2.2.1)/\tE [] t.1=true/\qh 0 t.2.1=true:=by
 unfold j9 yc at h
 simp only[ak,decide_eq_true_eq]at h
 exact h
theorem JX(b:List Int)(x:kX):(Dr b x).length<=b.length+x.1.1.length+11:=by
 have:=ld (b++x.1.1) x.1.2.1
 rw[aj]at this
 exact this
theorem Ht(b:List Int)(o:kI):(DR b o).length<=b.length+1022:=by
 have h1:=ld b o.1
 have h2:=yZ (Nj o.2.1).length
 have h3:=Fw o.2.1
 unfold DR
 rw[aj,aj]
 omega
abbrev aV.L0.D:=je×Bs×(List kX)×Int×Int
def aV.L0.st:aV.L0.D->AS:=λ(wu,b,t13,t14,t15)=>⟨([.undef,.gE lS wu,.undef,.d tB b]++bG 9 ([.d (.slice kW) t13,.d ti t14,.d ti t15]++bG 38 [])),[],(List.replicate 54 [])⟩
abbrev aV.L0.Y0:=Bs
abbrev aV.L0.X0:=(je)×(Bs)
def aV.L0.bY:aV.L0.X0->Exit×AS:=λx=>(.exit 0,⟨([.undef,.gE lS x.1,.undef,.d tB x.2]++bG 50 []),[],(List.replicate 54 [])⟩)
abbrev aV.L0.X:=aV.L0.X0
abbrev aV.L0.Y:=aV.L0.Y0
def aV.L0.out:aV.L0.X->Out (Exit×AS):=λx=> .ok (aV.L0.bY x)
def aV.L0.add:aV.L0.D->aV.L0.Y->aV.L0.X:=λ(wu,b,t13,t14,t15) y=>(wu,y)
abbrev aV.L1.D:=je×Bs×(List kI)×Int×Int
def aV.L1.st:aV.L1.D->AS:=λ(Bh,ow,t35,t36,t37)=>⟨([.undef,.gE lS Bh,.undef,.d tB ow]++bG 31 ([.d (.slice lH) t35,.d ti t36,.d ti t37]++bG 16 [])),[],(List.replicate 54 [])⟩
abbrev aV.L1.Y0:=Bs
abbrev aV.L1.X0:=(je)×(Bs)
def aV.L1.bY:aV.L1.X0->Exit×AS:=λx=>(.exit 2,⟨([.undef,.gE lS x.1,.undef,.d tB x.2]++bG 50 []),[],(List.replicate 54 [])⟩)
abbrev aV.L1.X:=aV.L1.X0
abbrev aV.L1.Y:=aV.L1.Y0
def aV.L1.out:aV.L1.X->Out (Exit×AS):=λx=> .ok (aV.L1.bY x)
def aV.L1.add:aV.L1.D->aV.L1.Y->aV.L1.X:=λ(Bh,ow,t35,t36,t37) y=>(Bh,y)
abbrev aV.D:=je
def aV.st:aV.D->SA:=λt=>([.d lS t],[])
abbrev aV.Y:=Bs
abbrev aV.X:=Bs
def aV.out:aV.X->aX:=λx=>⟨.d tB x,[],[]⟩
def aV.add:aV.D->aV.Y->aV.X:=λt y=>y
def aV.L0.az:aV.L0.D->Prop:=λ(t,b,l,n,i)=>(l).length<=1000000000/\∃k:Nat,k<=(l).length/\i=k/\n=(l).length/\(l.length<=64)/\(∀x∈l,x.1.1.length=32/\x.1.2.1<=9223372036854775807)/\(b.length<=100+50*k)
def aV.L0.F:aV.L0.D->aV.L0.Y:=λ(t,b,l,n,i)=>(List.drop (Int.toNat i) l).foldl Dr b
def aV.L1.az:aV.L1.D->Prop:=λ(t,b,l,n,i)=>(l).length<=1000000000/\∃k:Nat,k<=(l).length/\i=k/\n=(l).length/\(l.length<=64)/\(∀o∈l,o.1<=9223372036854775807/\uq o.2.1)/\(b.length<=4000+1100*k)
def aV.L1.F:aV.L1.D->aV.L1.Y:=λ(t,b,l,n,i)=>(List.drop (Int.toNat i) l).foldl DR b
def aV.az:aV.D->Prop:=λt=>j9 t=true/\u9 t
def aV.F:aV.D->aV.Y:=λt=>we t
def aV.G:fD:=gr (P:=Tryz.prog) [gD.sg,hZ.sg,aR.sg,gN.sg]
def aV.L0.E:=cU.dp aV.L0.st aV.L0.az aV.L0.add aV.L0.F aV.L0.out
def aV.L0.call:aV.L0.D->Option aV.L0.X:=eI aV.L0.E aV.L0.st
def aV.L1.E:=cU.dp aV.L1.st aV.L1.az aV.L1.add aV.L1.F aV.L1.out
def aV.L1.call:aV.L1.D->Option aV.L1.X:=eI aV.L1.E aV.L1.st
def aV.an:fR:= {loops:=om [(3,{bO:=[1,3,13,14,15]}),(9,{bO:=[1,3,35,36,37]})],outs:=oh [(3,{bO:=[1,3]},{bO:=[2]}),(9,{bO:=[1,3]},{bO:=[2]})],jo:=pb [(3,aV.L0.E),(9,aV.L1.E)],res:=[some tB]}
def aV.A:= @dm Tryz.prog aV.G aV.an 0 Tryz.f52 _ aV.st
abbrev aV.Ok:=dn @aV.A aV.az aV.add aV.F aV.out
def aV.L0.R:= @dr Tryz.prog aV.G aV.an 0 Tryz.f52 0 _ aV.L0.st
abbrev aV.L0.Ok:=gz Tryz.prog aV.G aV.an 0 Tryz.f52 0 aV.L0.st aV.L0.az aV.L0.add aV.L0.F aV.L0.out
def aV.L1.R:= @dr Tryz.prog aV.G aV.an 0 Tryz.f52 1 _ aV.L1.st
abbrev aV.L1.Ok:=gz Tryz.prog aV.G aV.an 0 Tryz.f52 1 aV.L1.st aV.L1.az aV.L1.add aV.L1.F aV.L1.out
theorem aV.L0.run:b8 aV.L0.call aV.L0.az aV.L0.add aV.L0.F:=gR (gJ [.d lS,.d tB,.d (.slice kW),.d ti,.d ti] λ_=>by kernel_rfl)
theorem aV.L0.aI:jl @aV.L0.R aV.L0.st aV.L0.az aV.L0.add aV.L0.F aV.L0.bY aV.L0.Ok:=js
theorem aV.L0.step{R:Type}(wu:je)(b:Bs)(t13:(List kX))(t14:Int)(t15:Int)(kn:AS->Option R)(kx:Exit->AS->Option R):aV.L0.R (wu,b,t13,t14,t15) kn kx=
  aJ ((jM t15 t14)) (
   aJ (fB t15 (((List.length t13):Nat):Int)) (
   ah (hZ.call (b,(nth kW t13 (Int.toNat t15)).1.1)) λx1=>
   ah (gD.call (x1,(nth kW t13 (Int.toNat t15)).1.2.1)) λx2=>
   kn (aV.L0.st (wu,x2,t13,t14,(bV .i64 t15 (1:Int))))) none) (
   kx (aV.L0.bY (wu,b)).1 (aV.L0.bY (wu,b)).2):=by kernel_rfl
theorem aV.L1.run:b8 aV.L1.call aV.L1.az aV.L1.add aV.L1.F:=gR (gJ [.d lS,.d tB,.d (.slice lH),.d ti,.d ti] λ_=>by kernel_rfl)
theorem aV.L1.aI:jl @aV.L1.R aV.L1.st aV.L1.az aV.L1.add aV.L1.F aV.L1.bY aV.L1.Ok:=js
theorem aV.L1.step{R:Type}(Bh:je)(ow:Bs)(t35:(List kI))(t36:Int)(t37:Int)(kn:AS->Option R)(kx:Exit->AS->Option R):aV.L1.R (Bh,ow,t35,t36,t37) kn kx=
  aJ ((jM t37 t36)) (
   aJ (fB t37 (((List.length t35):Nat):Int)) (
   ah (gD.call (ow,(nth lH t35 (Int.toNat t37)).1)) λx1=>
   ah (aR.call (nth lH t35 (Int.toNat t37)).2.1) λx2=>
   ah (gN.call (x1,x2)) λx3=>
   kn (aV.L1.st (Bh,x3,t35,t36,(bV .i64 t37 (1:Int))))) none) (
   kx (aV.L1.bY (Bh,ow)).1 (aV.L1.bY (Bh,ow)).2):=by kernel_rfl
theorem aV.eq{R:Type}(t:je)(k:aX->Option R):aV.A t k=
 ah (gD.call (([]:List Int),(((List.length t.1):Nat):Int))) λx1=>
 ah (aV.L0.call (t,x1,t.1,(((List.length t.1):Nat):Int),(0:Int))) λx4=>
 ah (gD.call (x4.2,(((List.length x4.1.2.1):Nat):Int))) λx5=>
 ah (aV.L1.call (x4.1,x5,x4.1.2.1,(((List.length x4.1.2.1):Nat):Int),(0:Int))) λx9=>
 ah (gD.call (x9.2,x9.1.2.2.1)) λBi=>
 k (aV.out Bi):=by kernel_rfl
theorem aV.L0.ok:aV.L0.Ok:=by
 refine aV.L0.aI (λ(t,b,l,n,i)=>(l).length - Int.toNat i) ?_
 rintro⟨t,b,l,n,i⟩ ⟨hlen,k,hk,rfl,rfl,Fj,hx,hb⟩
 have hlen:(l).length<=1000000000:=hlen
 have hk:k<=(l).length:=hk
 have Fj:l.length<=64:=Fj
 have hx:∀x∈l,x.1.1.length=32/\x.1.2.1<=9223372036854775807:=hx
 have hb:b.length<=100+50*k:=hb
 by_cases h:k < (l).length
 ·left
  have n1:nth kW l k=l[k]:=dQ (t:=kW) h
  have hd:List.drop k l=l[k]::List.drop (k+1) l:=av h
  refine⟨(t,(Dr b l[k]),l,((l).length:Int),((k+1:Nat):Int)),⟨hlen,k+1,by omega,rfl,rfl,Fj,hx,by have:=JX b l[k];have:=(hx _ (List.getElem_mem h)).1;omega⟩,by simp only[aa];omega,?_,λkn kx=> ?_⟩
  ·simp only[aV.L0.add,aV.L0.F,aa,hd,iv]
  ·rw[aV.L0.step,bI (by omega),bF (by omega) (by omega),aa,n1]
   simp only[ae]
   have e:=hx _ (List.getElem_mem h)
   have e2:(b++l[k].1.1).length=b.length+l[k].1.1.length:=aj
   rw[hZ.run (d:=(b,l[k].1.1)) ⟨by show b.length+l[k].1.1.length<=_;omega,e.1⟩]
   simp only[ab,hZ.add,hZ.F]
   rw[gD.run (d:=(b++l[k].1.1,l[k].1.2.1)) ⟨by show(b++l[k].1.1).length<=_;omega,e.2⟩]
   simp only[ab,gD.add,gD.F]
   rw[N.pF (by omega)]
   rfl
 ·right
  obtain rfl:k=(l).length:=by omega
  intro R kn kx
  rw[aV.L0.step,bp (by omega),ai]
  simp only[aV.L0.add,aV.L0.F,aa,bB,List.foldl_nil]
theorem aV.L1.ok:aV.L1.Ok:=by
 refine aV.L1.aI (λ(t,b,l,n,i)=>(l).length - Int.toNat i) ?_
 rintro⟨t,b,l,n,i⟩ ⟨hlen,k,hk,rfl,rfl,Fj,hx,hb⟩
 have hlen:(l).length<=1000000000:=hlen
 have hk:k<=(l).length:=hk
 have Fj:l.length<=64:=Fj
 have hx:∀o∈l,o.1<=9223372036854775807/\uq o.2.1:=hx
 have hb:b.length<=4000+1100*k:=hb
 by_cases h:k < (l).length
 ·left
  have n1:nth lH l k=l[k]:=dQ (t:=lH) h
  have hd:List.drop k l=l[k]::List.drop (k+1) l:=av h
  refine⟨(t,(DR b l[k]),l,((l).length:Int),((k+1:Nat):Int)),⟨hlen,k+1,by omega,rfl,rfl,Fj,hx,by have:=Ht b l[k];omega⟩,by simp only[aa];omega,?_,λkn kx=> ?_⟩
  ·simp only[aV.L1.add,aV.L1.F,aa,hd,iv]
  ·rw[aV.L1.step,bI (by omega),bF (by omega) (by omega),aa,n1]
   simp only[ae]
   have e:=hx _ (List.getElem_mem h)
   have e1:=ld b l[k].1
   have e2:=Fw l[k].2.1
   rw[gD.run (d:=(b,l[k].1)) ⟨by show b.length<=_;omega,e.1⟩]
   simp only[ab,gD.add,gD.F]
   rw[aR.run (d:=l[k].2.1) e.2]
   simp only[ab,aR.add,aR.F]
   rw[gN.run (d:=(jQ b l[k].1,Nj l[k].2.1)) (by show(jQ b l[k].1).length+(Nj l[k].2.1).length<=_;omega)]
   simp only[ab,gN.add,gN.F]
   rw[N.pF (by omega)]
   rfl
 ·right
  obtain rfl:k=(l).length:=by omega
  intro R kn kx
  rw[aV.L1.step,bp (by omega),ai]
  simp only[aV.L1.add,aV.L1.F,aa,bB,List.foldl_nil]
theorem Fs:∀(l:List kX) (b:List Int),(∀x∈l,x.1.1.length=32)->(l.foldl Dr b).length<=b.length+43*l.length
 |[],b,_=>aE _
 |x::l,b,h=>by
  have h1:=JX b x
  have h2:=h x bh
  have h3:=Fs l (Dr b x) λy hy=>h y (bj _ hy)
  rw[iv,aO]
  omega
theorem CP:∀(l:List kI) (b:List Int),(l.foldl DR b).length<=b.length+1022*l.length
 |[],b=>aE _
 |x::l,b=>by
  have h1:=Ht b x
  have h3:=CP l (DR b x)
  rw[iv,aO]
  omega
theorem I9{t:je}(kA:j9 t=true)(hv:u9 t):(we t).length<=70000:=by
 obtain⟨⟨_,a2,a3,_⟩,_,_⟩:=pD kA
 have h1:=Fs t.1 (jQ [] t.1.length) λx hx=>(hv.2.1 x hx).1.1
 have h2:=ld [] t.1.length
 have h3:=ld (t.1.foldl Dr (jQ [] t.1.length)) t.2.1.length
 have h4:=CP t.2.1 (jQ (t.1.foldl Dr (jQ [] t.1.length)) t.2.1.length)
 have h5:=ld (t.2.1.foldl DR (jQ (t.1.foldl Dr (jQ [] t.1.length)) t.2.1.length)) t.2.2.1
 have h0:([]:List Int).length=0:=rfl
 unfold we
 omega
theorem aV.ok:aV.Ok:=by
 rintro t ⟨kA,hv⟩
 have hv:u9 t:=hv
 obtain⟨⟨_,a2,a3,_⟩,b1,b2⟩:=pD kA
 have h0:([]:List Int).length=0:=rfl
 have l0:=ld [] t.1.length
 have l1:=Fs t.1 (jQ [] t.1.length) λx hx=>(hv.2.1 x hx).1.1
 have l2:=ld (t.1.foldl Dr (jQ [] t.1.length)) t.2.1.length
 have l3:=CP t.2.1 (jQ (t.1.foldl Dr (jQ [] t.1.length)) t.2.1.length)
 rw[aV.eq,gD.run (d:=([],(t.1.length:Int))) ⟨by show([]:List Int).length<=_;omega,by show(t.1.length:Int)<=_;omega⟩]
 simp only[ab,gD.add,gD.F]
 rw[aV.L0.run (d:=(t,jQ [] t.1.length,t.1,t.1.length,0)) ⟨by show t.1.length<=_;omega,0,bm _,rfl,rfl,a2,λx hx=>⟨(hv.2.1 x hx).1.1,by have:=Fp (ub _ _ b1 x hx);omega⟩,by show(jQ [] t.1.length).length<=_;omega⟩]
 simp only[ab,aV.L0.add,aV.L0.F,bH,aW]
 rw[gD.run (d:=(t.1.foldl Dr (jQ [] t.1.length),(t.2.1.length:Int))) ⟨by show(t.1.foldl Dr (jQ [] t.1.length)).length<=_;omega,by show(t.2.1.length:Int)<=_;omega⟩]
 simp only[ab,gD.add,gD.F]
 rw[aV.L1.run (d:=(t,jQ (t.1.foldl Dr (jQ [] t.1.length)) t.2.1.length,t.2.1,t.2.1.length,0)) ⟨by show t.2.1.length<=_;omega,0,bm _,rfl,rfl,a3,λo ho=>⟨by have:=(pC _ _ b2 o ho).1;omega,hv.1.1 o ho⟩,by show(jQ (t.1.foldl Dr (jQ [] t.1.length)) t.2.1.length).length<=_;omega⟩]
 simp only[ab,aV.L1.add,aV.L1.F,bH,aW]
 rw[gD.run (d:=(t.2.1.foldl DR (jQ (t.1.foldl Dr (jQ [] t.1.length)) t.2.1.length),t.2.2.1)) ⟨by show(t.2.1.foldl DR (jQ (t.1.foldl Dr (jQ [] t.1.length)) t.2.1.length)).length<=_;omega,hv.2.2⟩]
 rfl
def aV.E:=Entry.dp [some lS] aV.st aV.az aV.add aV.F aV.out
def aV.call:aV.D->Option aV.X:=bX aV.E aV.st
theorem aV.run:b8 aV.call aV.az aV.add aV.F:=dv (du [.d lS] λ_=>by kernel_rfl)
def aV.sg:SG Tryz.prog:=⟨52,aP,aV.E,.fn 2 (by kernel_rfl) aV.ok (And.intro (.dp aV.L0.ok (by kernel_rfl)) (And.intro (.dp aV.L1.ok (by kernel_rfl)) trivial))⟩
def wA(n:Int)(x:kX):Int:=n+(10+8*x.2.1.2.1.length)+(if x.2.1.2.2.1=0 then 0 else 4)
def rO(t:je):Int:=if j9 t then t.1.foldl wA (10+8*t.2.1.length) else 0
def gS(t:je):List iF:=if j9 t then t.1.map (·.1) else []
def pJ(id:List Int)(k n:Nat):List iF:=(List.range' k n).map λi:Nat=>(id,((i:Int),()))
def gV(t:je):List iF:=if j9 t then pJ (oJ t) 0 t.2.1.length else []
abbrev tid.D:=je
def tid.st:tid.D->SA:=λt=>([.d lS t],[])
abbrev tid.Y:=Bs
abbrev tid.X:=Bs
def tid.out:tid.X->aX:=λx=>⟨.d tH x,[],[]⟩
def tid.add:tid.D->tid.Y->tid.X:=λt y=>y
def tid.az:tid.D->Prop:=λt=>u9 t
def tid.F:tid.D->tid.Y:=λt=>oJ t
def tid.G:fD:=gr (P:=Tryz.prog) [aC.sg,aV.sg,dH.sg]
def tid.an:fR:= {}
def tid.A:= @dm Tryz.prog tid.G tid.an 0 Tryz.f19 _ tid.st
abbrev tid.Ok:=dn @tid.A tid.az tid.add tid.F tid.out
theorem tid.eq{R:Type}(t:je)(k:aX->Option R):tid.A t k=
  ah (aC.call t) λx1=>
  aJ ((!x1)) (
   k (tid.out (List.replicate 32 (0:Int)))) (
   ah (aV.call t) λx2=>
   ah (dH.call ((⟨#[116,120]⟩:ByteArray),[x2])) λx3=>
   k (tid.out x3)):=by kernel_rfl
theorem tid.ok:tid.Ok:=by
 intro t hv
 have hv:u9 t:=hv
 rw[tid.eq,aC.run (d:=t) hv.1]
 simp only[ab,aC.add,aC.F,tid.add,tid.F,oJ]
 cases kA:j9 t
 ·rfl
 ·have hl:=I9 kA hv
  rw[aV.run (d:=t) ⟨kA,hv⟩]
  simp only[bZ,ai,if_true,ab,aV.add,aV.F]
  rw[dH.run (d:=((⟨#[116,120]⟩:ByteArray),[we t])) (HR (by decide) (by omega))]
  rfl
def tid.E:=Entry.dp [some lS] tid.st tid.az tid.add tid.F tid.out
def tid.call:tid.D->Option tid.X:=bX tid.E tid.st
theorem tid.run:b8 tid.call tid.az tid.add tid.F:=dv (du [.d lS] λ_=>by kernel_rfl)
def tid.sg:SG Tryz.prog:=⟨19,aP,tid.E,.fn 0 (by kernel_rfl) tid.ok trivial⟩
abbrev bu.L0.D:=Int×(List kX)×Int×Int
def bu.L0.st:bu.L0.D->AS:=λ(n,t15,t16,t17)=>⟨([.undef,.undef,.undef,.d ti n]++bG 11 ([.d (.slice kW) t15,.d ti t16,.d ti t17]++bG 19 [])),[],(List.replicate 37 [])⟩
abbrev bu.L0.Y0:=Int
abbrev bu.L0.X0:=Int
def bu.L0.bY:bu.L0.X0->Exit×AS:=λx=>(.exit 0,⟨([.undef,.undef,.undef,.d ti x]++bG 33 []),[],(List.replicate 37 [])⟩)
abbrev bu.L0.X:=bu.L0.X0
abbrev bu.L0.Y:=bu.L0.Y0
def bu.L0.out:bu.L0.X->Out (Exit×AS):=λx=> .ok (bu.L0.bY x)
def bu.L0.add:bu.L0.D->bu.L0.Y->bu.L0.X:=λ(n,t15,t16,t17) y=>y
abbrev bu.D:=je
def bu.st:bu.D->SA:=λt=>([.d lS t],[])
abbrev bu.Y:=Int
abbrev bu.X:=Int
def bu.out:bu.X->aX:=λx=>⟨.d ti x,[],[]⟩
def bu.add:bu.D->bu.Y->bu.X:=λt y=>y
def bu.L0.az:bu.L0.D->Prop:=λ(n,l,m,i)=>(l).length<=1000000000/\∃k:Nat,k<=(l).length/\i=k/\m=(l).length/\(l.length<=64)/\(∀x∈l,x.2.1.2.1.length<=12)/\(0<=n)/\(n<=1000+200*(k:Int))
def bu.L0.F:bu.L0.D->bu.L0.Y:=λ(n,l,m,i)=>(List.drop (Int.toNat i) l).foldl wA n
def bu.az:bu.D->Prop:=λt=>u9 t
def bu.F:bu.D->bu.Y:=λt=>rO t
def bu.G:fD:=gr (P:=Tryz.prog) [aC.sg]
def bu.L0.E:=cU.dp bu.L0.st bu.L0.az bu.L0.add bu.L0.F bu.L0.out
def bu.L0.call:bu.L0.D->Option bu.L0.X:=eI bu.L0.E bu.L0.st
def bu.an:fR:= {loops:=om [(5,{bO:=[3,15,16,17]})],outs:=oh [(5,{bO:=[3]},{bO:=[2]})],jo:=pb [(5,bu.L0.E)]}
def bu.A:= @dm Tryz.prog bu.G bu.an 0 Tryz.f23 _ bu.st
abbrev bu.Ok:=dn @bu.A bu.az bu.add bu.F bu.out
def bu.L0.R:= @dr Tryz.prog bu.G bu.an 0 Tryz.f23 0 _ bu.L0.st
abbrev bu.L0.Ok:=gz Tryz.prog bu.G bu.an 0 Tryz.f23 0 bu.L0.st bu.L0.az bu.L0.add bu.L0.F bu.L0.out
theorem bu.L0.run:b8 bu.L0.call bu.L0.az bu.L0.add bu.L0.F:=gR (gJ [.d ti,.d (.slice kW),.d ti,.d ti] λ_=>by kernel_rfl)
theorem bu.L0.aI:jl @bu.L0.R bu.L0.st bu.L0.az bu.L0.add bu.L0.F bu.L0.bY bu.L0.Ok:=js
theorem bu.L0.step{R:Type}(n:Int)(t15:(List kX))(t16:Int)(t17:Int)(kn:AS->Option R)(kx:Exit->AS->Option R):bu.L0.R (n,t15,t16,t17) kn kx=
  aJ ((jM t17 t16)) (
   aJ (fB t17 (((List.length t15):Nat):Int)) (
   aJ ((tc (nth kW t15 (Int.toNat t17)).2.1.2.2.1 (0:Int))) (
    kn (bu.L0.st ((bV .i64 (bV .i64 n (bV .i64 (10:Int) (gY .i64 (8:Int) (((List.length (nth kW t15 (Int.toNat t17)).2.1.2.1):Nat):Int)))) (4:Int)),t15,t16,(bV .i64 t17 (1:Int))))) (
    kn (bu.L0.st ((bV .i64 n (bV .i64 (10:Int) (gY .i64 (8:Int) (((List.length (nth kW t15 (Int.toNat t17)).2.1.2.1):Nat):Int)))),t15,t16,(bV .i64 t17 (1:Int)))))) none) (
   kx (bu.L0.bY n).1 (bu.L0.bY n).2):=by kernel_rfl
theorem bu.eq{R:Type}(t:je)(k:aX->Option R):bu.A t k=
  ah (aC.call t) λx1=>
  aJ ((!x1)) (
   k (bu.out (0:Int))) (
   ah (bu.L0.call ((bV .i64 (10:Int) (gY .i64 (8:Int) (((List.length t.2.1):Nat):Int))),t.1,(((List.length t.1):Nat):Int),(0:Int))) λx2=>
   k (bu.out x2)):=by kernel_rfl
theorem bu.L0.ok:bu.L0.Ok:=by
 refine bu.L0.aI (λ(n,l,m,i)=>(l).length - Int.toNat i) ?_
 rintro⟨n,l,m,i⟩ ⟨hlen,k,hk,rfl,rfl,Fj,hx,h0,h1⟩
 have hlen:(l).length<=1000000000:=hlen
 have hk:k<=(l).length:=hk
 have Fj:l.length<=64:=Fj
 have hx:∀x∈l,x.2.1.2.1.length<=12:=hx
 have h0:0<=n:=h0
 have h1:n<=1000+200*(k:Int):=h1
 by_cases h:k < (l).length
 ·left
  have n1:nth kW l k=l[k]:=dQ (t:=kW) h
  have hd:List.drop k l=l[k]::List.drop (k+1) l:=av h
  refine⟨((wA n l[k]),l,((l).length:Int),((k+1:Nat):Int)),⟨hlen,k+1,by omega,rfl,rfl,Fj,hx,by unfold wA;split <;> omega,by have:=hx _ (List.getElem_mem h);unfold wA;split <;> omega⟩,by simp only[aa];omega,?_,λkn kx=> ?_⟩
  ·simp only[bu.L0.add,bu.L0.F,aa,hd,iv]
  ·rw[bu.L0.step,bI (by omega),bF (by omega) (by omega),aa,n1]
   simp only[ae]
   have e:=hx _ (List.getElem_mem h)
   rw[N.UI (by omega)]
   have e2:bV .i64 10 ((8*l[k].2.1.2.1.length:Nat):Int)=10+8*(l[k].2.1.2.1.length:Int):=by rw[ff (by omega) (by omega)];omega
   rw[e2,ff (x:=n) (by omega) (by omega),N.pF (by omega)]
   unfold wA
   by_cases hs:l[k].2.1.2.2.1=0
   ·rw[gZ hs,ai,if_pos hs,mE]
   ·rw[jE hs,ae,if_neg hs,ff (by omega) (by omega)]
 ·right
  obtain rfl:k=(l).length:=by omega
  intro R kn kx
  rw[bu.L0.step,bp (by omega),ai]
  simp only[bu.L0.add,bu.L0.F,aa,bB,List.foldl_nil]
theorem bu.ok:bu.Ok:=by
 intro t hv
 have hv:u9 t:=hv
 rw[bu.eq,aC.run (d:=t) hv.1]
 simp only[ab,aC.add,aC.F,bu.add,bu.F,rO]
 cases kA:j9 t
 ·rfl
 ·obtain⟨⟨_,a2,a3,_⟩,b1,b2⟩:=pD kA
  rw[N.UI (by omega),ff (by omega) (by omega),bu.L0.run (d:=(10+((8*t.2.1.length:Nat):Int),t.1,t.1.length,0)) ⟨by show t.1.length<=_;omega,0,bm _,rfl,rfl,a2,λx hx=>(Fp (ub _ _ b1 x hx)).2.2.2.2,by show(0:Int)<=10+((8*t.2.1.length:Nat):Int);omega,by show 10+((8*t.2.1.length:Nat):Int)<=_;omega⟩]
  simp only[ab,bu.L0.add,bu.L0.F,bH,aW,bZ,ai,if_true,o5]
  rfl
def bu.E:=Entry.dp [some lS] bu.st bu.az bu.add bu.F bu.out
def bu.call:bu.D->Option bu.X:=bX bu.E bu.st
theorem bu.run:b8 bu.call bu.az bu.add bu.F:=dv (du [.d lS] λ_=>by kernel_rfl)
def bu.sg:SG Tryz.prog:=⟨23,aP,bu.E,.fn 1 (by kernel_rfl) bu.ok (And.intro (.dp bu.L0.ok (by kernel_rfl)) trivial)⟩
abbrev bw.L0.D:=Nat×(List kX)×Int×Int×(List iF)
def bw.L0.st:bw.L0.D->AS:=λ(lL,t9,t10,t11,OA)=>⟨([.undef,.undef,.di (.new 19 0) 0 [] 0 0 lL]++bG 6 ([.d (.slice kW) t9,.d ti t10,.d ti t11]++bG 10 [])),[],(dh 19 [[.obj 0 false (.vec 35 ir OA)],[],[]])⟩
abbrev bw.L0.Y0:=Nat×(List iF)
abbrev bw.L0.X0:=Nat×(List iF)
def bw.L0.bY:bw.L0.X0->Exit×AS:=λx=>(.exit 0,⟨([.undef,.undef,.di (.new 19 0) 0 [] 0 0 x.1]++bG 19 []),[],(dh 19 [[.obj 0 false (.vec 35 ir x.2)],[],[]])⟩)
abbrev bw.L0.X:=bw.L0.X0
abbrev bw.L0.Y:=bw.L0.Y0
def bw.L0.out:bw.L0.X->Out (Exit×AS):=λx=> .ok (bw.L0.bY x)
def bw.L0.add:bw.L0.D->bw.L0.Y->bw.L0.X:=λ(lL,t9,t10,t11,OA) y=>y
abbrev bw.D:=je
def bw.st:bw.D->SA:=λt=>([.d lS t],[])
abbrev bw.Y:=(List iF)
abbrev bw.X:=(List iF)
def bw.out:bw.X->aX:=λx=>⟨.d (.slice ir) x,[],[]⟩
def bw.add:bw.D->bw.Y->bw.X:=λt y=>y
def bw.L0.az:bw.L0.D->Prop:=λ(L,l,n,i,r)=>(l).length<=1000000/\∃k:Nat,k<=(l).length/\i=k/\n=(l).length/\L=(r).length/\(r).length<=1000000+k
def bw.L0.F:bw.L0.D->bw.L0.Y:=λ(L,l,n,i,r)=>(L+(List.drop (Int.toNat i) l).length,r++(List.drop (Int.toNat i) l).map (λx:kX=>x.1))
def bw.az:bw.D->Prop:=λt=>Ur t
def bw.F:bw.D->bw.Y:=λt=>gS t
def bw.G:fD:=gr (P:=Tryz.prog) [aC.sg]
def bw.L0.E:=cU.dp bw.L0.st bw.L0.az bw.L0.add bw.L0.F bw.L0.out
def bw.L0.call:bw.L0.D->Option bw.L0.X:=eI bw.L0.E bw.L0.st
def bw.an:fR:= {loops:=om [(4,{bO:=[2,9,10,11],sites:=[19],nR:=[⟨2,[],19,145⟩]})],outs:=oh [(4,{bO:=[2],sites:=[19]},{bO:=[2]})],jo:=pb [(4,bw.L0.E)],res:=[some (.slice ir)]}
def bw.A:= @dm Tryz.prog bw.G bw.an 0 Tryz.f55 _ bw.st
abbrev bw.Ok:=dn @bw.A bw.az bw.add bw.F bw.out
def bw.L0.R:= @dr Tryz.prog bw.G bw.an 0 Tryz.f55 0 _ bw.L0.st
abbrev bw.L0.Ok:=gz Tryz.prog bw.G bw.an 0 Tryz.f55 0 bw.L0.st bw.L0.az bw.L0.add bw.L0.F bw.L0.out
theorem bw.L0.run:b8 bw.L0.call bw.L0.az bw.L0.add bw.L0.F:=gR (gJ [.n,.d (.slice kW),.d ti,.d ti,.d (.slice ir)] λ_=>by kernel_rfl)
theorem bw.L0.aI:jl @bw.L0.R bw.L0.st bw.L0.az bw.L0.add bw.L0.F bw.L0.bY bw.L0.Ok:=js
theorem bw.L0.step{R:Type}(lL:Nat)(t9:(List kX))(t10:Int)(t11:Int)(OA:(List iF))(kn:AS->Option R)(kx:Exit->AS->Option R):bw.L0.R (lL,t9,t10,t11,OA) kn kx=
  aJ ((jM t11 t10)) (
   aJ (fB t11 (((List.length t9):Nat):Int)) (
   aJ (decide (lL<=(List.length OA))) (
   aJ (fq (lL+1) 40) (
   kn (bw.L0.st ((lL+1),t9,t10,(bV .i64 t11 (1:Int)),((List.take lL OA)++ [(nth kW t9 (Int.toNat t11)).1])))) none) none) none) (
   kx (bw.L0.bY (lL,OA)).1 (bw.L0.bY (lL,OA)).2):=by kernel_rfl
theorem bw.eq{R:Type}(t:je)(k:aX->Option R):bw.A t k=
  ah (aC.call t) λx1=>
  aJ ((!x1)) (
   k (bw.out ([]:List iF))) (
   ah (bw.L0.call (0,t.1,(((List.length t.1):Nat):Int),(0:Int),([]:List iF))) λx2=>
   aJ (decide (0=0/\(0+x2.1)<=(List.length x2.2))) (
   k (bw.out (cut x2.2 0 x2.1))) none):=by kernel_rfl
theorem bw.L0.ok:bw.L0.Ok:=by
 refine bw.L0.aI (λ(L,l,n,i,r)=>(l).length - Int.toNat i) ?_
 rintro⟨L,l,n,i,r⟩ ⟨hlen,k,hk,rfl,rfl,rfl,mZ⟩
 have hlen:(l).length<=1000000:=hlen
 have hk:k<=(l).length:=hk
 have mZ:(r).length<=1000000+k:=mZ
 by_cases h:k < (l).length
 ·left
  have n1:nth kW l k=l[k]:=dQ (t:=kW) h
  have hd:List.drop k l=l[k]::List.drop (k+1) l:=av h
  refine⟨((r).length+1,l,((l).length:Int),((k+1:Nat):Int),r++ [(λx:kX=>x.1) l[k]]),⟨hlen,k+1,by omega,rfl,rfl,by rw[aj];rfl,by rw[aj];show(r).length+1<=_;omega⟩,by simp only[aa];omega,?_,λkn kx=> ?_⟩
  ·simp only[bw.L0.add,bw.L0.F,aa,hd,cO,aO,bR,fp]
   rw[show ∀a c:Nat,a+1+c=a+(c+1) from λa c=>by omega]
  ·rw[bw.L0.step,bI (by omega),bF (show(0:Int)<=(k:Int) by omega) (by omega),aa,n1]
   simp only[ae]
   rw[aM (aE _),gk (by omega) (by omega),N.pF (by omega),cQ]
   rfl
 ·right
  obtain rfl:k=(l).length:=by omega
  intro R kn kx
  rw[bw.L0.step,bp (by omega),ai]
  simp only[bw.L0.add,bw.L0.F,aa,bB,jH,dg,bM,dR]
theorem bw.ok:bw.Ok:=by
 intro t hv
 have hv:Ur t:=hv
 rw[bw.eq,aC.run (d:=t) hv]
 simp only[ab,aC.add,aC.F,bw.add,bw.F,gS]
 cases kA:j9 t
 ·rfl
 ·obtain⟨⟨_,a2,a3,_⟩,b1,b2⟩:=pD kA
  rw[bw.L0.run (d:=(0,t.1,t.1.length,0,[])) ⟨by show t.1.length<=_;omega,0,bm _,rfl,rfl,rfl,bm _⟩]
  simp only[bZ,ai,if_true,ab,bw.L0.add,bw.L0.F,bH,aW,bt,bl]
  rw[aM ⟨by trivial,by rw[cM];exact aE _⟩,ae,jf (by rw[cM])]
def bw.E:=Entry.dp [some lS] bw.st bw.az bw.add bw.F bw.out
def bw.call:bw.D->Option bw.X:=bX bw.E bw.st
theorem bw.run:b8 bw.call bw.az bw.add bw.F:=dv (du [.d lS] λ_=>by kernel_rfl)
def bw.sg:SG Tryz.prog:=⟨55,aP,bw.E,.fn 1 (by kernel_rfl) bw.ok (And.intro (.dp bw.L0.ok (by kernel_rfl)) trivial)⟩
abbrev cJ.L0.D:=Nat×Int×Int×Bs×(List iF)
def cJ.L0.st:cJ.L0.D->AS:=λ(lL,t12,t13,n3,Qr)=>⟨([.undef,.undef,.di (.new 21 0) 0 [] 0 0 lL,.ptr (.new 3 0) 0 [] 0]++bG 8 ([.d ti t12,.d ti t13]++bG 10 [])),[],([[],[],[],[.obj 0 false (.d tH n3)]]++dh 17 [[.obj 0 false (.vec 35 ir Qr)],[],[]])⟩
abbrev cJ.L0.Y0:=Nat×(List iF)
abbrev cJ.L0.X0:=Nat×(List iF)
def cJ.L0.bY:cJ.L0.X0->Exit×AS:=λx=>(.exit 0,⟨([.undef,.undef,.di (.new 21 0) 0 [] 0 0 x.1]++bG 21 []),[],(dh 21 [[.obj 0 false (.vec 35 ir x.2)],[],[]])⟩)
abbrev cJ.L0.X:=cJ.L0.X0
abbrev cJ.L0.Y:=cJ.L0.Y0
def cJ.L0.out:cJ.L0.X->Out (Exit×AS):=λx=> .ok (cJ.L0.bY x)
def cJ.L0.add:cJ.L0.D->cJ.L0.Y->cJ.L0.X:=λ(lL,t12,t13,n3,Qr) y=>y
abbrev cJ.D:=je
def cJ.st:cJ.D->SA:=λt=>([.d lS t],[])
abbrev cJ.Y:=(List iF)
abbrev cJ.X:=(List iF)
def cJ.out:cJ.X->aX:=λx=>⟨.d (.slice ir) x,[],[]⟩
def cJ.add:cJ.D->cJ.Y->cJ.X:=λt y=>y
def cJ.L0.az:cJ.L0.D->Prop:=λ(L,n,i,id,r)=>∃k m:Nat,k<=m/\i=k/\n=m/\m<=1000/\L=r.length/\L=k
def cJ.L0.F:cJ.L0.D->cJ.L0.Y:=λ(L,n,i,id,r)=>(L+(n - i).toNat,r++pJ id i.toNat (n - i).toNat)
def cJ.az:cJ.D->Prop:=λt=>u9 t
def cJ.F:cJ.D->cJ.Y:=λt=>gV t
def cJ.G:fD:=gr (P:=Tryz.prog) [tid.sg,aC.sg]
def cJ.L0.E:=cU.dp cJ.L0.st cJ.L0.az cJ.L0.add cJ.L0.F cJ.L0.out
def cJ.L0.call:cJ.L0.D->Option cJ.L0.X:=eI cJ.L0.E cJ.L0.st
def cJ.an:fR:= {loops:=om [(5,{bO:=[2,3,12,13],sites:=[3,21],nR:=[⟨2,[],21,145⟩]})],outs:=oh [(5,{bO:=[2],sites:=[21]},{bO:=[2]})],jo:=pb [(5,cJ.L0.E)],res:=[some (.slice ir)]}
def cJ.A:= @dm Tryz.prog cJ.G cJ.an 0 Tryz.f54 _ cJ.st
abbrev cJ.Ok:=dn @cJ.A cJ.az cJ.add cJ.F cJ.out
def cJ.L0.R:= @dr Tryz.prog cJ.G cJ.an 0 Tryz.f54 0 _ cJ.L0.st
abbrev cJ.L0.Ok:=gz Tryz.prog cJ.G cJ.an 0 Tryz.f54 0 cJ.L0.st cJ.L0.az cJ.L0.add cJ.L0.F cJ.L0.out
theorem cJ.L0.run:b8 cJ.L0.call cJ.L0.az cJ.L0.add cJ.L0.F:=gR (gJ [.n,.d ti,.d ti,.d tB,.d (.slice ir)] λ_=>by kernel_rfl)
theorem cJ.L0.aI:jl @cJ.L0.R cJ.L0.st cJ.L0.az cJ.L0.add cJ.L0.F cJ.L0.bY cJ.L0.Ok:=js
theorem cJ.L0.step{R:Type}(lL:Nat)(t12:Int)(t13:Int)(n3:Bs)(Qr:(List iF))(kn:AS->Option R)(kx:Exit->AS->Option R):cJ.L0.R (lL,t12,t13,n3,Qr) kn kx=
  aJ ((jM t13 t12)) (
   aJ (decide (lL<=(List.length Qr))) (
   aJ (fq (lL+1) 40) (
   kn (cJ.L0.st ((lL+1),t12,(bV .i64 t13 (1:Int)),n3,((List.take lL Qr)++ [(n3,(t13,()))])))) none) none) (
   kx (cJ.L0.bY (lL,Qr)).1 (cJ.L0.bY (lL,Qr)).2):=by kernel_rfl
theorem cJ.eq{R:Type}(t:je)(k:aX->Option R):cJ.A t k=
  ah (tid.call t) λx1=>
  ah (aC.call t) λx2=>
  aJ ((!x2)) (
   k (cJ.out ([]:List iF))) (
   ah (cJ.L0.call (0,(((List.length t.2.1):Nat):Int),(0:Int),x1,([]:List iF))) λx3=>
   aJ (decide (0=0/\(0+x3.1)<=(List.length x3.2))) (
   k (cJ.out (cut x3.2 0 x3.1))) none):=by kernel_rfl
theorem Lo(id:List Int)(k n:Nat):(pJ id k n).length=n:=by simp[pJ]
theorem IX(id:List Int)(k n:Nat):pJ id k (n+1)=(id,((k:Int),()))::pJ id (k+1) n:=by
 unfold pJ
 rw[List.range'_succ,cO]
theorem cJ.L0.ok:cJ.L0.Ok:=by
 refine cJ.L0.aI (λ(L,n,i,id,r)=>(n - i).toNat) ?_
 rintro⟨L,n,i,id,r⟩ ⟨k,m,hk,rfl,rfl,hm,rfl,W3⟩
 have W3:r.length=k:=W3
 by_cases h:k < m
 ·left
  have e1:((m:Int) - (k:Int)).toNat=(m - (k+1))+1:=by omega
  have e2:((m:Int) - ((k+1:Nat):Int)).toNat=m - (k+1):=by omega
  refine⟨(r.length+1,(m:Int),((k+1:Nat):Int),id,r++ [(id,((k:Int),()))]),⟨k+1,m,by omega,rfl,rfl,hm,by rw[aj];rfl,by show r.length+1=_;omega⟩,by show((m:Int) - ((k+1:Nat):Int)).toNat < ((m:Int) - (k:Int)).toNat;omega,?_,λkn kx=> ?_⟩
  ·simp only[cJ.L0.add,cJ.L0.F,e1,e2,aa,IX,bR,fp]
   rw[show r.length+1+(m - (k+1))=r.length+(m - (k+1)+1) by omega]
  ·rw[cJ.L0.step,bI (by omega),aM (aE _),gk (by omega) (by omega),N.pF (by omega),cQ]
   rfl
 ·right
  obtain rfl:k=m:=by omega
  intro R kn kx
  rw[cJ.L0.step,bp (by omega),ai]
  simp only[cJ.L0.add,cJ.L0.F,Int.sub_self,bH,dR]
  rw[show pJ id (k:Int).toNat 0=[] from rfl,dg]
theorem cJ.ok:cJ.Ok:=by
 intro t hv
 have hv:u9 t:=hv
 rw[cJ.eq,tid.run (d:=t) hv,aC.run (d:=t) hv.1]
 simp only[ab,tid.add,tid.F,aC.add,aC.F,cJ.add,cJ.F,gV]
 cases kA:j9 t
 ·rfl
 ·obtain⟨⟨_,a2,a3,_⟩,b1,b2⟩:=pD kA
  have hl:=Lo (oJ t) 0 t.2.1.length
  rw[cJ.L0.run (d:=(0,t.2.1.length,0,oJ t,[])) ⟨0,t.2.1.length,bm _,rfl,rfl,by omega,rfl,rfl⟩]
  simp only[bZ,ai,if_true,ab,cJ.L0.add,cJ.L0.F,nX,aa,bH,bt,bl]
  rw[aM ⟨by trivial,by rw[hl];exact aE _⟩,ae,jf hl]
def cJ.E:=Entry.dp [some lS] cJ.st cJ.az cJ.add cJ.F cJ.out
def cJ.call:cJ.D->Option cJ.X:=bX cJ.E cJ.st
theorem cJ.run:b8 cJ.call cJ.az cJ.add cJ.F:=dv (du [.d lS] λ_=>by kernel_rfl)
def cJ.sg:SG Tryz.prog:=⟨54,aP,cJ.E,.fn 1 (by kernel_rfl) cJ.ok (And.intro (.dp cJ.L0.ok (by kernel_rfl)) trivial)⟩
abbrev jt.D:=(List kX)
def jt.st:jt.D->SA:=λsv=>([.d (.slice kW) sv],[])
abbrev jt.Y:=Nat×(List kX)
abbrev jt.X:=Nat×(List kX)
def jt.out:jt.X->aX:=λx=>⟨.di (.new 0 0) 0 [] 0 0 x.1,[],[.obj 0 false (.vec 93 kW x.2)]⟩
def jt.add:jt.D->jt.Y->jt.X:=λsv y=>y
def jt.az:jt.D->Prop:=λl=>l.length<=1000000
def jt.F:jt.D->jt.Y:=λl=>(l.length,l)
def jt.G:fD:=gr (P:=Tryz.prog) []
def jt.an:fR:= {cZ:=[5],nR:=[⟨2,[],5,59⟩]}
def jt.A:= @dm Tryz.prog jt.G jt.an 0 Tryz.f139 _ jt.st
abbrev jt.Ok:=dn @jt.A jt.az jt.add jt.F jt.out
theorem jt.eq{R:Type}(sv:(List kX))(k:aX->Option R):jt.A sv k=
  aJ (decide (0 < (List.length sv))) (
   aJ (fq (0+(List.length sv)) 80) (
   k (jt.out ((0+(List.length sv)),((List.take 0 (List.replicate 0 (((List.replicate 32 (0:Int)),((0:Int),())),(((0:Int),(([]:List Sg),((0:Int),()))),()))))++sv)))) none) (
   nd (
    k (jt.out (0,([]:List kX)))) (
    aJ (fq (0+(List.length sv)) 80) (
    k (jt.out ((0+(List.length sv)),((List.take 0 (List.replicate 0 (((List.replicate 32 (0:Int)),((0:Int),())),(((0:Int),(([]:List Sg),((0:Int),()))),()))))++sv)))) none)):=by kernel_rfl
theorem jt.ok:jt.Ok:=by
 intro l hl
 have hl:l.length<=1000000:=hl
 have hr:fq l.length 80=true:=gk (by omega) (by omega)
 rw[jt.eq]
 simp only[bl,hr,ae,jA,bt,jt.add,jt.F]
 by_cases h:0 < l.length
 ·simp only[aM h,ae]
 ·have:l=[]:=dd (by omega)
  subst this
  simp only[bM,wR,cq (nf 0),ai]
def jt.E:=Entry.dp [some (.slice kW)] jt.st jt.az jt.add jt.F jt.out
def jt.call:jt.D->Option jt.X:=bX jt.E jt.st
theorem jt.run:b8 jt.call jt.az jt.add jt.F:=dv (du [.d (.slice kW)] λ_=>by kernel_rfl)
def jt.sg:SG Tryz.prog:=⟨139,aP,jt.E,.fn 0 (by kernel_rfl) jt.ok trivial⟩
abbrev fX.D:=(List kI)
def fX.st:fX.D->SA:=λsv=>([.d (.slice lH) sv],[])
abbrev fX.Y:=Nat×(List kI)
abbrev fX.X:=Nat×(List kI)
def fX.out:fX.X->aX:=λx=>⟨.di (.new 0 0) 0 [] 0 0 x.1,[],[.obj 0 false (.vec 100 lH x.2)]⟩
def fX.add:fX.D->fX.Y->fX.X:=λsv y=>y
def fX.az:fX.D->Prop:=λl=>l.length<=1000000
def fX.F:fX.D->fX.Y:=λl=>(l.length,l)
def fX.G:fD:=gr (P:=Tryz.prog) []
def fX.an:fR:= {cZ:=[5],nR:=[⟨2,[],5,60⟩]}
def fX.A:= @dm Tryz.prog fX.G fX.an 0 Tryz.f140 _ fX.st
abbrev fX.Ok:=dn @fX.A fX.az fX.add fX.F fX.out
theorem fX.eq{R:Type}(sv:(List kI))(k:aX->Option R):fX.A sv k=
  aJ (decide (0 < (List.length sv))) (
   aJ (fq (0+(List.length sv)) 32) (
   k (fX.out ((0+(List.length sv)),((List.take 0 (List.replicate 0 ((0:Int),((([]:List ov),()),()))))++sv)))) none) (
   nd (
    k (fX.out (0,([]:List kI)))) (
    aJ (fq (0+(List.length sv)) 32) (
    k (fX.out ((0+(List.length sv)),((List.take 0 (List.replicate 0 ((0:Int),((([]:List ov),()),()))))++sv)))) none)):=by kernel_rfl
theorem fX.ok:fX.Ok:=by
 intro l hl
 have hl:l.length<=1000000:=hl
 have hr:fq l.length 32=true:=gk (by omega) (by omega)
 rw[fX.eq]
 simp only[bl,hr,ae,jA,bt,fX.add,fX.F]
 by_cases h:0 < l.length
 ·simp only[aM h,ae]
 ·have:l=[]:=dd (by omega)
  subst this
  simp only[bM,wR,cq (nf 0),ai]
def fX.E:=Entry.dp [some (.slice lH)] fX.st fX.az fX.add fX.F fX.out
def fX.call:fX.D->Option fX.X:=bX fX.E fX.st
theorem fX.run:b8 fX.call fX.az fX.add fX.F:=dv (du [.d (.slice lH)] λ_=>by kernel_rfl)
def fX.sg:SG Tryz.prog:=⟨140,aP,fX.E,.fn 0 (by kernel_rfl) fX.ok trivial⟩
abbrev iZ.D:=(List ov)
def iZ.st:iZ.D->SA:=λsv=>([.d (.slice mC) sv],[])
abbrev iZ.Y:=Nat×(List ov)
abbrev iZ.X:=Nat×(List ov)
def iZ.out:iZ.X->aX:=λx=>⟨.di (.new 0 0) 0 [] 0 0 x.1,[],[.obj 0 false (.vec 58 mC x.2)]⟩
def iZ.add:iZ.D->iZ.Y->iZ.X:=λsv y=>y
def iZ.az:iZ.D->Prop:=λl=>l.length<=1000000
def iZ.F:iZ.D->iZ.Y:=λl=>(l.length,l)
def iZ.G:fD:=gr (P:=Tryz.prog) []
def iZ.an:fR:= {cZ:=[5],nR:=[⟨2,[],5,30⟩]}
def iZ.A:= @dm Tryz.prog iZ.G iZ.an 0 Tryz.f112 _ iZ.st
abbrev iZ.Ok:=dn @iZ.A iZ.az iZ.add iZ.F iZ.out
theorem iZ.eq{R:Type}(sv:(List ov))(k:aX->Option R):iZ.A sv k=
  aJ (decide (0 < (List.length sv))) (
   aJ (fq (0+(List.length sv)) 48) (
   k (iZ.out ((0+(List.length sv)),((List.take 0 (List.replicate 0 (([]:List Int),((0:Int),((0:Int),((0:Int),()))))))++sv)))) none) (
   nd (
    k (iZ.out (0,([]:List ov)))) (
    aJ (fq (0+(List.length sv)) 48) (
    k (iZ.out ((0+(List.length sv)),((List.take 0 (List.replicate 0 (([]:List Int),((0:Int),((0:Int),((0:Int),()))))))++sv)))) none)):=by kernel_rfl
theorem iZ.ok:iZ.Ok:=by
 intro l hl
 have hl:l.length<=1000000:=hl
 have hr:fq l.length 48=true:=gk (by omega) (by omega)
 rw[iZ.eq]
 simp only[bl,hr,ae,jA,bt,iZ.add,iZ.F]
 by_cases h:0 < l.length
 ·simp only[aM h,ae]
 ·have:l=[]:=dd (by omega)
  subst this
  simp only[bM,wR,cq (nf 0),ai]
def iZ.E:=Entry.dp [some (.slice mC)] iZ.st iZ.az iZ.add iZ.F iZ.out
def iZ.call:iZ.D->Option iZ.X:=bX iZ.E iZ.st
theorem iZ.run:b8 iZ.call iZ.az iZ.add iZ.F:=dv (du [.d (.slice mC)] λ_=>by kernel_rfl)
def iZ.sg:SG Tryz.prog:=⟨112,aP,iZ.E,.fn 0 (by kernel_rfl) iZ.ok trivial⟩
abbrev fY.D:=(List Sg)
def fY.st:fY.D->SA:=λsv=>([.d (.slice Ak) sv],[])
abbrev fY.Y:=(List Sg)
abbrev fY.X:=(List Sg)
def fY.out:fY.X->aX:=λx=>⟨.d (.slice Ak) x,[],[]⟩
def fY.add:fY.D->fY.Y->fY.X:=λsv y=>y
def fY.az:fY.D->Prop:=λl=>l.length<=1000000
def fY.F:fY.D->fY.Y:=λl=>l
def fY.G:fD:=gr (P:=Tryz.prog) []
def fY.an:fR:= {cZ:=[5],res:=[some (.slice Ak)]}
def fY.A:= @dm Tryz.prog fY.G fY.an 0 Tryz.f141 _ fY.st
abbrev fY.Ok:=dn @fY.A fY.az fY.add fY.F fY.out
theorem fY.eq{R:Type}(sv:(List Sg))(k:aX->Option R):fY.A sv k=
  aJ (decide (0 < (List.length sv))) (
   aJ (fq (0+(List.length sv)) 16) (
   aJ (decide (0=0/\(0+(0+(List.length sv)))<=(List.length ((List.take 0 (List.replicate 0 ((0:Int),((0:Int),()))))++sv)))) (
   k (fY.out (cut ((List.take 0 (List.replicate 0 ((0:Int),((0:Int),()))))++sv) 0 (0+(List.length sv))))) none) none) (
   nd (
    k (fY.out ([]:List Sg))) (
    aJ (fq (0+(List.length sv)) 16) (
    aJ (decide (0=0/\(0+(0+(List.length sv)))<=(List.length ((List.take 0 (List.replicate 0 ((0:Int),((0:Int),()))))++sv)))) (
    k (fY.out (cut ((List.take 0 (List.replicate 0 ((0:Int),((0:Int),()))))++sv) 0 (0+(List.length sv))))) none) none)):=by kernel_rfl
theorem fY.ok:fY.Ok:=by
 intro l hl
 have hl:l.length<=1000000:=hl
 have hr:fq l.length 16=true:=gk (by omega) (by omega)
 rw[fY.eq]
 simp only[bl,hr,ae,jA,bt,aE,and_self,decide_true,jf,fY.add,fY.F]
 by_cases h:0 < l.length
 ·simp only[aM h,ae]
 ·have:l=[]:=dd (by omega)
  subst this
  simp only[bM,wR,cq (nf 0),ai]
def fY.E:=Entry.dp [some (.slice Ak)] fY.st fY.az fY.add fY.F fY.out
def fY.call:fY.D->Option fY.X:=bX fY.E fY.st
theorem fY.run:b8 fY.call fY.az fY.add fY.F:=dv (du [.d (.slice Ak)] λ_=>by kernel_rfl)
def fY.sg:SG Tryz.prog:=⟨141,aP,fY.E,.fn 0 (by kernel_rfl) fY.ok trivial⟩
abbrev aq.L0.D:=Int×Int×Nat×Nat×(Int×Unit)×(Int×Unit)×(List kX)×(List kI)
def aq.L0.st:aq.L0.D->AS:=λ(t17,t18,DM,q9,n1,n2,n9,CE)=>⟨([.undef,.ptr (.new 1 0) 0 [] 0,.ptr (.new 2 0) 0 [] 0]++bG 14 ([.d ti t17,.d ti t18]++bG 56 [])),[],([[],[.obj 0 false (.pr (.di (.new 9 0) 0 [] 0 0 DM) (.pr (.di (.new 12 0) 0 [] 0 0 q9) (.d (.pair ti .unit) n1)))],[.obj 0 false (.pr (.eU) (.pr (.eU) (.d (.pair ti .unit) n2)))]]++dh 6 ([[.obj 0 false (.vec 93 kW n9)],[],[],[.obj 0 false (.vec 100 lH CE)]]++dh 62 []))⟩
abbrev aq.L0.Y0:=(List kX)
abbrev aq.L0.X0:=(Nat×Nat×(Int×Unit)×(Int×Unit)×(List kI))×((List kX))
def aq.L0.bY:aq.L0.X0->Exit×AS:=λx=>(.exit 0,⟨([.undef,.ptr (.new 1 0) 0 [] 0,.ptr (.new 2 0) 0 [] 0]++bG 72 []),[],([[],[.obj 0 false (.pr (.di (.new 9 0) 0 [] 0 0 x.1.1) (.pr (.di (.new 12 0) 0 [] 0 0 x.1.2.1) (.d (.pair ti .unit) x.1.2.2.1)))],[.obj 0 false (.pr (.eU) (.pr (.eU) (.d (.pair ti .unit) x.1.2.2.2.1)))]]++dh 6 ([[.obj 0 false (.vec 93 kW x.2)],[],[],[.obj 0 false (.vec 100 lH x.1.2.2.2.2)]]++dh 62 []))⟩)
abbrev aq.L0.X:=aq.L0.X0
abbrev aq.L0.Y:=aq.L0.Y0
def aq.L0.out:aq.L0.X->Out (Exit×AS):=λx=> .ok (aq.L0.bY x)
def aq.L0.add:aq.L0.D->aq.L0.Y->aq.L0.X:=λ(t17,t18,DM,q9,n1,n2,n9,CE) y=>((DM,q9,n1,n2,CE),y)
abbrev aq.L1.D:=Int×Int×Nat×Nat×(Int×Unit)×(Int×Unit)×(List kX)×(List kI)
def aq.L1.st:aq.L1.D->AS:=λ(t38,t39,sH,ra,xO,lR,oW,qe)=>⟨([.undef,.ptr (.new 1 0) 0 [] 0,.ptr (.new 2 0) 0 [] 0]++bG 35 ([.d ti t38,.d ti t39]++bG 35 [])),[],([[],[.obj 0 false (.pr (.di (.new 9 0) 0 [] 0 0 sH) (.pr (.di (.new 12 0) 0 [] 0 0 ra) (.d (.pair ti .unit) xO)))],[.obj 0 false (.pr (.eU) (.pr (.eU) (.d (.pair ti .unit) lR)))]]++dh 6 ([[.obj 0 false (.vec 93 kW oW)],[],[],[.obj 0 false (.vec 100 lH qe)]]++dh 62 []))⟩
abbrev aq.L1.Y0:=Nat×Nat×(Int×Unit)×(Int×Unit)×(List kX)×(List kI)
abbrev aq.L1.X0:=Nat×Nat×(Int×Unit)×(Int×Unit)×(List kX)×(List kI)
def aq.L1.bY:aq.L1.X0->Exit×AS:=λx=>(.exit 2,⟨([.undef,.ptr (.new 1 0) 0 [] 0,.ptr (.new 2 0) 0 [] 0]++bG 72 []),[],([[],[.obj 0 false (.pr (.di (.new 9 0) 0 [] 0 0 x.1) (.pr (.di (.new 12 0) 0 [] 0 0 x.2.1) (.d (.pair ti .unit) x.2.2.1)))],[.obj 0 false (.pr (.eU) (.pr (.eU) (.d (.pair ti .unit) x.2.2.2.1)))]]++dh 6 ([[.obj 0 false (.vec 93 kW x.2.2.2.2.1)],[],[],[.obj 0 false (.vec 100 lH x.2.2.2.2.2)]]++dh 62 []))⟩)
abbrev aq.L1.X:=aq.L1.X0
abbrev aq.L1.Y:=aq.L1.Y0
def aq.L1.out:aq.L1.X->Out (Exit×AS):=λx=> .ok (aq.L1.bY x)
def aq.L1.add:aq.L1.D->aq.L1.Y->aq.L1.X:=λ(t38,t39,sH,ra,xO,lR,oW,qe) y=>y
abbrev aq.L2.D:=Int×Nat×Int×Int×Int×Int×Nat×Nat×(Int×Unit)×(Int×Unit)×(List kX)×(List kI)×(List ov)
def aq.L2.st:aq.L2.D->AS:=λ(kv,lL,rz,rA,t51,t52,rb,re,v9,rf,wa,qZ,um)=>⟨([.undef,.ptr (.new 1 0) 0 [] 0,.ptr (.new 2 0) 0 [] 0,.undef,.d ti kv,.di (.new 49 0) 0 [] 0 0 lL]++bG 32 ([.d ti rz,.d ti rA]++bG 11 ([.d ti t51,.d ti t52]++bG 22 []))),[],([[],[.obj 0 false (.pr (.di (.new 9 0) 0 [] 0 0 rb) (.pr (.di (.new 12 0) 0 [] 0 0 re) (.d (.pair ti .unit) v9)))],[.obj 0 false (.pr (.eU) (.pr (.eU) (.d (.pair ti .unit) rf)))]]++dh 6 ([[.obj 0 false (.vec 93 kW wa)],[],[],[.obj 0 false (.vec 100 lH qZ)]]++dh 36 ([[.obj 0 false (.vec 58 mC um)]]++dh 25 [])))⟩
abbrev aq.L2.Y0:=(List ov)×(List ov)
abbrev aq.L2.X0:=(Int×Int×Int×Nat×Nat×(Int×Unit)×(Int×Unit)×(List kX)×(List kI))×((List ov)×(List ov))
def aq.L2.bY:aq.L2.X0->Exit×AS:=λx=>(.exit 4,⟨([.undef,.ptr (.new 1 0) 0 [] 0,.ptr (.new 2 0) 0 [] 0,.undef,.d ti x.1.1,.d (.slice mC) x.2.1]++bG 32 ([.d ti x.1.2.1,.d ti x.1.2.2.1]++bG 35 [])),[],([[],[.obj 0 false (.pr (.di (.new 9 0) 0 [] 0 0 x.1.2.2.2.1) (.pr (.di (.new 12 0) 0 [] 0 0 x.1.2.2.2.2.1) (.d (.pair ti .unit) x.1.2.2.2.2.2.1)))],[.obj 0 false (.pr (.eU) (.pr (.eU) (.d (.pair ti .unit) x.1.2.2.2.2.2.2.1)))]]++dh 6 ([[.obj 0 false (.vec 93 kW x.1.2.2.2.2.2.2.2.1)],[],[],[.obj 0 false (.vec 100 lH x.1.2.2.2.2.2.2.2.2)]]++dh 36 ([[.obj 0 true (.vec 58 mC x.2.2)]]++dh 25 [])))⟩)
abbrev aq.L2.X:=aq.L2.X0
abbrev aq.L2.Y:=aq.L2.Y0
def aq.L2.out:aq.L2.X->Out (Exit×AS):=λx=> .ok (aq.L2.bY x)
def aq.L2.add:aq.L2.D->aq.L2.Y->aq.L2.X:=λ(kv,lL,rz,rA,t51,t52,rb,re,v9,rf,wa,qZ,um) y=>((kv,rz,rA,rb,re,v9,rf,wa,qZ),y)
abbrev aq.D:=je
def aq.st:aq.D->SA:=λt=>([.d lS t],[])
abbrev aq.Y:=Nat×((List kI)×(Int×Unit))×(List kX)
abbrev aq.X:=Nat×((List kI)×(Int×Unit))×(List kX)
def aq.out:aq.X->aX:=λx=>⟨.pr (.di (.new 0 0) 0 [] 0 0 x.1) (.d (.pair (.slice lH) (.pair ti .unit)) x.2.1),[],[.obj 0 false (.vec 93 kW x.2.2)]⟩
def aq.add:aq.D->aq.Y->aq.X:=λt y=>y
def aq.L0.az:aq.L0.D->Prop:=λ(m,i,L,L2,u,v,l,os)=>(l.length<=1000/\∀x∈l,x.2.1.2.1.length<=1000000)/\∃k:Nat,k<=l.length/\i=k/\m=l.length/\L=l.length
def aq.L0.F:aq.L0.D->aq.L0.Y:=λ(m,i,L,L2,u,v,l,os)=>l
def aq.L2.az:aq.L2.D->Prop:=λ(kv,L,m1,i1,m,i,L5,L6,u,v,ls,os,bs)=>(bs.length<=1000/\∀x∈bs,x.1.length<=1000000)/\∃k:Nat,k<=bs.length/\i=k/\m=bs.length/\L=bs.length
def aq.L2.F:aq.L2.D->aq.L2.Y:=λ(kv,L,m1,i1,m,i,L5,L6,u,v,ls,os,bs)=>(bs,bs)
def aq.L1.az:aq.L1.D->Prop:=λ(m,i,L3,L,u,v,ls,os)=>(os.length<=1000/\∀x∈os,x.2.1.1.length<=1000/\∀b∈x.2.1.1,b.1.length<=1000000)/\∃k:Nat,k<=os.length/\i=k/\m=os.length/\L=os.length
def aq.L1.F:aq.L1.D->aq.L1.Y:=λ(m,i,L3,L,u,v,ls,os)=>(L3,L,u,v,ls,os)
def aq.az:aq.D->Prop:=λt=>j9 t=true
def aq.F:aq.D->aq.Y:=λt=>(t.1.length,(t.2.1,t.2.2),t.1)
def aq.G:fD:=gr (P:=Tryz.prog) [jt.sg,fX.sg,fY.sg,iZ.sg,dV.sg]
def aq.L0.E:=cU.dp aq.L0.st aq.L0.az aq.L0.add aq.L0.F aq.L0.out
def aq.L0.call:aq.L0.D->Option aq.L0.X:=eI aq.L0.E aq.L0.st
def aq.L1.E:=cU.dp aq.L1.st aq.L1.az aq.L1.add aq.L1.F aq.L1.out
def aq.L1.call:aq.L1.D->Option aq.L1.X:=eI aq.L1.E aq.L1.st
def aq.L2.E:=cU.dp aq.L2.st aq.L2.az aq.L2.add aq.L2.F aq.L2.out
def aq.L2.call:aq.L2.D->Option aq.L2.X:=eI aq.L2.E aq.L2.st
def aq.an:fR:= {cZ:=[1],loops:=om [(3,{bO:=[1,2,17,18],sites:=[1,2,9,12]}),(8,{bO:=[1,2,38,39],sites:=[1,2,9,12]}),(12,{bO:=[1,2,4,5,38,39,51,52],sites:=[1,2,9,12,49]})],outs:=oh [(3,{bO:=[1,2],sites:=[1,2,9,12]},{bO:=[2]}),(8,{bO:=[1,2],sites:=[1,2,9,12]},{bO:=[2]}),(12,{bO:=[1,2,4,5,38,39],sites:=[1,2,9,12,49],data:=[(5,(.slice mC))]},{bO:=[2]})],jo:=pb [(3,aq.L0.E),(8,aq.L1.E),(12,aq.L2.E)],E7:=[⟨2,[.snd,.fst],(.slice lH)⟩]}
def aq.A:= @dm Tryz.prog aq.G aq.an 0 Tryz.f128 _ aq.st
abbrev aq.Ok:=dn @aq.A aq.az aq.add aq.F aq.out
def aq.L0.R:= @dr Tryz.prog aq.G aq.an 0 Tryz.f128 0 _ aq.L0.st
abbrev aq.L0.Ok:=gz Tryz.prog aq.G aq.an 0 Tryz.f128 0 aq.L0.st aq.L0.az aq.L0.add aq.L0.F aq.L0.out
def aq.L1.R:= @dr Tryz.prog aq.G aq.an 0 Tryz.f128 1 _ aq.L1.st
abbrev aq.L1.Ok:=gz Tryz.prog aq.G aq.an 0 Tryz.f128 1 aq.L1.st aq.L1.az aq.L1.add aq.L1.F aq.L1.out
def aq.L2.R:= @dr Tryz.prog aq.G aq.an 0 Tryz.f128 2 _ aq.L2.st
abbrev aq.L2.Ok:=gz Tryz.prog aq.G aq.an 0 Tryz.f128 2 aq.L2.st aq.L2.az aq.L2.add aq.L2.F aq.L2.out
theorem aq.L0.run:b8 aq.L0.call aq.L0.az aq.L0.add aq.L0.F:=gR (gJ [.d ti,.d ti,.n,.n,.d (.pair ti .unit),.d (.pair ti .unit),.d (.slice kW),.d (.slice lH)] λ_=>by kernel_rfl)
theorem aq.L0.aI:jl @aq.L0.R aq.L0.st aq.L0.az aq.L0.add aq.L0.F aq.L0.bY aq.L0.Ok:=js
theorem aq.L0.step{R:Type}(t17:Int)(t18:Int)(DM:Nat)(q9:Nat)(n1:(Int×Unit))(n2:(Int×Unit))(n9:(List kX))(CE:(List kI))(kn:AS->Option R)(kx:Exit->AS->Option R):aq.L0.R (t17,t18,DM,q9,n1,n2,n9,CE) kn kx=
  aJ ((jM t18 t17)) (
   aJ (fB t18 ((DM:Nat):Int)) (
   aJ (decide ((0+(Int.toNat t18)) < (List.length n9))) (
   aJ (decide ((((0+(Int.toNat t18))*36)+34)=(((0+((Int.toNat t18)*36))+33)+1))) (
   ah (fY.call (nth kW n9 (0+(Int.toNat t18))).2.1.2.1) λx1=>
   aJ (fB t18 ((DM:Nat):Int)) (
   aJ (decide ((0+(Int.toNat t18)) < (List.length n9))) (
   aJ (decide ((((0+(Int.toNat t18))*36)+34)=(((0+((Int.toNat t18)*36))+33)+1))) (
   aJ (decide ((0+(Int.toNat t18)) < (List.length n9))) (
   kn (aq.L0.st (t17,(bV .i64 t18 (1:Int)),DM,q9,n1,n2,(List.set n9 (0+(Int.toNat t18)) ((nth kW n9 (0+(Int.toNat t18))).1,(((nth kW n9 (0+(Int.toNat t18))).2.1.1,(x1,(nth kW n9 (0+(Int.toNat t18))).2.1.2.2)),(nth kW n9 (0+(Int.toNat t18))).2.2))),CE))) none) none) none) none) none) none) none) (
   kx (aq.L0.bY ((DM,q9,n1,n2,CE),n9)).1 (aq.L0.bY ((DM,q9,n1,n2,CE),n9)).2):=by kernel_rfl
theorem aq.L1.run:b8 aq.L1.call aq.L1.az aq.L1.add aq.L1.F:=gR (gJ [.d ti,.d ti,.n,.n,.d (.pair ti .unit),.d (.pair ti .unit),.d (.slice kW),.d (.slice lH)] λ_=>by kernel_rfl)
theorem aq.L1.aI:jl @aq.L1.R aq.L1.st aq.L1.az aq.L1.add aq.L1.F aq.L1.bY aq.L1.Ok:=js
theorem aq.L1.step{R:Type}(t38:Int)(t39:Int)(sH:Nat)(ra:Nat)(xO:(Int×Unit))(lR:(Int×Unit))(oW:(List kX))(qe:(List kI))(kn:AS->Option R)(kx:Exit->AS->Option R):aq.L1.R (t38,t39,sH,ra,xO,lR,oW,qe) kn kx=
  aJ ((jM t39 t38)) (
   aJ (fB t39 ((ra:Nat):Int)) (
   aJ (decide ((0+(Int.toNat t39)) < (List.length qe))) (
   aJ (decide ((((0+(Int.toNat t39))*2)+1)=(((0+((Int.toNat t39)*2))+1)+0))) (
   ah (iZ.call (nth lH qe (0+(Int.toNat t39))).2.1.1) λx1=>
   ah (aq.L2.call (t39,x1.1,t38,t39,((x1.1:Nat):Int),(0:Int),sH,ra,xO,lR,oW,qe,x1.2)) λx2=>
   aJ (fB x2.1.1 ((x2.1.2.2.2.2.1:Nat):Int)) (
   aJ (decide ((0+(Int.toNat x2.1.1)) < (List.length x2.1.2.2.2.2.2.2.2.2))) (
   aJ (decide ((((0+(Int.toNat x2.1.1))*2)+1)=(((0+((Int.toNat x2.1.1)*2))+1)+0))) (
   aJ (decide ((0+(Int.toNat x2.1.1)) < (List.length x2.1.2.2.2.2.2.2.2.2))) (
   kn (aq.L1.st (x2.1.2.1,(bV .i64 x2.1.2.2.1 (1:Int)),x2.1.2.2.2.1,x2.1.2.2.2.2.1,x2.1.2.2.2.2.2.1,x2.1.2.2.2.2.2.2.1,x2.1.2.2.2.2.2.2.2.1,(List.set x2.1.2.2.2.2.2.2.2.2 (0+(Int.toNat x2.1.1)) ((nth lH x2.1.2.2.2.2.2.2.2.2 (0+(Int.toNat x2.1.1))).1,((x2.2.1,(nth lH x2.1.2.2.2.2.2.2.2.2 (0+(Int.toNat x2.1.1))).2.1.2),(nth lH x2.1.2.2.2.2.2.2.2.2 (0+(Int.toNat x2.1.1))).2.2)))))) none) none) none) none) none) none) none) (
   kx (aq.L1.bY (sH,ra,xO,lR,oW,qe)).1 (aq.L1.bY (sH,ra,xO,lR,oW,qe)).2):=by kernel_rfl
theorem aq.L2.run:b8 aq.L2.call aq.L2.az aq.L2.add aq.L2.F:=gR (gJ [.d ti,.n,.d ti,.d ti,.d ti,.d ti,.n,.n,.d (.pair ti .unit),.d (.pair ti .unit),.d (.slice kW),.d (.slice lH),.d (.slice mC)] λ_=>by kernel_rfl)
theorem aq.L2.aI:jl @aq.L2.R aq.L2.st aq.L2.az aq.L2.add aq.L2.F aq.L2.bY aq.L2.Ok:=js
theorem aq.L2.step{R:Type}(kv:Int)(lL:Nat)(rz:Int)(rA:Int)(t51:Int)(t52:Int)(rb:Nat)(re:Nat)(v9:(Int×Unit))(rf:(Int×Unit))(wa:(List kX))(qZ:(List kI))(um:(List ov))(kn:AS->Option R)(kx:Exit->AS->Option R):aq.L2.R (kv,lL,rz,rA,t51,t52,rb,re,v9,rf,wa,qZ,um) kn kx=
  aJ ((jM t52 t51)) (
   aJ (fB t52 ((lL:Nat):Int)) (
   aJ (decide ((0+(Int.toNat t52)) < (List.length um))) (
   aJ (decide ((((0+(Int.toNat t52))*4)+0)=((0+((Int.toNat t52)*4))+0))) (
   ah (dV.call (nth mC um (0+(Int.toNat t52))).1) λx1=>
   aJ (fB t52 ((lL:Nat):Int)) (
   aJ (decide ((0+(Int.toNat t52)) < (List.length um))) (
   aJ (decide ((((0+(Int.toNat t52))*4)+0)=((0+((Int.toNat t52)*4))+0))) (
   aJ (decide ((0+(Int.toNat t52)) < (List.length um))) (
   kn (aq.L2.st (kv,lL,rz,rA,t51,(bV .i64 t52 (1:Int)),rb,re,v9,rf,wa,qZ,(List.set um (0+(Int.toNat t52)) (x1,(nth mC um (0+(Int.toNat t52))).2))))) none) none) none) none) none) none) none) (
   aJ (decide (0=0/\(0+lL)<=(List.length um))) (
   kx (aq.L2.bY ((kv,rz,rA,rb,re,v9,rf,wa,qZ),((cut um 0 lL),um))).1 (aq.L2.bY ((kv,rz,rA,rb,re,v9,rf,wa,qZ),((cut um 0 lL),um))).2) none):=by kernel_rfl
theorem aq.eq{R:Type}(t:je)(k:aX->Option R):aq.A t k=
 ah (jt.call t.1) λx1=>
 ah (fX.call t.2.1) λx2=>
 ah (aq.L0.call (((x1.1:Nat):Int),(0:Int),x1.1,x2.1,t.2.2,((0:Int),()),x1.2,x2.2)) λx4=>
 ah (aq.L1.call (((x4.1.2.1:Nat):Int),(0:Int),x4.1.1,x4.1.2.1,x4.1.2.2.1,x4.1.2.2.2.1,x4.2,x4.1.2.2.2.2)) λx8=>
 aJ (decide (0=0/\(0+x8.2.1)<=(List.length x8.2.2.2.2.2))) (
 k (aq.out (x8.1,((cut x8.2.2.2.2.2 0 x8.2.1),x8.2.2.1),x8.2.2.2.2.1))) none:=by kernel_rfl
theorem aq.L0.ok:aq.L0.Ok:=by
 refine aq.L0.aI (λ(m,i,L,L2,u,v,l,os)=>l.length - Int.toNat i) ?_
 rintro⟨m,i,L,L2,u,v,l,os⟩ ⟨⟨hlen,hx⟩,k,hk,rfl,rfl,rfl⟩
 have hlen:l.length<=1000:=hlen
 have hk:k<=l.length:=hk
 by_cases h:k < l.length
 ·left
  have n1:nth kW l k=l[k]:=dQ (t:=kW) h
  have hs:l.set k l[k]=l:=gu h
  have e:=hx _ (List.getElem_mem h)
  refine⟨((l.length:Int),((k+1:Nat):Int),l.length,L2,u,v,l,os),⟨⟨hlen,hx⟩,k+1,by omega,rfl,rfl,rfl⟩,by simp only[aa];omega,rfl,λkn kx=> ?_⟩
  rw[aq.L0.step,bI (by omega),bF (by omega) (by omega)]
  simp only[aa,bl,dR,gX,Nat.reduceAdd,ae,aM h,decide_true,n1]
  rw[fY.run (d:=l[k].2.1.2.1) e]
  simp only[ab,fY.add,fY.F]
  rw[N.pF (by omega)]
  exact congrArg (λz=>kn (aq.L0.st (_,_,_,_,_,_,z,_))) hs
 ·right
  obtain rfl:k=l.length:=by omega
  intro R kn kx
  rw[aq.L0.step,bp (by omega),ai]
  rfl
theorem aq.L2.ok:aq.L2.Ok:=by
 refine aq.L2.aI (λ(kv,L,m1,i1,m,i,L5,L6,u,v,ls,os,bs)=>bs.length - Int.toNat i) ?_
 rintro⟨kv,L,m1,i1,m,i,L5,L6,u,v,ls,os,bs⟩ ⟨⟨hlen,hx⟩,k,hk,rfl,rfl,rfl⟩
 have hlen:bs.length<=1000:=hlen
 have hk:k<=bs.length:=hk
 by_cases h:k < bs.length
 ·left
  have n1:nth mC bs k=bs[k]:=dQ (t:=mC) h
  have hs:bs.set k bs[k]=bs:=gu h
  have e:=hx _ (List.getElem_mem h)
  refine⟨(kv,bs.length,m1,i1,(bs.length:Int),((k+1:Nat):Int),L5,L6,u,v,ls,os,bs),⟨⟨hlen,hx⟩,k+1,by omega,rfl,rfl,rfl⟩,by simp only[aa];omega,rfl,λkn kx=> ?_⟩
  rw[aq.L2.step,bI (by omega),bF (by omega) (by omega)]
  simp only[aa,bl,dR,gX,Nat.reduceAdd,ae,aM h,decide_true,n1]
  rw[dV.run (d:=bs[k].1) e]
  simp only[ab,dV.add,dV.F]
  rw[N.pF (by omega)]
  exact congrArg (λz=>kn (aq.L2.st (_,_,_,_,_,_,_,_,_,_,_,_,z))) hs
 ·right
  obtain rfl:k=bs.length:=by omega
  intro R kn kx
  rw[aq.L2.step,bp (by omega),ai]
  simp only[bl,aE,and_self,decide_true,ae,jf]
  rfl
theorem aq.L1.ok:aq.L1.Ok:=by
 refine aq.L1.aI (λ(m,i,L3,L,u,v,ls,os)=>os.length - Int.toNat i) ?_
 rintro⟨m,i,L3,L,u,v,ls,os⟩ ⟨⟨hlen,hx⟩,k,hk,rfl,rfl,rfl⟩
 have hlen:os.length<=1000:=hlen
 have hk:k<=os.length:=hk
 by_cases h:k < os.length
 ·left
  have n1:nth lH os k=os[k]:=dQ (t:=lH) h
  have hs:os.set k os[k]=os:=gu h
  have e:=hx _ (List.getElem_mem h)
  refine⟨((os.length:Int),((k+1:Nat):Int),L3,os.length,u,v,ls,os),⟨⟨hlen,hx⟩,k+1,by omega,rfl,rfl,rfl⟩,by simp only[aa];omega,rfl,λkn kx=> ?_⟩
  rw[aq.L1.step,bI (by omega),bF (by omega) (by omega)]
  simp only[aa,bl,dR,gX,Nat.reduceAdd,ae,aM h,decide_true,n1]
  rw[iZ.run (d:=os[k].2.1.1) (by show os[k].2.1.1.length<=_;have:=e.1;omega)]
  simp only[ab,iZ.add,iZ.F]
  rw[aq.L2.run (d:=((k:Int),os[k].2.1.1.length,(os.length:Int),(k:Int),(os[k].2.1.1.length:Int),0,L3,os.length,u,v,ls,os,os[k].2.1.1)) ⟨e,0,bm _,rfl,rfl,rfl⟩]
  simp only[ab,aq.L2.add,aq.L2.F,aa,n1,ae,aM h,bF (show(0:Int)<=(k:Int) by omega) (show(k:Int) < (os.length:Int) by omega)]
  rw[N.pF (by omega)]
  exact congrArg (λz=>kn (aq.L1.st (_,_,_,_,_,_,_,z))) hs
 ·right
  obtain rfl:k=os.length:=by omega
  intro R kn kx
  rw[aq.L1.step,bp (by omega),ai]
  rfl
theorem zR{l:Lk}(h:lj l=true):l.1.length<=4/\∀b∈l.1,b.1.length<=12:=by
 unfold lj at h
 simp only[ak,fC,decide_eq_true_eq]at h
 refine⟨h.2.2,λb hb=> ?_⟩
 have:=h.1 b hb
 unfold rG at this
 simp only[ak,decide_eq_true_eq]at this
 exact this.1
theorem aq.ok:aq.Ok:=by
 rintro⟨is,os,nt,u⟩ kA
 obtain⟨⟨_,a2,a3,_⟩,b1,b2⟩:=pD kA
 have a2:is.length<=64:=a2
 have a3:os.length<=64:=a3
 rw[aq.eq,jt.run (d:=is) (by show is.length<=_;omega),fX.run (d:=os) (by show os.length<=_;omega)]
 simp only[ab,jt.add,jt.F,fX.add,fX.F]
 rw[aq.L0.run (d:=(is.length,0,is.length,os.length,(nt,u),(0,()),is,os)) ⟨⟨by show is.length<=_;omega,λx hx=>by have:=(Fp (ub _ _ b1 x hx)).2.2.2.2;omega⟩,0,bm _,rfl,rfl,rfl⟩]
 simp only[ab,aq.L0.add,aq.L0.F]
 rw[aq.L1.run (d:=(os.length,0,is.length,os.length,(nt,u),(0,()),is,os)) ⟨⟨by show os.length<=_;omega,λx hx=>by
  have:=zR (pC _ _ b2 x hx).2
  exact⟨by omega,λb hb=>by have:=this.2 b hb;omega⟩⟩,0,bm _,rfl,rfl,rfl⟩]
 simp only[ab,aq.L1.add,aq.L1.F,bl,aE,and_self,decide_true,ae,jf]
 rfl
def aq.E:=Entry.dp [some lS] aq.st aq.az aq.add aq.F aq.out
def aq.call:aq.D->Option aq.X:=bX aq.E aq.st
theorem aq.run:b8 aq.call aq.az aq.add aq.F:=dv (du [.d lS] λ_=>by kernel_rfl)
def aq.sg:SG Tryz.prog:=⟨128,aP,aq.E,.fn 3 (by kernel_rfl) aq.ok (And.intro (.dp aq.L0.ok (by kernel_rfl)) (And.intro (.dp aq.L1.ok (by kernel_rfl)) (And.intro (.dp aq.L2.ok (by kernel_rfl)) trivial)))⟩
theorem wg(x:Int)(m:Int):∀k:Nat,(x%m)^k%m=x^k%m
 | 0=>by rw[nW,nW]
 |k+1=>by rw[mG,mG,iR,wg x m k,iV _ (mF m),<-iR]
theorem Sa(a:Int)(k:Nat):(a*a)^k=a^(2*k):=by
 rw[Int.pow_mul,mG,mG,nW,Int.one_mul]
theorem NO:∀(f:Nat) (a:Int) (n:Nat) (out:Int),n < 2^f->Pn out->F8 f a n out=out*a^n%4611686018427377339
 | 0,a,n,out,h,ho=>by
  obtain rfl:n=0:=by omega
  rw[sL,nW,Int.mul_one,jq ho.1 ho.2]
 |f+1,a,n,out,h,ho=>by
  have e:(2:Nat)^(f+1)=2^f*2:=Nat.pow_succ 2 f
  rw[F8]
  split
  ·rename_i h0
   subst h0
   rw[nW,Int.mul_one,jq ho.1 ho.2]
  ·have hp:Pn (if n%2=1 then mz out a else out):=by
    split
    ·exact qd _ _
    ·exact ho
   rw[NO f _ _ _ (by omega) hp,iR]
   have e1:(mz a a)^(n / 2)%4611686018427377339=a^(2*(n / 2))%4611686018427377339:=by
    unfold mz
    rw[wg,Sa]
   have e2:(if n%2=1 then mz out a else out)%4611686018427377339=(out*a^(n%2))%4611686018427377339:=by
    split
    ·rename_i h1
     rw[h1,mG,nW,Int.one_mul]
     exact iV _ (mF _)
    ·have h1:n%2=0:=by omega
     rw[h1,nW,Int.mul_one]
   rw[e1,e2,<-iR,Int.mul_assoc,<-Int.pow_add]
   have e3:n%2+2*(n / 2)=n:=by omega
   rw[e3]
theorem AR(a:Int)(n:Nat)(h:n < 18446744073709551616):pw a n=a^n%4611686018427377339:=by
 unfold pw
 rw[NO 64 a n 1 h ⟨by omega,by omega⟩,Int.one_mul]
theorem one_pow(k:Nat):(1:Int)^k=1:=Int.one_pow
theorem NQ(a:Int)(k q:Nat)(hk:k < 18446744073709551616)(hq:q < 18446744073709551616)(h:pw a q=1):pw (pw a k) q=1:=by
 rw[AR _ _ hq]at h
 rw[AR _ _ hq,AR _ _ hk,wg,<-Int.pow_mul,Nat.mul_comm,Int.pow_mul,<-wg,h,one_pow]
 rfl
theorem El:pw 4 2305843009213688669=1:=by decide+kernel
theorem Lz:pw 1 2305843009213688669=1:=by decide+kernel
theorem Fu:oM 4=true:=by rw[oM,El];rfl
theorem wM:oM 1=true:=by rw[oM,Lz];rfl
theorem Pz:Hi 1=1:=by
 have e:pw 1 2305843009213688668=1:=by decide+kernel
 rw[Hi,tk,wM]
 exact e
theorem FI{a:Int}(h:Pn a)(q:Nat)(hq:0 < q)(Bb:q < 18446744073709551616)(hp:pw a q=1):0 < a:=by
 rcases Int.lt_or_eq_of_le h.1 with h0 | h0
 ·exact h0
 ·subst h0
  rw[AR _ _ Bb,Int.zero_pow (by omega)]at hp
  cases hp
theorem M9{a:Int}(h:Pn a)(hp:pw a 2305843009213688669=1):oM a=true:=by
 have h0:=FI h 2305843009213688669 (by decide) (by decide) hp
 rw[oM,hp,decide_eq_true ⟨h0,h.2⟩];rfl
theorem zM{a:Int}(h:oM a=true):pw a 2305843009213688669=1/\Pn a:=by
 rw[oM,ak,decide_eq_true_eq,decide_eq_true_eq]at h
 exact⟨h.2,by omega,h.1.2⟩
theorem RG{a:Int}(h:oM a=true)(k:Nat)(hk:k < 18446744073709551616):oM (pw a k)=true:=
 M9 (EB _ _) (NQ a k _ hk (by decide) (zM h).1)
theorem Na(a:Int):oM (tk a)=true:=by
 unfold tk
 cases h:oM a
 ·exact wM
 ·exact h
theorem Lg(p k:Int):oM (oH p k)=true:=RG (Na p) _ (by omega)
theorem ze{a:Int}(h:oM a=true):tk a=a:=by rw[tk,h];rfl
theorem vU(k:Int):oM (fy k)=true:=Lg 4 k
theorem Hc{a:Int}(h:Pn a):mz a 1=a:=by rw[mz,Int.mul_one,jq h.1 h.2]
def pm(m:Nat):Nat->Nat->Nat->Nat->Nat
 | 0,_,_,out=>out%m
 |f+1,a,n,out=>if n=0 then out%m else pm m f (a*a%m) (n / 2) (if n%2=1 then out*a%m else out)
theorem QB(m:Nat):∀(f a n out:Nat),n < 2^f->pm m f a n out=out*a^n%m
 | 0,a,n,out,h=>by
  obtain rfl:n=0:=by omega
  rw[pm,Nat.pow_zero,kc]
 |f+1,a,n,out,h=>by
  have e:(2:Nat)^(f+1)=2^f*2:=Nat.pow_succ (n:=2) (m:=f)
  rw[pm]
  split
  ·rename_i h0
   subst h0
   rw[Nat.pow_zero,kc]
  ·rw[QB m f _ _ _ (by omega),lU]
   have e1:(a*a%m)^(n / 2)%m=a^(2*(n / 2))%m:=by
    rw[<-Nat.pow_mod,Nat.pow_mul,Nat.pow_two]
   have e2:(if n%2=1 then out*a%m else out)%m=(out*a^(n%2))%m:=by
    split
    ·rename_i h1
     rw[h1,Nat.pow_one,Nat.mod_mod]
    ·have h1:n%2=0:=by omega
     rw[h1,Nat.pow_zero,kc]
   rw[e1,e2,<-lU,Nat.mul_assoc,<-nG]
   have e3:n%2+2*(n / 2)=n:=by omega
   rw[e3]
theorem M0:∀(r q:Nat) (f:Nat->Nat),(∀i,i < q->f i < r)->(∀i j,i < j->j < q->f i≠f j)->q<=r
 | 0,q,f,h,_=>by
  rcases mH q with h0 | h0
  ·omega
  ·exact absurd (h 0 h0) (Nat.not_lt_zero _)
 |r+1,q,f,h,g=>by
  by_cases hx:∃i,i < q/\f i=r
  ·obtain⟨i,hi,hr⟩:=hx
   have e:=M0 r (q - 1) (λj=>if j < i then f j else f (j+1)) (λj hj=>by
    by_cases h1:j < i
    ·have a:=h j (by omega)
     have b:=g j i h1 hi
     simp only[h1,if_true]
     omega
    ·have a:=h (j+1) (by omega)
     have b:=g i (j+1) (by omega) (by omega)
     simp only[h1,if_false]
     omega) (λj k XP hk=>by
    by_cases h1:j < i
    ·by_cases h2:k < i
     ·simp only[h1,h2,if_true]
      exact g j k XP (by omega)
     ·simp only[h1,h2,if_true,if_false]
      exact g j (k+1) (by omega) (by omega)
    ·have h2:¬k < i:=by omega
     simp only[h1,h2,if_false]
     exact g (j+1) (k+1) (by omega) (by omega))
   omega
  ·have e:=M0 r q f (λi hi=>by
    have a:=h i hi
    have b:f i≠r:=λx=>hx ⟨i,hi,x⟩
    omega) g
   omega
theorem Kd(a m:Nat)(h1:1%m=1):∀i j:Nat,a^i%m=1->a^j%m=1->a^(Nat.gcd i j)%m=1:=by
 intro i
 induction i using Nat.strongRecOn with
 |ind i ih=>
  intro j hi hj
  rcases mH i with h0 | h0
  ·subst h0;rw[Nat.gcd_zero_left];exact hj
  ·rw[Nat.gcd_rec]
   refine ih (j%i) (Nat.mod_lt _ h0) i ?_ hi
   have e:a^j=(a^i)^(j / i)*a^(j%i):=by rw[<-Nat.pow_mul,<-nG,Nat.div_add_mod]
   rw[e,lU,Nat.pow_mod,hi,Nat.one_pow,h1,kM,Nat.mod_mod]at hj
   exact hj
def Mk(n:Nat):Prop:=∀d,d∣n->d=1\/d=n
theorem Ke{n k:Nat}(h:Mk n)(h0:0 < k)(hk:k < n):Nat.gcd k n=1:=by
 rcases h _ (Nat.gcd_dvd_right k n) with h1 | h1
 ·exact h1
 ·have:=Nat.le_of_dvd h0 (Nat.gcd_dvd_left k n);omega
theorem Hl{n:Nat}(hn:1 < n)(h:∀r,1 < r->r*r<=n->¬r∣n):Mk n:=by
 intro d hd
 obtain⟨e,he⟩:=hd
 have YS:0 < d:=Nat.pos_of_ne_zero (by intro x;rw[x,mI]at he;omega)
 have F4:0 < e:=Nat.pos_of_ne_zero (by intro x;rw[x,Nat.mul_zero]at he;omega)
 by_cases h1:d=1
 ·exact .inl h1
 by_cases h2:e=1
 ·right;rw[he,h2,kc]
 exfalso
 rcases Nat.le_total d e with hle | hle
 ·exact h d (by omega) (by rw[he];exact Nat.mul_le_mul_left d hle) ⟨e,he⟩
 ·exact h e (by omega) (by rw[he];exact eR e hle) ⟨d,by rw[he,Nat.mul_comm]⟩
theorem RX{n q b:Nat}(hn:1 < n)(hq:Mk q)(SF:1 < q)(W2:n < q*q)(hb:b^q%n=1)(hg:Nat.gcd (b - 1) n=1)(Su:0 < b):Mk n:=by
 refine Hl hn λr hr Ya W4=> ?_
 have WK:1%r=1:=Nat.mod_eq_of_lt hr
 have WM:b^q%r=1:=by
  have:=Nat.mod_mod_of_dvd (b^q) W4
  rw[<-this,hb,WK]
 have lg:b%r≠1:=by
  intro hx
  have hd:r∣b - 1:=by have e:=Nat.dvd_sub_mod (n:=r) b;rw[hx]at e;exact e
  have:=Nat.dvd_gcd hd W4
  rw[hg]at this
  have:=Nat.le_of_dvd (by omega) this
  omega
 have key:q<=r:=by
  refine M0 r q (λi=>b^i%r) (λi _=>Nat.mod_lt _ (by omega)) λi j Vk hj he=> ?_
  have e1:b^(j - i)%r=1:=by
   have x1:b^(q - i)*b^i%r=b^(q - i)*b^j%r:=by rw[lU,he,<-lU]
   rw[<-nG,<-nG,show q - i+i=q by omega,show q - i+j=q+(j - i) by omega,nG,lU,WM,kM,Nat.mod_mod]at x1
   exact x1.symm
  have e2:=Kd b r WK (j - i) q e1 WM
  rw[Ke hq (by omega) (by omega),Nat.pow_one]at e2
  exact lg e2
 have:q*q<=r*r:=Nat.mul_le_mul key key
 omega
def Nx(n:Nat):Nat->Bool
 | 0=>true
 |k+1=>n%(k+2) !=0 && Nx n k
theorem Hk(n:Nat):∀k,Nx n k=true->∀d,1 < d->d<=k+1->¬d∣n
 | 0,_,d,h1,h2=>by omega
 |k+1,h,d,h1,h2=>by
  rw[Nx,ak]at h
  by_cases hd:d=k+2
  ·intro hx
   have:=Nat.mod_eq_zero_of_dvd hx
   rw[hd]at this
   rw[this]at h
   exact absurd h.1 (by decide)
  ·exact Hk n k h.2 d h1 (by omega)
theorem Wi:Mk 7930907:=by
 refine Hl (by decide) λr hr Ya=>Hk 7930907 2820 (by decide+kernel) r hr ?_
 apply Nat.le_of_not_lt
 intro h
 have:2822*2822<=r*r:=Nat.mul_le_mul (by omega) (by omega)
 omega
theorem yS{n q:Nat}(a e:Nat)(hq:Mk q)(SF:1 < q)(hn:1 < n)(W2:n < q*q)(he:e < 2^64)(Bb:q < 2^64)(h1:pm n 64 (pm n 64 a e 1) q 1=1)(h2:Nat.gcd (pm n 64 a e 1 - 1) n=1)(h3:0 < pm n 64 a e 1):Mk n:=by
 generalize pm n 64 a e 1=b at*
 rw[QB _ _ _ _ _ Bb,kM]at h1
 exact RX hn hq SF W2 h1 h2 h3
theorem Wh:Mk 11864636873:=yS (q:=7930907) 2 1496 Wi (by decide) (by decide) (by decide) (by decide) (by decide) (by decide+kernel) (by decide+kernel) (by decide+kernel)
theorem Wg:Mk 1732236983459:=yS (q:=11864636873) 2 146 Wh (by decide) (by decide) (by decide) (by decide) (by decide) (by decide+kernel) (by decide+kernel) (by decide+kernel)
theorem Wf:Mk 249442125618097:=yS (q:=1732236983459) 2 144 Wg (by decide) (by decide) (by decide) (by decide) (by decide) (by decide+kernel) (by decide+kernel) (by decide+kernel)
theorem Wj:Mk 2305843009213688669:=yS (q:=249442125618097) 2 9244 Wf (by decide) (by decide) (by decide) (by decide) (by decide) (by decide+kernel) (by decide+kernel) (by decide+kernel)
def gP(n:Nat):Int:=((4^n%4611686018427377339:Nat):Int)
theorem DS(a m q:Nat)(h1:1%m=1)(h:a^q%m=1)(n:Nat):a^(n%q)%m=a^n%m:=by
 have e:a^n=(a^q)^(n / q)*a^(n%q):=by rw[<-Nat.pow_mul,<-nG,Nat.div_add_mod]
 rw[e,lU,Nat.pow_mod (a^q),h,Nat.one_pow,h1,kM,Nat.mod_mod]
theorem PZ:∀q:Nat,q=2305843009213688669->4^q%4611686018427377339=1:=by
 intro q hq
 have h:=El
 rw[AR _ _ (by decide)]at h
 rw[<-hq]at h
 have e:(((4^q%4611686018427377339:Nat)):Int)=1:=by
  rw[nV,Int.natCast_pow]
  exact h
 omega
theorem zB(n:Nat):gP (n%2305843009213688669)=gP n:=by
 unfold gP
 obtain⟨q,hq⟩:∃q:Nat,q=2305843009213688669:=⟨_,rfl⟩
 rw[<-hq,DS 4 4611686018427377339 q (by decide) (PZ q hq)]
theorem S7(n:Nat)(h:n < 18446744073709551616):pw 4 n=gP n:=by
 rw[AR _ _ h]
 unfold gP
 rw[nV,Int.natCast_pow]
 rfl
theorem MQ(k:Int)(h:0<=k):(k%2305843009213688669).toNat=k.toNat%2305843009213688669:=by omega
theorem s6(k:Int)(h:0<=k):fy k=gP k.toNat:=by
 show pw (tk 4) _=_
 rw[ze Fu,S7 _ (by omega),MQ k h,zB]
theorem O0(n:Nat):gP n=fy n:=by rw[s6 _ (by omega),aa]
theorem xE(n:Nat):oM (gP n)=true:=by rw[O0];exact vU _
theorem xF(a b:Nat):mz (gP a) (gP b)=gP (a+b):=by
 unfold mz gP
 rw[<-o5,nG]
 have e:(4611686018427377339:Int)=((4611686018427377339:Nat):Int):=rfl
 rw[e,<-nV,<-lU]
theorem B6(a:Nat)(c:Int)(h:0<=c):oH (gP a) c=gP (a*c.toNat):=by
 show pw (tk (gP a)) _=_
 rw[ze (xE a),AR _ _ (by omega),MQ c h]
 obtain⟨b,hb⟩:∃b:Nat,b=c.toNat:=⟨_,rfl⟩
 rw[<-hb]
 obtain⟨d,hd⟩:∃d:Nat,d=b%2305843009213688669:=⟨_,rfl⟩
 have hx:gP (a*b)=gP (a*d):=by rw[<-zB (a*b),<-zB (a*d),lU a b,lU a d,hd,Nat.mod_mod]
 rw[hx,<-hd]
 unfold gP
 have e:(4611686018427377339:Int)=((4611686018427377339:Nat):Int):=rfl
 rw[e,<-Int.natCast_pow,<-nV,<-Nat.pow_mod,<-Nat.pow_mul]
theorem Fi:gP 0=1:=by decide
theorem PY{n:Nat}(h:0 < n)(hn:n < 2305843009213688669):gP n≠1:=by
 intro he
 unfold gP at he
 have he:4^n%4611686018427377339=1:=by omega
 obtain⟨q,hq⟩:∃q:Nat,q=2305843009213688669:=⟨_,rfl⟩
 have e:=Kd 4 4611686018427377339 (by decide) n q he (PZ q hq)
 rw[Ke (by rw[hq];exact Wj) h (by omega)]at e
 exact absurd e (by decide)
theorem PM(k:Int)(m:List Int)(h0:0 < k)(hq:k < 2305843009213688669):sA (fy k) m 1 (jR k m)=true:=by
 obtain⟨kn,hk⟩:∃kn:Nat,kn=k.toNat:=⟨_,rfl⟩
 have hb:fy k=gP kn:=by rw[hk];exact s6 k (by omega)
 have hn:=lX (C9 I0 [mn k,m])
 unfold jR Ny
 rw[if_pos ⟨hq,by omega⟩]
 obtain⟨n,lg⟩:∃n,kT (C9 I0 [mn k,m])=n:=⟨_,rfl⟩
 rw[lg]at hn ⊢
 unfold E0
 have hr:uY [fy n,1]=gP n.toNat:=by
  show mz (mz 1 (tk (fy n))) (tk 1)=_
  rw[ze (vU n),ze wM,Hc (qd _ _),s6 n (by omega),<-Fi,xF,bl]
 rw[hr,hb]
 have hc:=BR (gP n.toNat) (gP kn) m
 obtain⟨c,Ri⟩:∃c,va (gP n.toNat) (gP kn) m=c:=⟨_,rfl⟩
 rw[Ri]at hc ⊢
 have ha:=yl n (yK c k)
 have h1:=hc.1
 have h2:=ha.1
 have h3:=ha.2
 unfold sA
 rw[if_neg (by
  intro h
  rcases h with h | h | h | h | h
  ·exact PY (by omega) (by omega) h
  ·rw[xE]at h;cases h
  ·rw[wM]at h;cases h
  ·have h:oM (gP n.toNat)=false:=h
   rw[xE]at h;cases h
  ·exact h h3)]
 have e:fy (BJ n (yK c k))=uY [gP n.toNat,oH (gP kn) c,Hi 1]:=by
  show _=mz (mz (mz 1 (tk (gP n.toNat))) (tk (oH (gP kn) c))) (tk (Hi 1))
  rw[Pz,ze wM,Hc (qd _ _),ze (xE _),B6 _ _ h1,ze (xE _)]
  rw[show(mz 1 (gP n.toNat))=gP n.toNat by rw[<-Fi,xF,bl]]
  rw[xF,s6 _ h2]
  have hx:(BJ n (yK c k)).toNat=(n.toNat+kn*c.toNat)%2305843009213688669:=by
   unfold BJ yK Ly
   have g1:c%2305843009213688669=c:=jq h1 hc.2
   have g2:k%2305843009213688669=k:=jq (by omega) hq
   have g3:n%2305843009213688669=n:=jq (by omega) hn.2
   rw[g1,g2,g3,iV _ (mF _)]
   have g4:((kn*c.toNat:Nat):Int)=c*k:=by
    rw[o5,hk,Int.toNat_of_nonneg (by omega),Int.toNat_of_nonneg h1,Int.mul_comm]
   have g5:0<=c*k:=by rw[<-g4];exact pg _
   obtain⟨z,hz⟩:∃z,c*k=z:=⟨_,rfl⟩
   rw[hz]at g4 g5 ⊢
   obtain⟨zn,Yl⟩:∃zn,kn*c.toNat=zn:=⟨_,rfl⟩
   rw[Yl]at g4 ⊢
   omega
  rw[hx,zB]
 show decide (fy (BJ n (yK c k))=uY [gP n.toNat,oH (gP kn) (va (gP n.toNat) (gP kn) m),Hi 1])=true
 rw[Ri]
 exact decide_eq_true e
def tD{α:Type}(p:α->Bool):List α->Int->Int⊕Unit
 |[],_=> .inr ()
 |x::xs,i=>if p x then .inl i else tD p xs (i+1)
def DF{α:Type}(p:α->Bool)(l:List α):Int:=match tD p l 0 with | .inl i=>i | .inr _=> -1
theorem GM{α:Type}(p:α->Bool):∀(l:List α) (i:Int),0<=i->(match tD p l i with | .inl i=>decide (i>=0) | .inr _=>false)=l.any p
 |[],_,_=>rfl
 |x::l,i,h=>by
  rw[tD,nc]
  cases hp:p x
  ·simp only[cD,if_false,Bool.false_or]
   exact GM p l (i+1) (by omega)
  ·simp[h]
theorem yA{α:Type}(p:α->Bool)(l:List α):qu (DF p l) 0=l.any p:=by
 have:=GM p l 0 (by omega)
 unfold DF qu
 cases h:tD p l 0
 ·rw[h]at this;exact this
 ·rw[h]at this;rw[<-this];rfl
def xu(k:Int):Bool:=decide (¬(k < 2305843009213688669/\k≠0))
def sO(t:je)(i br:Int)(ks:List Int):Bool:=j9 t && (decide (0<=i/\i < t.1.length/\0<=br/\br < 4/\ks.length<=12) && !(ks.any xu))
def pO(t:je)(i br:Int)(ks:List Int)(sc:Int):je×Int:=
 if sO t i br ks then((t.1.set i.toNat ((nth kW t.1 i.toNat).1,(br,ks.map (λk=>jR k (oJ t)),sc,()),()),t.2),0) else(([],[],0,()),1)
theorem Dg{t:je}:Sm (oJ t):=by
 unfold oJ
 split
 ·exact C6 _ _
 ·exact⟨by rw[eo],λx hx=>by obtain rfl:=(ph.1 hx).2;exact⟨by decide,by decide⟩⟩
abbrev gW.D:=Int
def gW.st:gW.D->SA:=λkv=>([.d tu kv],[])
abbrev gW.Y:=Bool
abbrev gW.X:=Bool
def gW.out:gW.X->aX:=λx=>⟨.d .bool x,[],[]⟩
def gW.add:gW.D->gW.Y->gW.X:=λkv y=>y
def gW.az:gW.D->Prop:=λ_=>True
def gW.F:gW.D->gW.Y:=λk=>xu k
def gW.G:fD:=gr (P:=Tryz.prog) [eO.sg]
def gW.an:fR:= {}
def gW.A:= @dm Tryz.prog gW.G gW.an 0 Tryz.f125 _ gW.st
abbrev gW.Ok:=dn @gW.A gW.az gW.add gW.F gW.out
theorem gW.eq{R:Type}(kv:Int)(k:aX->Option R):gW.A kv k=
  aJ ((mV kv (0:Int))) (
   k (gW.out true)) (
   ah (eO.call kv) λx1=>
   k (gW.out (!x1))):=by kernel_rfl
theorem gW.ok:gW.Ok:=by
 intro(k:Int) _
 rw[gW.eq,eO.run (d:=k) trivial]
 simp only[gW.add,gW.F,xu,ab,eO.add,eO.F]
 by_cases h:k=0
 ·rw[fA h,ae,aM (by omega)]
 ·rw[fJ h,ai]
  by_cases h2:k < 2305843009213688669
  ·rw[bI h2,cq (by omega)];rfl
  ·rw[bp h2,aM (by omega)];rfl
def gW.E:=Entry.dp [some tu] gW.st gW.az gW.add gW.F gW.out
def gW.call:gW.D->Option gW.X:=bX gW.E gW.st
theorem gW.run:b8 gW.call gW.az gW.add gW.F:=dv (du [.d tu] λ_=>by kernel_rfl)
def gW.sg:SG Tryz.prog:=⟨125,aP,gW.E,.fn 0 (by kernel_rfl) gW.ok trivial⟩
abbrev bK.L0.D:=Bs×Int×Int
def bK.L0.st:bK.L0.D->AS:=λ(ef,t7,t8)=>⟨([.d tU ef,.fn 125 (.nil)]++bG 5 ([.d ti t7,.d ti t8]++bG 10 [])),[],(List.replicate 19 [])⟩
abbrev bK.L0.Y0:=Int
abbrev bK.L0.X0:=Int
def bK.L0.bY:bK.L0.X0->Exit×AS:=λx=>(.ret,⟨(bG 4 ([.d ti x]++bG 14 [])),[],(List.replicate 19 [])⟩)
abbrev bK.L0.Y1:=Unit
abbrev bK.L0.X1:=Unit
def bK.L0.ko:bK.L0.X1->Exit×AS:=λx=>(.exit 0,⟨(bG 19 []),[],(List.replicate 19 [])⟩)
abbrev bK.L0.X:=(bK.L0.X0)⊕(bK.L0.X1)
abbrev bK.L0.Y:=(bK.L0.Y0)⊕(bK.L0.Y1)
def bK.L0.out:bK.L0.X->Out (Exit×AS):=λx=> .br x.isLeft (.get x.getLeft? λa=> .ok (bK.L0.bY a)) (.get x.getRight? λb=> .ok (bK.L0.ko b))
def bK.L0.add:bK.L0.D->bK.L0.Y->bK.L0.X:=λ(ef,t7,t8) y=>match y with | .inl y=> .inl y | .inr z=> .inr (z)
abbrev bK.D:=Bs
def bK.st:bK.D->SA:=λsv=>([.d tU sv,.fn 125 (.nil)],[])
abbrev bK.Y:=Int
abbrev bK.X:=Int
def bK.out:bK.X->aX:=λx=>⟨.d ti x,[],[]⟩
def bK.add:bK.D->bK.Y->bK.X:=λsv y=>y
def bK.L0.az:bK.L0.D->Prop:=λ(l,n,i)=>(∀x∈l,True)/\l.length<=1000000000/\n=l.length/\∃k:Nat,k<=l.length/\i=k
def bK.L0.F:bK.L0.D->bK.L0.Y:=λ(l,n,i)=>tD xu (l.drop i.toNat) i
def bK.az:bK.D->Prop:=λl=>(∀x∈l,True)/\l.length<=1000000000
def bK.F:bK.D->bK.Y:=λl=>DF xu l
def bK.G:fD:=gr (P:=Tryz.prog) [gW.sg]
def bK.L0.E:=cU.dp bK.L0.st bK.L0.az bK.L0.add bK.L0.F bK.L0.out
def bK.L0.call:bK.L0.D->Option bK.L0.X:=eI bK.L0.E bK.L0.st
def bK.an:fR:= {loops:=om [(2,{bO:=[0,1,7,8]})],outs:=oh [(2,{},{bO:=[4]})],jo:=pb [(2,bK.L0.E)]}
def bK.A:= @dm Tryz.prog bK.G bK.an 0 Tryz.f163 _ bK.st
abbrev bK.Ok:=dn @bK.A bK.az bK.add bK.F bK.out
def bK.L0.R:= @dr Tryz.prog bK.G bK.an 0 Tryz.f163 0 _ bK.L0.st
abbrev bK.L0.Ok:=gz Tryz.prog bK.G bK.an 0 Tryz.f163 0 bK.L0.st bK.L0.az bK.L0.add bK.L0.F bK.L0.out
theorem bK.L0.run:b8 bK.L0.call bK.L0.az bK.L0.add bK.L0.F:=gR (gJ [.d tU,.d ti,.d ti] λ_=>by kernel_rfl)
theorem bK.L0.aI:rV @bK.L0.R bK.L0.st bK.L0.az bK.L0.add bK.L0.F bK.L0.out bK.L0.Ok:=sy
theorem bK.L0.step{R:Type}(ef:Bs)(t7:Int)(t8:Int)(kn:AS->Option R)(kx:Exit->AS->Option R):bK.L0.R (ef,t7,t8) kn kx=
  aJ ((jM t8 t7)) (
   aJ (fB t8 (((List.length ef):Nat):Int)) (
   ah (gW.call (nth tu ef (Int.toNat t8))) λx1=>
   aJ (x1) (
    kx (bK.L0.bY t8).1 (bK.L0.bY t8).2) (
    kn (bK.L0.st (ef,t7,(bV .i64 t8 (1:Int)))))) none) (
   kx (bK.L0.ko ()).1 (bK.L0.ko ()).2):=by kernel_rfl
theorem bK.eq{R:Type}(sv:Bs)(k:aX->Option R):bK.A sv k=
  ah (bK.L0.call (sv,(((List.length sv):Nat):Int),(0:Int))) λx2=>
  aJ (x2.isLeft) (
   ah (x2.getLeft?) λa3=>
   k (bK.out a3)) (
   ah (x2.getRight?) λb4=>
   k (bK.out (-1:Int))):=by kernel_rfl
theorem bK.L0.ok:bK.L0.Ok:=by
 refine bK.L0.aI (λ(l,n,i)=>l.length - i.toNat) ?_
 rintro⟨l,n,i⟩ ⟨hl,hb,rfl,k,hk,rfl⟩
 have hb:l.length<=1000000000:=hb
 have hk:k<=l.length:=hk
 by_cases h:k < l.length
 ·have hx:=hl _ (List.getElem_mem h)
  have n1:nth tu l k=l[k]:=dQ (t:=tu) h
  have hd:tD xu (l.drop k) k=if xu l[k] then .inl (k:Int) else tD xu (l.drop (k+1)) ((k+1:Nat):Int):=by rw[av h];rfl
  have step:∀ {R:Type} (kn:AS->Option R) (kx:Exit->AS->Option R),bK.L0.R (l,(l.length:Int),(k:Int)) kn kx=aJ (xu l[k]) (kx (bK.L0.bY (k:Int)).1 (bK.L0.bY (k:Int)).2) (kn (bK.L0.st (l,(l.length:Int),((k+1:Nat):Int)))):=by
   intro R kn kx
   rw[bK.L0.step,bI (by omega),bF (by omega) (by omega),aa,n1,gW.run (d:=l[k]) hx,N.pF (by omega)]
   rfl
  cases hp:xu l[k]
  ·left
   refine⟨(l,l.length,((k+1:Nat):Int)),⟨hl,hb,rfl,k+1,by omega,rfl⟩,by simp only[aa];omega,?_,λkn kx=> ?_⟩
   ·simp only[bK.L0.add,bK.L0.F,aa,hd,hp,cD,if_false]
   ·rw[step,hp,ai]
  ·right
   refine⟨bK.L0.bY (k:Int),?_,λkn kx=> ?_⟩
   ·simp only[bK.L0.add,bK.L0.F,aa,hd,hp,if_true]
    rfl
   ·rw[step,hp,ae]
 ·right
  obtain rfl:k=l.length:=by omega
  refine⟨bK.L0.ko (),?_,λkn kx=> ?_⟩
  ·simp only[bK.L0.add,bK.L0.F,aa,bB]
   rfl
  ·rw[bK.L0.step,bp (by omega),ai]
theorem bK.ok:bK.Ok:=by
 rintro l ⟨hl,hb⟩
 rw[bK.eq,bK.L0.run (d:=(l,l.length,0)) ⟨hl,hb,rfl,0,by omega,rfl⟩]
 simp only[ab,bK.L0.add,bK.L0.F,bH,aW,bK.add,bK.F,DF]
 cases tD xu l 0 <;> rfl
def bK.E:=Entry.dp [some tU,none] bK.st bK.az bK.add bK.F bK.out
def bK.call:bK.D->Option bK.X:=bX bK.E bK.st
theorem bK.run:b8 bK.call bK.az bK.add bK.F:=dv (du [.d tU] λ_=>by kernel_rfl)
def bK.sg:SG Tryz.prog:=⟨163,aP,bK.E,.fn 1 (by kernel_rfl) bK.ok (And.intro (.dp bK.L0.ok (by kernel_rfl)) trivial)⟩
abbrev db.D:=Bs
def db.st:db.D->SA:=λsv=>([.d tU sv,.fn 125 (.nil)],[])
abbrev db.Y:=Bool
abbrev db.X:=Bool
def db.out:db.X->aX:=λx=>⟨.d .bool x,[],[]⟩
def db.add:db.D->db.Y->db.X:=λsv y=>y
def db.az:db.D->Prop:=λl=>(∀x∈l,True)/\l.length<=1000000000
def db.F:db.D->db.Y:=λl=>l.any xu
def db.G:fD:=gr (P:=Tryz.prog) [bK.sg]
def db.an:fR:= {}
def db.A:= @dm Tryz.prog db.G db.an 0 Tryz.f127 _ db.st
abbrev db.Ok:=dn @db.A db.az db.add db.F db.out
theorem db.eq{R:Type}(sv:Bs)(k:aX->Option R):db.A sv k=
 ah (bK.call sv) λx1=>
 k (db.out (qu x1 (0:Int))):=by kernel_rfl
theorem db.ok:db.Ok:=by
 rintro l ⟨hl,hb⟩
 rw[db.eq,bK.run (d:=l) ⟨hl,hb⟩]
 simp only[ab,bK.add,bK.F,yA]
 rfl
def db.E:=Entry.dp [some tU,none] db.st db.az db.add db.F db.out
def db.call:db.D->Option db.X:=bX db.E db.st
theorem db.run:b8 db.call db.az db.add db.F:=dv (du [.d tU] λ_=>by kernel_rfl)
def db.sg:SG Tryz.prog:=⟨127,aP,db.E,.fn 0 (by kernel_rfl) db.ok trivial⟩
abbrev cT.L0.D:=Int×Bs×Int×Int×je×(Int×Unit)×Int×Nat×(Int×Unit)×Bs×(List Sg)
def cT.L0.st:cT.L0.D->AS:=λ(Ax,t52,t53,t54,n5,Bu,RP,CF,CG,Bv,Nt)=>⟨([.undef,.d ti Ax,.undef,.undef,.undef,.ptr (.new 5 0) 0 [] 0]++bG 4 ([.ptr (.new 10 0) 0 [] 0,.undef,.undef,.ptr (.new 13 0) 0 [] 0,.ptr (.new 14 0) 0 [] 0]++bG 37 ([.d tU t52,.d ti t53,.d ti t54]++bG 21 []))),[],(dh 5 ([[.obj 0 false (.d lS n5)]]++dh 4 ([[.obj 0 false (.pr (.eU) (.pr (.eU) (.d (.pair ti .unit) Bu)))],[],[],[.obj 0 false (.pr (.d ti RP) (.pr (.di (.new 64 0) 0 [] 0 0 CF) (.d (.pair tu .unit) CG)))],[.obj 0 false (.d tH Bv)]]++dh 49 ([[.obj 0 false (.vec 131 Ak Nt)]]++dh 11 []))))⟩
abbrev cT.L0.Y0:=Du×(List Sg)
abbrev cT.L0.X0:=(Int×je×(Int×Unit))×(Du×(List Sg))
def cT.L0.bY:cT.L0.X0->Exit×AS:=λx=>(.exit 0,⟨([.undef,.d ti x.1.1,.undef,.undef,.undef,.ptr (.new 5 0) 0 [] 0]++bG 4 ([.ptr (.new 10 0) 0 [] 0,.undef,.undef,.ptr (.new 13 0) 0 [] 0]++bG 62 [])),[],(dh 5 ([[.obj 0 false (.d lS x.1.2.1)]]++dh 4 ([[.obj 0 false (.pr (.eU) (.pr (.eU) (.d (.pair ti .unit) x.1.2.2)))],[],[],[.obj 0 false (.d OC x.2.1)]]++dh 50 ([[.obj 0 true (.vec 131 Ak x.2.2)]]++dh 11 []))))⟩)
abbrev cT.L0.X:=cT.L0.X0
abbrev cT.L0.Y:=cT.L0.Y0
def cT.L0.out:cT.L0.X->Out (Exit×AS):=λx=> .ok (cT.L0.bY x)
def cT.L0.add:cT.L0.D->cT.L0.Y->cT.L0.X:=λ(Ax,t52,t53,t54,n5,Bu,RP,CF,CG,Bv,Nt) y=>((Ax,n5,Bu),y)
abbrev cT.D:=je×Int×Int×Bs×Int
def cT.st:cT.D->SA:=λ(t,inv,branch,keys,secret)=>([.d lS t,.d ti inv,.d ti branch,.d tU keys,.d tu secret],[])
abbrev cT.Y:=je×Int
abbrev cT.X:=je×Int
def cT.out:cT.X->aX:=λx=>⟨.cons (.d lS x.1) (.cons (.d ti x.2) (.nil)),[],[]⟩
def cT.add:cT.D->cT.Y->cT.X:=λ(t,inv,branch,keys,secret) y=>y
def cT.L0.az:cT.L0.D->Prop:=λ(i0,l,n,i,t,e,br,L,sc,id,r)=>l.length<=1000/\(∀x∈l,iy x)/\Sm id/\∃k:Nat,k<=l.length/\i=k/\n=l.length/\L=r.length/\r.length<=1000+k
def cT.L0.F:cT.L0.D->cT.L0.Y:=λ(i0,l,n,i,t,e,br,L,sc,id,r)=>((br,r++(l.drop i.toNat).map (λk=>jR k id),sc),r++(l.drop i.toNat).map (λk=>jR k id))
def cT.az:cT.D->Prop:=λ(t,i,br,ks,sc)=>u9 t/\(∀x∈ks,iy x)/\ks.length<=1000000000
def cT.F:cT.D->cT.Y:=λ(t,i,br,ks,sc)=>pO t i br ks sc
def cT.G:fD:=gr (P:=Tryz.prog) [aC.sg,jx.sg,db.sg,tid.sg,gh.sg,aq.sg]
def cT.L0.E:=cU.dp cT.L0.st cT.L0.az cT.L0.add cT.L0.F cT.L0.out
def cT.L0.call:cT.L0.D->Option cT.L0.X:=eI cT.L0.E cT.L0.st
def cT.an:fR:= {cZ:=[5],loops:=om [(7,{bO:=[1,5,10,13,14,52,53,54],sites:=[5,10,13,14,64],nR:=[⟨13,[.snd,.fst],64,89⟩]})],outs:=oh [(7,{bO:=[1,5,10,13],sites:=[5,10,13,64],E7:=[⟨13,[.snd,.fst],(.slice Ak)⟩]},{bO:=[10,11]})],jo:=pb [(7,cT.L0.E)],res:=[some lS,none]}
def cT.A:= @dm Tryz.prog cT.G cT.an 0 Tryz.f75 _ cT.st
abbrev cT.Ok:=dn @cT.A cT.az cT.add cT.F cT.out
def cT.L0.R:= @dr Tryz.prog cT.G cT.an 0 Tryz.f75 0 _ cT.L0.st
abbrev cT.L0.Ok:=gz Tryz.prog cT.G cT.an 0 Tryz.f75 0 cT.L0.st cT.L0.az cT.L0.add cT.L0.F cT.L0.out
theorem cT.L0.run:b8 cT.L0.call cT.L0.az cT.L0.add cT.L0.F:=gR (gJ [.d ti,.d tU,.d ti,.d ti,.d lS,.d (.pair ti .unit),.d ti,.n,.d (.pair tu .unit),.d tB,.d (.slice Ak)] λ_=>by kernel_rfl)
theorem cT.L0.aI:jl @cT.L0.R cT.L0.st cT.L0.az cT.L0.add cT.L0.F cT.L0.bY cT.L0.Ok:=js
theorem cT.L0.step{R:Type}(Ax:Int)(t52:Bs)(t53:Int)(t54:Int)(n5:je)(Bu:(Int×Unit))(RP:Int)(CF:Nat)(CG:(Int×Unit))(Bv:Bs)(Nt:(List Sg))(kn:AS->Option R)(kx:Exit->AS->Option R):cT.L0.R (Ax,t52,t53,t54,n5,Bu,RP,CF,CG,Bv,Nt) kn kx=
  aJ ((jM t54 t53)) (
   aJ (fB t54 (((List.length t52):Nat):Int)) (
   ah (gh.call ((nth tu t52 (Int.toNat t54)),Bv)) λx4=>
   aJ (decide (CF<=(List.length Nt))) (
   aJ (fq (CF+1) 16) (
   kn (cT.L0.st (Ax,t52,t53,(bV .i64 t54 (1:Int)),n5,Bu,RP,(CF+1),CG,Bv,((List.take CF Nt)++ [x4])))) none) none) none) (
   aJ (decide (0=0/\(0+CF)<=(List.length Nt))) (
   kx (cT.L0.bY ((Ax,n5,Bu),((RP,((cut Nt 0 CF),CG)),Nt))).1 (cT.L0.bY ((Ax,n5,Bu),((RP,((cut Nt 0 CF),CG)),Nt))).2) none):=by kernel_rfl
theorem cT.eq{R:Type}(t:je)(inv:Int)(branch:Int)(keys:Bs)(secret:Int)(k:aX->Option R):cT.A (t,inv,branch,keys,secret) k=
  ah (aC.call t) λBi=>
  aJ ((!Bi)) (
   k (cT.out ((([]:List kX),(([]:List kI),((0:Int),()))),(1:Int)))) (
   aJ ((jM inv (0:Int))) (
    k (cT.out ((([]:List kX),(([]:List kI),((0:Int),()))),(1:Int)))) (
    aJ ((qu inv (((List.length t.1):Nat):Int))) (
     k (cT.out ((([]:List kX),(([]:List kI),((0:Int),()))),(1:Int)))) (
     ah (jx.call (branch,(([]:List Sg),(secret,())))) λBD=>
     aJ ((!BD)) (
      k (cT.out ((([]:List kX),(([]:List kI),((0:Int),()))),(1:Int)))) (
      aJ ((sh (((List.length keys):Nat):Int) (12:Int))) (
       k (cT.out ((([]:List kX),(([]:List kI),((0:Int),()))),(1:Int)))) (
       ah (db.call keys) λDk=>
       aJ (Dk) (
        k (cT.out ((([]:List kX),(([]:List kI),((0:Int),()))),(1:Int)))) (
        ah (tid.call t) λKx=>
        ah (cT.L0.call (inv,keys,(((List.length keys):Nat):Int),(0:Int),t,((0:Int),()),branch,0,(secret,()),Kx,([]:List Sg))) λvp=>
        ah (aq.call vp.1.2.1) λF0=>
        aJ (fB vp.1.1 ((F0.1:Nat):Int)) (
        aJ (decide ((0+(Int.toNat vp.1.1)) < (List.length F0.2.2))) (
        aJ (decide ((((0+(Int.toNat vp.1.1))*36)+33)=((0+((Int.toNat vp.1.1)*36))+33))) (
        aJ (decide ((0+(Int.toNat vp.1.1)) < (List.length F0.2.2))) (
        aJ (decide (0=0/\(0+F0.1)<=(List.length (List.set F0.2.2 (0+(Int.toNat vp.1.1)) ((nth kW F0.2.2 (0+(Int.toNat vp.1.1))).1,(vp.2.1,(nth kW F0.2.2 (0+(Int.toNat vp.1.1))).2.2)))))) (
        k (cT.out (((cut (List.set F0.2.2 (0+(Int.toNat vp.1.1)) ((nth kW F0.2.2 (0+(Int.toNat vp.1.1))).1,(vp.2.1,(nth kW F0.2.2 (0+(Int.toNat vp.1.1))).2.2))) 0 F0.1),F0.2.1),(0:Int)))) none) none) none) none) none)))))):=by kernel_rfl
theorem cT.L0.ok:cT.L0.Ok:=by
 refine cT.L0.aI (λ(i0,l,n,i,t,e,br,L,sc,id,r)=>l.length - i.toNat) ?_
 rintro⟨i0,l,n,i,t,e,br,L,sc,id,r⟩ ⟨hlen,hu,hm,k,hk,rfl,rfl,rfl,hr⟩
 have hlen:l.length<=1000:=hlen
 have hk:k<=l.length:=hk
 have hr:r.length<=1000+k:=hr
 by_cases h:k < l.length
 ·left
  have n1:nth tu l k=l[k]:=dQ (t:=tu) h
  have hd:List.drop k l=l[k]::List.drop (k+1) l:=av h
  refine⟨(i0,l,l.length,((k+1:Nat):Int),t,e,br,r.length+1,sc,id,r++ [jR l[k] id]),⟨hlen,hu,hm,k+1,by omega,rfl,rfl,by rw[aj];rfl,by rw[aj];show r.length+1<=_;omega⟩,by simp only[aa];omega,?_,λkn kx=> ?_⟩
  ·simp only[cT.L0.add,cT.L0.F,aa,hd,cO,bR,fp]
  ·rw[cT.L0.step,bI (by omega),bF (by omega) (by omega),aa,n1,gh.run (d:=(l[k],id)) ⟨hu _ (List.getElem_mem h),hm⟩]
   simp only[ae,ab,gh.add,gh.F]
   rw[aM (aE _),gk (by omega) (by omega),N.pF (by omega),cQ]
   rfl
 ·right
  obtain rfl:k=l.length:=by omega
  intro R kn kx
  rw[cT.L0.step,bp (by omega),ai]
  simp only[cT.L0.add,cT.L0.F,aa,bB,jH,dg,bl,aE,and_self,decide_true,ae,jf]
theorem cT.ok:cT.Ok:=by
 rintro⟨⟨is,os,nt,u⟩,i,br,ks,sc⟩ ⟨hv,hu,hl⟩
 have hv:u9 (is,os,nt,u):=hv
 have hl:ks.length<=1000000000:=hl
 rw[cT.eq,aC.run (d:=(is,os,nt,u)) hv.1]
 simp only[ab,aC.add,aC.F,cT.add,cT.F,pO,sO]
 rcases kH (j9 (is,os,nt,u)) with kA | kA
 rotate_left
 ·simp only[kA];rfl
 obtain⟨⟨_,a2,a3,_⟩,b1,b2⟩:=pD kA
 have a2:is.length<=64:=a2
 simp only[kA,bZ,ai,cr]
 by_cases h1:i < 0
 ·rw[bI h1,ae,cq (by omega)];rfl
 rw[bp h1,ai]
 by_cases h2:i>=(is.length:Int)
 ·rw[la h2,ae,cq (by omega)];rfl
 rw[jg h2,ai,jx.run (d:=(br,([],(sc,())))) trivial]
 simp only[ab,jx.add,jx.F,uk]
 by_cases h3:0<=br/\br < 4
 ·rw[aM h3]
  by_cases h4:ks.length > 12
  ·rw[fE (by omega),cq (p:=0<=i/\i < (is.length:Int)/\0<=br/\br < 4/\ks.length<=12) (by omega)];rfl
  ·rw[dY (by omega),aM (p:=0<=i/\i < (is.length:Int)/\0<=br/\br < 4/\ks.length<=12) (by omega),db.run (d:=ks) ⟨λ_ _=>trivial,hl⟩]
   simp only[ab,db.add,db.F]
   rcases kH (ks.any xu) with hb | hb
   rotate_left
   ·simp only[hb]
    obtain⟨k,rfl⟩:∃k:Nat,i=k:=⟨i.toNat,by omega⟩
    have hk:k < is.length:=by omega
    simp only[show(([]:List Sg).length<=12)=True from eq_true (bm _),decide_true,l7,bZ,gm,ai,cr,if_true]
    rw[tid.run (d:=(is,os,nt,u)) hv]
    simp only[ab,tid.add,tid.F]
    rw[cT.L0.run (d:=((k:Int),ks,ks.length,0,(is,os,nt,u),(0,()),br,0,(sc,()),oJ (is,os,nt,u),[])) ⟨by show ks.length<=_;omega,hu,Dg,0,bm _,rfl,rfl,rfl,bm _⟩]
    simp only[ab,cT.L0.add,cT.L0.F,bH,aW,bt]
    rw[aq.run (d:=(is,os,nt,u)) kA]
    simp only[ab,aq.add,aq.F,aa,bl,dR,bF (show(0:Int)<=(k:Int) by omega) (show(k:Int) < (is.length:Int) by omega),ae,aM hk,decide_true,ej,aE,and_self]
    rw[jf (by rw[ej])]
   ·simp only[hb];rfl
 ·rw[cq h3,cq (p:=0<=i/\i < (is.length:Int)/\0<=br/\br < 4/\ks.length<=12) (by omega)];rfl
def cT.E:=Entry.dp [some lS,some ti,some ti,some tU,some tu] cT.st cT.az cT.add cT.F cT.out
def cT.call:cT.D->Option cT.X:=bX cT.E cT.st
theorem cT.run:b8 cT.call cT.az cT.add cT.F:=dv (du [.d lS,.d ti,.d ti,.d tU,.d tu] λ_=>by kernel_rfl)
def cT.sg:SG Tryz.prog:=⟨75,aP,cT.E,.fn 1 (by kernel_rfl) cT.ok (And.intro (.dp cT.L0.ok (by kernel_rfl)) trivial)⟩
abbrev yj:Ty:=(.pair lH (.pair ti .unit))
abbrev nA:=(kI×(Int×Unit))
abbrev Sd:Ty:=(.pair ir (.pair yj .unit))
abbrev Mi:=(iF×(nA×Unit))
abbrev rB:Ty:=(.pair (.slice Sd) (.pair (.slice ir) .unit))
abbrev nY:=((List Mi)×((List iF)×Unit))
abbrev kg.D:=Bs×Bs
def kg.st:kg.D->SA:=λ(a,b)=>([.d tB a,.d tB b],[])
abbrev kg.Y:=Int
abbrev kg.X:=Int
def kg.out:kg.X->aX:=λx=>⟨.d ti x,[],[]⟩
def kg.add:kg.D->kg.Y->kg.X:=λ(a,b) y=>y
def kg.az:kg.D->Prop:=λ_=>True
def kg.F:kg.D->kg.Y:=λ(a,b)=>Iv a b
def kg.G:fD:=gr (P:=Tryz.prog) [⟨133,aP,JD.E,JD.of (fn:=Tryz.f133) (by kernel_rfl) (by kernel_rfl) (by kernel_rfl) (by kernel_rfl) (by kernel_rfl)⟩]
def kg.an:fR:= {}
def kg.A:= @dm Tryz.prog kg.G kg.an 0 Tryz.f89 _ kg.st
abbrev kg.Ok:=dn @kg.A kg.az kg.add kg.F kg.out
theorem kg.eq{R:Type}(a:Bs)(b:Bs)(k:aX->Option R):kg.A (a,b) k=
 ah (JD.call (a,b)) λx1=>
 k (kg.out x1):=by kernel_rfl
theorem kg.ok:kg.Ok:=by
 rintro⟨a,b⟩ _
 rw[kg.eq,JD.run]
 rfl
def kg.E:=Entry.dp [some tB,some tB] kg.st kg.az kg.add kg.F kg.out
def kg.call:kg.D->Option kg.X:=bX kg.E kg.st
theorem kg.run:b8 kg.call kg.az kg.add kg.F:=dv (du [.d tB,.d tB] λ_=>by kernel_rfl)
def kg.sg:SG Tryz.prog:=⟨89,aP,kg.E,.fn 0 (by kernel_rfl) kg.ok trivial⟩
abbrev jN.D:=Int
def jN.st:jN.D->SA:=λx=>([.d ti x],[])
abbrev jN.Y:=Bool
abbrev jN.X:=Bool
def jN.out:jN.X->aX:=λx=>⟨.d .bool x,[],[]⟩
def jN.add:jN.D->jN.Y->jN.X:=λx y=>y
def jN.az:jN.D->Prop:=λ_=>True
def jN.F:jN.D->jN.Y:=λ_=>false
def jN.G:fD:=gr (P:=Tryz.prog) []
def jN.an:fR:= {}
def jN.A:= @dm Tryz.prog jN.G jN.an 0 Tryz.f132 _ jN.st
abbrev jN.Ok:=dn @jN.A jN.az jN.add jN.F jN.out
theorem jN.eq{R:Type}(x:Int)(k:aX->Option R):jN.A x k=
 k (jN.out (tc x x)):=by kernel_rfl
theorem jN.ok:jN.Ok:=by
 intro x _
 rw[jN.eq]
 simp only[jN.add,jN.F,gZ rfl]
def jN.E:=Entry.dp [some ti] jN.st jN.az jN.add jN.F jN.out
def jN.call:jN.D->Option jN.X:=bX jN.E jN.st
theorem jN.run:b8 jN.call jN.az jN.add jN.F:=dv (du [.d ti] λ_=>by kernel_rfl)
def jN.sg:SG Tryz.prog:=⟨132,aP,jN.E,.fn 0 (by kernel_rfl) jN.ok trivial⟩
def w7(x y:Int):Int:=if x < y then -1 else if x > y then 1 else 0
abbrev iQ.D:=Int×Int
def iQ.st:iQ.D->SA:=λ(x,yv)=>([.d ti x,.d ti yv],[])
abbrev iQ.Y:=Int
abbrev iQ.X:=Int
def iQ.out:iQ.X->aX:=λx=>⟨.d ti x,[],[]⟩
def iQ.add:iQ.D->iQ.Y->iQ.X:=λ(x,yv) y=>y
def iQ.az:iQ.D->Prop:=λ_=>True
def iQ.F:iQ.D->iQ.Y:=λ(x,y)=>w7 x y
def iQ.G:fD:=gr (P:=Tryz.prog) [jN.sg]
def iQ.an:fR:= {}
def iQ.A:= @dm Tryz.prog iQ.G iQ.an 0 Tryz.f88 _ iQ.st
abbrev iQ.Ok:=dn @iQ.A iQ.az iQ.add iQ.F iQ.out
theorem iQ.eq{R:Type}(x:Int)(yv:Int)(k:aX->Option R):iQ.A (x,yv) k=
  ah (jN.call x) λx1=>
  ah (jN.call yv) λx2=>
  aJ (x1) (
   aJ (x2) (
    k (iQ.out (0:Int))) (
    k (iQ.out (-1:Int)))) (
   aJ (x2) (
    k (iQ.out (1:Int))) (
    aJ ((jM x yv)) (
     k (iQ.out (-1:Int))) (
     aJ ((sh x yv)) (
      k (iQ.out (1:Int))) (
      k (iQ.out (0:Int)))))):=by kernel_rfl
theorem iQ.ok:iQ.Ok:=by
 rintro⟨x,y⟩ _
 rw[iQ.eq,jN.run (d:=x) trivial]
 simp only[ab,jN.add,jN.F]
 rw[jN.run (d:=y) trivial]
 simp only[ab,jN.add,jN.F,ai,iQ.add,iQ.F,w7]
 by_cases h:x < y
 ·rw[bI h,ae,if_pos h]
 ·rw[bp h,ai,if_neg h]
  by_cases h2:x > y
  ·rw[fE h2,ae,if_pos h2]
  ·rw[dY h2,ai,if_neg h2]
def iQ.E:=Entry.dp [some ti,some ti] iQ.st iQ.az iQ.add iQ.F iQ.out
def iQ.call:iQ.D->Option iQ.X:=bX iQ.E iQ.st
theorem iQ.run:b8 iQ.call iQ.az iQ.add iQ.F:=dv (du [.d ti,.d ti] λ_=>by kernel_rfl)
def iQ.sg:SG Tryz.prog:=⟨88,aP,iQ.E,.fn 0 (by kernel_rfl) iQ.ok trivial⟩
abbrev iK.L0.D:=Int×(List Int)×Int×Int
def iK.L0.st:iK.L0.D->AS:=λ(zero,t6,t7,t8)=>⟨([.undef,.undef,.undef,.d ti zero,.undef,.undef,.d (.slice ti) t6,.d ti t7,.d ti t8]++bG 9 []),[],(List.replicate 18 [])⟩
abbrev iK.L0.Y0:=Int
abbrev iK.L0.X0:=Int
def iK.L0.bY:iK.L0.X0->Exit×AS:=λx=>(.ret,⟨([.undef,.undef,.d ti x]++bG 15 []),[],(List.replicate 18 [])⟩)
abbrev iK.L0.Y1:=Unit
abbrev iK.L0.X1:=Int
def iK.L0.ko:iK.L0.X1->Exit×AS:=λx=>(.exit 0,⟨([.undef,.undef,.undef,.d ti x]++bG 14 []),[],(List.replicate 18 [])⟩)
abbrev iK.L0.X:=(iK.L0.X0)⊕(iK.L0.X1)
abbrev iK.L0.Y:=(iK.L0.Y0)⊕(iK.L0.Y1)
def iK.L0.out:iK.L0.X->Out (Exit×AS):=λx=> .br x.isLeft (.get x.getLeft? λa=> .ok (iK.L0.bY a)) (.get x.getRight? λb=> .ok (iK.L0.ko b))
def iK.L0.add:iK.L0.D->iK.L0.Y->iK.L0.X:=λ(zero,t6,t7,t8) y=>match y with | .inl y=> .inl y | .inr z=> .inr (zero)
abbrev iK.D:=(List Int)
def iK.st:iK.D->SA:=λmS=>([.d (.slice ti) mS],[])
abbrev iK.Y:=Int
abbrev iK.X:=Int
def iK.out:iK.X->aX:=λx=>⟨.d ti x,[],[]⟩
def iK.add:iK.D->iK.Y->iK.X:=λmS y=>y
def NG:List Int->Int
 |[]=>0
 |x::l=>if x≠0 then x else NG l
def Qy:List Int->Int⊕Unit
 |[]=> .inr ()
 |x::l=>if x≠0 then .inl x else Qy l
theorem Qz:∀l:List Int,NG l=match Qy l with | .inl x=>x | .inr _=>0
 |[]=>rfl
 |x::l=>by
  simp only[NG,Qy]
  split
  ·rfl
  ·exact Qz l
def iK.L0.az:iK.L0.D->Prop:=λ(z,l,n,i)=>z=0/\l.length<=1000000000/\n=l.length/\∃k:Nat,k<=l.length/\i=k
def iK.L0.F:iK.L0.D->iK.L0.Y:=λ(z,l,n,i)=>Qy (l.drop i.toNat)
def iK.az:iK.D->Prop:=λl=>l.length<=1000000000
def iK.F:iK.D->iK.Y:=λl=>NG l
def iK.G:fD:=gr (P:=Tryz.prog) []
def iK.L0.E:=cU.dp iK.L0.st iK.L0.az iK.L0.add iK.L0.F iK.L0.out
def iK.L0.call:iK.L0.D->Option iK.L0.X:=eI iK.L0.E iK.L0.st
def iK.an:fR:= {loops:=om [(3,{bO:=[3,6,7,8]})],outs:=oh [(3,{bO:=[3]},{bO:=[2]})],jo:=pb [(3,iK.L0.E)]}
def iK.A:= @dm Tryz.prog iK.G iK.an 0 Tryz.f87 _ iK.st
abbrev iK.Ok:=dn @iK.A iK.az iK.add iK.F iK.out
def iK.L0.R:= @dr Tryz.prog iK.G iK.an 0 Tryz.f87 0 _ iK.L0.st
abbrev iK.L0.Ok:=gz Tryz.prog iK.G iK.an 0 Tryz.f87 0 iK.L0.st iK.L0.az iK.L0.add iK.L0.F iK.L0.out
theorem iK.L0.run:b8 iK.L0.call iK.L0.az iK.L0.add iK.L0.F:=gR (gJ [.d ti,.d (.slice ti),.d ti,.d ti] λ_=>by kernel_rfl)
theorem iK.L0.aI:rV @iK.L0.R iK.L0.st iK.L0.az iK.L0.add iK.L0.F iK.L0.out iK.L0.Ok:=sy
theorem iK.L0.step{R:Type}(zero:Int)(t6:(List Int))(t7:Int)(t8:Int)(kn:AS->Option R)(kx:Exit->AS->Option R):iK.L0.R (zero,t6,t7,t8) kn kx=
  aJ ((jM t8 t7)) (
   aJ (fB t8 (((List.length t6):Nat):Int)) (
   aJ ((tc (nth ti t6 (Int.toNat t8)) zero)) (
    kx (iK.L0.bY (nth ti t6 (Int.toNat t8))).1 (iK.L0.bY (nth ti t6 (Int.toNat t8))).2) (
    kn (iK.L0.st (zero,t6,t7,(bV .i64 t8 (1:Int)))))) none) (
   kx (iK.L0.ko zero).1 (iK.L0.ko zero).2):=by kernel_rfl
theorem iK.eq{R:Type}(mS:(List Int))(k:aX->Option R):iK.A mS k=
  ah (iK.L0.call ((0:Int),mS,(((List.length mS):Nat):Int),(0:Int))) λx1=>
  aJ (x1.isLeft) (
   ah (x1.getLeft?) λa2=>
   k (iK.out a2)) (
   ah (x1.getRight?) λb3=>
   k (iK.out b3)):=by kernel_rfl
theorem iK.L0.ok:iK.L0.Ok:=by
 refine iK.L0.aI (λ(z,l,n,i)=>l.length - i.toNat) ?_
 rintro⟨z,l,n,i⟩ ⟨rfl,hl,rfl,k,hk,rfl⟩
 by_cases h:k < l.length
 ·have hd:l.drop k=l[k]::l.drop (k+1):=av h
  have n1:nth ti l k=l[k]:=dQ (t:=ti) h
  by_cases h2:l[k]≠0
  ·right
   refine⟨iK.L0.bY l[k],?_,λkn kx=> ?_⟩
   rotate_left
   ·rw[iK.L0.step,bI (by omega),ae,bF (by omega) (by omega),ae,aa,n1,jE h2,ae]
   ·simp only[iK.L0.add,iK.L0.F,aa,hd,Qy,if_pos h2]
    rfl
  ·left
   refine⟨(0,l,(l.length:Int),((k+1:Nat):Int)),⟨rfl,hl,rfl,k+1,by omega,rfl⟩,by simp only[aa];omega,?_,λkn kx=> ?_⟩
   ·simp only[iK.L0.add,iK.L0.F,aa,hd,Qy,if_neg h2]
   ·rw[iK.L0.step,bI (by omega),ae,bF (by omega) (by omega),ae,aa,n1,gZ (by omega),ai,N.pF (by omega)]
 ·right
  obtain rfl:k=l.length:=by omega
  refine⟨iK.L0.ko 0,?_,λkn kx=> ?_⟩
  rotate_left
  ·rw[iK.L0.step,bp (by omega),ai]
  ·simp only[iK.L0.add,iK.L0.F,aa,bB,Qy]
   rfl
theorem iK.ok:iK.Ok:=by
 intro l hl
 rw[iK.eq,iK.L0.run (d:=(0,l,(l.length:Int),0)) ⟨rfl,hl,rfl,0,bm _,rfl⟩]
 simp only[ab,iK.L0.add,iK.L0.F,bH,aW,iK.add,iK.F]
 rw[Qz]
 cases Qy l <;> rfl
def iK.E:=Entry.dp [some (.slice ti)] iK.st iK.az iK.add iK.F iK.out
def iK.call:iK.D->Option iK.X:=bX iK.E iK.st
theorem iK.run:b8 iK.call iK.az iK.add iK.F:=dv (du [.d (.slice ti)] λ_=>by kernel_rfl)
def iK.sg:SG Tryz.prog:=⟨87,aP,iK.E,.fn 1 (by kernel_rfl) iK.ok (And.intro (.dp iK.L0.ok (by kernel_rfl)) trivial)⟩
theorem HG(k:Int)(m:List Int):Sn (jR k m):=by
 unfold jR
 split
 ·exact⟨(Ko _).u,(yl _ _).u⟩
 ·exact⟨⟨lp 0,by decide⟩,lp 0,by decide⟩
theorem GB:∀(l l':List kX) (b:List Int),l.map (·.1)=l'.map (·.1)->l.foldl Dr b=l'.foldl Dr b
 |[],[],_,_=>rfl
 |[],_::_,_,h=>by cases h
 |_::_,[],_,h=>by cases h
 |x::l,y::l',b,h=>by
  rw[cO,cO,gl]at h
  have e:Dr b x=Dr b y:=by unfold Dr;rw[h.1]
  rw[iv,iv,e,GB l l' _ h.2]
theorem LB{l l':List kX}(t:List kI×Int×Unit)(h:l.map (·.1)=l'.map (·.1)):we (l,t)=we (l',t):=by
 have hl:l.length=l'.length:=by have:=congrArg List.length h;simpa using this
 unfold we
 simp only[hl]
 rw[GB l l' _ h]
theorem GP:∀(l l':List kX) (m:List (iF×Bool)),l.map (·.1)=l'.map (·.1)->tE m l=true->(∀x∈l',uk x.2.1=true)->tE m l'=true
 |[],[],_,_,_,_=>rfl
 |[],_::_,_,h,_,_=>by cases h
 |_::_,[],_,h,_,_=>by cases h
 |x::l,y::l',m,h,hi,hw=>by
  rw[cO,cO,gl]at h
  rw[tE,ak,ak]at hi ⊢
  have hx:=hi.1.2
  unfold zI at hx
  rw[ak]at hx
  refine⟨⟨?_,?_⟩,?_⟩
  ·have:=hi.1.1
   unfold xi at this ⊢
   rw[<-h.1]
   exact this
  ·unfold zI
   rw[<-h.1,hx.1,hw y bh]
   rfl
  ·rw[<-h.1]
   exact GP l l' _ h.2 hi.2 λz hz=>hw z (bj _ hz)
theorem Og{l l':List kX}{t:List kI×Int×Unit}(h:l.map (·.1)=l'.map (·.1))(kA:j9 (l,t)=true)(hw:∀x∈l',uk x.2.1=true):j9 (l',t)=true:=by
 have hl:l.length=l'.length:=by have:=congrArg List.length h;simpa using this
 unfold j9 yc at kA ⊢
 rw[ak,ak]at kA ⊢
 simp only[hl]at kA
 exact⟨kA.1,GP l l' _ h kA.2.1 hw,kA.2.2⟩
theorem Ku{l l':List kX}{t:List kI×Int×Unit}(h:l.map (·.1)=l'.map (·.1))(h1:j9 (l,t)=true)(h2:j9 (l',t)=true):oJ (l',t)=oJ (l,t):=by
 unfold oJ
 rw[h1,h2,LB t h]
theorem Jh{l l':List kX}{t:List kI×Int×Unit}(h:l.map (·.1)=l'.map (·.1))(h1:j9 (l,t)=true)(h2:j9 (l',t)=true):gS (l',t)=gS (l,t):=by
 unfold gS
 rw[h1,h2]
 exact h.symm
theorem Np{l l':List kX}{t:List kI×Int×Unit}(h:l.map (·.1)=l'.map (·.1))(h1:j9 (l,t)=true)(h2:j9 (l',t)=true):gV (l',t)=gV (l,t):=by
 unfold gV
 rw[h1,h2,Ku h h1 h2]
def uW(t:je)(k:Nat)(w:Du):je:=(t.1.set k ((nth kW t.1 k).1,w,()),t.2)
theorem y7(l:List kX)(k:Nat)(w:Du)(h:k < l.length):l.map (·.1)=(l.set k ((nth kW l k).1,w,())).map (·.1):=by
 have n1:nth kW l k=l[k]:=dQ (t:=kW) h
 rw[n1,List.map_set]
 have e:(l[k].1:iF)=(l.map (·.1))[k]'(by rw[cM];exact h):=by rw[List.getElem_map]
 show _=(l.map (·.1)).set k l[k].1
 rw[e,gu]
theorem HF{l:List kX}{k:Nat}{w:Du}{x:kX}(h:k < l.length)(hx:x∈l.set k ((nth kW l k).1,w,())):x∈l\/(x.1=l[k].1/\x.2.1=w):=by
 have n1:nth kW l k=l[k]:=dQ (t:=kW) h
 rw[n1]at hx
 rcases List.mem_or_eq_of_mem_set hx with h1 | h1
 ·exact .inl h1
 ·exact .inr ⟨by rw[h1],by rw[h1]⟩
theorem y8{t:je}{k:Nat}{w:Du}(h:k < t.1.length)(kA:j9 t=true)(hw:uk w=true):j9 (uW t k w)=true:=by
 obtain⟨_,b1,_⟩:=pD kA
 refine Og (l:=t.1) (y7 t.1 k w h) kA λx hx=> ?_
 rcases HF h hx with h1 | h1
 ·have:=ub _ _ b1 x h1
  unfold zI at this
  rw[ak]at this
  exact this.2
 ·rw[h1.2];exact hw
theorem N5{t:je}{k:Nat}{w:Du}(h:k < t.1.length)(hv:u9 t)(hu:KB w)(hl:w.2.1.length<=9223372036854775807):u9 (uW t k w):=by
 refine⟨⟨hv.1.1,by show(t.1.set k _).length<=_;rw[ej];exact hv.1.2.1,hv.1.2.2⟩,λx hx=> ?_,hv.2.2⟩
 rcases HF h hx with h1 | h1
 ·exact hv.2.1 x h1
 ·refine⟨?_,by rw[h1.2];exact hu,by rw[h1.2];exact hl⟩
  rw[h1.1]
  exact(hv.2.1 _ (List.getElem_mem h)).1
theorem FL{t:je}{k:Nat}{w:Du}(h:k < t.1.length)(kA:j9 t=true)(hw:uk w=true):oJ (uW t k w)=oJ t/\gS (uW t k w)=gS t/\gV (uW t k w)=gV t:=
 ⟨Ku (l:=t.1) (y7 t.1 k w h) kA (y8 h kA hw),Jh (l:=t.1) (y7 t.1 k w h) kA (y8 h kA hw),Np (l:=t.1) (y7 t.1 k w h) kA (y8 h kA hw)⟩
theorem C0(t:je)(k:Nat)(w:Du):(uW t k w).1.length=t.1.length:=ej
def wm(t:je)(br:Int)(ks:List Int)(sc:Int):Du:=(br,ks.map (λk=>jR k (oJ t)),sc,())
theorem y9(t:je)(i br:Int)(ks:List Int)(sc:Int):pO t i br ks sc=if sO t i br ks then(uW t i.toNat (wm t br ks sc),0) else(([],[],0,()),1):=rfl
theorem C1{t:je}{i br:Int}{ks:List Int}(h:sO t i br ks=true):j9 t=true/\(0<=i/\i < t.1.length/\0<=br/\br < 4/\ks.length<=12)/\∀k∈ks,k < 2305843009213688669/\k≠0:=by
 unfold sO at h
 simp only[ak,decide_eq_true_eq,dI]at h
 refine⟨h.1,h.2.1,λk hk=> ?_⟩
 have:=h.2.2
 rw[jr]at this
 have:=this k hk
 unfold xu at this
 simpa using this
theorem PL{t:je}{i br:Int}{ks:List Int}(sc:Int)(h:sO t i br ks=true):uk (wm t br ks sc)=true:=by
 have e:=(C1 h).2.1
 unfold uk wm
 rw[aM ⟨e.2.2.1,e.2.2.2.1⟩,aM (by rw[cM];exact e.2.2.2.2)]
 rfl
theorem R6(t:je)(br:Int)(ks:List Int){sc:Int}(h:iy sc):KB (wm t br ks sc):=⟨λs hs=>by
  obtain⟨k,_,rfl⟩:=eD.1 (show s∈ks.map λk=>jR k (oJ t) from hs)
  exact HG k _,h⟩
theorem C2{t:je}{i br sc:Int}{ks:List Int}(hv:u9 t)(h:sO t i br ks=true)(hs:iy sc):
  j9 (uW t i.toNat (wm t br ks sc))=true/\u9 (uW t i.toNat (wm t br ks sc))/\oJ (uW t i.toNat (wm t br ks sc))=oJ t/\gS (uW t i.toNat (wm t br ks sc))=gS t/\gV (uW t i.toNat (wm t br ks sc))=gV t:=by
 obtain⟨kA,e,_⟩:=C1 h
 have hk:i.toNat < t.1.length:=by omega
 have hw:=PL sc h
 exact⟨y8 hk kA hw,N5 hk hv (R6 t br ks hs) (by show(ks.map _).length<=_;rw[cM];omega),FL hk kA hw⟩
theorem uz(k:Int):iy (fy k):=(EB _ _).u
def mT:List Int:=[152,45,158,62,185,150,245,89,230,51,244,209,148,222,243,118,29,144,159,90,59,100,125,26,133,31,234,214,124,50,201,209]
theorem s3:jR 3 mT=(2066670005889522986,1913675330412042729,()):=by decide+kernel
theorem u0:iy 0:=⟨lp 0,by decide⟩
theorem UE:zG 0=true:=rfl
theorem ON(ks:List Int)(a d:Int)(h:ks.length<=12):rG (ks,a,d,0,())=(ks.all oM && (zG a && zG d)):=by
 have e:rG (ks,a,d,0,())=(decide (ks.length<=12) && (ks.all oM && (zG a && (zG d && true)))):=rfl
 rw[e,aM h,cr,ln]
theorem Nl(ks:List Int)(h:ks.length<=12):lj (sX ks)=ks.all oM:=by
 have e:lj (sX ks)=((rG (ks,0,0,0,()) && true) && true):=rfl
 rw[e,ON _ _ _ h,UE,ln,ln,ln,ln]
def NF(b:ov)(sg:List Sg)(s:Int)(m:List Int)(height age:Int):Int:=
 if height < b.2.1\/age < b.2.2.1 then 11
 else if b.2.2.2.1≠0/\fy s≠b.2.2.2.1 then 23
 else if sg.length≠b.1.length then 7
 else if rN m b.1 sg then 0 else 7
theorem J9{l:Lk}{i:Nat}{b:ov}(kA:lj l=true)(hi:i < l.1.length)(hb:l.1[i]=b)(sg:List Sg)(s:Int)(m:List Int)(h a:Int):tl l ((i:Int),sg,s,()) m h a=NF b sg s m h a:=by
 have n1:nth (.pair (.slice (.int .u64)) (.pair (.int .i64) (.pair (.int .i64) (.pair (.int .u64) .unit)))) l.1 i=l.1[i]:=dQ (t:=(.pair (.slice (.int .u64)) (.pair (.int .i64) (.pair (.int .i64) (.pair (.int .u64) .unit))))) hi
 unfold tl
 rw[if_neg (by
  intro hh
  rcases hh with hh | hh | hh
  ·rw[kA]at hh;cases hh
  ·have hh:(i:Int) < 0:=hh
   omega
  ·have hh:(i:Int)>=l.1.length:=hh
   omega)]
 show(if h < (nth (.pair (.slice (.int .u64)) (.pair (.int .i64) (.pair (.int .i64) (.pair (.int .u64) .unit)))) l.1 i).2.1\/a < (nth (.pair (.slice (.int .u64)) (.pair (.int .i64) (.pair (.int .i64) (.pair (.int .u64) .unit)))) l.1 i).2.2.1 then 11 else if(nth (.pair (.slice (.int .u64)) (.pair (.int .i64) (.pair (.int .i64) (.pair (.int .u64) .unit)))) l.1 i).2.2.2.1≠0/\fy s≠(nth (.pair (.slice (.int .u64)) (.pair (.int .i64) (.pair (.int .i64) (.pair (.int .u64) .unit)))) l.1 i).2.2.2.1 then 23 else if sg.length≠(nth (.pair (.slice (.int .u64)) (.pair (.int .i64) (.pair (.int .i64) (.pair (.int .u64) .unit)))) l.1 i).1.length then 7 else if rN m (nth (.pair (.slice (.int .u64)) (.pair (.int .i64) (.pair (.int .i64) (.pair (.int .u64) .unit)))) l.1 i).1 sg then 0 else 7)=_
 rw[n1,hb]
 rfl
theorem Dj(m:List Int):∀ks:List Int,(∀k∈ks,0 < k/\k < 2305843009213688669)->rN m (ks.map fy) (ks.map λk=>jR k m)=true
 |[],_=>rfl
 |k::ks,h=>by
  have hk:=h k bh
  show(sA (fy k) m 1 (jR k m) && rN m (ks.map fy) (ks.map λk=>jR k m))=true
  rw[PM k m hk.1 hk.2,Dj m ks λx hx=>h x (bj _ hx)]
  rfl
theorem yO(ks:List Int)(hk:∀k∈ks,0 < k/\k < 2305843009213688669)(af dl sc s:Int)(m:List Int)(h a:Int)(hs:sc=0\/fy s=sc):
  NF (ks.map fy,af,dl,sc,()) (ks.map λk=>jR k m) s m h a=if h < af\/a < dl then 11 else 0:=by
 have e:NF (ks.map fy,af,dl,sc,()) (ks.map λk=>jR k m) s m h a=if h < af\/a < dl then 11 else if sc≠0/\fy s≠sc then 23 else if(ks.map λk=>jR k m).length≠(ks.map fy).length then 7 else if rN m (ks.map fy) (ks.map λk=>jR k m) then 0 else 7:=rfl
 rw[e,Dj m ks hk,if_neg (c:=sc≠0/\fy s≠sc) (by rintro⟨h1,h2⟩;exact hs.elim h1 h2),if_neg (c:=(ks.map λk=>jR k m).length≠(ks.map fy).length) (by rw[cM,cM];exact λx=>x rfl)]
 rfl
theorem T8{k:Int}(h:0 < k/\k < 2305843009213688669):∀x∈ [k],0 < x/\x < 2305843009213688669:=λx hx=>by rw[aU]at hx;subst hx;exact h
theorem T9{k j:Int}(h:0 < k/\k < 2305843009213688669)(hj:0 < j/\j < 2305843009213688669):∀x∈ [k,j],0 < x/\x < 2305843009213688669:=λx hx=>by
 rcases cE.1 hx with rfl | hx
 ·exact h
 ·rw[aU]at hx;subst hx;exact hj
abbrev bD.L0.D:=Int×Int×Int
def bD.L0.st:bD.L0.D->AS:=λ(uu,ow,outv)=>⟨([.d tu uu,.d tu ow,.undef,.undef,.undef,.d tu outv]++bG 16 []),[],(List.replicate 22 [])⟩
abbrev bD.L0.Y0:=Int
abbrev bD.L0.X0:=Int
def bD.L0.bY:bD.L0.X0->Exit×AS:=λx=>(.exit 0,⟨(bG 5 ([.d tu x]++bG 16 [])),[],(List.replicate 22 [])⟩)
abbrev bD.L0.X:=bD.L0.X0
abbrev bD.L0.Y:=bD.L0.Y0
def bD.L0.out:bD.L0.X->Out (Exit×AS):=λx=> .ok (bD.L0.bY x)
def bD.L0.add:bD.L0.D->bD.L0.Y->bD.L0.X:=λ(uu,ow,outv) y=>y
abbrev bD.D:=Int×Int
def bD.st:bD.D->SA:=λ(a,b)=>([.d tu a,.d tu b],[])
abbrev bD.Y:=Int
abbrev bD.X:=Int
def bD.out:bD.X->aX:=λx=>⟨.d tu x,[],[]⟩
def bD.add:bD.D->bD.Y->bD.X:=λ(a,b) y=>y
def bD.L0.az:bD.L0.D->Prop:=λ(a,b,o)=>Pn a/\iy b/\Pn o
def bD.L0.F:bD.L0.D->bD.L0.Y:=λ(a,b,o)=>(o+a*b)%4611686018427377339
def bD.az:bD.D->Prop:=λ(a,b)=>Pn a/\iy b
def bD.F:bD.D->bD.Y:=λ(a,b)=>mz a b
def bD.G:fD:=gr (P:=Tryz.prog) []
def bD.L0.E:=cU.dp bD.L0.st bD.L0.az bD.L0.add bD.L0.F bD.L0.out
def bD.L0.call:bD.L0.D->Option bD.L0.X:=eI bD.L0.E bD.L0.st
def bD.an:fR:= {loops:=om [(2,{bO:=[0,1,5]})],outs:=oh [(2,{bO:=[5]},{bO:=[4]})],jo:=pb [(2,bD.L0.E)]}
def bD.A:= @dm Tryz.prog bD.G bD.an 0 Tryz.f181 _ bD.st
abbrev bD.Ok:=dn @bD.A bD.az bD.add bD.F bD.out
def bD.L0.R:= @dr Tryz.prog bD.G bD.an 0 Tryz.f181 0 _ bD.L0.st
abbrev bD.L0.Ok:=gz Tryz.prog bD.G bD.an 0 Tryz.f181 0 bD.L0.st bD.L0.az bD.L0.add bD.L0.F bD.L0.out
theorem bD.L0.run:b8 bD.L0.call bD.L0.az bD.L0.add bD.L0.F:=gR (gJ [.d tu,.d tu,.d tu] λ_=>by kernel_rfl)
theorem bD.L0.aI:jl @bD.L0.R bD.L0.st bD.L0.az bD.L0.add bD.L0.F bD.L0.bY bD.L0.Ok:=js
theorem bD.L0.step{R:Type}(uu:Int)(ow:Int)(outv:Int)(kn:AS->Option R)(kx:Exit->AS->Option R):bD.L0.R (uu,ow,outv) kn kx=
  aJ ((sh ow (0:Int))) (
   aJ ((mV (iN ow (2:Int)) (1:Int))) (
    kn (bD.L0.st ((iN (bV .u64 uu uu) (4611686018427377339:Int)),(qs .u64 ow (2:Int)),(iN (bV .u64 outv uu) (4611686018427377339:Int))))) (
    kn (bD.L0.st ((iN (bV .u64 uu uu) (4611686018427377339:Int)),(qs .u64 ow (2:Int)),outv)))) (
   kx (bD.L0.bY outv).1 (bD.L0.bY outv).2):=by kernel_rfl
theorem bD.eq{R:Type}(a:Int)(b:Int)(k:aX->Option R):bD.A (a,b) k=
 ah (bD.L0.call (a,b,(0:Int))) λx1=>
 k (bD.out x1):=by kernel_rfl
theorem K6(o a b:Int)(m:Int):(o+a*b)%m=((if b%2=1 then(o+a)%m else o)+(a+a)%m*(b / 2))%m:=by
 have e:b=2*(b / 2)+b%2:=by omega
 have hb:b%2=0\/b%2=1:=by omega
 generalize b / 2=q at*
 have l1:∀x y:Int,(x%m+(a+a)%m*y)%m=(x+(a+a)*y)%m:=λx y=>by
  rw[mD,iV _ (mF m),iR,iV _ (mF m),<-iR,<-mD]
 have l2:∀x y:Int,(x+(a+a)%m*y)%m=(x+(a+a)*y)%m:=λx y=>by
  rw[mD,iR,iV _ (mF m),<-iR,<-mD]
 rcases hb with h | h
 ·rw[if_neg (by omega),l2]
  rw[h]at e
  rw[e,mE,Int.add_mul,<-Int.mul_assoc,Int.mul_comm a 2,Int.two_mul,Int.add_mul]
 ·rw[if_pos h,l1]
  rw[h]at e
  rw[e,Int.mul_add,Int.mul_one,<-Int.mul_assoc,Int.mul_comm a 2,Int.two_mul]
  congr 1
  omega
theorem Qf{n:Int}(h:iy n):qs .u64 n 2=n / 2:=Ft h.1 (by omega) h.2
theorem bD.L0.ok:bD.L0.Ok:=by
 refine bD.L0.aI (λ(a,b,o)=>b.toNat) ?_
 rintro⟨a,b,o⟩ ⟨ha,hb,ho⟩
 have ha:Pn a:=ha
 have hb:iy b:=hb
 have ho:Pn o:=ho
 obtain⟨a0,a1⟩:=ha
 obtain⟨b0,b1⟩:=hb
 obtain⟨o0,o1⟩:=ho
 by_cases h:0 < b
 ·left
  have e1:iN (bV .u64 a a) 4611686018427377339=(a+a)%4611686018427377339:=by
   have:bV .u64 a a=a+a:=by rw[nv];omega
   rw[this,lh (by omega)]
  have e2:iN (bV .u64 o a) 4611686018427377339=(o+a)%4611686018427377339:=by
   have:bV .u64 o a=o+a:=by rw[nv];omega
   rw[this,lh (by omega)]
  refine⟨((a+a)%4611686018427377339,b / 2,if b%2=1 then(o+a)%4611686018427377339 else o),⟨⟨by omega,by omega⟩,⟨by omega,by omega⟩,?_⟩,by simp only[];omega,?_,λkn kx=> ?_⟩
  ·show Pn (if b%2=1 then(o+a)%4611686018427377339 else o)
   split
   ·exact⟨by omega,by omega⟩
   ·exact⟨o0,o1⟩
  ·exact congrArg _ (K6 o a b 4611686018427377339).symm
  ·rw[bD.L0.step,fE h,e1,e2,Qf ⟨b0,b1⟩,lh b0]
   by_cases h1:b%2=1
   ·rw[fA h1,if_pos h1];rfl
   ·rw[fJ h1,if_neg h1];rfl
 ·right
  intro R kn kx
  obtain rfl:b=0:=by omega
  rw[bD.L0.step,dY (by omega)]
  simp only[ai,bD.L0.add,bD.L0.F]
  rw[show(o+a*0)%4611686018427377339=o by omega]
theorem bD.ok:bD.Ok:=by
 rintro⟨a,b⟩ ⟨ha,hb⟩
 rw[bD.eq,bD.L0.run (d:=(a,b,0)) ⟨ha,hb,by omega,by omega⟩]
 simp only[ab,bD.L0.add,bD.L0.F,pT]
 rfl
def bD.E:=Entry.dp [some tu,some tu] bD.st bD.az bD.add bD.F bD.out
def bD.call:bD.D->Option bD.X:=bX bD.E bD.st
theorem bD.run:b8 bD.call bD.az bD.add bD.F:=dv (du [.d tu,.d tu] λ_=>by kernel_rfl)
def bD.sg:SG Tryz.prog:=⟨181,aP,bD.E,.fn 1 (by kernel_rfl) bD.ok (And.intro (.dp bD.L0.ok (by kernel_rfl)) trivial)⟩
abbrev bC.L0.D:=Int×Int×Int
def bC.L0.st:bC.L0.D->AS:=λ(uu,vn,outv)=>⟨([.d tu uu,.d tu vn,.undef,.undef,.undef,.d tu outv]++bG 14 []),[],(List.replicate 20 [])⟩
abbrev bC.L0.Y0:=Int
abbrev bC.L0.X0:=Int
def bC.L0.bY:bC.L0.X0->Exit×AS:=λx=>(.exit 0,⟨(bG 5 ([.d tu x]++bG 14 [])),[],(List.replicate 20 [])⟩)
abbrev bC.L0.X:=bC.L0.X0
abbrev bC.L0.Y:=bC.L0.Y0
def bC.L0.out:bC.L0.X->Out (Exit×AS):=λx=> .ok (bC.L0.bY x)
def bC.L0.add:bC.L0.D->bC.L0.Y->bC.L0.X:=λ(uu,vn,outv) y=>y
abbrev bC.D:=Int×Int
def bC.st:bC.D->SA:=λ(a,n)=>([.d tu a,.d tu n],[])
abbrev bC.Y:=Int
abbrev bC.X:=Int
def bC.out:bC.X->aX:=λx=>⟨.d tu x,[],[]⟩
def bC.add:bC.D->bC.Y->bC.X:=λ(a,n) y=>y
def bC.L0.az:bC.L0.D->Prop:=λ(a,n,o)=>Pn a/\iy n/\Pn o
def bC.L0.F:bC.L0.D->bC.L0.Y:=λ(a,n,o)=>F8 64 a n.toNat o
def bC.az:bC.D->Prop:=λ(a,n)=>Pn a/\iy n
def bC.F:bC.D->bC.Y:=λ(a,n)=>pw a n.toNat
def bC.G:fD:=gr (P:=Tryz.prog) [bD.sg]
def bC.L0.E:=cU.dp bC.L0.st bC.L0.az bC.L0.add bC.L0.F bC.L0.out
def bC.L0.call:bC.L0.D->Option bC.L0.X:=eI bC.L0.E bC.L0.st
def bC.an:fR:= {loops:=om [(2,{bO:=[0,1,5]})],outs:=oh [(2,{bO:=[5]},{bO:=[4]})],jo:=pb [(2,bC.L0.E)]}
def bC.A:= @dm Tryz.prog bC.G bC.an 0 Tryz.f156 _ bC.st
abbrev bC.Ok:=dn @bC.A bC.az bC.add bC.F bC.out
def bC.L0.R:= @dr Tryz.prog bC.G bC.an 0 Tryz.f156 0 _ bC.L0.st
abbrev bC.L0.Ok:=gz Tryz.prog bC.G bC.an 0 Tryz.f156 0 bC.L0.st bC.L0.az bC.L0.add bC.L0.F bC.L0.out
theorem bC.L0.run:b8 bC.L0.call bC.L0.az bC.L0.add bC.L0.F:=gR (gJ [.d tu,.d tu,.d tu] λ_=>by kernel_rfl)
theorem bC.L0.aI:jl @bC.L0.R bC.L0.st bC.L0.az bC.L0.add bC.L0.F bC.L0.bY bC.L0.Ok:=js
theorem bC.L0.step{R:Type}(uu:Int)(vn:Int)(outv:Int)(kn:AS->Option R)(kx:Exit->AS->Option R):bC.L0.R (uu,vn,outv) kn kx=
  aJ ((sh vn (0:Int))) (
   aJ ((mV (iN vn (2:Int)) (1:Int))) (
    ah (bD.call (outv,uu)) λx1=>
    ah (bD.call (uu,uu)) λx2=>
    kn (bC.L0.st (x2,(qs .u64 vn (2:Int)),x1))) (
    ah (bD.call (uu,uu)) λx3=>
    kn (bC.L0.st (x3,(qs .u64 vn (2:Int)),outv)))) (
   kx (bC.L0.bY outv).1 (bC.L0.bY outv).2):=by kernel_rfl
theorem bC.eq{R:Type}(a:Int)(n:Int)(k:aX->Option R):bC.A (a,n) k=
 ah (bC.L0.call (a,n,(1:Int))) λx4=>
 k (bC.out x4):=by kernel_rfl
theorem bC.L0.ok:bC.L0.Ok:=by
 refine bC.L0.aI (λ(a,n,o)=>n.toNat) ?_
 rintro⟨a,n,o⟩ ⟨ha,hn,ho⟩
 have ha:Pn a:=ha
 have hn:iy n:=hn
 have ho:Pn o:=ho
 have n0:=hn.1
 have n1:=hn.2
 by_cases h:0 < n
 ·left
  have e:bC.L0.F (a,n,o)=bC.L0.F (mz a a,n / 2,if n%2=1 then mz o a else o):=by
   show F8 64 a n.toNat o=F8 64 (mz a a) (n / 2).toNat _
   rw[CR 64 65 a n.toNat o (by omega) (by omega)]
   have t1:(n / 2).toNat=n.toNat / 2:=by omega
   have t2:(n%2=1)=(n.toNat%2=1):=by apply propext;omega
   rw[t1]
   simp only[t2]
   show(if n.toNat=0 then o else _)=_
   rw[if_neg (by omega)]
  refine⟨(mz a a,n / 2,if n%2=1 then mz o a else o),⟨qd a a,⟨by omega,by omega⟩,?_⟩,by show(n / 2).toNat < n.toNat;omega,?_,λkn kx=> ?_⟩
  ·show Pn (if n%2=1 then mz o a else o)
   split
   ·exact qd _ _
   ·exact ho
  ·exact congrArg _ e.symm
  ·rw[bC.L0.step,fE h,Qf hn,lh n0,bD.run (d:=(o,a)) ⟨ho,ha.u⟩,bD.run (d:=(a,a)) ⟨ha,ha.u⟩]
   by_cases h1:n%2=1
   ·rw[fA h1,if_pos h1];rfl
   ·rw[fJ h1,if_neg h1];rfl
 ·right
  intro R kn kx
  obtain rfl:n=0:=by omega
  rw[bC.L0.step,dY (by omega)]
  simp only[ai,bC.L0.add,bC.L0.F]
  rw[show F8 64 a (Int.toNat 0) o=o from sL _ _ _]
theorem bC.ok:bC.Ok:=by
 rintro⟨a,n⟩ ⟨ha,hn⟩
 rw[bC.eq,bC.L0.run (d:=(a,n,1)) ⟨ha,hn,by omega,by omega⟩]
 rfl
def bC.E:=Entry.dp [some tu,some tu] bC.st bC.az bC.add bC.F bC.out
def bC.call:bC.D->Option bC.X:=bX bC.E bC.st
theorem bC.run:b8 bC.call bC.az bC.add bC.F:=dv (du [.d tu,.d tu] λ_=>by kernel_rfl)
def bC.sg:SG Tryz.prog:=⟨156,aP,bC.E,.fn 1 (by kernel_rfl) bC.ok (And.intro (.dp bC.L0.ok (by kernel_rfl)) trivial)⟩
abbrev dw.D:=Int
def dw.st:dw.D->SA:=λp=>([.d tu p],[])
abbrev dw.Y:=Bool
abbrev dw.X:=Bool
def dw.out:dw.X->aX:=λx=>⟨.d .bool x,[],[]⟩
def dw.add:dw.D->dw.Y->dw.X:=λp y=>y
def dw.az:dw.D->Prop:=λp=>iy p
def dw.F:dw.D->dw.Y:=λp=>oM p
def dw.G:fD:=gr (P:=Tryz.prog) [bC.sg]
def dw.an:fR:= {}
def dw.A:= @dm Tryz.prog dw.G dw.an 0 Tryz.f119 _ dw.st
abbrev dw.Ok:=dn @dw.A dw.az dw.add dw.F dw.out
theorem dw.eq{R:Type}(p:Int)(k:aX->Option R):dw.A p k=
  aJ ((qu p (1:Int))) (
   aJ ((jM p (4611686018427377339:Int))) (
    ah (bC.call (p,(2305843009213688669:Int))) λx1=>
    k (dw.out (mV x1 (1:Int)))) (
    k (dw.out false))) (
   k (dw.out false)):=by kernel_rfl
theorem dw.ok:dw.Ok:=by
 intro(p:Int) hp
 have hp:iy p:=hp
 rw[dw.eq]
 simp only[dw.add,dw.F,oM]
 by_cases h:0 < p
 ·rw[la (by omega),ae]
  by_cases h2:p < 4611686018427377339
  ·rw[bI h2,ae,aM ⟨h,h2⟩,cr,bC.run (d:=(p,2305843009213688669)) ⟨⟨by omega,h2⟩,by constructor <;> decide⟩]
   rfl
  ·rw[bp h2,ai,cq (λx=>h2 x.2),fN]
 ·rw[jg (by omega),ai,cq (λx=>h x.1),fN]
def dw.E:=Entry.dp [some tu] dw.st dw.az dw.add dw.F dw.out
def dw.call:dw.D->Option dw.X:=bX dw.E dw.st
theorem dw.run:b8 dw.call dw.az dw.add dw.F:=dv (du [.d tu] λ_=>by kernel_rfl)
def dw.sg:SG Tryz.prog:=⟨119,aP,dw.E,.fn 0 (by kernel_rfl) dw.ok trivial⟩
abbrev dS.D:=Int
def dS.st:dS.D->SA:=λp=>([.d tu p],[])
abbrev dS.Y:=Int
abbrev dS.X:=Int
def dS.out:dS.X->aX:=λx=>⟨.d tu x,[],[]⟩
def dS.add:dS.D->dS.Y->dS.X:=λp y=>y
def dS.az:dS.D->Prop:=λp=>iy p
def dS.F:dS.D->dS.Y:=λp=>tk p
def dS.G:fD:=gr (P:=Tryz.prog) [dw.sg]
def dS.an:fR:= {}
def dS.A:= @dm Tryz.prog dS.G dS.an 0 Tryz.f157 _ dS.st
abbrev dS.Ok:=dn @dS.A dS.az dS.add dS.F dS.out
theorem dS.eq{R:Type}(p:Int)(k:aX->Option R):dS.A p k=
  ah (dw.call p) λx1=>
  aJ (x1) (
   k (dS.out p)) (
   k (dS.out (1:Int))):=by kernel_rfl
theorem dS.ok:dS.Ok:=by
 intro p hp
 rw[dS.eq,dw.run (d:=p) hp]
 simp only[ab,dw.add,dw.F,dS.add,dS.F,tk]
 cases oM p <;> rfl
def dS.E:=Entry.dp [some tu] dS.st dS.az dS.add dS.F dS.out
def dS.call:dS.D->Option dS.X:=bX dS.E dS.st
theorem dS.run:b8 dS.call dS.az dS.add dS.F:=dv (du [.d tu] λ_=>by kernel_rfl)
def dS.sg:SG Tryz.prog:=⟨157,aP,dS.E,.fn 0 (by kernel_rfl) dS.ok trivial⟩
abbrev eG.D:=Int×Int
def eG.st:eG.D->SA:=λ(p,kv)=>([.d tu p,.d tu kv],[])
abbrev eG.Y:=Int
abbrev eG.X:=Int
def eG.out:eG.X->aX:=λx=>⟨.d tu x,[],[]⟩
def eG.add:eG.D->eG.Y->eG.X:=λ(p,kv) y=>y
def eG.az:eG.D->Prop:=λ(p,k)=>iy p/\iy k
def eG.F:eG.D->eG.Y:=λ(p,k)=>oH p k
def eG.G:fD:=gr (P:=Tryz.prog) [dS.sg,bC.sg]
def eG.an:fR:= {}
def eG.A:= @dm Tryz.prog eG.G eG.an 0 Tryz.f115 _ eG.st
abbrev eG.Ok:=dn @eG.A eG.az eG.add eG.F eG.out
theorem eG.eq{R:Type}(p:Int)(kv:Int)(k:aX->Option R):eG.A (p,kv) k=
 ah (dS.call p) λx1=>
 ah (bC.call (x1,(iN kv (2305843009213688669:Int)))) λx2=>
 k (eG.out x2):=by kernel_rfl
theorem eG.ok:eG.Ok:=by
 rintro⟨p,k⟩ ⟨hp,hk⟩
 have hk:iy k:=hk
 have e:=lh (y:=2305843009213688669) hk.1
 have b:iy (k%2305843009213688669):=⟨by omega,by omega⟩
 rw[eG.eq,dS.run (d:=p) hp,e]
 simp only[ab,dS.add,dS.F]
 rw[bC.run (d:=(tk p,k%2305843009213688669)) ⟨Kt p,b⟩]
 rfl
def eG.E:=Entry.dp [some tu,some tu] eG.st eG.az eG.add eG.F eG.out
def eG.call:eG.D->Option eG.X:=bX eG.E eG.st
theorem eG.run:b8 eG.call eG.az eG.add eG.F:=dv (du [.d tu,.d tu] λ_=>by kernel_rfl)
def eG.sg:SG Tryz.prog:=⟨115,aP,eG.E,.fn 0 (by kernel_rfl) eG.ok trivial⟩
abbrev ei.D:=Int
def ei.st:ei.D->SA:=λkv=>([.d tu kv],[])
abbrev ei.Y:=Int
abbrev ei.X:=Int
def ei.out:ei.X->aX:=λx=>⟨.d tu x,[],[]⟩
def ei.add:ei.D->ei.Y->ei.X:=λkv y=>y
def ei.az:ei.D->Prop:=λk=>iy k
def ei.F:ei.D->ei.Y:=λk=>fy k
def ei.G:fD:=gr (P:=Tryz.prog) [eG.sg]
def ei.an:fR:= {}
def ei.A:= @dm Tryz.prog ei.G ei.an 0 Tryz.f62 _ ei.st
abbrev ei.Ok:=dn @ei.A ei.az ei.add ei.F ei.out
theorem ei.eq{R:Type}(kv:Int)(k:aX->Option R):ei.A kv k=
 ah (eG.call ((4:Int),kv)) λx1=>
 k (ei.out x1):=by kernel_rfl
theorem ei.ok:ei.Ok:=by
 intro k hk
 rw[ei.eq,eG.run (d:=(4,k)) ⟨⟨by omega,by omega⟩,hk⟩]
 rfl
def ei.E:=Entry.dp [some tu] ei.st ei.az ei.add ei.F ei.out
def ei.call:ei.D->Option ei.X:=bX ei.E ei.st
theorem ei.run:b8 ei.call ei.az ei.add ei.F:=dv (du [.d tu] λ_=>by kernel_rfl)
def ei.sg:SG Tryz.prog:=⟨62,aP,ei.E,.fn 0 (by kernel_rfl) ei.ok trivial⟩
abbrev bU.L0.D:=Bs×Int×Int
def bU.L0.st:bU.L0.D->AS:=λ(sW,n,i)=>⟨([.undef,.gE tH sW,.undef,.d tu n,.d ti i]++bG 25 []),[],(List.replicate 30 [])⟩
abbrev bU.L0.Y0:=Int
abbrev bU.L0.X0:=Int
def bU.L0.bY:bU.L0.X0->Exit×AS:=λx=>(.exit 0,⟨([.undef,.undef,.undef,.d tu x]++bG 26 []),[],(List.replicate 30 [])⟩)
abbrev bU.L0.X:=bU.L0.X0
abbrev bU.L0.Y:=bU.L0.Y0
def bU.L0.out:bU.L0.X->Out (Exit×AS):=λx=> .ok (bU.L0.bY x)
def bU.L0.add:bU.L0.D->bU.L0.Y->bU.L0.X:=λ(sW,n,i) y=>y
abbrev bU.D:=Bs
def bU.st:bU.D->SA:=λh=>([.d tH h],[])
abbrev bU.Y:=Int
abbrev bU.X:=Int
def bU.out:bU.X->aX:=λx=>⟨.d tu x,[],[]⟩
def bU.add:bU.D->bU.Y->bU.X:=λh y=>y
def bU.L0.az:bU.L0.D->Prop:=λ(h,n,i)=>ET.b n/\h.length=32/\Bytes h/\∃k:Nat,k<=32/\i=k
def bU.L0.F:bU.L0.D->bU.L0.Y:=λ(h,n,i)=>(h.drop i.toNat).foldl (λn b=>(n*256+b)%2305843009213688668) n
def bU.az:bU.D->Prop:=λh=>h.length=32/\Bytes h
def bU.F:bU.D->bU.Y:=λh=>kT h
def bU.G:fD:=gr (P:=Tryz.prog) []
def bU.L0.E:=cU.dp bU.L0.st bU.L0.az bU.L0.add bU.L0.F bU.L0.out
def bU.L0.call:bU.L0.D->Option bU.L0.X:=eI bU.L0.E bU.L0.st
def bU.an:fR:= {loops:=om [(3,{bO:=[1,3,4]}),(6,{bO:=[1,3,4,5]})],outs:=oh [(3,{bO:=[3]},{bO:=[2]}),(6,{bO:=[1,3,4]},{bO:=[2]})],jo:=pb [(3,bU.L0.E)]}
def bU.A:= @dm Tryz.prog bU.G bU.an 12 Tryz.f60 _ bU.st
abbrev bU.Ok:=dn @bU.A bU.az bU.add bU.F bU.out
def bU.L0.R:= @dr Tryz.prog bU.G bU.an 12 Tryz.f60 0 _ bU.L0.st
abbrev bU.L0.Ok:=gz Tryz.prog bU.G bU.an 12 Tryz.f60 0 bU.L0.st bU.L0.az bU.L0.add bU.L0.F bU.L0.out
theorem bU.L0.run:b8 bU.L0.call bU.L0.az bU.L0.add bU.L0.F:=gR (gJ [.d tH,.d tu,.d ti] λ_=>by kernel_rfl)
theorem bU.L0.aI:jl @bU.L0.R bU.L0.st bU.L0.az bU.L0.add bU.L0.F bU.L0.bY bU.L0.Ok:=js
theorem bU.L0.step{R:Type}(sW:Bs)(n:Int)(i:Int)(kn:AS->Option R)(kx:Exit->AS->Option R):bU.L0.R (sW,n,i) kn kx=
  aJ ((jM i (32:Int))) (
   aJ (fB i (32:Int)) (
   aJ (fB i (32:Int)) (
   aJ (fB i (32:Int)) (
   aJ (fB i (32:Int)) (
   aJ (fB i (32:Int)) (
   aJ (fB i (32:Int)) (
   aJ (fB i (32:Int)) (
   aJ (fB i (32:Int)) (
   kn (bU.L0.st (sW,(iN (bV .u64 (gY .u64 (2:Int) (iN (bV .u64 (gY .u64 (2:Int) (iN (bV .u64 (gY .u64 (2:Int) (iN (bV .u64 (gY .u64 (2:Int) (iN (bV .u64 (gY .u64 (2:Int) (iN (bV .u64 (gY .u64 (2:Int) (iN (bV .u64 (gY .u64 (2:Int) (iN (bV .u64 (gY .u64 (2:Int) n) (dD .and .u64 (cX .u64 (fa .u64 (nth tb sW (Int.toNat i))) (7:Int)) (1:Int))) (2305843009213688668:Int))) (dD .and .u64 (cX .u64 (fa .u64 (nth tb sW (Int.toNat i))) (6:Int)) (1:Int))) (2305843009213688668:Int))) (dD .and .u64 (cX .u64 (fa .u64 (nth tb sW (Int.toNat i))) (5:Int)) (1:Int))) (2305843009213688668:Int))) (dD .and .u64 (cX .u64 (fa .u64 (nth tb sW (Int.toNat i))) (4:Int)) (1:Int))) (2305843009213688668:Int))) (dD .and .u64 (cX .u64 (fa .u64 (nth tb sW (Int.toNat i))) (3:Int)) (1:Int))) (2305843009213688668:Int))) (dD .and .u64 (cX .u64 (fa .u64 (nth tb sW (Int.toNat i))) (2:Int)) (1:Int))) (2305843009213688668:Int))) (dD .and .u64 (cX .u64 (fa .u64 (nth tb sW (Int.toNat i))) (1:Int)) (1:Int))) (2305843009213688668:Int))) (dD .and .u64 (cX .u64 (fa .u64 (nth tb sW (Int.toNat i))) (0:Int)) (1:Int))) (2305843009213688668:Int)),(bV .i64 i (1:Int))))) none) none) none) none) none) none) none) none) (
   kx (bU.L0.bY n).1 (bU.L0.bY n).2):=by kernel_rfl
theorem bU.eq{R:Type}(h:Bs)(k:aX->Option R):bU.A h k=
 ah (bU.L0.call (h,(0:Int),(0:Int))) λx1=>
 k (bU.out (bV .u64 x1 (1:Int))):=by kernel_rfl
theorem vB{c:Int}(hc:Dt c)(k:Nat)(hk:k<=7):dD .and .u64 (cX .u64 (fa .u64 c) (k:Int)) 1=c / 2^k%2:=by
 obtain⟨h1,h2⟩:=hc
 have e:fa .u64 c=c:=by rw[IN];omega
 have p:(0:Int) < 2^k:=Int.pow_pos (by omega)
 have q0:0<=c / 2^k:=Int.ediv_nonneg h1 (by omega)
 have q1:c / 2^k<=c:=Int.ediv_le_self _ h1
 rw[e,qR k (by rfl) (by omega),SS q0 (by omega)]
theorem Mt:∀c:Fin 256,(c.val:Int) / 2^7%2*128+(c.val:Int) / 2^6%2*64+(c.val:Int) / 2^5%2*32+(c.val:Int) / 2^4%2*16+(c.val:Int) / 2^3%2*8+(c.val:Int) / 2^2%2*4+(c.val:Int) / 2^1%2*2+(c.val:Int) / 2^0%2=(c.val:Int):=by decide+kernel
theorem Mu{c:Int}(hc:Dt c):c / 2^7%2*128+c / 2^6%2*64+c / 2^5%2*32+c / 2^4%2*16+c / 2^3%2*8+c / 2^2%2*4+c / 2^1%2*2+c / 2^0%2=c:=by
 obtain⟨n,rfl⟩:∃n:Nat,c=n:=⟨c.toNat,by have:=hc.1;omega⟩
 exact Mt ⟨n,by have:=hc.2;omega⟩
theorem KO{c:Int}(hc:Dt c):∃d7 d6 d5 d4 d3 d2 d1 d0:Int,(0<=d7/\d7 < 2)/\(0<=d6/\d6 < 2)/\(0<=d5/\d5 < 2)/\(0<=d4/\d4 < 2)/\(0<=d3/\d3 < 2)/\(0<=d2/\d2 < 2)/\(0<=d1/\d1 < 2)/\(0<=d0/\d0 < 2)/\dD .and .u64 (cX .u64 (fa .u64 c) 7) 1=d7/\dD .and .u64 (cX .u64 (fa .u64 c) 6) 1=d6/\dD .and .u64 (cX .u64 (fa .u64 c) 5) 1=d5/\dD .and .u64 (cX .u64 (fa .u64 c) 4) 1=d4/\dD .and .u64 (cX .u64 (fa .u64 c) 3) 1=d3/\dD .and .u64 (cX .u64 (fa .u64 c) 2) 1=d2/\dD .and .u64 (cX .u64 (fa .u64 c) 1) 1=d1/\dD .and .u64 (cX .u64 (fa .u64 c) 0) 1=d0/\d7*128+d6*64+d5*32+d4*16+d3*8+d2*4+d1*2+d0=c:=by
 have z:∀x:Int,0<=x%2/\x%2 < 2:=λx=>by omega
 exact⟨c / 2^7%2,c / 2^6%2,c / 2^5%2,c / 2^4%2,c / 2^3%2,c / 2^2%2,c / 2^1%2,c / 2^0%2,z _,z _,z _,z _,z _,z _,z _,z _,vB hc 7 (by omega),vB hc 6 (by omega),vB hc 5 (by omega),vB hc 4 (by omega),vB hc 3 (by omega),vB hc 2 (by omega),vB hc 1 (by omega),vB hc 0 (by omega),Mu hc⟩
theorem vC{n b:Int}(hn:ET.b n)(hb:0<=b/\b < 2):iN (bV .u64 (gY .u64 2 n) b) 2305843009213688668=(2*n+b)%2305843009213688668/\ET.b ((2*n+b)%2305843009213688668):=by
 obtain⟨h1,h2⟩:=hn
 have e:bV .u64 (gY .u64 2 n) b=2*n+b:=by rw[qN,nv];omega
 rw[e,lh (by omega)]
 exact⟨rfl,by omega,by omega⟩
theorem IA(n c d7 d6 d5 d4 d3 d2 d1 d0:Int)(M:Int)(h:d7*128+d6*64+d5*32+d4*16+d3*8+d2*4+d1*2+d0=c):
  (2*((2*((2*((2*((2*((2*((2*((2*n+d7)%M)+d6)%M)+d5)%M)+d4)%M)+d3)%M)+d2)%M)+d1)%M)+d0)%M=(n*256+c)%M:=by
 have l:∀x b:Int,(2*(x%M)+b)%M=(2*x+b)%M:=λx b=>by
  rw[mD,iR,iV _ (mF M),<-iR,<-mD]
 simp only[l]
 have e:2*(2*(2*(2*(2*(2*(2*(2*n+d7)+d6)+d5)+d4)+d3)+d2)+d1)+d0=n*256+c:=by omega
 rw[e]
theorem bU.L0.ok:bU.L0.Ok:=by
 refine bU.L0.aI (λ(h,n,i)=>32 - i.toNat) ?_
 rintro⟨h,n,i⟩ ⟨hn,hl,hb,k,hk,rfl⟩
 have hn:ET.b n:=hn
 have hl:h.length=32:=hl
 have hb:Bytes h:=hb
 by_cases mw:k < 32
 ·left
  have hx:Dt (h[k]'(by omega)):=hb _ (List.getElem_mem _)
  have n1:nth (.int .u8) h k=h[k]'(by omega):=dQ (t:= .int .u8) (by omega)
  refine⟨(h,(n*256+h[k]'(by omega))%2305843009213688668,((k+1:Nat):Int)),⟨⟨by omega,by omega⟩,hl,hb,k+1,by omega,rfl⟩,by simp only[aa];omega,?_,λkn kx=> ?_⟩
  ·simp only[bU.L0.add,bU.L0.F,aa]
   rw[av (by omega:k < h.length)]
   rfl
  ·rw[bU.L0.step]
   generalize hc:h[k]'(by omega)=c at hx n1
   obtain⟨d7,d6,d5,d4,d3,d2,d1,d0,z7,z6,z5,z4,z3,z2,z1,z0,b7,b6,b5,b4,b3,b2,b1,b0,bg⟩:=KO hx
   obtain⟨f7,g7⟩:=vC hn z7
   obtain⟨f6,g6⟩:=vC g7 z6
   obtain⟨f5,g5⟩:=vC g6 z5
   obtain⟨f4,g4⟩:=vC g5 z4
   obtain⟨f3,g3⟩:=vC g4 z3
   obtain⟨f2,g2⟩:=vC g3 z2
   obtain⟨f1,g1⟩:=vC g2 z1
   obtain⟨f0,g0⟩:=vC g1 z0
   have e8:=IA n c _ _ _ _ _ _ _ _ 2305843009213688668 bg
   have hi:jM (k:Int) 32=true:=bI (by omega)
   have O9:fB (k:Int) 32=true:=bF (by omega) (by omega)
   have ha:bV .i64 (k:Int) 1=((k+1:Nat):Int):=by rw[ff (by omega) (by omega)];omega
   simp only[hi,O9,ha,ae,aa,n1,b7,b6,b5,b4,b3,b2,b1,b0,f7,f6,f5,f4,f3,f2,f1,f0,e8]
 ·right
  obtain rfl:k=32:=by omega
  intro R kn kx
  rw[bU.L0.step]
  simp(disch:=omega) only[↓S1,↓if_pos,↓if_neg,if_pos,if_neg,if_true,if_false,S2,bU.L0.add,bU.L0.F]
  rw[gK (by omega)]
  rfl
theorem bU.ok:bU.Ok:=by
 rintro h ⟨hl,hb⟩
 have e:=B4 h 0 ⟨by omega,by omega⟩
 have h1:=e.1
 have h2:=e.2
 rw[bU.eq,bU.L0.run (d:=(h,0,0)) ⟨⟨by omega,by omega⟩,hl,hb,0,by omega,rfl⟩]
 simp only[ab,bU.L0.add,bU.L0.F,bU.add,bU.F,kT,bH,aW]
 revert h1 h2
 generalize h.foldl (λn b=>(n*256+b)%2305843009213688668) 0=m
 intro h1 h2
 have e:bV .u64 m 1=m+1:=by rw[nv];omega
 rw[e]
def bU.E:=Entry.dp [some tH] bU.st bU.az bU.add bU.F bU.out
def bU.call:bU.D->Option bU.X:=bX bU.E bU.st
theorem bU.run:b8 bU.call bU.az bU.add bU.F:=dv (du [.d tB] λ_=>by kernel_rfl)
def bU.sg:SG Tryz.prog:=⟨60,aP,bU.E,.fn 2 (by kernel_rfl) bU.ok (And.intro (.dp bU.L0.ok (by kernel_rfl)) (And.intro (.none (by kernel_rfl)) trivial))⟩
abbrev kf:Ty:=(.pair ti (.pair ti (.pair ti (.pair tu (.pair ti .unit)))))
abbrev jj:=(Int×(Int×(Int×(Int×(Int×Unit)))))
abbrev oI:Ty:=(.pair ti (.pair ti (.pair ti (.pair ti (.pair ti (.pair ti .unit))))))
abbrev LW:=(Int×(Int×(Int×(Int×(Int×(Int×Unit))))))
abbrev mu:Ty:=(.pair ti (.pair (.arr 2 ti) (.pair (.slice kf) (.pair ti .unit))))
abbrev jk:=(Int×((List Int)×((List jj)×(Int×Unit))))
abbrev rU:Ty:=(.pair tu (.pair tu (.pair tu (.pair tu (.pair tu (.pair tH .unit))))))
abbrev pE:=(Int×(Int×(Int×(Int×(Int×(Bs×Unit))))))
abbrev qo:Ty:=(.pair tu (.pair tu (.pair tu Ak)))
abbrev Kz:=(Int×(Int×(Int×Sg)))
abbrev mW:Ty:=(.pair ir (.pair ti (.pair (.arr 2 qo) (.pair (.arr 2 oI) (.pair ti .unit)))))
abbrev iP:=(iF×(Int×((List Kz)×((List LW)×(Int×Unit)))))
abbrev FU:Ty:=(.pair ti (.pair kf .unit))
abbrev xr:=(Int×(jj×Unit))
abbrev Me:Ty:=(.pair lS (.pair (.slice FU) .unit))
abbrev H5:=(je×((List xr)×Unit))
abbrev xd:Ty:=(.pair ir (.pair ti (.pair tu .unit)))
abbrev o6:=(iF×(Int×(Int×Unit)))
abbrev nS:Ty:=(.pair lH (.pair FU (.pair tH .unit)))
abbrev my:=(kI×(xr×(Bs×Unit)))
abbrev OB:Ty:=(.pair tb (.pair (.int .u16) (.pair (.int .u16) (.pair tu .unit))))
abbrev KA:=(Int×(Int×(Int×(Int×Unit))))
abbrev Kp:Ty:=(.pair (.arr 2 tH) (.pair (.int .u32) (.pair (.int .u32) (.pair tb (.pair tb (.pair (.slice OB) (.pair (.int .u16) (.pair tH .unit))))))))
abbrev yf:=((List Bs)×(Int×(Int×(Int×(Int×((List KA)×(Int×(Bs×Unit))))))))
def Bd(x lo hi:Int):Prop:=lo<=x/\x<=hi
def qv(n lo hi:Int):Bool:=decide (lo<=n) && decide (n<=hi)
theorem si{n lo hi:Int}:qv n lo hi=true↔lo<=n/\n<=hi:=by
 unfold qv;rw[ak,decide_eq_true_eq,decide_eq_true_eq]
theorem kr{n lo hi:Int}(h:lo<=n)(h2:n<=hi):qv n lo hi=true:=si.2 ⟨h,h2⟩
theorem o9{n lo hi:Int}(h:¬(lo<=n/\n<=hi)):qv n lo hi=false:=by
 cases e:qv n lo hi
 ·rfl
 ·exact absurd (si.1 e) h
def DT(p:Int):Bool:=oM p && tc p 1
def Ml(p:Int):Prop:=iy p/\DT p=true
def QJ(b:Kz):Prop:=Ml b.1/\Ml b.2.1/\Ml b.2.2.1/\Ml b.2.2.2.1/\Ml b.2.2.2.2.1
def te(d:Int):LW:=(100,(200,(d,(16,(1,(1125899906842624,()))))))
def xc(a:Int)(b0 b1:Kz)(o:Int):iP:=((List.replicate 32 0,(0,())),(a,([b0,b1],([te 5,te 6],(o,())))))
def mX(ch:iP):Prop:=∃a b0 b1 o,ch=xc a b0 b1 o/\20000<=a/\a<=4294987295/\QJ b0/\QJ b1/\(o=0\/o=1)
def Oo(n:Int):Int:=if 0<=n/\n<=16 then 68+8*n else 0
def Bm(r n:Int):Int:=if 0<=r/\r<=1000 then r*Oo n else 0
theorem Js(n:Int):0<=Oo n/\Oo n<=196:=by
 unfold Oo;split <;> omega
theorem yJ{r w a b:Int}(h0:0<=r)(h1:r<=a)(w0:0<=w)(w1:w<=b):0<=r*w/\r*w<=a*b:=⟨pS h0 w0,Int.mul_le_mul h1 w1 w0 (by omega)⟩
theorem vM(r n:Int):0<=Bm r n/\Bm r n<=196000:=by
 unfold Bm
 split
 ·next h=>
  have:=Js n
  have:=yJ h.1 h.2 this.1 this.2
  omega
 ·omega
def F3(c:jj):Bool:=DT c.2.2.2.1 && (qv c.1 0 1 && (qv c.2.1 1 1048576 && (qv c.2.2.1 1 1125899906842624 && qv c.2.2.2.2.1 1 1048576)))
structure PT(c:jj):Prop where
 pt:DT c.2.2.2.1=true
 side:0<=c.1/\c.1<=1
 id:1<=c.2.1/\c.2.1<=1048576
 EY:1<=c.2.2.1/\c.2.2.1<=1125899906842624
 exp:1<=c.2.2.2.2.1/\c.2.2.2.2.1<=1048576
theorem rZ{c:jj}:F3 c=true↔PT c:=by
 unfold F3
 simp only[ak,si]
 exact⟨λh=>⟨h.1,h.2.1,h.2.2.1,h.2.2.2.1,h.2.2.2.2⟩,λh=>⟨h.pt,h.side,h.id,h.EY,h.exp⟩⟩
def zj(a b:jj):Bool:=decide (a.1 < b.1\/a.1=b.1/\a.2.1 < b.2.1)
def tw:Option jj->List jj->Bool
 |_,[]=>true
 |none,c::l=>F3 c && tw (some c) l
 |some p,c::l=>F3 c && (zj p c && tw (some c) l)
def yR(l:List jj)(k:Nat):Option jj:=if k=0 then none else some (nth kf l (k - 1))
theorem tW:∀(o:Option jj) (l:List jj),tw o l=true->∀c∈l,PT c
 |_,[],_,c,hc=>by cases hc
 |none,d::l,h,c,hc=>by
  simp only[tw,ak]at h
  rcases cE.1 hc with rfl | hc
  ·exact rZ.1 h.1
  ·exact tW _ l h.2 c hc
 |some p,d::l,h,c,hc=>by
  simp only[tw,ak]at h
  rcases cE.1 hc with rfl | hc
  ·exact rZ.1 h.1
  ·exact tW _ l h.2.2 c hc
theorem JH{l:List jj}{k:Nat}(h:k < l.length):tw (yR l k) (l.drop k)=(F3 l[k] && ((decide (k=0) || zj (nth kf l (k - 1)) l[k]) && tw (yR l (k+1)) (l.drop (k+1)))):=by
 have n1:nth kf l k=l[k]:=dQ (t:=kf) h
 have e2:yR l (k+1)=some l[k]:=by
  unfold yR
  rw[if_neg (by omega),Nat.add_sub_cancel,n1]
 rw[e2,av h]
 unfold yR
 by_cases h0:k=0
 ·rw[if_pos h0,tw,aM h0,Bool.true_or,cr]
 ·rw[if_neg h0,tw,cq h0,Bool.false_or]
def jL:List jj->Int
 |[]=>0
 |c::l=>c.2.2.1+jL l
def lZ(to:Int)(l:List jj):List jj:=l.filter λc=>mV c.1 (1 - to)
def F9(c:jj):Prop:=0<=c.2.2.1/\c.2.2.1<=1125899906842624
theorem Jz:∀(l:List jj),(∀c∈l,F9 c)->0<=jL l/\jL l<=1125899906842624*l.length
 |[],_=>⟨lp _,by simp[jL]⟩
 |c::l,h=>by
  have h1:=h c bh
  have h2:=Jz l λx hx=>h x (bj _ hx)
  unfold F9 at h1
  simp only[jL,aO]
  omega
theorem yN(to:Int)(l:List jj):(lZ to l).length<=l.length:=nj _ _
theorem zY(to:Int)(c:jj)(l:List jj):lZ to (c::l)=if mV c.1 (1 - to)=true then c::lZ to l else lZ to l:=by
 unfold lZ
 rw[iw]
def xX(ch:iP)(s:jk):Bool:=
  qv s.1 0 1048576 && (qv (nth ti s.2.1 0) 0 1125899906842624 && (qv (nth ti s.2.1 1) 0 1125899906842624 && (qv s.2.2.2.1 0 1000 && (decide (s.2.2.1.length<=16) &&
   (tw none s.2.2.1 && (decide (jL (lZ 0 s.2.2.1)<=1125899906842624) && (decide (jL (lZ 1 s.2.2.1)<=1125899906842624) &&
    (mV (nth ti s.2.1 0+nth ti s.2.1 1+jL s.2.2.1) ch.2.1 && qu (nth ti s.2.1 ch.2.2.2.2.1.toNat) (Bm s.2.2.2.1 s.2.2.1.length+660)))))))))
def ur(s:jk):Prop:=(∀c∈s.2.2.1,iy c.2.2.2.1)/\s.2.2.1.length<=1000/\s.2.1.length=2
abbrev iH.D:=Int×Int×Int
def iH.st:iH.D->SA:=λ(n,low,high)=>([.d ti n,.d ti low,.d ti high],[])
abbrev iH.Y:=Bool
abbrev iH.X:=Bool
def iH.out:iH.X->aX:=λx=>⟨.d .bool x,[],[]⟩
def iH.add:iH.D->iH.Y->iH.X:=λ(n,low,high) y=>y
def iH.az:iH.D->Prop:=λ_=>True
def iH.F:iH.D->iH.Y:=λ(n,lo,hi)=>qv n lo hi
def iH.G:fD:=gr (P:=Tryz.prog) []
def iH.an:fR:= {}
def iH.A:= @dm Tryz.prog iH.G iH.an 0 Tryz.f116 _ iH.st
abbrev iH.Ok:=dn @iH.A iH.az iH.add iH.F iH.out
theorem iH.eq{R:Type}(n:Int)(low:Int)(high:Int)(k:aX->Option R):iH.A (n,low,high) k=
  aJ ((qu n low)) (
   k (iH.out (F6 n high))) (
   k (iH.out false)):=by kernel_rfl
theorem iH.ok:iH.Ok:=by
 rintro⟨n,lo,hi⟩ _
 rw[iH.eq]
 simp only[iH.add,iH.F,qv]
 have e:decide (lo<=n)=qu n lo:=rfl
 rw[e]
 cases qu n lo <;> rfl
def iH.E:=Entry.dp [some ti,some ti,some ti] iH.st iH.az iH.add iH.F iH.out
def iH.call:iH.D->Option iH.X:=bX iH.E iH.st
theorem iH.run:b8 iH.call iH.az iH.add iH.F:=dv (du [.d ti,.d ti,.d ti] λ_=>by kernel_rfl)
def iH.sg:SG Tryz.prog:=⟨116,aP,iH.E,.fn 0 (by kernel_rfl) iH.ok trivial⟩
theorem iH.c(n lo hi:Int):iH.call (n,lo,hi)=some (qv n lo hi):=iH.run (d:=(n,lo,hi)) trivial
abbrev jd.D:=Int×Int×Int
def jd.st:jd.D->SA:=λ(n,low,high)=>([.d ti n,.d ti low,.d ti high],[])
abbrev jd.Y:=Bool
abbrev jd.X:=Bool
def jd.out:jd.X->aX:=λx=>⟨.d .bool x,[],[]⟩
def jd.add:jd.D->jd.Y->jd.X:=λ(n,low,high) y=>y
def jd.az:jd.D->Prop:=λ_=>True
def jd.F:jd.D->jd.Y:=λ(n,lo,hi)=>qv n lo hi
def jd.G:fD:=gr (P:=Tryz.prog) []
def jd.an:fR:= {}
def jd.A:= @dm Tryz.prog jd.G jd.an 0 Tryz.f64 _ jd.st
abbrev jd.Ok:=dn @jd.A jd.az jd.add jd.F jd.out
theorem jd.eq{R:Type}(n:Int)(low:Int)(high:Int)(k:aX->Option R):jd.A (n,low,high) k=
  aJ ((qu n low)) (
   k (jd.out (F6 n high))) (
   k (jd.out false)):=by kernel_rfl
theorem jd.ok:jd.Ok:=by
 rintro⟨n,lo,hi⟩ _
 rw[jd.eq]
 simp only[jd.add,jd.F,qv]
 have e:decide (lo<=n)=qu n lo:=rfl
 rw[e]
 cases qu n lo <;> rfl
def jd.E:=Entry.dp [some ti,some ti,some ti] jd.st jd.az jd.add jd.F jd.out
def jd.call:jd.D->Option jd.X:=bX jd.E jd.st
theorem jd.run:b8 jd.call jd.az jd.add jd.F:=dv (du [.d ti,.d ti,.d ti] λ_=>by kernel_rfl)
def jd.sg:SG Tryz.prog:=⟨64,aP,jd.E,.fn 0 (by kernel_rfl) jd.ok trivial⟩
theorem jd.c(n lo hi:Int):jd.call (n,lo,hi)=some (qv n lo hi):=jd.run (d:=(n,lo,hi)) trivial
abbrev oN.D:=Int×Int×Int
def oN.st:oN.D->SA:=λ(n,low,high)=>([.d ti n,.d ti low,.d ti high],[])
abbrev oN.Y:=Bool
abbrev oN.X:=Bool
def oN.out:oN.X->aX:=λx=>⟨.d .bool x,[],[]⟩
def oN.add:oN.D->oN.Y->oN.X:=λ(n,low,high) y=>y
def oN.az:oN.D->Prop:=λ_=>True
def oN.F:oN.D->oN.Y:=λ(n,lo,hi)=>qv n lo hi
def oN.G:fD:=gr (P:=Tryz.prog) []
def oN.an:fR:= {}
def oN.A:= @dm Tryz.prog oN.G oN.an 0 Tryz.f168 _ oN.st
abbrev oN.Ok:=dn @oN.A oN.az oN.add oN.F oN.out
theorem oN.eq{R:Type}(n:Int)(low:Int)(high:Int)(k:aX->Option R):oN.A (n,low,high) k=
  aJ ((F6 low n)) (
   k (oN.out (F6 n high))) (
   k (oN.out false)):=by kernel_rfl
theorem oN.ok:oN.Ok:=by
 rintro⟨n,lo,hi⟩ _
 rw[oN.eq]
 simp only[oN.add,oN.F,qv]
 have e:decide (lo<=n)=F6 lo n:=rfl
 rw[e]
 cases F6 lo n <;> rfl
def oN.E:=Entry.dp [some ti,some ti,some ti] oN.st oN.az oN.add oN.F oN.out
def oN.call:oN.D->Option oN.X:=bX oN.E oN.st
theorem oN.run:b8 oN.call oN.az oN.add oN.F:=dv (du [.d ti,.d ti,.d ti] λ_=>by kernel_rfl)
def oN.sg:SG Tryz.prog:=⟨168,aP,oN.E,.fn 0 (by kernel_rfl) oN.ok trivial⟩
theorem oN.c(n lo hi:Int):oN.call (n,lo,hi)=some (qv n lo hi):=oN.run (d:=(n,lo,hi)) trivial
abbrev pR.D:=Int
def pR.st:pR.D->SA:=λconds=>([.d ti conds],[])
abbrev pR.Y:=Int
abbrev pR.X:=Int
def pR.out:pR.X->aX:=λx=>⟨.d ti x,[],[]⟩
def pR.add:pR.D->pR.Y->pR.X:=λconds y=>y
def pR.az:pR.D->Prop:=λ_=>True
def pR.F:pR.D->pR.Y:=λn=>Oo n
def pR.G:fD:=gr (P:=Tryz.prog) [iH.sg]
def pR.an:fR:= {}
def pR.A:= @dm Tryz.prog pR.G pR.an 0 Tryz.f158 _ pR.st
abbrev pR.Ok:=dn @pR.A pR.az pR.add pR.F pR.out
theorem pR.eq{R:Type}(conds:Int)(k:aX->Option R):pR.A conds k=
  ah (iH.call (conds,(0:Int),(16:Int))) λx1=>
  aJ ((!x1)) (
   k (pR.out (0:Int))) (
   k (pR.out (bV .i64 (36:Int) (gY .i64 (bV .i64 (4:Int) conds) (8:Int))))):=by kernel_rfl
theorem pR.ok:pR.Ok:=by
 intro(n:Int) _
 rw[pR.eq,iH.c]
 simp only[ab,pR.add,pR.F,Oo]
 by_cases h:0<=n/\n<=16
 ·rw[kr h.1 h.2,if_pos h,bZ,ai,show bV .i64 4 n=4+n from ff (by omega) (by omega),na (by omega) (by omega),ff (by omega) (by omega)]
  rw[show(36+(4+n)*8:Int)=68+8*n by omega]
 ·rw[o9 h,if_neg h];rfl
def pR.E:=Entry.dp [some ti] pR.st pR.az pR.add pR.F pR.out
def pR.call:pR.D->Option pR.X:=bX pR.E pR.st
theorem pR.run:b8 pR.call pR.az pR.add pR.F:=dv (du [.d ti] λ_=>by kernel_rfl)
def pR.sg:SG Tryz.prog:=⟨158,aP,pR.E,.fn 0 (by kernel_rfl) pR.ok trivial⟩
abbrev gG.D:=Int×Int
def gG.st:gG.D->SA:=λ(bQ,conds)=>([.d ti bQ,.d ti conds],[])
abbrev gG.Y:=Int
abbrev gG.X:=Int
def gG.out:gG.X->aX:=λx=>⟨.d ti x,[],[]⟩
def gG.add:gG.D->gG.Y->gG.X:=λ(bQ,conds) y=>y
def gG.az:gG.D->Prop:=λ_=>True
def gG.F:gG.D->gG.Y:=λ(r,n)=>Bm r n
def gG.G:fD:=gr (P:=Tryz.prog) [iH.sg,pR.sg]
def gG.an:fR:= {}
def gG.A:= @dm Tryz.prog gG.G gG.an 0 Tryz.f120 _ gG.st
abbrev gG.Ok:=dn @gG.A gG.az gG.add gG.F gG.out
theorem gG.eq{R:Type}(bQ:Int)(conds:Int)(k:aX->Option R):gG.A (bQ,conds) k=
  ah (iH.call (bQ,(0:Int),(1000:Int))) λx1=>
  aJ ((!x1)) (
   k (gG.out (0:Int))) (
   ah (pR.call conds) λx2=>
   k (gG.out (gY .i64 bQ x2))):=by kernel_rfl
theorem gG.ok:gG.Ok:=by
 rintro⟨r,n⟩ _
 rw[gG.eq,iH.c]
 simp only[ab,gG.add,gG.F,Bm]
 by_cases h:0<=r/\r<=1000
 ·have hw:=Js n
  have hm:=yJ h.1 h.2 hw.1 hw.2
  rw[kr h.1 h.2,if_pos h,bZ,ai,pR.run (d:=n) trivial]
  simp only[ab,pR.add,pR.F]
  rw[na (by omega) (by omega)]
 ·rw[o9 h,if_neg h];rfl
def gG.E:=Entry.dp [some ti,some ti] gG.st gG.az gG.add gG.F gG.out
def gG.call:gG.D->Option gG.X:=bX gG.E gG.st
theorem gG.run:b8 gG.call gG.az gG.add gG.F:=dv (du [.d ti,.d ti] λ_=>by kernel_rfl)
def gG.sg:SG Tryz.prog:=⟨120,aP,gG.E,.fn 0 (by kernel_rfl) gG.ok trivial⟩
abbrev dk.D:=Int
def dk.st:dk.D->SA:=λconds=>([.d ti conds],[])
abbrev dk.Y:=Int
abbrev dk.X:=Int
def dk.out:dk.X->aX:=λx=>⟨.d ti x,[],[]⟩
def dk.add:dk.D->dk.Y->dk.X:=λconds y=>y
def dk.az:dk.D->Prop:=λ_=>True
def dk.F:dk.D->dk.Y:=λn=>Oo n
def dk.G:fD:=gr (P:=Tryz.prog) []
def dk.an:fR:= {}
def dk.A:= @dm Tryz.prog dk.G dk.an 0 Tryz.f43 _ dk.st
abbrev dk.Ok:=dn @dk.A dk.az dk.add dk.F dk.out
theorem dk.eq{R:Type}(conds:Int)(k:aX->Option R):dk.A conds k=
  aJ ((jM conds (0:Int))) (
   k (dk.out (0:Int))) (
   aJ ((sh conds (16:Int))) (
    k (dk.out (0:Int))) (
    k (dk.out (bV .i64 (68:Int) (gY .i64 (8:Int) conds))))):=by kernel_rfl
theorem dk.ok:dk.Ok:=by
 intro(n:Int) _
 rw[dk.eq]
 simp only[dk.add,dk.F,Oo]
 by_cases h:n < 0
 ·rw[bI h,ae,if_neg (by omega)]
 ·rw[bp h,ai]
  by_cases h2:n > 16
  ·rw[fE h2,ae,if_neg (by omega)]
  ·rw[dY h2,ai,if_pos ⟨by omega,by omega⟩,na (by omega) (by omega),ff (by omega) (by omega)]
def dk.E:=Entry.dp [some ti] dk.st dk.az dk.add dk.F dk.out
def dk.call:dk.D->Option dk.X:=bX dk.E dk.st
theorem dk.run:b8 dk.call dk.az dk.add dk.F:=dv (du [.d ti] λ_=>by kernel_rfl)
def dk.sg:SG Tryz.prog:=⟨43,aP,dk.E,.fn 0 (by kernel_rfl) dk.ok trivial⟩
abbrev gb.D:=Int×Int
def gb.st:gb.D->SA:=λ(bQ,conds)=>([.d ti bQ,.d ti conds],[])
abbrev gb.Y:=Int
abbrev gb.X:=Int
def gb.out:gb.X->aX:=λx=>⟨.d ti x,[],[]⟩
def gb.add:gb.D->gb.Y->gb.X:=λ(bQ,conds) y=>y
def gb.az:gb.D->Prop:=λ_=>True
def gb.F:gb.D->gb.Y:=λ(r,n)=>Bm r n
def gb.G:fD:=gr (P:=Tryz.prog) [dk.sg]
def gb.an:fR:= {}
def gb.A:= @dm Tryz.prog gb.G gb.an 0 Tryz.f16 _ gb.st
abbrev gb.Ok:=dn @gb.A gb.az gb.add gb.F gb.out
theorem gb.eq{R:Type}(bQ:Int)(conds:Int)(k:aX->Option R):gb.A (bQ,conds) k=
  aJ ((jM bQ (0:Int))) (
   k (gb.out (0:Int))) (
   aJ ((sh bQ (1000:Int))) (
    k (gb.out (0:Int))) (
    ah (dk.call conds) λx1=>
    k (gb.out (gY .i64 bQ x1)))):=by kernel_rfl
theorem gb.ok:gb.Ok:=by
 rintro⟨r,n⟩ _
 rw[gb.eq]
 simp only[gb.add,gb.F,Bm]
 by_cases h:r < 0
 ·rw[bI h,ae,if_neg (by omega)]
 ·rw[bp h,ai]
  by_cases h2:r > 1000
  ·rw[fE h2,ae,if_neg (by omega)]
  ·have hw:=Js n
   have hm:=yJ (r:=r) (by omega) (show r<=1000 by omega) hw.1 hw.2
   rw[dY h2,ai,if_pos ⟨by omega,by omega⟩,dk.run (d:=n) trivial]
   simp only[ab,dk.add,dk.F]
   rw[na (by omega) (by omega)]
def gb.E:=Entry.dp [some ti,some ti] gb.st gb.az gb.add gb.F gb.out
def gb.call:gb.D->Option gb.X:=bX gb.E gb.st
theorem gb.run:b8 gb.call gb.az gb.add gb.F:=dv (du [.d ti,.d ti] λ_=>by kernel_rfl)
def gb.sg:SG Tryz.prog:=⟨16,aP,gb.E,.fn 0 (by kernel_rfl) gb.ok trivial⟩
abbrev dT.D:=LW×Int
def dT.st:dT.D->SA:=λ(t,amount)=>([.d oI t,.d ti amount],[])
abbrev dT.Y:=Bool
abbrev dT.X:=Bool
def dT.out:dT.X->aX:=λx=>⟨.d .bool x,[],[]⟩
def dT.add:dT.D->dT.Y->dT.X:=λ(t,amount) y=>y
def dT.az:dT.D->Prop:=λ_=>True
def dT.F:dT.D->dT.Y:=λ(t,n)=>qu n t.1
def dT.G:fD:=gr (P:=Tryz.prog) []
def dT.an:fR:= {}
def dT.A:= @dm Tryz.prog dT.G dT.an 0 Tryz.f14 _ dT.st
abbrev dT.Ok:=dn @dT.A dT.az dT.add dT.F dT.out
theorem dT.eq{R:Type}(t:LW)(amount:Int)(k:aX->Option R):dT.A (t,amount) k=
 k (dT.out (qu amount t.1)):=by kernel_rfl
theorem dT.ok:dT.Ok:=by
 rintro⟨t,n⟩ _
 rw[dT.eq]
 rfl
def dT.E:=Entry.dp [some oI,some ti] dT.st dT.az dT.add dT.F dT.out
def dT.call:dT.D->Option dT.X:=bX dT.E dT.st
theorem dT.run:b8 dT.call dT.az dT.add dT.F:=dv (du [.d oI,.d ti] λ_=>by kernel_rfl)
def dT.sg:SG Tryz.prog:=⟨14,aP,dT.E,.fn 0 (by kernel_rfl) dT.ok trivial⟩
abbrev pM.D:=LW
def pM.st:pM.D->SA:=λt=>([.d oI t],[])
abbrev pM.Y:=Bool
abbrev pM.X:=Bool
def pM.out:pM.X->aX:=λx=>⟨.d .bool x,[],[]⟩
def pM.add:pM.D->pM.Y->pM.X:=λt y=>y
def pM.az:pM.D->Prop:=λt=>t=te 5\/t=te 6
def pM.F:pM.D->pM.Y:=λ_=>true
def pM.G:fD:=gr (P:=Tryz.prog) [iH.sg]
def pM.an:fR:= {}
def pM.A:= @dm Tryz.prog pM.G pM.an 0 Tryz.f117 _ pM.st
abbrev pM.Ok:=dn @pM.A pM.az pM.add pM.F pM.out
theorem pM.eq{R:Type}(t:LW)(k:aX->Option R):pM.A t k=
  ah (iH.call (t.1,(0:Int),(65536:Int))) λx1=>
  aJ (x1) (
   ah (iH.call (t.2.1,t.1,(1125899906842624:Int))) λx2=>
   aJ (x2) (
    ah (iH.call (t.2.2.1,(1:Int),(4096:Int))) λx3=>
    aJ (x3) (
     ah (iH.call (t.2.2.2.1,(0:Int),(16:Int))) λx4=>
     aJ (x4) (
      ah (iH.call (t.2.2.2.2.1,(1:Int),(1125899906842624:Int))) λx5=>
      aJ (x5) (
       ah (iH.call (t.2.2.2.2.2.1,(0:Int),(1125899906842624:Int))) λx6=>
       k (pM.out x6)) (
       k (pM.out false))) (
      k (pM.out false))) (
     k (pM.out false))) (
    k (pM.out false))) (
   k (pM.out false)):=by kernel_rfl
theorem pM.ok:pM.Ok:=by
 rintro t (rfl | rfl) <;> (rw[pM.eq];simp only[iH.c,ab];rfl)
def pM.E:=Entry.dp [some oI] pM.st pM.az pM.add pM.F pM.out
def pM.call:pM.D->Option pM.X:=bX pM.E pM.st
theorem pM.run:b8 pM.call pM.az pM.add pM.F:=dv (du [.d oI] λ_=>by kernel_rfl)
def pM.sg:SG Tryz.prog:=⟨117,aP,pM.E,.fn 0 (by kernel_rfl) pM.ok trivial⟩
abbrev dM.D:=LW
def dM.st:dM.D->SA:=λt=>([.d oI t],[])
abbrev dM.Y:=Bool
abbrev dM.X:=Bool
def dM.out:dM.X->aX:=λx=>⟨.d .bool x,[],[]⟩
def dM.add:dM.D->dM.Y->dM.X:=λt y=>y
def dM.az:dM.D->Prop:=λt=>t=te 5\/t=te 6
def dM.F:dM.D->dM.Y:=λ_=>true
def dM.G:fD:=gr (P:=Tryz.prog) [oN.sg]
def dM.an:fR:= {}
def dM.A:= @dm Tryz.prog dM.G dM.an 0 Tryz.f134 _ dM.st
abbrev dM.Ok:=dn @dM.A dM.az dM.add dM.F dM.out
theorem dM.eq{R:Type}(t:LW)(k:aX->Option R):dM.A t k=
  ah (oN.call (t.1,(0:Int),(65536:Int))) λx1=>
  aJ (x1) (
   ah (oN.call (t.2.2.1,(1:Int),(4096:Int))) λx2=>
   aJ (x2) (
    ah (oN.call (t.2.2.2.1,(0:Int),(16:Int))) λx3=>
    aJ (x3) (
     ah (oN.call (t.2.1,t.1,(1125899906842624:Int))) λx4=>
     aJ (x4) (
      ah (oN.call (t.2.2.2.2.1,(1:Int),(1125899906842624:Int))) λx5=>
      aJ (x5) (
       ah (oN.call (t.2.2.2.2.2.1,(0:Int),(1125899906842624:Int))) λx6=>
       k (dM.out x6)) (
       k (dM.out false))) (
      k (dM.out false))) (
     k (dM.out false))) (
    k (dM.out false))) (
   k (dM.out false)):=by kernel_rfl
theorem dM.ok:dM.Ok:=by
 rintro t (rfl | rfl) <;> (rw[dM.eq];simp only[oN.c,ab];rfl)
def dM.E:=Entry.dp [some oI] dM.st dM.az dM.add dM.F dM.out
def dM.call:dM.D->Option dM.X:=bX dM.E dM.st
theorem dM.run:b8 dM.call dM.az dM.add dM.F:=dv (du [.d oI] λ_=>by kernel_rfl)
def dM.sg:SG Tryz.prog:=⟨134,aP,dM.E,.fn 0 (by kernel_rfl) dM.ok trivial⟩
abbrev fP.D:=Int
def fP.st:fP.D->SA:=λp=>([.d tu p],[])
abbrev fP.Y:=Bool
abbrev fP.X:=Bool
def fP.out:fP.X->aX:=λx=>⟨.d .bool x,[],[]⟩
def fP.add:fP.D->fP.Y->fP.X:=λp y=>y
def fP.az:fP.D->Prop:=λp=>iy p
def fP.F:fP.D->fP.Y:=λp=>DT p
def fP.G:fD:=gr (P:=Tryz.prog) [dw.sg]
def fP.an:fR:= {}
def fP.A:= @dm Tryz.prog fP.G fP.an 0 Tryz.f118 _ fP.st
abbrev fP.Ok:=dn @fP.A fP.az fP.add fP.F fP.out
theorem fP.eq{R:Type}(p:Int)(k:aX->Option R):fP.A p k=
  ah (dw.call p) λx1=>
  aJ (x1) (
   k (fP.out (tc p (1:Int)))) (
   k (fP.out false)):=by kernel_rfl
theorem fP.ok:fP.Ok:=by
 intro p hp
 rw[fP.eq,dw.run (d:=p) hp]
 simp only[ab,dw.add,dw.F,fP.add,fP.F,DT]
 cases oM p <;> rfl
def fP.E:=Entry.dp [some tu] fP.st fP.az fP.add fP.F fP.out
def fP.call:fP.D->Option fP.X:=bX fP.E fP.st
theorem fP.run:b8 fP.call fP.az fP.add fP.F:=dv (du [.d tu] λ_=>by kernel_rfl)
def fP.sg:SG Tryz.prog:=⟨118,aP,fP.E,.fn 0 (by kernel_rfl) fP.ok trivial⟩
theorem fP.g{p:Int}(h:Ml p):fP.call p=some true:=by
 rw[fP.run (d:=p) h.1]
 simp only[fP.add,fP.F,h.2]
abbrev cv.L0.D:=iP×Int
def cv.L0.st:cv.L0.D->AS:=λ(jC,i)=>⟨([.undef,.gE mW jC,.undef,.d ti i]++bG 67 []),[],(List.replicate 71 [])⟩
abbrev cv.L0.Y0:=Unit
abbrev cv.L0.X0:=Unit
def cv.L0.bY:cv.L0.X0->Exit×AS:=λx=>(.ret,⟨([.undef,.undef,.d ti (1:Int)]++bG 68 []),[],(List.replicate 71 [])⟩)
abbrev cv.L0.Y1:=Unit
abbrev cv.L0.X1:=iP
def cv.L0.ko:cv.L0.X1->Exit×AS:=λx=>(.exit 0,⟨([.undef,.gE mW x]++bG 69 []),[],(List.replicate 71 [])⟩)
abbrev cv.L0.X:=(cv.L0.X0)⊕(cv.L0.X1)
abbrev cv.L0.Y:=(cv.L0.Y0)⊕(cv.L0.Y1)
def cv.L0.out:cv.L0.X->Out (Exit×AS):=λx=> .br x.isLeft (.get x.getLeft? λa=> .ok (cv.L0.bY a)) (.get x.getRight? λb=> .ok (cv.L0.ko b))
def cv.L0.add:cv.L0.D->cv.L0.Y->cv.L0.X:=λ(jC,i) y=>match y with | .inl y=> .inl y | .inr z=> .inr (jC)
abbrev cv.D:=iP
def cv.st:cv.D->SA:=λch=>([.d mW ch],[])
abbrev cv.Y:=Int
abbrev cv.X:=Int
def cv.out:cv.X->aX:=λx=>⟨.d ti x,[],[]⟩
def cv.add:cv.D->cv.Y->cv.X:=λch y=>y
def cv.L0.az:cv.L0.D->Prop:=λ(ch,i)=>mX ch/\∃k:Nat,k<=2/\i=k
def cv.L0.F:cv.L0.D->cv.L0.Y:=λ_=> .inr ()
def cv.az:cv.D->Prop:=λch=>mX ch
def cv.F:cv.D->cv.Y:=λ_=>0
def cv.G:fD:=gr (P:=Tryz.prog) [iH.sg,pM.sg,fP.sg]
def cv.L0.E:=cU.dp cv.L0.st cv.L0.az cv.L0.add cv.L0.F cv.L0.out
def cv.L0.call:cv.L0.D->Option cv.L0.X:=eI cv.L0.E cv.L0.st
def cv.an:fR:= {loops:=om [(4,{bO:=[1,3]}),(11,{bO:=[1,3,5,6],sites:=[4,9,15,21,47,57]})],outs:=oh [(4,{bO:=[1]},{bO:=[2]}),(11,{bO:=[1,3],sites:=[4,9,15,21,47,57]},{bO:=[2],sites:=[4,9,15,21,47,57]})],jo:=pb [(4,cv.L0.E)]}
def cv.A:= @dm Tryz.prog cv.G cv.an 6 Tryz.f63 _ cv.st
abbrev cv.Ok:=dn @cv.A cv.az cv.add cv.F cv.out
def cv.L0.R:= @dr Tryz.prog cv.G cv.an 6 Tryz.f63 0 _ cv.L0.st
abbrev cv.L0.Ok:=gz Tryz.prog cv.G cv.an 6 Tryz.f63 0 cv.L0.st cv.L0.az cv.L0.add cv.L0.F cv.L0.out
theorem cv.L0.run:b8 cv.L0.call cv.L0.az cv.L0.add cv.L0.F:=gR (gJ [.d mW,.d ti] λ_=>by kernel_rfl)
theorem cv.L0.aI:rV @cv.L0.R cv.L0.st cv.L0.az cv.L0.add cv.L0.F cv.L0.out cv.L0.Ok:=sy
theorem cv.L0.step{R:Type}(jC:iP)(i:Int)(kn:AS->Option R)(kx:Exit->AS->Option R):cv.L0.R (jC,i) kn kx=
  aJ ((jM i (2:Int))) (
   aJ (fB i (2:Int)) (
   aJ (fB i (2:Int)) (
   ah (pM.call (nth oI jC.2.2.2.1 (Int.toNat i))) λx1=>
   aJ ((!x1)) (
    kx (cv.L0.bY ()).1 (cv.L0.bY ()).2) (
    ah (fP.call (nth qo jC.2.2.1 (Int.toNat i)).1) λx2=>
    aJ ((!x2)) (
     kx (cv.L0.bY ()).1 (cv.L0.bY ()).2) (
     ah (fP.call (nth qo jC.2.2.1 (Int.toNat i)).2.1) λx3=>
     aJ ((!x3)) (
      kx (cv.L0.bY ()).1 (cv.L0.bY ()).2) (
      ah (fP.call (nth qo jC.2.2.1 (Int.toNat i)).2.2.1) λx4=>
      aJ ((!x4)) (
       kx (cv.L0.bY ()).1 (cv.L0.bY ()).2) (
       ah (fP.call (nth qo jC.2.2.1 (Int.toNat i)).2.2.2.1) λx5=>
       aJ ((!x5)) (
        kx (cv.L0.bY ()).1 (cv.L0.bY ()).2) (
        ah (fP.call (nth qo jC.2.2.1 (Int.toNat i)).2.2.2.2.1) λx6=>
        aJ ((!x6)) (
         kx (cv.L0.bY ()).1 (cv.L0.bY ()).2) (
         kn (cv.L0.st (jC,(bV .i64 i (1:Int))))))))))) none) none) (
   kx (cv.L0.ko jC).1 (cv.L0.ko jC).2):=by kernel_rfl
theorem cv.eq{R:Type}(ch:iP)(k:aX->Option R):cv.A ch k=
  ah (iH.call (ch.2.1,(1:Int),(1125899906842624:Int))) λx1=>
  aJ ((!x1)) (
   k (cv.out (1:Int))) (
   ah (iH.call (ch.1.2.1,(0:Int),(63:Int))) λx2=>
   aJ ((!x2)) (
    k (cv.out (1:Int))) (
    ah (iH.call (ch.2.2.2.2.1,(0:Int),(1:Int))) λx3=>
    aJ ((!x3)) (
     k (cv.out (1:Int))) (
     ah (cv.L0.call (ch,(0:Int))) λBi=>
     aJ (Bi.isLeft) (
      ah (Bi.getLeft?) λa11=>
      k (cv.out (1:Int))) (
      ah (Bi.getRight?) λb12=>
      aJ ((sh (bV .i64 (nth oI b12.2.2.2.1 0).2.1 (nth oI b12.2.2.2.1 1).2.1) b12.2.1)) (
       k (cv.out (10:Int))) (
       k (cv.out (0:Int))))))):=by kernel_rfl
theorem cv.L0.ok:cv.L0.Ok:=by
 refine cv.L0.aI (λ(_,i)=>(2 - i).toNat) ?_
 rintro⟨ch,i⟩ ⟨⟨a,b0,b1,o,rfl,ha,Td,g0,g1,ho⟩,k,hk,rfl⟩
 have hk:k<=2:=hk
 have hg:mX (xc a b0 b1 o):=⟨a,b0,b1,o,rfl,ha,Td,g0,g1,ho⟩
 by_cases h:k < 2
 ·left
  refine⟨(xc a b0 b1 o,((k+1:Nat):Int)),⟨hg,k+1,by omega,rfl⟩,by show(2 - ((k+1:Nat):Int)).toNat < (2 - (k:Int)).toNat;omega,rfl,λkn kx=> ?_⟩
  have ht:nth oI [te 5,te 6] k=te 5\/nth oI [te 5,te 6] k=te 6:=by
   obtain rfl | rfl:k=0\/k=1:=by omega
   ·exact .inl rfl
   ·exact .inr rfl
  have hb:QJ (nth qo [b0,b1] k):=by
   obtain rfl | rfl:k=0\/k=1:=by omega
   ·exact g0
   ·exact g1
  rw[cv.L0.step,bI (by omega),ae,bF (by omega) (by omega),ae,ae,aa]
  simp only[xc]
  rw[pM.run (d:=nth oI [te 5,te 6] k) ht]
  simp only[ab,pM.add,pM.F,bZ,ai]
  rw[fP.g hb.1]
  simp only[ab,bZ,ai]
  rw[fP.g hb.2.1]
  simp only[ab,bZ,ai]
  rw[fP.g hb.2.2.1]
  simp only[ab,bZ,ai]
  rw[fP.g hb.2.2.2.1]
  simp only[ab,bZ,ai]
  rw[fP.g hb.2.2.2.2]
  simp only[ab,bZ,ai]
  rw[N.pF (by omega)]
 ·right
  obtain rfl:k=2:=by omega
  refine⟨cv.L0.ko (xc a b0 b1 o),rfl,λkn kx=> ?_⟩
  rw[cv.L0.step,bp (by omega),ai]
theorem cv.ok:cv.Ok:=by
 rintro ch hg
 obtain⟨a,b0,b1,o,rfl,ha,Td,g0,g1,ho⟩:=id hg
 rw[cv.eq,iH.c,iH.c,iH.c]
 simp only[xc,ab]
 rw[kr (by omega) (by omega),kr (by omega) (by omega),kr (by omega) (by omega)]
 simp only[bZ,ai]
 have:=cv.L0.run (d:=(xc a b0 b1 o,0)) ⟨hg,0,by omega,rfl⟩
 simp only[xc]at this
 rw[this]
 simp only[ab,cv.L0.add,cv.L0.F,jB,ai,iD]
 rw[show(bV .i64 (nth oI [te 5,te 6] 0).2.1 (nth oI [te 5,te 6] 1).2.1)=400 from rfl,dY (by omega),ai]
 rfl
def cv.E:=Entry.dp [some mW] cv.st cv.az cv.add cv.F cv.out
def cv.call:cv.D->Option cv.X:=bX cv.E cv.st
theorem cv.run:b8 cv.call cv.az cv.add cv.F:=dv (du [.d mW] λ_=>by kernel_rfl)
def cv.sg:SG Tryz.prog:=⟨63,aP,cv.E,.fn 2 (by kernel_rfl) cv.ok (And.intro (.dp cv.L0.ok (by kernel_rfl)) (And.intro (.none (by kernel_rfl)) trivial))⟩
abbrev j8.D:=Int
def j8.st:j8.D->SA:=λp=>([.d tu p],[])
abbrev j8.Y:=Bool
abbrev j8.X:=Bool
def j8.out:j8.X->aX:=λx=>⟨.d .bool x,[],[]⟩
def j8.add:j8.D->j8.Y->j8.X:=λp y=>y
def j8.az:j8.D->Prop:=λp=>iy p
def j8.F:j8.D->j8.Y:=λp=> !DT p
def j8.G:fD:=gr (P:=Tryz.prog) [dy.sg]
def j8.an:fR:= {}
def j8.A:= @dm Tryz.prog j8.G j8.an 0 Tryz.f169 _ j8.st
abbrev j8.Ok:=dn @j8.A j8.az j8.add j8.F j8.out
theorem j8.eq{R:Type}(p:Int)(k:aX->Option R):j8.A p k=
  aJ ((mV p (1:Int))) (
   k (j8.out true)) (
   ah (dy.call p) λx1=>
   k (j8.out (!x1))):=by kernel_rfl
theorem j8.ok:j8.Ok:=by
 intro p hp
 rw[j8.eq]
 simp only[j8.add,j8.F,DT]
 by_cases h:p=1
 ·rw[fA h,ae,gZ h,lC];rfl
 ·rw[fJ h,ai,dy.run (d:=p) hp,jE h,ln]
  rfl
def j8.E:=Entry.dp [some tu] j8.st j8.az j8.add j8.F j8.out
def j8.call:j8.D->Option j8.X:=bX j8.E j8.st
theorem j8.run:b8 j8.call j8.az j8.add j8.F:=dv (du [.d tu] λ_=>by kernel_rfl)
def j8.sg:SG Tryz.prog:=⟨169,aP,j8.E,.fn 0 (by kernel_rfl) j8.ok trivial⟩
abbrev iL.L0.D:=Bs×Int×Int
def iL.L0.st:iL.L0.D->AS:=λ(ef,t7,t8)=>⟨([.d tU ef,.fn 169 (.nil)]++bG 5 ([.d ti t7,.d ti t8]++bG 10 [])),[],(List.replicate 19 [])⟩
abbrev iL.L0.Y0:=Int
abbrev iL.L0.X0:=Int
def iL.L0.bY:iL.L0.X0->Exit×AS:=λx=>(.ret,⟨(bG 4 ([.d ti x]++bG 14 [])),[],(List.replicate 19 [])⟩)
abbrev iL.L0.Y1:=Unit
abbrev iL.L0.X1:=Unit
def iL.L0.ko:iL.L0.X1->Exit×AS:=λx=>(.exit 0,⟨(bG 19 []),[],(List.replicate 19 [])⟩)
abbrev iL.L0.X:=(iL.L0.X0)⊕(iL.L0.X1)
abbrev iL.L0.Y:=(iL.L0.Y0)⊕(iL.L0.Y1)
def iL.L0.out:iL.L0.X->Out (Exit×AS):=λx=> .br x.isLeft (.get x.getLeft? λa=> .ok (iL.L0.bY a)) (.get x.getRight? λb=> .ok (iL.L0.ko b))
def iL.L0.add:iL.L0.D->iL.L0.Y->iL.L0.X:=λ(ef,t7,t8) y=>match y with | .inl y=> .inl y | .inr z=> .inr (z)
abbrev iL.D:=Bs
def iL.st:iL.D->SA:=λsv=>([.d tU sv,.fn 169 (.nil)],[])
abbrev iL.Y:=Int
abbrev iL.X:=Int
def iL.out:iL.X->aX:=λx=>⟨.d ti x,[],[]⟩
def iL.add:iL.D->iL.Y->iL.X:=λsv y=>y
def iL.L0.az:iL.L0.D->Prop:=λ(l,n,i)=>(∀x∈l,iy x)/\l.length<=1000000000/\n=l.length/\∃k:Nat,k<=l.length/\i=k
def iL.L0.F:iL.L0.D->iL.L0.Y:=λ(l,n,i)=>tD (λp=> !DT p) (l.drop i.toNat) i
def iL.az:iL.D->Prop:=λl=>(∀x∈l,iy x)/\l.length<=1000000000
def iL.F:iL.D->iL.Y:=λl=>DF (λp=> !DT p) l
def iL.G:fD:=gr (P:=Tryz.prog) [j8.sg]
def iL.L0.E:=cU.dp iL.L0.st iL.L0.az iL.L0.add iL.L0.F iL.L0.out
def iL.L0.call:iL.L0.D->Option iL.L0.X:=eI iL.L0.E iL.L0.st
def iL.an:fR:= {loops:=om [(2,{bO:=[0,1,7,8]})],outs:=oh [(2,{},{bO:=[4]})],jo:=pb [(2,iL.L0.E)]}
def iL.A:= @dm Tryz.prog iL.G iL.an 0 Tryz.f77 _ iL.st
abbrev iL.Ok:=dn @iL.A iL.az iL.add iL.F iL.out
def iL.L0.R:= @dr Tryz.prog iL.G iL.an 0 Tryz.f77 0 _ iL.L0.st
abbrev iL.L0.Ok:=gz Tryz.prog iL.G iL.an 0 Tryz.f77 0 iL.L0.st iL.L0.az iL.L0.add iL.L0.F iL.L0.out
theorem iL.L0.run:b8 iL.L0.call iL.L0.az iL.L0.add iL.L0.F:=gR (gJ [.d tU,.d ti,.d ti] λ_=>by kernel_rfl)
theorem iL.L0.aI:rV @iL.L0.R iL.L0.st iL.L0.az iL.L0.add iL.L0.F iL.L0.out iL.L0.Ok:=sy
theorem iL.L0.step{R:Type}(ef:Bs)(t7:Int)(t8:Int)(kn:AS->Option R)(kx:Exit->AS->Option R):iL.L0.R (ef,t7,t8) kn kx=
  aJ ((jM t8 t7)) (
   aJ (fB t8 (((List.length ef):Nat):Int)) (
   ah (j8.call (nth tu ef (Int.toNat t8))) λx1=>
   aJ (x1) (
    kx (iL.L0.bY t8).1 (iL.L0.bY t8).2) (
    kn (iL.L0.st (ef,t7,(bV .i64 t8 (1:Int)))))) none) (
   kx (iL.L0.ko ()).1 (iL.L0.ko ()).2):=by kernel_rfl
theorem iL.eq{R:Type}(sv:Bs)(k:aX->Option R):iL.A sv k=
  ah (iL.L0.call (sv,(((List.length sv):Nat):Int),(0:Int))) λx2=>
  aJ (x2.isLeft) (
   ah (x2.getLeft?) λa3=>
   k (iL.out a3)) (
   ah (x2.getRight?) λb4=>
   k (iL.out (-1:Int))):=by kernel_rfl
theorem iL.L0.ok:iL.L0.Ok:=by
 refine iL.L0.aI (λ(l,n,i)=>l.length - i.toNat) ?_
 rintro⟨l,n,i⟩ ⟨hl,hb,rfl,k,hk,rfl⟩
 have hb:l.length<=1000000000:=hb
 have hk:k<=l.length:=hk
 by_cases h:k < l.length
 ·have hx:=hl _ (List.getElem_mem h)
  have n1:nth tu l k=l[k]:=dQ (t:=tu) h
  have hd:tD (λp=> !DT p) (l.drop k) k=if(λp=> !DT p) l[k] then .inl (k:Int) else tD (λp=> !DT p) (l.drop (k+1)) ((k+1:Nat):Int):=by rw[av h];rfl
  have step:∀ {R:Type} (kn:AS->Option R) (kx:Exit->AS->Option R),iL.L0.R (l,(l.length:Int),(k:Int)) kn kx=aJ ((λp=> !DT p) l[k]) (kx (iL.L0.bY (k:Int)).1 (iL.L0.bY (k:Int)).2) (kn (iL.L0.st (l,(l.length:Int),((k+1:Nat):Int)))):=by
   intro R kn kx
   rw[iL.L0.step,bI (by omega),bF (by omega) (by omega),aa,n1,j8.run (d:=l[k]) hx,N.pF (by omega)]
   rfl
  cases hp:(λp=> !DT p) l[k]
  ·left
   refine⟨(l,l.length,((k+1:Nat):Int)),⟨hl,hb,rfl,k+1,by omega,rfl⟩,by simp only[aa];omega,?_,λkn kx=> ?_⟩
   ·simp only[iL.L0.add,iL.L0.F,aa,hd,hp,cD,if_false]
   ·rw[step,hp,ai]
  ·right
   refine⟨iL.L0.bY (k:Int),?_,λkn kx=> ?_⟩
   ·simp only[iL.L0.add,iL.L0.F,aa,hd,hp,if_true]
    rfl
   ·rw[step,hp,ae]
 ·right
  obtain rfl:k=l.length:=by omega
  refine⟨iL.L0.ko (),?_,λkn kx=> ?_⟩
  ·simp only[iL.L0.add,iL.L0.F,aa,bB]
   rfl
  ·rw[iL.L0.step,bp (by omega),ai]
theorem iL.ok:iL.Ok:=by
 rintro l ⟨hl,hb⟩
 rw[iL.eq,iL.L0.run (d:=(l,l.length,0)) ⟨hl,hb,rfl,0,by omega,rfl⟩]
 simp only[ab,iL.L0.add,iL.L0.F,bH,aW,iL.add,iL.F,DF]
 cases tD (λp=> !DT p) l 0 <;> rfl
def iL.E:=Entry.dp [some tU,none] iL.st iL.az iL.add iL.F iL.out
def iL.call:iL.D->Option iL.X:=bX iL.E iL.st
theorem iL.run:b8 iL.call iL.az iL.add iL.F:=dv (du [.d tU] λ_=>by kernel_rfl)
def iL.sg:SG Tryz.prog:=⟨77,aP,iL.E,.fn 1 (by kernel_rfl) iL.ok (And.intro (.dp iL.L0.ok (by kernel_rfl)) trivial)⟩
abbrev qt.D:=Bs
def qt.st:qt.D->SA:=λsv=>([.d tU sv,.fn 169 (.nil)],[])
abbrev qt.Y:=Bool
abbrev qt.X:=Bool
def qt.out:qt.X->aX:=λx=>⟨.d .bool x,[],[]⟩
def qt.add:qt.D->qt.Y->qt.X:=λsv y=>y
def qt.az:qt.D->Prop:=λl=>(∀x∈l,iy x)/\l.length<=1000000000
def qt.F:qt.D->qt.Y:=λl=>l.any (λp=> !DT p)
def qt.G:fD:=gr (P:=Tryz.prog) [iL.sg]
def qt.an:fR:= {}
def qt.A:= @dm Tryz.prog qt.G qt.an 0 Tryz.f35 _ qt.st
abbrev qt.Ok:=dn @qt.A qt.az qt.add qt.F qt.out
theorem qt.eq{R:Type}(sv:Bs)(k:aX->Option R):qt.A sv k=
 ah (iL.call sv) λx1=>
 k (qt.out (qu x1 (0:Int))):=by kernel_rfl
theorem qt.ok:qt.Ok:=by
 rintro l ⟨hl,hb⟩
 rw[qt.eq,iL.run (d:=l) ⟨hl,hb⟩]
 simp only[ab,iL.add,iL.F,yA]
 rfl
def qt.E:=Entry.dp [some tU,none] qt.st qt.az qt.add qt.F qt.out
def qt.call:qt.D->Option qt.X:=bX qt.E qt.st
theorem qt.run:b8 qt.call qt.az qt.add qt.F:=dv (du [.d tU] λ_=>by kernel_rfl)
def qt.sg:SG Tryz.prog:=⟨35,aP,qt.E,.fn 0 (by kernel_rfl) qt.ok trivial⟩
abbrev dz.D:=Kz
def dz.st:dz.D->SA:=λb=>([.d qo b],[])
abbrev dz.Y:=Bool
abbrev dz.X:=Bool
def dz.out:dz.X->aX:=λx=>⟨.d .bool x,[],[]⟩
def dz.add:dz.D->dz.Y->dz.X:=λb y=>y
def dz.az:dz.D->Prop:=λb=>QJ b
def dz.F:dz.D->dz.Y:=λ_=>true
def dz.G:fD:=gr (P:=Tryz.prog) [qt.sg]
def dz.an:fR:= {}
def dz.A:= @dm Tryz.prog dz.G dz.an 0 Tryz.f135 _ dz.st
abbrev dz.Ok:=dn @dz.A dz.az dz.add dz.F dz.out
theorem dz.eq{R:Type}(b:Kz)(k:aX->Option R):dz.A b k=
 ah (qt.call [b.1,b.2.1,b.2.2.1,b.2.2.2.1,b.2.2.2.2.1]) λx1=>
 k (dz.out (!x1)):=by kernel_rfl
theorem dz.ok:dz.Ok:=by
 intro b hb
 rw[dz.eq,qt.run (d:=[b.1,b.2.1,b.2.2.1,b.2.2.2.1,b.2.2.2.2.1]) ⟨λx hx=> ?_,by show 5<=_;decide⟩]
 ·simp only[ab,qt.add,qt.F,nc,List.any_nil,hb.1.2,hb.2.1.2,hb.2.2.1.2,hb.2.2.2.1.2,hb.2.2.2.2.2]
  rfl
 ·simp only[cE,List.mem_nil_iff,or_false]at hx
  rcases hx with rfl | rfl | rfl | rfl | rfl
  ·exact hb.1.1
  ·exact hb.2.1.1
  ·exact hb.2.2.1.1
  ·exact hb.2.2.2.1.1
  ·exact hb.2.2.2.2.1
def dz.E:=Entry.dp [some qo] dz.st dz.az dz.add dz.F dz.out
def dz.call:dz.D->Option dz.X:=bX dz.E dz.st
theorem dz.run:b8 dz.call dz.az dz.add dz.F:=dv (du [.d qo] λ_=>by kernel_rfl)
def dz.sg:SG Tryz.prog:=⟨135,aP,dz.E,.fn 0 (by kernel_rfl) dz.ok trivial⟩
abbrev cG.L0.D:=iP×(List LW)×Int
def cG.L0.st:cG.L0.D->AS:=λ(jC,t34,t35)=>⟨([.undef,.gE mW jC]++bG 32 ([.d (.arr 2 oI) t34,.d ti t35]++bG 35 [])),[],(List.replicate 71 [])⟩
abbrev cG.L0.Y0:=Unit
abbrev cG.L0.X0:=Unit
def cG.L0.bY:cG.L0.X0->Exit×AS:=λx=>(.ret,⟨([.undef,.undef,.d ti (1:Int)]++bG 68 []),[],(List.replicate 71 [])⟩)
abbrev cG.L0.Y1:=Unit
abbrev cG.L0.X1:=iP
def cG.L0.ko:cG.L0.X1->Exit×AS:=λx=>(.exit 0,⟨([.undef,.gE mW x]++bG 69 []),[],(List.replicate 71 [])⟩)
abbrev cG.L0.X:=(cG.L0.X0)⊕(cG.L0.X1)
abbrev cG.L0.Y:=(cG.L0.Y0)⊕(cG.L0.Y1)
def cG.L0.out:cG.L0.X->Out (Exit×AS):=λx=> .br x.isLeft (.get x.getLeft? λa=> .ok (cG.L0.bY a)) (.get x.getRight? λb=> .ok (cG.L0.ko b))
def cG.L0.add:cG.L0.D->cG.L0.Y->cG.L0.X:=λ(jC,t34,t35) y=>match y with | .inl y=> .inl y | .inr z=> .inr (jC)
abbrev cG.D:=iP
def cG.st:cG.D->SA:=λch=>([.d mW ch],[])
abbrev cG.Y:=Int
abbrev cG.X:=Int
def cG.out:cG.X->aX:=λx=>⟨.d ti x,[],[]⟩
def cG.add:cG.D->cG.Y->cG.X:=λch y=>y
def cG.L0.az:cG.L0.D->Prop:=λ(ch,l,i)=>mX ch/\l=[te 5,te 6]/\∃k:Nat,k<=2/\i=k
def cG.L0.F:cG.L0.D->cG.L0.Y:=λ_=> .inr ()
def cG.az:cG.D->Prop:=λch=>mX ch
def cG.F:cG.D->cG.Y:=λ_=>0
def cG.G:fD:=gr (P:=Tryz.prog) [dM.sg,dz.sg,jn.sg]
def cG.L0.E:=cU.dp cG.L0.st cG.L0.az cG.L0.add cG.L0.F cG.L0.out
def cG.L0.call:cG.L0.D->Option cG.L0.X:=eI cG.L0.E cG.L0.st
def cG.an:fR:= {loops:=om [(4,{bO:=[1,34,35]})],outs:=oh [(4,{bO:=[1]},{bO:=[2]})],jo:=pb [(4,cG.L0.E)]}
def cG.A:= @dm Tryz.prog cG.G cG.an 0 Tryz.f91 _ cG.st
abbrev cG.Ok:=dn @cG.A cG.az cG.add cG.F cG.out
def cG.L0.R:= @dr Tryz.prog cG.G cG.an 0 Tryz.f91 0 _ cG.L0.st
abbrev cG.L0.Ok:=gz Tryz.prog cG.G cG.an 0 Tryz.f91 0 cG.L0.st cG.L0.az cG.L0.add cG.L0.F cG.L0.out
theorem cG.L0.run:b8 cG.L0.call cG.L0.az cG.L0.add cG.L0.F:=gR (gJ [.d mW,.d (.slice oI),.d ti] λ_=>by kernel_rfl)
theorem cG.L0.aI:rV @cG.L0.R cG.L0.st cG.L0.az cG.L0.add cG.L0.F cG.L0.out cG.L0.Ok:=sy
theorem cG.L0.step{R:Type}(jC:iP)(t34:(List LW))(t35:Int)(kn:AS->Option R)(kx:Exit->AS->Option R):cG.L0.R (jC,t34,t35) kn kx=
  aJ ((jM t35 (2:Int))) (
   aJ (fB t35 (2:Int)) (
   ah (dM.call (nth oI t34 (Int.toNat t35))) λx1=>
   aJ ((!x1)) (
    kx (cG.L0.bY ()).1 (cG.L0.bY ()).2) (
    aJ (fB t35 (2:Int)) (
    ah (dz.call (nth qo jC.2.2.1 (Int.toNat t35))) λx2=>
    aJ ((!x2)) (
     kx (cG.L0.bY ()).1 (cG.L0.bY ()).2) (
     kn (cG.L0.st (jC,t34,(bV .i64 t35 (1:Int)))))) none)) none) (
   kx (cG.L0.ko jC).1 (cG.L0.ko jC).2):=by kernel_rfl
theorem cG.eq{R:Type}(ch:iP)(k:aX->Option R):cG.A ch k=
  aJ ((jM ch.2.1 (1:Int))) (
   k (cG.out (1:Int))) (
   aJ ((sh ch.2.1 (1125899906842624:Int))) (
    k (cG.out (1:Int))) (
    aJ ((jM ch.1.2.1 (0:Int))) (
     k (cG.out (1:Int))) (
     aJ ((qu ch.1.2.1 (64:Int))) (
      k (cG.out (1:Int))) (
      aJ ((tc (dD .andNot .i64 ch.2.2.2.2.1 (1:Int)) (0:Int))) (
       k (cG.out (1:Int))) (
       ah (cG.L0.call (ch,ch.2.2.2.1,(0:Int))) λx3=>
       aJ (x3.isLeft) (
        ah (x3.getLeft?) λa4=>
        k (cG.out (1:Int))) (
        ah (x3.getRight?) λb5=>
        ah (jn.call ((nth oI b5.2.2.2.1 0).2.1,(nth oI b5.2.2.2.1 1).2.1)) λx6=>
        aJ ((!x6.2)) (
         k (cG.out (10:Int))) (
         aJ ((sh x6.1 b5.2.1)) (
          k (cG.out (10:Int))) (
          k (cG.out (0:Int)))))))))):=by kernel_rfl
theorem cG.L0.ok:cG.L0.Ok:=by
 refine cG.L0.aI (λ(_,_,i)=>(2 - i).toNat) ?_
 rintro⟨ch,l,i⟩ ⟨⟨a,b0,b1,o,rfl,ha,Td,g0,g1,ho⟩,rfl,k,hk,rfl⟩
 have hk:k<=2:=hk
 have hg:mX (xc a b0 b1 o):=⟨a,b0,b1,o,rfl,ha,Td,g0,g1,ho⟩
 by_cases h:k < 2
 ·left
  refine⟨(xc a b0 b1 o,[te 5,te 6],((k+1:Nat):Int)),⟨hg,rfl,k+1,by omega,rfl⟩,by show(2 - ((k+1:Nat):Int)).toNat < (2 - (k:Int)).toNat;omega,rfl,λkn kx=> ?_⟩
  have ht:nth oI [te 5,te 6] k=te 5\/nth oI [te 5,te 6] k=te 6:=by
   obtain rfl | rfl:k=0\/k=1:=by omega
   ·exact .inl rfl
   ·exact .inr rfl
  have hb:QJ (nth qo [b0,b1] k):=by
   obtain rfl | rfl:k=0\/k=1:=by omega
   ·exact g0
   ·exact g1
  rw[cG.L0.step,bI (by omega),ae,bF (by omega) (by omega),ae,aa]
  rw[dM.run (d:=nth oI [te 5,te 6] k) ht]
  simp only[ab,dM.add,dM.F,bZ,ai,ae]
  simp only[xc]
  rw[dz.run (d:=nth qo [b0,b1] k) hb]
  simp only[ab,dz.add,dz.F,bZ,ai]
  rw[N.pF (by omega)]
 ·right
  obtain rfl:k=2:=by omega
  refine⟨cG.L0.ko (xc a b0 b1 o),rfl,λkn kx=> ?_⟩
  rw[cG.L0.step,bp (by omega),ai]
theorem OK{o:Int}(h:o=0\/o=1):tc (dD .andNot .i64 o 1) 0=false:=by
 rcases h with rfl | rfl
 ·decide
 ·decide
theorem cG.ok:cG.Ok:=by
 rintro ch hg
 obtain⟨a,b0,b1,o,rfl,ha,Td,g0,g1,ho⟩:=id hg
 have hl:=cG.L0.run (d:=(xc a b0 b1 o,[te 5,te 6],0)) ⟨hg,rfl,0,by omega,rfl⟩
 rw[cG.eq]
 simp only[xc]at hl
 simp only[xc,ab]
 rw[bp (by omega),ai,dY (by omega),ai,bp (by omega),ai,jg (by omega),ai,OK ho,ai,hl]
 simp only[ab,cG.L0.add,cG.L0.F,jB,ai,iD]
 rw[jn.run (d:=((nth oI [te 5,te 6] 0).2.1,(nth oI [te 5,te 6] 1).2.1)) trivial]
 simp only[ab,jn.add,jn.F]
 rw[show(bif tS (nth oI [te 5,te 6] 0).2.1 (nth oI [te 5,te 6] 1).2.1 then(nth oI [te 5,te 6] 0).2.1+(nth oI [te 5,te 6] 1).2.1 else 0)=400 from rfl,show tS (nth oI [te 5,te 6] 0).2.1 (nth oI [te 5,te 6] 1).2.1=true from rfl,bZ,ai,dY (by omega),ai]
 rfl
def cG.E:=Entry.dp [some mW] cG.st cG.az cG.add cG.F cG.out
def cG.call:cG.D->Option cG.X:=bX cG.E cG.st
theorem cG.run:b8 cG.call cG.az cG.add cG.F:=dv (du [.d mW] λ_=>by kernel_rfl)
def cG.sg:SG Tryz.prog:=⟨91,aP,cG.E,.fn 1 (by kernel_rfl) cG.ok (And.intro (.dp cG.L0.ok (by kernel_rfl)) trivial)⟩
abbrev eE.D:=jj
def eE.st:eE.D->SA:=λc=>([.d kf c],[])
abbrev eE.Y:=Bool
abbrev eE.X:=Bool
def eE.out:eE.X->aX:=λx=>⟨.d .bool x,[],[]⟩
def eE.add:eE.D->eE.Y->eE.X:=λc y=>y
def eE.az:eE.D->Prop:=λc=>iy c.2.2.2.1
def eE.F:eE.D->eE.Y:=λc=>F3 c
def eE.G:fD:=gr (P:=Tryz.prog) [dw.sg,jd.sg]
def eE.an:fR:= {}
def eE.A:= @dm Tryz.prog eE.G eE.an 0 Tryz.f65 _ eE.st
abbrev eE.Ok:=dn @eE.A eE.az eE.add eE.F eE.out
theorem eE.eq{R:Type}(c:jj)(k:aX->Option R):eE.A c k=
  ah (dw.call c.2.2.2.1) λx1=>
  aJ (x1) (
   aJ ((tc c.2.2.2.1 (1:Int))) (
    ah (jd.call (c.1,(0:Int),(1:Int))) λx2=>
    aJ (x2) (
     ah (jd.call (c.2.1,(1:Int),(1048576:Int))) λx3=>
     aJ (x3) (
      ah (jd.call (c.2.2.1,(1:Int),(1125899906842624:Int))) λx4=>
      aJ (x4) (
       ah (jd.call (c.2.2.2.2.1,(1:Int),(1048576:Int))) λx5=>
       k (eE.out x5)) (
       k (eE.out false))) (
      k (eE.out false))) (
     k (eE.out false))) (
    k (eE.out false))) (
   k (eE.out false)):=by kernel_rfl
theorem eE.ok:eE.Ok:=by
 intro c hc
 rw[eE.eq,dw.run (d:=c.2.2.2.1) hc]
 simp only[ab,jd.c,dw.add,dw.F,eE.add,eE.F,F3,DT]
 cases oM c.2.2.2.1 <;> cases tc c.2.2.2.1 1 <;> cases qv c.1 0 1 <;> cases qv c.2.1 1 1048576 <;> cases qv c.2.2.1 1 1125899906842624 <;> rfl
def eE.E:=Entry.dp [some kf] eE.st eE.az eE.add eE.F eE.out
def eE.call:eE.D->Option eE.X:=bX eE.E eE.st
theorem eE.run:b8 eE.call eE.az eE.add eE.F:=dv (du [.d kf] λ_=>by kernel_rfl)
def eE.sg:SG Tryz.prog:=⟨65,aP,eE.E,.fn 0 (by kernel_rfl) eE.ok trivial⟩
abbrev dB.D:=jj×jj
def dB.st:dB.D->SA:=λ(a,b)=>([.d kf a,.d kf b],[])
abbrev dB.Y:=Bool
abbrev dB.X:=Bool
def dB.out:dB.X->aX:=λx=>⟨.d .bool x,[],[]⟩
def dB.add:dB.D->dB.Y->dB.X:=λ(a,b) y=>y
def dB.az:dB.D->Prop:=λ_=>True
def dB.F:dB.D->dB.Y:=λ(a,b)=>zj a b
def dB.G:fD:=gr (P:=Tryz.prog) []
def dB.an:fR:= {}
def dB.A:= @dm Tryz.prog dB.G dB.an 0 Tryz.f66 _ dB.st
abbrev dB.Ok:=dn @dB.A dB.az dB.add dB.F dB.out
theorem dB.eq{R:Type}(a:jj)(b:jj)(k:aX->Option R):dB.A (a,b) k=
  aJ ((jM a.1 b.1)) (
   k (dB.out true)) (
   aJ ((mV a.1 b.1)) (
    k (dB.out (jM a.2.1 b.2.1))) (
    k (dB.out false))):=by kernel_rfl
theorem dB.ok:dB.Ok:=by
 rintro⟨a,b⟩ _
 rw[dB.eq]
 simp only[dB.add,dB.F,zj]
 by_cases h:a.1 < b.1
 ·rw[bI h,ae,aM (.inl h)]
 ·rw[bp h,ai]
  by_cases h2:a.1=b.1
  ·rw[fA h2,ae]
   by_cases h3:a.2.1 < b.2.1
   ·rw[bI h3,aM (.inr ⟨h2,h3⟩)]
   ·rw[bp h3,cq (by rintro(x | x);exact h x;exact h3 x.2)]
  ·rw[fJ h2,ai,cq (by rintro(x | x);exact h x;exact h2 x.1)]
def dB.E:=Entry.dp [some kf,some kf] dB.st dB.az dB.add dB.F dB.out
def dB.call:dB.D->Option dB.X:=bX dB.E dB.st
theorem dB.run:b8 dB.call dB.az dB.add dB.F:=dv (du [.d kf,.d kf] λ_=>by kernel_rfl)
def dB.sg:SG Tryz.prog:=⟨66,aP,dB.E,.fn 0 (by kernel_rfl) dB.ok trivial⟩
theorem dB.c(a b:jj):dB.call (a,b)=some (zj a b):=dB.run (d:=(a,b)) trivial
abbrev fe.D:=iP×jk
def fe.st:fe.D->SA:=λ(ch,sv)=>([.d mW ch,.d mu sv],[])
abbrev fe.Y:=Int
abbrev fe.X:=Int
def fe.out:fe.X->aX:=λx=>⟨.d ti x,[],[]⟩
def fe.add:fe.D->fe.Y->fe.X:=λ(ch,sv) y=>y
def fe.az:fe.D->Prop:=λ_=>True
def fe.F:fe.D->fe.Y:=λ(_,s)=>Bm s.2.2.2.1 s.2.2.1.length+660
def fe.G:fD:=gr (P:=Tryz.prog) [gG.sg]
def fe.an:fR:= {}
def fe.A:= @dm Tryz.prog fe.G fe.an 0 Tryz.f69 _ fe.st
abbrev fe.Ok:=dn @fe.A fe.az fe.add fe.F fe.out
theorem fe.eq{R:Type}(ch:iP)(sv:jk)(k:aX->Option R):fe.A (ch,sv) k=
 ah (gG.call (sv.2.2.2.1,(((List.length sv.2.2.1):Nat):Int))) λx1=>
 k (fe.out (bV .i64 x1 (660:Int))):=by kernel_rfl
theorem fe.ok:fe.Ok:=by
 rintro⟨ch,s⟩ _
 rw[fe.eq,gG.run (d:=(s.2.2.2.1,(s.2.2.1.length:Int))) trivial]
 simp only[ab,gG.add,gG.F,fe.add,fe.F]
 have:=vM s.2.2.2.1 s.2.2.1.length
 rw[ff (by omega) (by omega)]
def fe.E:=Entry.dp [some mW,some mu] fe.st fe.az fe.add fe.F fe.out
def fe.call:fe.D->Option fe.X:=bX fe.E fe.st
theorem fe.run:b8 fe.call fe.az fe.add fe.F:=dv (du [.d mW,.d mu] λ_=>by kernel_rfl)
def fe.sg:SG Tryz.prog:=⟨69,aP,fe.E,.fn 0 (by kernel_rfl) fe.ok trivial⟩
abbrev fH.D:=iP×jk
def fH.st:fH.D->SA:=λ(ch,sv)=>([.d mW ch,.d mu sv],[])
abbrev fH.Y:=Int
abbrev fH.X:=Int
def fH.out:fH.X->aX:=λx=>⟨.d ti x,[],[]⟩
def fH.add:fH.D->fH.Y->fH.X:=λ(ch,sv) y=>y
def fH.az:fH.D->Prop:=λ_=>True
def fH.F:fH.D->fH.Y:=λ(_,s)=>Bm s.2.2.2.1 s.2.2.1.length+660
def fH.G:fD:=gr (P:=Tryz.prog) [gb.sg]
def fH.an:fR:= {}
def fH.A:= @dm Tryz.prog fH.G fH.an 0 Tryz.f97 _ fH.st
abbrev fH.Ok:=dn @fH.A fH.az fH.add fH.F fH.out
theorem fH.eq{R:Type}(ch:iP)(sv:jk)(k:aX->Option R):fH.A (ch,sv) k=
 ah (gb.call (sv.2.2.2.1,(((List.length sv.2.2.1):Nat):Int))) λx1=>
 k (fH.out (bV .i64 x1 (660:Int))):=by kernel_rfl
theorem fH.ok:fH.Ok:=by
 rintro⟨ch,s⟩ _
 rw[fH.eq,gb.run (d:=(s.2.2.2.1,(s.2.2.1.length:Int))) trivial]
 simp only[ab,gb.add,gb.F,fH.add,fH.F]
 have:=vM s.2.2.2.1 s.2.2.1.length
 rw[ff (by omega) (by omega)]
def fH.E:=Entry.dp [some mW,some mu] fH.st fH.az fH.add fH.F fH.out
def fH.call:fH.D->Option fH.X:=bX fH.E fH.st
theorem fH.run:b8 fH.call fH.az fH.add fH.F:=dv (du [.d mW,.d mu] λ_=>by kernel_rfl)
def fH.sg:SG Tryz.prog:=⟨97,aP,fH.E,.fn 0 (by kernel_rfl) fH.ok trivial⟩
theorem By{to:Int}(h:to=0\/to=1):cY .i64 1 to=1 - to:=gQ (by omega) (by omega)
abbrev cH.L0.D:=Int×jk×Int×Int×Int
def cH.L0.st:cH.L0.D->AS:=λ(o4,ef,n,sum,i)=>⟨([.undef,.d ti o4,.gE mu ef,.undef,.undef,.undef,.d ti n,.d ti sum,.d ti i]++bG 28 []),[],(List.replicate 37 [])⟩
abbrev cH.L0.Y0:=Int×Int
abbrev cH.L0.X0:=Int×Int
def cH.L0.bY:cH.L0.X0->Exit×AS:=λx=>(.exit 0,⟨(bG 6 ([.d ti x.1,.d ti x.2]++bG 29 [])),[],(List.replicate 37 [])⟩)
abbrev cH.L0.X:=cH.L0.X0
abbrev cH.L0.Y:=cH.L0.Y0
def cH.L0.out:cH.L0.X->Out (Exit×AS):=λx=> .ok (cH.L0.bY x)
def cH.L0.add:cH.L0.D->cH.L0.Y->cH.L0.X:=λ(o4,ef,n,sum,i) y=>y
abbrev cH.D:=jk×Int
def cH.st:cH.D->SA:=λ(sv,to)=>([.d mu sv,.d ti to],[])
abbrev cH.Y:=Int×Int
abbrev cH.X:=Int×Int
def cH.out:cH.X->aX:=λx=>⟨.cons (.d ti x.1) (.cons (.d ti x.2) (.nil)),[],[]⟩
def cH.add:cH.D->cH.Y->cH.X:=λ(sv,to) y=>y
def cH.L0.az:cH.L0.D->Prop:=λ(to,sv,n,sum,i)=>(to=0\/to=1)/\(∀c∈sv.2.2.1,F9 c)/\sv.2.2.1.length<=1000/\∃k:Nat,k<=sv.2.2.1.length/\i=k/\(0<=n/\n<=k)/\0<=sum/\sum<=1125899906842624*k
def cH.L0.F:cH.L0.D->cH.L0.Y:=λ(to,sv,n,sum,i)=>(n+(lZ to (sv.2.2.1.drop i.toNat)).length,sum+jL (lZ to (sv.2.2.1.drop i.toNat)))
def cH.az:cH.D->Prop:=λ(s,to)=>(to=0\/to=1)/\(∀c∈s.2.2.1,F9 c)/\s.2.2.1.length<=1000
def cH.F:cH.D->cH.Y:=λ(s,to)=>(((lZ to s.2.2.1).length:Nat),jL (lZ to s.2.2.1))
def cH.G:fD:=gr (P:=Tryz.prog) []
def cH.L0.E:=cU.dp cH.L0.st cH.L0.az cH.L0.add cH.L0.F cH.L0.out
def cH.L0.call:cH.L0.D->Option cH.L0.X:=eI cH.L0.E cH.L0.st
def cH.an:fR:= {loops:=om [(4,{bO:=[1,2,6,7,8]})],outs:=oh [(4,{bO:=[6,7]},{bO:=[4,5]})],jo:=pb [(4,cH.L0.E)]}
def cH.A:= @dm Tryz.prog cH.G cH.an 0 Tryz.f67 _ cH.st
abbrev cH.Ok:=dn @cH.A cH.az cH.add cH.F cH.out
def cH.L0.R:= @dr Tryz.prog cH.G cH.an 0 Tryz.f67 0 _ cH.L0.st
abbrev cH.L0.Ok:=gz Tryz.prog cH.G cH.an 0 Tryz.f67 0 cH.L0.st cH.L0.az cH.L0.add cH.L0.F cH.L0.out
theorem cH.L0.run:b8 cH.L0.call cH.L0.az cH.L0.add cH.L0.F:=gR (gJ [.d ti,.d mu,.d ti,.d ti,.d ti] λ_=>by kernel_rfl)
theorem cH.L0.aI:jl @cH.L0.R cH.L0.st cH.L0.az cH.L0.add cH.L0.F cH.L0.bY cH.L0.Ok:=js
theorem cH.L0.step{R:Type}(o4:Int)(ef:jk)(n:Int)(sum:Int)(i:Int)(kn:AS->Option R)(kx:Exit->AS->Option R):cH.L0.R (o4,ef,n,sum,i) kn kx=
  aJ ((jM i (((List.length ef.2.2.1):Nat):Int))) (
   aJ (fB i (((List.length ef.2.2.1):Nat):Int)) (
   aJ ((mV (nth kf ef.2.2.1 (Int.toNat i)).1 (cY .i64 (1:Int) o4))) (
    aJ (fB i (((List.length ef.2.2.1):Nat):Int)) (
    kn (cH.L0.st (o4,ef,(bV .i64 n (1:Int)),(bV .i64 sum (nth kf ef.2.2.1 (Int.toNat i)).2.2.1),(bV .i64 i (1:Int))))) none) (
    kn (cH.L0.st (o4,ef,n,sum,(bV .i64 i (1:Int)))))) none) (
   kx (cH.L0.bY (n,sum)).1 (cH.L0.bY (n,sum)).2):=by kernel_rfl
theorem cH.eq{R:Type}(sv:jk)(to:Int)(k:aX->Option R):cH.A (sv,to) k=
 ah (cH.L0.call (to,sv,(0:Int),(0:Int),(0:Int))) λx1=>
 k (cH.out (x1.1,x1.2)):=by kernel_rfl
theorem cH.L0.ok:cH.L0.Ok:=by
 refine cH.L0.aI (λ(to,sv,n,sum,i)=>sv.2.2.1.length - i.toNat) ?_
 rintro⟨to,sv,n,sum,i⟩ ⟨sY,hc,hl,k,hk,rfl,hn,L9,zF⟩
 have hk:k<=sv.2.2.1.length:=hk
 have hl:sv.2.2.1.length<=1000:=hl
 have sY:to=0\/to=1:=sY
 have hn:0<=n/\n<=k:=hn
 have L9:0<=sum:=L9
 have zF:sum<=1125899906842624*k:=zF
 by_cases h:k < sv.2.2.1.length
 ·left
  have hx:0<=sv.2.2.1[k].2.2.1/\sv.2.2.1[k].2.2.1<=1125899906842624:=hc _ (List.getElem_mem h)
  have n1:nth kf sv.2.2.1 k=sv.2.2.1[k]:=dQ (t:=kf) h
  have hd:=zY to sv.2.2.1[k] (sv.2.2.1.drop (k+1))
  rw[<-av h]at hd
  by_cases hq:sv.2.2.1[k].1=1 - to
  ·refine⟨(to,sv,n+1,sum+sv.2.2.1[k].2.2.1,((k+1:Nat):Int)),⟨sY,hc,hl,k+1,by omega,rfl,by omega,by omega,by omega⟩,by simp only[aa];omega,?_,λkn kx=> ?_⟩
   ·rw[fA hq,if_pos rfl]at hd
    simp only[cH.L0.add,cH.L0.F,aa,hd,aO,jL]
    rw[show n+1+((lZ to (sv.2.2.1.drop (k+1))).length:Int)=n+(((lZ to (sv.2.2.1.drop (k+1))).length+1:Nat):Int) by omega,qL]
   ·rw[cH.L0.step,bI (by omega),bF (by omega) (by omega),aa,n1,By sY,fA hq,N.pF (by omega),ff (by omega) (by omega),ff (by omega) (by omega)]
    simp only[ae]
  ·refine⟨(to,sv,n,sum,((k+1:Nat):Int)),⟨sY,hc,hl,k+1,by omega,rfl,by omega,by omega,by omega⟩,by simp only[aa];omega,?_,λkn kx=> ?_⟩
   ·rw[fJ hq,if_neg (by simp)]at hd
    simp only[cH.L0.add,cH.L0.F,aa,hd]
   ·rw[cH.L0.step,bI (by omega),bF (by omega) (by omega),aa,n1,By sY,fJ hq,N.pF (by omega)]
    simp only[ae,ai]
 ·right
  obtain rfl:k=sv.2.2.1.length:=by omega
  intro R kn kx
  rw[cH.L0.step,bp (by omega),ai]
  simp only[cH.L0.add,cH.L0.F,aa,bB,lZ,List.filter_nil,bM,jL,mE]
  rw[show(n+((0:Nat):Int))=n by omega]
theorem cH.ok:cH.Ok:=by
 rintro⟨s,to⟩ ⟨sY,hc,hl⟩
 rw[cH.eq,cH.L0.run (d:=(to,s,0,0,0)) ⟨sY,hc,hl,0,bm _,rfl,⟨by decide,by decide⟩,by decide,by decide⟩]
 simp only[ab,cH.L0.add,cH.L0.F,bH,aW,pT,cH.add,cH.F]
def cH.E:=Entry.dp [some mu,some ti] cH.st cH.az cH.add cH.F cH.out
def cH.call:cH.D->Option cH.X:=bX cH.E cH.st
theorem cH.run:b8 cH.call cH.az cH.add cH.F:=dv (du [.d mu,.d ti] λ_=>by kernel_rfl)
def cH.sg:SG Tryz.prog:=⟨67,aP,cH.E,.fn 1 (by kernel_rfl) cH.ok (And.intro (.dp cH.L0.ok (by kernel_rfl)) trivial)⟩
abbrev cP.L0.D:=Int×Int×Int×(List jj)×Int×Int
def cP.L0.st:cP.L0.D->AS:=λ(o4,n,sum,t11,t12,t13)=>⟨([.undef,.d ti o4]++bG 4 ([.d ti n,.d ti sum,.undef,.undef,.undef,.d (.slice kf) t11,.d ti t12,.d ti t13]++bG 17 [])),[],(List.replicate 31 [])⟩
abbrev cP.L0.Y0:=Int×Int
abbrev cP.L0.X0:=Int×Int
def cP.L0.bY:cP.L0.X0->Exit×AS:=λx=>(.exit 0,⟨(bG 6 ([.d ti x.1,.d ti x.2]++bG 23 [])),[],(List.replicate 31 [])⟩)
abbrev cP.L0.X:=cP.L0.X0
abbrev cP.L0.Y:=cP.L0.Y0
def cP.L0.out:cP.L0.X->Out (Exit×AS):=λx=> .ok (cP.L0.bY x)
def cP.L0.add:cP.L0.D->cP.L0.Y->cP.L0.X:=λ(o4,n,sum,t11,t12,t13) y=>y
abbrev cP.D:=jk×Int
def cP.st:cP.D->SA:=λ(sv,to)=>([.d mu sv,.d ti to],[])
abbrev cP.Y:=Int×Int
abbrev cP.X:=Int×Int
def cP.out:cP.X->aX:=λx=>⟨.cons (.d ti x.1) (.cons (.d ti x.2) (.nil)),[],[]⟩
def cP.add:cP.D->cP.Y->cP.X:=λ(sv,to) y=>y
def cP.L0.az:cP.L0.D->Prop:=λ(to,n,sum,l,m,i)=>(to=0\/to=1)/\(∀c∈l,F9 c)/\l.length<=1000/\m=l.length/\∃k:Nat,k<=l.length/\i=k/\(0<=n/\n<=k)/\0<=sum/\sum<=1125899906842624*k
def cP.L0.F:cP.L0.D->cP.L0.Y:=λ(to,n,sum,l,m,i)=>(n+(lZ to (l.drop i.toNat)).length,sum+jL (lZ to (l.drop i.toNat)))
def cP.az:cP.D->Prop:=λ(s,to)=>(to=0\/to=1)/\(∀c∈s.2.2.1,F9 c)/\s.2.2.1.length<=1000
def cP.F:cP.D->cP.Y:=λ(s,to)=>(((lZ to s.2.2.1).length:Nat),jL (lZ to s.2.2.1))
def cP.G:fD:=gr (P:=Tryz.prog) []
def cP.L0.E:=cU.dp cP.L0.st cP.L0.az cP.L0.add cP.L0.F cP.L0.out
def cP.L0.call:cP.L0.D->Option cP.L0.X:=eI cP.L0.E cP.L0.st
def cP.an:fR:= {loops:=om [(3,{bO:=[1,6,7,11,12,13]})],outs:=oh [(3,{bO:=[6,7]},{bO:=[4,5]})],jo:=pb [(3,cP.L0.E)]}
def cP.A:= @dm Tryz.prog cP.G cP.an 0 Tryz.f95 _ cP.st
abbrev cP.Ok:=dn @cP.A cP.az cP.add cP.F cP.out
def cP.L0.R:= @dr Tryz.prog cP.G cP.an 0 Tryz.f95 0 _ cP.L0.st
abbrev cP.L0.Ok:=gz Tryz.prog cP.G cP.an 0 Tryz.f95 0 cP.L0.st cP.L0.az cP.L0.add cP.L0.F cP.L0.out
theorem cP.L0.run:b8 cP.L0.call cP.L0.az cP.L0.add cP.L0.F:=gR (gJ [.d ti,.d ti,.d ti,.d (.slice kf),.d ti,.d ti] λ_=>by kernel_rfl)
theorem cP.L0.aI:jl @cP.L0.R cP.L0.st cP.L0.az cP.L0.add cP.L0.F cP.L0.bY cP.L0.Ok:=js
theorem cP.L0.step{R:Type}(o4:Int)(n:Int)(sum:Int)(t11:(List jj))(t12:Int)(t13:Int)(kn:AS->Option R)(kx:Exit->AS->Option R):cP.L0.R (o4,n,sum,t11,t12,t13) kn kx=
  aJ ((jM t13 t12)) (
   aJ (fB t13 (((List.length t11):Nat):Int)) (
   aJ ((mV (nth kf t11 (Int.toNat t13)).1 (cY .i64 (1:Int) o4))) (
    kn (cP.L0.st (o4,(bV .i64 n (1:Int)),(bV .i64 sum (nth kf t11 (Int.toNat t13)).2.2.1),t11,t12,(bV .i64 t13 (1:Int))))) (
    kn (cP.L0.st (o4,n,sum,t11,t12,(bV .i64 t13 (1:Int)))))) none) (
   kx (cP.L0.bY (n,sum)).1 (cP.L0.bY (n,sum)).2):=by kernel_rfl
theorem cP.eq{R:Type}(sv:jk)(to:Int)(k:aX->Option R):cP.A (sv,to) k=
 ah (cP.L0.call (to,(0:Int),(0:Int),sv.2.2.1,(((List.length sv.2.2.1):Nat):Int),(0:Int))) λx1=>
 k (cP.out (x1.1,x1.2)):=by kernel_rfl
theorem cP.L0.ok:cP.L0.Ok:=by
 refine cP.L0.aI (λ(to,n,sum,l,m,i)=>l.length - i.toNat) ?_
 rintro⟨to,n,sum,l,m,i⟩ ⟨sY,hc,hl,rfl,k,hk,rfl,hn,L9,zF⟩
 have hk:k<=l.length:=hk
 have hl:l.length<=1000:=hl
 have sY:to=0\/to=1:=sY
 have hn:0<=n/\n<=k:=hn
 have L9:0<=sum:=L9
 have zF:sum<=1125899906842624*k:=zF
 by_cases h:k < l.length
 ·left
  have hx:0<=l[k].2.2.1/\l[k].2.2.1<=1125899906842624:=hc _ (List.getElem_mem h)
  have n1:nth kf l k=l[k]:=dQ (t:=kf) h
  have hd:=zY to l[k] (l.drop (k+1))
  rw[<-av h]at hd
  by_cases hq:l[k].1=1 - to
  ·refine⟨(to,n+1,sum+l[k].2.2.1,l,(l.length:Int),((k+1:Nat):Int)),⟨sY,hc,hl,rfl,k+1,by omega,rfl,by omega,by omega,by omega⟩,by simp only[aa];omega,?_,λkn kx=> ?_⟩
   ·rw[fA hq,if_pos rfl]at hd
    simp only[cP.L0.add,cP.L0.F,aa,hd,aO,jL]
    rw[show n+1+((lZ to (l.drop (k+1))).length:Int)=n+(((lZ to (l.drop (k+1))).length+1:Nat):Int) by omega,qL]
   ·rw[cP.L0.step,bI (by omega),bF (by omega) (by omega),aa,n1,By sY,fA hq,N.pF (by omega),ff (by omega) (by omega),ff (by omega) (by omega)]
    simp only[ae]
  ·refine⟨(to,n,sum,l,(l.length:Int),((k+1:Nat):Int)),⟨sY,hc,hl,rfl,k+1,by omega,rfl,by omega,by omega,by omega⟩,by simp only[aa];omega,?_,λkn kx=> ?_⟩
   ·rw[fJ hq,if_neg (by simp)]at hd
    simp only[cP.L0.add,cP.L0.F,aa,hd]
   ·rw[cP.L0.step,bI (by omega),bF (by omega) (by omega),aa,n1,By sY,fJ hq,N.pF (by omega)]
    simp only[ae,ai]
 ·right
  obtain rfl:k=l.length:=by omega
  intro R kn kx
  rw[cP.L0.step,bp (by omega),ai]
  simp only[cP.L0.add,cP.L0.F,aa,bB,lZ,List.filter_nil,bM,jL,mE]
  rw[show(n+((0:Nat):Int))=n by omega]
theorem cP.ok:cP.Ok:=by
 rintro⟨s,to⟩ ⟨sY,hc,hl⟩
 rw[cP.eq,cP.L0.run (d:=(to,0,0,s.2.2.1,(s.2.2.1.length:Int),0)) ⟨sY,hc,hl,rfl,0,bm _,rfl,⟨by decide,by decide⟩,by decide,by decide⟩]
 simp only[ab,cP.L0.add,cP.L0.F,bH,aW,pT,cP.add,cP.F]
def cP.E:=Entry.dp [some mu,some ti] cP.st cP.az cP.add cP.F cP.out
def cP.call:cP.D->Option cP.X:=bX cP.E cP.st
theorem cP.run:b8 cP.call cP.az cP.add cP.F:=dv (du [.d mu,.d ti] λ_=>by kernel_rfl)
def cP.sg:SG Tryz.prog:=⟨95,aP,cP.E,.fn 1 (by kernel_rfl) cP.ok (And.intro (.dp cP.L0.ok (by kernel_rfl)) trivial)⟩
abbrev cW.L0.D:=jk×Int×Int
def cW.L0.st:cW.L0.D->AS:=λ(ef,sum,i)=>⟨([.undef,.gE mu ef,.undef,.d ti sum,.d ti i]++bG 23 []),[],(List.replicate 28 [])⟩
abbrev cW.L0.Y0:=Int
abbrev cW.L0.X0:=Int
def cW.L0.bY:cW.L0.X0->Exit×AS:=λx=>(.exit 0,⟨([.undef,.undef,.undef,.d ti x]++bG 24 []),[],(List.replicate 28 [])⟩)
abbrev cW.L0.X:=cW.L0.X0
abbrev cW.L0.Y:=cW.L0.Y0
def cW.L0.out:cW.L0.X->Out (Exit×AS):=λx=> .ok (cW.L0.bY x)
def cW.L0.add:cW.L0.D->cW.L0.Y->cW.L0.X:=λ(ef,sum,i) y=>y
abbrev cW.D:=jk
def cW.st:cW.D->SA:=λsv=>([.d mu sv],[])
abbrev cW.Y:=Int
abbrev cW.X:=Int
def cW.out:cW.X->aX:=λx=>⟨.d ti x,[],[]⟩
def cW.add:cW.D->cW.Y->cW.X:=λsv y=>y
def cW.L0.az:cW.L0.D->Prop:=λ(sv,sum,i)=>(∀c∈sv.2.2.1,F9 c)/\sv.2.2.1.length<=1000/\∃k:Nat,k<=sv.2.2.1.length/\i=k/\0<=sum/\sum<=2251799813685248+1125899906842624*k
def cW.L0.F:cW.L0.D->cW.L0.Y:=λ(sv,sum,i)=>sum+jL (sv.2.2.1.drop i.toNat)
def cW.az:cW.D->Prop:=λs=>(∀c∈s.2.2.1,F9 c)/\s.2.2.1.length<=1000/\Bd (nth ti s.2.1 0) 0 1125899906842624/\Bd (nth ti s.2.1 1) 0 1125899906842624
def cW.F:cW.D->cW.Y:=λs=>nth ti s.2.1 0+nth ti s.2.1 1+jL s.2.2.1
def cW.G:fD:=gr (P:=Tryz.prog) []
def cW.L0.E:=cU.dp cW.L0.st cW.L0.az cW.L0.add cW.L0.F cW.L0.out
def cW.L0.call:cW.L0.D->Option cW.L0.X:=eI cW.L0.E cW.L0.st
def cW.an:fR:= {loops:=om [(3,{bO:=[1,3,4]})],outs:=oh [(3,{bO:=[3]},{bO:=[2]})],jo:=pb [(3,cW.L0.E)]}
def cW.A:= @dm Tryz.prog cW.G cW.an 0 Tryz.f68 _ cW.st
abbrev cW.Ok:=dn @cW.A cW.az cW.add cW.F cW.out
def cW.L0.R:= @dr Tryz.prog cW.G cW.an 0 Tryz.f68 0 _ cW.L0.st
abbrev cW.L0.Ok:=gz Tryz.prog cW.G cW.an 0 Tryz.f68 0 cW.L0.st cW.L0.az cW.L0.add cW.L0.F cW.L0.out
theorem cW.L0.run:b8 cW.L0.call cW.L0.az cW.L0.add cW.L0.F:=gR (gJ [.d mu,.d ti,.d ti] λ_=>by kernel_rfl)
theorem cW.L0.aI:jl @cW.L0.R cW.L0.st cW.L0.az cW.L0.add cW.L0.F cW.L0.bY cW.L0.Ok:=js
theorem cW.L0.step{R:Type}(ef:jk)(sum:Int)(i:Int)(kn:AS->Option R)(kx:Exit->AS->Option R):cW.L0.R (ef,sum,i) kn kx=
  aJ ((jM i (((List.length ef.2.2.1):Nat):Int))) (
   aJ (fB i (((List.length ef.2.2.1):Nat):Int)) (
   kn (cW.L0.st (ef,(bV .i64 sum (nth kf ef.2.2.1 (Int.toNat i)).2.2.1),(bV .i64 i (1:Int))))) none) (
   kx (cW.L0.bY sum).1 (cW.L0.bY sum).2):=by kernel_rfl
theorem cW.eq{R:Type}(sv:jk)(k:aX->Option R):cW.A sv k=
 ah (cW.L0.call (sv,(bV .i64 (nth ti sv.2.1 0) (nth ti sv.2.1 1)),(0:Int))) λx1=>
 k (cW.out x1):=by kernel_rfl
theorem cW.L0.ok:cW.L0.Ok:=by
 refine cW.L0.aI (λ(sv,sum,i)=>sv.2.2.1.length - i.toNat) ?_
 rintro⟨sv,sum,i⟩ ⟨hc,hl,k,hk,rfl,L9,zF⟩
 have hk:k<=sv.2.2.1.length:=hk
 have hl:sv.2.2.1.length<=1000:=hl
 have L9:0<=sum:=L9
 have zF:sum<=2251799813685248+1125899906842624*k:=zF
 by_cases h:k < sv.2.2.1.length
 ·left
  have hx:0<=sv.2.2.1[k].2.2.1/\sv.2.2.1[k].2.2.1<=1125899906842624:=hc _ (List.getElem_mem h)
  have n1:nth kf sv.2.2.1 k=sv.2.2.1[k]:=dQ (t:=kf) h
  refine⟨(sv,sum+sv.2.2.1[k].2.2.1,((k+1:Nat):Int)),⟨hc,hl,k+1,by omega,rfl,by omega,by omega⟩,by simp only[aa];omega,?_,λkn kx=> ?_⟩
  ·simp only[cW.L0.add,cW.L0.F,aa]
   rw[av h,jL,qL]
  ·rw[cW.L0.step,bI (by omega),bF (by omega) (by omega),aa,n1,N.pF (by omega),ff (by omega) (by omega)]
   simp only[ae]
 ·right
  obtain rfl:k=sv.2.2.1.length:=by omega
  intro R kn kx
  rw[cW.L0.step,bp (by omega),ai]
  simp only[cW.L0.add,cW.L0.F,aa,bB,jL,mE]
theorem cW.ok:cW.Ok:=by
 rintro s ⟨hc,hl,h0,h1⟩
 have Xw:=h0.1
 have Xx:=h0.2
 have Rd:=h1.1
 have Ta:=h1.2
 rw[cW.eq,ff (by omega) (by omega),cW.L0.run (d:=(s,nth ti s.2.1 0+nth ti s.2.1 1,0)) ⟨hc,hl,0,bm _,rfl,by omega,by omega⟩]
 simp only[ab,cW.L0.add,cW.L0.F,bH,aW,cW.add,cW.F]
def cW.E:=Entry.dp [some mu] cW.st cW.az cW.add cW.F cW.out
def cW.call:cW.D->Option cW.X:=bX cW.E cW.st
theorem cW.run:b8 cW.call cW.az cW.add cW.F:=dv (du [.d mu] λ_=>by kernel_rfl)
def cW.sg:SG Tryz.prog:=⟨68,aP,cW.E,.fn 1 (by kernel_rfl) cW.ok (And.intro (.dp cW.L0.ok (by kernel_rfl)) trivial)⟩
abbrev bz.L0.D:=Int×(List jj)×Int×Int
def bz.L0.st:bz.L0.D->AS:=λ(sum,t14,t15,t16)=>⟨([.undef,.undef,.undef,.d ti sum]++bG 10 ([.d (.slice kf) t14,.d ti t15,.d ti t16]++bG 9 [])),[],(List.replicate 26 [])⟩
abbrev bz.L0.Y0:=Int
abbrev bz.L0.X0:=Int
def bz.L0.bY:bz.L0.X0->Exit×AS:=λx=>(.exit 0,⟨([.undef,.undef,.undef,.d ti x]++bG 22 []),[],(List.replicate 26 [])⟩)
abbrev bz.L0.X:=bz.L0.X0
abbrev bz.L0.Y:=bz.L0.Y0
def bz.L0.out:bz.L0.X->Out (Exit×AS):=λx=> .ok (bz.L0.bY x)
def bz.L0.add:bz.L0.D->bz.L0.Y->bz.L0.X:=λ(sum,t14,t15,t16) y=>y
abbrev bz.D:=jk
def bz.st:bz.D->SA:=λsv=>([.d mu sv],[])
abbrev bz.Y:=Int
abbrev bz.X:=Int
def bz.out:bz.X->aX:=λx=>⟨.d ti x,[],[]⟩
def bz.add:bz.D->bz.Y->bz.X:=λsv y=>y
def bz.L0.az:bz.L0.D->Prop:=λ(sum,l,m,i)=>(∀c∈l,F9 c)/\l.length<=1000/\m=l.length/\∃k:Nat,k<=l.length/\i=k/\0<=sum/\sum<=2251799813685248+1125899906842624*k
def bz.L0.F:bz.L0.D->bz.L0.Y:=λ(sum,l,m,i)=>sum+jL (l.drop i.toNat)
def bz.az:bz.D->Prop:=λs=>(∀c∈s.2.2.1,F9 c)/\s.2.2.1.length<=1000/\Bd (nth ti s.2.1 0) 0 1125899906842624/\Bd (nth ti s.2.1 1) 0 1125899906842624
def bz.F:bz.D->bz.Y:=λs=>nth ti s.2.1 0+nth ti s.2.1 1+jL s.2.2.1
def bz.G:fD:=gr (P:=Tryz.prog) []
def bz.L0.E:=cU.dp bz.L0.st bz.L0.az bz.L0.add bz.L0.F bz.L0.out
def bz.L0.call:bz.L0.D->Option bz.L0.X:=eI bz.L0.E bz.L0.st
def bz.an:fR:= {loops:=om [(3,{bO:=[3,14,15,16]})],outs:=oh [(3,{bO:=[3]},{bO:=[2]})],jo:=pb [(3,bz.L0.E)]}
def bz.A:= @dm Tryz.prog bz.G bz.an 0 Tryz.f96 _ bz.st
abbrev bz.Ok:=dn @bz.A bz.az bz.add bz.F bz.out
def bz.L0.R:= @dr Tryz.prog bz.G bz.an 0 Tryz.f96 0 _ bz.L0.st
abbrev bz.L0.Ok:=gz Tryz.prog bz.G bz.an 0 Tryz.f96 0 bz.L0.st bz.L0.az bz.L0.add bz.L0.F bz.L0.out
theorem bz.L0.run:b8 bz.L0.call bz.L0.az bz.L0.add bz.L0.F:=gR (gJ [.d ti,.d (.slice kf),.d ti,.d ti] λ_=>by kernel_rfl)
theorem bz.L0.aI:jl @bz.L0.R bz.L0.st bz.L0.az bz.L0.add bz.L0.F bz.L0.bY bz.L0.Ok:=js
theorem bz.L0.step{R:Type}(sum:Int)(t14:(List jj))(t15:Int)(t16:Int)(kn:AS->Option R)(kx:Exit->AS->Option R):bz.L0.R (sum,t14,t15,t16) kn kx=
  aJ ((jM t16 t15)) (
   aJ (fB t16 (((List.length t14):Nat):Int)) (
   kn (bz.L0.st ((bV .i64 sum (nth kf t14 (Int.toNat t16)).2.2.1),t14,t15,(bV .i64 t16 (1:Int))))) none) (
   kx (bz.L0.bY sum).1 (bz.L0.bY sum).2):=by kernel_rfl
theorem bz.eq{R:Type}(sv:jk)(k:aX->Option R):bz.A sv k=
 ah (bz.L0.call ((bV .i64 (nth ti sv.2.1 0) (nth ti sv.2.1 1)),sv.2.2.1,(((List.length sv.2.2.1):Nat):Int),(0:Int))) λx1=>
 k (bz.out x1):=by kernel_rfl
theorem bz.L0.ok:bz.L0.Ok:=by
 refine bz.L0.aI (λ(sum,l,m,i)=>l.length - i.toNat) ?_
 rintro⟨sum,l,m,i⟩ ⟨hc,hl,rfl,k,hk,rfl,L9,zF⟩
 have hk:k<=l.length:=hk
 have hl:l.length<=1000:=hl
 have L9:0<=sum:=L9
 have zF:sum<=2251799813685248+1125899906842624*k:=zF
 by_cases h:k < l.length
 ·left
  have hx:0<=l[k].2.2.1/\l[k].2.2.1<=1125899906842624:=hc _ (List.getElem_mem h)
  have n1:nth kf l k=l[k]:=dQ (t:=kf) h
  refine⟨(sum+l[k].2.2.1,l,(l.length:Int),((k+1:Nat):Int)),⟨hc,hl,rfl,k+1,by omega,rfl,by omega,by omega⟩,by simp only[aa];omega,?_,λkn kx=> ?_⟩
  ·simp only[bz.L0.add,bz.L0.F,aa]
   rw[av h,jL,qL]
  ·rw[bz.L0.step,bI (by omega),bF (by omega) (by omega),aa,n1,N.pF (by omega),ff (by omega) (by omega)]
   simp only[ae]
 ·right
  obtain rfl:k=l.length:=by omega
  intro R kn kx
  rw[bz.L0.step,bp (by omega),ai]
  simp only[bz.L0.add,bz.L0.F,aa,bB,jL,mE]
theorem bz.ok:bz.Ok:=by
 rintro s ⟨hc,hl,h0,h1⟩
 have Xw:=h0.1
 have Xx:=h0.2
 have Rd:=h1.1
 have Ta:=h1.2
 rw[bz.eq,ff (by omega) (by omega),bz.L0.run (d:=(nth ti s.2.1 0+nth ti s.2.1 1,s.2.2.1,(s.2.2.1.length:Int),0)) ⟨hc,hl,rfl,0,bm _,rfl,by omega,by omega⟩]
 simp only[ab,bz.L0.add,bz.L0.F,bH,aW,bz.add,bz.F]
def bz.E:=Entry.dp [some mu] bz.st bz.az bz.add bz.F bz.out
def bz.call:bz.D->Option bz.X:=bX bz.E bz.st
theorem bz.run:b8 bz.call bz.az bz.add bz.F:=dv (du [.d mu] λ_=>by kernel_rfl)
def bz.sg:SG Tryz.prog:=⟨96,aP,bz.E,.fn 1 (by kernel_rfl) bz.ok (And.intro (.dp bz.L0.ok (by kernel_rfl)) trivial)⟩
abbrev jT.D:=Int×Int×Int
def jT.st:jT.D->SA:=λ(n,o0,o1)=>([.d ti n,.ptr (.ew 0) 0 [] 0,.ptr (.ew 1) 0 [] 0],[.obj 0 false (.d ti o0),.obj 0 false (.d ti o1)])
abbrev jT.Y:=Bool
abbrev jT.X:=(Int×Int)×(Bool)
def jT.out:jT.X->aX:=λx=>⟨.d .bool x.2,[.obj 0 false (.d ti x.1.1),.obj 0 false (.d ti x.1.2)],[]⟩
def jT.add:jT.D->jT.Y->jT.X:=λ(n,o0,o1) y=>((o0,o1),y)
def jT.az:jT.D->Prop:=λ_=>True
def jT.F:jT.D->jT.Y:=λ(n,lo,hi)=> !qv n lo hi
def jT.G:fD:=gr (P:=Tryz.prog) []
def jT.an:fR:= {}
def jT.A:= @dm Tryz.prog jT.G jT.an 0 Tryz.f137 _ jT.st
abbrev jT.Ok:=dn @jT.A jT.az jT.add jT.F jT.out
theorem jT.eq{R:Type}(n:Int)(o0:Int)(o1:Int)(k:aX->Option R):jT.A (n,o0,o1) k=
  aJ ((jM n o0)) (
   k (jT.out ((o0,o1),true))) (
   k (jT.out ((o0,o1),(sh n o1)))):=by kernel_rfl
theorem jT.ok:jT.Ok:=by
 rintro⟨n,lo,hi⟩ _
 rw[jT.eq]
 simp only[jT.add,jT.F]
 by_cases h:n < lo
 ·rw[bI h,ae,o9 (by omega)];rfl
 ·rw[bp h,ai]
  by_cases h2:n > hi
  ·rw[fE h2,o9 (by omega)];rfl
  ·rw[dY h2,kr (by omega) (by omega)];rfl
def jT.E:=Entry.dp [some ti,none,none] jT.st jT.az jT.add jT.F jT.out
def jT.call:jT.D->Option jT.X:=bX jT.E jT.st
theorem jT.run:b8 jT.call jT.az jT.add jT.F:=dv (du [.d ti,.d ti,.d ti] λ_=>by kernel_rfl)
def jT.sg:SG Tryz.prog:=⟨137,aP,jT.E,.fn 0 (by kernel_rfl) jT.ok trivial⟩
abbrev dN.L0.D:=(List Int)×Int×Int×Int×Int
def dN.L0.st:dN.L0.D->AS:=λ(ef,t7,t8,sJ,oq)=>⟨([.d (.slice ti) ef,.fn 137 (.cons (.ptr (.ew 0) 0 [] 0) (.cons (.ptr (.ew 1) 0 [] 0) (.nil)))]++bG 5 ([.d ti t7,.d ti t8]++bG 10 [])),[.obj 0 false (.d ti sJ),.obj 0 false (.d ti oq)],(List.replicate 19 [])⟩
abbrev dN.L0.Y0:=Int×Int×Int
abbrev dN.L0.X0:=Int×Int×Int
def dN.L0.bY:dN.L0.X0->Exit×AS:=λx=>(.ret,⟨(bG 4 ([.d ti x.1]++bG 14 [])),[.obj 0 false (.d ti x.2.1),.obj 0 false (.d ti x.2.2)],(List.replicate 19 [])⟩)
abbrev dN.L0.Y1:=Int×Int
abbrev dN.L0.X1:=Int×Int
def dN.L0.ko:dN.L0.X1->Exit×AS:=λx=>(.exit 0,⟨(bG 19 []),[.obj 0 false (.d ti x.1),.obj 0 false (.d ti x.2)],(List.replicate 19 [])⟩)
abbrev dN.L0.X:=(dN.L0.X0)⊕(dN.L0.X1)
abbrev dN.L0.Y:=(dN.L0.Y0)⊕(dN.L0.Y1)
def dN.L0.out:dN.L0.X->Out (Exit×AS):=λx=> .br x.isLeft (.get x.getLeft? λa=> .ok (dN.L0.bY a)) (.get x.getRight? λb=> .ok (dN.L0.ko b))
def dN.L0.add:dN.L0.D->dN.L0.Y->dN.L0.X:=λ(ef,t7,t8,sJ,oq) y=>match y with | .inl y=> .inl y | .inr z=> .inr (z)
abbrev dN.D:=(List Int)×Int×Int
def dN.st:dN.D->SA:=λ(sv,o0,o1)=>([.d (.slice ti) sv,.fn 137 (.cons (.ptr (.ew 0) 0 [] 0) (.cons (.ptr (.ew 1) 0 [] 0) (.nil)))],[.obj 0 false (.d ti o0),.obj 0 false (.d ti o1)])
abbrev dN.Y:=Int×Int×Int
abbrev dN.X:=Int×Int×Int
def dN.out:dN.X->aX:=λx=>⟨.d ti x.1,[.obj 0 false (.d ti x.2.1),.obj 0 false (.d ti x.2.2)],[]⟩
def dN.add:dN.D->dN.Y->dN.X:=λ(sv,o0,o1) y=>y
def dN.L0.az:dN.L0.D->Prop:=λ(l,n,i,lo,hi)=>l.length<=1000000000/\n=l.length/\∃k:Nat,k<=l.length/\i=k
def dN.L0.F:dN.L0.D->dN.L0.Y:=λ(l,n,i,lo,hi)=>match tD (λx=> !qv x lo hi) (l.drop i.toNat) i with | .inl j=> .inl (j,lo,hi) | .inr _=> .inr (lo,hi)
def dN.az:dN.D->Prop:=λ(l,_,_)=>l.length<=1000000000
def dN.F:dN.D->dN.Y:=λ(l,lo,hi)=>(DF (λx=> !qv x lo hi) l,lo,hi)
def dN.G:fD:=gr (P:=Tryz.prog) [jT.sg]
def dN.L0.E:=cU.dp dN.L0.st dN.L0.az dN.L0.add dN.L0.F dN.L0.out
def dN.L0.call:dN.L0.D->Option dN.L0.X:=eI dN.L0.E dN.L0.st
def dN.an:fR:= {loops:=om [(2,{bO:=[0,1,7,8]})],outs:=oh [(2,{},{bO:=[4]})],jo:=pb [(2,dN.L0.E)]}
def dN.A:= @dm Tryz.prog dN.G dN.an 0 Tryz.f170 _ dN.st
abbrev dN.Ok:=dn @dN.A dN.az dN.add dN.F dN.out
def dN.L0.R:= @dr Tryz.prog dN.G dN.an 0 Tryz.f170 0 _ dN.L0.st
abbrev dN.L0.Ok:=gz Tryz.prog dN.G dN.an 0 Tryz.f170 0 dN.L0.st dN.L0.az dN.L0.add dN.L0.F dN.L0.out
theorem dN.L0.run:b8 dN.L0.call dN.L0.az dN.L0.add dN.L0.F:=gR (gJ [.d (.slice ti),.d ti,.d ti,.d ti,.d ti] λ_=>by kernel_rfl)
theorem dN.L0.aI:rV @dN.L0.R dN.L0.st dN.L0.az dN.L0.add dN.L0.F dN.L0.out dN.L0.Ok:=sy
theorem dN.L0.step{R:Type}(ef:(List Int))(t7:Int)(t8:Int)(sJ:Int)(oq:Int)(kn:AS->Option R)(kx:Exit->AS->Option R):dN.L0.R (ef,t7,t8,sJ,oq) kn kx=
  aJ ((jM t8 t7)) (
   aJ (fB t8 (((List.length ef):Nat):Int)) (
   ah (jT.call ((nth ti ef (Int.toNat t8)),sJ,oq)) λx1=>
   aJ (x1.2) (
    kx (dN.L0.bY (t8,x1.1.1,x1.1.2)).1 (dN.L0.bY (t8,x1.1.1,x1.1.2)).2) (
    kn (dN.L0.st (ef,t7,(bV .i64 t8 (1:Int)),x1.1.1,x1.1.2)))) none) (
   kx (dN.L0.ko (sJ,oq)).1 (dN.L0.ko (sJ,oq)).2):=by kernel_rfl
theorem dN.eq{R:Type}(sv:(List Int))(o0:Int)(o1:Int)(k:aX->Option R):dN.A (sv,o0,o1) k=
  ah (dN.L0.call (sv,(((List.length sv):Nat):Int),(0:Int),o0,o1)) λx2=>
  aJ (x2.isLeft) (
   ah (x2.getLeft?) λa3=>
   k (dN.out (a3.1,a3.2.1,a3.2.2))) (
   ah (x2.getRight?) λb4=>
   k (dN.out ((-1:Int),b4.1,b4.2))):=by kernel_rfl
theorem jT.c(n lo hi:Int):jT.call (n,lo,hi)=some ((lo,hi),!qv n lo hi):=jT.run (d:=(n,lo,hi)) trivial
theorem dN.L0.ok:dN.L0.Ok:=by
 refine dN.L0.aI (λ(l,n,i,lo,hi)=>l.length - i.toNat) ?_
 rintro⟨l,n,i,lo,hi⟩ ⟨hl,rfl,k,hk,rfl⟩
 have hl:l.length<=1000000000:=hl
 have hk:k<=l.length:=hk
 by_cases h:k < l.length
 ·have n1:nth ti l k=l[k]:=dQ (t:=ti) h
  have hd:tD (λx=> !qv x lo hi) (l.drop k) k=if(!qv l[k] lo hi)=true then .inl (k:Int) else tD (λx=> !qv x lo hi) (l.drop (k+1)) ((k+1:Nat):Int):=by rw[av h];rfl
  have step:∀ {R:Type} (kn:AS->Option R) (kx:Exit->AS->Option R),dN.L0.R (l,(l.length:Int),(k:Int),lo,hi) kn kx=aJ (!qv l[k] lo hi) (kx (dN.L0.bY ((k:Int),lo,hi)).1 (dN.L0.bY ((k:Int),lo,hi)).2) (kn (dN.L0.st (l,(l.length:Int),((k+1:Nat):Int),lo,hi))):=by
   intro R kn kx
   rw[dN.L0.step,bI (by omega),bF (by omega) (by omega),aa,n1,jT.c,N.pF (by omega)]
   rfl
  cases hp:qv l[k] lo hi
  ·right
   refine⟨dN.L0.bY ((k:Int),lo,hi),?_,λkn kx=> ?_⟩
   ·simp only[dN.L0.add,dN.L0.F,aa,hd,hp,gm,if_true]
    rfl
   ·rw[step,hp,gm,ae]
  ·left
   refine⟨(l,l.length,((k+1:Nat):Int),lo,hi),⟨hl,rfl,k+1,by omega,rfl⟩,by simp only[aa];omega,?_,λkn kx=> ?_⟩
   ·simp only[dN.L0.add,dN.L0.F,aa,hd,hp,bZ,cD,if_false]
   ·rw[step,hp,bZ,ai]
 ·right
  obtain rfl:k=l.length:=by omega
  refine⟨dN.L0.ko (lo,hi),?_,λkn kx=> ?_⟩
  ·simp only[dN.L0.add,dN.L0.F,aa,bB]
   rfl
  ·rw[dN.L0.step,bp (by omega),ai]
theorem dN.ok:dN.Ok:=by
 rintro⟨l,lo,hi⟩ hl
 rw[dN.eq,dN.L0.run (d:=(l,l.length,0,lo,hi)) ⟨hl,rfl,0,bm _,rfl⟩]
 simp only[ab,dN.L0.add,dN.L0.F,bH,aW,dN.add,dN.F,DF]
 cases tD (λx=> !qv x lo hi) l 0 <;> rfl
def dN.E:=Entry.dp [some (.slice ti),none] dN.st dN.az dN.add dN.F dN.out
def dN.call:dN.D->Option dN.X:=bX dN.E dN.st
theorem dN.run:b8 dN.call dN.az dN.add dN.F:=dv (du [.d (.slice ti),.d ti,.d ti] λ_=>by kernel_rfl)
def dN.sg:SG Tryz.prog:=⟨170,aP,dN.E,.fn 1 (by kernel_rfl) dN.ok (And.intro (.dp dN.L0.ok (by kernel_rfl)) trivial)⟩
abbrev j4.D:=(List Int)×Int×Int
def j4.st:j4.D->SA:=λ(sv,o0,o1)=>([.d (.slice ti) sv,.fn 137 (.cons (.ptr (.ew 0) 0 [] 0) (.cons (.ptr (.ew 1) 0 [] 0) (.nil)))],[.obj 0 false (.d ti o0),.obj 0 false (.d ti o1)])
abbrev j4.Y:=Bool×Int×Int
abbrev j4.X:=Bool×Int×Int
def j4.out:j4.X->aX:=λx=>⟨.d .bool x.1,[.obj 0 false (.d ti x.2.1),.obj 0 false (.d ti x.2.2)],[]⟩
def j4.add:j4.D->j4.Y->j4.X:=λ(sv,o0,o1) y=>y
def j4.az:j4.D->Prop:=λ(l,_,_)=>l.length<=1000000000
def j4.F:j4.D->j4.Y:=λ(l,lo,hi)=>(l.any λx=> !qv x lo hi,lo,hi)
def j4.G:fD:=gr (P:=Tryz.prog) [dN.sg]
def j4.an:fR:= {}
def j4.A:= @dm Tryz.prog j4.G j4.an 0 Tryz.f136 _ j4.st
abbrev j4.Ok:=dn @j4.A j4.az j4.add j4.F j4.out
theorem j4.eq{R:Type}(sv:(List Int))(o0:Int)(o1:Int)(k:aX->Option R):j4.A (sv,o0,o1) k=
 ah (dN.call (sv,o0,o1)) λx1=>
 k (j4.out ((qu x1.1 (0:Int)),x1.2.1,x1.2.2)):=by kernel_rfl
theorem j4.ok:j4.Ok:=by
 rintro⟨l,lo,hi⟩ hl
 rw[j4.eq,dN.run (d:=(l,lo,hi)) hl]
 simp only[ab,dN.add,dN.F,yA,j4.add,j4.F]
def j4.E:=Entry.dp [some (.slice ti),none] j4.st j4.az j4.add j4.F j4.out
def j4.call:j4.D->Option j4.X:=bX j4.E j4.st
theorem j4.run:b8 j4.call j4.az j4.add j4.F:=dv (du [.d (.slice ti),.d ti,.d ti] λ_=>by kernel_rfl)
def j4.sg:SG Tryz.prog:=⟨136,aP,j4.E,.fn 0 (by kernel_rfl) j4.ok trivial⟩
abbrev cF.D:=Int×Int×(List Int)
def cF.st:cF.D->SA:=λ(low,high,l)=>([.d ti low,.d ti high,.d (.slice ti) l],[])
abbrev cF.Y:=Bool
abbrev cF.X:=Bool
def cF.out:cF.X->aX:=λx=>⟨.d .bool x,[],[]⟩
def cF.add:cF.D->cF.Y->cF.X:=λ(low,high,l) y=>y
def cF.az:cF.D->Prop:=λ(_,_,l)=>l.length<=1000000000
def cF.F:cF.D->cF.Y:=λ(lo,hi,l)=>l.all λx=>qv x lo hi
def cF.G:fD:=gr (P:=Tryz.prog) [j4.sg]
def cF.an:fR:= {cZ:=[3,4]}
def cF.A:= @dm Tryz.prog cF.G cF.an 0 Tryz.f92 _ cF.st
abbrev cF.Ok:=dn @cF.A cF.az cF.add cF.F cF.out
theorem cF.eq{R:Type}(low:Int)(high:Int)(l:(List Int))(k:aX->Option R):cF.A (low,high,l) k=
 ah (j4.call (l,low,high)) λx1=>
 k (cF.out (!x1.1)):=by kernel_rfl
theorem cF.ok:cF.Ok:=by
 rintro⟨lo,hi,l⟩ hl
 rw[cF.eq,j4.run (d:=(l,lo,hi)) hl]
 simp only[ab,j4.add,j4.F,cF.add,cF.F]
 rw[List.not_any_eq_all_not]
 simp only[Bool.not_not]
def cF.E:=Entry.dp [some ti,some ti,some (.slice ti)] cF.st cF.az cF.add cF.F cF.out
def cF.call:cF.D->Option cF.X:=bX cF.E cF.st
theorem cF.run:b8 cF.call cF.az cF.add cF.F:=dv (du [.d ti,.d ti,.d (.slice ti)] λ_=>by kernel_rfl)
def cF.sg:SG Tryz.prog:=⟨92,aP,cF.E,.fn 0 (by kernel_rfl) cF.ok trivial⟩
theorem cF.c1(lo hi x:Int):cF.call (lo,hi,[x])=some (qv x lo hi):=by
 rw[cF.run (d:=(lo,hi,[x])) (by show 1<=_;decide)]
 simp only[cF.add,cF.F,kJ,oa,ln]
theorem cF.c2(lo hi x y:Int):cF.call (lo,hi,[x,y])=some (qv x lo hi && qv y lo hi):=by
 rw[cF.run (d:=(lo,hi,[x,y])) (by show 2<=_;decide)]
 simp only[cF.add,cF.F,kJ,oa,ln]
abbrev eV.D:=jj
def eV.st:eV.D->SA:=λc=>([.d kf c],[])
abbrev eV.Y:=Bool
abbrev eV.X:=Bool
def eV.out:eV.X->aX:=λx=>⟨.d .bool x,[],[]⟩
def eV.add:eV.D->eV.Y->eV.X:=λc y=>y
def eV.az:eV.D->Prop:=λc=>iy c.2.2.2.1
def eV.F:eV.D->eV.Y:=λc=>F3 c
def eV.G:fD:=gr (P:=Tryz.prog) [cF.sg,dy.sg]
def eV.an:fR:= {}
def eV.A:= @dm Tryz.prog eV.G eV.an 0 Tryz.f93 _ eV.st
abbrev eV.Ok:=dn @eV.A eV.az eV.add eV.F eV.out
theorem eV.eq{R:Type}(c:jj)(k:aX->Option R):eV.A c k=
  ah (cF.call ((0:Int),(1:Int),[c.1])) λx1=>
  aJ (x1) (
   ah (cF.call ((1:Int),(1048576:Int),[c.2.1])) λx2=>
   aJ (x2) (
    ah (cF.call ((1:Int),(1125899906842624:Int),[c.2.2.1])) λx3=>
    aJ (x3) (
     ah (cF.call ((1:Int),(1048576:Int),[c.2.2.2.2.1])) λx4=>
     aJ (x4) (
      ah (dy.call c.2.2.2.1) λx5=>
      aJ (x5) (
       k (eV.out (tc c.2.2.2.1 (1:Int)))) (
       k (eV.out false))) (
      k (eV.out false))) (
     k (eV.out false))) (
    k (eV.out false))) (
   k (eV.out false)):=by kernel_rfl
theorem eV.ok:eV.Ok:=by
 intro c hc
 rw[eV.eq,dy.run (d:=c.2.2.2.1) hc]
 simp only[ab,cF.c1,dy.add,dy.F,eV.add,eV.F,F3,DT]
 cases oM c.2.2.2.1 <;> cases tc c.2.2.2.1 1 <;> cases qv c.1 0 1 <;> cases qv c.2.1 1 1048576 <;> cases qv c.2.2.1 1 1125899906842624 <;> cases qv c.2.2.2.2.1 1 1048576 <;> rfl
def eV.E:=Entry.dp [some kf] eV.st eV.az eV.add eV.F eV.out
def eV.call:eV.D->Option eV.X:=bX eV.E eV.st
theorem eV.run:b8 eV.call eV.az eV.add eV.F:=dv (du [.d kf] λ_=>by kernel_rfl)
def eV.sg:SG Tryz.prog:=⟨93,aP,eV.E,.fn 0 (by kernel_rfl) eV.ok trivial⟩
theorem QM(x y u v:Int):NG [w7 x y,w7 u v]=if decide (x < y\/x=y/\u < v)=true then -1 else if x=y/\u=v then 0 else 1:=by
 by_cases h1:x < y
 ·simp[NG,w7,h1]
 ·by_cases h2:x=y
  ·by_cases h3:u < v
   ·simp[NG,w7,h2,h3]
   ·by_cases h4:u=v
    ·simp[NG,w7,h2,h4]
    ·have h5:v < u:=by omega
     simp[NG,w7,h2,h3,h4,h5]
  ·have h5:y < x:=by omega
   simp[NG,w7,h1,h2,h5]
abbrev fi.D:=jj×jj
def fi.st:fi.D->SA:=λ(a,b)=>([.d kf a,.d kf b],[])
abbrev fi.Y:=Int
abbrev fi.X:=Int
def fi.out:fi.X->aX:=λx=>⟨.d ti x,[],[]⟩
def fi.add:fi.D->fi.Y->fi.X:=λ(a,b) y=>y
def fi.az:fi.D->Prop:=λ_=>True
def fi.F:fi.D->fi.Y:=λ(a,b)=>if zj a b=true then -1 else if a.1=b.1/\a.2.1=b.2.1 then 0 else 1
def fi.G:fD:=gr (P:=Tryz.prog) [iQ.sg,iK.sg]
def fi.an:fR:= {}
def fi.A:= @dm Tryz.prog fi.G fi.an 0 Tryz.f94 _ fi.st
abbrev fi.Ok:=dn @fi.A fi.az fi.add fi.F fi.out
theorem fi.eq{R:Type}(a:jj)(b:jj)(k:aX->Option R):fi.A (a,b) k=
 ah (iQ.call (a.1,b.1)) λx1=>
 ah (iQ.call (a.2.1,b.2.1)) λx2=>
 ah (iK.call [x1,x2]) λx3=>
 k (fi.out x3):=by kernel_rfl
theorem fi.ok:fi.Ok:=by
 rintro⟨a,b⟩ _
 rw[fi.eq,iQ.run (d:=(a.1,b.1)) trivial]
 simp only[ab,iQ.add,iQ.F]
 rw[iQ.run (d:=(a.2.1,b.2.1)) trivial]
 simp only[ab,iQ.add,iQ.F]
 rw[iK.run (d:=[w7 a.1 b.1,w7 a.2.1 b.2.1]) (by show 2<=_;decide)]
 simp only[ab,iK.add,iK.F,fi.add,fi.F,zj]
 rw[QM]
 rfl
def fi.E:=Entry.dp [some kf,some kf] fi.st fi.az fi.add fi.F fi.out
def fi.call:fi.D->Option fi.X:=bX fi.E fi.st
theorem fi.run:b8 fi.call fi.az fi.add fi.F:=dv (du [.d kf,.d kf] λ_=>by kernel_rfl)
def fi.sg:SG Tryz.prog:=⟨94,aP,fi.E,.fn 0 (by kernel_rfl) fi.ok trivial⟩
theorem fi.ge(a b:jj):∃n,fi.call (a,b)=some n/\qu n 0= !zj a b:=by
 refine⟨_,fi.run (d:=(a,b)) trivial,?_⟩
 simp only[fi.add,fi.F]
 cases zj a b
 ·simp only[cD,if_false]
  split <;> rfl
 ·rfl
theorem Oe(d:Int):(te d).2.2.2.1=16:=rfl
theorem Ui(d:Int):(te d).2.2.2.2.2.1=1125899906842624:=rfl
theorem Ww(d:Int):(te d).2.2.2.2.1=1:=rfl
theorem YC(d:Int):(te d).2.1=200:=rfl
theorem Wv(d:Int):(te d).2.2.1=d:=rfl
theorem mX.t0{ch:iP}(h:mX ch):nth oI ch.2.2.2.1 0=te 5:=by
 obtain⟨a,b0,b1,o,rfl,_⟩:=h
 rfl
theorem mX.t1{ch:iP}(h:mX ch):nth oI ch.2.2.2.1 1=te 6:=by
 obtain⟨a,b0,b1,o,rfl,_⟩:=h
 rfl
theorem mX.t{ch:iP}(h:mX ch){n:Int}(hn:n=0\/n=1):∃d,nth oI ch.2.2.2.1 n.toNat=te d/\(d=5\/d=6):=by
 rcases hn with rfl | rfl
 ·exact⟨5,h.t0,.inl rfl⟩
 ·exact⟨6,h.t1,.inr rfl⟩
theorem mX.op{ch:iP}(h:mX ch):ch.2.2.2.2.1=0\/ch.2.2.2.2.1=1:=by
 obtain⟨a,b0,b1,o,rfl,_,_,_,_,ho⟩:=h
 exact ho
theorem mX.EY{ch:iP}(h:mX ch):20000<=ch.2.1/\ch.2.1<=4294987295:=by
 obtain⟨a,b0,b1,o,rfl,h1,h2,_⟩:=h
 exact⟨h1,h2⟩
theorem PT.a{c:jj}(h:PT c):F9 c:=⟨by have:=h.EY.1;omega,h.EY.2⟩
theorem Jm{n:Int}(h:0<=n/\n<=1):cY .i64 1 n=1 - n:=gQ (by omega) (by omega)
abbrev aQ.L0.D:=iP×jk×Int
def aQ.L0.st:aQ.L0.D->AS:=λ(jC,ef,i)=>⟨([.undef,.undef,.gE mW jC,.gE mu ef,.undef,.d ti i]++bG 135 []),[],(List.replicate 141 [])⟩
abbrev aQ.L0.Y0:=Unit
abbrev aQ.L0.X0:=Unit
def aQ.L0.bY:aQ.L0.X0->Exit×AS:=λx=>(.ret,⟨(bG 4 ([.d .bool false]++bG 136 [])),[],(List.replicate 141 [])⟩)
abbrev aQ.L0.Y1:=Unit
abbrev aQ.L0.X1:=iP×jk
def aQ.L0.ko:aQ.L0.X1->Exit×AS:=λx=>(.exit 0,⟨([.undef,.undef,.gE mW x.1,.gE mu x.2]++bG 137 []),[],(List.replicate 141 [])⟩)
abbrev aQ.L0.X:=(aQ.L0.X0)⊕(aQ.L0.X1)
abbrev aQ.L0.Y:=(aQ.L0.Y0)⊕(aQ.L0.Y1)
def aQ.L0.out:aQ.L0.X->Out (Exit×AS):=λx=> .br x.isLeft (.get x.getLeft? λa=> .ok (aQ.L0.bY a)) (.get x.getRight? λb=> .ok (aQ.L0.ko b))
def aQ.L0.add:aQ.L0.D->aQ.L0.Y->aQ.L0.X:=λ(jC,ef,i) y=>match y with | .inl y=> .inl y | .inr z=> .inr ((jC,ef))
abbrev aQ.D:=iP×jk
def aQ.st:aQ.D->SA:=λ(ch,sv)=>([.d mW ch,.d mu sv],[])
abbrev aQ.Y:=Bool
abbrev aQ.X:=Bool
def aQ.out:aQ.X->aX:=λx=>⟨.d .bool x,[],[]⟩
def aQ.add:aQ.D->aQ.Y->aQ.X:=λ(ch,sv) y=>y
def aQ.L0.az:aQ.L0.D->Prop:=λ(ch,sv,i)=>mX ch/\ur sv/\∃k:Nat,k<=sv.2.2.1.length/\i=k
def aQ.L0.F:aQ.L0.D->aQ.L0.Y:=λ(ch,sv,i)=>if tw (yR sv.2.2.1 i.toNat) (sv.2.2.1.drop i.toNat)=true then .inr () else .inl ()
def aQ.az:aQ.D->Prop:=λ(ch,s)=>mX ch/\ur s
def aQ.F:aQ.D->aQ.Y:=λ(ch,s)=>xX ch s
def aQ.G:fD:=gr (P:=Tryz.prog) [cv.sg,jd.sg,eE.sg,dB.sg,cH.sg,cW.sg,fe.sg]
def aQ.L0.E:=cU.dp aQ.L0.st aQ.L0.az aQ.L0.add aQ.L0.F aQ.L0.out
def aQ.L0.call:aQ.L0.D->Option aQ.L0.X:=eI aQ.L0.E aQ.L0.st
def aQ.an:fR:= {loops:=om [(4,{bO:=[2,3,5]}),(10,{bO:=[2,3,7],sites:=[11,16,23,30,36,57,75,106,126,138]})],outs:=oh [(4,{bO:=[2,3]},{bO:=[4]}),(10,{bO:=[2,3],sites:=[11,16,23,30,36,57,75,106,126,138]},{bO:=[4],sites:=[11,16,23,30,36,57,75,106,126,138]})],jo:=pb [(4,aQ.L0.E)]}
def aQ.A:= @dm Tryz.prog aQ.G aQ.an 3 Tryz.f27 _ aQ.st
abbrev aQ.Ok:=dn @aQ.A aQ.az aQ.add aQ.F aQ.out
def aQ.L0.R:= @dr Tryz.prog aQ.G aQ.an 3 Tryz.f27 0 _ aQ.L0.st
abbrev aQ.L0.Ok:=gz Tryz.prog aQ.G aQ.an 3 Tryz.f27 0 aQ.L0.st aQ.L0.az aQ.L0.add aQ.L0.F aQ.L0.out
theorem aQ.L0.run:b8 aQ.L0.call aQ.L0.az aQ.L0.add aQ.L0.F:=gR (gJ [.d mW,.d mu,.d ti] λ_=>by kernel_rfl)
theorem aQ.L0.aI:rV @aQ.L0.R aQ.L0.st aQ.L0.az aQ.L0.add aQ.L0.F aQ.L0.out aQ.L0.Ok:=sy
theorem aQ.L0.step{R:Type}(jC:iP)(ef:jk)(i:Int)(kn:AS->Option R)(kx:Exit->AS->Option R):aQ.L0.R (jC,ef,i) kn kx=
  aJ ((jM i (((List.length ef.2.2.1):Nat):Int))) (
   aJ (fB i (((List.length ef.2.2.1):Nat):Int)) (
   ah (eE.call (nth kf ef.2.2.1 (Int.toNat i))) λx1=>
   aJ ((!x1)) (
    kx (aQ.L0.bY ()).1 (aQ.L0.bY ()).2) (
    aJ ((sh i (0:Int))) (
     aJ (fB (cY .i64 i (1:Int)) (((List.length ef.2.2.1):Nat):Int)) (
     aJ (fB i (((List.length ef.2.2.1):Nat):Int)) (
     ah (dB.call ((nth kf ef.2.2.1 (Int.toNat (cY .i64 i (1:Int)))),(nth kf ef.2.2.1 (Int.toNat i)))) λx2=>
     aJ ((!x2)) (
      kx (aQ.L0.bY ()).1 (aQ.L0.bY ()).2) (
      aJ (fB i (((List.length ef.2.2.1):Nat):Int)) (
      aJ (fB i (((List.length ef.2.2.1):Nat):Int)) (
      aJ (fB (cY .i64 (1:Int) (nth kf ef.2.2.1 (Int.toNat i)).1) (2:Int)) (
      aJ ((jM (nth kf ef.2.2.1 (Int.toNat i)).2.2.1 (nth oI jC.2.2.2.1 (Int.toNat (cY .i64 (1:Int) (nth kf ef.2.2.1 (Int.toNat i)).1))).2.2.2.2.1)) (
       kx (aQ.L0.bY ()).1 (aQ.L0.bY ()).2) (
       kn (aQ.L0.st (jC,ef,(bV .i64 i (1:Int)))))) none) none) none)) none) none) (
     aJ (fB i (((List.length ef.2.2.1):Nat):Int)) (
     aJ (fB i (((List.length ef.2.2.1):Nat):Int)) (
     aJ (fB (cY .i64 (1:Int) (nth kf ef.2.2.1 (Int.toNat i)).1) (2:Int)) (
     aJ ((jM (nth kf ef.2.2.1 (Int.toNat i)).2.2.1 (nth oI jC.2.2.2.1 (Int.toNat (cY .i64 (1:Int) (nth kf ef.2.2.1 (Int.toNat i)).1))).2.2.2.2.1)) (
      kx (aQ.L0.bY ()).1 (aQ.L0.bY ()).2) (
      kn (aQ.L0.st (jC,ef,(bV .i64 i (1:Int)))))) none) none) none))) none) (
   kx (aQ.L0.ko (jC,ef)).1 (aQ.L0.ko (jC,ef)).2):=by kernel_rfl
theorem aQ.eq{R:Type}(ch:iP)(sv:jk)(k:aX->Option R):aQ.A (ch,sv) k=
  ah (cv.call ch) λx1=>
  aJ ((tc x1 (0:Int))) (
   k (aQ.out false)) (
   ah (jd.call (sv.1,(0:Int),(1048576:Int))) λx2=>
   aJ ((!x2)) (
    k (aQ.out false)) (
    ah (jd.call ((nth ti sv.2.1 0),(0:Int),(1125899906842624:Int))) λx3=>
    aJ ((!x3)) (
     k (aQ.out false)) (
     ah (jd.call ((nth ti sv.2.1 1),(0:Int),(1125899906842624:Int))) λx4=>
     aJ ((!x4)) (
      k (aQ.out false)) (
      ah (jd.call (sv.2.2.2.1,(0:Int),(1000:Int))) λx5=>
      aJ ((!x5)) (
       k (aQ.out false)) (
       aJ ((sh (((List.length sv.2.2.1):Nat):Int) (16:Int))) (
        k (aQ.out false)) (
        ah (aQ.L0.call (ch,sv,(0:Int))) λx8=>
        aJ (x8.isLeft) (
         ah (x8.getLeft?) λa9=>
         k (aQ.out false)) (
         ah (x8.getRight?) λb10=>
         ah (cH.call (b10.2,(0:Int))) λBD=>
         aJ ((sh BD.1 (nth oI b10.1.2.2.2.1 0).2.2.2.1)) (
          k (aQ.out false)) (
          aJ ((sh BD.2 (nth oI b10.1.2.2.2.1 0).2.2.2.2.2.1)) (
           k (aQ.out false)) (
           ah (cH.call (b10.2,(1:Int))) λDk=>
           aJ ((sh Dk.1 (nth oI b10.1.2.2.2.1 1).2.2.2.1)) (
            k (aQ.out false)) (
            aJ ((sh Dk.2 (nth oI b10.1.2.2.2.1 1).2.2.2.2.2.1)) (
             k (aQ.out false)) (
             ah (cW.call b10.2) λPS=>
             aJ ((mV PS b10.1.2.1)) (
              aJ (fB b10.1.2.2.2.2.1 (2:Int)) (
              ah (fe.call (b10.1,b10.2)) λUl=>
              k (aQ.out (qu (nth ti b10.2.2.1 (Int.toNat b10.1.2.2.2.2.1)) Ul))) none) (
              k (aQ.out false))))))))))))):=by kernel_rfl
theorem aQ.L0.ok:aQ.L0.Ok:=by
 refine aQ.L0.aI (λ(ch,sv,i)=>sv.2.2.1.length - i.toNat) ?_
 rintro⟨ch,sv,i⟩ ⟨fI,hu,k,hk,rfl⟩
 have hu:ur sv:=hu
 have hl:sv.2.2.1.length<=1000:=hu.2.1
 have hk:k<=sv.2.2.1.length:=hk
 by_cases h:k < sv.2.2.1.length
 ·have hd:=JH h
  have step:∀ {R:Type} (kn:AS->Option R) (kx:Exit->AS->Option R),aQ.L0.R (ch,sv,(k:Int)) kn kx=aJ (F3 sv.2.2.1[k] && (decide (k=0) || zj (nth kf sv.2.2.1 (k - 1)) sv.2.2.1[k])) (kn (aQ.L0.st (ch,sv,((k+1:Nat):Int)))) (kx (aQ.L0.bY ()).1 (aQ.L0.bY ()).2):=by
   intro R kn kx
   have n1:nth kf sv.2.2.1 k=sv.2.2.1[k]:=dQ (t:=kf) h
   have hx:iy sv.2.2.1[k].2.2.2.1:=hu.1 _ (List.getElem_mem h)
   rw[aQ.L0.step,bI (by omega),bF (by omega) (by omega),aa,n1,eE.run (d:=sv.2.2.1[k]) hx,N.pF (by omega)]
   simp only[ae,ab,eE.add,eE.F]
   cases hb:F3 sv.2.2.1[k]
   ·rfl
   ·have g:=rZ.1 hb
    have i2:fB (1 - sv.2.2.1[k].1) 2=true:=bF (by have:=g.side;omega) (by have:=g.side;omega)
    obtain⟨d,Tn,_⟩:=fI.t (n:=1 - sv.2.2.1[k].1) (by have:=g.side;omega)
    rw[bZ,ai,Jm g.side,Tn,Ww,bp (by have:=g.EY.1;omega),i2]
    simp only[ae,ai]
    by_cases h0:k=0
    ·subst h0
     rw[dY (by omega),ai,aM rfl]
     rfl
    ·rw[fE (by omega),ae,N.UL (by omega) (by omega),bF (by omega) (by omega),ae,aa,dB.c,ab,cq h0]
     cases zj (nth kf sv.2.2.1 (k - 1)) sv.2.2.1[k] <;> rfl
  cases hp:(F3 sv.2.2.1[k] && (decide (k=0) || zj (nth kf sv.2.2.1 (k - 1)) sv.2.2.1[k]))
  ·right
   refine⟨aQ.L0.bY (),?_,λkn kx=> ?_⟩
   ·rw[<-Bool.and_assoc,hp,fN]at hd
    simp only[aQ.L0.add,aQ.L0.F,aa,hd,cD,if_false]
    rfl
   ·rw[step,hp,ai]
  ·left
   refine⟨(ch,sv,((k+1:Nat):Int)),⟨fI,hu,k+1,by omega,rfl⟩,by simp only[aa];omega,?_,λkn kx=> ?_⟩
   ·rw[<-Bool.and_assoc,hp,cr]at hd
    simp only[aQ.L0.add,aQ.L0.F,aa,hd]
   ·rw[step,hp,ae]
 ·right
  obtain rfl:k=sv.2.2.1.length:=by omega
  refine⟨aQ.L0.ko (ch,sv),?_,λkn kx=> ?_⟩
  ·simp only[aQ.L0.add,aQ.L0.F,aa,bB,tw,if_true]
   rfl
  ·rw[aQ.L0.step,bp (by omega),ai]
theorem aQ.ok:aQ.Ok:=by
 rintro⟨ch,s⟩ ⟨fI,hu⟩
 have fI:mX ch:=fI
 rw[aQ.eq,cv.run (d:=ch) fI]
 simp only[ab,cv.add,cv.F,jd.c]
 rw[gZ rfl,ai]
 simp only[aQ.add,aQ.F,xX]
 cases h1:qv s.1 0 1048576
 ·rfl
 cases h2:qv (nth ti s.2.1 0) 0 1125899906842624
 ·rfl
 cases h3:qv (nth ti s.2.1 1) 0 1125899906842624
 ·rfl
 cases h4:qv s.2.2.2.1 0 1000
 ·rfl
 simp only[bZ,ai,cr]
 by_cases h5:s.2.2.1.length<=16
 rotate_left
 ·rw[fE (by omega),ae,cq h5];rfl
 rw[dY (by omega),ai,aM h5,cr,aQ.L0.run (d:=(ch,s,0)) ⟨fI,hu,0,bm _,rfl⟩]
 simp only[ab,aQ.L0.add,aQ.L0.F,bH,aW]
 rw[show yR s.2.2.1 0=none from rfl]
 cases h6:tw none s.2.2.1
 ·simp only[cD,if_false,nH,ae,mm,ab,fN]
 have hA:∀c∈s.2.2.1,F9 c:=λc hc=>(tW _ _ h6 c hc).a
 simp only[if_true,jB,ai,iD,ab,cr]
 rw[cH.run (d:=(s,0)) ⟨.inl rfl,hA,by have:s.2.2.1.length<=16:=h5;show s.2.2.1.length<=1000;omega⟩]
 simp only[ab,cH.add,cH.F]
 have o0:=yN 0 s.2.2.1
 have o1:=yN 1 s.2.2.1
 rw[fI.t0,Oe,Ui,dY (by omega),ai]
 by_cases h7:jL (lZ 0 s.2.2.1)<=1125899906842624
 rotate_left
 ·rw[fE (by omega),ae,cq h7];rfl
 rw[dY (by omega),ai,aM h7,cr,cH.run (d:=(s,1)) ⟨.inr rfl,hA,by have:s.2.2.1.length<=16:=h5;show s.2.2.1.length<=1000;omega⟩]
 simp only[ab,cH.add,cH.F]
 rw[fI.t1,Oe,Ui,dY (by omega),ai]
 by_cases h8:jL (lZ 1 s.2.2.1)<=1125899906842624
 rotate_left
 ·rw[fE (by omega),ae,cq h8];rfl
 rw[dY (by omega),ai,aM h8,cr,cW.run (d:=s) ⟨hA,by have:s.2.2.1.length<=16:=h5;show s.2.2.1.length<=1000;omega,si.1 h2,si.1 h3⟩]
 simp only[ab,cW.add,cW.F]
 cases mV (nth ti s.2.1 0+nth ti s.2.1 1+jL s.2.2.1) ch.2.1
 ·rfl
 have ho:=fI.op
 rw[ae,bF (by omega) (by omega),ae,fe.run (d:=(ch,s)) trivial]
 rfl
def aQ.E:=Entry.dp [some mW,some mu] aQ.st aQ.az aQ.add aQ.F aQ.out
def aQ.call:aQ.D->Option aQ.X:=bX aQ.E aQ.st
theorem aQ.run:b8 aQ.call aQ.az aQ.add aQ.F:=dv (du [.d mW,.d mu] λ_=>by kernel_rfl)
def aQ.sg:SG Tryz.prog:=⟨27,aP,aQ.E,.fn 2 (by kernel_rfl) aQ.ok (And.intro (.dp aQ.L0.ok (by kernel_rfl)) (And.intro (.none (by kernel_rfl)) trivial))⟩
abbrev au.L0.D:=iP×jk×(List jj)×Int×Int
def au.L0.st:au.L0.D->AS:=λ(jC,ef,t46,t47,t48)=>⟨([.undef,.undef,.gE mW jC,.gE mu ef]++bG 42 ([.d (.slice kf) t46,.d ti t47,.d ti t48]++bG 74 [])),[],(List.replicate 123 [])⟩
abbrev au.L0.Y0:=Unit
abbrev au.L0.X0:=Unit
def au.L0.bY:au.L0.X0->Exit×AS:=λx=>(.ret,⟨(bG 4 ([.d .bool false]++bG 118 [])),[],(List.replicate 123 [])⟩)
abbrev au.L0.Y1:=Unit
abbrev au.L0.X1:=iP×jk
def au.L0.ko:au.L0.X1->Exit×AS:=λx=>(.exit 0,⟨([.undef,.undef,.gE mW x.1,.gE mu x.2]++bG 119 []),[],(List.replicate 123 [])⟩)
abbrev au.L0.X:=(au.L0.X0)⊕(au.L0.X1)
abbrev au.L0.Y:=(au.L0.Y0)⊕(au.L0.Y1)
def au.L0.out:au.L0.X->Out (Exit×AS):=λx=> .br x.isLeft (.get x.getLeft? λa=> .ok (au.L0.bY a)) (.get x.getRight? λb=> .ok (au.L0.ko b))
def au.L0.add:au.L0.D->au.L0.Y->au.L0.X:=λ(jC,ef,t46,t47,t48) y=>match y with | .inl y=> .inl y | .inr z=> .inr ((jC,ef))
abbrev au.L1.D:=iP×jk×(List LW)×Int
def au.L1.st:au.L1.D->AS:=λ(Gt,FT,t85,t86)=>⟨([.undef,.undef,.gE mW Gt,.gE mu FT]++bG 81 ([.d (.arr 2 oI) t85,.d ti t86]++bG 36 [])),[],(List.replicate 123 [])⟩
abbrev au.L1.Y0:=Unit
abbrev au.L1.X0:=Unit
def au.L1.bY:au.L1.X0->Exit×AS:=λx=>(.ret,⟨(bG 4 ([.d .bool false]++bG 118 [])),[],(List.replicate 123 [])⟩)
abbrev au.L1.Y1:=Unit
abbrev au.L1.X1:=iP×jk
def au.L1.ko:au.L1.X1->Exit×AS:=λx=>(.exit 2,⟨([.undef,.undef,.gE mW x.1,.gE mu x.2]++bG 119 []),[],(List.replicate 123 [])⟩)
abbrev au.L1.X:=(au.L1.X0)⊕(au.L1.X1)
abbrev au.L1.Y:=(au.L1.Y0)⊕(au.L1.Y1)
def au.L1.out:au.L1.X->Out (Exit×AS):=λx=> .br x.isLeft (.get x.getLeft? λa=> .ok (au.L1.bY a)) (.get x.getRight? λb=> .ok (au.L1.ko b))
def au.L1.add:au.L1.D->au.L1.Y->au.L1.X:=λ(Gt,FT,t85,t86) y=>match y with | .inl y=> .inl y | .inr z=> .inr ((Gt,FT))
abbrev au.D:=iP×jk
def au.st:au.D->SA:=λ(ch,sv)=>([.d mW ch,.d mu sv],[])
abbrev au.Y:=Bool
abbrev au.X:=Bool
def au.out:au.X->aX:=λx=>⟨.d .bool x,[],[]⟩
def au.add:au.D->au.Y->au.X:=λ(ch,sv) y=>y
def au.L1.az:au.L1.D->Prop:=λ(ch,s,l,i)=>mX ch/\(∀c∈s.2.2.1,F9 c)/\s.2.2.1.length<=16/\l=ch.2.2.2.1/\(i=0\/i=1\/i=2)
def au.L1.F:au.L1.D->au.L1.Y:=λ(ch,s,l,i)=>if(decide (i<=0->jL (lZ 0 s.2.2.1)<=1125899906842624) && decide (i<=1->jL (lZ 1 s.2.2.1)<=1125899906842624))=true then .inr () else .inl ()
def au.L0.az:au.L0.D->Prop:=λ(ch,sv,l,m,i)=>mX ch/\ur sv/\l=sv.2.2.1/\m=sv.2.2.1.length/\∃k:Nat,k<=sv.2.2.1.length/\i=k
def au.L0.F:au.L0.D->au.L0.Y:=λ(ch,sv,l,m,i)=>if tw (yR sv.2.2.1 i.toNat) (sv.2.2.1.drop i.toNat)=true then .inr () else .inl ()
def au.az:au.D->Prop:=λ(ch,s)=>mX ch/\ur s
def au.F:au.D->au.Y:=λ(ch,s)=>xX ch s
def au.G:fD:=gr (P:=Tryz.prog) [cG.sg,cF.sg,eV.sg,fi.sg,cP.sg,bz.sg,fH.sg]
def au.L0.E:=cU.dp au.L0.st au.L0.az au.L0.add au.L0.F au.L0.out
def au.L0.call:au.L0.D->Option au.L0.X:=eI au.L0.E au.L0.st
def au.L1.E:=cU.dp au.L1.st au.L1.az au.L1.add au.L1.F au.L1.out
def au.L1.call:au.L1.D->Option au.L1.X:=eI au.L1.E au.L1.st
def au.an:fR:= {loops:=om [(4,{bO:=[2,3,46,47,48]}),(10,{bO:=[2,3,85,86]})],outs:=oh [(4,{bO:=[2,3]},{bO:=[4]}),(10,{bO:=[2,3]},{bO:=[4]})],jo:=pb [(4,au.L0.E),(10,au.L1.E)]}
def au.A:= @dm Tryz.prog au.G au.an 0 Tryz.f41 _ au.st
abbrev au.Ok:=dn @au.A au.az au.add au.F au.out
def au.L0.R:= @dr Tryz.prog au.G au.an 0 Tryz.f41 0 _ au.L0.st
abbrev au.L0.Ok:=gz Tryz.prog au.G au.an 0 Tryz.f41 0 au.L0.st au.L0.az au.L0.add au.L0.F au.L0.out
def au.L1.R:= @dr Tryz.prog au.G au.an 0 Tryz.f41 1 _ au.L1.st
abbrev au.L1.Ok:=gz Tryz.prog au.G au.an 0 Tryz.f41 1 au.L1.st au.L1.az au.L1.add au.L1.F au.L1.out
theorem au.L0.run:b8 au.L0.call au.L0.az au.L0.add au.L0.F:=gR (gJ [.d mW,.d mu,.d (.slice kf),.d ti,.d ti] λ_=>by kernel_rfl)
theorem au.L0.aI:rV @au.L0.R au.L0.st au.L0.az au.L0.add au.L0.F au.L0.out au.L0.Ok:=sy
theorem au.L0.step{R:Type}(jC:iP)(ef:jk)(t46:(List jj))(t47:Int)(t48:Int)(kn:AS->Option R)(kx:Exit->AS->Option R):au.L0.R (jC,ef,t46,t47,t48) kn kx=
  aJ ((jM t48 t47)) (
   aJ (fB t48 (((List.length t46):Nat):Int)) (
   ah (eV.call (nth kf t46 (Int.toNat t48))) λx1=>
   aJ ((!x1)) (
    kx (au.L0.bY ()).1 (au.L0.bY ()).2) (
    aJ (fB (cY .i64 (1:Int) (nth kf t46 (Int.toNat t48)).1) (2:Int)) (
    aJ ((jM (nth kf t46 (Int.toNat t48)).2.2.1 (nth oI jC.2.2.2.1 (Int.toNat (cY .i64 (1:Int) (nth kf t46 (Int.toNat t48)).1))).2.2.2.2.1)) (
     kx (au.L0.bY ()).1 (au.L0.bY ()).2) (
     aJ ((sh t48 (0:Int))) (
      aJ (fB (cY .i64 t48 (1:Int)) (((List.length ef.2.2.1):Nat):Int)) (
      ah (fi.call ((nth kf ef.2.2.1 (Int.toNat (cY .i64 t48 (1:Int)))),(nth kf t46 (Int.toNat t48)))) λx2=>
      aJ ((qu x2 (0:Int))) (
       kx (au.L0.bY ()).1 (au.L0.bY ()).2) (
       kn (au.L0.st (jC,ef,t46,t47,(bV .i64 t48 (1:Int)))))) none) (
      kn (au.L0.st (jC,ef,t46,t47,(bV .i64 t48 (1:Int))))))) none)) none) (
   kx (au.L0.ko (jC,ef)).1 (au.L0.ko (jC,ef)).2):=by kernel_rfl
theorem au.L1.run:b8 au.L1.call au.L1.az au.L1.add au.L1.F:=gR (gJ [.d mW,.d mu,.d (.slice oI),.d ti] λ_=>by kernel_rfl)
theorem au.L1.aI:rV @au.L1.R au.L1.st au.L1.az au.L1.add au.L1.F au.L1.out au.L1.Ok:=sy
theorem au.L1.step{R:Type}(Gt:iP)(FT:jk)(t85:(List LW))(t86:Int)(kn:AS->Option R)(kx:Exit->AS->Option R):au.L1.R (Gt,FT,t85,t86) kn kx=
  aJ ((jM t86 (2:Int))) (
   aJ (fB t86 (2:Int)) (
   ah (cP.call (FT,t86)) λx1=>
   aJ ((sh x1.1 (nth oI t85 (Int.toNat t86)).2.2.2.1)) (
    kx (au.L1.bY ()).1 (au.L1.bY ()).2) (
    aJ ((sh x1.2 (nth oI t85 (Int.toNat t86)).2.2.2.2.2.1)) (
     kx (au.L1.bY ()).1 (au.L1.bY ()).2) (
     kn (au.L1.st (Gt,FT,t85,(bV .i64 t86 (1:Int))))))) none) (
   kx (au.L1.ko (Gt,FT)).1 (au.L1.ko (Gt,FT)).2):=by kernel_rfl
theorem au.eq{R:Type}(ch:iP)(sv:jk)(k:aX->Option R):au.A (ch,sv) k=
  ah (cG.call ch) λx1=>
  aJ ((tc x1 (0:Int))) (
   k (au.out false)) (
   ah (cF.call ((0:Int),(1048576:Int),[sv.1])) λx2=>
   aJ ((!x2)) (
    k (au.out false)) (
    ah (cF.call ((0:Int),(1125899906842624:Int),[(nth ti sv.2.1 0),(nth ti sv.2.1 1)])) λx3=>
    aJ ((!x3)) (
     k (au.out false)) (
     ah (cF.call ((0:Int),(1000:Int),[sv.2.2.2.1])) λx4=>
     aJ ((!x4)) (
      k (au.out false)) (
      aJ ((sh (((List.length sv.2.2.1):Nat):Int) (16:Int))) (
       k (au.out false)) (
       ah (au.L0.call (ch,sv,sv.2.2.1,(((List.length sv.2.2.1):Nat):Int),(0:Int))) λx7=>
       aJ (x7.isLeft) (
        ah (x7.getLeft?) λa8=>
        k (au.out false)) (
        ah (x7.getRight?) λb9=>
        ah (au.L1.call (b9.1,b9.2,b9.1.2.2.2.1,(0:Int))) λBD=>
        aJ (BD.isLeft) (
         ah (BD.getLeft?) λa12=>
         k (au.out false)) (
         ah (BD.getRight?) λb13=>
         ah (bz.call b13.2) λUl=>
         aJ ((mV Ul b13.1.2.1)) (
          aJ (fB b13.1.2.2.2.2.1 (2:Int)) (
          ah (fH.call (b13.1,b13.2)) λQF=>
          k (au.out (qu (nth ti b13.2.2.1 (Int.toNat b13.1.2.2.2.2.1)) QF))) none) (
          k (au.out false))))))))):=by kernel_rfl
theorem au.L0.ok:au.L0.Ok:=by
 refine au.L0.aI (λ(ch,sv,l,m,i)=>sv.2.2.1.length - i.toNat) ?_
 rintro⟨ch,sv,l,m,i⟩ ⟨fI,hu,rfl,rfl,k,hk,rfl⟩
 have hu:ur sv:=hu
 have hl:sv.2.2.1.length<=1000:=hu.2.1
 have hk:k<=sv.2.2.1.length:=hk
 by_cases h:k < sv.2.2.1.length
 ·have hd:=JH h
  have step:∀ {R:Type} (kn:AS->Option R) (kx:Exit->AS->Option R),au.L0.R (ch,sv,sv.2.2.1,(sv.2.2.1.length:Int),(k:Int)) kn kx=aJ (F3 sv.2.2.1[k] && (decide (k=0) || zj (nth kf sv.2.2.1 (k - 1)) sv.2.2.1[k])) (kn (au.L0.st (ch,sv,sv.2.2.1,(sv.2.2.1.length:Int),((k+1:Nat):Int)))) (kx (au.L0.bY ()).1 (au.L0.bY ()).2):=by
   intro R kn kx
   have n1:nth kf sv.2.2.1 k=sv.2.2.1[k]:=dQ (t:=kf) h
   have hx:iy sv.2.2.1[k].2.2.2.1:=hu.1 _ (List.getElem_mem h)
   obtain⟨an,ac,ag⟩:=fi.ge (nth kf sv.2.2.1 (k - 1)) sv.2.2.1[k]
   rw[au.L0.step,bI (by omega),bF (by omega) (by omega),aa,n1,eV.run (d:=sv.2.2.1[k]) hx,N.pF (by omega)]
   simp only[ae,ab,eV.add,eV.F]
   cases hb:F3 sv.2.2.1[k]
   ·rfl
   ·have g:=rZ.1 hb
    have i2:fB (1 - sv.2.2.1[k].1) 2=true:=bF (by have:=g.side;omega) (by have:=g.side;omega)
    obtain⟨d,Tn,_⟩:=fI.t (n:=1 - sv.2.2.1[k].1) (by have:=g.side;omega)
    rw[bZ,ai,Jm g.side,Tn,Ww,bp (by have:=g.EY.1;omega),i2]
    simp only[ae,ai]
    by_cases h0:k=0
    ·subst h0
     rw[dY (by omega),ai,aM rfl]
     rfl
    ·rw[fE (by omega),ae,N.UL (by omega) (by omega),bF (by omega) (by omega),ae,aa,ac,ab,ag,cq h0]
     cases zj (nth kf sv.2.2.1 (k - 1)) sv.2.2.1[k] <;> rfl
  cases hp:(F3 sv.2.2.1[k] && (decide (k=0) || zj (nth kf sv.2.2.1 (k - 1)) sv.2.2.1[k]))
  ·right
   refine⟨au.L0.bY (),?_,λkn kx=> ?_⟩
   ·rw[<-Bool.and_assoc,hp,fN]at hd
    simp only[au.L0.add,au.L0.F,aa,hd,cD,if_false]
    rfl
   ·rw[step,hp,ai]
  ·left
   refine⟨(ch,sv,sv.2.2.1,(sv.2.2.1.length:Int),((k+1:Nat):Int)),⟨fI,hu,rfl,rfl,k+1,by omega,rfl⟩,by simp only[aa];omega,?_,λkn kx=> ?_⟩
   ·rw[<-Bool.and_assoc,hp,cr]at hd
    simp only[au.L0.add,au.L0.F,aa,hd]
   ·rw[step,hp,ae]
 ·right
  obtain rfl:k=sv.2.2.1.length:=by omega
  refine⟨au.L0.ko (ch,sv),?_,λkn kx=> ?_⟩
  ·simp only[au.L0.add,au.L0.F,aa,bB,tw,if_true]
   rfl
  ·rw[au.L0.step,bp (by omega),ai]
theorem au.L1.ok:au.L1.Ok:=by
 refine au.L1.aI (λ(_,_,_,i)=>(2 - i).toNat) ?_
 rintro⟨ch,s,l,i⟩ ⟨fI,hA,hl,rfl,hi⟩
 have fI:mX ch:=fI
 have hl:s.2.2.1.length<=16:=hl
 have o0:=yN 0 s.2.2.1
 have o1:=yN 1 s.2.2.1
 rcases hi with rfl | rfl | rfl
 ·have step:∀ {R:Type} (kn:AS->Option R) (kx:Exit->AS->Option R),au.L1.R (ch,s,ch.2.2.2.1,0) kn kx=aJ (decide (jL (lZ 0 s.2.2.1)<=1125899906842624)) (kn (au.L1.st (ch,s,ch.2.2.2.1,1))) (kx (au.L1.bY ()).1 (au.L1.bY ()).2):=by
   intro R kn kx
   rw[au.L1.step,bI (by omega),bF (by omega) (by omega),cP.run (d:=(s,0)) ⟨.inl rfl,hA,by show s.2.2.1.length<=1000;omega⟩]
   simp only[ae,ab,cP.add,cP.F]
   rw[show nth oI ch.2.2.2.1 (Int.toNat 0)=te 5 from fI.t0,Oe,Ui,dY (by omega),ai]
   by_cases h:jL (lZ 0 s.2.2.1)<=1125899906842624
   ·rw[dY (by omega),aM h];rfl
   ·rw[fE (by omega),cq h];rfl
  by_cases h:jL (lZ 0 s.2.2.1)<=1125899906842624
  ·left
   refine⟨(ch,s,ch.2.2.2.1,1),⟨fI,hA,hl,rfl,.inr (.inl rfl)⟩,by show(2 - (1:Int)).toNat < (2 - (0:Int)).toNat;decide,?_,λkn kx=> ?_⟩
   ·simp only[au.L1.add,au.L1.F]
    simp[h]
   ·rw[step,aM h,ae]
  ·right
   refine⟨au.L1.bY (),?_,λkn kx=> ?_⟩
   ·simp only[au.L1.add,au.L1.F]
    simp[h]
    rfl
   ·rw[step,cq h,ai]
 ·have step:∀ {R:Type} (kn:AS->Option R) (kx:Exit->AS->Option R),au.L1.R (ch,s,ch.2.2.2.1,1) kn kx=aJ (decide (jL (lZ 1 s.2.2.1)<=1125899906842624)) (kn (au.L1.st (ch,s,ch.2.2.2.1,2))) (kx (au.L1.bY ()).1 (au.L1.bY ()).2):=by
   intro R kn kx
   rw[au.L1.step,bI (by omega),bF (by omega) (by omega),cP.run (d:=(s,1)) ⟨.inr rfl,hA,by show s.2.2.1.length<=1000;omega⟩]
   simp only[ae,ab,cP.add,cP.F]
   rw[show nth oI ch.2.2.2.1 (Int.toNat 1)=te 6 from fI.t1,Oe,Ui,dY (by omega),ai]
   by_cases h:jL (lZ 1 s.2.2.1)<=1125899906842624
   ·rw[dY (by omega),aM h];rfl
   ·rw[fE (by omega),cq h];rfl
  by_cases h:jL (lZ 1 s.2.2.1)<=1125899906842624
  ·left
   refine⟨(ch,s,ch.2.2.2.1,2),⟨fI,hA,hl,rfl,.inr (.inr rfl)⟩,by show(2 - (2:Int)).toNat < (2 - (1:Int)).toNat;decide,?_,λkn kx=> ?_⟩
   ·simp only[au.L1.add,au.L1.F]
    simp[h]
   ·rw[step,aM h,ae]
  ·right
   refine⟨au.L1.bY (),?_,λkn kx=> ?_⟩
   ·simp only[au.L1.add,au.L1.F]
    simp[h]
    rfl
   ·rw[step,cq h,ai]
 ·right
  refine⟨au.L1.ko (ch,s),?_,λkn kx=> ?_⟩
  ·simp only[au.L1.add,au.L1.F]
   simp
   rfl
  ·rw[au.L1.step,bp (by omega),ai]
theorem au.ok:au.Ok:=by
 rintro⟨ch,s⟩ ⟨fI,hu⟩
 have fI:mX ch:=fI
 rw[au.eq,cG.run (d:=ch) fI]
 simp only[ab,cG.add,cG.F,cF.c1,cF.c2]
 rw[gZ rfl,ai]
 simp only[au.add,au.F,xX]
 cases h1:qv s.1 0 1048576
 ·rfl
 cases h2:qv (nth ti s.2.1 0) 0 1125899906842624
 ·rfl
 cases h3:qv (nth ti s.2.1 1) 0 1125899906842624
 ·rfl
 cases h4:qv s.2.2.2.1 0 1000
 ·rfl
 simp only[bZ,ai,cr]
 by_cases h5:s.2.2.1.length<=16
 rotate_left
 ·rw[fE (by omega),ae,cq h5];rfl
 rw[dY (by omega),ai,aM h5,cr,au.L0.run (d:=(ch,s,s.2.2.1,(s.2.2.1.length:Int),0)) ⟨fI,hu,rfl,rfl,0,bm _,rfl⟩]
 simp only[ab,au.L0.add,au.L0.F,bH,aW]
 rw[show yR s.2.2.1 0=none from rfl]
 cases h6:tw none s.2.2.1
 ·simp only[cD,if_false,nH,ae,mm,ab,fN]
 have hA:∀c∈s.2.2.1,F9 c:=λc hc=>(tW _ _ h6 c hc).a
 simp only[if_true,jB,ai,iD,ab,cr]
 rw[au.L1.run (d:=(ch,s,ch.2.2.2.1,0)) ⟨fI,hA,h5,rfl,.inl rfl⟩]
 simp only[ab,au.L1.add,au.L1.F]
 by_cases h7:jL (lZ 0 s.2.2.1)<=1125899906842624
 rotate_left
 ·rw[cq (λx=>h7 (x (by omega))),cq h7];rfl
 by_cases h8:jL (lZ 1 s.2.2.1)<=1125899906842624
 rotate_left
 ·rw[cq (p:=(0:Int)<=1->_) (λx=>h8 (x (by omega))),cq h8,lC,fN,lC];rfl
 rw[aM (λ_=>h7),aM (p:=(0:Int)<=1->_) (λ_=>h8),aM h7,aM h8,cr,cr,cr,if_pos rfl]
 simp only[jB,ai,iD,ab]
 rw[bz.run (d:=s) ⟨hA,by have:s.2.2.1.length<=16:=h5;show s.2.2.1.length<=1000;omega,si.1 h2,si.1 h3⟩]
 simp only[ab,bz.add,bz.F]
 cases mV (nth ti s.2.1 0+nth ti s.2.1 1+jL s.2.2.1) ch.2.1
 ·rfl
 have ho:=fI.op
 rw[ae,bF (by omega) (by omega),ae,fH.run (d:=(ch,s)) trivial]
 rfl
def au.E:=Entry.dp [some mW,some mu] au.st au.az au.add au.F au.out
def au.call:au.D->Option au.X:=bX au.E au.st
theorem au.run:b8 au.call au.az au.add au.F:=dv (du [.d mW,.d mu] λ_=>by kernel_rfl)
def au.sg:SG Tryz.prog:=⟨41,aP,au.E,.fn 2 (by kernel_rfl) au.ok (And.intro (.dp au.L0.ok (by kernel_rfl)) (And.intro (.dp au.L1.ok (by kernel_rfl)) trivial))⟩
abbrev aZ.L0.D:=Int×Int×jk×Int
def aZ.L0.st:aZ.L0.D->AS:=λ(uI,IP,ef,i)=>⟨([.undef,.d ti uI,.d ti IP,.gE mu ef,.undef,.undef,.undef,.d ti i]++bG 26 []),[],(List.replicate 34 [])⟩
abbrev aZ.L0.Y0:=Int
abbrev aZ.L0.X0:=Int
def aZ.L0.bY:aZ.L0.X0->Exit×AS:=λx=>(.ret,⟨(bG 6 ([.d ti x]++bG 27 [])),[],(List.replicate 34 [])⟩)
abbrev aZ.L0.Y1:=Unit
abbrev aZ.L0.X1:=Unit
def aZ.L0.ko:aZ.L0.X1->Exit×AS:=λx=>(.exit 0,⟨(bG 34 []),[],(List.replicate 34 [])⟩)
abbrev aZ.L0.X:=(aZ.L0.X0)⊕(aZ.L0.X1)
abbrev aZ.L0.Y:=(aZ.L0.Y0)⊕(aZ.L0.Y1)
def aZ.L0.out:aZ.L0.X->Out (Exit×AS):=λx=> .br x.isLeft (.get x.getLeft? λa=> .ok (aZ.L0.bY a)) (.get x.getRight? λb=> .ok (aZ.L0.ko b))
def aZ.L0.add:aZ.L0.D->aZ.L0.Y->aZ.L0.X:=λ(uI,IP,ef,i) y=>match y with | .inl y=> .inl y | .inr z=> .inr (z)
abbrev aZ.D:=jk×Int×Int
def aZ.st:aZ.D->SA:=λ(sv,fromv,id)=>([.d mu sv,.d ti fromv,.d ti id],[])
abbrev aZ.Y:=Int
abbrev aZ.X:=Int
def aZ.out:aZ.X->aX:=λx=>⟨.d ti x,[],[]⟩
def aZ.add:aZ.D->aZ.Y->aZ.X:=λ(sv,fromv,id) y=>y
def J2(a i:Int):jj->Bool:=λc=>mV c.1 a && mV c.2.1 i
def aZ.L0.az:aZ.L0.D->Prop:=λ(_,_,s,i)=>s.2.2.1.length<=1000/\∃k:Nat,k<=s.2.2.1.length/\i=k
def aZ.L0.F:aZ.L0.D->aZ.L0.Y:=λ(a,b,s,i)=>tD (J2 a b) (s.2.2.1.drop i.toNat) i
def aZ.az:aZ.D->Prop:=λ(s,_,_)=>s.2.2.1.length<=1000
def aZ.F:aZ.D->aZ.Y:=λ(s,a,b)=>DF (J2 a b) s.2.2.1
def aZ.G:fD:=gr (P:=Tryz.prog) []
def aZ.L0.E:=cU.dp aZ.L0.st aZ.L0.az aZ.L0.add aZ.L0.F aZ.L0.out
def aZ.L0.call:aZ.L0.D->Option aZ.L0.X:=eI aZ.L0.E aZ.L0.st
def aZ.an:fR:= {loops:=om [(2,{bO:=[1,2,3,7]})],outs:=oh [(2,{},{bO:=[6]})],jo:=pb [(2,aZ.L0.E)]}
def aZ.A:= @dm Tryz.prog aZ.G aZ.an 0 Tryz.f71 _ aZ.st
abbrev aZ.Ok:=dn @aZ.A aZ.az aZ.add aZ.F aZ.out
def aZ.L0.R:= @dr Tryz.prog aZ.G aZ.an 0 Tryz.f71 0 _ aZ.L0.st
abbrev aZ.L0.Ok:=gz Tryz.prog aZ.G aZ.an 0 Tryz.f71 0 aZ.L0.st aZ.L0.az aZ.L0.add aZ.L0.F aZ.L0.out
theorem aZ.L0.run:b8 aZ.L0.call aZ.L0.az aZ.L0.add aZ.L0.F:=gR (gJ [.d ti,.d ti,.d mu,.d ti] λ_=>by kernel_rfl)
theorem aZ.L0.aI:rV @aZ.L0.R aZ.L0.st aZ.L0.az aZ.L0.add aZ.L0.F aZ.L0.out aZ.L0.Ok:=sy
theorem aZ.L0.step{R:Type}(uI:Int)(IP:Int)(ef:jk)(i:Int)(kn:AS->Option R)(kx:Exit->AS->Option R):aZ.L0.R (uI,IP,ef,i) kn kx=
  aJ ((jM i (((List.length ef.2.2.1):Nat):Int))) (
   aJ (fB i (((List.length ef.2.2.1):Nat):Int)) (
   aJ ((mV (nth kf ef.2.2.1 (Int.toNat i)).1 uI)) (
    aJ (fB i (((List.length ef.2.2.1):Nat):Int)) (
    aJ ((mV (nth kf ef.2.2.1 (Int.toNat i)).2.1 IP)) (
     kx (aZ.L0.bY i).1 (aZ.L0.bY i).2) (
     kn (aZ.L0.st (uI,IP,ef,(bV .i64 i (1:Int)))))) none) (
    kn (aZ.L0.st (uI,IP,ef,(bV .i64 i (1:Int)))))) none) (
   kx (aZ.L0.ko ()).1 (aZ.L0.ko ()).2):=by kernel_rfl
theorem aZ.eq{R:Type}(sv:jk)(fromv:Int)(id:Int)(k:aX->Option R):aZ.A (sv,fromv,id) k=
  ah (aZ.L0.call (fromv,id,sv,(0:Int))) λx1=>
  aJ (x1.isLeft) (
   ah (x1.getLeft?) λa2=>
   k (aZ.out a2)) (
   ah (x1.getRight?) λb3=>
   k (aZ.out (-1:Int))):=by kernel_rfl
theorem aZ.L0.ok:aZ.L0.Ok:=by
 refine aZ.L0.aI (λ(_,_,s,i)=>s.2.2.1.length - i.toNat) ?_
 rintro⟨a,b,s,i⟩ ⟨hl,k,hk,rfl⟩
 have hl:s.2.2.1.length<=1000:=hl
 have hk:k<=s.2.2.1.length:=hk
 by_cases h:k < s.2.2.1.length
 ·have n1:nth kf s.2.2.1 k=s.2.2.1[k]:=dQ (t:=kf) h
  have hd:tD (J2 a b) (s.2.2.1.drop k) k=if J2 a b s.2.2.1[k]=true then .inl (k:Int) else tD (J2 a b) (s.2.2.1.drop (k+1)) ((k+1:Nat):Int):=by rw[av h];rfl
  have step:∀ {R:Type} (kn:AS->Option R) (kx:Exit->AS->Option R),aZ.L0.R (a,b,s,(k:Int)) kn kx=aJ (J2 a b s.2.2.1[k]) (kx (aZ.L0.bY (k:Int)).1 (aZ.L0.bY (k:Int)).2) (kn (aZ.L0.st (a,b,s,((k+1:Nat):Int)))):=by
   intro R kn kx
   rw[aZ.L0.step,bI (by omega),bF (by omega) (by omega),aa,n1,N.pF (by omega)]
   simp only[ae,J2]
   cases mV s.2.2.1[k].1 a <;> rfl
  cases hp:J2 a b s.2.2.1[k]
  ·left
   refine⟨(a,b,s,((k+1:Nat):Int)),⟨hl,k+1,by omega,rfl⟩,by simp only[aa];omega,?_,λkn kx=> ?_⟩
   ·simp only[aZ.L0.add,aZ.L0.F,aa,hd,hp,cD,if_false]
   ·rw[step,hp,ai]
  ·right
   refine⟨aZ.L0.bY (k:Int),?_,λkn kx=> ?_⟩
   ·simp only[aZ.L0.add,aZ.L0.F,aa,hd,hp,if_true]
    rfl
   ·rw[step,hp,ae]
 ·right
  obtain rfl:k=s.2.2.1.length:=by omega
  refine⟨aZ.L0.ko (),?_,λkn kx=> ?_⟩
  ·simp only[aZ.L0.add,aZ.L0.F,aa,bB]
   rfl
  ·rw[aZ.L0.step,bp (by omega),ai]
theorem aZ.ok:aZ.Ok:=by
 rintro⟨s,a,b⟩ hl
 rw[aZ.eq,aZ.L0.run (d:=(a,b,s,0)) ⟨hl,0,bm _,rfl⟩]
 simp only[ab,aZ.L0.add,aZ.L0.F,bH,aW,aZ.add,aZ.F,DF]
 cases tD (J2 a b) s.2.2.1 0 <;> rfl
def aZ.E:=Entry.dp [some mu,some ti,some ti] aZ.st aZ.az aZ.add aZ.F aZ.out
def aZ.call:aZ.D->Option aZ.X:=bX aZ.E aZ.st
theorem aZ.run:b8 aZ.call aZ.az aZ.add aZ.F:=dv (du [.d mu,.d ti,.d ti] λ_=>by kernel_rfl)
def aZ.sg:SG Tryz.prog:=⟨71,aP,aZ.E,.fn 1 (by kernel_rfl) aZ.ok (And.intro (.dp aZ.L0.ok (by kernel_rfl)) trivial)⟩
abbrev bS.L0.D:=jk×jj×Bool×Int×Int×(List Int)×(Int×Unit)×Int×(List Int)×Nat×(Int×Unit)×(List jj)
def bS.L0.st:bS.L0.D->AS:=λ(ef,vH,done,i,n4,nB,qE,n5,sZ,Ds,DO,Ls)=>⟨([.undef,.undef,.gE mu ef,.gE kf vH,.ptr (.new 4 0) 0 [] 0,.ptr (.new 5 0) 0 [] 0,.d .bool done,.d ti i]++bG 57 []),[],(dh 4 ([[.obj 0 false (.pr (.d ti n4) (.pr (.d (.arr 2 ti) nB) (.pr (.eU) (.d (.pair ti .unit) qE))))],[.obj 0 false (.pr (.d ti n5) (.pr (.d (.arr 2 ti) sZ) (.pr (.di (.new 32 0) 0 [] 0 0 Ds) (.d (.pair ti .unit) DO))))]]++dh 26 ([[.obj 0 false (.vec 75 kf Ls)]]++dh 32 [])))⟩
abbrev bS.L0.Y0:=Bool×Nat×(List jj)
abbrev bS.L0.X0:=(jj×Int×(List Int)×(Int×Unit)×Int×(List Int)×(Int×Unit))×(Bool×Nat×(List jj))
def bS.L0.bY:bS.L0.X0->Exit×AS:=λx=>(.exit 0,⟨([.undef,.undef,.undef,.gE kf x.1.1,.ptr (.new 4 0) 0 [] 0,.ptr (.new 5 0) 0 [] 0,.d .bool x.2.1]++bG 58 []),[],(dh 4 ([[.obj 0 false (.pr (.d ti x.1.2.1) (.pr (.d (.arr 2 ti) x.1.2.2.1) (.pr (.eU) (.d (.pair ti .unit) x.1.2.2.2.1))))],[.obj 0 false (.pr (.d ti x.1.2.2.2.2.1) (.pr (.d (.arr 2 ti) x.1.2.2.2.2.2.1) (.pr (.di (.new 32 0) 0 [] 0 0 x.2.2.1) (.d (.pair ti .unit) x.1.2.2.2.2.2.2))))]]++dh 26 ([[.obj 0 false (.vec 75 kf x.2.2.2)]]++dh 32 [])))⟩)
abbrev bS.L0.X:=bS.L0.X0
abbrev bS.L0.Y:=bS.L0.Y0
def bS.L0.out:bS.L0.X->Out (Exit×AS):=λx=> .ok (bS.L0.bY x)
def bS.L0.add:bS.L0.D->bS.L0.Y->bS.L0.X:=λ(ef,vH,done,i,n4,nB,qE,n5,sZ,Ds,DO,Ls) y=>((vH,n4,nB,qE,n5,sZ,DO),y)
abbrev bS.D:=jk×jj
def bS.st:bS.D->SA:=λ(sv,c)=>([.d mu sv,.d kf c],[])
abbrev bS.Y:=jk
abbrev bS.X:=jk
def bS.out:bS.X->aX:=λx=>⟨.d mu x,[],[]⟩
def bS.add:bS.D->bS.Y->bS.X:=λ(sv,c) y=>y
def xJ:Bool->jj->List jj->List jj
 |_,_,[]=> []
 |d,c,x::l=>if(!d && zj c x)=true then c::x::xJ true c l else x::xJ d c l
def Bc:Bool->jj->List jj->Bool
 |d,_,[]=>d
 |d,c,x::l=>if(!d && zj c x)=true then Bc true c l else Bc d c l
def xH(c:jj)(l:List jj):List jj:=xJ false c l++(if Bc false c l=true then [] else [c])
theorem zL:∀(c:jj) (l:List jj),xJ true c l=l/\Bc true c l=true
 |c,[]=>⟨rfl,rfl⟩
 |c,x::l=>by
  have:=zL c l
  simp only[xJ,Bc,bZ,fN,cD,if_false,this.1,this.2,and_self]
theorem wK(c x:jj)(l:List jj):xH c (x::l)=if zj c x=true then c::x::l else x::xH c l:=by
 unfold xH
 simp only[xJ,Bc,gm,cr]
 split
 ·rw[(zL c l).1,(zL c l).2]
  simp
 ·rfl
def lJ(s:jk)(c:jj):jk:=(s.1,(s.2.1.set c.1.toNat (nth ti s.2.1 c.1.toNat - c.2.2.1),(xH c s.2.2.1,s.2.2.2)))
def bS.L0.az:bS.L0.D->Prop:=λ(s,c,done,i,z1,z2,z3,a1,a2,L,a3,row)=>s.2.2.1.length<=1000/\∃k:Nat,k<=s.2.2.1.length/\i=k/\L=row.length/\row.length<=2*k
def bS.L0.F:bS.L0.D->bS.L0.Y:=λ(s,c,done,i,z1,z2,z3,a1,a2,L,a3,row)=>(Bc done c (s.2.2.1.drop i.toNat),(row++xJ done c (s.2.2.1.drop i.toNat)).length,row++xJ done c (s.2.2.1.drop i.toNat))
def bS.az:bS.D->Prop:=λ(s,c)=>s.2.2.1.length<=1000/\s.2.1.length=2/\(0<=c.1/\c.1<=1)/\Bd (nth ti s.2.1 c.1.toNat) 0 1125899906842624/\0<=c.2.2.1/\c.2.2.1<=1125899906842624
def bS.F:bS.D->bS.Y:=λ(s,c)=>lJ s c
def bS.G:fD:=gr (P:=Tryz.prog) [dB.sg]
def bS.L0.E:=cU.dp bS.L0.st bS.L0.az bS.L0.add bS.L0.F bS.L0.out
def bS.L0.call:bS.L0.D->Option bS.L0.X:=eI bS.L0.E bS.L0.st
def bS.an:fR:= {loops:=om [(5,{bO:=[2,3,4,5,6,7],sites:=[4,5,32],nR:=[⟨5,[.snd,.snd,.fst],32,51⟩]})],outs:=oh [(5,{bO:=[3,4,5,6],sites:=[4,5,32]},{bO:=[4]})],jo:=pb [(5,bS.L0.E)],res:=[some mu]}
def bS.A:= @dm Tryz.prog bS.G bS.an 0 Tryz.f72 _ bS.st
abbrev bS.Ok:=dn @bS.A bS.az bS.add bS.F bS.out
def bS.L0.R:= @dr Tryz.prog bS.G bS.an 0 Tryz.f72 0 _ bS.L0.st
abbrev bS.L0.Ok:=gz Tryz.prog bS.G bS.an 0 Tryz.f72 0 bS.L0.st bS.L0.az bS.L0.add bS.L0.F bS.L0.out
theorem bS.L0.run:b8 bS.L0.call bS.L0.az bS.L0.add bS.L0.F:=gR (gJ [.d mu,.d kf,.d .bool,.d ti,.d ti,.d (.slice ti),.d (.pair ti .unit),.d ti,.d (.slice ti),.n,.d (.pair ti .unit),.d (.slice kf)] λ_=>by kernel_rfl)
theorem bS.L0.aI:jl @bS.L0.R bS.L0.st bS.L0.az bS.L0.add bS.L0.F bS.L0.bY bS.L0.Ok:=js
theorem bS.L0.step{R:Type}(ef:jk)(vH:jj)(done:Bool)(i:Int)(n4:Int)(nB:(List Int))(qE:(Int×Unit))(n5:Int)(sZ:(List Int))(Ds:Nat)(DO:(Int×Unit))(Ls:(List jj))(kn:AS->Option R)(kx:Exit->AS->Option R):bS.L0.R (ef,vH,done,i,n4,nB,qE,n5,sZ,Ds,DO,Ls) kn kx=
  aJ ((jM i (((List.length ef.2.2.1):Nat):Int))) (
   aJ ((!done)) (
    aJ (fB i (((List.length ef.2.2.1):Nat):Int)) (
    ah (dB.call (vH,(nth kf ef.2.2.1 (Int.toNat i)))) λx1=>
    aJ (x1) (
     aJ (decide (Ds<=(List.length Ls))) (
     aJ (fq (Ds+1) 40) (
     aJ (fB i (((List.length ef.2.2.1):Nat):Int)) (
     aJ (decide ((Ds+1)<=(List.length ((List.take Ds Ls)++ [vH])))) (
     aJ (fq ((Ds+1)+1) 40) (
     kn (bS.L0.st (ef,vH,true,(bV .i64 i (1:Int)),n4,nB,qE,n5,sZ,((Ds+1)+1),DO,((List.take (Ds+1) ((List.take Ds Ls)++ [vH]))++ [(nth kf ef.2.2.1 (Int.toNat i))])))) none) none) none) none) none) (
     aJ (fB i (((List.length ef.2.2.1):Nat):Int)) (
     aJ (decide (Ds<=(List.length Ls))) (
     aJ (fq (Ds+1) 40) (
     kn (bS.L0.st (ef,vH,done,(bV .i64 i (1:Int)),n4,nB,qE,n5,sZ,(Ds+1),DO,((List.take Ds Ls)++ [(nth kf ef.2.2.1 (Int.toNat i))])))) none) none) none)) none) (
    aJ (fB i (((List.length ef.2.2.1):Nat):Int)) (
    aJ (decide (Ds<=(List.length Ls))) (
    aJ (fq (Ds+1) 40) (
    kn (bS.L0.st (ef,vH,done,(bV .i64 i (1:Int)),n4,nB,qE,n5,sZ,(Ds+1),DO,((List.take Ds Ls)++ [(nth kf ef.2.2.1 (Int.toNat i))])))) none) none) none)) (
   kx (bS.L0.bY ((vH,n4,nB,qE,n5,sZ,DO),(done,Ds,Ls))).1 (bS.L0.bY ((vH,n4,nB,qE,n5,sZ,DO),(done,Ds,Ls))).2):=by kernel_rfl
theorem bS.eq{R:Type}(sv:jk)(c:jj)(k:aX->Option R):bS.A (sv,c) k=
  ah (bS.L0.call (sv,c,false,(0:Int),(0:Int),(List.replicate 2 (0:Int)),((0:Int),()),sv.1,sv.2.1,0,sv.2.2.2,([]:List jj))) λx3=>
  aJ ((!x3.2.1)) (
   aJ (decide (x3.2.2.1<=(List.length x3.2.2.2))) (
   aJ (fq (x3.2.2.1+1) 40) (
   aJ (fB x3.1.1.1 (2:Int)) (
   aJ (decide ((Int.toNat x3.1.1.1) < (List.length x3.1.2.2.2.2.2.1))) (
   aJ (decide ((1+(((Int.toNat x3.1.1.1)*1)+0))=(1+((Int.toNat x3.1.1.1)*1)))) (
   aJ (fB x3.1.1.1 (2:Int)) (
   aJ (decide ((Int.toNat x3.1.1.1) < (List.length x3.1.2.2.2.2.2.1))) (
   aJ (decide ((1+(((Int.toNat x3.1.1.1)*1)+0))=(1+((Int.toNat x3.1.1.1)*1)))) (
   aJ (decide ((Int.toNat x3.1.1.1) < (List.length x3.1.2.2.2.2.2.1))) (
   aJ (decide (0=0/\(0+(x3.2.2.1+1))<=(List.length ((List.take x3.2.2.1 x3.2.2.2)++ [x3.1.1])))) (
   k (bS.out (x3.1.2.2.2.2.1,((List.set x3.1.2.2.2.2.2.1 (Int.toNat x3.1.1.1) (cY .i64 (nth ti x3.1.2.2.2.2.2.1 (Int.toNat x3.1.1.1)) x3.1.1.2.2.1)),((cut ((List.take x3.2.2.1 x3.2.2.2)++ [x3.1.1]) 0 (x3.2.2.1+1)),x3.1.2.2.2.2.2.2))))) none) none) none) none) none) none) none) none) none) none) (
   aJ (fB x3.1.1.1 (2:Int)) (
   aJ (decide ((Int.toNat x3.1.1.1) < (List.length x3.1.2.2.2.2.2.1))) (
   aJ (decide ((1+(((Int.toNat x3.1.1.1)*1)+0))=(1+((Int.toNat x3.1.1.1)*1)))) (
   aJ (fB x3.1.1.1 (2:Int)) (
   aJ (decide ((Int.toNat x3.1.1.1) < (List.length x3.1.2.2.2.2.2.1))) (
   aJ (decide ((1+(((Int.toNat x3.1.1.1)*1)+0))=(1+((Int.toNat x3.1.1.1)*1)))) (
   aJ (decide ((Int.toNat x3.1.1.1) < (List.length x3.1.2.2.2.2.2.1))) (
   aJ (decide (0=0/\(0+x3.2.2.1)<=(List.length x3.2.2.2))) (
   k (bS.out (x3.1.2.2.2.2.1,((List.set x3.1.2.2.2.2.2.1 (Int.toNat x3.1.1.1) (cY .i64 (nth ti x3.1.2.2.2.2.2.1 (Int.toNat x3.1.1.1)) x3.1.1.2.2.1)),((cut x3.2.2.2 0 x3.2.2.1),x3.1.2.2.2.2.2.2))))) none) none) none) none) none) none) none) none):=by kernel_rfl
theorem bS.L0.ok:bS.L0.Ok:=by
 refine bS.L0.aI (λ(s,c,done,i,_)=>s.2.2.1.length - i.toNat) ?_
 rintro⟨s,c,done,i,z1,z2,z3,a1,a2,L,a3,row⟩ ⟨hl,k,hk,rfl,rfl,hr⟩
 have hl:s.2.2.1.length<=1000:=hl
 have hk:k<=s.2.2.1.length:=hk
 have hr:row.length<=2*k:=hr
 by_cases h:k < s.2.2.1.length
 ·left
  have n1:nth kf s.2.2.1 k=s.2.2.1[k]:=dQ (t:=kf) h
  have hd:s.2.2.1.drop k=s.2.2.1[k]::s.2.2.1.drop (k+1):=av h
  have e1:∀x:jj,(row++ [x]).length=row.length+1:=λx=>by rw[aj];rfl
  have e2:∀x y:jj,(row++ [x]++ [y]).length=row.length+1+1:=λx y=>by rw[aj,aj];rfl
  by_cases hq:(!done && zj c s.2.2.1[k])=true
  ·refine⟨(s,c,true,((k+1:Nat):Int),z1,z2,z3,a1,a2,row.length+1+1,a3,row++ [c]++ [s.2.2.1[k]]),⟨hl,k+1,by omega,rfl,(e2 _ _).symm,by show(row++ [c]++ [s.2.2.1[k]]).length<=_;rw[e2];omega⟩,by simp only[aa];omega,?_,λkn kx=> ?_⟩
   ·simp only[bS.L0.add,bS.L0.F,aa,hd,xJ,Bc,hq,if_true,bR,kC,bt]
   ·rw[bS.L0.step,bI (by omega),aa,n1,N.pF (by omega)]
    obtain⟨q1,q2⟩:=nE.1 hq
    rw[q1,ae,ae,bF (by omega) (by omega),ae,dB.c,ab,q2,ae,aM (aE _),ae,gk (by omega) (by omega),ae,ae,cQ]
    rw[aM (by rw[e1];exact aE _),ae,gk (by omega) (by omega),ae,cj (by rw[e1];exact aE _)]
  ·refine⟨(s,c,done,((k+1:Nat):Int),z1,z2,z3,a1,a2,row.length+1,a3,row++ [s.2.2.1[k]]),⟨hl,k+1,by omega,rfl,(e1 _).symm,by show(row++ [s.2.2.1[k]]).length<=_;rw[e1];omega⟩,by simp only[aa];omega,?_,λkn kx=> ?_⟩
   ·simp only[bS.L0.add,bS.L0.F,aa,hd,xJ,Bc,hq,cD,if_false,bR,fp]
   ·rw[bS.L0.step,bI (by omega),aa,n1,N.pF (by omega)]
    rw[ae,bF (by omega) (by omega),dB.c,aM (aE _),gk (by omega) (by omega),cQ]
    simp only[ae,ab]
    cases done
    ·have q:zj c s.2.2.1[k]=false:=by
      cases e:zj c s.2.2.1[k]
      ·rfl
      ·rw[e]at hq;exact absurd rfl hq
     rw[q]
     rfl
    ·rfl
 ·right
  obtain rfl:k=s.2.2.1.length:=by omega
  intro R kn kx
  rw[bS.L0.step,bp (by omega),ai]
  simp only[bS.L0.add,bS.L0.F,aa,bB,xJ,Bc,dg]
theorem bS.ok:bS.Ok:=by
 rintro⟨s,c⟩ ⟨hl,h2,hc,ha,hb⟩
 have hl:s.2.2.1.length<=1000:=hl
 have h2:s.2.1.length=2:=h2
 have hc:0<=c.1/\c.1<=1:=hc
 have YQ:=ha.1
 have YR:=ha.2
 have hb:0<=c.2.2.1/\c.2.2.1<=1125899906842624:=hb
 rw[bS.eq,bS.L0.run (d:=(s,c,false,0,0,List.replicate 2 0,(0,()),s.1,s.2.1,0,s.2.2.2,[])) ⟨hl,0,bm _,rfl,rfl,bm _⟩]
 simp only[ab,bS.L0.add,bS.L0.F,bH,aW,bt,bS.add,bS.F,lJ]
 have hT:(xJ false c s.2.2.1).length<=2*s.2.2.1.length:=by
  have:∀(d:Bool) (l:List jj),(xJ d c l).length<=2*l.length:=by
   intro d l
   induction l generalizing d with
   |nil=>exact aE _
   |cons x l ih=>
    rw[xJ]
    split
    ·have:=ih true
     simp only[aO]
     omega
    ·have:=ih d
     simp only[aO]
     omega
  exact this false _
 have i1:fB c.1 2=true:=bF hc.1 (by omega)
 have i2:c.1.toNat < s.2.1.length:=by omega
 have i3:1+(c.1.toNat*1+0)=1+c.1.toNat*1:=by omega
 rw[gQ (by omega) (by omega)]
 simp only[i1,aM i2,aM i3,ae,cQ,bl,xH]
 cases Bc false c s.2.2.1
 ·rw[gm,ae,aM (aE _),ae,gk (by omega) (by omega),ae,aM ⟨trivial,by rw[aj];exact aE _⟩,ae,jf (by rw[aj];rfl)]
  rfl
 ·rw[bZ,ai,aM ⟨trivial,aE _⟩,ae,jf rfl]
  rw[if_pos rfl,dg]
def bS.E:=Entry.dp [some mu,some kf] bS.st bS.az bS.add bS.F bS.out
def bS.call:bS.D->Option bS.X:=bX bS.E bS.st
theorem bS.run:b8 bS.call bS.az bS.add bS.F:=dv (du [.d mu,.d kf] λ_=>by kernel_rfl)
def bS.sg:SG Tryz.prog:=⟨72,aP,bS.E,.fn 1 (by kernel_rfl) bS.ok (And.intro (.dp bS.L0.ok (by kernel_rfl)) trivial)⟩
abbrev fO.D:=iP×jk×jj
def fO.st:fO.D->SA:=λ(ch,sv,c)=>([.d mW ch,.d mu sv,.d kf c],[])
abbrev fO.Y:=jk×Int
abbrev fO.X:=jk×Int
def fO.out:fO.X->aX:=λx=>⟨.cons (.d mu x.1) (.cons (.d ti x.2) (.nil)),[],[]⟩
def fO.add:fO.D->fO.Y->fO.X:=λ(ch,sv,c) y=>y
def Ov:jk:=((0:Int),((List.replicate 2 (0:Int)),(([]:List jj),((0:Int),()))))
def Qi(ch:iP)(t:jk)(c:jj):Int:=nth ti t.2.1 c.1.toNat - (if c.1=ch.2.2.2.2.1 then Bm t.2.2.2.1 t.2.2.1.length+660 else 0)
def A4(ch:iP)(s:jk)(c:jj):jk×Int:=
 if(xX ch s && F3 c)=true then
  if s.2.2.1.any (J2 c.1 c.2.1)=true then(Ov,4) else
  if s.2.2.1.length=16 then(Ov,3) else
  if jL (lZ (1 - c.1) s.2.2.1)+c.2.2.1 > 1125899906842624 then(Ov,6) else
  if nth ti (lJ s c).2.1 c.1.toNat < 0 then(Ov,8) else
  if nth ti (lJ s c).2.1 ch.2.2.2.2.1.toNat < Bm (lJ s c).2.2.2.1 (lJ s c).2.2.1.length+660 then(Ov,8) else
  if Qi ch (lJ s c) c < 200 then(Ov,10) else(lJ s c,0)
 else(Ov,1)
def fO.az:fO.D->Prop:=λ(ch,s,c)=>mX ch/\ur s/\iy c.2.2.2.1
def fO.F:fO.D->fO.Y:=λ(ch,s,c)=>A4 ch s c
def fO.G:fD:=gr (P:=Tryz.prog) [aQ.sg,eE.sg,aZ.sg,cH.sg,bS.sg,fe.sg]
def fO.an:fR:= {res:=[some mu,none]}
def fO.A:= @dm Tryz.prog fO.G fO.an 0 Tryz.f30 _ fO.st
abbrev fO.Ok:=dn @fO.A fO.az fO.add fO.F fO.out
theorem fO.eq{R:Type}(ch:iP)(sv:jk)(c:jj)(k:aX->Option R):fO.A (ch,sv,c) k=
  ah (aQ.call (ch,sv)) λx1=>
  ah (eE.call c) λx2=>
  aJ ((!x1)) (
   k (fO.out (((0:Int),((List.replicate 2 (0:Int)),(([]:List jj),((0:Int),())))),(1:Int)))) (
   aJ ((!x2)) (
    k (fO.out (((0:Int),((List.replicate 2 (0:Int)),(([]:List jj),((0:Int),())))),(1:Int)))) (
    ah (aZ.call (sv,c.1,c.2.1)) λx3=>
    aJ ((qu x3 (0:Int))) (
     k (fO.out (((0:Int),((List.replicate 2 (0:Int)),(([]:List jj),((0:Int),())))),(4:Int)))) (
     aJ (fB (cY .i64 (1:Int) c.1) (2:Int)) (
     ah (cH.call (sv,(cY .i64 (1:Int) c.1))) λx4=>
     aJ ((jM c.2.2.1 (nth oI ch.2.2.2.1 (Int.toNat (cY .i64 (1:Int) c.1))).2.2.2.2.1)) (
      k (fO.out (((0:Int),((List.replicate 2 (0:Int)),(([]:List jj),((0:Int),())))),(9:Int)))) (
      aJ ((mV (((List.length sv.2.2.1):Nat):Int) (16:Int))) (
       k (fO.out (((0:Int),((List.replicate 2 (0:Int)),(([]:List jj),((0:Int),())))),(3:Int)))) (
       aJ ((qu x4.1 (nth oI ch.2.2.2.1 (Int.toNat (cY .i64 (1:Int) c.1))).2.2.2.1)) (
        k (fO.out (((0:Int),((List.replicate 2 (0:Int)),(([]:List jj),((0:Int),())))),(3:Int)))) (
        aJ ((sh (bV .i64 x4.2 c.2.2.1) (nth oI ch.2.2.2.1 (Int.toNat (cY .i64 (1:Int) c.1))).2.2.2.2.2.1)) (
         k (fO.out (((0:Int),((List.replicate 2 (0:Int)),(([]:List jj),((0:Int),())))),(6:Int)))) (
         ah (bS.call (sv,c)) λx5=>
         ah (fe.call (ch,x5)) λx6=>
         aJ (fB c.1 (2:Int)) (
         aJ (decide ((Int.toNat c.1) < (List.length x5.2.1))) (
         aJ (decide ((1+(((Int.toNat c.1)*1)+0))=(1+((Int.toNat c.1)*1)))) (
         aJ ((jM (nth ti x5.2.1 (Int.toNat c.1)) (0:Int))) (
          k (fO.out (((0:Int),((List.replicate 2 (0:Int)),(([]:List jj),((0:Int),())))),(8:Int)))) (
          aJ (fB ch.2.2.2.2.1 (2:Int)) (
          aJ (decide ((Int.toNat ch.2.2.2.2.1) < (List.length x5.2.1))) (
          aJ (decide ((1+(((Int.toNat ch.2.2.2.2.1)*1)+0))=(1+((Int.toNat ch.2.2.2.2.1)*1)))) (
          aJ ((jM (nth ti x5.2.1 (Int.toNat ch.2.2.2.2.1)) x6)) (
           k (fO.out (((0:Int),((List.replicate 2 (0:Int)),(([]:List jj),((0:Int),())))),(8:Int)))) (
           aJ (fB c.1 (2:Int)) (
           aJ (decide ((Int.toNat c.1) < (List.length x5.2.1))) (
           aJ (decide ((1+(((Int.toNat c.1)*1)+0))=(1+((Int.toNat c.1)*1)))) (
           aJ ((mV c.1 ch.2.2.2.2.1)) (
            aJ ((jM (cY .i64 (nth ti x5.2.1 (Int.toNat c.1)) x6) (nth oI ch.2.2.2.1 (Int.toNat (cY .i64 (1:Int) c.1))).2.1)) (
             k (fO.out (((0:Int),((List.replicate 2 (0:Int)),(([]:List jj),((0:Int),())))),(10:Int)))) (
             k (fO.out (x5,(0:Int))))) (
            aJ ((jM (nth ti x5.2.1 (Int.toNat c.1)) (nth oI ch.2.2.2.1 (Int.toNat (cY .i64 (1:Int) c.1))).2.1)) (
             k (fO.out (((0:Int),((List.replicate 2 (0:Int)),(([]:List jj),((0:Int),())))),(10:Int)))) (
             k (fO.out (x5,(0:Int)))))) none) none) none)) none) none) none)) none) none) none))))) none))):=by kernel_rfl
structure wB(ch:iP)(s:jk):Prop where
 no:0<=s.1/\s.1<=1048576
 h0:Bd (nth ti s.2.1 0) 0 1125899906842624
 h1:Bd (nth ti s.2.1 1) 0 1125899906842624
 bQ:0<=s.2.2.2.1/\s.2.2.2.1<=1000
 len:s.2.2.1.length<=16
 pP:tw none s.2.2.1=true
 o0:jL (lZ 0 s.2.2.1)<=1125899906842624
 o1:jL (lZ 1 s.2.2.1)<=1125899906842624
 Uj: @Eq Int (nth ti s.2.1 0+nth ti s.2.1 1+jL s.2.2.1) ch.2.1
 cost: @GE.ge Int _ (nth ti s.2.1 ch.2.2.2.2.1.toNat) (Bm s.2.2.2.1 s.2.2.1.length+660)
theorem ru{ch:iP}{s:jk}:xX ch s=true↔wB ch s:=by
 unfold xX mV qu
 simp only[ak,si,decide_eq_true_eq,beq_iff_eq]
 exact⟨λ⟨a,b,c,d,e,f,g,h,i,j⟩=>⟨a,b,c,d,e,f,g,h,i,j⟩,λh=>⟨h.no,h.h0,h.h1,h.bQ,h.len,h.pP,h.o0,h.o1,h.Uj,h.cost⟩⟩
theorem wB.MU{ch:iP}{s:jk}(h:wB ch s){n:Int}(hn:n=0\/n=1):Bd (nth ti s.2.1 n.toNat) 0 1125899906842624:=by
 rcases hn with rfl | rfl
 ·exact h.h0
 ·exact h.h1
theorem wB.a{ch:iP}{s:jk}(h:wB ch s):∀c∈s.2.2.1,F9 c:=λc hc=>(tW _ _ h.pP c hc).a
theorem wB.off{ch:iP}{s:jk}(h:wB ch s){n:Int}(hn:n=0\/n=1):0<=jL (lZ n s.2.2.1)/\jL (lZ n s.2.2.1)<=1125899906842624:=by
 refine⟨(Jz _ λc hc=>h.a c ((jI.1 hc).1)).1,?_⟩
 rcases hn with rfl | rfl
 ·exact h.o0
 ·exact h.o1
theorem Cn:∀(c:jj) (l:List jj),(xH c l).length=l.length+1
 |c,[]=>rfl
 |c,x::l=>by
  rw[wK]
  split
  ·rfl
  ·rw[aO,Cn c l];rfl
theorem Hm{l:List Int}(h:l.length=2)(a b v:Int)(ha:a=0\/a=1)(hb:b=0\/b=1):nth ti (l.set a.toNat v) b.toNat=if a=b then v else nth ti l b.toNat:=by
 match l,h with
 |[x,y],_=>
  rcases ha with rfl | rfl <;> rcases hb with rfl | rfl <;> rfl
theorem N6{n:Int}(h:0<=n/\n<=1):n=0\/n=1:=by omega
theorem fO.ok:fO.Ok:=by
 rintro⟨ch,s,c⟩ ⟨fI,hu,hc⟩
 have fI:mX ch:=fI
 have hu:ur s:=hu
 rw[fO.eq,aQ.run (d:=(ch,s)) ⟨fI,hu⟩]
 simp only[ab,aQ.add,aQ.F]
 rw[eE.run (d:=c) hc]
 simp only[ab,eE.add,eE.F,fO.add,fO.F,A4]
 cases e1:xX ch s
 ·rfl
 cases e2:F3 c
 ·rfl
 have hs:=ru.1 e1
 have g:=rZ.1 e2
 have gs:=N6 g.side
 have hlen:=hs.len
 simp only[bZ,ai,l7,if_true]
 rw[aZ.run (d:=(s,c.1,c.2.1)) hu.2.1]
 simp only[ab,aZ.add,aZ.F,yA]
 cases e3:s.2.2.1.any (J2 c.1 c.2.1)
 rotate_left
 ·rfl
 have gs':1 - c.1=0\/1 - c.1=1:=by omega
 obtain⟨d,hd,_⟩:=fI.t gs'
 simp only[ai,cD,if_false]
 rw[Jm g.side,bF (by omega) (by omega),ae,cH.run (d:=(s,1 - c.1)) ⟨gs',hs.a,hu.2.1⟩]
 simp only[ab,cH.add,cH.F]
 rw[hd,Ww,Oe,Ui,YC,bp (by have:=g.EY;omega),ai]
 by_cases e4:s.2.2.1.length=16
 ·rw[fA (by omega),ae,if_pos e4];rfl
 have ho:=yN (1 - c.1) s.2.2.1
 have UD:=hs.off gs'
 have ga:=g.EY
 rw[fJ (by omega),ai,if_neg e4,jg (by omega),ai,ff (by omega) (by omega)]
 by_cases e5:jL (lZ (1 - c.1) s.2.2.1)+c.2.2.1 > 1125899906842624
 ·rw[fE e5,ae,if_pos e5];rfl
 have hv:=hs.MU gs
 have Qa:=hv.1
 have TV:=hv.2
 rw[dY e5,ai,if_neg e5,bS.run (d:=(s,c)) ⟨hu.2.1,hu.2.2,g.side,hv,g.a.1,g.a.2⟩]
 simp only[ab,bS.add,bS.F]
 rw[fe.run (d:=(ch,lJ s c)) trivial]
 simp only[ab,fe.add,fe.F]
 have l2:(lJ s c).2.1.length=2:=by
  show(List.set _ _ _).length=2
  rw[ej];exact hu.2.2
 have eZ:=fI.op
 have i1:fB c.1 2=true:=bF g.side.1 (by omega)
 have i2:c.1.toNat < (lJ s c).2.1.length:=by rw[l2];omega
 have i3:1+(c.1.toNat*1+0)=1+c.1.toNat*1:=by omega
 have j1:fB ch.2.2.2.2.1 2=true:=bF (by omega) (by omega)
 have j2:ch.2.2.2.2.1.toNat < (lJ s c).2.1.length:=by rw[l2];omega
 have j3:1+(ch.2.2.2.2.1.toNat*1+0)=1+ch.2.2.2.2.1.toNat*1:=by omega
 simp only[i1,aM i2,aM i3,j1,aM j2,aM j3,ae]
 by_cases e6:nth ti (lJ s c).2.1 c.1.toNat < 0
 ·rw[bI e6,ae,if_pos e6];rfl
 rw[bp e6,ai,if_neg e6]
 by_cases e7:nth ti (lJ s c).2.1 ch.2.2.2.2.1.toNat < Bm (lJ s c).2.2.2.1 (lJ s c).2.2.1.length+660
 ·rw[bI e7,ae,if_pos e7];rfl
 have hf:=vM (lJ s c).2.2.2.1 (lJ s c).2.2.1.length
 have hw: @Eq Int (nth ti (lJ s c).2.1 c.1.toNat) (nth ti s.2.1 c.1.toNat - c.2.2.1):=by
  show nth ti (List.set _ _ _) _=_
  rw[Hm hu.2.2 _ _ _ gs gs,if_pos rfl]
 rw[bp e7,ai,if_neg e7]
 unfold Qi
 by_cases e8:c.1=ch.2.2.2.2.1
 ·rw[fA e8,ae,gQ (by omega) (by omega),if_pos e8]
  by_cases e9:nth ti (lJ s c).2.1 c.1.toNat - (Bm (lJ s c).2.2.2.1 (lJ s c).2.2.1.length+660) < 200
  ·rw[bI e9,ae,if_pos e9];rfl
  ·rw[bp e9,ai,if_neg e9]
 ·rw[fJ e8,ai,if_neg e8,nX]
  by_cases e9:nth ti (lJ s c).2.1 c.1.toNat < 200
  ·rw[bI e9,ae,if_pos e9];rfl
  ·rw[bp e9,ai,if_neg e9]
def fO.E:=Entry.dp [some mW,some mu,some kf] fO.st fO.az fO.add fO.F fO.out
def fO.call:fO.D->Option fO.X:=bX fO.E fO.st
theorem fO.run:b8 fO.call fO.az fO.add fO.F:=dv (du [.d mW,.d mu,.d kf] λ_=>by kernel_rfl)
def fO.sg:SG Tryz.prog:=⟨30,aP,fO.E,.fn 0 (by kernel_rfl) fO.ok trivial⟩
abbrev bW.L0.D:=Bs×Nat×Int×(List Int)
def bW.L0.st:bW.L0.D->AS:=λ(sW,outL,i,n7)=>⟨([.undef,.undef,.undef,.gE tH sW,.undef,.di (.new 7 0) 0 [] 0 0 outL,.d ti i]++bG 14 []),[],(dh 7 ([[.obj 0 false (.vec 5 tb n7)]]++dh 13 []))⟩
abbrev bW.L0.Y0:=Nat×(List Int)
abbrev bW.L0.X0:=Nat×(List Int)
def bW.L0.bY:bW.L0.X0->Exit×AS:=λx=>(.exit 0,⟨(bG 5 ([.di (.new 7 0) 0 [] 0 0 x.1]++bG 15 [])),[],(dh 7 ([[.obj 0 false (.vec 5 tb x.2)]]++dh 13 []))⟩)
abbrev bW.L0.X:=bW.L0.X0
abbrev bW.L0.Y:=bW.L0.Y0
def bW.L0.out:bW.L0.X->Out (Exit×AS):=λx=> .ok (bW.L0.bY x)
def bW.L0.add:bW.L0.D->bW.L0.Y->bW.L0.X:=λ(sW,outL,i,n7) y=>y
abbrev bW.D:=Bs×Bs
def bW.st:bW.D->SA:=λ(b,h)=>([.d tB b,.d tH h],[])
abbrev bW.Y:=Bs
abbrev bW.X:=Bs
def bW.out:bW.X->aX:=λx=>⟨.d tB x,[],[]⟩
def bW.add:bW.D->bW.Y->bW.X:=λ(b,h) y=>y
def bW.L0.az:bW.L0.D->Prop:=λ(h,m,i,l)=>h.length=32/\m=l.length/\∃k:Nat,k<=32/\i=k/\l.length<=100000000+k
def bW.L0.F:bW.L0.D->bW.L0.Y:=λ(h,m,i,l)=>((l++h.drop i.toNat).length,l++h.drop i.toNat)
def bW.az:bW.D->Prop:=λ(b,h)=>b.length<=90000000/\h.length=32
def bW.F:bW.D->bW.Y:=λ(b,h)=>b++h
def bW.G:fD:=gr (P:=Tryz.prog) []
def bW.L0.E:=cU.dp bW.L0.st bW.L0.az bW.L0.add bW.L0.F bW.L0.out
def bW.L0.call:bW.L0.D->Option bW.L0.X:=eI bW.L0.E bW.L0.st
def bW.an:fR:= {cZ:=[7],loops:=om [(3,{bO:=[3,5,6],sites:=[7],nR:=[⟨5,[],7,135⟩]})],outs:=oh [(3,{bO:=[5],sites:=[7]},{bO:=[4]})],jo:=pb [(3,bW.L0.E)],res:=[some tB]}
def bW.A:= @dm Tryz.prog bW.G bW.an 0 Tryz.f114 _ bW.st
abbrev bW.Ok:=dn @bW.A bW.az bW.add bW.F bW.out
def bW.L0.R:= @dr Tryz.prog bW.G bW.an 0 Tryz.f114 0 _ bW.L0.st
abbrev bW.L0.Ok:=gz Tryz.prog bW.G bW.an 0 Tryz.f114 0 bW.L0.st bW.L0.az bW.L0.add bW.L0.F bW.L0.out
theorem bW.L0.run:b8 bW.L0.call bW.L0.az bW.L0.add bW.L0.F:=gR (gJ [.d tH,.n,.d ti,.d tB] λ_=>by kernel_rfl)
theorem bW.L0.aI:jl @bW.L0.R bW.L0.st bW.L0.az bW.L0.add bW.L0.F bW.L0.bY bW.L0.Ok:=js
theorem bW.L0.step{R:Type}(sW:Bs)(outL:Nat)(i:Int)(n7:(List Int))(kn:AS->Option R)(kx:Exit->AS->Option R):bW.L0.R (sW,outL,i,n7) kn kx=
  aJ ((jM i (32:Int))) (
   aJ (fB i (32:Int)) (
   aJ (decide (outL<=(List.length n7))) (
   aJ (fq (outL+1) 1) (
   kn (bW.L0.st (sW,(outL+1),(bV .i64 i (1:Int)),((List.take outL n7)++ [(nth tb sW (Int.toNat i))])))) none) none) none) (
   kx (bW.L0.bY (outL,n7)).1 (bW.L0.bY (outL,n7)).2):=by kernel_rfl
theorem bW.eq{R:Type}(b:Bs)(h:Bs)(k:aX->Option R):bW.A (b,h) k=
 aJ (fq (0+(List.length b)) 1) (
 ah (bW.L0.call (h,(0+(List.length b)),(0:Int),((List.take 0 (List.replicate 0 (0:Int)))++b))) λx1=>
 aJ (decide (0=0/\(0+x1.1)<=(List.length x1.2))) (
 k (bW.out (cut x1.2 0 x1.1))) none) none:=by kernel_rfl
theorem bW.L0.ok:bW.L0.Ok:=by
 refine bW.L0.aI (λ(_,_,i,_)=>(32 - i).toNat) ?_
 rintro⟨h,m,i,l⟩ ⟨Rf,rfl,k,hk,rfl,hl⟩
 have Rf:h.length=32:=Rf
 have hl:l.length<=100000000+k:=hl
 by_cases mw:k < 32
 ·left
  have n1:nth tb h k=h[k]:=dQ (t:=tb) (by omega)
  have el:(l++ [h[k]]).length=l.length+1:=by rw[aj];rfl
  refine⟨(h,l.length+1,((k+1:Nat):Int),l++ [h[k]]),⟨Rf,el.symm,k+1,by omega,rfl,by show(l++ [h[k]]).length<=_;omega⟩,by show(32 - ((k+1:Nat):Int)).toNat < (32 - (k:Int)).toNat;omega,?_,λkn kx=> ?_⟩
  ·simp only[bW.L0.add,bW.L0.F,aa]
   rw[av (show k < h.length by omega),bR,fp]
  ·rw[bW.L0.step,bI (by omega),ae,bF (by omega) (by omega),ae,aM (aE _),ae,gk (by omega) (by omega),ae,N.pF (by omega),aa,n1,cQ]
 ·right
  obtain rfl:k=32:=by omega
  intro T kn kx
  rw[bW.L0.step,bp (by omega),ai]
  simp only[bW.L0.add,bW.L0.F,aa]
  rw[gK (by omega),dg]
theorem bW.ok:bW.Ok:=by
 rintro⟨b,h⟩ ⟨hb,Rf⟩
 have hb:b.length<=90000000:=hb
 have Rf:h.length=32:=Rf
 rw[bW.eq]
 simp only[bl,jA,bt]
 rw[gk (by omega) (by omega),ae,bW.L0.run (d:=(h,b.length,0,b)) ⟨Rf,rfl,0,by omega,rfl,by omega⟩]
 simp only[ab,bW.L0.add,bW.L0.F,bH,aW,aE,and_self,decide_true,ae,jf,bW.add,bW.F]
def bW.E:=Entry.dp [some tB,some tH] bW.st bW.az bW.add bW.F bW.out
def bW.call:bW.D->Option bW.X:=bX bW.E bW.st
theorem bW.run:b8 bW.call bW.az bW.add bW.F:=dv (du [.d tB,.d tB] λ_=>by kernel_rfl)
def bW.sg:SG Tryz.prog:=⟨114,aP,bW.E,.fn 1 (by kernel_rfl) bW.ok (And.intro (.dp bW.L0.ok (by kernel_rfl)) trivial)⟩
noncomputable section
def T3:ByteArray:=⟨#[107,105,116]⟩
theorem Hu:∃f:List Int->Int->List Int,∀s n,f s n=C9 T3 [s,[n]]:=⟨_,λ_ _=>rfl⟩
def oY:List Int->Int->List Int:=Classical.choose Hu
theorem uh(s:List Int)(n:Int):oY s n=C9 T3 [s,[n]]:=Classical.choose_spec Hu s n
theorem NJ(s:List Int)(n:Int):Sm (oY s n):=by rw[uh];exact C6 _ _
def oD(seed:List Int):pE:=(kT (oY seed 1),(kT (oY seed 2),(kT (oY seed 3),(kT (oY seed 4),(kT (oY seed 5),(oY seed 6,()))))))
def uw(k:pE):Kz:=(fy k.1,(fy k.2.1,(fy k.2.2.1,(fy k.2.2.2.1,(fy k.2.2.2.2.1,())))))
def EU(k:pE):Prop:=iy k.1/\iy k.2.1/\iy k.2.2.1/\iy k.2.2.2.1/\iy k.2.2.2.2.1
theorem vQ(h:List Int):iy (kT h):=by have:=lX h;exact⟨by omega,by omega⟩
theorem vW(s:List Int):EU (oD s):=⟨vQ _,vQ _,vQ _,vQ _,vQ _⟩
theorem Gl{k:Int}(h0:0 < k)(h1:k < 2305843009213688669):Ml (fy k):=by
 refine⟨uz k,?_⟩
 unfold DT
 rw[vU,cr]
 exact jE (λe=>PY (n:=k.toNat) (by omega) (by omega) (by rw[<-s6 k (by omega)];exact e))
theorem vP(h:List Int):Ml (fy (kT h)):=Gl (lX h).1 (lX h).2
theorem JC(s:List Int):QJ (uw (oD s)):=⟨vP _,vP _,vP _,vP _,vP _⟩
abbrev fb.D:=Bs×Int
def fb.st:fb.D->SA:=λ(seed,n)=>([.d tH seed,.d tb n],[])
abbrev fb.Y:=Bs
abbrev fb.X:=Bs
def fb.out:fb.X->aX:=λx=>⟨.d tH x,[],[]⟩
def fb.add:fb.D->fb.Y->fb.X:=λ(seed,n) y=>y
def fb.az:fb.D->Prop:=λ(s,_)=>s.length=32
def fb.F:fb.D->fb.Y:=λ(s,n)=>oY s n
def fb.G:fD:=gr (P:=Tryz.prog) [bW.sg,eM.sg]
def fb.an:fR:= {}
def fb.A:= @dm Tryz.prog fb.G fb.an 0 Tryz.f61 _ fb.st
abbrev fb.Ok:=dn @fb.A fb.az fb.add fb.F fb.out
theorem fb.eq{R:Type}(seed:Bs)(n:Int)(k:aX->Option R):fb.A (seed,n) k=
 ah (bW.call ((List.replicate 0 (0:Int)),seed)) λx1=>
 ah (eM.call ((⟨#[107,105,116]⟩:ByteArray),[x1,[n]])) λx2=>
 k (fb.out x2):=by kernel_rfl
theorem fb.ok:fb.Ok:=by
 rintro⟨s,n⟩ hs
 have hs:s.length=32:=hs
 rw[fb.eq,bW.run (d:=(List.replicate 0 0,s)) ⟨by decide,hs⟩]
 simp only[ab,bW.add,bW.F]
 rw[show(List.replicate 0 (0:Int)++s)=s from rfl,eM.run (d:=((⟨#[107,105,116]⟩:ByteArray),[s,[n]])) (Da (by decide) (by omega) (by show 1<=_;decide))]
 simp only[ab,eM.add,eM.F,fb.add,fb.F,uh]
 rfl
def fb.E:=Entry.dp [some tH,some tb] fb.st fb.az fb.add fb.F fb.out
def fb.call:fb.D->Option fb.X:=bX fb.E fb.st
theorem fb.run:b8 fb.call fb.az fb.add fb.F:=dv (du [.d tB,.d tb] λ_=>by kernel_rfl)
def fb.sg:SG Tryz.prog:=⟨61,aP,fb.E,.fn 0 (by kernel_rfl) fb.ok trivial⟩
abbrev gB.D:=Bs
def gB.st:gB.D->SA:=λseed=>([.d tH seed],[])
abbrev gB.Y:=pE
abbrev gB.X:=pE
def gB.out:gB.X->aX:=λx=>⟨.d rU x,[],[]⟩
def gB.add:gB.D->gB.Y->gB.X:=λseed y=>y
def gB.az:gB.D->Prop:=λs=>s.length=32
def gB.F:gB.D->gB.Y:=λs=>oD s
def gB.G:fD:=gr (P:=Tryz.prog) [fb.sg,bU.sg]
def gB.an:fR:= {}
def gB.A:= @dm Tryz.prog gB.G gB.an 0 Tryz.f25 _ gB.st
abbrev gB.Ok:=dn @gB.A gB.az gB.add gB.F gB.out
theorem gB.eq{R:Type}(seed:Bs)(k:aX->Option R):gB.A seed k=
 ah (fb.call (seed,(1:Int))) λx1=>
 ah (bU.call x1) λx2=>
 ah (fb.call (seed,(2:Int))) λx3=>
 ah (bU.call x3) λx4=>
 ah (fb.call (seed,(3:Int))) λx5=>
 ah (bU.call x5) λx6=>
 ah (fb.call (seed,(4:Int))) λx7=>
 ah (bU.call x7) λx8=>
 ah (fb.call (seed,(5:Int))) λx9=>
 ah (bU.call x9) λBi=>
 ah (fb.call (seed,(6:Int))) λBD=>
 k (gB.out (x2,(x4,(x6,(x8,(Bi,(BD,()))))))):=by kernel_rfl
theorem gB.ok:gB.Ok:=by
 intro s hs
 have q:∀n,fb.call (s,n)=some (oY s n):=λn=>fb.run (d:=(s,n)) hs
 have r:∀n,bU.call (oY s n)=some (kT (oY s n)):=λn=>bU.run (d:=oY s n) (NJ s n)
 rw[gB.eq]
 simp only[q,r,ab]
 rfl
def gB.E:=Entry.dp [some tH] gB.st gB.az gB.add gB.F gB.out
def gB.call:gB.D->Option gB.X:=bX gB.E gB.st
theorem gB.run:b8 gB.call gB.az gB.add gB.F:=dv (du [.d tB] λ_=>by kernel_rfl)
def gB.sg:SG Tryz.prog:=⟨25,aP,gB.E,.fn 0 (by kernel_rfl) gB.ok trivial⟩
abbrev hH.D:=pE
def hH.st:hH.D->SA:=λkv=>([.d rU kv],[])
abbrev hH.Y:=Kz
abbrev hH.X:=Kz
def hH.out:hH.X->aX:=λx=>⟨.d qo x,[],[]⟩
def hH.add:hH.D->hH.Y->hH.X:=λkv y=>y
def hH.az:hH.D->Prop:=λk=>EU k
def hH.F:hH.D->hH.Y:=λk=>uw k
def hH.G:fD:=gr (P:=Tryz.prog) [ei.sg]
def hH.an:fR:= {}
def hH.A:= @dm Tryz.prog hH.G hH.an 0 Tryz.f26 _ hH.st
abbrev hH.Ok:=dn @hH.A hH.az hH.add hH.F hH.out
theorem hH.eq{R:Type}(kv:pE)(k:aX->Option R):hH.A kv k=
 ah (ei.call kv.1) λx1=>
 ah (ei.call kv.2.1) λx2=>
 ah (ei.call kv.2.2.1) λx3=>
 ah (ei.call kv.2.2.2.1) λx4=>
 ah (ei.call kv.2.2.2.2.1) λx5=>
 k (hH.out (x1,(x2,(x3,(x4,(x5,())))))):=by kernel_rfl
theorem hH.ok:hH.Ok:=by
 rintro k ⟨h1,h2,h3,h4,h5⟩
 rw[hH.eq,ei.run (d:=k.1) h1]
 simp only[ab,ei.add,ei.F]
 rw[ei.run (d:=k.2.1) h2]
 simp only[ab,ei.add,ei.F]
 rw[ei.run (d:=k.2.2.1) h3]
 simp only[ab,ei.add,ei.F]
 rw[ei.run (d:=k.2.2.2.1) h4]
 simp only[ab,ei.add,ei.F]
 rw[ei.run (d:=k.2.2.2.2.1) h5]
 rfl
def hH.E:=Entry.dp [some rU] hH.st hH.az hH.add hH.F hH.out
def hH.call:hH.D->Option hH.X:=bX hH.E hH.st
theorem hH.run:b8 hH.call hH.az hH.add hH.F:=dv (du [.d rU] λ_=>by kernel_rfl)
def hH.sg:SG Tryz.prog:=⟨26,aP,hH.E,.fn 0 (by kernel_rfl) hH.ok trivial⟩
def FK(o:KA):Int:=1+o.2.2.2.1%2305843009213688668
theorem PJ{o:KA}:0 < FK o/\FK o < 2305843009213688669:=by
 unfold FK;omega
abbrev ij.D:=KA
def ij.st:ij.D->SA:=λo=>([.d OB o],[])
abbrev ij.Y:=Int
abbrev ij.X:=Int
def ij.out:ij.X->aX:=λx=>⟨.d tu x,[],[]⟩
def ij.add:ij.D->ij.Y->ij.X:=λo y=>y
def ij.az:ij.D->Prop:=λo=>iy o.2.2.2.1
def ij.F:ij.D->ij.Y:=λo=>FK o
def ij.G:fD:=gr (P:=Tryz.prog) []
def ij.an:fR:= {}
def ij.A:= @dm Tryz.prog ij.G ij.an 0 Tryz.f29 _ ij.st
abbrev ij.Ok:=dn @ij.A ij.az ij.add ij.F ij.out
theorem ij.eq{R:Type}(o:KA)(k:aX->Option R):ij.A o k=
 k (ij.out (bV .u64 (1:Int) (iN o.2.2.2.1 (2305843009213688668:Int)))):=by kernel_rfl
theorem ij.ok:ij.Ok:=by
 intro o ho
 have:=ho.1
 rw[ij.eq,lh ho.1]
 have e:bV .u64 1 (o.2.2.2.1%2305843009213688668)=FK o:=by
  unfold FK
  rw[nv,jq (by omega) (by omega)]
 rw[e]
 rfl
def ij.E:=Entry.dp [some OB] ij.st ij.az ij.add ij.F ij.out
def ij.call:ij.D->Option ij.X:=bX ij.E ij.st
theorem ij.run:b8 ij.call ij.az ij.add ij.F:=dv (du [.d OB] λ_=>by kernel_rfl)
def ij.sg:SG Tryz.prog:=⟨29,aP,ij.E,.fn 0 (by kernel_rfl) ij.ok trivial⟩
abbrev aN.L0.D:=yf×Int×iP×(List pE)×Int×(List Int)×(Int×Unit)×(List pE)×iP
def aN.L0.st:aN.L0.D->AS:=λ(QA,i,n2,n3,n4,nB,qE,n5,n6)=>⟨([.undef,.gE Kp QA,.ptr (.new 2 0) 0 [] 0,.ptr (.new 3 0) 0 [] 0,.ptr (.new 4 0) 0 [] 0,.ptr (.new 5 0) 0 [] 0,.ptr (.new 6 0) 0 [] 0,.d ti i]++bG 130 []),[],([[],[],[.obj 0 false (.d mW n2)],[.obj 0 false (.d (.arr 2 rU) n3)],[.obj 0 false (.pr (.d ti n4) (.pr (.d (.arr 2 ti) nB) (.pr (.eU) (.d (.pair ti .unit) qE))))],[.obj 0 false (.d (.arr 2 rU) n5)],[.obj 0 false (.d mW n6)]]++dh 131 [])⟩
abbrev aN.L0.Y0:=iP
abbrev aN.L0.X0:=(yf×iP×(List pE)×Int×(List Int)×(Int×Unit)×(List pE))×(iP)
def aN.L0.bY:aN.L0.X0->Exit×AS:=λx=>(.exit 0,⟨([.undef,.gE Kp x.1.1,.ptr (.new 2 0) 0 [] 0,.ptr (.new 3 0) 0 [] 0,.ptr (.new 4 0) 0 [] 0,.ptr (.new 5 0) 0 [] 0,.ptr (.new 6 0) 0 [] 0]++bG 131 []),[],([[],[],[.obj 0 false (.d mW x.1.2.1)],[.obj 0 false (.d (.arr 2 rU) x.1.2.2.1)],[.obj 0 false (.pr (.d ti x.1.2.2.2.1) (.pr (.d (.arr 2 ti) x.1.2.2.2.2.1) (.pr (.eU) (.d (.pair ti .unit) x.1.2.2.2.2.2.1))))],[.obj 0 false (.d (.arr 2 rU) x.1.2.2.2.2.2.2)],[.obj 0 false (.d mW x.2)]]++dh 131 [])⟩)
abbrev aN.L0.X:=aN.L0.X0
abbrev aN.L0.Y:=aN.L0.Y0
def aN.L0.out:aN.L0.X->Out (Exit×AS):=λx=> .ok (aN.L0.bY x)
def aN.L0.add:aN.L0.D->aN.L0.Y->aN.L0.X:=λ(QA,i,n2,n3,n4,nB,qE,n5,n6) y=>((QA,n2,n3,n4,nB,qE,n5),y)
abbrev aN.L1.D:=yf×Int×iP×(List pE)×Int×(List Int)×(Int×Unit)×(List pE)×iP×jk
def aN.L1.st:aN.L1.D->AS:=λ(Md,kQ,lR,CH,CI,CJ,CK,sZ,pQ,n8)=>⟨([.undef,.gE Kp Md,.ptr (.new 2 0) 0 [] 0,.ptr (.new 3 0) 0 [] 0,.ptr (.new 4 0) 0 [] 0,.ptr (.new 5 0) 0 [] 0,.ptr (.new 6 0) 0 [] 0,.undef,.ptr (.new 8 0) 0 [] 0,.undef,.d ti kQ]++bG 127 []),[],([[],[],[.obj 0 false (.d mW lR)],[.obj 0 false (.d (.arr 2 rU) CH)],[.obj 0 false (.pr (.d ti CI) (.pr (.d (.arr 2 ti) CJ) (.pr (.eU) (.d (.pair ti .unit) CK))))],[.obj 0 false (.d (.arr 2 rU) sZ)],[.obj 0 false (.d mW pQ)],[],[.obj 0 false (.d mu n8)]]++dh 129 [])⟩
abbrev aN.L1.Y0:=jk
abbrev aN.L1.X0:=(iP×(List pE)×Int×(List Int)×(Int×Unit)×(List pE)×iP)×(jk)
def aN.L1.bY:aN.L1.X0->Exit×AS:=λx=>(.exit 2,⟨([.undef,.undef,.ptr (.new 2 0) 0 [] 0,.ptr (.new 3 0) 0 [] 0,.ptr (.new 4 0) 0 [] 0,.ptr (.new 5 0) 0 [] 0,.ptr (.new 6 0) 0 [] 0,.undef,.ptr (.new 8 0) 0 [] 0]++bG 129 []),[],([[],[],[.obj 0 false (.d mW x.1.1)],[.obj 0 false (.d (.arr 2 rU) x.1.2.1)],[.obj 0 false (.pr (.d ti x.1.2.2.1) (.pr (.d (.arr 2 ti) x.1.2.2.2.1) (.pr (.eU) (.d (.pair ti .unit) x.1.2.2.2.2.1))))],[.obj 0 false (.d (.arr 2 rU) x.1.2.2.2.2.2.1)],[.obj 0 false (.d mW x.1.2.2.2.2.2.2)],[],[.obj 0 false (.d mu x.2)]]++dh 129 [])⟩)
abbrev aN.L1.X:=aN.L1.X0
abbrev aN.L1.Y:=aN.L1.Y0
def aN.L1.out:aN.L1.X->Out (Exit×AS):=λx=> .ok (aN.L1.bY x)
def aN.L1.add:aN.L1.D->aN.L1.Y->aN.L1.X:=λ(Md,kQ,lR,CH,CI,CJ,CK,sZ,pQ,n8) y=>((lR,CH,CI,CJ,CK,sZ,pQ),y)
abbrev aN.D:=yf
def aN.st:aN.D->SA:=λp=>([.d Kp p],[])
abbrev aN.Y:=iP×(List pE)×jk
abbrev aN.X:=iP×(List pE)×jk
def aN.out:aN.X->aX:=λx=>⟨.cons (.d mW x.1) (.cons (.d (.arr 2 rU) x.2.1) (.cons (.d mu x.2.2) (.nil))),[],[]⟩
def aN.add:aN.D->aN.Y->aN.X:=λp y=>y
def UT(o:KA):Prop:=(0<=o.1/\o.1 < 256)/\(0<=o.2.1/\o.2.1 < 65536)/\(0<=o.2.2.1/\o.2.2.1 < 65536)/\iy o.2.2.2.1
structure LY(p:yf):Prop where
 len:p.1.length=2
 s0:(nth tH p.1 0).length=32
 s1:(nth tH p.1 1).length=32
 EY:0<=p.2.1/\p.2.1 < 4294967296
 own:0<=p.2.2.1/\p.2.2.1 < 4294967296
 bQ:0<=p.2.2.2.1/\p.2.2.2.1 < 256
 op:0<=p.2.2.2.2.1/\p.2.2.2.2.1 < 256
 Wd:∀o∈p.2.2.2.2.2.1,UT o
 room:p.2.2.2.2.2.1.length<=9223372036854775807
 no:0<=p.2.2.2.2.2.2.1/\p.2.2.2.2.2.2.1 < 65536
def I3(i:Nat)(o:KA):jj:=(o.1%2,((i:Int)+1,(1+o.2.1,(fy (FK o),(1+o.2.2.1,())))))
def C7(ch:iP)(s:jk)(i:Nat)(o:KA):jk:=if(A4 ch s (I3 i o)).2=0 then(A4 ch s (I3 i o)).1 else s
def tg(ch:iP):jk->Nat->List KA->jk
 |s,_,[]=>s
 |s,i,o::l=>if i < 20 then tg ch (C7 ch s i o) (i+1) l else s
def tf(p:yf):List pE:=[oD (nth tH p.1 0),oD (nth tH p.1 1)]
def so(p:yf):iP:=xc (20000+p.2.1) (uw (oD (nth tH p.1 0))) (uw (oD (nth tH p.1 1))) (p.2.2.2.2.1%2)
def vc(p:yf):List Int:=[p.2.2.1%(20000+p.2.1+1),20000+p.2.1 - p.2.2.1%(20000+p.2.1+1)]
def Jd(p:yf)(l:List Int):jk:=(p.2.2.2.2.2.2.1,(l,(([]:List jj),(p.2.2.2.1%8,()))))
def LG(p:yf):jk:=if xX (so p) (Jd p (vc p))=true then Jd p (vc p) else Jd p (((vc p).set (p.2.2.2.2.1%2).toNat (20000+p.2.1)).set (1 - p.2.2.2.2.1%2).toNat 0)
def HO(p:yf):jk:=tg (so p) (LG p) 0 p.2.2.2.2.2.1
theorem Gs{p:yf}(h:LY p):mX (so p):=by
 have:=h.EY
 have:=h.op
 exact⟨_,_,_,_,rfl,by omega,by omega,JC _,JC _,by omega⟩
theorem yB:∀(c:jj) (l:List jj) (x:jj),x∈xH c l↔x=c\/x∈l
 |c,[],x=>by simp[xH,xJ,Bc]
 |c,y::l,x=>by
  rw[wK]
  split
  ·simp
  ·rw[cE,yB c l x,cE]
   constructor
   ·rintro(h | h | h) <;> simp[h]
   ·rintro(h | h | h) <;> simp[h]
theorem Jx{ch:iP}{s:jk}{c:jj}(h:(A4 ch s c).2=0):(A4 ch s c).1=lJ s c/\wB ch s/\PT c/\s.2.2.1.any (J2 c.1 c.2.1)=false/\s.2.2.1.length≠16/\
  jL (lZ (1 - c.1) s.2.2.1)+c.2.2.1<=1125899906842624/\0<=nth ti (lJ s c).2.1 c.1.toNat/\Bm (lJ s c).2.2.2.1 (lJ s c).2.2.1.length+660<=nth ti (lJ s c).2.1 ch.2.2.2.2.1.toNat:=by
 unfold A4 at h ⊢
 split at h
 ·next e=>
  rw[if_pos e]
  split at h
  ·exact absurd h (by decide)
  ·next e1=>
   rw[if_neg e1]
   split at h
   ·exact absurd h (by decide)
   ·next e2=>
    rw[if_neg e2]
    split at h
    ·exact absurd h (by decide)
    ·next e3=>
     rw[if_neg e3]
     split at h
     ·exact absurd h (by decide)
     ·next e4=>
      rw[if_neg e4]
      split at h
      ·exact absurd h (by decide)
      ·next e5=>
       rw[if_neg e5]
       split at h
       ·exact absurd h (by decide)
       ·next e6=>
        rw[if_neg e6]
        have e':=nE.1 e
        exact⟨rfl,ru.1 e'.1,rZ.1 e'.2,by simpa using e1,e2,by omega,Int.not_lt.1 e4,Int.not_lt.1 e5⟩
 ·exact absurd h (by decide)
theorem Jk{ch:iP}{s:jk}{i:Nat}{o:KA}(h:ur s):ur (C7 ch s i o):=by
 unfold C7
 split
 ·next e=>
  obtain⟨e1,hs,_⟩:=Jx e
  rw[e1]
  refine⟨λc hc=> ?_,?_,?_⟩
  ·have hc:c∈xH (I3 i o) s.2.2.1:=hc
   rcases(yB _ _ _).1 hc with rfl | hc
   ·exact uz _
   ·exact h.1 c hc
  ·show(xH _ _).length<=1000
   rw[Cn]
   have:=hs.len
   omega
  ·show(List.set _ _ _).length=2
   rw[ej]
   exact h.2.2
 ·exact h
theorem No{ch:iP}:∀(l:List KA) (s:jk) (i:Nat),ur s->ur (tg ch s i l)
 |[],_,_,h=>h
 |o::l,s,i,h=>by
  rw[tg]
  split
  ·exact No l _ _ (Jk h)
  ·exact h
theorem N2(p:yf)(l:List Int)(h:l.length=2):ur (Jd p l):=⟨λc hc=>(by cases hc),bm _,h⟩
theorem Ki(p:yf):ur (LG p):=by
 unfold LG
 split
 ·exact N2 p _ rfl
 ·exact N2 p _ (by rw[ej,ej];rfl)
theorem Oa(p:yf):ur (HO p):=No _ _ _ (Ki p)
def AW(i:Nat)(ks:List pE)(ch:iP):iP:=(ch.1,(ch.2.1,(ch.2.2.1.set i (uw (nth rU ks i)),(ch.2.2.2.1.set i (te (5+i)),ch.2.2.2.2))))
def aN.L0.az:aN.L0.D->Prop:=λ(p,i,z1,z2,z3,z4,z5,ks,ch)=>ks.length=2/\(∀k∈ks,EU k)/\ch.2.2.1.length=2/\ch.2.2.2.1.length=2/\(i=0\/i=1\/i=2)
def aN.L0.F:aN.L0.D->aN.L0.Y:=λ(p,i,z1,z2,z3,z4,z5,ks,ch)=>if i=0 then AW 1 ks (AW 0 ks ch) else if i=1 then AW 1 ks ch else ch
def aN.L1.az:aN.L1.D->Prop:=λ(p,i,z1,z2,z3,z4,z5,ks,ch,s)=>mX ch/\ur s/\(∀o∈p.2.2.2.2.2.1,UT o)/\p.2.2.2.2.2.1.length<=9223372036854775807/\∃k:Nat,k<=p.2.2.2.2.2.1.length/\i=k
def aN.L1.F:aN.L1.D->aN.L1.Y:=λ(p,i,z1,z2,z3,z4,z5,ks,ch,s)=>tg ch s i.toNat (p.2.2.2.2.2.1.drop i.toNat)
def aN.az:aN.D->Prop:=λp=>LY p
def aN.F:aN.D->aN.Y:=λp=>(so p,tf p,HO p)
def aN.G:fD:=gr (P:=Tryz.prog) [gB.sg,hH.sg,aQ.sg,ij.sg,dZ.sg,fO.sg]
def aN.L0.E:=cU.dp aN.L0.st aN.L0.az aN.L0.add aN.L0.F aN.L0.out
def aN.L0.call:aN.L0.D->Option aN.L0.X:=eI aN.L0.E aN.L0.st
def aN.L1.E:=cU.dp aN.L1.st aN.L1.az aN.L1.add aN.L1.F aN.L1.out
def aN.L1.call:aN.L1.D->Option aN.L1.X:=eI aN.L1.E aN.L1.st
def aN.an:fR:= {loops:=om [(4,{bO:=[1,2,3,4,5,6,7],sites:=[2,3,4,5,6]}),(16,{bO:=[1,2,3,4,5,6,8,10],sites:=[2,3,4,5,6,8],E7:=[⟨8,[.arr],mu⟩]})],outs:=oh [(4,{bO:=[1,2,3,4,5,6],sites:=[2,3,4,5,6]},{bO:=[2,3,4]}),(16,{bO:=[2,3,4,5,6,8],sites:=[2,3,4,5,6,8]},{bO:=[2,3,4]})],jo:=pb [(4,aN.L0.E),(16,aN.L1.E)]}
def aN.A:= @dm Tryz.prog aN.G aN.an 0 Tryz.f8 _ aN.st
abbrev aN.Ok:=dn @aN.A aN.az aN.add aN.F aN.out
def aN.L0.R:= @dr Tryz.prog aN.G aN.an 0 Tryz.f8 0 _ aN.L0.st
abbrev aN.L0.Ok:=gz Tryz.prog aN.G aN.an 0 Tryz.f8 0 aN.L0.st aN.L0.az aN.L0.add aN.L0.F aN.L0.out
def aN.L1.R:= @dr Tryz.prog aN.G aN.an 0 Tryz.f8 1 _ aN.L1.st
abbrev aN.L1.Ok:=gz Tryz.prog aN.G aN.an 0 Tryz.f8 1 aN.L1.st aN.L1.az aN.L1.add aN.L1.F aN.L1.out
theorem aN.L0.run:b8 aN.L0.call aN.L0.az aN.L0.add aN.L0.F:=gR (gJ [.d Kp,.d ti,.d mW,.d (.slice rU),.d ti,.d (.slice ti),.d (.pair ti .unit),.d (.slice rU),.d mW] λ_=>by kernel_rfl)
theorem aN.L0.aI:jl @aN.L0.R aN.L0.st aN.L0.az aN.L0.add aN.L0.F aN.L0.bY aN.L0.Ok:=js
theorem aN.L0.step{R:Type}(QA:yf)(i:Int)(n2:iP)(n3:(List pE))(n4:Int)(nB:(List Int))(qE:(Int×Unit))(n5:(List pE))(n6:iP)(kn:AS->Option R)(kx:Exit->AS->Option R):aN.L0.R (QA,i,n2,n3,n4,nB,qE,n5,n6) kn kx=
  aJ ((jM i (2:Int))) (
   aJ (fB i (2:Int)) (
   aJ (decide ((Int.toNat i) < (List.length n5))) (
   aJ (decide ((((Int.toNat i)*37)+0)=(0+((Int.toNat i)*37)))) (
   ah (hH.call (nth rU n5 (Int.toNat i))) λx1=>
   aJ (fB i (2:Int)) (
   aJ (decide ((Int.toNat i) < (List.length n6.2.2.1))) (
   aJ (decide ((33+(1+(((Int.toNat i)*5)+0)))=(34+((Int.toNat i)*5)))) (
   aJ (decide ((Int.toNat i) < (List.length n6.2.2.1))) (
   aJ (fB i (2:Int)) (
   aJ (decide ((Int.toNat i) < (List.length n6.2.2.2.1))) (
   aJ (decide ((33+(1+(10+(((Int.toNat i)*6)+0))))=(44+((Int.toNat i)*6)))) (
   aJ (decide ((Int.toNat i) < (List.length n6.2.2.2.1))) (
   kn (aN.L0.st (QA,(bV .i64 i (1:Int)),n2,n3,n4,nB,qE,n5,(n6.1,(n6.2.1,((List.set n6.2.2.1 (Int.toNat i) x1),((List.set n6.2.2.2.1 (Int.toNat i) ((100:Int),((200:Int),((bV .i64 (5:Int) i),((16:Int),((1:Int),((1125899906842624:Int),()))))))),n6.2.2.2.2))))))) none) none) none) none) none) none) none) none) none) none) none) (
   kx (aN.L0.bY ((QA,n2,n3,n4,nB,qE,n5),n6)).1 (aN.L0.bY ((QA,n2,n3,n4,nB,qE,n5),n6)).2):=by kernel_rfl
theorem aN.L1.run:b8 aN.L1.call aN.L1.az aN.L1.add aN.L1.F:=gR (gJ [.d Kp,.d ti,.d mW,.d (.slice rU),.d ti,.d (.slice ti),.d (.pair ti .unit),.d (.slice rU),.d mW,.d mu] λ_=>by kernel_rfl)
theorem aN.L1.aI:jl @aN.L1.R aN.L1.st aN.L1.az aN.L1.add aN.L1.F aN.L1.bY aN.L1.Ok:=js
theorem aN.L1.step{R:Type}(Md:yf)(kQ:Int)(lR:iP)(CH:(List pE))(CI:Int)(CJ:(List Int))(CK:(Int×Unit))(sZ:(List pE))(pQ:iP)(n8:jk)(kn:AS->Option R)(kx:Exit->AS->Option R):aN.L1.R (Md,kQ,lR,CH,CI,CJ,CK,sZ,pQ,n8) kn kx=
  aJ ((jM kQ (((List.length Md.2.2.2.2.2.1):Nat):Int))) (
   aJ ((jM kQ (20:Int))) (
    aJ (fB kQ (((List.length Md.2.2.2.2.2.1):Nat):Int)) (
    ah (ij.call (nth OB Md.2.2.2.2.2.1 (Int.toNat kQ))) λx1=>
    ah (dZ.call x1) λx2=>
    ah (fO.call (pQ,n8,((fa .i64 (iN (nth OB Md.2.2.2.2.2.1 (Int.toNat kQ)).1 (2:Int))),((bV .i64 kQ (1:Int)),((bV .i64 (1:Int) (fa .i64 (nth OB Md.2.2.2.2.2.1 (Int.toNat kQ)).2.1)),(x2,((bV .i64 (1:Int) (fa .i64 (nth OB Md.2.2.2.2.2.1 (Int.toNat kQ)).2.2.1)),()))))))) λx3=>
    aJ ((mV x3.2 (0:Int))) (
     kn (aN.L1.st (Md,(bV .i64 kQ (1:Int)),lR,CH,CI,CJ,CK,sZ,pQ,x3.1))) (
     kn (aN.L1.st (Md,(bV .i64 kQ (1:Int)),lR,CH,CI,CJ,CK,sZ,pQ,n8)))) none) (
    kx (aN.L1.bY ((lR,CH,CI,CJ,CK,sZ,pQ),n8)).1 (aN.L1.bY ((lR,CH,CI,CJ,CK,sZ,pQ),n8)).2)) (
   kx (aN.L1.bY ((lR,CH,CI,CJ,CK,sZ,pQ),n8)).1 (aN.L1.bY ((lR,CH,CI,CJ,CK,sZ,pQ),n8)).2):=by kernel_rfl
theorem aN.eq{R:Type}(p:yf)(k:aX->Option R):aN.A p k=
  ah (gB.call (nth tH p.1 0)) λx1=>
  ah (gB.call (nth tH p.1 1)) λx2=>
  ah (aN.L0.call (p,(0:Int),(((List.replicate 32 (0:Int)),((0:Int),())),((0:Int),((List.replicate 2 ((0:Int),((0:Int),((0:Int),((0:Int),((0:Int),())))))),((List.replicate 2 ((0:Int),((0:Int),((0:Int),((0:Int),((0:Int),((0:Int),()))))))),((0:Int),()))))),(List.replicate 2 ((0:Int),((0:Int),((0:Int),((0:Int),((0:Int),((List.replicate 32 (0:Int)),()))))))),(0:Int),(List.replicate 2 (0:Int)),((0:Int),()),[x1,x2],(((List.replicate 32 (0:Int)),((0:Int),())),((bV .i64 (20000:Int) (fa .i64 p.2.1)),((List.replicate 2 ((0:Int),((0:Int),((0:Int),((0:Int),((0:Int),())))))),((List.replicate 2 ((0:Int),((0:Int),((0:Int),((0:Int),((0:Int),((0:Int),()))))))),((fa .i64 (iN p.2.2.2.2.1 (2:Int))),()))))))) λx4=>
  aJ (mQ (bV .i64 x4.2.2.1 (1:Int))) (
  ah (aQ.call (x4.2,((fa .i64 x4.1.1.2.2.2.2.2.2.1),([(iN (fa .i64 x4.1.1.2.2.1) (bV .i64 x4.2.2.1 (1:Int))),(cY .i64 x4.2.2.1 (iN (fa .i64 x4.1.1.2.2.1) (bV .i64 x4.2.2.1 (1:Int))))],(([]:List jj),((fa .i64 (iN x4.1.1.2.2.2.1 (8:Int))),())))))) λx5=>
  aJ ((!x5)) (
   aJ (fB x4.2.2.2.2.2.1 (2:Int)) (
   aJ (decide ((Int.toNat x4.2.2.2.2.2.1) < 2)) (
   aJ (decide ((1+(((Int.toNat x4.2.2.2.2.2.1)*1)+0))=(1+((Int.toNat x4.2.2.2.2.2.1)*1)))) (
   aJ (decide ((Int.toNat x4.2.2.2.2.2.1) < 2)) (
   aJ (fB (cY .i64 (1:Int) x4.2.2.2.2.2.1) (2:Int)) (
   aJ (decide ((Int.toNat (cY .i64 (1:Int) x4.2.2.2.2.2.1)) < (List.length (List.set [(iN (fa .i64 x4.1.1.2.2.1) (bV .i64 x4.2.2.1 (1:Int))),(cY .i64 x4.2.2.1 (iN (fa .i64 x4.1.1.2.2.1) (bV .i64 x4.2.2.1 (1:Int))))] (Int.toNat x4.2.2.2.2.2.1) x4.2.2.1)))) (
   aJ (decide ((1+(((Int.toNat (cY .i64 (1:Int) x4.2.2.2.2.2.1))*1)+0))=(1+((Int.toNat (cY .i64 (1:Int) x4.2.2.2.2.2.1))*1)))) (
   aJ (decide ((Int.toNat (cY .i64 (1:Int) x4.2.2.2.2.2.1)) < (List.length (List.set [(iN (fa .i64 x4.1.1.2.2.1) (bV .i64 x4.2.2.1 (1:Int))),(cY .i64 x4.2.2.1 (iN (fa .i64 x4.1.1.2.2.1) (bV .i64 x4.2.2.1 (1:Int))))] (Int.toNat x4.2.2.2.2.2.1) x4.2.2.1)))) (
   ah (aN.L1.call (x4.1.1,(0:Int),x4.1.2.1,x4.1.2.2.1,x4.1.2.2.2.1,x4.1.2.2.2.2.1,x4.1.2.2.2.2.2.1,x4.1.2.2.2.2.2.2,x4.2,((fa .i64 x4.1.1.2.2.2.2.2.2.1),((List.set (List.set [(iN (fa .i64 x4.1.1.2.2.1) (bV .i64 x4.2.2.1 (1:Int))),(cY .i64 x4.2.2.1 (iN (fa .i64 x4.1.1.2.2.1) (bV .i64 x4.2.2.1 (1:Int))))] (Int.toNat x4.2.2.2.2.2.1) x4.2.2.1) (Int.toNat (cY .i64 (1:Int) x4.2.2.2.2.2.1)) (0:Int)),(([]:List jj),((fa .i64 (iN x4.1.1.2.2.2.1 (8:Int))),())))))) λDk=>
   k (aN.out (Dk.1.2.2.2.2.2.2,Dk.1.2.2.2.2.2.1,Dk.2))) none) none) none) none) none) none) none) none) (
   ah (aN.L1.call (x4.1.1,(0:Int),x4.1.2.1,x4.1.2.2.1,x4.1.2.2.2.1,x4.1.2.2.2.2.1,x4.1.2.2.2.2.2.1,x4.1.2.2.2.2.2.2,x4.2,((fa .i64 x4.1.1.2.2.2.2.2.2.1),([(iN (fa .i64 x4.1.1.2.2.1) (bV .i64 x4.2.2.1 (1:Int))),(cY .i64 x4.2.2.1 (iN (fa .i64 x4.1.1.2.2.1) (bV .i64 x4.2.2.1 (1:Int))))],(([]:List jj),((fa .i64 (iN x4.1.1.2.2.2.1 (8:Int))),())))))) λPS=>
   k (aN.out (PS.1.2.2.2.2.2.2,PS.1.2.2.2.2.2.1,PS.2)))) none:=by kernel_rfl
theorem aN.L0.round{p:yf}{z1:iP}{z2:List pE}{z3:Int}{z4:List Int}{z5:Int×Unit}{ks:List pE}{ch:iP}(k:Nat)(hk:k < 2)(h1:ks.length=2)(h2:∀k∈ks,EU k)(h3:ch.2.2.1.length=2)(h4:ch.2.2.2.1.length=2)
  {R:Type} (kn:AS->Option R) (kx:Exit->AS->Option R):aN.L0.R (p,(k:Int),z1,z2,z3,z4,z5,ks,ch) kn kx=kn (aN.L0.st (p,((k+1:Nat):Int),z1,z2,z3,z4,z5,ks,AW k ks ch)):=by
 have hm:EU (nth rU ks k):=by
  rw[dQ (t:=rU) (by omega:k < ks.length)]
  exact h2 _ (List.getElem_mem _)
 have i1:k < ks.length:=by omega
 have i3:k < ch.2.2.1.length:=by omega
 have i5:k < ch.2.2.2.1.length:=by omega
 rw[aN.L0.step,bI (by omega),bF (by omega) (by omega),aa]
 rw[aM i1,aM (show k*37+0=0+k*37 by omega),aM i3,aM (show 33+(1+(k*5+0))=34+k*5 by omega),aM i5,aM (show 33+(1+(10+(k*6+0)))=44+k*6 by omega),N.pF (by omega),hH.run (d:=nth rU ks k) hm]
 simp only[ae,ab,hH.add,hH.F]
 rw[ff (by omega) (by omega)]
 rfl
theorem wV{k:Nat}{ks:List pE}{ch:iP}(h3:ch.2.2.1.length=2)(h4:ch.2.2.2.1.length=2):(AW k ks ch).2.2.1.length=2/\(AW k ks ch).2.2.2.1.length=2:=
 ⟨by show(List.set _ _ _).length=2;rw[ej];exact h3,by show(List.set _ _ _).length=2;rw[ej];exact h4⟩
theorem aN.L0.ok:aN.L0.Ok:=by
 refine aN.L0.aI (λ(_,i,_)=>(2 - i).toNat) ?_
 rintro⟨p,i,z1,z2,z3,z4,z5,ks,ch⟩ ⟨h1,h2,h3,h4,hi⟩
 rcases hi with rfl | rfl | rfl
 ·left
  refine⟨(p,1,z1,z2,z3,z4,z5,ks,AW 0 ks ch),⟨h1,h2,(wV h3 h4).1,(wV h3 h4).2,.inr (.inl rfl)⟩,by show(2 - (1:Int)).toNat < (2 - (0:Int)).toNat;decide,?_,λkn kx=>aN.L0.round 0 (by omega) h1 h2 h3 h4 kn kx⟩
  simp only[aN.L0.add,aN.L0.F]
  rfl
 ·left
  refine⟨(p,2,z1,z2,z3,z4,z5,ks,AW 1 ks ch),⟨h1,h2,(wV h3 h4).1,(wV h3 h4).2,.inr (.inr rfl)⟩,by show(2 - (2:Int)).toNat < (2 - (1:Int)).toNat;decide,?_,λkn kx=>aN.L0.round 1 (by omega) h1 h2 h3 h4 kn kx⟩
  simp only[aN.L0.add,aN.L0.F]
  rfl
 ·right
  intro R kn kx
  rw[aN.L0.step,bp (by omega),ai]
  simp only[aN.L0.add,aN.L0.F]
  rfl
theorem aN.L1.ok:aN.L1.Ok:=by
 refine aN.L1.aI (λ(p,i,_)=>p.2.2.2.2.2.1.length - i.toNat) ?_
 rintro⟨p,i,z1,z2,z3,z4,z5,ks,ch,s⟩ ⟨fI,hu,ho,hl,k,hk,rfl⟩
 have hk:k<=p.2.2.2.2.2.1.length:=hk
 have hl:p.2.2.2.2.2.1.length<=9223372036854775807:=hl
 have ho:∀o∈p.2.2.2.2.2.1,UT o:=ho
 by_cases h:k < p.2.2.2.2.2.1.length
 ·have n1:nth OB p.2.2.2.2.2.1 k=p.2.2.2.2.2.1[k]:=dQ (t:=OB) h
  have hd:p.2.2.2.2.2.1.drop k=p.2.2.2.2.2.1[k]::p.2.2.2.2.2.1.drop (k+1):=av h
  by_cases Ss:k < 20
  ·left
   obtain⟨g1,g2,g3,g4⟩:=ho _ (List.getElem_mem h)
   refine⟨(p,((k+1:Nat):Int),z1,z2,z3,z4,z5,ks,ch,C7 ch s k p.2.2.2.2.2.1[k]),⟨fI,Jk hu,ho,hl,k+1,by omega,rfl⟩,by simp only[aa];omega,?_,λkn kx=> ?_⟩
   ·simp only[aN.L1.add,aN.L1.F,aa,hd,tg,Ss,if_true]
   ·rw[aN.L1.step,bI (by omega),ae,bI (by omega),ae,bF (by omega) (by omega),ae,aa,n1,ij.run (d:=p.2.2.2.2.2.1[k]) g4]
    simp only[ab,ij.add,ij.F]
    have:=PJ (o:=p.2.2.2.2.2.1[k])
    rw[dZ.run (d:=FK p.2.2.2.2.2.1[k]) ⟨by omega,by omega⟩]
    simp only[ab,dZ.add,dZ.F]
    rw[lh g1.1,o8 (by omega) (by omega),o8 (by omega) (by omega),o8 (by omega) (by omega),N.pF (by omega),ff (by omega) (by omega),ff (by omega) (by omega)]
    rw[show(p.2.2.2.2.2.1[k].1%2,(((k+1:Nat):Int),(1+p.2.2.2.2.2.1[k].2.1,(fy (FK p.2.2.2.2.2.1[k]),(1+p.2.2.2.2.2.1[k].2.2.1,())))))=I3 k p.2.2.2.2.2.1[k] from rfl]
    rw[fO.run (d:=(ch,s,I3 k p.2.2.2.2.2.1[k])) ⟨fI,hu,uz _⟩]
    simp only[ab,fO.add,fO.F,C7]
    by_cases e:(A4 ch s (I3 k p.2.2.2.2.2.1[k])).2=0
    ·rw[fA e,ae,if_pos e]
    ·rw[fJ e,ai,if_neg e]
  ·right
   intro R kn kx
   rw[aN.L1.step,bI (by omega),ae,bp (by omega),ai]
   simp only[aN.L1.add,aN.L1.F,aa,hd,tg,Ss,if_false]
 ·right
  obtain rfl:k=p.2.2.2.2.2.1.length:=by omega
  intro R kn kx
  rw[aN.L1.step,bp (by omega),ai]
  simp only[aN.L1.add,aN.L1.F,aa,bB,tg]
theorem aN.ok:aN.Ok:=by
 rintro p hp
 have hp:LY p:=hp
 have ha:=hp.EY
 have hw:=hp.own
 have ho:=hp.op
 have hr:=hp.bQ
 have hn:=hp.no
 have fI:=Gs hp
 have l1:∀(z1:iP) (z2:List pE) (z3:Int) (z4:List Int) (z5:Int×Unit) (s:jk),ur s->
   aN.L1.call (p,0,z1,z2,z3,z4,z5,tf p,so p,s)=some ((z1,z2,z3,z4,z5,tf p,so p),tg (so p) s 0 p.2.2.2.2.2.1):=λz1 z2 z3 z4 z5 s hs=>
  aN.L1.run (d:=(p,0,z1,z2,z3,z4,z5,tf p,so p,s)) ⟨fI,hs,hp.Wd,hp.room,0,bm _,rfl⟩
 have l0:∀(z1:iP) (z2:List pE) (z3:Int) (z4:List Int) (z5:Int×Unit),aN.L0.call (p,0,z1,z2,z3,z4,z5,tf p,((List.replicate 32 0,(0,())),(20000+p.2.1,(List.replicate 2 ((0:Int),((0:Int),((0:Int),((0:Int),((0:Int),()))))),(List.replicate 2 ((0:Int),((0:Int),((0:Int),((0:Int),((0:Int),((0:Int),())))))),(p.2.2.2.2.1%2,()))))))=some ((p,z1,z2,z3,z4,z5,tf p),so p):=λz1 z2 z3 z4 z5=>
  aN.L0.run (d:=(p,0,z1,z2,z3,z4,z5,tf p,((List.replicate 32 0,(0,())),(20000+p.2.1,(List.replicate 2 ((0:Int),((0:Int),((0:Int),((0:Int),((0:Int),()))))),(List.replicate 2 ((0:Int),((0:Int),((0:Int),((0:Int),((0:Int),((0:Int),())))))),(p.2.2.2.2.1%2,()))))))) ⟨rfl,λk hk=>by
   rcases cE.1 hk with rfl | hk
   ·exact vW _
   ·rw[aU]at hk
    subst hk
    exact vW _,rfl,rfl,.inl rfl⟩
 rw[aN.eq,gB.run (d:=nth tH p.1 0) hp.s0]
 simp only[ab,gB.add,gB.F]
 rw[gB.run (d:=nth tH p.1 1) hp.s1]
 simp only[ab,gB.add,gB.F]
 rw[lh ho.1,o8 (x:=p.2.1) (by omega) (by omega),o8 (x:=p.2.2.2.2.1%2) (by omega) (by omega),ff (x:=20000) (by omega) (by omega)]
 refine(congrArg (λz=>ah z _) (l0 _ _ _ _ _)).trans ?_
 have e1:(so p).2.1=20000+p.2.1:=rfl
 have e2:(so p).2.2.2.2.1=p.2.2.2.2.1%2:=rfl
 have hm:0<=p.2.2.1%(20000+p.2.1+1)/\p.2.2.1%(20000+p.2.1+1) < 20000+p.2.1+1:=⟨kU _ (by omega),kB _ (by omega)⟩
 simp only[ab,e1,e2]
 rw[ff (x:=20000+p.2.1) (by omega) (by omega),lh hr.1,o8 (x:=p.2.2.1) (by omega) (by omega),lh hw.1,o8 (x:=p.2.2.2.2.2.2.1) (by omega) (by omega),o8 (x:=p.2.2.2.1%8) (by omega) (by omega),gQ (x:=20000+p.2.1) (by omega) (by omega),gQ (x:=1) (by omega) (by omega)]
 rw[show mQ (20000+p.2.1+1)=true by unfold mQ;rw[cq (by omega)];rfl,ae]
 rw[show((p.2.2.2.2.2.2.1,([p.2.2.1%(20000+p.2.1+1),20000+p.2.1 - p.2.2.1%(20000+p.2.1+1)],(([]:List jj),(p.2.2.2.1%8,())))):jk)=Jd p (vc p) from rfl]
 rw[aQ.run (d:=(so p,Jd p (vc p))) ⟨fI,N2 p _ rfl⟩]
 simp only[ab,aQ.add,aQ.F]
 rw[show [p.2.2.1%(20000+p.2.1+1),20000+p.2.1 - p.2.2.1%(20000+p.2.1+1)]=vc p from rfl]
 cases kA:xX (so p) (Jd p (vc p))
 ·have e3:LG p=Jd p (((vc p).set (p.2.2.2.2.1%2).toNat (20000+p.2.1)).set (1 - p.2.2.2.2.1%2).toNat 0):=by
   unfold LG
   rw[kA]
   rfl
  have i1:fB (p.2.2.2.2.1%2) 2=true:=bF (by omega) (by omega)
  have i2:(p.2.2.2.2.1%2).toNat < 2:=by omega
  have i3:1+((p.2.2.2.2.1%2).toNat*1+0)=1+(p.2.2.2.2.1%2).toNat*1:=by omega
  have j1:fB (1 - p.2.2.2.2.1%2) 2=true:=bF (by omega) (by omega)
  have j2:(1 - p.2.2.2.2.1%2).toNat < ((vc p).set (p.2.2.2.2.1%2).toNat (20000+p.2.1)).length:=by
   rw[ej];show _ < 2;omega
  have j3:1+((1 - p.2.2.2.2.1%2).toNat*1+0)=1+(1 - p.2.2.2.2.1%2).toNat*1:=by omega
  rw[gm]
  simp only[i1,aM i2,aM i3,j1,aM j2,aM j3,ae]
  have lm:=λz1 z2 z3 z4 z5=>l1 z1 z2 z3 z4 z5 (LG p) (Ki p)
  rw[e3]at lm
  refine(congrArg (λz=>ah z _) (lm _ _ _ _ _)).trans ?_
  simp only[ab,aN.add,aN.F,HO,e3]
 ·have e3:LG p=Jd p (vc p):=by
   unfold LG
   rw[kA]
   rfl
  rw[bZ,ai]
  have lm:=λz1 z2 z3 z4 z5=>l1 z1 z2 z3 z4 z5 (LG p) (Ki p)
  rw[e3]at lm
  refine(congrArg (λz=>ah z _) (lm _ _ _ _ _)).trans ?_
  simp only[ab,aN.add,aN.F,HO,e3]
def aN.E:=Entry.dp [some Kp] aN.st aN.az aN.add aN.F aN.out
def aN.call:aN.D->Option aN.X:=bX aN.E aN.st
theorem aN.run:b8 aN.call aN.az aN.add aN.F:=dv (du [.d Kp] λ_=>by kernel_rfl)
def aN.sg:SG Tryz.prog:=⟨8,aP,aN.E,.fn 2 (by kernel_rfl) aN.ok (And.intro (.dp aN.L0.ok (by kernel_rfl)) (And.intro (.dp aN.L1.ok (by kernel_rfl)) trivial))⟩
end
end Go.Ab
end
