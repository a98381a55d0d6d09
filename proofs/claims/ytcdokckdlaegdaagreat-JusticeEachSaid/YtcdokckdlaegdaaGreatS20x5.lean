/-
  Made short by a program of mine (wip/tools/mini.py).
-/
import Derived.Test.YtcdokckdlaegdaaGreatS20x4
set_option linter.unusedVariables false
set_option linter.unusedSimpArgs false
set_option maxRecDepth 100000
set_option synthInstance.maxSize 5000
noncomputable section
namespace Go.Ab
open Go.Proofs
abbrev hP.D:=Bs×Bs
def hP.st:hP.D->SA:=λ(b,h)=>([.d tB b,.d tH h],[])
abbrev hP.Y:=Bs
abbrev hP.X:=Bs
def hP.out:hP.X->aZ:=λx=>⟨.d tB x,[],[]⟩
def hP.add:hP.D->hP.Y->hP.X:=λ(b,h) y=>y
def hP.aw:hP.D->Prop:=λ(b,h)=>b.length+h.length<=100000000/\h.length=32
def hP.F:hP.D->hP.Y:=λ(b,h)=>b++h
def hP.G:fD:=gz (P:=Tryz.prog) [fP.sg]
def hP.an:fT:= {}
def hP.A:= @dq Tryz.prog hP.G hP.an 0 Tryz.f108 _ hP.st
abbrev hP.Ok:=dr @hP.A hP.aw hP.add hP.F hP.out
theorem hP.eq{R:Type}(b:Bs)(h:Bs)(k:aZ->Option R):hP.A (b,h) k=
 aj (fP.call (b,(cut h 0 32))) λx1=>
 k (hP.out x1):=by kernel_rfl
theorem hP.ok:hP.Ok:=by
 rintro⟨b,h⟩ ⟨h1,h2⟩
 have h1:b.length+h.length<=100000000:=h1
 have h2:h.length=32:=h2
 rw[hP.eq,iV h2,fP.run (d:=(b,h)) h1]
 rfl
def hP.E:=Entry.dp [some tB,some tH] hP.st hP.aw hP.add hP.F hP.out
def hP.call:hP.D->Option hP.X:=cj hP.E hP.st
theorem hP.run:cl hP.call hP.aw hP.add hP.F:=dw (du [.d tB,.d tB] λ_=>by kernel_rfl)
def hP.sg:SG Tryz.prog:=⟨108,aP,hP.E,.fn 0 (by kernel_rfl) hP.ok trivial⟩
abbrev gQ.D:=Bs×Bs
def gQ.st:gQ.D->SA:=λ(b,c)=>([.d tB b,.d tB c],[])
abbrev gQ.Y:=Bs
abbrev gQ.X:=Bs
def gQ.out:gQ.X->aZ:=λx=>⟨.d tB x,[],[]⟩
def gQ.add:gQ.D->gQ.Y->gQ.X:=λ(b,c) y=>y
def gQ.aw:gQ.D->Prop:=λ(b,c)=>b.length+c.length<=90000000
def gQ.F:gQ.D->gQ.Y:=λ(b,c)=>b++(C5 c.length++c)
def gQ.G:fD:=gz (P:=Tryz.prog) [ek.sg,aF.sg]
def gQ.an:fT:= {res:=[some tB]}
def gQ.A:= @dq Tryz.prog gQ.G gQ.an 0 Tryz.f109 _ gQ.st
abbrev gQ.Ok:=dr @gQ.A gQ.aw gQ.add gQ.F gQ.out
theorem gQ.eq{R:Type}(b:Bs)(c:Bs)(k:aZ->Option R):gQ.A (b,c) k=
 aj (ek.call (((List.length c):Nat):Int)) λx1=>
 aj (aF.call [b,x1,c]) λx2=>
 k (gQ.out x2):=by kernel_rfl
theorem gQ.ok:gQ.Ok:=by
 rintro⟨b,c⟩ h
 have h:b.length+c.length<=90000000:=h
 have hl:=y3 c.length
 rw[gQ.eq,ek.run (d:=(c.length:Int)) ⟨by omega,by omega⟩]
 simp only[ab,ek.add,ek.F]
 rw[aF.run (d:=[b,C5 c.length,c]) ⟨by show [b,C5 c.length,c].length<=_;simp,by show qe [b,C5 c.length,c]<=_;simp only[qe,lV,og,dg,ae];omega⟩]
 simp only[ab,aF.add,aF.F,gQ.add,gQ.F,lV,og,dg]
def gQ.E:=Entry.dp [some tB,some tB] gQ.st gQ.aw gQ.add gQ.F gQ.out
def gQ.call:gQ.D->Option gQ.X:=cj gQ.E gQ.st
theorem gQ.run:cl gQ.call gQ.aw gQ.add gQ.F:=dw (du [.d tB,.d tB] λ_=>by kernel_rfl)
def gQ.sg:SG Tryz.prog:=⟨109,aP,gQ.E,.fn 0 (by kernel_rfl) gQ.ok trivial⟩
def Dy(b:List Int)(x:kX):List Int:=jN (b++x.1.1) x.1.2.1
def D1(b:List Int)(o:kF):List Int:=jN b o.1++(C5 (Ny o.2.1).length++Ny o.2.1)
def wo(t:iM):List Int:=jN (t.2.1.foldl D1 (jN (t.1.foldl Dy (jN [] t.1.length)) t.2.1.length)) t.2.2.1
def mD(t:iM):List Int:=if jQ t then tag (cr (⟨#[116,120]⟩:ByteArray)) [wo t] else List.replicate 32 0
def WZ(x:kX):Prop:=Sm x.1.1/\KW x.2.1/\x.2.1.2.1.length<=9223372036854775807
def tZ(t:iM):Prop:=UN t/\(∀x∈t.1,WZ x)/\t.2.2.1<=9223372036854775807
theorem uq:∀(l:List kX) (m:List (ir×Bool)),tO m l=true->∀x∈l,zO x=true
 |[],_,_,x,hx=>by cases hx
 |y::l,m,h,x,hx=>by
  rw[tO,ak,ak]at h
  rcases cH.1 hx with rfl | hx
  ·exact h.1.2
  ·exact uq l _ h.2 x hx
theorem pF:∀(l:List kF) (s:Int),qm s l=true->∀o∈l,(0<=o.1/\o.1<=1125899906842624)/\kW o.2.1=true
 |[],_,_,o,ho=>by cases ho
 |y::l,s,h,o,ho=>by
  rw[qm,ak,ak]at h
  rcases cH.1 ho with rfl | ho
  ·have h1:=h.1.1
   unfold ud tG at h1
   simp only[ak,decide_eq_true_eq]at h1
   exact⟨h1.2.1,h.1.2⟩
  ·exact pF l _ h.2 o ho
theorem FI{x:kX}(h:zO x=true):0<=x.1.2.1/\x.1.2.1 < 64/\0<=x.2.1.1/\x.2.1.1 < 4/\x.2.1.2.1.length<=12:=by
 unfold zO uD at h
 simp only[ak,decide_eq_true_eq]at h
 exact⟨h.1.1,h.1.2,h.2.1.1,h.2.1.2,h.2.2⟩
theorem pH{t:iM}(h:jQ t=true):(1<=t.1.length/\t.1.length<=64/\t.2.1.length<=64/\0<=t.2.2.1)/\tO [] t.1=true/\qm 0 t.2.1=true:=by
 unfold jQ yh at h
 simp only[ak,decide_eq_true_eq]at h
 exact h
theorem Ki(b:List Int)(x:kX):(Dy b x).length<=b.length+x.1.1.length+11:=by
 have:=lb (b++x.1.1) x.1.2.1
 rw[ae]at this
 exact this
theorem HP(b:List Int)(o:kF):(D1 b o).length<=b.length+1022:=by
 have h1:=lb b o.1
 have h2:=y3 (Ny o.2.1).length
 have h3:=FN o.2.1
 unfold D1
 rw[ae,ae]
 omega
abbrev aV.L0.D:=iM×Bs×(List kX)×Int×Int
def aV.L0.st:aV.L0.D->AS:=λ(wE,b,t13,t14,t15)=>⟨([.undef,.gE jP wE,.undef,.d tB b]++bG 9 ([.d (.slice kj) t13,.d ti t14,.d ti t15]++bG 38 [])),[],(List.replicate 54 [])⟩
abbrev aV.L0.Y0:=Bs
abbrev aV.L0.X0:=(iM)×(Bs)
def aV.L0.bV:aV.L0.X0->Exit×AS:=λx=>(.exit 0,⟨([.undef,.gE jP x.1,.undef,.d tB x.2]++bG 50 []),[],(List.replicate 54 [])⟩)
abbrev aV.L0.X:=aV.L0.X0
abbrev aV.L0.Y:=aV.L0.Y0
def aV.L0.out:aV.L0.X->Out (Exit×AS):=λx=> .ok (aV.L0.bV x)
def aV.L0.add:aV.L0.D->aV.L0.Y->aV.L0.X:=λ(wE,b,t13,t14,t15) y=>(wE,y)
abbrev aV.L1.D:=iM×Bs×(List kF)×Int×Int
def aV.L1.st:aV.L1.D->AS:=λ(Bo,oB,t35,t36,t37)=>⟨([.undef,.gE jP Bo,.undef,.d tB oB]++bG 31 ([.d (.slice lg) t35,.d ti t36,.d ti t37]++bG 16 [])),[],(List.replicate 54 [])⟩
abbrev aV.L1.Y0:=Bs
abbrev aV.L1.X0:=(iM)×(Bs)
def aV.L1.bV:aV.L1.X0->Exit×AS:=λx=>(.exit 2,⟨([.undef,.gE jP x.1,.undef,.d tB x.2]++bG 50 []),[],(List.replicate 54 [])⟩)
abbrev aV.L1.X:=aV.L1.X0
abbrev aV.L1.Y:=aV.L1.Y0
def aV.L1.out:aV.L1.X->Out (Exit×AS):=λx=> .ok (aV.L1.bV x)
def aV.L1.add:aV.L1.D->aV.L1.Y->aV.L1.X:=λ(Bo,oB,t35,t36,t37) y=>(Bo,y)
abbrev aV.D:=iM
def aV.st:aV.D->SA:=λt=>([.d jP t],[])
abbrev aV.Y:=Bs
abbrev aV.X:=Bs
def aV.out:aV.X->aZ:=λx=>⟨.d tB x,[],[]⟩
def aV.add:aV.D->aV.Y->aV.X:=λt y=>y
def aV.L0.aw:aV.L0.D->Prop:=λ(t,b,l,n,i)=>(l).length<=1000000000/\∃k:Nat,k<=(l).length/\i=k/\n=(l).length/\(l.length<=64)/\(∀x∈l,x.1.1.length=32/\x.1.2.1<=9223372036854775807)/\(b.length<=100+50*k)
def aV.L0.F:aV.L0.D->aV.L0.Y:=λ(t,b,l,n,i)=>(List.drop (Int.toNat i) l).foldl Dy b
def aV.L1.aw:aV.L1.D->Prop:=λ(t,b,l,n,i)=>(l).length<=1000000000/\∃k:Nat,k<=(l).length/\i=k/\n=(l).length/\(l.length<=64)/\(∀o∈l,o.1<=9223372036854775807/\ua o.2.1)/\(b.length<=4000+1100*k)
def aV.L1.F:aV.L1.D->aV.L1.Y:=λ(t,b,l,n,i)=>(List.drop (Int.toNat i) l).foldl D1 b
def aV.aw:aV.D->Prop:=λt=>jQ t=true/\tZ t
def aV.F:aV.D->aV.Y:=λt=>wo t
def aV.G:fD:=gz (P:=Tryz.prog) [gD.sg,hP.sg,aS.sg,gQ.sg]
def aV.L0.E:=cV.dp aV.L0.st aV.L0.aw aV.L0.add aV.L0.F aV.L0.out
def aV.L0.call:aV.L0.D->Option aV.L0.X:=eI aV.L0.E aV.L0.st
def aV.L1.E:=cV.dp aV.L1.st aV.L1.aw aV.L1.add aV.L1.F aV.L1.out
def aV.L1.call:aV.L1.D->Option aV.L1.X:=eI aV.L1.E aV.L1.st
def aV.an:fT:= {loops:=oF [(3,{bS:=[1,3,13,14,15]}),(9,{bS:=[1,3,35,36,37]})],outs:=oE [(3,{bS:=[1,3]},{bS:=[2]}),(9,{bS:=[1,3]},{bS:=[2]})],jw:=pL [(3,aV.L0.E),(9,aV.L1.E)],res:=[some tB]}
def aV.A:= @dq Tryz.prog aV.G aV.an 0 Tryz.f52 _ aV.st
abbrev aV.Ok:=dr @aV.A aV.aw aV.add aV.F aV.out
def aV.L0.R:= @dn Tryz.prog aV.G aV.an 0 Tryz.f52 0 _ aV.L0.st
abbrev aV.L0.Ok:=gw Tryz.prog aV.G aV.an 0 Tryz.f52 0 aV.L0.st aV.L0.aw aV.L0.add aV.L0.F aV.L0.out
def aV.L1.R:= @dn Tryz.prog aV.G aV.an 0 Tryz.f52 1 _ aV.L1.st
abbrev aV.L1.Ok:=gw Tryz.prog aV.G aV.an 0 Tryz.f52 1 aV.L1.st aV.L1.aw aV.L1.add aV.L1.F aV.L1.out
theorem aV.L0.run:cl aV.L0.call aV.L0.aw aV.L0.add aV.L0.F:=gT (gS [.d jP,.d tB,.d (.slice kj),.d ti,.d ti] λ_=>by kernel_rfl)
theorem aV.L0.aI:jk @aV.L0.R aV.L0.st aV.L0.aw aV.L0.add aV.L0.F aV.L0.bV aV.L0.Ok:=jm
theorem aV.L0.step{R:Type}(wE:iM)(b:Bs)(t13:(List kX))(t14:Int)(t15:Int)(kn:AS->Option R)(kx:Exit->AS->Option R):aV.L0.R (wE,b,t13,t14,t15) kn kx=
  aJ ((jK t15 t14)) (
   aJ (fp t15 (((List.length t13):Nat):Int)) (
   aj (hP.call (b,(nth kj t13 (Int.toNat t15)).1.1)) λx1=>
   aj (gD.call (x1,(nth kj t13 (Int.toNat t15)).1.2.1)) λx2=>
   kn (aV.L0.st (wE,x2,t13,t14,(bO .i64 t15 (1:Int))))) none) (
   kx (aV.L0.bV (wE,b)).1 (aV.L0.bV (wE,b)).2):=by kernel_rfl
theorem aV.L1.run:cl aV.L1.call aV.L1.aw aV.L1.add aV.L1.F:=gT (gS [.d jP,.d tB,.d (.slice lg),.d ti,.d ti] λ_=>by kernel_rfl)
theorem aV.L1.aI:jk @aV.L1.R aV.L1.st aV.L1.aw aV.L1.add aV.L1.F aV.L1.bV aV.L1.Ok:=jm
theorem aV.L1.step{R:Type}(Bo:iM)(oB:Bs)(t35:(List kF))(t36:Int)(t37:Int)(kn:AS->Option R)(kx:Exit->AS->Option R):aV.L1.R (Bo,oB,t35,t36,t37) kn kx=
  aJ ((jK t37 t36)) (
   aJ (fp t37 (((List.length t35):Nat):Int)) (
   aj (gD.call (oB,(nth lg t35 (Int.toNat t37)).1)) λx1=>
   aj (aS.call (nth lg t35 (Int.toNat t37)).2.1) λx2=>
   aj (gQ.call (x1,x2)) λx3=>
   kn (aV.L1.st (Bo,x3,t35,t36,(bO .i64 t37 (1:Int))))) none) (
   kx (aV.L1.bV (Bo,oB)).1 (aV.L1.bV (Bo,oB)).2):=by kernel_rfl
theorem aV.eq{R:Type}(t:iM)(k:aZ->Option R):aV.A t k=
 aj (gD.call (([]:List Int),(((List.length t.1):Nat):Int))) λx1=>
 aj (aV.L0.call (t,x1,t.1,(((List.length t.1):Nat):Int),(0:Int))) λx4=>
 aj (gD.call (x4.2,(((List.length x4.1.2.1):Nat):Int))) λx5=>
 aj (aV.L1.call (x4.1,x5,x4.1.2.1,(((List.length x4.1.2.1):Nat):Int),(0:Int))) λx9=>
 aj (gD.call (x9.2,x9.1.2.2.1)) λzm=>
 k (aV.out zm):=by kernel_rfl
theorem aV.L0.ok:aV.L0.Ok:=by
 refine aV.L0.aI (λ(t,b,l,n,i)=>(l).length - Int.toNat i) ?_
 rintro⟨t,b,l,n,i⟩ ⟨hlen,k,hk,rfl,rfl,FA,hx,hb⟩
 have hlen:(l).length<=1000000000:=hlen
 have hk:k<=(l).length:=hk
 have FA:l.length<=64:=FA
 have hx:∀x∈l,x.1.1.length=32/\x.1.2.1<=9223372036854775807:=hx
 have hb:b.length<=100+50*k:=hb
 by_cases h:k < (l).length
 ·left
  have n1:nth kj l k=l[k]:=dP (t:=kj) h
  have hd:List.drop k l=l[k]::List.drop (k+1) l:=aA h
  refine⟨(t,(Dy b l[k]),l,((l).length:Int),((k+1:Nat):Int)),⟨hlen,k+1,by omega,rfl,rfl,FA,hx,by have:=Ki b l[k];have:=(hx _ (List.getElem_mem h)).1;omega⟩,by simp only[aa];omega,?_,λkn kx=> ?_⟩
  ·simp only[aV.L0.add,aV.L0.F,aa,hd,iv]
  ·rw[aV.L0.step,bI (by omega),bF (by omega) (by omega),aa,n1]
   simp only[ah]
   have e:=hx _ (List.getElem_mem h)
   have e2:(b++l[k].1.1).length=b.length+l[k].1.1.length:=ae
   rw[hP.run (d:=(b,l[k].1.1)) ⟨by show b.length+l[k].1.1.length<=_;omega,e.1⟩]
   simp only[ab,hP.add,hP.F]
   rw[gD.run (d:=(b++l[k].1.1,l[k].1.2.1)) ⟨by show(b++l[k].1.1).length<=_;omega,e.2⟩]
   simp only[ab,gD.add,gD.F]
   rw[N.pJ (by omega)]
   rfl
 ·right
  obtain rfl:k=(l).length:=by omega
  intro R kn kx
  rw[aV.L0.step,bp (by omega),ai]
  simp only[aV.L0.add,aV.L0.F,aa,bH,List.foldl_nil]
theorem aV.L1.ok:aV.L1.Ok:=by
 refine aV.L1.aI (λ(t,b,l,n,i)=>(l).length - Int.toNat i) ?_
 rintro⟨t,b,l,n,i⟩ ⟨hlen,k,hk,rfl,rfl,FA,hx,hb⟩
 have hlen:(l).length<=1000000000:=hlen
 have hk:k<=(l).length:=hk
 have FA:l.length<=64:=FA
 have hx:∀o∈l,o.1<=9223372036854775807/\ua o.2.1:=hx
 have hb:b.length<=4000+1100*k:=hb
 by_cases h:k < (l).length
 ·left
  have n1:nth lg l k=l[k]:=dP (t:=lg) h
  have hd:List.drop k l=l[k]::List.drop (k+1) l:=aA h
  refine⟨(t,(D1 b l[k]),l,((l).length:Int),((k+1:Nat):Int)),⟨hlen,k+1,by omega,rfl,rfl,FA,hx,by have:=HP b l[k];omega⟩,by simp only[aa];omega,?_,λkn kx=> ?_⟩
  ·simp only[aV.L1.add,aV.L1.F,aa,hd,iv]
  ·rw[aV.L1.step,bI (by omega),bF (by omega) (by omega),aa,n1]
   simp only[ah]
   have e:=hx _ (List.getElem_mem h)
   have e1:=lb b l[k].1
   have e2:=FN l[k].2.1
   rw[gD.run (d:=(b,l[k].1)) ⟨by show b.length<=_;omega,e.1⟩]
   simp only[ab,gD.add,gD.F]
   rw[aS.run (d:=l[k].2.1) e.2]
   simp only[ab,aS.add,aS.F]
   rw[gQ.run (d:=(jN b l[k].1,Ny l[k].2.1)) (by show(jN b l[k].1).length+(Ny l[k].2.1).length<=_;omega)]
   simp only[ab,gQ.add,gQ.F]
   rw[N.pJ (by omega)]
   rfl
 ·right
  obtain rfl:k=(l).length:=by omega
  intro R kn kx
  rw[aV.L1.step,bp (by omega),ai]
  simp only[aV.L1.add,aV.L1.F,aa,bH,List.foldl_nil]
theorem FK:∀(l:List kX) (b:List Int),(∀x∈l,x.1.1.length=32)->(l.foldl Dy b).length<=b.length+43*l.length
 |[],b,_=>aC _
 |x::l,b,h=>by
  have h1:=Ki b x
  have h2:=h x bq
  have h3:=FK l (Dy b x) λy hy=>h y (bj _ hy)
  rw[iv,aN]
  omega
theorem CX:∀(l:List kF) (b:List Int),(l.foldl D1 b).length<=b.length+1022*l.length
 |[],b=>aC _
 |x::l,b=>by
  have h1:=HP b x
  have h3:=CX l (D1 b x)
  rw[iv,aN]
  omega
theorem Jr{t:iM}(jV:jQ t=true)(hv:tZ t):(wo t).length<=70000:=by
 obtain⟨⟨_,a2,a3,_⟩,_,_⟩:=pH jV
 have h1:=FK t.1 (jN [] t.1.length) λx hx=>(hv.2.1 x hx).1.1
 have h2:=lb [] t.1.length
 have h3:=lb (t.1.foldl Dy (jN [] t.1.length)) t.2.1.length
 have h4:=CX t.2.1 (jN (t.1.foldl Dy (jN [] t.1.length)) t.2.1.length)
 have h5:=lb (t.2.1.foldl D1 (jN (t.1.foldl Dy (jN [] t.1.length)) t.2.1.length)) t.2.2.1
 have h0:([]:List Int).length=0:=rfl
 unfold wo
 omega
theorem aV.ok:aV.Ok:=by
 rintro t ⟨jV,hv⟩
 have hv:tZ t:=hv
 obtain⟨⟨_,a2,a3,_⟩,b1,b2⟩:=pH jV
 have h0:([]:List Int).length=0:=rfl
 have l0:=lb [] t.1.length
 have l1:=FK t.1 (jN [] t.1.length) λx hx=>(hv.2.1 x hx).1.1
 have l2:=lb (t.1.foldl Dy (jN [] t.1.length)) t.2.1.length
 have l3:=CX t.2.1 (jN (t.1.foldl Dy (jN [] t.1.length)) t.2.1.length)
 rw[aV.eq,gD.run (d:=([],(t.1.length:Int))) ⟨by show([]:List Int).length<=_;omega,by show(t.1.length:Int)<=_;omega⟩]
 simp only[ab,gD.add,gD.F]
 rw[aV.L0.run (d:=(t,jN [] t.1.length,t.1,t.1.length,0)) ⟨by show t.1.length<=_;omega,0,bm _,rfl,rfl,a2,λx hx=>⟨(hv.2.1 x hx).1.1,by have:=FI (uq _ _ b1 x hx);omega⟩,by show(jN [] t.1.length).length<=_;omega⟩]
 simp only[ab,aV.L0.add,aV.L0.F,bK,aW]
 rw[gD.run (d:=(t.1.foldl Dy (jN [] t.1.length),(t.2.1.length:Int))) ⟨by show(t.1.foldl Dy (jN [] t.1.length)).length<=_;omega,by show(t.2.1.length:Int)<=_;omega⟩]
 simp only[ab,gD.add,gD.F]
 rw[aV.L1.run (d:=(t,jN (t.1.foldl Dy (jN [] t.1.length)) t.2.1.length,t.2.1,t.2.1.length,0)) ⟨by show t.2.1.length<=_;omega,0,bm _,rfl,rfl,a3,λo ho=>⟨by have:=(pF _ _ b2 o ho).1;omega,hv.1.1 o ho⟩,by show(jN (t.1.foldl Dy (jN [] t.1.length)) t.2.1.length).length<=_;omega⟩]
 simp only[ab,aV.L1.add,aV.L1.F,bK,aW]
 rw[gD.run (d:=(t.2.1.foldl D1 (jN (t.1.foldl Dy (jN [] t.1.length)) t.2.1.length),t.2.2.1)) ⟨by show(t.2.1.foldl D1 (jN (t.1.foldl Dy (jN [] t.1.length)) t.2.1.length)).length<=_;omega,hv.2.2⟩]
 rfl
def aV.E:=Entry.dp [some jP] aV.st aV.aw aV.add aV.F aV.out
def aV.call:aV.D->Option aV.X:=cj aV.E aV.st
theorem aV.run:cl aV.call aV.aw aV.add aV.F:=dw (du [.d jP] λ_=>by kernel_rfl)
def aV.sg:SG Tryz.prog:=⟨52,aP,aV.E,.fn 2 (by kernel_rfl) aV.ok (And.intro (.dp aV.L0.ok (by kernel_rfl)) (And.intro (.dp aV.L1.ok (by kernel_rfl)) trivial))⟩
def wI(n:Int)(x:kX):Int:=n+(10+8*x.2.1.2.1.length)+(if x.2.1.2.2.1=0 then 0 else 4)
def sY(t:iM):Int:=if jQ t then t.1.foldl wI (10+8*t.2.1.length) else 0
def gb(t:iM):List ir:=if jQ t then t.1.map (·.1) else []
def nE(id:List Int)(k n:Nat):List ir:=(List.range' k n).map λi:Nat=>(id,((i:Int),()))
def gq(t:iM):List ir:=if jQ t then nE (mD t) 0 t.2.1.length else []
abbrev tid.D:=iM
def tid.st:tid.D->SA:=λt=>([.d jP t],[])
abbrev tid.Y:=Bs
abbrev tid.X:=Bs
def tid.out:tid.X->aZ:=λx=>⟨.d tH x,[],[]⟩
def tid.add:tid.D->tid.Y->tid.X:=λt y=>y
def tid.aw:tid.D->Prop:=λt=>tZ t
def tid.F:tid.D->tid.Y:=λt=>mD t
def tid.G:fD:=gz (P:=Tryz.prog) [aD.sg,aV.sg,dH.sg]
def tid.an:fT:= {}
def tid.A:= @dq Tryz.prog tid.G tid.an 0 Tryz.f19 _ tid.st
abbrev tid.Ok:=dr @tid.A tid.aw tid.add tid.F tid.out
theorem tid.eq{R:Type}(t:iM)(k:aZ->Option R):tid.A t k=
  aj (aD.call t) λx1=>
  aJ ((!x1)) (
   k (tid.out (List.replicate 32 (0:Int)))) (
   aj (aV.call t) λx2=>
   aj (dH.call ((⟨#[116,120]⟩:ByteArray),[x2])) λx3=>
   k (tid.out x3)):=by kernel_rfl
theorem tid.ok:tid.Ok:=by
 intro t hv
 have hv:tZ t:=hv
 rw[tid.eq,aD.run (d:=t) hv.1]
 simp only[ab,aD.add,aD.F,tid.add,tid.F,mD]
 cases jV:jQ t
 ·rfl
 ·have hl:=Jr jV hv
  rw[aV.run (d:=t) ⟨jV,hv⟩]
  simp only[bY,ai,if_true,ab,aV.add,aV.F]
  rw[dH.run (d:=((⟨#[116,120]⟩:ByteArray),[wo t])) (Ig (by decide) (by omega))]
  rfl
def tid.E:=Entry.dp [some jP] tid.st tid.aw tid.add tid.F tid.out
def tid.call:tid.D->Option tid.X:=cj tid.E tid.st
theorem tid.run:cl tid.call tid.aw tid.add tid.F:=dw (du [.d jP] λ_=>by kernel_rfl)
def tid.sg:SG Tryz.prog:=⟨19,aP,tid.E,.fn 0 (by kernel_rfl) tid.ok trivial⟩
abbrev bz.L0.D:=Int×(List kX)×Int×Int
def bz.L0.st:bz.L0.D->AS:=λ(n,t15,t16,t17)=>⟨([.undef,.undef,.undef,.d ti n]++bG 11 ([.d (.slice kj) t15,.d ti t16,.d ti t17]++bG 19 [])),[],(List.replicate 37 [])⟩
abbrev bz.L0.Y0:=Int
abbrev bz.L0.X0:=Int
def bz.L0.bV:bz.L0.X0->Exit×AS:=λx=>(.exit 0,⟨([.undef,.undef,.undef,.d ti x]++bG 33 []),[],(List.replicate 37 [])⟩)
abbrev bz.L0.X:=bz.L0.X0
abbrev bz.L0.Y:=bz.L0.Y0
def bz.L0.out:bz.L0.X->Out (Exit×AS):=λx=> .ok (bz.L0.bV x)
def bz.L0.add:bz.L0.D->bz.L0.Y->bz.L0.X:=λ(n,t15,t16,t17) y=>y
abbrev bz.D:=iM
def bz.st:bz.D->SA:=λt=>([.d jP t],[])
abbrev bz.Y:=Int
abbrev bz.X:=Int
def bz.out:bz.X->aZ:=λx=>⟨.d ti x,[],[]⟩
def bz.add:bz.D->bz.Y->bz.X:=λt y=>y
def bz.L0.aw:bz.L0.D->Prop:=λ(n,l,m,i)=>(l).length<=1000000000/\∃k:Nat,k<=(l).length/\i=k/\m=(l).length/\(l.length<=64)/\(∀x∈l,x.2.1.2.1.length<=12)/\(0<=n)/\(n<=1000+200*(k:Int))
def bz.L0.F:bz.L0.D->bz.L0.Y:=λ(n,l,m,i)=>(List.drop (Int.toNat i) l).foldl wI n
def bz.aw:bz.D->Prop:=λt=>tZ t
def bz.F:bz.D->bz.Y:=λt=>sY t
def bz.G:fD:=gz (P:=Tryz.prog) [aD.sg]
def bz.L0.E:=cV.dp bz.L0.st bz.L0.aw bz.L0.add bz.L0.F bz.L0.out
def bz.L0.call:bz.L0.D->Option bz.L0.X:=eI bz.L0.E bz.L0.st
def bz.an:fT:= {loops:=oF [(5,{bS:=[3,15,16,17]})],outs:=oE [(5,{bS:=[3]},{bS:=[2]})],jw:=pL [(5,bz.L0.E)]}
def bz.A:= @dq Tryz.prog bz.G bz.an 0 Tryz.f23 _ bz.st
abbrev bz.Ok:=dr @bz.A bz.aw bz.add bz.F bz.out
def bz.L0.R:= @dn Tryz.prog bz.G bz.an 0 Tryz.f23 0 _ bz.L0.st
abbrev bz.L0.Ok:=gw Tryz.prog bz.G bz.an 0 Tryz.f23 0 bz.L0.st bz.L0.aw bz.L0.add bz.L0.F bz.L0.out
theorem bz.L0.run:cl bz.L0.call bz.L0.aw bz.L0.add bz.L0.F:=gT (gS [.d ti,.d (.slice kj),.d ti,.d ti] λ_=>by kernel_rfl)
theorem bz.L0.aI:jk @bz.L0.R bz.L0.st bz.L0.aw bz.L0.add bz.L0.F bz.L0.bV bz.L0.Ok:=jm
theorem bz.L0.step{R:Type}(n:Int)(t15:(List kX))(t16:Int)(t17:Int)(kn:AS->Option R)(kx:Exit->AS->Option R):bz.L0.R (n,t15,t16,t17) kn kx=
  aJ ((jK t17 t16)) (
   aJ (fp t17 (((List.length t15):Nat):Int)) (
   aJ ((rN (nth kj t15 (Int.toNat t17)).2.1.2.2.1 (0:Int))) (
    kn (bz.L0.st ((bO .i64 (bO .i64 n (bO .i64 (10:Int) (gJ .i64 (8:Int) (((List.length (nth kj t15 (Int.toNat t17)).2.1.2.1):Nat):Int)))) (4:Int)),t15,t16,(bO .i64 t17 (1:Int))))) (
    kn (bz.L0.st ((bO .i64 n (bO .i64 (10:Int) (gJ .i64 (8:Int) (((List.length (nth kj t15 (Int.toNat t17)).2.1.2.1):Nat):Int)))),t15,t16,(bO .i64 t17 (1:Int)))))) none) (
   kx (bz.L0.bV n).1 (bz.L0.bV n).2):=by kernel_rfl
theorem bz.eq{R:Type}(t:iM)(k:aZ->Option R):bz.A t k=
  aj (aD.call t) λx1=>
  aJ ((!x1)) (
   k (bz.out (0:Int))) (
   aj (bz.L0.call ((bO .i64 (10:Int) (gJ .i64 (8:Int) (((List.length t.2.1):Nat):Int))),t.1,(((List.length t.1):Nat):Int),(0:Int))) λx2=>
   k (bz.out x2)):=by kernel_rfl
theorem bz.L0.ok:bz.L0.Ok:=by
 refine bz.L0.aI (λ(n,l,m,i)=>(l).length - Int.toNat i) ?_
 rintro⟨n,l,m,i⟩ ⟨hlen,k,hk,rfl,rfl,FA,hx,h0,h1⟩
 have hlen:(l).length<=1000000000:=hlen
 have hk:k<=(l).length:=hk
 have FA:l.length<=64:=FA
 have hx:∀x∈l,x.2.1.2.1.length<=12:=hx
 have h0:0<=n:=h0
 have h1:n<=1000+200*(k:Int):=h1
 by_cases h:k < (l).length
 ·left
  have n1:nth kj l k=l[k]:=dP (t:=kj) h
  have hd:List.drop k l=l[k]::List.drop (k+1) l:=aA h
  refine⟨((wI n l[k]),l,((l).length:Int),((k+1:Nat):Int)),⟨hlen,k+1,by omega,rfl,rfl,FA,hx,by unfold wI;split <;> omega,by have:=hx _ (List.getElem_mem h);unfold wI;split <;> omega⟩,by simp only[aa];omega,?_,λkn kx=> ?_⟩
  ·simp only[bz.L0.add,bz.L0.F,aa,hd,iv]
  ·rw[bz.L0.step,bI (by omega),bF (by omega) (by omega),aa,n1]
   simp only[ah]
   have e:=hx _ (List.getElem_mem h)
   rw[N.U9 (by omega)]
   have e2:bO .i64 10 ((8*l[k].2.1.2.1.length:Nat):Int)=10+8*(l[k].2.1.2.1.length:Int):=by rw[ff (by omega) (by omega)];omega
   rw[e2,ff (x:=n) (by omega) (by omega),N.pJ (by omega)]
   unfold wI
   by_cases hs:l[k].2.1.2.2.1=0
   ·rw[gK hs,ai,if_pos hs,lU]
   ·rw[kN hs,ah,if_neg hs,ff (by omega) (by omega)]
 ·right
  obtain rfl:k=(l).length:=by omega
  intro R kn kx
  rw[bz.L0.step,bp (by omega),ai]
  simp only[bz.L0.add,bz.L0.F,aa,bH,List.foldl_nil]
theorem bz.ok:bz.Ok:=by
 intro t hv
 have hv:tZ t:=hv
 rw[bz.eq,aD.run (d:=t) hv.1]
 simp only[ab,aD.add,aD.F,bz.add,bz.F,sY]
 cases jV:jQ t
 ·rfl
 ·obtain⟨⟨_,a2,a3,_⟩,b1,b2⟩:=pH jV
  rw[N.U9 (by omega),ff (by omega) (by omega),bz.L0.run (d:=(10+((8*t.2.1.length:Nat):Int),t.1,t.1.length,0)) ⟨by show t.1.length<=_;omega,0,bm _,rfl,rfl,a2,λx hx=>(FI (uq _ _ b1 x hx)).2.2.2.2,by show(0:Int)<=10+((8*t.2.1.length:Nat):Int);omega,by show 10+((8*t.2.1.length:Nat):Int)<=_;omega⟩]
  simp only[ab,bz.L0.add,bz.L0.F,bK,aW,bY,ai,if_true,pa]
  rfl
def bz.E:=Entry.dp [some jP] bz.st bz.aw bz.add bz.F bz.out
def bz.call:bz.D->Option bz.X:=cj bz.E bz.st
theorem bz.run:cl bz.call bz.aw bz.add bz.F:=dw (du [.d jP] λ_=>by kernel_rfl)
def bz.sg:SG Tryz.prog:=⟨23,aP,bz.E,.fn 1 (by kernel_rfl) bz.ok (And.intro (.dp bz.L0.ok (by kernel_rfl)) trivial)⟩
abbrev bw.L0.D:=Nat×(List kX)×Int×Int×(List ir)
def bw.L0.st:bw.L0.D->AS:=λ(lL,t9,t10,t11,QG)=>⟨([.undef,.undef,.dh (.new 19 0) 0 [] 0 0 lL]++bG 6 ([.d (.slice kj) t9,.d ti t10,.d ti t11]++bG 10 [])),[],(db 19 [[.obj 0 false (.vec 35 gV QG)],[],[]])⟩
abbrev bw.L0.Y0:=Nat×(List ir)
abbrev bw.L0.X0:=Nat×(List ir)
def bw.L0.bV:bw.L0.X0->Exit×AS:=λx=>(.exit 0,⟨([.undef,.undef,.dh (.new 19 0) 0 [] 0 0 x.1]++bG 19 []),[],(db 19 [[.obj 0 false (.vec 35 gV x.2)],[],[]])⟩)
abbrev bw.L0.X:=bw.L0.X0
abbrev bw.L0.Y:=bw.L0.Y0
def bw.L0.out:bw.L0.X->Out (Exit×AS):=λx=> .ok (bw.L0.bV x)
def bw.L0.add:bw.L0.D->bw.L0.Y->bw.L0.X:=λ(lL,t9,t10,t11,QG) y=>y
abbrev bw.D:=iM
def bw.st:bw.D->SA:=λt=>([.d jP t],[])
abbrev bw.Y:=(List ir)
abbrev bw.X:=(List ir)
def bw.out:bw.X->aZ:=λx=>⟨.d (.slice gV) x,[],[]⟩
def bw.add:bw.D->bw.Y->bw.X:=λt y=>y
def bw.L0.aw:bw.L0.D->Prop:=λ(L,l,n,i,r)=>(l).length<=1000000/\∃k:Nat,k<=(l).length/\i=k/\n=(l).length/\L=(r).length/\(r).length<=1000000+k
def bw.L0.F:bw.L0.D->bw.L0.Y:=λ(L,l,n,i,r)=>(L+(List.drop (Int.toNat i) l).length,r++(List.drop (Int.toNat i) l).map (λx:kX=>x.1))
def bw.aw:bw.D->Prop:=λt=>UN t
def bw.F:bw.D->bw.Y:=λt=>gb t
def bw.G:fD:=gz (P:=Tryz.prog) [aD.sg]
def bw.L0.E:=cV.dp bw.L0.st bw.L0.aw bw.L0.add bw.L0.F bw.L0.out
def bw.L0.call:bw.L0.D->Option bw.L0.X:=eI bw.L0.E bw.L0.st
def bw.an:fT:= {loops:=oF [(4,{bS:=[2,9,10,11],sites:=[19],nB:=[⟨2,[],19,145⟩]})],outs:=oE [(4,{bS:=[2],sites:=[19]},{bS:=[2]})],jw:=pL [(4,bw.L0.E)],res:=[some (.slice gV)]}
def bw.A:= @dq Tryz.prog bw.G bw.an 0 Tryz.f55 _ bw.st
abbrev bw.Ok:=dr @bw.A bw.aw bw.add bw.F bw.out
def bw.L0.R:= @dn Tryz.prog bw.G bw.an 0 Tryz.f55 0 _ bw.L0.st
abbrev bw.L0.Ok:=gw Tryz.prog bw.G bw.an 0 Tryz.f55 0 bw.L0.st bw.L0.aw bw.L0.add bw.L0.F bw.L0.out
theorem bw.L0.run:cl bw.L0.call bw.L0.aw bw.L0.add bw.L0.F:=gT (gS [.n,.d (.slice kj),.d ti,.d ti,.d (.slice gV)] λ_=>by kernel_rfl)
theorem bw.L0.aI:jk @bw.L0.R bw.L0.st bw.L0.aw bw.L0.add bw.L0.F bw.L0.bV bw.L0.Ok:=jm
theorem bw.L0.step{R:Type}(lL:Nat)(t9:(List kX))(t10:Int)(t11:Int)(QG:(List ir))(kn:AS->Option R)(kx:Exit->AS->Option R):bw.L0.R (lL,t9,t10,t11,QG) kn kx=
  aJ ((jK t11 t10)) (
   aJ (fp t11 (((List.length t9):Nat):Int)) (
   aJ (decide (lL<=(List.length QG))) (
   aJ (fk (lL+1) 40) (
   kn (bw.L0.st ((lL+1),t9,t10,(bO .i64 t11 (1:Int)),((List.take lL QG)++ [(nth kj t9 (Int.toNat t11)).1])))) none) none) none) (
   kx (bw.L0.bV (lL,QG)).1 (bw.L0.bV (lL,QG)).2):=by kernel_rfl
theorem bw.eq{R:Type}(t:iM)(k:aZ->Option R):bw.A t k=
  aj (aD.call t) λx1=>
  aJ ((!x1)) (
   k (bw.out ([]:List ir))) (
   aj (bw.L0.call (0,t.1,(((List.length t.1):Nat):Int),(0:Int),([]:List ir))) λx2=>
   aJ (decide (0=0/\(0+x2.1)<=(List.length x2.2))) (
   k (bw.out (cut x2.2 0 x2.1))) none):=by kernel_rfl
theorem bw.L0.ok:bw.L0.Ok:=by
 refine bw.L0.aI (λ(L,l,n,i,r)=>(l).length - Int.toNat i) ?_
 rintro⟨L,l,n,i,r⟩ ⟨hlen,k,hk,rfl,rfl,rfl,my⟩
 have hlen:(l).length<=1000000:=hlen
 have hk:k<=(l).length:=hk
 have my:(r).length<=1000000+k:=my
 by_cases h:k < (l).length
 ·left
  have n1:nth kj l k=l[k]:=dP (t:=kj) h
  have hd:List.drop k l=l[k]::List.drop (k+1) l:=aA h
  refine⟨((r).length+1,l,((l).length:Int),((k+1:Nat):Int),r++ [(λx:kX=>x.1) l[k]]),⟨hlen,k+1,by omega,rfl,rfl,by rw[ae];rfl,by rw[ae];show(r).length+1<=_;omega⟩,by simp only[aa];omega,?_,λkn kx=> ?_⟩
  ·simp only[bw.L0.add,bw.L0.F,aa,hd,cG,aN,bR,eS]
   rw[show ∀a c:Nat,a+1+c=a+(c+1) from λa c=>by omega]
  ·rw[bw.L0.step,bI (by omega),bF (show(0:Int)<=(k:Int) by omega) (by omega),aa,n1]
   simp only[ah]
   rw[aO (aC _),fV (by omega) (by omega),N.pJ (by omega),cz]
   rfl
 ·right
  obtain rfl:k=(l).length:=by omega
  intro R kn kx
  rw[bw.L0.step,bp (by omega),ai]
  simp only[bw.L0.add,bw.L0.F,aa,bH,jg,dg,bJ,dE]
theorem bw.ok:bw.Ok:=by
 intro t hv
 have hv:UN t:=hv
 rw[bw.eq,aD.run (d:=t) hv]
 simp only[ab,aD.add,aD.F,bw.add,bw.F,gb]
 cases jV:jQ t
 ·rfl
 ·obtain⟨⟨_,a2,a3,_⟩,b1,b2⟩:=pH jV
  rw[bw.L0.run (d:=(0,t.1,t.1.length,0,[])) ⟨by show t.1.length<=_;omega,0,bm _,rfl,rfl,rfl,bm _⟩]
  simp only[bY,ai,if_true,ab,bw.L0.add,bw.L0.F,bK,aW,bu,bl]
  rw[aO ⟨by trivial,by rw[b8];exact aC _⟩,ah,iV (by rw[b8])]
def bw.E:=Entry.dp [some jP] bw.st bw.aw bw.add bw.F bw.out
def bw.call:bw.D->Option bw.X:=cj bw.E bw.st
theorem bw.run:cl bw.call bw.aw bw.add bw.F:=dw (du [.d jP] λ_=>by kernel_rfl)
def bw.sg:SG Tryz.prog:=⟨55,aP,bw.E,.fn 1 (by kernel_rfl) bw.ok (And.intro (.dp bw.L0.ok (by kernel_rfl)) trivial)⟩
abbrev cP.L0.D:=Nat×Int×Int×Bs×(List ir)
def cP.L0.st:cP.L0.D->AS:=λ(lL,t12,t13,n3,Hw)=>⟨([.undef,.undef,.dh (.new 21 0) 0 [] 0 0 lL,.ptr (.new 3 0) 0 [] 0]++bG 8 ([.d ti t12,.d ti t13]++bG 10 [])),[],([[],[],[],[.obj 0 false (.d tH n3)]]++db 17 [[.obj 0 false (.vec 35 gV Hw)],[],[]])⟩
abbrev cP.L0.Y0:=Nat×(List ir)
abbrev cP.L0.X0:=Nat×(List ir)
def cP.L0.bV:cP.L0.X0->Exit×AS:=λx=>(.exit 0,⟨([.undef,.undef,.dh (.new 21 0) 0 [] 0 0 x.1]++bG 21 []),[],(db 21 [[.obj 0 false (.vec 35 gV x.2)],[],[]])⟩)
abbrev cP.L0.X:=cP.L0.X0
abbrev cP.L0.Y:=cP.L0.Y0
def cP.L0.out:cP.L0.X->Out (Exit×AS):=λx=> .ok (cP.L0.bV x)
def cP.L0.add:cP.L0.D->cP.L0.Y->cP.L0.X:=λ(lL,t12,t13,n3,Hw) y=>y
abbrev cP.D:=iM
def cP.st:cP.D->SA:=λt=>([.d jP t],[])
abbrev cP.Y:=(List ir)
abbrev cP.X:=(List ir)
def cP.out:cP.X->aZ:=λx=>⟨.d (.slice gV) x,[],[]⟩
def cP.add:cP.D->cP.Y->cP.X:=λt y=>y
def cP.L0.aw:cP.L0.D->Prop:=λ(L,n,i,id,r)=>∃k m:Nat,k<=m/\i=k/\n=m/\m<=1000/\L=r.length/\L=k
def cP.L0.F:cP.L0.D->cP.L0.Y:=λ(L,n,i,id,r)=>(L+(n - i).toNat,r++nE id i.toNat (n - i).toNat)
def cP.aw:cP.D->Prop:=λt=>tZ t
def cP.F:cP.D->cP.Y:=λt=>gq t
def cP.G:fD:=gz (P:=Tryz.prog) [tid.sg,aD.sg]
def cP.L0.E:=cV.dp cP.L0.st cP.L0.aw cP.L0.add cP.L0.F cP.L0.out
def cP.L0.call:cP.L0.D->Option cP.L0.X:=eI cP.L0.E cP.L0.st
def cP.an:fT:= {loops:=oF [(5,{bS:=[2,3,12,13],sites:=[3,21],nB:=[⟨2,[],21,145⟩]})],outs:=oE [(5,{bS:=[2],sites:=[21]},{bS:=[2]})],jw:=pL [(5,cP.L0.E)],res:=[some (.slice gV)]}
def cP.A:= @dq Tryz.prog cP.G cP.an 0 Tryz.f54 _ cP.st
abbrev cP.Ok:=dr @cP.A cP.aw cP.add cP.F cP.out
def cP.L0.R:= @dn Tryz.prog cP.G cP.an 0 Tryz.f54 0 _ cP.L0.st
abbrev cP.L0.Ok:=gw Tryz.prog cP.G cP.an 0 Tryz.f54 0 cP.L0.st cP.L0.aw cP.L0.add cP.L0.F cP.L0.out
theorem cP.L0.run:cl cP.L0.call cP.L0.aw cP.L0.add cP.L0.F:=gT (gS [.n,.d ti,.d ti,.d tB,.d (.slice gV)] λ_=>by kernel_rfl)
theorem cP.L0.aI:jk @cP.L0.R cP.L0.st cP.L0.aw cP.L0.add cP.L0.F cP.L0.bV cP.L0.Ok:=jm
theorem cP.L0.step{R:Type}(lL:Nat)(t12:Int)(t13:Int)(n3:Bs)(Hw:(List ir))(kn:AS->Option R)(kx:Exit->AS->Option R):cP.L0.R (lL,t12,t13,n3,Hw) kn kx=
  aJ ((jK t13 t12)) (
   aJ (decide (lL<=(List.length Hw))) (
   aJ (fk (lL+1) 40) (
   kn (cP.L0.st ((lL+1),t12,(bO .i64 t13 (1:Int)),n3,((List.take lL Hw)++ [(n3,(t13,()))])))) none) none) (
   kx (cP.L0.bV (lL,Hw)).1 (cP.L0.bV (lL,Hw)).2):=by kernel_rfl
theorem cP.eq{R:Type}(t:iM)(k:aZ->Option R):cP.A t k=
  aj (tid.call t) λx1=>
  aj (aD.call t) λx2=>
  aJ ((!x2)) (
   k (cP.out ([]:List ir))) (
   aj (cP.L0.call (0,(((List.length t.2.1):Nat):Int),(0:Int),x1,([]:List ir))) λx3=>
   aJ (decide (0=0/\(0+x3.1)<=(List.length x3.2))) (
   k (cP.out (cut x3.2 0 x3.1))) none):=by kernel_rfl
theorem LJ(id:List Int)(k n:Nat):(nE id k n).length=n:=by simp[nE]
theorem Jf(id:List Int)(k n:Nat):nE id k (n+1)=(id,((k:Int),()))::nE id (k+1) n:=by
 unfold nE
 rw[List.range'_succ,cG]
theorem cP.L0.ok:cP.L0.Ok:=by
 refine cP.L0.aI (λ(L,n,i,id,r)=>(n - i).toNat) ?_
 rintro⟨L,n,i,id,r⟩ ⟨k,m,hk,rfl,rfl,hm,rfl,Xn⟩
 have Xn:r.length=k:=Xn
 by_cases h:k < m
 ·left
  have e1:((m:Int) - (k:Int)).toNat=(m - (k+1))+1:=by omega
  have e2:((m:Int) - ((k+1:Nat):Int)).toNat=m - (k+1):=by omega
  refine⟨(r.length+1,(m:Int),((k+1:Nat):Int),id,r++ [(id,((k:Int),()))]),⟨k+1,m,by omega,rfl,rfl,hm,by rw[ae];rfl,by show r.length+1=_;omega⟩,by show((m:Int) - ((k+1:Nat):Int)).toNat < ((m:Int) - (k:Int)).toNat;omega,?_,λkn kx=> ?_⟩
  ·simp only[cP.L0.add,cP.L0.F,e1,e2,aa,Jf,bR,eS]
   rw[show r.length+1+(m - (k+1))=r.length+(m - (k+1)+1) by omega]
  ·rw[cP.L0.step,bI (by omega),aO (aC _),fV (by omega) (by omega),N.pJ (by omega),cz]
   rfl
 ·right
  obtain rfl:k=m:=by omega
  intro R kn kx
  rw[cP.L0.step,bp (by omega),ai]
  simp only[cP.L0.add,cP.L0.F,Int.sub_self,bK,dE]
  rw[show nE id (k:Int).toNat 0=[] from rfl,dg]
theorem cP.ok:cP.Ok:=by
 intro t hv
 have hv:tZ t:=hv
 rw[cP.eq,tid.run (d:=t) hv,aD.run (d:=t) hv.1]
 simp only[ab,tid.add,tid.F,aD.add,aD.F,cP.add,cP.F,gq]
 cases jV:jQ t
 ·rfl
 ·obtain⟨⟨_,a2,a3,_⟩,b1,b2⟩:=pH jV
  have hl:=LJ (mD t) 0 t.2.1.length
  rw[cP.L0.run (d:=(0,t.2.1.length,0,mD t,[])) ⟨0,t.2.1.length,bm _,rfl,rfl,by omega,rfl,rfl⟩]
  simp only[bY,ai,if_true,ab,cP.L0.add,cP.L0.F,oc,aa,bK,bu,bl]
  rw[aO ⟨by trivial,by rw[hl];exact aC _⟩,ah,iV hl]
def cP.E:=Entry.dp [some jP] cP.st cP.aw cP.add cP.F cP.out
def cP.call:cP.D->Option cP.X:=cj cP.E cP.st
theorem cP.run:cl cP.call cP.aw cP.add cP.F:=dw (du [.d jP] λ_=>by kernel_rfl)
def cP.sg:SG Tryz.prog:=⟨54,aP,cP.E,.fn 1 (by kernel_rfl) cP.ok (And.intro (.dp cP.L0.ok (by kernel_rfl)) trivial)⟩
abbrev js.D:=(List kX)
def js.st:js.D->SA:=λsv=>([.d (.slice kj) sv],[])
abbrev js.Y:=Nat×(List kX)
abbrev js.X:=Nat×(List kX)
def js.out:js.X->aZ:=λx=>⟨.dh (.new 0 0) 0 [] 0 0 x.1,[],[.obj 0 false (.vec 93 kj x.2)]⟩
def js.add:js.D->js.Y->js.X:=λsv y=>y
def js.aw:js.D->Prop:=λl=>l.length<=1000000
def js.F:js.D->js.Y:=λl=>(l.length,l)
def js.G:fD:=gz (P:=Tryz.prog) []
def js.an:fT:= {da:=[5],nB:=[⟨2,[],5,59⟩]}
def js.A:= @dq Tryz.prog js.G js.an 0 Tryz.f139 _ js.st
abbrev js.Ok:=dr @js.A js.aw js.add js.F js.out
theorem js.eq{R:Type}(sv:(List kX))(k:aZ->Option R):js.A sv k=
  aJ (decide (0 < (List.length sv))) (
   aJ (fk (0+(List.length sv)) 80) (
   k (js.out ((0+(List.length sv)),((List.take 0 (List.replicate 0 (((List.replicate 32 (0:Int)),((0:Int),())),(((0:Int),(([]:List Sg),((0:Int),()))),()))))++sv)))) none) (
   nd (
    k (js.out (0,([]:List kX)))) (
    aJ (fk (0+(List.length sv)) 80) (
    k (js.out ((0+(List.length sv)),((List.take 0 (List.replicate 0 (((List.replicate 32 (0:Int)),((0:Int),())),(((0:Int),(([]:List Sg),((0:Int),()))),()))))++sv)))) none)):=by kernel_rfl
theorem js.ok:js.Ok:=by
 intro l hl
 have hl:l.length<=1000000:=hl
 have hr:fk l.length 80=true:=fV (by omega) (by omega)
 rw[js.eq]
 simp only[bl,hr,ah,jA,bu,js.add,js.F]
 by_cases h:0 < l.length
 ·simp only[aO h,ah]
 ·have:l=[]:=df (by omega)
  subst this
  simp only[bJ,wX,cR (nk 0),ai]
def js.E:=Entry.dp [some (.slice kj)] js.st js.aw js.add js.F js.out
def js.call:js.D->Option js.X:=cj js.E js.st
theorem js.run:cl js.call js.aw js.add js.F:=dw (du [.d (.slice kj)] λ_=>by kernel_rfl)
def js.sg:SG Tryz.prog:=⟨139,aP,js.E,.fn 0 (by kernel_rfl) js.ok trivial⟩
abbrev fW.D:=(List kF)
def fW.st:fW.D->SA:=λsv=>([.d (.slice lg) sv],[])
abbrev fW.Y:=Nat×(List kF)
abbrev fW.X:=Nat×(List kF)
def fW.out:fW.X->aZ:=λx=>⟨.dh (.new 0 0) 0 [] 0 0 x.1,[],[.obj 0 false (.vec 100 lg x.2)]⟩
def fW.add:fW.D->fW.Y->fW.X:=λsv y=>y
def fW.aw:fW.D->Prop:=λl=>l.length<=1000000
def fW.F:fW.D->fW.Y:=λl=>(l.length,l)
def fW.G:fD:=gz (P:=Tryz.prog) []
def fW.an:fT:= {da:=[5],nB:=[⟨2,[],5,60⟩]}
def fW.A:= @dq Tryz.prog fW.G fW.an 0 Tryz.f140 _ fW.st
abbrev fW.Ok:=dr @fW.A fW.aw fW.add fW.F fW.out
theorem fW.eq{R:Type}(sv:(List kF))(k:aZ->Option R):fW.A sv k=
  aJ (decide (0 < (List.length sv))) (
   aJ (fk (0+(List.length sv)) 32) (
   k (fW.out ((0+(List.length sv)),((List.take 0 (List.replicate 0 ((0:Int),((([]:List qy),()),()))))++sv)))) none) (
   nd (
    k (fW.out (0,([]:List kF)))) (
    aJ (fk (0+(List.length sv)) 32) (
    k (fW.out ((0+(List.length sv)),((List.take 0 (List.replicate 0 ((0:Int),((([]:List qy),()),()))))++sv)))) none)):=by kernel_rfl
theorem fW.ok:fW.Ok:=by
 intro l hl
 have hl:l.length<=1000000:=hl
 have hr:fk l.length 32=true:=fV (by omega) (by omega)
 rw[fW.eq]
 simp only[bl,hr,ah,jA,bu,fW.add,fW.F]
 by_cases h:0 < l.length
 ·simp only[aO h,ah]
 ·have:l=[]:=df (by omega)
  subst this
  simp only[bJ,wX,cR (nk 0),ai]
def fW.E:=Entry.dp [some (.slice lg)] fW.st fW.aw fW.add fW.F fW.out
def fW.call:fW.D->Option fW.X:=cj fW.E fW.st
theorem fW.run:cl fW.call fW.aw fW.add fW.F:=dw (du [.d (.slice lg)] λ_=>by kernel_rfl)
def fW.sg:SG Tryz.prog:=⟨140,aP,fW.E,.fn 0 (by kernel_rfl) fW.ok trivial⟩
abbrev ja.D:=(List qy)
def ja.st:ja.D->SA:=λsv=>([.d (.slice pT) sv],[])
abbrev ja.Y:=Nat×(List qy)
abbrev ja.X:=Nat×(List qy)
def ja.out:ja.X->aZ:=λx=>⟨.dh (.new 0 0) 0 [] 0 0 x.1,[],[.obj 0 false (.vec 58 pT x.2)]⟩
def ja.add:ja.D->ja.Y->ja.X:=λsv y=>y
def ja.aw:ja.D->Prop:=λl=>l.length<=1000000
def ja.F:ja.D->ja.Y:=λl=>(l.length,l)
def ja.G:fD:=gz (P:=Tryz.prog) []
def ja.an:fT:= {da:=[5],nB:=[⟨2,[],5,30⟩]}
def ja.A:= @dq Tryz.prog ja.G ja.an 0 Tryz.f112 _ ja.st
abbrev ja.Ok:=dr @ja.A ja.aw ja.add ja.F ja.out
theorem ja.eq{R:Type}(sv:(List qy))(k:aZ->Option R):ja.A sv k=
  aJ (decide (0 < (List.length sv))) (
   aJ (fk (0+(List.length sv)) 48) (
   k (ja.out ((0+(List.length sv)),((List.take 0 (List.replicate 0 (([]:List Int),((0:Int),((0:Int),((0:Int),()))))))++sv)))) none) (
   nd (
    k (ja.out (0,([]:List qy)))) (
    aJ (fk (0+(List.length sv)) 48) (
    k (ja.out ((0+(List.length sv)),((List.take 0 (List.replicate 0 (([]:List Int),((0:Int),((0:Int),((0:Int),()))))))++sv)))) none)):=by kernel_rfl
theorem ja.ok:ja.Ok:=by
 intro l hl
 have hl:l.length<=1000000:=hl
 have hr:fk l.length 48=true:=fV (by omega) (by omega)
 rw[ja.eq]
 simp only[bl,hr,ah,jA,bu,ja.add,ja.F]
 by_cases h:0 < l.length
 ·simp only[aO h,ah]
 ·have:l=[]:=df (by omega)
  subst this
  simp only[bJ,wX,cR (nk 0),ai]
def ja.E:=Entry.dp [some (.slice pT)] ja.st ja.aw ja.add ja.F ja.out
def ja.call:ja.D->Option ja.X:=cj ja.E ja.st
theorem ja.run:cl ja.call ja.aw ja.add ja.F:=dw (du [.d (.slice pT)] λ_=>by kernel_rfl)
def ja.sg:SG Tryz.prog:=⟨112,aP,ja.E,.fn 0 (by kernel_rfl) ja.ok trivial⟩
abbrev fX.D:=(List Sg)
def fX.st:fX.D->SA:=λsv=>([.d (.slice Ap) sv],[])
abbrev fX.Y:=(List Sg)
abbrev fX.X:=(List Sg)
def fX.out:fX.X->aZ:=λx=>⟨.d (.slice Ap) x,[],[]⟩
def fX.add:fX.D->fX.Y->fX.X:=λsv y=>y
def fX.aw:fX.D->Prop:=λl=>l.length<=1000000
def fX.F:fX.D->fX.Y:=λl=>l
def fX.G:fD:=gz (P:=Tryz.prog) []
def fX.an:fT:= {da:=[5],res:=[some (.slice Ap)]}
def fX.A:= @dq Tryz.prog fX.G fX.an 0 Tryz.f141 _ fX.st
abbrev fX.Ok:=dr @fX.A fX.aw fX.add fX.F fX.out
theorem fX.eq{R:Type}(sv:(List Sg))(k:aZ->Option R):fX.A sv k=
  aJ (decide (0 < (List.length sv))) (
   aJ (fk (0+(List.length sv)) 16) (
   aJ (decide (0=0/\(0+(0+(List.length sv)))<=(List.length ((List.take 0 (List.replicate 0 ((0:Int),((0:Int),()))))++sv)))) (
   k (fX.out (cut ((List.take 0 (List.replicate 0 ((0:Int),((0:Int),()))))++sv) 0 (0+(List.length sv))))) none) none) (
   nd (
    k (fX.out ([]:List Sg))) (
    aJ (fk (0+(List.length sv)) 16) (
    aJ (decide (0=0/\(0+(0+(List.length sv)))<=(List.length ((List.take 0 (List.replicate 0 ((0:Int),((0:Int),()))))++sv)))) (
    k (fX.out (cut ((List.take 0 (List.replicate 0 ((0:Int),((0:Int),()))))++sv) 0 (0+(List.length sv))))) none) none)):=by kernel_rfl
theorem fX.ok:fX.Ok:=by
 intro l hl
 have hl:l.length<=1000000:=hl
 have hr:fk l.length 16=true:=fV (by omega) (by omega)
 rw[fX.eq]
 simp only[bl,hr,ah,jA,bu,aC,and_self,decide_true,iV,fX.add,fX.F]
 by_cases h:0 < l.length
 ·simp only[aO h,ah]
 ·have:l=[]:=df (by omega)
  subst this
  simp only[bJ,wX,cR (nk 0),ai]
def fX.E:=Entry.dp [some (.slice Ap)] fX.st fX.aw fX.add fX.F fX.out
def fX.call:fX.D->Option fX.X:=cj fX.E fX.st
theorem fX.run:cl fX.call fX.aw fX.add fX.F:=dw (du [.d (.slice Ap)] λ_=>by kernel_rfl)
def fX.sg:SG Tryz.prog:=⟨141,aP,fX.E,.fn 0 (by kernel_rfl) fX.ok trivial⟩
abbrev aq.L0.D:=Int×Int×Nat×Nat×(Int×Unit)×(Int×Unit)×(List kX)×(List kF)
def aq.L0.st:aq.L0.D->AS:=λ(t17,t18,DW,ri,n1,n2,n9,CK)=>⟨([.undef,.ptr (.new 1 0) 0 [] 0,.ptr (.new 2 0) 0 [] 0]++bG 14 ([.d ti t17,.d ti t18]++bG 56 [])),[],([[],[.obj 0 false (.pr (.dh (.new 9 0) 0 [] 0 0 DW) (.pr (.dh (.new 12 0) 0 [] 0 0 ri) (.d (.pair ti .unit) n1)))],[.obj 0 false (.pr (.eV) (.pr (.eV) (.d (.pair ti .unit) n2)))]]++db 6 ([[.obj 0 false (.vec 93 kj n9)],[],[],[.obj 0 false (.vec 100 lg CK)]]++db 62 []))⟩
abbrev aq.L0.Y0:=(List kX)
abbrev aq.L0.X0:=(Nat×Nat×(Int×Unit)×(Int×Unit)×(List kF))×((List kX))
def aq.L0.bV:aq.L0.X0->Exit×AS:=λx=>(.exit 0,⟨([.undef,.ptr (.new 1 0) 0 [] 0,.ptr (.new 2 0) 0 [] 0]++bG 72 []),[],([[],[.obj 0 false (.pr (.dh (.new 9 0) 0 [] 0 0 x.1.1) (.pr (.dh (.new 12 0) 0 [] 0 0 x.1.2.1) (.d (.pair ti .unit) x.1.2.2.1)))],[.obj 0 false (.pr (.eV) (.pr (.eV) (.d (.pair ti .unit) x.1.2.2.2.1)))]]++db 6 ([[.obj 0 false (.vec 93 kj x.2)],[],[],[.obj 0 false (.vec 100 lg x.1.2.2.2.2)]]++db 62 []))⟩)
abbrev aq.L0.X:=aq.L0.X0
abbrev aq.L0.Y:=aq.L0.Y0
def aq.L0.out:aq.L0.X->Out (Exit×AS):=λx=> .ok (aq.L0.bV x)
def aq.L0.add:aq.L0.D->aq.L0.Y->aq.L0.X:=λ(t17,t18,DW,ri,n1,n2,n9,CK) y=>((DW,ri,n1,n2,CK),y)
abbrev aq.L1.D:=Int×Int×Nat×Nat×(Int×Unit)×(Int×Unit)×(List kX)×(List kF)
def aq.L1.st:aq.L1.D->AS:=λ(t38,t39,sK,rj,xU,lS,o5,qi)=>⟨([.undef,.ptr (.new 1 0) 0 [] 0,.ptr (.new 2 0) 0 [] 0]++bG 35 ([.d ti t38,.d ti t39]++bG 35 [])),[],([[],[.obj 0 false (.pr (.dh (.new 9 0) 0 [] 0 0 sK) (.pr (.dh (.new 12 0) 0 [] 0 0 rj) (.d (.pair ti .unit) xU)))],[.obj 0 false (.pr (.eV) (.pr (.eV) (.d (.pair ti .unit) lS)))]]++db 6 ([[.obj 0 false (.vec 93 kj o5)],[],[],[.obj 0 false (.vec 100 lg qi)]]++db 62 []))⟩
abbrev aq.L1.Y0:=Nat×Nat×(Int×Unit)×(Int×Unit)×(List kX)×(List kF)
abbrev aq.L1.X0:=Nat×Nat×(Int×Unit)×(Int×Unit)×(List kX)×(List kF)
def aq.L1.bV:aq.L1.X0->Exit×AS:=λx=>(.exit 2,⟨([.undef,.ptr (.new 1 0) 0 [] 0,.ptr (.new 2 0) 0 [] 0]++bG 72 []),[],([[],[.obj 0 false (.pr (.dh (.new 9 0) 0 [] 0 0 x.1) (.pr (.dh (.new 12 0) 0 [] 0 0 x.2.1) (.d (.pair ti .unit) x.2.2.1)))],[.obj 0 false (.pr (.eV) (.pr (.eV) (.d (.pair ti .unit) x.2.2.2.1)))]]++db 6 ([[.obj 0 false (.vec 93 kj x.2.2.2.2.1)],[],[],[.obj 0 false (.vec 100 lg x.2.2.2.2.2)]]++db 62 []))⟩)
abbrev aq.L1.X:=aq.L1.X0
abbrev aq.L1.Y:=aq.L1.Y0
def aq.L1.out:aq.L1.X->Out (Exit×AS):=λx=> .ok (aq.L1.bV x)
def aq.L1.add:aq.L1.D->aq.L1.Y->aq.L1.X:=λ(t38,t39,sK,rj,xU,lS,o5,qi) y=>y
abbrev aq.L2.D:=Int×Nat×Int×Int×Int×Int×Nat×Nat×(Int×Unit)×(Int×Unit)×(List kX)×(List kF)×(List qy)
def aq.L2.st:aq.L2.D->AS:=λ(kv,lL,rE,rF,t51,t52,rk,rn,wj,rp,wk,rh,uF)=>⟨([.undef,.ptr (.new 1 0) 0 [] 0,.ptr (.new 2 0) 0 [] 0,.undef,.d ti kv,.dh (.new 49 0) 0 [] 0 0 lL]++bG 32 ([.d ti rE,.d ti rF]++bG 11 ([.d ti t51,.d ti t52]++bG 22 []))),[],([[],[.obj 0 false (.pr (.dh (.new 9 0) 0 [] 0 0 rk) (.pr (.dh (.new 12 0) 0 [] 0 0 rn) (.d (.pair ti .unit) wj)))],[.obj 0 false (.pr (.eV) (.pr (.eV) (.d (.pair ti .unit) rp)))]]++db 6 ([[.obj 0 false (.vec 93 kj wk)],[],[],[.obj 0 false (.vec 100 lg rh)]]++db 36 ([[.obj 0 false (.vec 58 pT uF)]]++db 25 [])))⟩
abbrev aq.L2.Y0:=(List qy)×(List qy)
abbrev aq.L2.X0:=(Int×Int×Int×Nat×Nat×(Int×Unit)×(Int×Unit)×(List kX)×(List kF))×((List qy)×(List qy))
def aq.L2.bV:aq.L2.X0->Exit×AS:=λx=>(.exit 4,⟨([.undef,.ptr (.new 1 0) 0 [] 0,.ptr (.new 2 0) 0 [] 0,.undef,.d ti x.1.1,.d (.slice pT) x.2.1]++bG 32 ([.d ti x.1.2.1,.d ti x.1.2.2.1]++bG 35 [])),[],([[],[.obj 0 false (.pr (.dh (.new 9 0) 0 [] 0 0 x.1.2.2.2.1) (.pr (.dh (.new 12 0) 0 [] 0 0 x.1.2.2.2.2.1) (.d (.pair ti .unit) x.1.2.2.2.2.2.1)))],[.obj 0 false (.pr (.eV) (.pr (.eV) (.d (.pair ti .unit) x.1.2.2.2.2.2.2.1)))]]++db 6 ([[.obj 0 false (.vec 93 kj x.1.2.2.2.2.2.2.2.1)],[],[],[.obj 0 false (.vec 100 lg x.1.2.2.2.2.2.2.2.2)]]++db 36 ([[.obj 0 true (.vec 58 pT x.2.2)]]++db 25 [])))⟩)
abbrev aq.L2.X:=aq.L2.X0
abbrev aq.L2.Y:=aq.L2.Y0
def aq.L2.out:aq.L2.X->Out (Exit×AS):=λx=> .ok (aq.L2.bV x)
def aq.L2.add:aq.L2.D->aq.L2.Y->aq.L2.X:=λ(kv,lL,rE,rF,t51,t52,rk,rn,wj,rp,wk,rh,uF) y=>((kv,rE,rF,rk,rn,wj,rp,wk,rh),y)
abbrev aq.D:=iM
def aq.st:aq.D->SA:=λt=>([.d jP t],[])
abbrev aq.Y:=Nat×((List kF)×(Int×Unit))×(List kX)
abbrev aq.X:=Nat×((List kF)×(Int×Unit))×(List kX)
def aq.out:aq.X->aZ:=λx=>⟨.pr (.dh (.new 0 0) 0 [] 0 0 x.1) (.d (.pair (.slice lg) (.pair ti .unit)) x.2.1),[],[.obj 0 false (.vec 93 kj x.2.2)]⟩
def aq.add:aq.D->aq.Y->aq.X:=λt y=>y
def aq.L0.aw:aq.L0.D->Prop:=λ(m,i,L,L2,u,v,l,os)=>(l.length<=1000/\∀x∈l,x.2.1.2.1.length<=1000000)/\∃k:Nat,k<=l.length/\i=k/\m=l.length/\L=l.length
def aq.L0.F:aq.L0.D->aq.L0.Y:=λ(m,i,L,L2,u,v,l,os)=>l
def aq.L2.aw:aq.L2.D->Prop:=λ(kv,L,m1,i1,m,i,L5,L6,u,v,ls,os,bs)=>(bs.length<=1000/\∀x∈bs,x.1.length<=1000000)/\∃k:Nat,k<=bs.length/\i=k/\m=bs.length/\L=bs.length
def aq.L2.F:aq.L2.D->aq.L2.Y:=λ(kv,L,m1,i1,m,i,L5,L6,u,v,ls,os,bs)=>(bs,bs)
def aq.L1.aw:aq.L1.D->Prop:=λ(m,i,L3,L,u,v,ls,os)=>(os.length<=1000/\∀x∈os,x.2.1.1.length<=1000/\∀b∈x.2.1.1,b.1.length<=1000000)/\∃k:Nat,k<=os.length/\i=k/\m=os.length/\L=os.length
def aq.L1.F:aq.L1.D->aq.L1.Y:=λ(m,i,L3,L,u,v,ls,os)=>(L3,L,u,v,ls,os)
def aq.aw:aq.D->Prop:=λt=>jQ t=true
def aq.F:aq.D->aq.Y:=λt=>(t.1.length,(t.2.1,t.2.2),t.1)
def aq.G:fD:=gz (P:=Tryz.prog) [js.sg,fW.sg,fX.sg,ja.sg,dT.sg]
def aq.L0.E:=cV.dp aq.L0.st aq.L0.aw aq.L0.add aq.L0.F aq.L0.out
def aq.L0.call:aq.L0.D->Option aq.L0.X:=eI aq.L0.E aq.L0.st
def aq.L1.E:=cV.dp aq.L1.st aq.L1.aw aq.L1.add aq.L1.F aq.L1.out
def aq.L1.call:aq.L1.D->Option aq.L1.X:=eI aq.L1.E aq.L1.st
def aq.L2.E:=cV.dp aq.L2.st aq.L2.aw aq.L2.add aq.L2.F aq.L2.out
def aq.L2.call:aq.L2.D->Option aq.L2.X:=eI aq.L2.E aq.L2.st
def aq.an:fT:= {da:=[1],loops:=oF [(3,{bS:=[1,2,17,18],sites:=[1,2,9,12]}),(8,{bS:=[1,2,38,39],sites:=[1,2,9,12]}),(12,{bS:=[1,2,4,5,38,39,51,52],sites:=[1,2,9,12,49]})],outs:=oE [(3,{bS:=[1,2],sites:=[1,2,9,12]},{bS:=[2]}),(8,{bS:=[1,2],sites:=[1,2,9,12]},{bS:=[2]}),(12,{bS:=[1,2,4,5,38,39],sites:=[1,2,9,12,49],data:=[(5,(.slice pT))]},{bS:=[2]})],jw:=pL [(3,aq.L0.E),(8,aq.L1.E),(12,aq.L2.E)],Fo:=[⟨2,[.snd,.fst],(.slice lg)⟩]}
def aq.A:= @dq Tryz.prog aq.G aq.an 0 Tryz.f128 _ aq.st
abbrev aq.Ok:=dr @aq.A aq.aw aq.add aq.F aq.out
def aq.L0.R:= @dn Tryz.prog aq.G aq.an 0 Tryz.f128 0 _ aq.L0.st
abbrev aq.L0.Ok:=gw Tryz.prog aq.G aq.an 0 Tryz.f128 0 aq.L0.st aq.L0.aw aq.L0.add aq.L0.F aq.L0.out
def aq.L1.R:= @dn Tryz.prog aq.G aq.an 0 Tryz.f128 1 _ aq.L1.st
abbrev aq.L1.Ok:=gw Tryz.prog aq.G aq.an 0 Tryz.f128 1 aq.L1.st aq.L1.aw aq.L1.add aq.L1.F aq.L1.out
def aq.L2.R:= @dn Tryz.prog aq.G aq.an 0 Tryz.f128 2 _ aq.L2.st
abbrev aq.L2.Ok:=gw Tryz.prog aq.G aq.an 0 Tryz.f128 2 aq.L2.st aq.L2.aw aq.L2.add aq.L2.F aq.L2.out
theorem aq.L0.run:cl aq.L0.call aq.L0.aw aq.L0.add aq.L0.F:=gT (gS [.d ti,.d ti,.n,.n,.d (.pair ti .unit),.d (.pair ti .unit),.d (.slice kj),.d (.slice lg)] λ_=>by kernel_rfl)
theorem aq.L0.aI:jk @aq.L0.R aq.L0.st aq.L0.aw aq.L0.add aq.L0.F aq.L0.bV aq.L0.Ok:=jm
theorem aq.L0.step{R:Type}(t17:Int)(t18:Int)(DW:Nat)(ri:Nat)(n1:(Int×Unit))(n2:(Int×Unit))(n9:(List kX))(CK:(List kF))(kn:AS->Option R)(kx:Exit->AS->Option R):aq.L0.R (t17,t18,DW,ri,n1,n2,n9,CK) kn kx=
  aJ ((jK t18 t17)) (
   aJ (fp t18 ((DW:Nat):Int)) (
   aJ (decide ((0+(Int.toNat t18)) < (List.length n9))) (
   aJ (decide ((((0+(Int.toNat t18))*36)+34)=(((0+((Int.toNat t18)*36))+33)+1))) (
   aj (fX.call (nth kj n9 (0+(Int.toNat t18))).2.1.2.1) λx1=>
   aJ (fp t18 ((DW:Nat):Int)) (
   aJ (decide ((0+(Int.toNat t18)) < (List.length n9))) (
   aJ (decide ((((0+(Int.toNat t18))*36)+34)=(((0+((Int.toNat t18)*36))+33)+1))) (
   aJ (decide ((0+(Int.toNat t18)) < (List.length n9))) (
   kn (aq.L0.st (t17,(bO .i64 t18 (1:Int)),DW,ri,n1,n2,(List.set n9 (0+(Int.toNat t18)) ((nth kj n9 (0+(Int.toNat t18))).1,(((nth kj n9 (0+(Int.toNat t18))).2.1.1,(x1,(nth kj n9 (0+(Int.toNat t18))).2.1.2.2)),(nth kj n9 (0+(Int.toNat t18))).2.2))),CK))) none) none) none) none) none) none) none) (
   kx (aq.L0.bV ((DW,ri,n1,n2,CK),n9)).1 (aq.L0.bV ((DW,ri,n1,n2,CK),n9)).2):=by kernel_rfl
theorem aq.L1.run:cl aq.L1.call aq.L1.aw aq.L1.add aq.L1.F:=gT (gS [.d ti,.d ti,.n,.n,.d (.pair ti .unit),.d (.pair ti .unit),.d (.slice kj),.d (.slice lg)] λ_=>by kernel_rfl)
theorem aq.L1.aI:jk @aq.L1.R aq.L1.st aq.L1.aw aq.L1.add aq.L1.F aq.L1.bV aq.L1.Ok:=jm
theorem aq.L1.step{R:Type}(t38:Int)(t39:Int)(sK:Nat)(rj:Nat)(xU:(Int×Unit))(lS:(Int×Unit))(o5:(List kX))(qi:(List kF))(kn:AS->Option R)(kx:Exit->AS->Option R):aq.L1.R (t38,t39,sK,rj,xU,lS,o5,qi) kn kx=
  aJ ((jK t39 t38)) (
   aJ (fp t39 ((rj:Nat):Int)) (
   aJ (decide ((0+(Int.toNat t39)) < (List.length qi))) (
   aJ (decide ((((0+(Int.toNat t39))*2)+1)=(((0+((Int.toNat t39)*2))+1)+0))) (
   aj (ja.call (nth lg qi (0+(Int.toNat t39))).2.1.1) λx1=>
   aj (aq.L2.call (t39,x1.1,t38,t39,((x1.1:Nat):Int),(0:Int),sK,rj,xU,lS,o5,qi,x1.2)) λx2=>
   aJ (fp x2.1.1 ((x2.1.2.2.2.2.1:Nat):Int)) (
   aJ (decide ((0+(Int.toNat x2.1.1)) < (List.length x2.1.2.2.2.2.2.2.2.2))) (
   aJ (decide ((((0+(Int.toNat x2.1.1))*2)+1)=(((0+((Int.toNat x2.1.1)*2))+1)+0))) (
   aJ (decide ((0+(Int.toNat x2.1.1)) < (List.length x2.1.2.2.2.2.2.2.2.2))) (
   kn (aq.L1.st (x2.1.2.1,(bO .i64 x2.1.2.2.1 (1:Int)),x2.1.2.2.2.1,x2.1.2.2.2.2.1,x2.1.2.2.2.2.2.1,x2.1.2.2.2.2.2.2.1,x2.1.2.2.2.2.2.2.2.1,(List.set x2.1.2.2.2.2.2.2.2.2 (0+(Int.toNat x2.1.1)) ((nth lg x2.1.2.2.2.2.2.2.2.2 (0+(Int.toNat x2.1.1))).1,((x2.2.1,(nth lg x2.1.2.2.2.2.2.2.2.2 (0+(Int.toNat x2.1.1))).2.1.2),(nth lg x2.1.2.2.2.2.2.2.2.2 (0+(Int.toNat x2.1.1))).2.2)))))) none) none) none) none) none) none) none) (
   kx (aq.L1.bV (sK,rj,xU,lS,o5,qi)).1 (aq.L1.bV (sK,rj,xU,lS,o5,qi)).2):=by kernel_rfl
theorem aq.L2.run:cl aq.L2.call aq.L2.aw aq.L2.add aq.L2.F:=gT (gS [.d ti,.n,.d ti,.d ti,.d ti,.d ti,.n,.n,.d (.pair ti .unit),.d (.pair ti .unit),.d (.slice kj),.d (.slice lg),.d (.slice pT)] λ_=>by kernel_rfl)
theorem aq.L2.aI:jk @aq.L2.R aq.L2.st aq.L2.aw aq.L2.add aq.L2.F aq.L2.bV aq.L2.Ok:=jm
theorem aq.L2.step{R:Type}(kv:Int)(lL:Nat)(rE:Int)(rF:Int)(t51:Int)(t52:Int)(rk:Nat)(rn:Nat)(wj:(Int×Unit))(rp:(Int×Unit))(wk:(List kX))(rh:(List kF))(uF:(List qy))(kn:AS->Option R)(kx:Exit->AS->Option R):aq.L2.R (kv,lL,rE,rF,t51,t52,rk,rn,wj,rp,wk,rh,uF) kn kx=
  aJ ((jK t52 t51)) (
   aJ (fp t52 ((lL:Nat):Int)) (
   aJ (decide ((0+(Int.toNat t52)) < (List.length uF))) (
   aJ (decide ((((0+(Int.toNat t52))*4)+0)=((0+((Int.toNat t52)*4))+0))) (
   aj (dT.call (nth pT uF (0+(Int.toNat t52))).1) λx1=>
   aJ (fp t52 ((lL:Nat):Int)) (
   aJ (decide ((0+(Int.toNat t52)) < (List.length uF))) (
   aJ (decide ((((0+(Int.toNat t52))*4)+0)=((0+((Int.toNat t52)*4))+0))) (
   aJ (decide ((0+(Int.toNat t52)) < (List.length uF))) (
   kn (aq.L2.st (kv,lL,rE,rF,t51,(bO .i64 t52 (1:Int)),rk,rn,wj,rp,wk,rh,(List.set uF (0+(Int.toNat t52)) (x1,(nth pT uF (0+(Int.toNat t52))).2))))) none) none) none) none) none) none) none) (
   aJ (decide (0=0/\(0+lL)<=(List.length uF))) (
   kx (aq.L2.bV ((kv,rE,rF,rk,rn,wj,rp,wk,rh),((cut uF 0 lL),uF))).1 (aq.L2.bV ((kv,rE,rF,rk,rn,wj,rp,wk,rh),((cut uF 0 lL),uF))).2) none):=by kernel_rfl
theorem aq.eq{R:Type}(t:iM)(k:aZ->Option R):aq.A t k=
 aj (js.call t.1) λx1=>
 aj (fW.call t.2.1) λx2=>
 aj (aq.L0.call (((x1.1:Nat):Int),(0:Int),x1.1,x2.1,t.2.2,((0:Int),()),x1.2,x2.2)) λx4=>
 aj (aq.L1.call (((x4.1.2.1:Nat):Int),(0:Int),x4.1.1,x4.1.2.1,x4.1.2.2.1,x4.1.2.2.2.1,x4.2,x4.1.2.2.2.2)) λx8=>
 aJ (decide (0=0/\(0+x8.2.1)<=(List.length x8.2.2.2.2.2))) (
 k (aq.out (x8.1,((cut x8.2.2.2.2.2 0 x8.2.1),x8.2.2.1),x8.2.2.2.2.1))) none:=by kernel_rfl
theorem aq.L0.ok:aq.L0.Ok:=by
 refine aq.L0.aI (λ(m,i,L,L2,u,v,l,os)=>l.length - Int.toNat i) ?_
 rintro⟨m,i,L,L2,u,v,l,os⟩ ⟨⟨hlen,hx⟩,k,hk,rfl,rfl,rfl⟩
 have hlen:l.length<=1000:=hlen
 have hk:k<=l.length:=hk
 by_cases h:k < l.length
 ·left
  have n1:nth kj l k=l[k]:=dP (t:=kj) h
  have hs:l.set k l[k]=l:=gr h
  have e:=hx _ (List.getElem_mem h)
  refine⟨((l.length:Int),((k+1:Nat):Int),l.length,L2,u,v,l,os),⟨⟨hlen,hx⟩,k+1,by omega,rfl,rfl,rfl⟩,by simp only[aa];omega,rfl,λkn kx=> ?_⟩
  rw[aq.L0.step,bI (by omega),bF (by omega) (by omega)]
  simp only[aa,bl,dE,gY,Nat.reduceAdd,ah,aO h,decide_true,n1]
  rw[fX.run (d:=l[k].2.1.2.1) e]
  simp only[ab,fX.add,fX.F]
  rw[N.pJ (by omega)]
  exact congrArg (λz=>kn (aq.L0.st (_,_,_,_,_,_,z,_))) hs
 ·right
  obtain rfl:k=l.length:=by omega
  intro R kn kx
  rw[aq.L0.step,bp (by omega),ai]
  rfl
theorem aq.L2.ok:aq.L2.Ok:=by
 refine aq.L2.aI (λ(kv,L,m1,i1,m,i,L5,L6,u,v,ls,os,bs)=>bs.length - Int.toNat i) ?_
 rintro⟨kv,L,m1,i1,m,i,L5,L6,u,v,ls,os,bs⟩ ⟨⟨hlen,hx⟩,k,hk,rfl,rfl,rfl⟩
 have hlen:bs.length<=1000:=hlen
 have hk:k<=bs.length:=hk
 by_cases h:k < bs.length
 ·left
  have n1:nth pT bs k=bs[k]:=dP (t:=pT) h
  have hs:bs.set k bs[k]=bs:=gr h
  have e:=hx _ (List.getElem_mem h)
  refine⟨(kv,bs.length,m1,i1,(bs.length:Int),((k+1:Nat):Int),L5,L6,u,v,ls,os,bs),⟨⟨hlen,hx⟩,k+1,by omega,rfl,rfl,rfl⟩,by simp only[aa];omega,rfl,λkn kx=> ?_⟩
  rw[aq.L2.step,bI (by omega),bF (by omega) (by omega)]
  simp only[aa,bl,dE,gY,Nat.reduceAdd,ah,aO h,decide_true,n1]
  rw[dT.run (d:=bs[k].1) e]
  simp only[ab,dT.add,dT.F]
  rw[N.pJ (by omega)]
  exact congrArg (λz=>kn (aq.L2.st (_,_,_,_,_,_,_,_,_,_,_,_,z))) hs
 ·right
  obtain rfl:k=bs.length:=by omega
  intro R kn kx
  rw[aq.L2.step,bp (by omega),ai]
  simp only[bl,aC,and_self,decide_true,ah,iV]
  rfl
theorem aq.L1.ok:aq.L1.Ok:=by
 refine aq.L1.aI (λ(m,i,L3,L,u,v,ls,os)=>os.length - Int.toNat i) ?_
 rintro⟨m,i,L3,L,u,v,ls,os⟩ ⟨⟨hlen,hx⟩,k,hk,rfl,rfl,rfl⟩
 have hlen:os.length<=1000:=hlen
 have hk:k<=os.length:=hk
 by_cases h:k < os.length
 ·left
  have n1:nth lg os k=os[k]:=dP (t:=lg) h
  have hs:os.set k os[k]=os:=gr h
  have e:=hx _ (List.getElem_mem h)
  refine⟨((os.length:Int),((k+1:Nat):Int),L3,os.length,u,v,ls,os),⟨⟨hlen,hx⟩,k+1,by omega,rfl,rfl,rfl⟩,by simp only[aa];omega,rfl,λkn kx=> ?_⟩
  rw[aq.L1.step,bI (by omega),bF (by omega) (by omega)]
  simp only[aa,bl,dE,gY,Nat.reduceAdd,ah,aO h,decide_true,n1]
  rw[ja.run (d:=os[k].2.1.1) (by show os[k].2.1.1.length<=_;have:=e.1;omega)]
  simp only[ab,ja.add,ja.F]
  rw[aq.L2.run (d:=((k:Int),os[k].2.1.1.length,(os.length:Int),(k:Int),(os[k].2.1.1.length:Int),0,L3,os.length,u,v,ls,os,os[k].2.1.1)) ⟨e,0,bm _,rfl,rfl,rfl⟩]
  simp only[ab,aq.L2.add,aq.L2.F,aa,n1,ah,aO h,bF (show(0:Int)<=(k:Int) by omega) (show(k:Int) < (os.length:Int) by omega)]
  rw[N.pJ (by omega)]
  exact congrArg (λz=>kn (aq.L1.st (_,_,_,_,_,_,_,z))) hs
 ·right
  obtain rfl:k=os.length:=by omega
  intro R kn kx
  rw[aq.L1.step,bp (by omega),ai]
  rfl
theorem zX{l:Lk}(h:kW l=true):l.1.length<=4/\∀b∈l.1,b.1.length<=12:=by
 unfold kW at h
 simp only[ak,fy,decide_eq_true_eq]at h
 refine⟨h.2.2,λb hb=> ?_⟩
 have:=h.1 b hb
 unfold rK at this
 simp only[ak,decide_eq_true_eq]at this
 exact this.1
theorem aq.ok:aq.Ok:=by
 rintro⟨is,os,nt,u⟩ jV
 obtain⟨⟨_,a2,a3,_⟩,b1,b2⟩:=pH jV
 have a2:is.length<=64:=a2
 have a3:os.length<=64:=a3
 rw[aq.eq,js.run (d:=is) (by show is.length<=_;omega),fW.run (d:=os) (by show os.length<=_;omega)]
 simp only[ab,js.add,js.F,fW.add,fW.F]
 rw[aq.L0.run (d:=(is.length,0,is.length,os.length,(nt,u),(0,()),is,os)) ⟨⟨by show is.length<=_;omega,λx hx=>by have:=(FI (uq _ _ b1 x hx)).2.2.2.2;omega⟩,0,bm _,rfl,rfl,rfl⟩]
 simp only[ab,aq.L0.add,aq.L0.F]
 rw[aq.L1.run (d:=(os.length,0,is.length,os.length,(nt,u),(0,()),is,os)) ⟨⟨by show os.length<=_;omega,λx hx=>by
  have:=zX (pF _ _ b2 x hx).2
  exact⟨by omega,λb hb=>by have:=this.2 b hb;omega⟩⟩,0,bm _,rfl,rfl,rfl⟩]
 simp only[ab,aq.L1.add,aq.L1.F,bl,aC,and_self,decide_true,ah,iV]
 rfl
def aq.E:=Entry.dp [some jP] aq.st aq.aw aq.add aq.F aq.out
def aq.call:aq.D->Option aq.X:=cj aq.E aq.st
theorem aq.run:cl aq.call aq.aw aq.add aq.F:=dw (du [.d jP] λ_=>by kernel_rfl)
def aq.sg:SG Tryz.prog:=⟨128,aP,aq.E,.fn 3 (by kernel_rfl) aq.ok (And.intro (.dp aq.L0.ok (by kernel_rfl)) (And.intro (.dp aq.L1.ok (by kernel_rfl)) (And.intro (.dp aq.L2.ok (by kernel_rfl)) trivial)))⟩
theorem wq(x:Int)(m:Int):∀k:Nat,(x%m)^k%m=x^k%m
 | 0=>by rw[oa,oa]
 |k+1=>by rw[mM,mM,iQ,wq x m k,iW _ (mL m),<-iQ]
theorem Sy(a:Int)(k:Nat):(a*a)^k=a^(2*k):=by
 rw[Int.pow_mul,mM,mM,oa,Int.one_mul]
theorem N3:∀(f:Nat) (a:Int) (n:Nat) (out:Int),n < 2^f->Pn out->Gq f a n out=out*a^n%4611686018427377339
 | 0,a,n,out,h,ho=>by
  obtain rfl:n=0:=by omega
  rw[sO,oa,Int.mul_one,jq ho.1 ho.2]
 |f+1,a,n,out,h,ho=>by
  have e:(2:Nat)^(f+1)=2^f*2:=Nat.pow_succ 2 f
  rw[Gq]
  split
  ·rename_i h0
   subst h0
   rw[oa,Int.mul_one,jq ho.1 ho.2]
  ·have hp:Pn (if n%2=1 then mG out a else out):=by
    split
    ·exact qh _ _
    ·exact ho
   rw[N3 f _ _ _ (by omega) hp,iQ]
   have e1:(mG a a)^(n / 2)%4611686018427377339=a^(2*(n / 2))%4611686018427377339:=by
    unfold mG
    rw[wq,Sy]
   have e2:(if n%2=1 then mG out a else out)%4611686018427377339=(out*a^(n%2))%4611686018427377339:=by
    split
    ·rename_i h1
     rw[h1,mM,oa,Int.one_mul]
     exact iW _ (mL _)
    ·have h1:n%2=0:=by omega
     rw[h1,oa,Int.mul_one]
   rw[e1,e2,<-iQ,Int.mul_assoc,<-Int.pow_add]
   have e3:n%2+2*(n / 2)=n:=by omega
   rw[e3]
theorem A0(a:Int)(n:Nat)(h:n < 18446744073709551616):pw a n=a^n%4611686018427377339:=by
 unfold pw
 rw[N3 64 a n 1 h ⟨by omega,by omega⟩,Int.one_mul]
theorem one_pow(k:Nat):(1:Int)^k=1:=Int.one_pow
theorem N5(a:Int)(k q:Nat)(hk:k < 18446744073709551616)(hq:q < 18446744073709551616)(h:pw a q=1):pw (pw a k) q=1:=by
 rw[A0 _ _ hq]at h
 rw[A0 _ _ hq,A0 _ _ hk,wq,<-Int.pow_mul,Nat.mul_comm,Int.pow_mul,<-wq,h,one_pow]
 rfl
theorem Ex:pw 4 2305843009213688669=1:=by decide+kernel
theorem LV:pw 1 2305843009213688669=1:=by decide+kernel
theorem Ko:oS 4=true:=by rw[oS,Ex];rfl
theorem wT:oS 1=true:=by rw[oS,LV];rfl
theorem PN:HE 1=1:=by
 have e:pw 1 2305843009213688668=1:=by decide+kernel
 rw[HE,tk,wT]
 exact e
theorem F1{a:Int}(h:Pn a)(q:Nat)(hq:0 < q)(Bj:q < 18446744073709551616)(hp:pw a q=1):0 < a:=by
 rcases Int.lt_or_eq_of_le h.1 with h0 | h0
 ·exact h0
 ·subst h0
  rw[A0 _ _ Bj,Int.zero_pow (by omega)]at hp
  cases hp
theorem Nq{a:Int}(h:Pn a)(hp:pw a 2305843009213688669=1):oS a=true:=by
 have h0:=F1 h 2305843009213688669 (by decide) (by decide) hp
 rw[oS,hp,decide_eq_true ⟨h0,h.2⟩];rfl
theorem zS{a:Int}(h:oS a=true):pw a 2305843009213688669=1/\Pn a:=by
 rw[oS,ak,decide_eq_true_eq,decide_eq_true_eq]at h
 exact⟨h.2,by omega,h.1.2⟩
theorem R3{a:Int}(h:oS a=true)(k:Nat)(hk:k < 18446744073709551616):oS (pw a k)=true:=
 Nq (EO _ _) (N5 a k _ hk (by decide) (zS h).1)
theorem Nr(a:Int):oS (tk a)=true:=by
 unfold tk
 cases h:oS a
 ·exact wT
 ·exact h
theorem LB(p k:Int):oS (oO p k)=true:=R3 (Nr p) _ (by omega)
theorem zh{a:Int}(h:oS a=true):tk a=a:=by rw[tk,h];rfl
theorem v7(k:Int):oS (fw k)=true:=LB 4 k
theorem Hu{a:Int}(h:Pn a):mG a 1=a:=by rw[mG,Int.mul_one,jq h.1 h.2]
def pm(m:Nat):Nat->Nat->Nat->Nat->Nat
 | 0,_,_,out=>out%m
 |f+1,a,n,out=>if n=0 then out%m else pm m f (a*a%m) (n / 2) (if n%2=1 then out*a%m else out)
theorem QS(m:Nat):∀(f a n out:Nat),n < 2^f->pm m f a n out=out*a^n%m
 | 0,a,n,out,h=>by
  obtain rfl:n=0:=by omega
  rw[pm,Nat.pow_zero,kb]
 |f+1,a,n,out,h=>by
  have e:(2:Nat)^(f+1)=2^f*2:=Nat.pow_succ (n:=2) (m:=f)
  rw[pm]
  split
  ·rename_i h0
   subst h0
   rw[Nat.pow_zero,kb]
  ·rw[QS m f _ _ _ (by omega),lW]
   have e1:(a*a%m)^(n / 2)%m=a^(2*(n / 2))%m:=by
    rw[<-Nat.pow_mod,Nat.pow_mul,Nat.pow_two]
   have e2:(if n%2=1 then out*a%m else out)%m=(out*a^(n%2))%m:=by
    split
    ·rename_i h1
     rw[h1,Nat.pow_one,Nat.mod_mod]
    ·have h1:n%2=0:=by omega
     rw[h1,Nat.pow_zero,kb]
   rw[e1,e2,<-lW,Nat.mul_assoc,<-nK]
   have e3:n%2+2*(n / 2)=n:=by omega
   rw[e3]
theorem Ni:∀(r q:Nat) (f:Nat->Nat),(∀i,i < q->f i < r)->(∀i j,i < j->j < q->f i≠f j)->q<=r
 | 0,q,f,h,_=>by
  rcases mO q with h0 | h0
  ·omega
  ·exact absurd (h 0 h0) (Nat.not_lt_zero _)
 |r+1,q,f,h,g=>by
  by_cases hx:∃i,i < q/\f i=r
  ·obtain⟨i,hi,hr⟩:=hx
   have e:=Ni r (q - 1) (λj=>if j < i then f j else f (j+1)) (λj hj=>by
    by_cases h1:j < i
    ·have a:=h j (by omega)
     have b:=g j i h1 hi
     simp only[h1,if_true]
     omega
    ·have a:=h (j+1) (by omega)
     have b:=g i (j+1) (by omega) (by omega)
     simp only[h1,if_false]
     omega) (λj k Yf hk=>by
    by_cases h1:j < i
    ·by_cases h2:k < i
     ·simp only[h1,h2,if_true]
      exact g j k Yf (by omega)
     ·simp only[h1,h2,if_true,if_false]
      exact g j (k+1) (by omega) (by omega)
    ·have h2:¬k < i:=by omega
     simp only[h1,h2,if_false]
     exact g (j+1) (k+1) (by omega) (by omega))
   omega
  ·have e:=Ni r q f (λi hi=>by
    have a:=h i hi
    have b:f i≠r:=λx=>hx ⟨i,hi,x⟩
    omega) g
   omega
theorem Kz(a m:Nat)(h1:1%m=1):∀i j:Nat,a^i%m=1->a^j%m=1->a^(Nat.gcd i j)%m=1:=by
 intro i
 induction i using Nat.strongRecOn with
 |ind i ih=>
  intro j hi hj
  rcases mO i with h0 | h0
  ·subst h0;rw[Nat.gcd_zero_left];exact hj
  ·rw[Nat.gcd_rec]
   refine ih (j%i) (Nat.mod_lt _ h0) i ?_ hi
   have e:a^j=(a^i)^(j / i)*a^(j%i):=by rw[<-Nat.pow_mul,<-nK,Nat.div_add_mod]
   rw[e,lW,Nat.pow_mod,hi,Nat.one_pow,h1,kK,Nat.mod_mod]at hj
   exact hj
def Mz(n:Nat):Prop:=∀d,d∣n->d=1\/d=n
theorem KA{n k:Nat}(h:Mz n)(h0:0 < k)(hk:k < n):Nat.gcd k n=1:=by
 rcases h _ (Nat.gcd_dvd_right k n) with h1 | h1
 ·exact h1
 ·have:=Nat.le_of_dvd h0 (Nat.gcd_dvd_left k n);omega
theorem HH{n:Nat}(hn:1 < n)(h:∀r,1 < r->r*r<=n->¬r∣n):Mz n:=by
 intro d hd
 obtain⟨e,he⟩:=hd
 have Zn:0 < d:=Nat.pos_of_ne_zero (by intro x;rw[x,mP]at he;omega)
 have Gm:0 < e:=Nat.pos_of_ne_zero (by intro x;rw[x,Nat.mul_zero]at he;omega)
 by_cases h1:d=1
 ·exact .inl h1
 by_cases h2:e=1
 ·right;rw[he,h2,kb]
 exfalso
 rcases Nat.le_total d e with hle | hle
 ·exact h d (by omega) (by rw[he];exact Nat.mul_le_mul_left d hle) ⟨e,he⟩
 ·exact h e (by omega) (by rw[he];exact eR e hle) ⟨d,by rw[he,Nat.mul_comm]⟩
theorem Sk{n q b:Nat}(hn:1 < n)(hq:Mz q)(S3:1 < q)(Xm:n < q*q)(hb:b^q%n=1)(hg:Nat.gcd (b - 1) n=1)(SR:0 < b):Mz n:=by
 refine HH hn λr hr YC Xo=> ?_
 have W3:1%r=1:=oq hr
 have W5:b^q%r=1:=by
  have:=Nat.mod_mod_of_dvd (b^q) Xo
  rw[<-this,hb,W3]
 have lh:b%r≠1:=by
  intro hx
  have hd:r∣b - 1:=by have e:=Nat.dvd_sub_mod (n:=r) b;rw[hx]at e;exact e
  have:=Nat.dvd_gcd hd Xo
  rw[hg]at this
  have:=Nat.le_of_dvd (by omega) this
  omega
 have key:q<=r:=by
  refine Ni r q (λi=>b^i%r) (λi _=>Nat.mod_lt _ (by omega)) λi j T0 hj he=> ?_
  have e1:b^(j - i)%r=1:=by
   have x1:b^(q - i)*b^i%r=b^(q - i)*b^j%r:=by rw[lW,he,<-lW]
   rw[<-nK,<-nK,show q - i+i=q by omega,show q - i+j=q+(j - i) by omega,nK,lW,W5,kK,Nat.mod_mod]at x1
   exact x1.symm
  have e2:=Kz b r W3 (j - i) q e1 W5
  rw[KA hq (by omega) (by omega),Nat.pow_one]at e2
  exact lh e2
 have:q*q<=r*r:=Nat.mul_le_mul key key
 omega
def NN(n:Nat):Nat->Bool
 | 0=>true
 |k+1=>n%(k+2) !=0 && NN n k
theorem HG(n:Nat):∀k,NN n k=true->∀d,1 < d->d<=k+1->¬d∣n
 | 0,_,d,h1,h2=>by omega
 |k+1,h,d,h1,h2=>by
  rw[NN,ak]at h
  by_cases hd:d=k+2
  ·intro hx
   have:=Nat.mod_eq_zero_of_dvd hx
   rw[hd]at this
   rw[this]at h
   exact absurd h.1 (by decide)
  ·exact HG n k h.2 d h1 (by omega)
theorem WD:Mz 7930907:=by
 refine HH (by decide) λr hr YC=>HG 7930907 2820 (by decide+kernel) r hr ?_
 apply Nat.le_of_not_lt
 intro h
 have:2822*2822<=r*r:=Nat.mul_le_mul (by omega) (by omega)
 omega
theorem yU{n q:Nat}(a e:Nat)(hq:Mz q)(S3:1 < q)(hn:1 < n)(Xm:n < q*q)(he:e < 2^64)(Bj:q < 2^64)(h1:pm n 64 (pm n 64 a e 1) q 1=1)(h2:Nat.gcd (pm n 64 a e 1 - 1) n=1)(h3:0 < pm n 64 a e 1):Mz n:=by
 generalize pm n 64 a e 1=b at*
 rw[QS _ _ _ _ _ Bj,kK]at h1
 exact Sk hn hq S3 Xm h1 h2 h3
theorem WC:Mz 11864636873:=yU (q:=7930907) 2 1496 WD (by decide) (by decide) (by decide) (by decide) (by decide) (by decide+kernel) (by decide+kernel) (by decide+kernel)
theorem WB:Mz 1732236983459:=yU (q:=11864636873) 2 146 WC (by decide) (by decide) (by decide) (by decide) (by decide) (by decide+kernel) (by decide+kernel) (by decide+kernel)
theorem WA:Mz 249442125618097:=yU (q:=1732236983459) 2 144 WB (by decide) (by decide) (by decide) (by decide) (by decide) (by decide+kernel) (by decide+kernel) (by decide+kernel)
theorem WE:Mz 2305843009213688669:=yU (q:=249442125618097) 2 9244 WA (by decide) (by decide) (by decide) (by decide) (by decide) (by decide+kernel) (by decide+kernel) (by decide+kernel)
def gP(n:Nat):Int:=((4^n%4611686018427377339:Nat):Int)
theorem D2(a m q:Nat)(h1:1%m=1)(h:a^q%m=1)(n:Nat):a^(n%q)%m=a^n%m:=by
 have e:a^n=(a^q)^(n / q)*a^(n%q):=by rw[<-Nat.pow_mul,<-nK,Nat.div_add_mod]
 rw[e,lW,Nat.pow_mod (a^q),h,Nat.one_pow,h1,kK,Nat.mod_mod]
theorem Qg:∀q:Nat,q=2305843009213688669->4^q%4611686018427377339=1:=by
 intro q hq
 have h:=Ex
 rw[A0 _ _ (by decide)]at h
 rw[<-hq]at h
 have e:(((4^q%4611686018427377339:Nat)):Int)=1:=by
  rw[nZ,Int.natCast_pow]
  exact h
 omega
theorem zI(n:Nat):gP (n%2305843009213688669)=gP n:=by
 unfold gP
 obtain⟨q,hq⟩:∃q:Nat,q=2305843009213688669:=⟨_,rfl⟩
 rw[<-hq,D2 4 4611686018427377339 q (by decide) (Qg q hq)]
theorem Tt(n:Nat)(h:n < 18446744073709551616):pw 4 n=gP n:=by
 rw[A0 _ _ h]
 unfold gP
 rw[nZ,Int.natCast_pow]
 rfl
theorem M7(k:Int)(h:0<=k):(k%2305843009213688669).toNat=k.toNat%2305843009213688669:=by omega
theorem td(k:Int)(h:0<=k):fw k=gP k.toNat:=by
 show pw (tk 4) _=_
 rw[zh Ko,Tt _ (by omega),M7 k h,zI]
theorem Pd(n:Nat):gP n=fw n:=by rw[td _ (by omega),aa]
theorem xK(n:Nat):oS (gP n)=true:=by rw[Pd];exact v7 _
theorem xM(a b:Nat):mG (gP a) (gP b)=gP (a+b):=by
 unfold mG gP
 rw[<-pa,nK]
 have e:(4611686018427377339:Int)=((4611686018427377339:Nat):Int):=rfl
 rw[e,<-nZ,<-lW]
theorem Cd(a:Nat)(c:Int)(h:0<=c):oO (gP a) c=gP (a*c.toNat):=by
 show pw (tk (gP a)) _=_
 rw[zh (xK a),A0 _ _ (by omega),M7 c h]
 obtain⟨b,hb⟩:∃b:Nat,b=c.toNat:=⟨_,rfl⟩
 rw[<-hb]
 obtain⟨d,hd⟩:∃d:Nat,d=b%2305843009213688669:=⟨_,rfl⟩
 have hx:gP (a*b)=gP (a*d):=by rw[<-zI (a*b),<-zI (a*d),lW a b,lW a d,hd,Nat.mod_mod]
 rw[hx,<-hd]
 unfold gP
 have e:(4611686018427377339:Int)=((4611686018427377339:Nat):Int):=rfl
 rw[e,<-Int.natCast_pow,<-nZ,<-Nat.pow_mod,<-Nat.pow_mul]
theorem Fz:gP 0=1:=by decide
theorem Qf{n:Nat}(h:0 < n)(hn:n < 2305843009213688669):gP n≠1:=by
 intro he
 unfold gP at he
 have he:4^n%4611686018427377339=1:=by omega
 obtain⟨q,hq⟩:∃q:Nat,q=2305843009213688669:=⟨_,rfl⟩
 have e:=Kz 4 4611686018427377339 (by decide) n q he (Qg q hq)
 rw[KA (by rw[hq];exact WE) h (by omega)]at e
 exact absurd e (by decide)
theorem P2(k:Int)(m:List Int)(h0:0 < k)(hq:k < 2305843009213688669):sE (fw k) m 1 (jO k m)=true:=by
 obtain⟨kn,hk⟩:∃kn:Nat,kn=k.toNat:=⟨_,rfl⟩
 have hb:fw k=gP kn:=by rw[hk];exact td k (by omega)
 have hn:=lZ (Di Jj [mu k,m])
 unfold jO NO
 rw[if_pos ⟨hq,by omega⟩]
 obtain⟨n,lh⟩:∃n,kS (Di Jj [mu k,m])=n:=⟨_,rfl⟩
 rw[lh]at hn ⊢
 unfold Fg
 have hr:vg [fw n,1]=gP n.toNat:=by
  show mG (mG 1 (tk (fw n))) (tk 1)=_
  rw[zh (v7 n),zh wT,Hu (qh _ _),td n (by omega),<-Fz,xM,bl]
 rw[hr,hb]
 have hc:=BX (gP n.toNat) (gP kn) m
 obtain⟨c,RD⟩:∃c,vl (gP n.toNat) (gP kn) m=c:=⟨_,rfl⟩
 rw[RD]at hc ⊢
 have ha:=yp n (yM c k)
 have h1:=hc.1
 have h2:=ha.1
 have h3:=ha.2
 unfold sE
 rw[if_neg (by
  intro h
  rcases h with h | h | h | h | h
  ·exact Qf (by omega) (by omega) h
  ·rw[xK]at h;cases h
  ·rw[wT]at h;cases h
  ·have h:oS (gP n.toNat)=false:=h
   rw[xK]at h;cases h
  ·exact h h3)]
 have e:fw (BP n (yM c k))=vg [gP n.toNat,oO (gP kn) c,HE 1]:=by
  show _=mG (mG (mG 1 (tk (gP n.toNat))) (tk (oO (gP kn) c))) (tk (HE 1))
  rw[PN,zh wT,Hu (qh _ _),zh (xK _),Cd _ _ h1,zh (xK _)]
  rw[show(mG 1 (gP n.toNat))=gP n.toNat by rw[<-Fz,xM,bl]]
  rw[xM,td _ h2]
  have hx:(BP n (yM c k)).toNat=(n.toNat+kn*c.toNat)%2305843009213688669:=by
   unfold BP yM LU
   have g1:c%2305843009213688669=c:=jq h1 hc.2
   have g2:k%2305843009213688669=k:=jq (by omega) hq
   have g3:n%2305843009213688669=n:=jq (by omega) hn.2
   rw[g1,g2,g3,iW _ (mL _)]
   have g4:((kn*c.toNat:Nat):Int)=c*k:=by
    rw[pa,hk,Int.toNat_of_nonneg (by omega),Int.toNat_of_nonneg h1,Int.mul_comm]
   have g5:0<=c*k:=by rw[<-g4];exact pj _
   obtain⟨z,hz⟩:∃z,c*k=z:=⟨_,rfl⟩
   rw[hz]at g4 g5 ⊢
   obtain⟨zn,YM⟩:∃zn,kn*c.toNat=zn:=⟨_,rfl⟩
   rw[YM]at g4 ⊢
   omega
  rw[hx,zI]
 show decide (fw (BP n (yM c k))=vg [gP n.toNat,oO (gP kn) (vl (gP n.toNat) (gP kn) m),HE 1])=true
 rw[RD]
 exact decide_eq_true e
def tN{α:Type}(p:α->Bool):List α->Int->Int⊕Unit
 |[],_=> .inr ()
 |x::xs,i=>if p x then .inl i else tN p xs (i+1)
def DO{α:Type}(p:α->Bool)(l:List α):Int:=match tN p l 0 with | .inl i=>i | .inr _=> -1
theorem G5{α:Type}(p:α->Bool):∀(l:List α) (i:Int),0<=i->(match tN p l i with | .inl i=>decide (i>=0) | .inr _=>false)=l.any p
 |[],_,_=>rfl
 |x::l,i,h=>by
  rw[tN,nj]
  cases hp:p x
  ·simp only[cF,if_false,Bool.false_or]
   exact G5 p l (i+1) (by omega)
  ·simp[h]
theorem yD{α:Type}(p:α->Bool)(l:List α):qz (DO p l) 0=l.any p:=by
 have:=G5 p l 0 (by omega)
 unfold DO qz
 cases h:tN p l 0
 ·rw[h]at this;exact this
 ·rw[h]at this;rw[<-this];rfl
def xz(k:Int):Bool:=decide (¬(k < 2305843009213688669/\k≠0))
def sR(t:iM)(i br:Int)(ks:List Int):Bool:=jQ t && (decide (0<=i/\i < t.1.length/\0<=br/\br < 4/\ks.length<=12) && !(ks.any xz))
def pS(t:iM)(i br:Int)(ks:List Int)(sc:Int):iM×Int:=
 if sR t i br ks then((t.1.set i.toNat ((nth kj t.1 i.toNat).1,(br,ks.map (λk=>jO k (mD t)),sc,()),()),t.2),0) else(([],[],0,()),1)
theorem Dq{t:iM}:Sm (mD t):=by
 unfold mD
 split
 ·exact Df _ _
 ·exact⟨by rw[eo],λx hx=>by obtain rfl:=(pk.1 hx).2;exact⟨by decide,by decide⟩⟩
abbrev gX.D:=Int
def gX.st:gX.D->SA:=λkv=>([.d tu kv],[])
abbrev gX.Y:=Bool
abbrev gX.X:=Bool
def gX.out:gX.X->aZ:=λx=>⟨.d .bool x,[],[]⟩
def gX.add:gX.D->gX.Y->gX.X:=λkv y=>y
def gX.aw:gX.D->Prop:=λ_=>True
def gX.F:gX.D->gX.Y:=λk=>xz k
def gX.G:fD:=gz (P:=Tryz.prog) [eO.sg]
def gX.an:fT:= {}
def gX.A:= @dq Tryz.prog gX.G gX.an 0 Tryz.f125 _ gX.st
abbrev gX.Ok:=dr @gX.A gX.aw gX.add gX.F gX.out
theorem gX.eq{R:Type}(kv:Int)(k:aZ->Option R):gX.A kv k=
  aJ ((nX kv (0:Int))) (
   k (gX.out true)) (
   aj (eO.call kv) λx1=>
   k (gX.out (!x1))):=by kernel_rfl
theorem gX.ok:gX.Ok:=by
 intro(k:Int) _
 rw[gX.eq,eO.run (d:=k) trivial]
 simp only[gX.add,gX.F,xz,ab,eO.add,eO.F]
 by_cases h:k=0
 ·rw[iE h,ah,aO (by omega)]
 ·rw[fJ h,ai]
  by_cases h2:k < 2305843009213688669
  ·rw[bI h2,cR (by omega)];rfl
  ·rw[bp h2,aO (by omega)];rfl
def gX.E:=Entry.dp [some tu] gX.st gX.aw gX.add gX.F gX.out
def gX.call:gX.D->Option gX.X:=cj gX.E gX.st
theorem gX.run:cl gX.call gX.aw gX.add gX.F:=dw (du [.d tu] λ_=>by kernel_rfl)
def gX.sg:SG Tryz.prog:=⟨125,aP,gX.E,.fn 0 (by kernel_rfl) gX.ok trivial⟩
abbrev bN.L0.D:=Bs×Int×Int
def bN.L0.st:bN.L0.D->AS:=λ(ee,t7,t8)=>⟨([.d tU ee,.fn 125 (.nil)]++bG 5 ([.d ti t7,.d ti t8]++bG 10 [])),[],(List.replicate 19 [])⟩
abbrev bN.L0.Y0:=Int
abbrev bN.L0.X0:=Int
def bN.L0.bV:bN.L0.X0->Exit×AS:=λx=>(.ret,⟨(bG 4 ([.d ti x]++bG 14 [])),[],(List.replicate 19 [])⟩)
abbrev bN.L0.Y1:=Unit
abbrev bN.L0.X1:=Unit
def bN.L0.kI:bN.L0.X1->Exit×AS:=λx=>(.exit 0,⟨(bG 19 []),[],(List.replicate 19 [])⟩)
abbrev bN.L0.X:=(bN.L0.X0)⊕(bN.L0.X1)
abbrev bN.L0.Y:=(bN.L0.Y0)⊕(bN.L0.Y1)
def bN.L0.out:bN.L0.X->Out (Exit×AS):=λx=> .br x.isLeft (.get x.getLeft? λa=> .ok (bN.L0.bV a)) (.get x.getRight? λb=> .ok (bN.L0.kI b))
def bN.L0.add:bN.L0.D->bN.L0.Y->bN.L0.X:=λ(ee,t7,t8) y=>match y with | .inl y=> .inl y | .inr z=> .inr (z)
abbrev bN.D:=Bs
def bN.st:bN.D->SA:=λsv=>([.d tU sv,.fn 125 (.nil)],[])
abbrev bN.Y:=Int
abbrev bN.X:=Int
def bN.out:bN.X->aZ:=λx=>⟨.d ti x,[],[]⟩
def bN.add:bN.D->bN.Y->bN.X:=λsv y=>y
def bN.L0.aw:bN.L0.D->Prop:=λ(l,n,i)=>(∀x∈l,True)/\l.length<=1000000000/\n=l.length/\∃k:Nat,k<=l.length/\i=k
def bN.L0.F:bN.L0.D->bN.L0.Y:=λ(l,n,i)=>tN xz (l.drop i.toNat) i
def bN.aw:bN.D->Prop:=λl=>(∀x∈l,True)/\l.length<=1000000000
def bN.F:bN.D->bN.Y:=λl=>DO xz l
def bN.G:fD:=gz (P:=Tryz.prog) [gX.sg]
def bN.L0.E:=cV.dp bN.L0.st bN.L0.aw bN.L0.add bN.L0.F bN.L0.out
def bN.L0.call:bN.L0.D->Option bN.L0.X:=eI bN.L0.E bN.L0.st
def bN.an:fT:= {loops:=oF [(2,{bS:=[0,1,7,8]})],outs:=oE [(2,{},{bS:=[4]})],jw:=pL [(2,bN.L0.E)]}
def bN.A:= @dq Tryz.prog bN.G bN.an 0 Tryz.f163 _ bN.st
abbrev bN.Ok:=dr @bN.A bN.aw bN.add bN.F bN.out
def bN.L0.R:= @dn Tryz.prog bN.G bN.an 0 Tryz.f163 0 _ bN.L0.st
abbrev bN.L0.Ok:=gw Tryz.prog bN.G bN.an 0 Tryz.f163 0 bN.L0.st bN.L0.aw bN.L0.add bN.L0.F bN.L0.out
theorem bN.L0.run:cl bN.L0.call bN.L0.aw bN.L0.add bN.L0.F:=gT (gS [.d tU,.d ti,.d ti] λ_=>by kernel_rfl)
theorem bN.L0.aI:sB @bN.L0.R bN.L0.st bN.L0.aw bN.L0.add bN.L0.F bN.L0.out bN.L0.Ok:=s8
theorem bN.L0.step{R:Type}(ee:Bs)(t7:Int)(t8:Int)(kn:AS->Option R)(kx:Exit->AS->Option R):bN.L0.R (ee,t7,t8) kn kx=
  aJ ((jK t8 t7)) (
   aJ (fp t8 (((List.length ee):Nat):Int)) (
   aj (gX.call (nth tu ee (Int.toNat t8))) λx1=>
   aJ (x1) (
    kx (bN.L0.bV t8).1 (bN.L0.bV t8).2) (
    kn (bN.L0.st (ee,t7,(bO .i64 t8 (1:Int)))))) none) (
   kx (bN.L0.kI ()).1 (bN.L0.kI ()).2):=by kernel_rfl
theorem bN.eq{R:Type}(sv:Bs)(k:aZ->Option R):bN.A sv k=
  aj (bN.L0.call (sv,(((List.length sv):Nat):Int),(0:Int))) λx2=>
  aJ (x2.isLeft) (
   aj (x2.getLeft?) λa3=>
   k (bN.out a3)) (
   aj (x2.getRight?) λb4=>
   k (bN.out (-1:Int))):=by kernel_rfl
theorem bN.L0.ok:bN.L0.Ok:=by
 refine bN.L0.aI (λ(l,n,i)=>l.length - i.toNat) ?_
 rintro⟨l,n,i⟩ ⟨hl,hb,rfl,k,hk,rfl⟩
 have hb:l.length<=1000000000:=hb
 have hk:k<=l.length:=hk
 by_cases h:k < l.length
 ·have hx:=hl _ (List.getElem_mem h)
  have n1:nth tu l k=l[k]:=dP (t:=tu) h
  have hd:tN xz (l.drop k) k=if xz l[k] then .inl (k:Int) else tN xz (l.drop (k+1)) ((k+1:Nat):Int):=by rw[aA h];rfl
  have step:∀ {R:Type} (kn:AS->Option R) (kx:Exit->AS->Option R),bN.L0.R (l,(l.length:Int),(k:Int)) kn kx=aJ (xz l[k]) (kx (bN.L0.bV (k:Int)).1 (bN.L0.bV (k:Int)).2) (kn (bN.L0.st (l,(l.length:Int),((k+1:Nat):Int)))):=by
   intro R kn kx
   rw[bN.L0.step,bI (by omega),bF (by omega) (by omega),aa,n1,gX.run (d:=l[k]) hx,N.pJ (by omega)]
   rfl
  cases hp:xz l[k]
  ·left
   refine⟨(l,l.length,((k+1:Nat):Int)),⟨hl,hb,rfl,k+1,by omega,rfl⟩,by simp only[aa];omega,?_,λkn kx=> ?_⟩
   ·simp only[bN.L0.add,bN.L0.F,aa,hd,hp,cF,if_false]
   ·rw[step,hp,ai]
  ·right
   refine⟨bN.L0.bV (k:Int),?_,λkn kx=> ?_⟩
   ·simp only[bN.L0.add,bN.L0.F,aa,hd,hp,if_true]
    rfl
   ·rw[step,hp,ah]
 ·right
  obtain rfl:k=l.length:=by omega
  refine⟨bN.L0.kI (),?_,λkn kx=> ?_⟩
  ·simp only[bN.L0.add,bN.L0.F,aa,bH]
   rfl
  ·rw[bN.L0.step,bp (by omega),ai]
theorem bN.ok:bN.Ok:=by
 rintro l ⟨hl,hb⟩
 rw[bN.eq,bN.L0.run (d:=(l,l.length,0)) ⟨hl,hb,rfl,0,by omega,rfl⟩]
 simp only[ab,bN.L0.add,bN.L0.F,bK,aW,bN.add,bN.F,DO]
 cases tN xz l 0 <;> rfl
def bN.E:=Entry.dp [some tU,none] bN.st bN.aw bN.add bN.F bN.out
def bN.call:bN.D->Option bN.X:=cj bN.E bN.st
theorem bN.run:cl bN.call bN.aw bN.add bN.F:=dw (du [.d tU] λ_=>by kernel_rfl)
def bN.sg:SG Tryz.prog:=⟨163,aP,bN.E,.fn 1 (by kernel_rfl) bN.ok (And.intro (.dp bN.L0.ok (by kernel_rfl)) trivial)⟩
abbrev de.D:=Bs
def de.st:de.D->SA:=λsv=>([.d tU sv,.fn 125 (.nil)],[])
abbrev de.Y:=Bool
abbrev de.X:=Bool
def de.out:de.X->aZ:=λx=>⟨.d .bool x,[],[]⟩
def de.add:de.D->de.Y->de.X:=λsv y=>y
def de.aw:de.D->Prop:=λl=>(∀x∈l,True)/\l.length<=1000000000
def de.F:de.D->de.Y:=λl=>l.any xz
def de.G:fD:=gz (P:=Tryz.prog) [bN.sg]
def de.an:fT:= {}
def de.A:= @dq Tryz.prog de.G de.an 0 Tryz.f127 _ de.st
abbrev de.Ok:=dr @de.A de.aw de.add de.F de.out
theorem de.eq{R:Type}(sv:Bs)(k:aZ->Option R):de.A sv k=
 aj (bN.call sv) λx1=>
 k (de.out (qz x1 (0:Int))):=by kernel_rfl
theorem de.ok:de.Ok:=by
 rintro l ⟨hl,hb⟩
 rw[de.eq,bN.run (d:=l) ⟨hl,hb⟩]
 simp only[ab,bN.add,bN.F,yD]
 rfl
def de.E:=Entry.dp [some tU,none] de.st de.aw de.add de.F de.out
def de.call:de.D->Option de.X:=cj de.E de.st
theorem de.run:cl de.call de.aw de.add de.F:=dw (du [.d tU] λ_=>by kernel_rfl)
def de.sg:SG Tryz.prog:=⟨127,aP,de.E,.fn 0 (by kernel_rfl) de.ok trivial⟩
abbrev cU.L0.D:=Int×Bs×Int×Int×iM×(Int×Unit)×Int×Nat×(Int×Unit)×Bs×(List Sg)
def cU.L0.st:cU.L0.D->AS:=λ(AF,t52,t53,t54,n5,BC,Sb,CL,CM,BD,NJ)=>⟨([.undef,.d ti AF,.undef,.undef,.undef,.ptr (.new 5 0) 0 [] 0]++bG 4 ([.ptr (.new 10 0) 0 [] 0,.undef,.undef,.ptr (.new 13 0) 0 [] 0,.ptr (.new 14 0) 0 [] 0]++bG 37 ([.d tU t52,.d ti t53,.d ti t54]++bG 21 []))),[],(db 5 ([[.obj 0 false (.d jP n5)]]++db 4 ([[.obj 0 false (.pr (.eV) (.pr (.eV) (.d (.pair ti .unit) BC)))],[],[],[.obj 0 false (.pr (.d ti Sb) (.pr (.dh (.new 64 0) 0 [] 0 0 CL) (.d (.pair tu .unit) CM)))],[.obj 0 false (.d tH BD)]]++db 49 ([[.obj 0 false (.vec 131 Ap NJ)]]++db 11 []))))⟩
abbrev cU.L0.Y0:=DB×(List Sg)
abbrev cU.L0.X0:=(Int×iM×(Int×Unit))×(DB×(List Sg))
def cU.L0.bV:cU.L0.X0->Exit×AS:=λx=>(.exit 0,⟨([.undef,.d ti x.1.1,.undef,.undef,.undef,.ptr (.new 5 0) 0 [] 0]++bG 4 ([.ptr (.new 10 0) 0 [] 0,.undef,.undef,.ptr (.new 13 0) 0 [] 0]++bG 62 [])),[],(db 5 ([[.obj 0 false (.d jP x.1.2.1)]]++db 4 ([[.obj 0 false (.pr (.eV) (.pr (.eV) (.d (.pair ti .unit) x.1.2.2)))],[],[],[.obj 0 false (.d OR x.2.1)]]++db 50 ([[.obj 0 true (.vec 131 Ap x.2.2)]]++db 11 []))))⟩)
abbrev cU.L0.X:=cU.L0.X0
abbrev cU.L0.Y:=cU.L0.Y0
def cU.L0.out:cU.L0.X->Out (Exit×AS):=λx=> .ok (cU.L0.bV x)
def cU.L0.add:cU.L0.D->cU.L0.Y->cU.L0.X:=λ(AF,t52,t53,t54,n5,BC,Sb,CL,CM,BD,NJ) y=>((AF,n5,BC),y)
abbrev cU.D:=iM×Int×Int×Bs×Int
def cU.st:cU.D->SA:=λ(t,inv,branch,keys,secret)=>([.d jP t,.d ti inv,.d ti branch,.d tU keys,.d tu secret],[])
abbrev cU.Y:=iM×Int
abbrev cU.X:=iM×Int
def cU.out:cU.X->aZ:=λx=>⟨.cons (.d jP x.1) (.cons (.d ti x.2) (.nil)),[],[]⟩
def cU.add:cU.D->cU.Y->cU.X:=λ(t,inv,branch,keys,secret) y=>y
def cU.L0.aw:cU.L0.D->Prop:=λ(i0,l,n,i,t,e,br,L,sc,id,r)=>l.length<=1000/\(∀x∈l,iw x)/\Sm id/\∃k:Nat,k<=l.length/\i=k/\n=l.length/\L=r.length/\r.length<=1000+k
def cU.L0.F:cU.L0.D->cU.L0.Y:=λ(i0,l,n,i,t,e,br,L,sc,id,r)=>((br,r++(l.drop i.toNat).map (λk=>jO k id),sc),r++(l.drop i.toNat).map (λk=>jO k id))
def cU.aw:cU.D->Prop:=λ(t,i,br,ks,sc)=>tZ t/\(∀x∈ks,iw x)/\ks.length<=1000000000
def cU.F:cU.D->cU.Y:=λ(t,i,br,ks,sc)=>pS t i br ks sc
def cU.G:fD:=gz (P:=Tryz.prog) [aD.sg,jx.sg,de.sg,tid.sg,gh.sg,aq.sg]
def cU.L0.E:=cV.dp cU.L0.st cU.L0.aw cU.L0.add cU.L0.F cU.L0.out
def cU.L0.call:cU.L0.D->Option cU.L0.X:=eI cU.L0.E cU.L0.st
def cU.an:fT:= {da:=[5],loops:=oF [(7,{bS:=[1,5,10,13,14,52,53,54],sites:=[5,10,13,14,64],nB:=[⟨13,[.snd,.fst],64,89⟩]})],outs:=oE [(7,{bS:=[1,5,10,13],sites:=[5,10,13,64],Fo:=[⟨13,[.snd,.fst],(.slice Ap)⟩]},{bS:=[10,11]})],jw:=pL [(7,cU.L0.E)],res:=[some jP,none]}
def cU.A:= @dq Tryz.prog cU.G cU.an 0 Tryz.f75 _ cU.st
abbrev cU.Ok:=dr @cU.A cU.aw cU.add cU.F cU.out
def cU.L0.R:= @dn Tryz.prog cU.G cU.an 0 Tryz.f75 0 _ cU.L0.st
abbrev cU.L0.Ok:=gw Tryz.prog cU.G cU.an 0 Tryz.f75 0 cU.L0.st cU.L0.aw cU.L0.add cU.L0.F cU.L0.out
theorem cU.L0.run:cl cU.L0.call cU.L0.aw cU.L0.add cU.L0.F:=gT (gS [.d ti,.d tU,.d ti,.d ti,.d jP,.d (.pair ti .unit),.d ti,.n,.d (.pair tu .unit),.d tB,.d (.slice Ap)] λ_=>by kernel_rfl)
theorem cU.L0.aI:jk @cU.L0.R cU.L0.st cU.L0.aw cU.L0.add cU.L0.F cU.L0.bV cU.L0.Ok:=jm
theorem cU.L0.step{R:Type}(AF:Int)(t52:Bs)(t53:Int)(t54:Int)(n5:iM)(BC:(Int×Unit))(Sb:Int)(CL:Nat)(CM:(Int×Unit))(BD:Bs)(NJ:(List Sg))(kn:AS->Option R)(kx:Exit->AS->Option R):cU.L0.R (AF,t52,t53,t54,n5,BC,Sb,CL,CM,BD,NJ) kn kx=
  aJ ((jK t54 t53)) (
   aJ (fp t54 (((List.length t52):Nat):Int)) (
   aj (gh.call ((nth tu t52 (Int.toNat t54)),BD)) λx4=>
   aJ (decide (CL<=(List.length NJ))) (
   aJ (fk (CL+1) 16) (
   kn (cU.L0.st (AF,t52,t53,(bO .i64 t54 (1:Int)),n5,BC,Sb,(CL+1),CM,BD,((List.take CL NJ)++ [x4])))) none) none) none) (
   aJ (decide (0=0/\(0+CL)<=(List.length NJ))) (
   kx (cU.L0.bV ((AF,n5,BC),((Sb,((cut NJ 0 CL),CM)),NJ))).1 (cU.L0.bV ((AF,n5,BC),((Sb,((cut NJ 0 CL),CM)),NJ))).2) none):=by kernel_rfl
theorem cU.eq{R:Type}(t:iM)(inv:Int)(branch:Int)(keys:Bs)(secret:Int)(k:aZ->Option R):cU.A (t,inv,branch,keys,secret) k=
  aj (aD.call t) λzm=>
  aJ ((!zm)) (
   k (cU.out ((([]:List kX),(([]:List kF),((0:Int),()))),(1:Int)))) (
   aJ ((jK inv (0:Int))) (
    k (cU.out ((([]:List kX),(([]:List kF),((0:Int),()))),(1:Int)))) (
    aJ ((qz inv (((List.length t.1):Nat):Int))) (
     k (cU.out ((([]:List kX),(([]:List kF),((0:Int),()))),(1:Int)))) (
     aj (jx.call (branch,(([]:List Sg),(secret,())))) λBL=>
     aJ ((!BL)) (
      k (cU.out ((([]:List kX),(([]:List kF),((0:Int),()))),(1:Int)))) (
      aJ ((so (((List.length keys):Nat):Int) (12:Int))) (
       k (cU.out ((([]:List kX),(([]:List kF),((0:Int),()))),(1:Int)))) (
       aj (de.call keys) λEc=>
       aJ (Ec) (
        k (cU.out ((([]:List kX),(([]:List kF),((0:Int),()))),(1:Int)))) (
        aj (tid.call t) λJM=>
        aj (cU.L0.call (inv,keys,(((List.length keys):Nat):Int),(0:Int),t,((0:Int),()),branch,0,(secret,()),JM,([]:List Sg))) λvG=>
        aj (aq.call vG.1.2.1) λGh=>
        aJ (fp vG.1.1 ((Gh.1:Nat):Int)) (
        aJ (decide ((0+(Int.toNat vG.1.1)) < (List.length Gh.2.2))) (
        aJ (decide ((((0+(Int.toNat vG.1.1))*36)+33)=((0+((Int.toNat vG.1.1)*36))+33))) (
        aJ (decide ((0+(Int.toNat vG.1.1)) < (List.length Gh.2.2))) (
        aJ (decide (0=0/\(0+Gh.1)<=(List.length (List.set Gh.2.2 (0+(Int.toNat vG.1.1)) ((nth kj Gh.2.2 (0+(Int.toNat vG.1.1))).1,(vG.2.1,(nth kj Gh.2.2 (0+(Int.toNat vG.1.1))).2.2)))))) (
        k (cU.out (((cut (List.set Gh.2.2 (0+(Int.toNat vG.1.1)) ((nth kj Gh.2.2 (0+(Int.toNat vG.1.1))).1,(vG.2.1,(nth kj Gh.2.2 (0+(Int.toNat vG.1.1))).2.2))) 0 Gh.1),Gh.2.1),(0:Int)))) none) none) none) none) none)))))):=by kernel_rfl
theorem cU.L0.ok:cU.L0.Ok:=by
 refine cU.L0.aI (λ(i0,l,n,i,t,e,br,L,sc,id,r)=>l.length - i.toNat) ?_
 rintro⟨i0,l,n,i,t,e,br,L,sc,id,r⟩ ⟨hlen,hu,hm,k,hk,rfl,rfl,rfl,hr⟩
 have hlen:l.length<=1000:=hlen
 have hk:k<=l.length:=hk
 have hr:r.length<=1000+k:=hr
 by_cases h:k < l.length
 ·left
  have n1:nth tu l k=l[k]:=dP (t:=tu) h
  have hd:List.drop k l=l[k]::List.drop (k+1) l:=aA h
  refine⟨(i0,l,l.length,((k+1:Nat):Int),t,e,br,r.length+1,sc,id,r++ [jO l[k] id]),⟨hlen,hu,hm,k+1,by omega,rfl,rfl,by rw[ae];rfl,by rw[ae];show r.length+1<=_;omega⟩,by simp only[aa];omega,?_,λkn kx=> ?_⟩
  ·simp only[cU.L0.add,cU.L0.F,aa,hd,cG,bR,eS]
  ·rw[cU.L0.step,bI (by omega),bF (by omega) (by omega),aa,n1,gh.run (d:=(l[k],id)) ⟨hu _ (List.getElem_mem h),hm⟩]
   simp only[ah,ab,gh.add,gh.F]
   rw[aO (aC _),fV (by omega) (by omega),N.pJ (by omega),cz]
   rfl
 ·right
  obtain rfl:k=l.length:=by omega
  intro R kn kx
  rw[cU.L0.step,bp (by omega),ai]
  simp only[cU.L0.add,cU.L0.F,aa,bH,jg,dg,bl,aC,and_self,decide_true,ah,iV]
theorem cU.ok:cU.Ok:=by
 rintro⟨⟨is,os,nt,u⟩,i,br,ks,sc⟩ ⟨hv,hu,hl⟩
 have hv:tZ (is,os,nt,u):=hv
 have hl:ks.length<=1000000000:=hl
 rw[cU.eq,aD.run (d:=(is,os,nt,u)) hv.1]
 simp only[ab,aD.add,aD.F,cU.add,cU.F,pS,sR]
 rcases kE (jQ (is,os,nt,u)) with jV | jV
 rotate_left
 ·simp only[jV];rfl
 obtain⟨⟨_,a2,a3,_⟩,b1,b2⟩:=pH jV
 have a2:is.length<=64:=a2
 simp only[jV,bY,ai,cv]
 by_cases h1:i < 0
 ·rw[bI h1,ah,cR (by omega)];rfl
 rw[bp h1,ai]
 by_cases h2:i>=(is.length:Int)
 ·rw[lG h2,ah,cR (by omega)];rfl
 rw[iU h2,ai,jx.run (d:=(br,([],(sc,())))) trivial]
 simp only[ab,jx.add,jx.F,uD]
 by_cases h3:0<=br/\br < 4
 ·rw[aO h3]
  by_cases h4:ks.length > 12
  ·rw[fA (by omega),cR (p:=0<=i/\i < (is.length:Int)/\0<=br/\br < 4/\ks.length<=12) (by omega)];rfl
  ·rw[dW (by omega),aO (p:=0<=i/\i < (is.length:Int)/\0<=br/\br < 4/\ks.length<=12) (by omega),de.run (d:=ks) ⟨λ_ _=>trivial,hl⟩]
   simp only[ab,de.add,de.F]
   rcases kE (ks.any xz) with hb | hb
   rotate_left
   ·simp only[hb]
    obtain⟨k,rfl⟩:∃k:Nat,i=k:=⟨i.toNat,by omega⟩
    have hk:k < is.length:=by omega
    simp only[show(([]:List Sg).length<=12)=True from eq_true (bm _),decide_true,l9,bY,gk,ai,cv,if_true]
    rw[tid.run (d:=(is,os,nt,u)) hv]
    simp only[ab,tid.add,tid.F]
    rw[cU.L0.run (d:=((k:Int),ks,ks.length,0,(is,os,nt,u),(0,()),br,0,(sc,()),mD (is,os,nt,u),[])) ⟨by show ks.length<=_;omega,hu,Dq,0,bm _,rfl,rfl,rfl,bm _⟩]
    simp only[ab,cU.L0.add,cU.L0.F,bK,aW,bu]
    rw[aq.run (d:=(is,os,nt,u)) jV]
    simp only[ab,aq.add,aq.F,aa,bl,dE,bF (show(0:Int)<=(k:Int) by omega) (show(k:Int) < (is.length:Int) by omega),ah,aO hk,decide_true,ej,aC,and_self]
    rw[iV (by rw[ej])]
   ·simp only[hb];rfl
 ·rw[cR h3,cR (p:=0<=i/\i < (is.length:Int)/\0<=br/\br < 4/\ks.length<=12) (by omega)];rfl
def cU.E:=Entry.dp [some jP,some ti,some ti,some tU,some tu] cU.st cU.aw cU.add cU.F cU.out
def cU.call:cU.D->Option cU.X:=cj cU.E cU.st
theorem cU.run:cl cU.call cU.aw cU.add cU.F:=dw (du [.d jP,.d ti,.d ti,.d tU,.d tu] λ_=>by kernel_rfl)
def cU.sg:SG Tryz.prog:=⟨75,aP,cU.E,.fn 1 (by kernel_rfl) cU.ok (And.intro (.dp cU.L0.ok (by kernel_rfl)) trivial)⟩
abbrev wD:Ty:=(.pair lg (.pair ti .unit))
abbrev na:=(kF×(Int×Unit))
abbrev SC:Ty:=(.pair gV (.pair wD .unit))
abbrev Mx:=(ir×(na×Unit))
abbrev pG:Ty:=(.pair (.slice SC) (.pair (.slice gV) .unit))
abbrev mN:=((List Mx)×((List ir)×Unit))
abbrev kf.D:=Bs×Bs
def kf.st:kf.D->SA:=λ(a,b)=>([.d tB a,.d tB b],[])
abbrev kf.Y:=Int
abbrev kf.X:=Int
def kf.out:kf.X->aZ:=λx=>⟨.d ti x,[],[]⟩
def kf.add:kf.D->kf.Y->kf.X:=λ(a,b) y=>y
def kf.aw:kf.D->Prop:=λ_=>True
def kf.F:kf.D->kf.Y:=λ(a,b)=>IM a b
def kf.G:fD:=gz (P:=Tryz.prog) [⟨133,aP,JX.E,JX.of (fn:=Tryz.f133) (by kernel_rfl) (by kernel_rfl) (by kernel_rfl) (by kernel_rfl) (by kernel_rfl)⟩]
def kf.an:fT:= {}
def kf.A:= @dq Tryz.prog kf.G kf.an 0 Tryz.f89 _ kf.st
abbrev kf.Ok:=dr @kf.A kf.aw kf.add kf.F kf.out
theorem kf.eq{R:Type}(a:Bs)(b:Bs)(k:aZ->Option R):kf.A (a,b) k=
 aj (JX.call (a,b)) λx1=>
 k (kf.out x1):=by kernel_rfl
theorem kf.ok:kf.Ok:=by
 rintro⟨a,b⟩ _
 rw[kf.eq,JX.run]
 rfl
def kf.E:=Entry.dp [some tB,some tB] kf.st kf.aw kf.add kf.F kf.out
def kf.call:kf.D->Option kf.X:=cj kf.E kf.st
theorem kf.run:cl kf.call kf.aw kf.add kf.F:=dw (du [.d tB,.d tB] λ_=>by kernel_rfl)
def kf.sg:SG Tryz.prog:=⟨89,aP,kf.E,.fn 0 (by kernel_rfl) kf.ok trivial⟩
abbrev jL.D:=Int
def jL.st:jL.D->SA:=λx=>([.d ti x],[])
abbrev jL.Y:=Bool
abbrev jL.X:=Bool
def jL.out:jL.X->aZ:=λx=>⟨.d .bool x,[],[]⟩
def jL.add:jL.D->jL.Y->jL.X:=λx y=>y
def jL.aw:jL.D->Prop:=λ_=>True
def jL.F:jL.D->jL.Y:=λ_=>false
def jL.G:fD:=gz (P:=Tryz.prog) []
def jL.an:fT:= {}
def jL.A:= @dq Tryz.prog jL.G jL.an 0 Tryz.f132 _ jL.st
abbrev jL.Ok:=dr @jL.A jL.aw jL.add jL.F jL.out
theorem jL.eq{R:Type}(x:Int)(k:aZ->Option R):jL.A x k=
 k (jL.out (rN x x)):=by kernel_rfl
theorem jL.ok:jL.Ok:=by
 intro x _
 rw[jL.eq]
 simp only[jL.add,jL.F,gK rfl]
def jL.E:=Entry.dp [some ti] jL.st jL.aw jL.add jL.F jL.out
def jL.call:jL.D->Option jL.X:=cj jL.E jL.st
theorem jL.run:cl jL.call jL.aw jL.add jL.F:=dw (du [.d ti] λ_=>by kernel_rfl)
def jL.sg:SG Tryz.prog:=⟨132,aP,jL.E,.fn 0 (by kernel_rfl) jL.ok trivial⟩
def xc(x y:Int):Int:=if x < y then -1 else if x > y then 1 else 0
abbrev iP.D:=Int×Int
def iP.st:iP.D->SA:=λ(x,yv)=>([.d ti x,.d ti yv],[])
abbrev iP.Y:=Int
abbrev iP.X:=Int
def iP.out:iP.X->aZ:=λx=>⟨.d ti x,[],[]⟩
def iP.add:iP.D->iP.Y->iP.X:=λ(x,yv) y=>y
def iP.aw:iP.D->Prop:=λ_=>True
def iP.F:iP.D->iP.Y:=λ(x,y)=>xc x y
def iP.G:fD:=gz (P:=Tryz.prog) [jL.sg]
def iP.an:fT:= {}
def iP.A:= @dq Tryz.prog iP.G iP.an 0 Tryz.f88 _ iP.st
abbrev iP.Ok:=dr @iP.A iP.aw iP.add iP.F iP.out
theorem iP.eq{R:Type}(x:Int)(yv:Int)(k:aZ->Option R):iP.A (x,yv) k=
  aj (jL.call x) λx1=>
  aj (jL.call yv) λx2=>
  aJ (x1) (
   aJ (x2) (
    k (iP.out (0:Int))) (
    k (iP.out (-1:Int)))) (
   aJ (x2) (
    k (iP.out (1:Int))) (
    aJ ((jK x yv)) (
     k (iP.out (-1:Int))) (
     aJ ((so x yv)) (
      k (iP.out (1:Int))) (
      k (iP.out (0:Int)))))):=by kernel_rfl
theorem iP.ok:iP.Ok:=by
 rintro⟨x,y⟩ _
 rw[iP.eq,jL.run (d:=x) trivial]
 simp only[ab,jL.add,jL.F]
 rw[jL.run (d:=y) trivial]
 simp only[ab,jL.add,jL.F,ai,iP.add,iP.F,xc]
 by_cases h:x < y
 ·rw[bI h,ah,if_pos h]
 ·rw[bp h,ai,if_neg h]
  by_cases h2:x > y
  ·rw[fA h2,ah,if_pos h2]
  ·rw[dW h2,ai,if_neg h2]
def iP.E:=Entry.dp [some ti,some ti] iP.st iP.aw iP.add iP.F iP.out
def iP.call:iP.D->Option iP.X:=cj iP.E iP.st
theorem iP.run:cl iP.call iP.aw iP.add iP.F:=dw (du [.d ti,.d ti] λ_=>by kernel_rfl)
def iP.sg:SG Tryz.prog:=⟨88,aP,iP.E,.fn 0 (by kernel_rfl) iP.ok trivial⟩
abbrev iJ.L0.D:=Int×(List Int)×Int×Int
def iJ.L0.st:iJ.L0.D->AS:=λ(zero,t6,t7,t8)=>⟨([.undef,.undef,.undef,.d ti zero,.undef,.undef,.d (.slice ti) t6,.d ti t7,.d ti t8]++bG 9 []),[],(List.replicate 18 [])⟩
abbrev iJ.L0.Y0:=Int
abbrev iJ.L0.X0:=Int
def iJ.L0.bV:iJ.L0.X0->Exit×AS:=λx=>(.ret,⟨([.undef,.undef,.d ti x]++bG 15 []),[],(List.replicate 18 [])⟩)
abbrev iJ.L0.Y1:=Unit
abbrev iJ.L0.X1:=Int
def iJ.L0.kI:iJ.L0.X1->Exit×AS:=λx=>(.exit 0,⟨([.undef,.undef,.undef,.d ti x]++bG 14 []),[],(List.replicate 18 [])⟩)
abbrev iJ.L0.X:=(iJ.L0.X0)⊕(iJ.L0.X1)
abbrev iJ.L0.Y:=(iJ.L0.Y0)⊕(iJ.L0.Y1)
def iJ.L0.out:iJ.L0.X->Out (Exit×AS):=λx=> .br x.isLeft (.get x.getLeft? λa=> .ok (iJ.L0.bV a)) (.get x.getRight? λb=> .ok (iJ.L0.kI b))
def iJ.L0.add:iJ.L0.D->iJ.L0.Y->iJ.L0.X:=λ(zero,t6,t7,t8) y=>match y with | .inl y=> .inl y | .inr z=> .inr (zero)
abbrev iJ.D:=(List Int)
def iJ.st:iJ.D->SA:=λmZ=>([.d (.slice ti) mZ],[])
abbrev iJ.Y:=Int
abbrev iJ.X:=Int
def iJ.out:iJ.X->aZ:=λx=>⟨.d ti x,[],[]⟩
def iJ.add:iJ.D->iJ.Y->iJ.X:=λmZ y=>y
def NV:List Int->Int
 |[]=>0
 |x::l=>if x≠0 then x else NV l
def QP:List Int->Int⊕Unit
 |[]=> .inr ()
 |x::l=>if x≠0 then .inl x else QP l
theorem QQ:∀l:List Int,NV l=match QP l with | .inl x=>x | .inr _=>0
 |[]=>rfl
 |x::l=>by
  simp only[NV,QP]
  split
  ·rfl
  ·exact QQ l
def iJ.L0.aw:iJ.L0.D->Prop:=λ(z,l,n,i)=>z=0/\l.length<=1000000000/\n=l.length/\∃k:Nat,k<=l.length/\i=k
def iJ.L0.F:iJ.L0.D->iJ.L0.Y:=λ(z,l,n,i)=>QP (l.drop i.toNat)
def iJ.aw:iJ.D->Prop:=λl=>l.length<=1000000000
def iJ.F:iJ.D->iJ.Y:=λl=>NV l
def iJ.G:fD:=gz (P:=Tryz.prog) []
def iJ.L0.E:=cV.dp iJ.L0.st iJ.L0.aw iJ.L0.add iJ.L0.F iJ.L0.out
def iJ.L0.call:iJ.L0.D->Option iJ.L0.X:=eI iJ.L0.E iJ.L0.st
def iJ.an:fT:= {loops:=oF [(3,{bS:=[3,6,7,8]})],outs:=oE [(3,{bS:=[3]},{bS:=[2]})],jw:=pL [(3,iJ.L0.E)]}
def iJ.A:= @dq Tryz.prog iJ.G iJ.an 0 Tryz.f87 _ iJ.st
abbrev iJ.Ok:=dr @iJ.A iJ.aw iJ.add iJ.F iJ.out
def iJ.L0.R:= @dn Tryz.prog iJ.G iJ.an 0 Tryz.f87 0 _ iJ.L0.st
abbrev iJ.L0.Ok:=gw Tryz.prog iJ.G iJ.an 0 Tryz.f87 0 iJ.L0.st iJ.L0.aw iJ.L0.add iJ.L0.F iJ.L0.out
theorem iJ.L0.run:cl iJ.L0.call iJ.L0.aw iJ.L0.add iJ.L0.F:=gT (gS [.d ti,.d (.slice ti),.d ti,.d ti] λ_=>by kernel_rfl)
theorem iJ.L0.aI:sB @iJ.L0.R iJ.L0.st iJ.L0.aw iJ.L0.add iJ.L0.F iJ.L0.out iJ.L0.Ok:=s8
theorem iJ.L0.step{R:Type}(zero:Int)(t6:(List Int))(t7:Int)(t8:Int)(kn:AS->Option R)(kx:Exit->AS->Option R):iJ.L0.R (zero,t6,t7,t8) kn kx=
  aJ ((jK t8 t7)) (
   aJ (fp t8 (((List.length t6):Nat):Int)) (
   aJ ((rN (nth ti t6 (Int.toNat t8)) zero)) (
    kx (iJ.L0.bV (nth ti t6 (Int.toNat t8))).1 (iJ.L0.bV (nth ti t6 (Int.toNat t8))).2) (
    kn (iJ.L0.st (zero,t6,t7,(bO .i64 t8 (1:Int)))))) none) (
   kx (iJ.L0.kI zero).1 (iJ.L0.kI zero).2):=by kernel_rfl
theorem iJ.eq{R:Type}(mZ:(List Int))(k:aZ->Option R):iJ.A mZ k=
  aj (iJ.L0.call ((0:Int),mZ,(((List.length mZ):Nat):Int),(0:Int))) λx1=>
  aJ (x1.isLeft) (
   aj (x1.getLeft?) λa2=>
   k (iJ.out a2)) (
   aj (x1.getRight?) λb3=>
   k (iJ.out b3)):=by kernel_rfl
theorem iJ.L0.ok:iJ.L0.Ok:=by
 refine iJ.L0.aI (λ(z,l,n,i)=>l.length - i.toNat) ?_
 rintro⟨z,l,n,i⟩ ⟨rfl,hl,rfl,k,hk,rfl⟩
 by_cases h:k < l.length
 ·have hd:l.drop k=l[k]::l.drop (k+1):=aA h
  have n1:nth ti l k=l[k]:=dP (t:=ti) h
  by_cases h2:l[k]≠0
  ·right
   refine⟨iJ.L0.bV l[k],?_,λkn kx=> ?_⟩
   rotate_left
   ·rw[iJ.L0.step,bI (by omega),ah,bF (by omega) (by omega),ah,aa,n1,kN h2,ah]
   ·simp only[iJ.L0.add,iJ.L0.F,aa,hd,QP,if_pos h2]
    rfl
  ·left
   refine⟨(0,l,(l.length:Int),((k+1:Nat):Int)),⟨rfl,hl,rfl,k+1,by omega,rfl⟩,by simp only[aa];omega,?_,λkn kx=> ?_⟩
   ·simp only[iJ.L0.add,iJ.L0.F,aa,hd,QP,if_neg h2]
   ·rw[iJ.L0.step,bI (by omega),ah,bF (by omega) (by omega),ah,aa,n1,gK (by omega),ai,N.pJ (by omega)]
 ·right
  obtain rfl:k=l.length:=by omega
  refine⟨iJ.L0.kI 0,?_,λkn kx=> ?_⟩
  rotate_left
  ·rw[iJ.L0.step,bp (by omega),ai]
  ·simp only[iJ.L0.add,iJ.L0.F,aa,bH,QP]
   rfl
theorem iJ.ok:iJ.Ok:=by
 intro l hl
 rw[iJ.eq,iJ.L0.run (d:=(0,l,(l.length:Int),0)) ⟨rfl,hl,rfl,0,bm _,rfl⟩]
 simp only[ab,iJ.L0.add,iJ.L0.F,bK,aW,iJ.add,iJ.F]
 rw[QQ]
 cases QP l <;> rfl
def iJ.E:=Entry.dp [some (.slice ti)] iJ.st iJ.aw iJ.add iJ.F iJ.out
def iJ.call:iJ.D->Option iJ.X:=cj iJ.E iJ.st
theorem iJ.run:cl iJ.call iJ.aw iJ.add iJ.F:=dw (du [.d (.slice ti)] λ_=>by kernel_rfl)
def iJ.sg:SG Tryz.prog:=⟨87,aP,iJ.E,.fn 1 (by kernel_rfl) iJ.ok (And.intro (.dp iJ.L0.ok (by kernel_rfl)) trivial)⟩
theorem H3(k:Int)(m:List Int):SL (jO k m):=by
 unfold jO
 split
 ·exact⟨(KK _).u,(yp _ _).u⟩
 ·exact⟨⟨ln 0,by decide⟩,ln 0,by decide⟩
theorem GV:∀(l l':List kX) (b:List Int),l.map (·.1)=l'.map (·.1)->l.foldl Dy b=l'.foldl Dy b
 |[],[],_,_=>rfl
 |[],_::_,_,h=>by cases h
 |_::_,[],_,h=>by cases h
 |x::l,y::l',b,h=>by
  rw[cG,cG,iu]at h
  have e:Dy b x=Dy b y:=by unfold Dy;rw[h.1]
  rw[iv,iv,e,GV l l' _ h.2]
theorem LX{l l':List kX}(t:List kF×Int×Unit)(h:l.map (·.1)=l'.map (·.1)):wo (l,t)=wo (l',t):=by
 have hl:l.length=l'.length:=by have:=congrArg List.length h;simpa using this
 unfold wo
 simp only[hl]
 rw[GV l l' _ h]
theorem G8:∀(l l':List kX) (m:List (ir×Bool)),l.map (·.1)=l'.map (·.1)->tO m l=true->(∀x∈l',uD x.2.1=true)->tO m l'=true
 |[],[],_,_,_,_=>rfl
 |[],_::_,_,h,_,_=>by cases h
 |_::_,[],_,h,_,_=>by cases h
 |x::l,y::l',m,h,hi,hw=>by
  rw[cG,cG,iu]at h
  rw[tO,ak,ak]at hi ⊢
  have hx:=hi.1.2
  unfold zO at hx
  rw[ak]at hx
  refine⟨⟨?_,?_⟩,?_⟩
  ·have:=hi.1.1
   unfold xm at this ⊢
   rw[<-h.1]
   exact this
  ·unfold zO
   rw[<-h.1,hx.1,hw y bq]
   rfl
  ·rw[<-h.1]
   exact G8 l l' _ h.2 hi.2 λz hz=>hw z (bj _ hz)
theorem Oz{l l':List kX}{t:List kF×Int×Unit}(h:l.map (·.1)=l'.map (·.1))(jV:jQ (l,t)=true)(hw:∀x∈l',uD x.2.1=true):jQ (l',t)=true:=by
 have hl:l.length=l'.length:=by have:=congrArg List.length h;simpa using this
 unfold jQ yh at jV ⊢
 rw[ak,ak]at jV ⊢
 simp only[hl]at jV
 exact⟨jV.1,G8 l l' _ h jV.2.1 hw,jV.2.2⟩
theorem KP{l l':List kX}{t:List kF×Int×Unit}(h:l.map (·.1)=l'.map (·.1))(h1:jQ (l,t)=true)(h2:jQ (l',t)=true):mD (l',t)=mD (l,t):=by
 unfold mD
 rw[h1,h2,LX t h]
theorem Jy{l l':List kX}{t:List kF×Int×Unit}(h:l.map (·.1)=l'.map (·.1))(h1:jQ (l,t)=true)(h2:jQ (l',t)=true):gb (l',t)=gb (l,t):=by
 unfold gb
 rw[h1,h2]
 exact h.symm
theorem NF{l l':List kX}{t:List kF×Int×Unit}(h:l.map (·.1)=l'.map (·.1))(h1:jQ (l,t)=true)(h2:jQ (l',t)=true):gq (l',t)=gq (l,t):=by
 unfold gq
 rw[h1,h2,KP h h1 h2]
def vf(t:iM)(k:Nat)(w:DB):iM:=(t.1.set k ((nth kj t.1 k).1,w,()),t.2)
theorem za(l:List kX)(k:Nat)(w:DB)(h:k < l.length):l.map (·.1)=(l.set k ((nth kj l k).1,w,())).map (·.1):=by
 have n1:nth kj l k=l[k]:=dP (t:=kj) h
 rw[n1,List.map_set]
 have e:(l[k].1:ir)=(l.map (·.1))[k]'(by rw[b8];exact h):=by rw[mj]
 show _=(l.map (·.1)).set k l[k].1
 rw[e,gr]
theorem H2{l:List kX}{k:Nat}{w:DB}{x:kX}(h:k < l.length)(hx:x∈l.set k ((nth kj l k).1,w,())):x∈l\/(x.1=l[k].1/\x.2.1=w):=by
 have n1:nth kj l k=l[k]:=dP (t:=kj) h
 rw[n1]at hx
 rcases List.mem_or_eq_of_mem_set hx with h1 | h1
 ·exact .inl h1
 ·exact .inr ⟨by rw[h1],by rw[h1]⟩
theorem zb{t:iM}{k:Nat}{w:DB}(h:k < t.1.length)(jV:jQ t=true)(hw:uD w=true):jQ (vf t k w)=true:=by
 obtain⟨_,b1,_⟩:=pH jV
 refine Oz (l:=t.1) (za t.1 k w h) jV λx hx=> ?_
 rcases H2 h hx with h1 | h1
 ·have:=uq _ _ b1 x h1
  unfold zO at this
  rw[ak]at this
  exact this.2
 ·rw[h1.2];exact hw
theorem Ol{t:iM}{k:Nat}{w:DB}(h:k < t.1.length)(hv:tZ t)(hu:KW w)(hl:w.2.1.length<=9223372036854775807):tZ (vf t k w):=by
 refine⟨⟨hv.1.1,by show(t.1.set k _).length<=_;rw[ej];exact hv.1.2.1,hv.1.2.2⟩,λx hx=> ?_,hv.2.2⟩
 rcases H2 h hx with h1 | h1
 ·exact hv.2.1 x h1
 ·refine⟨?_,by rw[h1.2];exact hu,by rw[h1.2];exact hl⟩
  rw[h1.1]
  exact(hv.2.1 _ (List.getElem_mem h)).1
theorem F4{t:iM}{k:Nat}{w:DB}(h:k < t.1.length)(jV:jQ t=true)(hw:uD w=true):mD (vf t k w)=mD t/\gb (vf t k w)=gb t/\gq (vf t k w)=gq t:=
 ⟨KP (l:=t.1) (za t.1 k w h) jV (zb h jV hw),Jy (l:=t.1) (za t.1 k w h) jV (zb h jV hw),NF (l:=t.1) (za t.1 k w h) jV (zb h jV hw)⟩
theorem C8(t:iM)(k:Nat)(w:DB):(vf t k w).1.length=t.1.length:=ej
def wA(t:iM)(br:Int)(ks:List Int)(sc:Int):DB:=(br,ks.map (λk=>jO k (mD t)),sc,())
theorem zd(t:iM)(i br:Int)(ks:List Int)(sc:Int):pS t i br ks sc=if sR t i br ks then(vf t i.toNat (wA t br ks sc),0) else(([],[],0,()),1):=rfl
theorem Da{t:iM}{i br:Int}{ks:List Int}(h:sR t i br ks=true):jQ t=true/\(0<=i/\i < t.1.length/\0<=br/\br < 4/\ks.length<=12)/\∀k∈ks,k < 2305843009213688669/\k≠0:=by
 unfold sR at h
 simp only[ak,decide_eq_true_eq,dI]at h
 refine⟨h.1,h.2.1,λk hk=> ?_⟩
 have:=h.2.2
 rw[jr]at this
 have:=this k hk
 unfold xz at this
 simpa using this
theorem P1{t:iM}{i br:Int}{ks:List Int}(sc:Int)(h:sR t i br ks=true):uD (wA t br ks sc)=true:=by
 have e:=(Da h).2.1
 unfold uD wA
 rw[aO ⟨e.2.2.1,e.2.2.2.1⟩,aO (by rw[b8];exact e.2.2.2.2)]
 rfl
theorem Su(t:iM)(br:Int)(ks:List Int){sc:Int}(h:iw sc):KW (wA t br ks sc):=⟨λs hs=>by
  obtain⟨k,_,rfl⟩:=eb.1 (show s∈ks.map λk=>jO k (mD t) from hs)
  exact H3 k _,h⟩
theorem Db{t:iM}{i br sc:Int}{ks:List Int}(hv:tZ t)(h:sR t i br ks=true)(hs:iw sc):
  jQ (vf t i.toNat (wA t br ks sc))=true/\tZ (vf t i.toNat (wA t br ks sc))/\mD (vf t i.toNat (wA t br ks sc))=mD t/\gb (vf t i.toNat (wA t br ks sc))=gb t/\gq (vf t i.toNat (wA t br ks sc))=gq t:=by
 obtain⟨jV,e,_⟩:=Da h
 have hk:i.toNat < t.1.length:=by omega
 have hw:=P1 sc h
 exact⟨zb hk jV hw,Ol hk hv (Su t br ks hs) (by show(ks.map _).length<=_;rw[b8];omega),F4 hk jV hw⟩
theorem uK(k:Int):iw (fw k):=(EO _ _).u
def mT:List Int:=[152,45,158,62,185,150,245,89,230,51,244,209,148,222,243,118,29,144,159,90,59,100,125,26,133,31,234,214,124,50,201,209]
theorem s3:jO 3 mT=(2066670005889522986,1913675330412042729,()):=by decide+kernel
theorem u0:iw 0:=⟨ln 0,by decide⟩
theorem U3:zN 0=true:=rfl
theorem O1(ks:List Int)(a d:Int)(h:ks.length<=12):rK (ks,a,d,0,())=(ks.all oS && (zN a && zN d)):=by
 have e:rK (ks,a,d,0,())=(decide (ks.length<=12) && (ks.all oS && (zN a && (zN d && true)))):=rfl
 rw[e,aO h,cv,lk]
theorem NA(ks:List Int)(h:ks.length<=12):kW (vD ks)=ks.all oS:=by
 have e:kW (vD ks)=((rK (ks,0,0,0,()) && true) && true):=rfl
 rw[e,O1 _ _ _ h,U3,lk,lk,lk,lk]
def NU(b:qy)(sg:List Sg)(s:Int)(m:List Int)(height age:Int):Int:=
 if height < b.2.1\/age < b.2.2.1 then 11
 else if b.2.2.2.1≠0/\fw s≠b.2.2.2.1 then 23
 else if sg.length≠b.1.length then 7
 else if rS m b.1 sg then 0 else 7
theorem Kv{l:Lk}{i:Nat}{b:qy}(jV:kW l=true)(hi:i < l.1.length)(hb:l.1[i]=b)(sg:List Sg)(s:Int)(m:List Int)(h a:Int):tt l ((i:Int),sg,s,()) m h a=NU b sg s m h a:=by
 have n1:nth (.pair (.slice (.int .u64)) (.pair (.int .i64) (.pair (.int .i64) (.pair (.int .u64) .unit)))) l.1 i=l.1[i]:=dP (t:=(.pair (.slice (.int .u64)) (.pair (.int .i64) (.pair (.int .i64) (.pair (.int .u64) .unit))))) hi
 unfold tt
 rw[if_neg (by
  intro hh
  rcases hh with hh | hh | hh
  ·rw[jV]at hh;cases hh
  ·have hh:(i:Int) < 0:=hh
   omega
  ·have hh:(i:Int)>=l.1.length:=hh
   omega)]
 show(if h < (nth (.pair (.slice (.int .u64)) (.pair (.int .i64) (.pair (.int .i64) (.pair (.int .u64) .unit)))) l.1 i).2.1\/a < (nth (.pair (.slice (.int .u64)) (.pair (.int .i64) (.pair (.int .i64) (.pair (.int .u64) .unit)))) l.1 i).2.2.1 then 11 else if(nth (.pair (.slice (.int .u64)) (.pair (.int .i64) (.pair (.int .i64) (.pair (.int .u64) .unit)))) l.1 i).2.2.2.1≠0/\fw s≠(nth (.pair (.slice (.int .u64)) (.pair (.int .i64) (.pair (.int .i64) (.pair (.int .u64) .unit)))) l.1 i).2.2.2.1 then 23 else if sg.length≠(nth (.pair (.slice (.int .u64)) (.pair (.int .i64) (.pair (.int .i64) (.pair (.int .u64) .unit)))) l.1 i).1.length then 7 else if rS m (nth (.pair (.slice (.int .u64)) (.pair (.int .i64) (.pair (.int .i64) (.pair (.int .u64) .unit)))) l.1 i).1 sg then 0 else 7)=_
 rw[n1,hb]
 rfl
theorem Ds(m:List Int):∀ks:List Int,(∀k∈ks,0 < k/\k < 2305843009213688669)->rS m (ks.map fw) (ks.map λk=>jO k m)=true
 |[],_=>rfl
 |k::ks,h=>by
  have hk:=h k bq
  show(sE (fw k) m 1 (jO k m) && rS m (ks.map fw) (ks.map λk=>jO k m))=true
  rw[P2 k m hk.1 hk.2,Ds m ks λx hx=>h x (bj _ hx)]
  rfl
theorem yQ(ks:List Int)(hk:∀k∈ks,0 < k/\k < 2305843009213688669)(af dl sc s:Int)(m:List Int)(h a:Int)(hs:sc=0\/fw s=sc):
  NU (ks.map fw,af,dl,sc,()) (ks.map λk=>jO k m) s m h a=if h < af\/a < dl then 11 else 0:=by
 have e:NU (ks.map fw,af,dl,sc,()) (ks.map λk=>jO k m) s m h a=if h < af\/a < dl then 11 else if sc≠0/\fw s≠sc then 23 else if(ks.map λk=>jO k m).length≠(ks.map fw).length then 7 else if rS m (ks.map fw) (ks.map λk=>jO k m) then 0 else 7:=rfl
 rw[e,Ds m ks hk,if_neg (c:=sc≠0/\fw s≠sc) (by rintro⟨h1,h2⟩;exact hs.elim h1 h2),if_neg (c:=(ks.map λk=>jO k m).length≠(ks.map fw).length) (by rw[b8,b8];exact λx=>x rfl)]
 rfl
theorem Uw{k:Int}(h:0 < k/\k < 2305843009213688669):∀x∈ [k],0 < x/\x < 2305843009213688669:=λx hx=>by rw[aR]at hx;subst hx;exact h
theorem Ux{k j:Int}(h:0 < k/\k < 2305843009213688669)(hj:0 < j/\j < 2305843009213688669):∀x∈ [k,j],0 < x/\x < 2305843009213688669:=λx hx=>by
 rcases cH.1 hx with rfl | hx
 ·exact h
 ·rw[aR]at hx;subst hx;exact hj
abbrev bD.L0.D:=Int×Int×Int
def bD.L0.st:bD.L0.D->AS:=λ(uH,oB,outv)=>⟨([.d tu uH,.d tu oB,.undef,.undef,.undef,.d tu outv]++bG 16 []),[],(List.replicate 22 [])⟩
abbrev bD.L0.Y0:=Int
abbrev bD.L0.X0:=Int
def bD.L0.bV:bD.L0.X0->Exit×AS:=λx=>(.exit 0,⟨(bG 5 ([.d tu x]++bG 16 [])),[],(List.replicate 22 [])⟩)
abbrev bD.L0.X:=bD.L0.X0
abbrev bD.L0.Y:=bD.L0.Y0
def bD.L0.out:bD.L0.X->Out (Exit×AS):=λx=> .ok (bD.L0.bV x)
def bD.L0.add:bD.L0.D->bD.L0.Y->bD.L0.X:=λ(uH,oB,outv) y=>y
abbrev bD.D:=Int×Int
def bD.st:bD.D->SA:=λ(a,b)=>([.d tu a,.d tu b],[])
abbrev bD.Y:=Int
abbrev bD.X:=Int
def bD.out:bD.X->aZ:=λx=>⟨.d tu x,[],[]⟩
def bD.add:bD.D->bD.Y->bD.X:=λ(a,b) y=>y
def bD.L0.aw:bD.L0.D->Prop:=λ(a,b,o)=>Pn a/\iw b/\Pn o
def bD.L0.F:bD.L0.D->bD.L0.Y:=λ(a,b,o)=>(o+a*b)%4611686018427377339
def bD.aw:bD.D->Prop:=λ(a,b)=>Pn a/\iw b
def bD.F:bD.D->bD.Y:=λ(a,b)=>mG a b
def bD.G:fD:=gz (P:=Tryz.prog) []
def bD.L0.E:=cV.dp bD.L0.st bD.L0.aw bD.L0.add bD.L0.F bD.L0.out
def bD.L0.call:bD.L0.D->Option bD.L0.X:=eI bD.L0.E bD.L0.st
def bD.an:fT:= {loops:=oF [(2,{bS:=[0,1,5]})],outs:=oE [(2,{bS:=[5]},{bS:=[4]})],jw:=pL [(2,bD.L0.E)]}
def bD.A:= @dq Tryz.prog bD.G bD.an 0 Tryz.f181 _ bD.st
abbrev bD.Ok:=dr @bD.A bD.aw bD.add bD.F bD.out
def bD.L0.R:= @dn Tryz.prog bD.G bD.an 0 Tryz.f181 0 _ bD.L0.st
abbrev bD.L0.Ok:=gw Tryz.prog bD.G bD.an 0 Tryz.f181 0 bD.L0.st bD.L0.aw bD.L0.add bD.L0.F bD.L0.out
theorem bD.L0.run:cl bD.L0.call bD.L0.aw bD.L0.add bD.L0.F:=gT (gS [.d tu,.d tu,.d tu] λ_=>by kernel_rfl)
theorem bD.L0.aI:jk @bD.L0.R bD.L0.st bD.L0.aw bD.L0.add bD.L0.F bD.L0.bV bD.L0.Ok:=jm
theorem bD.L0.step{R:Type}(uH:Int)(oB:Int)(outv:Int)(kn:AS->Option R)(kx:Exit->AS->Option R):bD.L0.R (uH,oB,outv) kn kx=
  aJ ((so oB (0:Int))) (
   aJ ((nX (fU oB (2:Int)) (1:Int))) (
    kn (bD.L0.st ((fU (bO .u64 uH uH) (4611686018427377339:Int)),(qw .u64 oB (2:Int)),(fU (bO .u64 outv uH) (4611686018427377339:Int))))) (
    kn (bD.L0.st ((fU (bO .u64 uH uH) (4611686018427377339:Int)),(qw .u64 oB (2:Int)),outv)))) (
   kx (bD.L0.bV outv).1 (bD.L0.bV outv).2):=by kernel_rfl
theorem bD.eq{R:Type}(a:Int)(b:Int)(k:aZ->Option R):bD.A (a,b) k=
 aj (bD.L0.call (a,b,(0:Int))) λx1=>
 k (bD.out x1):=by kernel_rfl
theorem Ls(o a b:Int)(m:Int):(o+a*b)%m=((if b%2=1 then(o+a)%m else o)+(a+a)%m*(b / 2))%m:=by
 have e:b=2*(b / 2)+b%2:=by omega
 have hb:b%2=0\/b%2=1:=by omega
 generalize b / 2=q at*
 have l1:∀x y:Int,(x%m+(a+a)%m*y)%m=(x+(a+a)*y)%m:=λx y=>by
  rw[mK,iW _ (mL m),iQ,iW _ (mL m),<-iQ,<-mK]
 have l2:∀x y:Int,(x+(a+a)%m*y)%m=(x+(a+a)*y)%m:=λx y=>by
  rw[mK,iQ,iW _ (mL m),<-iQ,<-mK]
 rcases hb with h | h
 ·rw[if_neg (by omega),l2]
  rw[h]at e
  rw[e,lU,Int.add_mul,<-Int.mul_assoc,Int.mul_comm a 2,Int.two_mul,Int.add_mul]
 ·rw[if_pos h,l1]
  rw[h]at e
  rw[e,Int.mul_add,Int.mul_one,<-Int.mul_assoc,Int.mul_comm a 2,Int.two_mul]
  congr 1
  omega
theorem Qv{n:Int}(h:iw n):qw .u64 n 2=n / 2:=FL h.1 (by omega) h.2
theorem bD.L0.ok:bD.L0.Ok:=by
 refine bD.L0.aI (λ(a,b,o)=>b.toNat) ?_
 rintro⟨a,b,o⟩ ⟨ha,hb,ho⟩
 have ha:Pn a:=ha
 have hb:iw b:=hb
 have ho:Pn o:=ho
 obtain⟨a0,a1⟩:=ha
 obtain⟨b0,b1⟩:=hb
 obtain⟨o0,o1⟩:=ho
 by_cases h:0 < b
 ·left
  have e1:fU (bO .u64 a a) 4611686018427377339=(a+a)%4611686018427377339:=by
   have:bO .u64 a a=a+a:=by rw[nD];omega
   rw[this,kT (by omega)]
  have e2:fU (bO .u64 o a) 4611686018427377339=(o+a)%4611686018427377339:=by
   have:bO .u64 o a=o+a:=by rw[nD];omega
   rw[this,kT (by omega)]
  refine⟨((a+a)%4611686018427377339,b / 2,if b%2=1 then(o+a)%4611686018427377339 else o),⟨⟨by omega,by omega⟩,⟨by omega,by omega⟩,?_⟩,by simp only[];omega,?_,λkn kx=> ?_⟩
  ·show Pn (if b%2=1 then(o+a)%4611686018427377339 else o)
   split
   ·exact⟨by omega,by omega⟩
   ·exact⟨o0,o1⟩
  ·exact congrArg _ (Ls o a b 4611686018427377339).symm
  ·rw[bD.L0.step,fA h,e1,e2,Qv ⟨b0,b1⟩,kT b0]
   by_cases h1:b%2=1
   ·rw[iE h1,if_pos h1];rfl
   ·rw[fJ h1,if_neg h1];rfl
 ·right
  intro R kn kx
  obtain rfl:b=0:=by omega
  rw[bD.L0.step,dW (by omega)]
  simp only[ai,bD.L0.add,bD.L0.F]
  rw[show(o+a*0)%4611686018427377339=o by omega]
theorem bD.ok:bD.Ok:=by
 rintro⟨a,b⟩ ⟨ha,hb⟩
 rw[bD.eq,bD.L0.run (d:=(a,b,0)) ⟨ha,hb,by omega,by omega⟩]
 simp only[ab,bD.L0.add,bD.L0.F,pX]
 rfl
def bD.E:=Entry.dp [some tu,some tu] bD.st bD.aw bD.add bD.F bD.out
def bD.call:bD.D->Option bD.X:=cj bD.E bD.st
theorem bD.run:cl bD.call bD.aw bD.add bD.F:=dw (du [.d tu,.d tu] λ_=>by kernel_rfl)
def bD.sg:SG Tryz.prog:=⟨181,aP,bD.E,.fn 1 (by kernel_rfl) bD.ok (And.intro (.dp bD.L0.ok (by kernel_rfl)) trivial)⟩
abbrev bC.L0.D:=Int×Int×Int
def bC.L0.st:bC.L0.D->AS:=λ(uH,sz,outv)=>⟨([.d tu uH,.d tu sz,.undef,.undef,.undef,.d tu outv]++bG 14 []),[],(List.replicate 20 [])⟩
abbrev bC.L0.Y0:=Int
abbrev bC.L0.X0:=Int
def bC.L0.bV:bC.L0.X0->Exit×AS:=λx=>(.exit 0,⟨(bG 5 ([.d tu x]++bG 14 [])),[],(List.replicate 20 [])⟩)
abbrev bC.L0.X:=bC.L0.X0
abbrev bC.L0.Y:=bC.L0.Y0
def bC.L0.out:bC.L0.X->Out (Exit×AS):=λx=> .ok (bC.L0.bV x)
def bC.L0.add:bC.L0.D->bC.L0.Y->bC.L0.X:=λ(uH,sz,outv) y=>y
abbrev bC.D:=Int×Int
def bC.st:bC.D->SA:=λ(a,n)=>([.d tu a,.d tu n],[])
abbrev bC.Y:=Int
abbrev bC.X:=Int
def bC.out:bC.X->aZ:=λx=>⟨.d tu x,[],[]⟩
def bC.add:bC.D->bC.Y->bC.X:=λ(a,n) y=>y
def bC.L0.aw:bC.L0.D->Prop:=λ(a,n,o)=>Pn a/\iw n/\Pn o
def bC.L0.F:bC.L0.D->bC.L0.Y:=λ(a,n,o)=>Gq 64 a n.toNat o
def bC.aw:bC.D->Prop:=λ(a,n)=>Pn a/\iw n
def bC.F:bC.D->bC.Y:=λ(a,n)=>pw a n.toNat
def bC.G:fD:=gz (P:=Tryz.prog) [bD.sg]
def bC.L0.E:=cV.dp bC.L0.st bC.L0.aw bC.L0.add bC.L0.F bC.L0.out
def bC.L0.call:bC.L0.D->Option bC.L0.X:=eI bC.L0.E bC.L0.st
def bC.an:fT:= {loops:=oF [(2,{bS:=[0,1,5]})],outs:=oE [(2,{bS:=[5]},{bS:=[4]})],jw:=pL [(2,bC.L0.E)]}
def bC.A:= @dq Tryz.prog bC.G bC.an 0 Tryz.f156 _ bC.st
abbrev bC.Ok:=dr @bC.A bC.aw bC.add bC.F bC.out
def bC.L0.R:= @dn Tryz.prog bC.G bC.an 0 Tryz.f156 0 _ bC.L0.st
abbrev bC.L0.Ok:=gw Tryz.prog bC.G bC.an 0 Tryz.f156 0 bC.L0.st bC.L0.aw bC.L0.add bC.L0.F bC.L0.out
theorem bC.L0.run:cl bC.L0.call bC.L0.aw bC.L0.add bC.L0.F:=gT (gS [.d tu,.d tu,.d tu] λ_=>by kernel_rfl)
theorem bC.L0.aI:jk @bC.L0.R bC.L0.st bC.L0.aw bC.L0.add bC.L0.F bC.L0.bV bC.L0.Ok:=jm
theorem bC.L0.step{R:Type}(uH:Int)(sz:Int)(outv:Int)(kn:AS->Option R)(kx:Exit->AS->Option R):bC.L0.R (uH,sz,outv) kn kx=
  aJ ((so sz (0:Int))) (
   aJ ((nX (fU sz (2:Int)) (1:Int))) (
    aj (bD.call (outv,uH)) λx1=>
    aj (bD.call (uH,uH)) λx2=>
    kn (bC.L0.st (x2,(qw .u64 sz (2:Int)),x1))) (
    aj (bD.call (uH,uH)) λx3=>
    kn (bC.L0.st (x3,(qw .u64 sz (2:Int)),outv)))) (
   kx (bC.L0.bV outv).1 (bC.L0.bV outv).2):=by kernel_rfl
theorem bC.eq{R:Type}(a:Int)(n:Int)(k:aZ->Option R):bC.A (a,n) k=
 aj (bC.L0.call (a,n,(1:Int))) λx4=>
 k (bC.out x4):=by kernel_rfl
theorem bC.L0.ok:bC.L0.Ok:=by
 refine bC.L0.aI (λ(a,n,o)=>n.toNat) ?_
 rintro⟨a,n,o⟩ ⟨ha,hn,ho⟩
 have ha:Pn a:=ha
 have hn:iw n:=hn
 have ho:Pn o:=ho
 have n0:=hn.1
 have n1:=hn.2
 by_cases h:0 < n
 ·left
  have e:bC.L0.F (a,n,o)=bC.L0.F (mG a a,n / 2,if n%2=1 then mG o a else o):=by
   show Gq 64 a n.toNat o=Gq 64 (mG a a) (n / 2).toNat _
   rw[CZ 64 65 a n.toNat o (by omega) (by omega)]
   have t1:(n / 2).toNat=n.toNat / 2:=by omega
   have t2:(n%2=1)=(n.toNat%2=1):=by apply propext;omega
   rw[t1]
   simp only[t2]
   show(if n.toNat=0 then o else _)=_
   rw[if_neg (by omega)]
  refine⟨(mG a a,n / 2,if n%2=1 then mG o a else o),⟨qh a a,⟨by omega,by omega⟩,?_⟩,by show(n / 2).toNat < n.toNat;omega,?_,λkn kx=> ?_⟩
  ·show Pn (if n%2=1 then mG o a else o)
   split
   ·exact qh _ _
   ·exact ho
  ·exact congrArg _ e.symm
  ·rw[bC.L0.step,fA h,Qv hn,kT n0,bD.run (d:=(o,a)) ⟨ho,ha.u⟩,bD.run (d:=(a,a)) ⟨ha,ha.u⟩]
   by_cases h1:n%2=1
   ·rw[iE h1,if_pos h1];rfl
   ·rw[fJ h1,if_neg h1];rfl
 ·right
  intro R kn kx
  obtain rfl:n=0:=by omega
  rw[bC.L0.step,dW (by omega)]
  simp only[ai,bC.L0.add,bC.L0.F]
  rw[show Gq 64 a (Int.toNat 0) o=o from sO _ _ _]
theorem bC.ok:bC.Ok:=by
 rintro⟨a,n⟩ ⟨ha,hn⟩
 rw[bC.eq,bC.L0.run (d:=(a,n,1)) ⟨ha,hn,by omega,by omega⟩]
 rfl
def bC.E:=Entry.dp [some tu,some tu] bC.st bC.aw bC.add bC.F bC.out
def bC.call:bC.D->Option bC.X:=cj bC.E bC.st
theorem bC.run:cl bC.call bC.aw bC.add bC.F:=dw (du [.d tu,.d tu] λ_=>by kernel_rfl)
def bC.sg:SG Tryz.prog:=⟨156,aP,bC.E,.fn 1 (by kernel_rfl) bC.ok (And.intro (.dp bC.L0.ok (by kernel_rfl)) trivial)⟩
abbrev dv.D:=Int
def dv.st:dv.D->SA:=λp=>([.d tu p],[])
abbrev dv.Y:=Bool
abbrev dv.X:=Bool
def dv.out:dv.X->aZ:=λx=>⟨.d .bool x,[],[]⟩
def dv.add:dv.D->dv.Y->dv.X:=λp y=>y
def dv.aw:dv.D->Prop:=λp=>iw p
def dv.F:dv.D->dv.Y:=λp=>oS p
def dv.G:fD:=gz (P:=Tryz.prog) [bC.sg]
def dv.an:fT:= {}
def dv.A:= @dq Tryz.prog dv.G dv.an 0 Tryz.f119 _ dv.st
abbrev dv.Ok:=dr @dv.A dv.aw dv.add dv.F dv.out
theorem dv.eq{R:Type}(p:Int)(k:aZ->Option R):dv.A p k=
  aJ ((qz p (1:Int))) (
   aJ ((jK p (4611686018427377339:Int))) (
    aj (bC.call (p,(2305843009213688669:Int))) λx1=>
    k (dv.out (nX x1 (1:Int)))) (
    k (dv.out false))) (
   k (dv.out false)):=by kernel_rfl
theorem dv.ok:dv.Ok:=by
 intro(p:Int) hp
 have hp:iw p:=hp
 rw[dv.eq]
 simp only[dv.add,dv.F,oS]
 by_cases h:0 < p
 ·rw[lG (by omega),ah]
  by_cases h2:p < 4611686018427377339
  ·rw[bI h2,ah,aO ⟨h,h2⟩,cv,bC.run (d:=(p,2305843009213688669)) ⟨⟨by omega,h2⟩,by constructor <;> decide⟩]
   rfl
  ·rw[bp h2,ai,cR (λx=>h2 x.2),fK]
 ·rw[iU (by omega),ai,cR (λx=>h x.1),fK]
def dv.E:=Entry.dp [some tu] dv.st dv.aw dv.add dv.F dv.out
def dv.call:dv.D->Option dv.X:=cj dv.E dv.st
theorem dv.run:cl dv.call dv.aw dv.add dv.F:=dw (du [.d tu] λ_=>by kernel_rfl)
def dv.sg:SG Tryz.prog:=⟨119,aP,dv.E,.fn 0 (by kernel_rfl) dv.ok trivial⟩
abbrev dQ.D:=Int
def dQ.st:dQ.D->SA:=λp=>([.d tu p],[])
abbrev dQ.Y:=Int
abbrev dQ.X:=Int
def dQ.out:dQ.X->aZ:=λx=>⟨.d tu x,[],[]⟩
def dQ.add:dQ.D->dQ.Y->dQ.X:=λp y=>y
def dQ.aw:dQ.D->Prop:=λp=>iw p
def dQ.F:dQ.D->dQ.Y:=λp=>tk p
def dQ.G:fD:=gz (P:=Tryz.prog) [dv.sg]
def dQ.an:fT:= {}
def dQ.A:= @dq Tryz.prog dQ.G dQ.an 0 Tryz.f157 _ dQ.st
abbrev dQ.Ok:=dr @dQ.A dQ.aw dQ.add dQ.F dQ.out
theorem dQ.eq{R:Type}(p:Int)(k:aZ->Option R):dQ.A p k=
  aj (dv.call p) λx1=>
  aJ (x1) (
   k (dQ.out p)) (
   k (dQ.out (1:Int))):=by kernel_rfl
theorem dQ.ok:dQ.Ok:=by
 intro p hp
 rw[dQ.eq,dv.run (d:=p) hp]
 simp only[ab,dv.add,dv.F,dQ.add,dQ.F,tk]
 cases oS p <;> rfl
def dQ.E:=Entry.dp [some tu] dQ.st dQ.aw dQ.add dQ.F dQ.out
def dQ.call:dQ.D->Option dQ.X:=cj dQ.E dQ.st
theorem dQ.run:cl dQ.call dQ.aw dQ.add dQ.F:=dw (du [.d tu] λ_=>by kernel_rfl)
def dQ.sg:SG Tryz.prog:=⟨157,aP,dQ.E,.fn 0 (by kernel_rfl) dQ.ok trivial⟩
abbrev eE.D:=Int×Int
def eE.st:eE.D->SA:=λ(p,kv)=>([.d tu p,.d tu kv],[])
abbrev eE.Y:=Int
abbrev eE.X:=Int
def eE.out:eE.X->aZ:=λx=>⟨.d tu x,[],[]⟩
def eE.add:eE.D->eE.Y->eE.X:=λ(p,kv) y=>y
def eE.aw:eE.D->Prop:=λ(p,k)=>iw p/\iw k
def eE.F:eE.D->eE.Y:=λ(p,k)=>oO p k
def eE.G:fD:=gz (P:=Tryz.prog) [dQ.sg,bC.sg]
def eE.an:fT:= {}
def eE.A:= @dq Tryz.prog eE.G eE.an 0 Tryz.f115 _ eE.st
abbrev eE.Ok:=dr @eE.A eE.aw eE.add eE.F eE.out
theorem eE.eq{R:Type}(p:Int)(kv:Int)(k:aZ->Option R):eE.A (p,kv) k=
 aj (dQ.call p) λx1=>
 aj (bC.call (x1,(fU kv (2305843009213688669:Int)))) λx2=>
 k (eE.out x2):=by kernel_rfl
theorem eE.ok:eE.Ok:=by
 rintro⟨p,k⟩ ⟨hp,hk⟩
 have hk:iw k:=hk
 have e:=kT (y:=2305843009213688669) hk.1
 have b:iw (k%2305843009213688669):=⟨by omega,by omega⟩
 rw[eE.eq,dQ.run (d:=p) hp,e]
 simp only[ab,dQ.add,dQ.F]
 rw[bC.run (d:=(tk p,k%2305843009213688669)) ⟨KO p,b⟩]
 rfl
def eE.E:=Entry.dp [some tu,some tu] eE.st eE.aw eE.add eE.F eE.out
def eE.call:eE.D->Option eE.X:=cj eE.E eE.st
theorem eE.run:cl eE.call eE.aw eE.add eE.F:=dw (du [.d tu,.d tu] λ_=>by kernel_rfl)
def eE.sg:SG Tryz.prog:=⟨115,aP,eE.E,.fn 0 (by kernel_rfl) eE.ok trivial⟩
abbrev eh.D:=Int
def eh.st:eh.D->SA:=λkv=>([.d tu kv],[])
abbrev eh.Y:=Int
abbrev eh.X:=Int
def eh.out:eh.X->aZ:=λx=>⟨.d tu x,[],[]⟩
def eh.add:eh.D->eh.Y->eh.X:=λkv y=>y
def eh.aw:eh.D->Prop:=λk=>iw k
def eh.F:eh.D->eh.Y:=λk=>fw k
def eh.G:fD:=gz (P:=Tryz.prog) [eE.sg]
def eh.an:fT:= {}
def eh.A:= @dq Tryz.prog eh.G eh.an 0 Tryz.f62 _ eh.st
abbrev eh.Ok:=dr @eh.A eh.aw eh.add eh.F eh.out
theorem eh.eq{R:Type}(kv:Int)(k:aZ->Option R):eh.A kv k=
 aj (eE.call ((4:Int),kv)) λx1=>
 k (eh.out x1):=by kernel_rfl
theorem eh.ok:eh.Ok:=by
 intro k hk
 rw[eh.eq,eE.run (d:=(4,k)) ⟨⟨by omega,by omega⟩,hk⟩]
 rfl
def eh.E:=Entry.dp [some tu] eh.st eh.aw eh.add eh.F eh.out
def eh.call:eh.D->Option eh.X:=cj eh.E eh.st
theorem eh.run:cl eh.call eh.aw eh.add eh.F:=dw (du [.d tu] λ_=>by kernel_rfl)
def eh.sg:SG Tryz.prog:=⟨62,aP,eh.E,.fn 0 (by kernel_rfl) eh.ok trivial⟩
abbrev bX.L0.D:=Bs×Int×Int
def bX.L0.st:bX.L0.D->AS:=λ(s6,n,i)=>⟨([.undef,.gE tH s6,.undef,.d tu n,.d ti i]++bG 25 []),[],(List.replicate 30 [])⟩
abbrev bX.L0.Y0:=Int
abbrev bX.L0.X0:=Int
def bX.L0.bV:bX.L0.X0->Exit×AS:=λx=>(.exit 0,⟨([.undef,.undef,.undef,.d tu x]++bG 26 []),[],(List.replicate 30 [])⟩)
abbrev bX.L0.X:=bX.L0.X0
abbrev bX.L0.Y:=bX.L0.Y0
def bX.L0.out:bX.L0.X->Out (Exit×AS):=λx=> .ok (bX.L0.bV x)
def bX.L0.add:bX.L0.D->bX.L0.Y->bX.L0.X:=λ(s6,n,i) y=>y
abbrev bX.D:=Bs
def bX.st:bX.D->SA:=λh=>([.d tH h],[])
abbrev bX.Y:=Int
abbrev bX.X:=Int
def bX.out:bX.X->aZ:=λx=>⟨.d tu x,[],[]⟩
def bX.add:bX.D->bX.Y->bX.X:=λh y=>y
def bX.L0.aw:bX.L0.D->Prop:=λ(h,n,i)=>E9.b n/\h.length=32/\Bytes h/\∃k:Nat,k<=32/\i=k
def bX.L0.F:bX.L0.D->bX.L0.Y:=λ(h,n,i)=>(h.drop i.toNat).foldl (λn b=>(n*256+b)%2305843009213688668) n
def bX.aw:bX.D->Prop:=λh=>h.length=32/\Bytes h
def bX.F:bX.D->bX.Y:=λh=>kS h
def bX.G:fD:=gz (P:=Tryz.prog) []
def bX.L0.E:=cV.dp bX.L0.st bX.L0.aw bX.L0.add bX.L0.F bX.L0.out
def bX.L0.call:bX.L0.D->Option bX.L0.X:=eI bX.L0.E bX.L0.st
def bX.an:fT:= {loops:=oF [(3,{bS:=[1,3,4]}),(6,{bS:=[1,3,4,5]})],outs:=oE [(3,{bS:=[3]},{bS:=[2]}),(6,{bS:=[1,3,4]},{bS:=[2]})],jw:=pL [(3,bX.L0.E)]}
def bX.A:= @dq Tryz.prog bX.G bX.an 12 Tryz.f60 _ bX.st
abbrev bX.Ok:=dr @bX.A bX.aw bX.add bX.F bX.out
def bX.L0.R:= @dn Tryz.prog bX.G bX.an 12 Tryz.f60 0 _ bX.L0.st
abbrev bX.L0.Ok:=gw Tryz.prog bX.G bX.an 12 Tryz.f60 0 bX.L0.st bX.L0.aw bX.L0.add bX.L0.F bX.L0.out
theorem bX.L0.run:cl bX.L0.call bX.L0.aw bX.L0.add bX.L0.F:=gT (gS [.d tH,.d tu,.d ti] λ_=>by kernel_rfl)
theorem bX.L0.aI:jk @bX.L0.R bX.L0.st bX.L0.aw bX.L0.add bX.L0.F bX.L0.bV bX.L0.Ok:=jm
theorem bX.L0.step{R:Type}(s6:Bs)(n:Int)(i:Int)(kn:AS->Option R)(kx:Exit->AS->Option R):bX.L0.R (s6,n,i) kn kx=
  aJ ((jK i (32:Int))) (
   aJ (fp i (32:Int)) (
   aJ (fp i (32:Int)) (
   aJ (fp i (32:Int)) (
   aJ (fp i (32:Int)) (
   aJ (fp i (32:Int)) (
   aJ (fp i (32:Int)) (
   aJ (fp i (32:Int)) (
   aJ (fp i (32:Int)) (
   kn (bX.L0.st (s6,(fU (bO .u64 (gJ .u64 (2:Int) (fU (bO .u64 (gJ .u64 (2:Int) (fU (bO .u64 (gJ .u64 (2:Int) (fU (bO .u64 (gJ .u64 (2:Int) (fU (bO .u64 (gJ .u64 (2:Int) (fU (bO .u64 (gJ .u64 (2:Int) (fU (bO .u64 (gJ .u64 (2:Int) (fU (bO .u64 (gJ .u64 (2:Int) n) (dC .and .u64 (cZ .u64 (eH .u64 (nth tb s6 (Int.toNat i))) (7:Int)) (1:Int))) (2305843009213688668:Int))) (dC .and .u64 (cZ .u64 (eH .u64 (nth tb s6 (Int.toNat i))) (6:Int)) (1:Int))) (2305843009213688668:Int))) (dC .and .u64 (cZ .u64 (eH .u64 (nth tb s6 (Int.toNat i))) (5:Int)) (1:Int))) (2305843009213688668:Int))) (dC .and .u64 (cZ .u64 (eH .u64 (nth tb s6 (Int.toNat i))) (4:Int)) (1:Int))) (2305843009213688668:Int))) (dC .and .u64 (cZ .u64 (eH .u64 (nth tb s6 (Int.toNat i))) (3:Int)) (1:Int))) (2305843009213688668:Int))) (dC .and .u64 (cZ .u64 (eH .u64 (nth tb s6 (Int.toNat i))) (2:Int)) (1:Int))) (2305843009213688668:Int))) (dC .and .u64 (cZ .u64 (eH .u64 (nth tb s6 (Int.toNat i))) (1:Int)) (1:Int))) (2305843009213688668:Int))) (dC .and .u64 (cZ .u64 (eH .u64 (nth tb s6 (Int.toNat i))) (0:Int)) (1:Int))) (2305843009213688668:Int)),(bO .i64 i (1:Int))))) none) none) none) none) none) none) none) none) (
   kx (bX.L0.bV n).1 (bX.L0.bV n).2):=by kernel_rfl
theorem bX.eq{R:Type}(h:Bs)(k:aZ->Option R):bX.A h k=
 aj (bX.L0.call (h,(0:Int),(0:Int))) λx1=>
 k (bX.out (bO .u64 x1 (1:Int))):=by kernel_rfl
theorem vM{c:Int}(hc:DA c)(k:Nat)(hk:k<=7):dC .and .u64 (cZ .u64 (eH .u64 c) (k:Int)) 1=c / 2^k%2:=by
 obtain⟨h1,h2⟩:=hc
 have e:eH .u64 c=c:=by rw[I7];omega
 have p:(0:Int) < 2^k:=Int.pow_pos (by omega)
 have q0:0<=c / 2^k:=Int.ediv_nonneg h1 (by omega)
 have q1:c / 2^k<=c:=Int.ediv_le_self _ h1
 rw[e,qY k (by rfl) (by omega),Tg q0 (by omega)]
theorem MI:∀c:Fin 256,(c.val:Int) / 2^7%2*128+(c.val:Int) / 2^6%2*64+(c.val:Int) / 2^5%2*32+(c.val:Int) / 2^4%2*16+(c.val:Int) / 2^3%2*8+(c.val:Int) / 2^2%2*4+(c.val:Int) / 2^1%2*2+(c.val:Int) / 2^0%2=(c.val:Int):=by decide+kernel
theorem MJ{c:Int}(hc:DA c):c / 2^7%2*128+c / 2^6%2*64+c / 2^5%2*32+c / 2^4%2*16+c / 2^3%2*8+c / 2^2%2*4+c / 2^1%2*2+c / 2^0%2=c:=by
 obtain⟨n,rfl⟩:∃n:Nat,c=n:=⟨c.toNat,by have:=hc.1;omega⟩
 exact MI ⟨n,by have:=hc.2;omega⟩
theorem La{c:Int}(hc:DA c):∃d7 d6 d5 d4 d3 d2 d1 d0:Int,(0<=d7/\d7 < 2)/\(0<=d6/\d6 < 2)/\(0<=d5/\d5 < 2)/\(0<=d4/\d4 < 2)/\(0<=d3/\d3 < 2)/\(0<=d2/\d2 < 2)/\(0<=d1/\d1 < 2)/\(0<=d0/\d0 < 2)/\dC .and .u64 (cZ .u64 (eH .u64 c) 7) 1=d7/\dC .and .u64 (cZ .u64 (eH .u64 c) 6) 1=d6/\dC .and .u64 (cZ .u64 (eH .u64 c) 5) 1=d5/\dC .and .u64 (cZ .u64 (eH .u64 c) 4) 1=d4/\dC .and .u64 (cZ .u64 (eH .u64 c) 3) 1=d3/\dC .and .u64 (cZ .u64 (eH .u64 c) 2) 1=d2/\dC .and .u64 (cZ .u64 (eH .u64 c) 1) 1=d1/\dC .and .u64 (cZ .u64 (eH .u64 c) 0) 1=d0/\d7*128+d6*64+d5*32+d4*16+d3*8+d2*4+d1*2+d0=c:=by
 have z:∀x:Int,0<=x%2/\x%2 < 2:=λx=>by omega
 exact⟨c / 2^7%2,c / 2^6%2,c / 2^5%2,c / 2^4%2,c / 2^3%2,c / 2^2%2,c / 2^1%2,c / 2^0%2,z _,z _,z _,z _,z _,z _,z _,z _,vM hc 7 (by omega),vM hc 6 (by omega),vM hc 5 (by omega),vM hc 4 (by omega),vM hc 3 (by omega),vM hc 2 (by omega),vM hc 1 (by omega),vM hc 0 (by omega),MJ hc⟩
theorem vN{n b:Int}(hn:E9.b n)(hb:0<=b/\b < 2):fU (bO .u64 (gJ .u64 2 n) b) 2305843009213688668=(2*n+b)%2305843009213688668/\E9.b ((2*n+b)%2305843009213688668):=by
 obtain⟨h1,h2⟩:=hn
 have e:bO .u64 (gJ .u64 2 n) b=2*n+b:=by rw[qU,nD];omega
 rw[e,kT (by omega)]
 exact⟨rfl,by omega,by omega⟩
theorem IT(n c d7 d6 d5 d4 d3 d2 d1 d0:Int)(M:Int)(h:d7*128+d6*64+d5*32+d4*16+d3*8+d2*4+d1*2+d0=c):
  (2*((2*((2*((2*((2*((2*((2*((2*n+d7)%M)+d6)%M)+d5)%M)+d4)%M)+d3)%M)+d2)%M)+d1)%M)+d0)%M=(n*256+c)%M:=by
 have l:∀x b:Int,(2*(x%M)+b)%M=(2*x+b)%M:=λx b=>by
  rw[mK,iQ,iW _ (mL M),<-iQ,<-mK]
 simp only[l]
 have e:2*(2*(2*(2*(2*(2*(2*(2*n+d7)+d6)+d5)+d4)+d3)+d2)+d1)+d0=n*256+c:=by omega
 rw[e]
theorem bX.L0.ok:bX.L0.Ok:=by
 refine bX.L0.aI (λ(h,n,i)=>32 - i.toNat) ?_
 rintro⟨h,n,i⟩ ⟨hn,hl,hb,k,hk,rfl⟩
 have hn:E9.b n:=hn
 have hl:h.length=32:=hl
 have hb:Bytes h:=hb
 by_cases mw:k < 32
 ·left
  have hx:DA (h[k]'(by omega)):=hb _ (List.getElem_mem _)
  have n1:nth (.int .u8) h k=h[k]'(by omega):=dP (t:= .int .u8) (by omega)
  refine⟨(h,(n*256+h[k]'(by omega))%2305843009213688668,((k+1:Nat):Int)),⟨⟨by omega,by omega⟩,hl,hb,k+1,by omega,rfl⟩,by simp only[aa];omega,?_,λkn kx=> ?_⟩
  ·simp only[bX.L0.add,bX.L0.F,aa]
   rw[aA (by omega:k < h.length)]
   rfl
  ·rw[bX.L0.step]
   generalize hc:h[k]'(by omega)=c at hx n1
   obtain⟨d7,d6,d5,d4,d3,d2,d1,d0,z7,z6,z5,z4,z3,z2,z1,z0,b7,b6,b5,b4,b3,b2,b1,b0,bh⟩:=La hx
   obtain⟨f7,g7⟩:=vN hn z7
   obtain⟨f6,g6⟩:=vN g7 z6
   obtain⟨f5,g5⟩:=vN g6 z5
   obtain⟨f4,g4⟩:=vN g5 z4
   obtain⟨f3,g3⟩:=vN g4 z3
   obtain⟨f2,g2⟩:=vN g3 z2
   obtain⟨f1,g1⟩:=vN g2 z1
   obtain⟨f0,g0⟩:=vN g1 z0
   have e8:=IT n c _ _ _ _ _ _ _ _ 2305843009213688668 bh
   have hi:jK (k:Int) 32=true:=bI (by omega)
   have Po:fp (k:Int) 32=true:=bF (by omega) (by omega)
   have ha:bO .i64 (k:Int) 1=((k+1:Nat):Int):=by rw[ff (by omega) (by omega)];omega
   simp only[hi,Po,ha,ah,aa,n1,b7,b6,b5,b4,b3,b2,b1,b0,f7,f6,f5,f4,f3,f2,f1,f0,e8]
 ·right
  obtain rfl:k=32:=by omega
  intro R kn kx
  rw[bX.L0.step]
  simp(disch:=omega) only[↓S1,↓if_pos,↓if_neg,if_pos,if_neg,if_true,if_false,S2,bX.L0.add,bX.L0.F]
  rw[gM (by omega)]
  rfl
theorem bX.ok:bX.Ok:=by
 rintro h ⟨hl,hb⟩
 have e:=Cb h 0 ⟨by omega,by omega⟩
 have h1:=e.1
 have h2:=e.2
 rw[bX.eq,bX.L0.run (d:=(h,0,0)) ⟨⟨by omega,by omega⟩,hl,hb,0,by omega,rfl⟩]
 simp only[ab,bX.L0.add,bX.L0.F,bX.add,bX.F,kS,bK,aW]
 revert h1 h2
 generalize h.foldl (λn b=>(n*256+b)%2305843009213688668) 0=m
 intro h1 h2
 have e:bO .u64 m 1=m+1:=by rw[nD];omega
 rw[e]
def bX.E:=Entry.dp [some tH] bX.st bX.aw bX.add bX.F bX.out
def bX.call:bX.D->Option bX.X:=cj bX.E bX.st
theorem bX.run:cl bX.call bX.aw bX.add bX.F:=dw (du [.d tB] λ_=>by kernel_rfl)
def bX.sg:SG Tryz.prog:=⟨60,aP,bX.E,.fn 2 (by kernel_rfl) bX.ok (And.intro (.dp bX.L0.ok (by kernel_rfl)) (And.intro (.none (by kernel_rfl)) trivial))⟩
abbrev ke:Ty:=(.pair ti (.pair ti (.pair ti (.pair tu (.pair ti .unit)))))
abbrev jj:=(Int×(Int×(Int×(Int×(Int×Unit)))))
abbrev oP:Ty:=(.pair ti (.pair ti (.pair ti (.pair ti (.pair ti (.pair ti .unit))))))
abbrev Ml:=(Int×(Int×(Int×(Int×(Int×(Int×Unit))))))
abbrev mC:Ty:=(.pair ti (.pair (.arr 2 ti) (.pair (.slice ke) (.pair ti .unit))))
abbrev jl:=(Int×((List Int)×((List jj)×(Int×Unit))))
abbrev rZ:Ty:=(.pair tu (.pair tu (.pair tu (.pair tu (.pair tu (.pair tH .unit))))))
abbrev pI:=(Int×(Int×(Int×(Int×(Int×(Bs×Unit))))))
abbrev qt:Ty:=(.pair tu (.pair tu (.pair tu Ap)))
abbrev KU:=(Int×(Int×(Int×Sg)))
abbrev nb:Ty:=(.pair gV (.pair ti (.pair (.arr 2 qt) (.pair (.arr 2 oP) (.pair ti .unit)))))
abbrev iN:=(ir×(Int×((List KU)×((List Ml)×(Int×Unit)))))
abbrev zp:Ty:=(.pair ti (.pair ke .unit))
abbrev xx:=(Int×(jj×Unit))
abbrev Gr:Ty:=(.pair jP (.pair (.slice zp) .unit))
abbrev Ax:=(iM×((List xx)×Unit))
abbrev xg:Ty:=(.pair gV (.pair ti (.pair tu .unit)))
abbrev mI:=(ir×(Int×(Int×Unit)))
abbrev nU:Ty:=(.pair lg (.pair zp (.pair tH .unit)))
abbrev mF:=(kF×(xx×(Bs×Unit)))
abbrev OQ:Ty:=(.pair tb (.pair (.int .u16) (.pair (.int .u16) (.pair tu .unit))))
abbrev KV:=(Int×(Int×(Int×(Int×Unit))))
abbrev KL:Ty:=(.pair (.arr 2 tH) (.pair (.int .u32) (.pair (.int .u32) (.pair tb (.pair tb (.pair (.slice OQ) (.pair (.int .u16) (.pair tH .unit))))))))
abbrev yk:=((List Bs)×(Int×(Int×(Int×(Int×((List KV)×(Int×(Bs×Unit))))))))
def Bd(x lo hi:Int):Prop:=lo<=x/\x<=hi
def qA(n lo hi:Int):Bool:=decide (lo<=n) && decide (n<=hi)
theorem sq{n lo hi:Int}:qA n lo hi=true↔lo<=n/\n<=hi:=by
 unfold qA;rw[ak,decide_eq_true_eq,decide_eq_true_eq]
theorem la{n lo hi:Int}(h:lo<=n)(h2:n<=hi):qA n lo hi=true:=sq.2 ⟨h,h2⟩
theorem pc{n lo hi:Int}(h:¬(lo<=n/\n<=hi)):qA n lo hi=false:=by
 cases e:qA n lo hi
 ·rfl
 ·exact absurd (sq.1 e) h
def D3(p:Int):Bool:=oS p && rN p 1
def MA(p:Int):Prop:=iw p/\D3 p=true
def Q4(b:KU):Prop:=MA b.1/\MA b.2.1/\MA b.2.2.1/\MA b.2.2.2.1/\MA b.2.2.2.2.1
def te(d:Int):Ml:=(100,(200,(d,(16,(1,(1125899906842624,()))))))
def xf(a:Int)(b0 b1:KU)(o:Int):iN:=((List.replicate 32 0,(0,())),(a,([b0,b1],([te 5,te 6],(o,())))))
def ns(ch:iN):Prop:=∃a b0 b1 o,ch=xf a b0 b1 o/\20000<=a/\a<=4294987295/\Q4 b0/\Q4 b1/\(o=0\/o=1)
def OG(n:Int):Int:=if 0<=n/\n<=16 then 68+8*n else 0
def Bt(r n:Int):Int:=if 0<=r/\r<=1000 then r*OG n else 0
theorem JK(n:Int):0<=OG n/\OG n<=196:=by
 unfold OG;split <;> omega
theorem BB{r w a b:Int}(h0:0<=r)(h1:r<=a)(w0:0<=w)(w1:w<=b):0<=r*w/\r*w<=a*b:=⟨pW h0 w0,Int.mul_le_mul h1 w1 w0 (by omega)⟩
theorem xH(r n:Int):0<=Bt r n/\Bt r n<=196000:=by
 unfold Bt
 split
 ·next h=>
  have:=JK n
  have:=BB h.1 h.2 this.1 this.2
  omega
 ·omega
def Gl(c:jj):Bool:=D3 c.2.2.2.1 && (qA c.1 0 1 && (qA c.2.1 1 1048576 && (qA c.2.2.1 1 1125899906842624 && qA c.2.2.2.2.1 1 1048576)))
structure Qa(c:jj):Prop where
 pt:D3 c.2.2.2.1=true
 side:0<=c.1/\c.1<=1
 id:1<=c.2.1/\c.2.1<=1048576
 DD:1<=c.2.2.1/\c.2.2.1<=1125899906842624
 exp:1<=c.2.2.2.2.1/\c.2.2.2.2.1<=1048576
theorem sj{c:jj}:Gl c=true↔Qa c:=by
 unfold Gl
 simp only[ak,sq]
 exact⟨λh=>⟨h.1,h.2.1,h.2.2.1,h.2.2.2.1,h.2.2.2.2⟩,λh=>⟨h.pt,h.side,h.id,h.DD,h.exp⟩⟩
def zo(a b:jj):Bool:=decide (a.1 < b.1\/a.1=b.1/\a.2.1 < b.2.1)
def tF:Option jj->List jj->Bool
 |_,[]=>true
 |none,c::l=>Gl c && tF (some c) l
 |some p,c::l=>Gl c && (zo p c && tF (some c) l)
def yT(l:List jj)(k:Nat):Option jj:=if k=0 then none else some (nth ke l (k - 1))
theorem ug:∀(o:Option jj) (l:List jj),tF o l=true->∀c∈l,Qa c
 |_,[],_,c,hc=>by cases hc
 |none,d::l,h,c,hc=>by
  simp only[tF,ak]at h
  rcases cH.1 hc with rfl | hc
  ·exact sj.1 h.1
  ·exact ug _ l h.2 c hc
 |some p,d::l,h,c,hc=>by
  simp only[tF,ak]at h
  rcases cH.1 hc with rfl | hc
  ·exact sj.1 h.1
  ·exact ug _ l h.2.2 c hc
theorem J1{l:List jj}{k:Nat}(h:k < l.length):tF (yT l k) (l.drop k)=(Gl l[k] && ((decide (k=0) || zo (nth ke l (k - 1)) l[k]) && tF (yT l (k+1)) (l.drop (k+1)))):=by
 have n1:nth ke l k=l[k]:=dP (t:=ke) h
 have e2:yT l (k+1)=some l[k]:=by
  unfold yT
  rw[if_neg (by omega),Nat.add_sub_cancel,n1]
 rw[e2,aA h]
 unfold yT
 by_cases h0:k=0
 ·rw[if_pos h0,tF,aO h0,Bool.true_or,cv]
 ·rw[if_neg h0,tF,cR h0,Bool.false_or]
def jJ:List jj->Int
 |[]=>0
 |c::l=>c.2.2.1+jJ l
def l6(to:Int)(l:List jj):List jj:=l.filter λc=>nX c.1 (1 - to)
def Gs(c:jj):Prop:=0<=c.2.2.1/\c.2.2.1<=1125899906842624
theorem JT:∀(l:List jj),(∀c∈l,Gs c)->0<=jJ l/\jJ l<=1125899906842624*l.length
 |[],_=>⟨ln _,by simp[jJ]⟩
 |c::l,h=>by
  have h1:=h c bq
  have h2:=JT l λx hx=>h x (bj _ hx)
  unfold Gs at h1
  simp only[jJ,aN]
  omega
theorem yP(to:Int)(l:List jj):(l6 to l).length<=l.length:=nu _ _
theorem Ad(to:Int)(c:jj)(l:List jj):l6 to (c::l)=if nX c.1 (1 - to)=true then c::l6 to l else l6 to l:=by
 unfold l6
 rw[ix]
def ye(ch:iN)(s:jl):Bool:=
  qA s.1 0 1048576 && (qA (nth ti s.2.1 0) 0 1125899906842624 && (qA (nth ti s.2.1 1) 0 1125899906842624 && (qA s.2.2.2.1 0 1000 && (decide (s.2.2.1.length<=16) &&
   (tF none s.2.2.1 && (decide (jJ (l6 0 s.2.2.1)<=1125899906842624) && (decide (jJ (l6 1 s.2.2.1)<=1125899906842624) &&
    (nX (nth ti s.2.1 0+nth ti s.2.1 1+jJ s.2.2.1) ch.2.1 && qz (nth ti s.2.1 ch.2.2.2.2.1.toNat) (Bt s.2.2.2.1 s.2.2.1.length+660)))))))))
def uE(s:jl):Prop:=(∀c∈s.2.2.1,iw c.2.2.2.1)/\s.2.2.1.length<=1000/\s.2.1.length=2
abbrev iH.D:=Int×Int×Int
def iH.st:iH.D->SA:=λ(n,low,high)=>([.d ti n,.d ti low,.d ti high],[])
abbrev iH.Y:=Bool
abbrev iH.X:=Bool
def iH.out:iH.X->aZ:=λx=>⟨.d .bool x,[],[]⟩
def iH.add:iH.D->iH.Y->iH.X:=λ(n,low,high) y=>y
def iH.aw:iH.D->Prop:=λ_=>True
def iH.F:iH.D->iH.Y:=λ(n,lo,hi)=>qA n lo hi
def iH.G:fD:=gz (P:=Tryz.prog) []
def iH.an:fT:= {}
def iH.A:= @dq Tryz.prog iH.G iH.an 0 Tryz.f116 _ iH.st
abbrev iH.Ok:=dr @iH.A iH.aw iH.add iH.F iH.out
theorem iH.eq{R:Type}(n:Int)(low:Int)(high:Int)(k:aZ->Option R):iH.A (n,low,high) k=
  aJ ((qz n low)) (
   k (iH.out (FH n high))) (
   k (iH.out false)):=by kernel_rfl
theorem iH.ok:iH.Ok:=by
 rintro⟨n,lo,hi⟩ _
 rw[iH.eq]
 simp only[iH.add,iH.F,qA]
 have e:decide (lo<=n)=qz n lo:=rfl
 rw[e]
 cases qz n lo <;> rfl
def iH.E:=Entry.dp [some ti,some ti,some ti] iH.st iH.aw iH.add iH.F iH.out
def iH.call:iH.D->Option iH.X:=cj iH.E iH.st
theorem iH.run:cl iH.call iH.aw iH.add iH.F:=dw (du [.d ti,.d ti,.d ti] λ_=>by kernel_rfl)
def iH.sg:SG Tryz.prog:=⟨116,aP,iH.E,.fn 0 (by kernel_rfl) iH.ok trivial⟩
theorem iH.c(n lo hi:Int):iH.call (n,lo,hi)=some (qA n lo hi):=iH.run (d:=(n,lo,hi)) trivial
abbrev je.D:=Int×Int×Int
def je.st:je.D->SA:=λ(n,low,high)=>([.d ti n,.d ti low,.d ti high],[])
abbrev je.Y:=Bool
abbrev je.X:=Bool
def je.out:je.X->aZ:=λx=>⟨.d .bool x,[],[]⟩
def je.add:je.D->je.Y->je.X:=λ(n,low,high) y=>y
def je.aw:je.D->Prop:=λ_=>True
def je.F:je.D->je.Y:=λ(n,lo,hi)=>qA n lo hi
def je.G:fD:=gz (P:=Tryz.prog) []
def je.an:fT:= {}
def je.A:= @dq Tryz.prog je.G je.an 0 Tryz.f64 _ je.st
abbrev je.Ok:=dr @je.A je.aw je.add je.F je.out
theorem je.eq{R:Type}(n:Int)(low:Int)(high:Int)(k:aZ->Option R):je.A (n,low,high) k=
  aJ ((qz n low)) (
   k (je.out (FH n high))) (
   k (je.out false)):=by kernel_rfl
theorem je.ok:je.Ok:=by
 rintro⟨n,lo,hi⟩ _
 rw[je.eq]
 simp only[je.add,je.F,qA]
 have e:decide (lo<=n)=qz n lo:=rfl
 rw[e]
 cases qz n lo <;> rfl
def je.E:=Entry.dp [some ti,some ti,some ti] je.st je.aw je.add je.F je.out
def je.call:je.D->Option je.X:=cj je.E je.st
theorem je.run:cl je.call je.aw je.add je.F:=dw (du [.d ti,.d ti,.d ti] λ_=>by kernel_rfl)
def je.sg:SG Tryz.prog:=⟨64,aP,je.E,.fn 0 (by kernel_rfl) je.ok trivial⟩
theorem je.c(n lo hi:Int):je.call (n,lo,hi)=some (qA n lo hi):=je.run (d:=(n,lo,hi)) trivial
abbrev oT.D:=Int×Int×Int
def oT.st:oT.D->SA:=λ(n,low,high)=>([.d ti n,.d ti low,.d ti high],[])
abbrev oT.Y:=Bool
abbrev oT.X:=Bool
def oT.out:oT.X->aZ:=λx=>⟨.d .bool x,[],[]⟩
def oT.add:oT.D->oT.Y->oT.X:=λ(n,low,high) y=>y
def oT.aw:oT.D->Prop:=λ_=>True
def oT.F:oT.D->oT.Y:=λ(n,lo,hi)=>qA n lo hi
def oT.G:fD:=gz (P:=Tryz.prog) []
def oT.an:fT:= {}
def oT.A:= @dq Tryz.prog oT.G oT.an 0 Tryz.f168 _ oT.st
abbrev oT.Ok:=dr @oT.A oT.aw oT.add oT.F oT.out
theorem oT.eq{R:Type}(n:Int)(low:Int)(high:Int)(k:aZ->Option R):oT.A (n,low,high) k=
  aJ ((FH low n)) (
   k (oT.out (FH n high))) (
   k (oT.out false)):=by kernel_rfl
theorem oT.ok:oT.Ok:=by
 rintro⟨n,lo,hi⟩ _
 rw[oT.eq]
 simp only[oT.add,oT.F,qA]
 have e:decide (lo<=n)=FH lo n:=rfl
 rw[e]
 cases FH lo n <;> rfl
def oT.E:=Entry.dp [some ti,some ti,some ti] oT.st oT.aw oT.add oT.F oT.out
def oT.call:oT.D->Option oT.X:=cj oT.E oT.st
theorem oT.run:cl oT.call oT.aw oT.add oT.F:=dw (du [.d ti,.d ti,.d ti] λ_=>by kernel_rfl)
def oT.sg:SG Tryz.prog:=⟨168,aP,oT.E,.fn 0 (by kernel_rfl) oT.ok trivial⟩
theorem oT.c(n lo hi:Int):oT.call (n,lo,hi)=some (qA n lo hi):=oT.run (d:=(n,lo,hi)) trivial
abbrev pV.D:=Int
def pV.st:pV.D->SA:=λconds=>([.d ti conds],[])
abbrev pV.Y:=Int
abbrev pV.X:=Int
def pV.out:pV.X->aZ:=λx=>⟨.d ti x,[],[]⟩
def pV.add:pV.D->pV.Y->pV.X:=λconds y=>y
def pV.aw:pV.D->Prop:=λ_=>True
def pV.F:pV.D->pV.Y:=λn=>OG n
def pV.G:fD:=gz (P:=Tryz.prog) [iH.sg]
def pV.an:fT:= {}
def pV.A:= @dq Tryz.prog pV.G pV.an 0 Tryz.f158 _ pV.st
abbrev pV.Ok:=dr @pV.A pV.aw pV.add pV.F pV.out
theorem pV.eq{R:Type}(conds:Int)(k:aZ->Option R):pV.A conds k=
  aj (iH.call (conds,(0:Int),(16:Int))) λx1=>
  aJ ((!x1)) (
   k (pV.out (0:Int))) (
   k (pV.out (bO .i64 (36:Int) (gJ .i64 (bO .i64 (4:Int) conds) (8:Int))))):=by kernel_rfl
theorem pV.ok:pV.Ok:=by
 intro(n:Int) _
 rw[pV.eq,iH.c]
 simp only[ab,pV.add,pV.F,OG]
 by_cases h:0<=n/\n<=16
 ·rw[la h.1 h.2,if_pos h,bY,ai,show bO .i64 4 n=4+n from ff (by omega) (by omega),nf (by omega) (by omega),ff (by omega) (by omega)]
  rw[show(36+(4+n)*8:Int)=68+8*n by omega]
 ·rw[pc h,if_neg h];rfl
def pV.E:=Entry.dp [some ti] pV.st pV.aw pV.add pV.F pV.out
def pV.call:pV.D->Option pV.X:=cj pV.E pV.st
theorem pV.run:cl pV.call pV.aw pV.add pV.F:=dw (du [.d ti] λ_=>by kernel_rfl)
def pV.sg:SG Tryz.prog:=⟨158,aP,pV.E,.fn 0 (by kernel_rfl) pV.ok trivial⟩
abbrev gG.D:=Int×Int
def gG.st:gG.D->SA:=λ(bP,conds)=>([.d ti bP,.d ti conds],[])
abbrev gG.Y:=Int
abbrev gG.X:=Int
def gG.out:gG.X->aZ:=λx=>⟨.d ti x,[],[]⟩
def gG.add:gG.D->gG.Y->gG.X:=λ(bP,conds) y=>y
def gG.aw:gG.D->Prop:=λ_=>True
def gG.F:gG.D->gG.Y:=λ(r,n)=>Bt r n
def gG.G:fD:=gz (P:=Tryz.prog) [iH.sg,pV.sg]
def gG.an:fT:= {}
def gG.A:= @dq Tryz.prog gG.G gG.an 0 Tryz.f120 _ gG.st
abbrev gG.Ok:=dr @gG.A gG.aw gG.add gG.F gG.out
theorem gG.eq{R:Type}(bP:Int)(conds:Int)(k:aZ->Option R):gG.A (bP,conds) k=
  aj (iH.call (bP,(0:Int),(1000:Int))) λx1=>
  aJ ((!x1)) (
   k (gG.out (0:Int))) (
   aj (pV.call conds) λx2=>
   k (gG.out (gJ .i64 bP x2))):=by kernel_rfl
theorem gG.ok:gG.Ok:=by
 rintro⟨r,n⟩ _
 rw[gG.eq,iH.c]
 simp only[ab,gG.add,gG.F,Bt]
 by_cases h:0<=r/\r<=1000
 ·have hw:=JK n
  have hm:=BB h.1 h.2 hw.1 hw.2
  rw[la h.1 h.2,if_pos h,bY,ai,pV.run (d:=n) trivial]
  simp only[ab,pV.add,pV.F]
  rw[nf (by omega) (by omega)]
 ·rw[pc h,if_neg h];rfl
def gG.E:=Entry.dp [some ti,some ti] gG.st gG.aw gG.add gG.F gG.out
def gG.call:gG.D->Option gG.X:=cj gG.E gG.st
theorem gG.run:cl gG.call gG.aw gG.add gG.F:=dw (du [.d ti,.d ti] λ_=>by kernel_rfl)
def gG.sg:SG Tryz.prog:=⟨120,aP,gG.E,.fn 0 (by kernel_rfl) gG.ok trivial⟩
abbrev dk.D:=Int
def dk.st:dk.D->SA:=λconds=>([.d ti conds],[])
abbrev dk.Y:=Int
abbrev dk.X:=Int
def dk.out:dk.X->aZ:=λx=>⟨.d ti x,[],[]⟩
def dk.add:dk.D->dk.Y->dk.X:=λconds y=>y
def dk.aw:dk.D->Prop:=λ_=>True
def dk.F:dk.D->dk.Y:=λn=>OG n
def dk.G:fD:=gz (P:=Tryz.prog) []
def dk.an:fT:= {}
def dk.A:= @dq Tryz.prog dk.G dk.an 0 Tryz.f43 _ dk.st
abbrev dk.Ok:=dr @dk.A dk.aw dk.add dk.F dk.out
theorem dk.eq{R:Type}(conds:Int)(k:aZ->Option R):dk.A conds k=
  aJ ((jK conds (0:Int))) (
   k (dk.out (0:Int))) (
   aJ ((so conds (16:Int))) (
    k (dk.out (0:Int))) (
    k (dk.out (bO .i64 (68:Int) (gJ .i64 (8:Int) conds))))):=by kernel_rfl
theorem dk.ok:dk.Ok:=by
 intro(n:Int) _
 rw[dk.eq]
 simp only[dk.add,dk.F,OG]
 by_cases h:n < 0
 ·rw[bI h,ah,if_neg (by omega)]
 ·rw[bp h,ai]
  by_cases h2:n > 16
  ·rw[fA h2,ah,if_neg (by omega)]
  ·rw[dW h2,ai,if_pos ⟨by omega,by omega⟩,nf (by omega) (by omega),ff (by omega) (by omega)]
def dk.E:=Entry.dp [some ti] dk.st dk.aw dk.add dk.F dk.out
def dk.call:dk.D->Option dk.X:=cj dk.E dk.st
theorem dk.run:cl dk.call dk.aw dk.add dk.F:=dw (du [.d ti] λ_=>by kernel_rfl)
def dk.sg:SG Tryz.prog:=⟨43,aP,dk.E,.fn 0 (by kernel_rfl) dk.ok trivial⟩
abbrev fZ.D:=Int×Int
def fZ.st:fZ.D->SA:=λ(bP,conds)=>([.d ti bP,.d ti conds],[])
abbrev fZ.Y:=Int
abbrev fZ.X:=Int
def fZ.out:fZ.X->aZ:=λx=>⟨.d ti x,[],[]⟩
def fZ.add:fZ.D->fZ.Y->fZ.X:=λ(bP,conds) y=>y
def fZ.aw:fZ.D->Prop:=λ_=>True
def fZ.F:fZ.D->fZ.Y:=λ(r,n)=>Bt r n
def fZ.G:fD:=gz (P:=Tryz.prog) [dk.sg]
def fZ.an:fT:= {}
def fZ.A:= @dq Tryz.prog fZ.G fZ.an 0 Tryz.f16 _ fZ.st
abbrev fZ.Ok:=dr @fZ.A fZ.aw fZ.add fZ.F fZ.out
theorem fZ.eq{R:Type}(bP:Int)(conds:Int)(k:aZ->Option R):fZ.A (bP,conds) k=
  aJ ((jK bP (0:Int))) (
   k (fZ.out (0:Int))) (
   aJ ((so bP (1000:Int))) (
    k (fZ.out (0:Int))) (
    aj (dk.call conds) λx1=>
    k (fZ.out (gJ .i64 bP x1)))):=by kernel_rfl
theorem fZ.ok:fZ.Ok:=by
 rintro⟨r,n⟩ _
 rw[fZ.eq]
 simp only[fZ.add,fZ.F,Bt]
 by_cases h:r < 0
 ·rw[bI h,ah,if_neg (by omega)]
 ·rw[bp h,ai]
  by_cases h2:r > 1000
  ·rw[fA h2,ah,if_neg (by omega)]
  ·have hw:=JK n
   have hm:=BB (r:=r) (by omega) (show r<=1000 by omega) hw.1 hw.2
   rw[dW h2,ai,if_pos ⟨by omega,by omega⟩,dk.run (d:=n) trivial]
   simp only[ab,dk.add,dk.F]
   rw[nf (by omega) (by omega)]
def fZ.E:=Entry.dp [some ti,some ti] fZ.st fZ.aw fZ.add fZ.F fZ.out
def fZ.call:fZ.D->Option fZ.X:=cj fZ.E fZ.st
theorem fZ.run:cl fZ.call fZ.aw fZ.add fZ.F:=dw (du [.d ti,.d ti] λ_=>by kernel_rfl)
def fZ.sg:SG Tryz.prog:=⟨16,aP,fZ.E,.fn 0 (by kernel_rfl) fZ.ok trivial⟩
abbrev dR.D:=Ml×Int
def dR.st:dR.D->SA:=λ(t,amount)=>([.d oP t,.d ti amount],[])
abbrev dR.Y:=Bool
abbrev dR.X:=Bool
def dR.out:dR.X->aZ:=λx=>⟨.d .bool x,[],[]⟩
def dR.add:dR.D->dR.Y->dR.X:=λ(t,amount) y=>y
def dR.aw:dR.D->Prop:=λ_=>True
def dR.F:dR.D->dR.Y:=λ(t,n)=>qz n t.1
def dR.G:fD:=gz (P:=Tryz.prog) []
def dR.an:fT:= {}
def dR.A:= @dq Tryz.prog dR.G dR.an 0 Tryz.f14 _ dR.st
abbrev dR.Ok:=dr @dR.A dR.aw dR.add dR.F dR.out
theorem dR.eq{R:Type}(t:Ml)(amount:Int)(k:aZ->Option R):dR.A (t,amount) k=
 k (dR.out (qz amount t.1)):=by kernel_rfl
theorem dR.ok:dR.Ok:=by
 rintro⟨t,n⟩ _
 rw[dR.eq]
 rfl
def dR.E:=Entry.dp [some oP,some ti] dR.st dR.aw dR.add dR.F dR.out
def dR.call:dR.D->Option dR.X:=cj dR.E dR.st
theorem dR.run:cl dR.call dR.aw dR.add dR.F:=dw (du [.d oP,.d ti] λ_=>by kernel_rfl)
def dR.sg:SG Tryz.prog:=⟨14,aP,dR.E,.fn 0 (by kernel_rfl) dR.ok trivial⟩
abbrev pQ.D:=Ml
def pQ.st:pQ.D->SA:=λt=>([.d oP t],[])
abbrev pQ.Y:=Bool
abbrev pQ.X:=Bool
def pQ.out:pQ.X->aZ:=λx=>⟨.d .bool x,[],[]⟩
def pQ.add:pQ.D->pQ.Y->pQ.X:=λt y=>y
def pQ.aw:pQ.D->Prop:=λt=>t=te 5\/t=te 6
def pQ.F:pQ.D->pQ.Y:=λ_=>true
def pQ.G:fD:=gz (P:=Tryz.prog) [iH.sg]
def pQ.an:fT:= {}
def pQ.A:= @dq Tryz.prog pQ.G pQ.an 0 Tryz.f117 _ pQ.st
abbrev pQ.Ok:=dr @pQ.A pQ.aw pQ.add pQ.F pQ.out
theorem pQ.eq{R:Type}(t:Ml)(k:aZ->Option R):pQ.A t k=
  aj (iH.call (t.1,(0:Int),(65536:Int))) λx1=>
  aJ (x1) (
   aj (iH.call (t.2.1,t.1,(1125899906842624:Int))) λx2=>
   aJ (x2) (
    aj (iH.call (t.2.2.1,(1:Int),(4096:Int))) λx3=>
    aJ (x3) (
     aj (iH.call (t.2.2.2.1,(0:Int),(16:Int))) λx4=>
     aJ (x4) (
      aj (iH.call (t.2.2.2.2.1,(1:Int),(1125899906842624:Int))) λx5=>
      aJ (x5) (
       aj (iH.call (t.2.2.2.2.2.1,(0:Int),(1125899906842624:Int))) λx6=>
       k (pQ.out x6)) (
       k (pQ.out false))) (
      k (pQ.out false))) (
     k (pQ.out false))) (
    k (pQ.out false))) (
   k (pQ.out false)):=by kernel_rfl
theorem pQ.ok:pQ.Ok:=by
 rintro t (rfl | rfl) <;> (rw[pQ.eq];simp only[iH.c,ab];rfl)
def pQ.E:=Entry.dp [some oP] pQ.st pQ.aw pQ.add pQ.F pQ.out
def pQ.call:pQ.D->Option pQ.X:=cj pQ.E pQ.st
theorem pQ.run:cl pQ.call pQ.aw pQ.add pQ.F:=dw (du [.d oP] λ_=>by kernel_rfl)
def pQ.sg:SG Tryz.prog:=⟨117,aP,pQ.E,.fn 0 (by kernel_rfl) pQ.ok trivial⟩
abbrev dM.D:=Ml
def dM.st:dM.D->SA:=λt=>([.d oP t],[])
abbrev dM.Y:=Bool
abbrev dM.X:=Bool
def dM.out:dM.X->aZ:=λx=>⟨.d .bool x,[],[]⟩
def dM.add:dM.D->dM.Y->dM.X:=λt y=>y
def dM.aw:dM.D->Prop:=λt=>t=te 5\/t=te 6
def dM.F:dM.D->dM.Y:=λ_=>true
def dM.G:fD:=gz (P:=Tryz.prog) [oT.sg]
def dM.an:fT:= {}
def dM.A:= @dq Tryz.prog dM.G dM.an 0 Tryz.f134 _ dM.st
abbrev dM.Ok:=dr @dM.A dM.aw dM.add dM.F dM.out
theorem dM.eq{R:Type}(t:Ml)(k:aZ->Option R):dM.A t k=
  aj (oT.call (t.1,(0:Int),(65536:Int))) λx1=>
  aJ (x1) (
   aj (oT.call (t.2.2.1,(1:Int),(4096:Int))) λx2=>
   aJ (x2) (
    aj (oT.call (t.2.2.2.1,(0:Int),(16:Int))) λx3=>
    aJ (x3) (
     aj (oT.call (t.2.1,t.1,(1125899906842624:Int))) λx4=>
     aJ (x4) (
      aj (oT.call (t.2.2.2.2.1,(1:Int),(1125899906842624:Int))) λx5=>
      aJ (x5) (
       aj (oT.call (t.2.2.2.2.2.1,(0:Int),(1125899906842624:Int))) λx6=>
       k (dM.out x6)) (
       k (dM.out false))) (
      k (dM.out false))) (
     k (dM.out false))) (
    k (dM.out false))) (
   k (dM.out false)):=by kernel_rfl
theorem dM.ok:dM.Ok:=by
 rintro t (rfl | rfl) <;> (rw[dM.eq];simp only[oT.c,ab];rfl)
def dM.E:=Entry.dp [some oP] dM.st dM.aw dM.add dM.F dM.out
def dM.call:dM.D->Option dM.X:=cj dM.E dM.st
theorem dM.run:cl dM.call dM.aw dM.add dM.F:=dw (du [.d oP] λ_=>by kernel_rfl)
def dM.sg:SG Tryz.prog:=⟨134,aP,dM.E,.fn 0 (by kernel_rfl) dM.ok trivial⟩
abbrev fM.D:=Int
def fM.st:fM.D->SA:=λp=>([.d tu p],[])
abbrev fM.Y:=Bool
abbrev fM.X:=Bool
def fM.out:fM.X->aZ:=λx=>⟨.d .bool x,[],[]⟩
def fM.add:fM.D->fM.Y->fM.X:=λp y=>y
def fM.aw:fM.D->Prop:=λp=>iw p
def fM.F:fM.D->fM.Y:=λp=>D3 p
def fM.G:fD:=gz (P:=Tryz.prog) [dv.sg]
def fM.an:fT:= {}
def fM.A:= @dq Tryz.prog fM.G fM.an 0 Tryz.f118 _ fM.st
abbrev fM.Ok:=dr @fM.A fM.aw fM.add fM.F fM.out
theorem fM.eq{R:Type}(p:Int)(k:aZ->Option R):fM.A p k=
  aj (dv.call p) λx1=>
  aJ (x1) (
   k (fM.out (rN p (1:Int)))) (
   k (fM.out false)):=by kernel_rfl
theorem fM.ok:fM.Ok:=by
 intro p hp
 rw[fM.eq,dv.run (d:=p) hp]
 simp only[ab,dv.add,dv.F,fM.add,fM.F,D3]
 cases oS p <;> rfl
def fM.E:=Entry.dp [some tu] fM.st fM.aw fM.add fM.F fM.out
def fM.call:fM.D->Option fM.X:=cj fM.E fM.st
theorem fM.run:cl fM.call fM.aw fM.add fM.F:=dw (du [.d tu] λ_=>by kernel_rfl)
def fM.sg:SG Tryz.prog:=⟨118,aP,fM.E,.fn 0 (by kernel_rfl) fM.ok trivial⟩
theorem fM.g{p:Int}(h:MA p):fM.call p=some true:=by
 rw[fM.run (d:=p) h.1]
 simp only[fM.add,fM.F,h.2]
abbrev cC.L0.D:=iN×Int
def cC.L0.st:cC.L0.D->AS:=λ(jB,i)=>⟨([.undef,.gE nb jB,.undef,.d ti i]++bG 67 []),[],(List.replicate 71 [])⟩
abbrev cC.L0.Y0:=Unit
abbrev cC.L0.X0:=Unit
def cC.L0.bV:cC.L0.X0->Exit×AS:=λx=>(.ret,⟨([.undef,.undef,.d ti (1:Int)]++bG 68 []),[],(List.replicate 71 [])⟩)
abbrev cC.L0.Y1:=Unit
abbrev cC.L0.X1:=iN
def cC.L0.kI:cC.L0.X1->Exit×AS:=λx=>(.exit 0,⟨([.undef,.gE nb x]++bG 69 []),[],(List.replicate 71 [])⟩)
abbrev cC.L0.X:=(cC.L0.X0)⊕(cC.L0.X1)
abbrev cC.L0.Y:=(cC.L0.Y0)⊕(cC.L0.Y1)
def cC.L0.out:cC.L0.X->Out (Exit×AS):=λx=> .br x.isLeft (.get x.getLeft? λa=> .ok (cC.L0.bV a)) (.get x.getRight? λb=> .ok (cC.L0.kI b))
def cC.L0.add:cC.L0.D->cC.L0.Y->cC.L0.X:=λ(jB,i) y=>match y with | .inl y=> .inl y | .inr z=> .inr (jB)
abbrev cC.D:=iN
def cC.st:cC.D->SA:=λch=>([.d nb ch],[])
abbrev cC.Y:=Int
abbrev cC.X:=Int
def cC.out:cC.X->aZ:=λx=>⟨.d ti x,[],[]⟩
def cC.add:cC.D->cC.Y->cC.X:=λch y=>y
def cC.L0.aw:cC.L0.D->Prop:=λ(ch,i)=>ns ch/\∃k:Nat,k<=2/\i=k
def cC.L0.F:cC.L0.D->cC.L0.Y:=λ_=> .inr ()
def cC.aw:cC.D->Prop:=λch=>ns ch
def cC.F:cC.D->cC.Y:=λ_=>0
def cC.G:fD:=gz (P:=Tryz.prog) [iH.sg,pQ.sg,fM.sg]
def cC.L0.E:=cV.dp cC.L0.st cC.L0.aw cC.L0.add cC.L0.F cC.L0.out
def cC.L0.call:cC.L0.D->Option cC.L0.X:=eI cC.L0.E cC.L0.st
def cC.an:fT:= {loops:=oF [(4,{bS:=[1,3]}),(11,{bS:=[1,3,5,6],sites:=[4,9,15,21,47,57]})],outs:=oE [(4,{bS:=[1]},{bS:=[2]}),(11,{bS:=[1,3],sites:=[4,9,15,21,47,57]},{bS:=[2],sites:=[4,9,15,21,47,57]})],jw:=pL [(4,cC.L0.E)]}
def cC.A:= @dq Tryz.prog cC.G cC.an 6 Tryz.f63 _ cC.st
abbrev cC.Ok:=dr @cC.A cC.aw cC.add cC.F cC.out
def cC.L0.R:= @dn Tryz.prog cC.G cC.an 6 Tryz.f63 0 _ cC.L0.st
abbrev cC.L0.Ok:=gw Tryz.prog cC.G cC.an 6 Tryz.f63 0 cC.L0.st cC.L0.aw cC.L0.add cC.L0.F cC.L0.out
theorem cC.L0.run:cl cC.L0.call cC.L0.aw cC.L0.add cC.L0.F:=gT (gS [.d nb,.d ti] λ_=>by kernel_rfl)
theorem cC.L0.aI:sB @cC.L0.R cC.L0.st cC.L0.aw cC.L0.add cC.L0.F cC.L0.out cC.L0.Ok:=s8
theorem cC.L0.step{R:Type}(jB:iN)(i:Int)(kn:AS->Option R)(kx:Exit->AS->Option R):cC.L0.R (jB,i) kn kx=
  aJ ((jK i (2:Int))) (
   aJ (fp i (2:Int)) (
   aJ (fp i (2:Int)) (
   aj (pQ.call (nth oP jB.2.2.2.1 (Int.toNat i))) λx1=>
   aJ ((!x1)) (
    kx (cC.L0.bV ()).1 (cC.L0.bV ()).2) (
    aj (fM.call (nth qt jB.2.2.1 (Int.toNat i)).1) λx2=>
    aJ ((!x2)) (
     kx (cC.L0.bV ()).1 (cC.L0.bV ()).2) (
     aj (fM.call (nth qt jB.2.2.1 (Int.toNat i)).2.1) λx3=>
     aJ ((!x3)) (
      kx (cC.L0.bV ()).1 (cC.L0.bV ()).2) (
      aj (fM.call (nth qt jB.2.2.1 (Int.toNat i)).2.2.1) λx4=>
      aJ ((!x4)) (
       kx (cC.L0.bV ()).1 (cC.L0.bV ()).2) (
       aj (fM.call (nth qt jB.2.2.1 (Int.toNat i)).2.2.2.1) λx5=>
       aJ ((!x5)) (
        kx (cC.L0.bV ()).1 (cC.L0.bV ()).2) (
        aj (fM.call (nth qt jB.2.2.1 (Int.toNat i)).2.2.2.2.1) λx6=>
        aJ ((!x6)) (
         kx (cC.L0.bV ()).1 (cC.L0.bV ()).2) (
         kn (cC.L0.st (jB,(bO .i64 i (1:Int))))))))))) none) none) (
   kx (cC.L0.kI jB).1 (cC.L0.kI jB).2):=by kernel_rfl
theorem cC.eq{R:Type}(ch:iN)(k:aZ->Option R):cC.A ch k=
  aj (iH.call (ch.2.1,(1:Int),(1125899906842624:Int))) λx1=>
  aJ ((!x1)) (
   k (cC.out (1:Int))) (
   aj (iH.call (ch.1.2.1,(0:Int),(63:Int))) λx2=>
   aJ ((!x2)) (
    k (cC.out (1:Int))) (
    aj (iH.call (ch.2.2.2.2.1,(0:Int),(1:Int))) λx3=>
    aJ ((!x3)) (
     k (cC.out (1:Int))) (
     aj (cC.L0.call (ch,(0:Int))) λzm=>
     aJ (zm.isLeft) (
      aj (zm.getLeft?) λa11=>
      k (cC.out (1:Int))) (
      aj (zm.getRight?) λb12=>
      aJ ((so (bO .i64 (nth oP b12.2.2.2.1 0).2.1 (nth oP b12.2.2.2.1 1).2.1) b12.2.1)) (
       k (cC.out (10:Int))) (
       k (cC.out (0:Int))))))):=by kernel_rfl
theorem cC.L0.ok:cC.L0.Ok:=by
 refine cC.L0.aI (λ(_,i)=>(2 - i).toNat) ?_
 rintro⟨ch,i⟩ ⟨⟨a,b0,b1,o,rfl,ha,TB,g0,g1,ho⟩,k,hk,rfl⟩
 have hk:k<=2:=hk
 have hg:ns (xf a b0 b1 o):=⟨a,b0,b1,o,rfl,ha,TB,g0,g1,ho⟩
 by_cases h:k < 2
 ·left
  refine⟨(xf a b0 b1 o,((k+1:Nat):Int)),⟨hg,k+1,by omega,rfl⟩,by show(2 - ((k+1:Nat):Int)).toNat < (2 - (k:Int)).toNat;omega,rfl,λkn kx=> ?_⟩
  have ht:nth oP [te 5,te 6] k=te 5\/nth oP [te 5,te 6] k=te 6:=by
   obtain rfl | rfl:k=0\/k=1:=by omega
   ·exact .inl rfl
   ·exact .inr rfl
  have hb:Q4 (nth qt [b0,b1] k):=by
   obtain rfl | rfl:k=0\/k=1:=by omega
   ·exact g0
   ·exact g1
  rw[cC.L0.step,bI (by omega),ah,bF (by omega) (by omega),ah,ah,aa]
  simp only[xf]
  rw[pQ.run (d:=nth oP [te 5,te 6] k) ht]
  simp only[ab,pQ.add,pQ.F,bY,ai]
  rw[fM.g hb.1]
  simp only[ab,bY,ai]
  rw[fM.g hb.2.1]
  simp only[ab,bY,ai]
  rw[fM.g hb.2.2.1]
  simp only[ab,bY,ai]
  rw[fM.g hb.2.2.2.1]
  simp only[ab,bY,ai]
  rw[fM.g hb.2.2.2.2]
  simp only[ab,bY,ai]
  rw[N.pJ (by omega)]
 ·right
  obtain rfl:k=2:=by omega
  refine⟨cC.L0.kI (xf a b0 b1 o),rfl,λkn kx=> ?_⟩
  rw[cC.L0.step,bp (by omega),ai]
theorem cC.ok:cC.Ok:=by
 rintro ch hg
 obtain⟨a,b0,b1,o,rfl,ha,TB,g0,g1,ho⟩:=id hg
 rw[cC.eq,iH.c,iH.c,iH.c]
 simp only[xf,ab]
 rw[la (by omega) (by omega),la (by omega) (by omega),la (by omega) (by omega)]
 simp only[bY,ai]
 have:=cC.L0.run (d:=(xf a b0 b1 o,0)) ⟨hg,0,by omega,rfl⟩
 simp only[xf]at this
 rw[this]
 simp only[ab,cC.L0.add,cC.L0.F,iZ,ai,gO]
 rw[show(bO .i64 (nth oP [te 5,te 6] 0).2.1 (nth oP [te 5,te 6] 1).2.1)=400 from rfl,dW (by omega),ai]
 rfl
def cC.E:=Entry.dp [some nb] cC.st cC.aw cC.add cC.F cC.out
def cC.call:cC.D->Option cC.X:=cj cC.E cC.st
theorem cC.run:cl cC.call cC.aw cC.add cC.F:=dw (du [.d nb] λ_=>by kernel_rfl)
def cC.sg:SG Tryz.prog:=⟨63,aP,cC.E,.fn 2 (by kernel_rfl) cC.ok (And.intro (.dp cC.L0.ok (by kernel_rfl)) (And.intro (.none (by kernel_rfl)) trivial))⟩
abbrev j8.D:=Int
def j8.st:j8.D->SA:=λp=>([.d tu p],[])
abbrev j8.Y:=Bool
abbrev j8.X:=Bool
def j8.out:j8.X->aZ:=λx=>⟨.d .bool x,[],[]⟩
def j8.add:j8.D->j8.Y->j8.X:=λp y=>y
def j8.aw:j8.D->Prop:=λp=>iw p
def j8.F:j8.D->j8.Y:=λp=> !D3 p
def j8.G:fD:=gz (P:=Tryz.prog) [dy.sg]
def j8.an:fT:= {}
def j8.A:= @dq Tryz.prog j8.G j8.an 0 Tryz.f169 _ j8.st
abbrev j8.Ok:=dr @j8.A j8.aw j8.add j8.F j8.out
theorem j8.eq{R:Type}(p:Int)(k:aZ->Option R):j8.A p k=
  aJ ((nX p (1:Int))) (
   k (j8.out true)) (
   aj (dy.call p) λx1=>
   k (j8.out (!x1))):=by kernel_rfl
theorem j8.ok:j8.Ok:=by
 intro p hp
 rw[j8.eq]
 simp only[j8.add,j8.F,D3]
 by_cases h:p=1
 ·rw[iE h,ah,gK h,lB];rfl
 ·rw[fJ h,ai,dy.run (d:=p) hp,kN h,lk]
  rfl
def j8.E:=Entry.dp [some tu] j8.st j8.aw j8.add j8.F j8.out
def j8.call:j8.D->Option j8.X:=cj j8.E j8.st
theorem j8.run:cl j8.call j8.aw j8.add j8.F:=dw (du [.d tu] λ_=>by kernel_rfl)
def j8.sg:SG Tryz.prog:=⟨169,aP,j8.E,.fn 0 (by kernel_rfl) j8.ok trivial⟩
abbrev iK.L0.D:=Bs×Int×Int
def iK.L0.st:iK.L0.D->AS:=λ(ee,t7,t8)=>⟨([.d tU ee,.fn 169 (.nil)]++bG 5 ([.d ti t7,.d ti t8]++bG 10 [])),[],(List.replicate 19 [])⟩
abbrev iK.L0.Y0:=Int
abbrev iK.L0.X0:=Int
def iK.L0.bV:iK.L0.X0->Exit×AS:=λx=>(.ret,⟨(bG 4 ([.d ti x]++bG 14 [])),[],(List.replicate 19 [])⟩)
abbrev iK.L0.Y1:=Unit
abbrev iK.L0.X1:=Unit
def iK.L0.kI:iK.L0.X1->Exit×AS:=λx=>(.exit 0,⟨(bG 19 []),[],(List.replicate 19 [])⟩)
abbrev iK.L0.X:=(iK.L0.X0)⊕(iK.L0.X1)
abbrev iK.L0.Y:=(iK.L0.Y0)⊕(iK.L0.Y1)
def iK.L0.out:iK.L0.X->Out (Exit×AS):=λx=> .br x.isLeft (.get x.getLeft? λa=> .ok (iK.L0.bV a)) (.get x.getRight? λb=> .ok (iK.L0.kI b))
def iK.L0.add:iK.L0.D->iK.L0.Y->iK.L0.X:=λ(ee,t7,t8) y=>match y with | .inl y=> .inl y | .inr z=> .inr (z)
abbrev iK.D:=Bs
def iK.st:iK.D->SA:=λsv=>([.d tU sv,.fn 169 (.nil)],[])
abbrev iK.Y:=Int
abbrev iK.X:=Int
def iK.out:iK.X->aZ:=λx=>⟨.d ti x,[],[]⟩
def iK.add:iK.D->iK.Y->iK.X:=λsv y=>y
def iK.L0.aw:iK.L0.D->Prop:=λ(l,n,i)=>(∀x∈l,iw x)/\l.length<=1000000000/\n=l.length/\∃k:Nat,k<=l.length/\i=k
def iK.L0.F:iK.L0.D->iK.L0.Y:=λ(l,n,i)=>tN (λp=> !D3 p) (l.drop i.toNat) i
def iK.aw:iK.D->Prop:=λl=>(∀x∈l,iw x)/\l.length<=1000000000
def iK.F:iK.D->iK.Y:=λl=>DO (λp=> !D3 p) l
def iK.G:fD:=gz (P:=Tryz.prog) [j8.sg]
def iK.L0.E:=cV.dp iK.L0.st iK.L0.aw iK.L0.add iK.L0.F iK.L0.out
def iK.L0.call:iK.L0.D->Option iK.L0.X:=eI iK.L0.E iK.L0.st
def iK.an:fT:= {loops:=oF [(2,{bS:=[0,1,7,8]})],outs:=oE [(2,{},{bS:=[4]})],jw:=pL [(2,iK.L0.E)]}
def iK.A:= @dq Tryz.prog iK.G iK.an 0 Tryz.f77 _ iK.st
abbrev iK.Ok:=dr @iK.A iK.aw iK.add iK.F iK.out
def iK.L0.R:= @dn Tryz.prog iK.G iK.an 0 Tryz.f77 0 _ iK.L0.st
abbrev iK.L0.Ok:=gw Tryz.prog iK.G iK.an 0 Tryz.f77 0 iK.L0.st iK.L0.aw iK.L0.add iK.L0.F iK.L0.out
theorem iK.L0.run:cl iK.L0.call iK.L0.aw iK.L0.add iK.L0.F:=gT (gS [.d tU,.d ti,.d ti] λ_=>by kernel_rfl)
theorem iK.L0.aI:sB @iK.L0.R iK.L0.st iK.L0.aw iK.L0.add iK.L0.F iK.L0.out iK.L0.Ok:=s8
theorem iK.L0.step{R:Type}(ee:Bs)(t7:Int)(t8:Int)(kn:AS->Option R)(kx:Exit->AS->Option R):iK.L0.R (ee,t7,t8) kn kx=
  aJ ((jK t8 t7)) (
   aJ (fp t8 (((List.length ee):Nat):Int)) (
   aj (j8.call (nth tu ee (Int.toNat t8))) λx1=>
   aJ (x1) (
    kx (iK.L0.bV t8).1 (iK.L0.bV t8).2) (
    kn (iK.L0.st (ee,t7,(bO .i64 t8 (1:Int)))))) none) (
   kx (iK.L0.kI ()).1 (iK.L0.kI ()).2):=by kernel_rfl
theorem iK.eq{R:Type}(sv:Bs)(k:aZ->Option R):iK.A sv k=
  aj (iK.L0.call (sv,(((List.length sv):Nat):Int),(0:Int))) λx2=>
  aJ (x2.isLeft) (
   aj (x2.getLeft?) λa3=>
   k (iK.out a3)) (
   aj (x2.getRight?) λb4=>
   k (iK.out (-1:Int))):=by kernel_rfl
theorem iK.L0.ok:iK.L0.Ok:=by
 refine iK.L0.aI (λ(l,n,i)=>l.length - i.toNat) ?_
 rintro⟨l,n,i⟩ ⟨hl,hb,rfl,k,hk,rfl⟩
 have hb:l.length<=1000000000:=hb
 have hk:k<=l.length:=hk
 by_cases h:k < l.length
 ·have hx:=hl _ (List.getElem_mem h)
  have n1:nth tu l k=l[k]:=dP (t:=tu) h
  have hd:tN (λp=> !D3 p) (l.drop k) k=if(λp=> !D3 p) l[k] then .inl (k:Int) else tN (λp=> !D3 p) (l.drop (k+1)) ((k+1:Nat):Int):=by rw[aA h];rfl
  have step:∀ {R:Type} (kn:AS->Option R) (kx:Exit->AS->Option R),iK.L0.R (l,(l.length:Int),(k:Int)) kn kx=aJ ((λp=> !D3 p) l[k]) (kx (iK.L0.bV (k:Int)).1 (iK.L0.bV (k:Int)).2) (kn (iK.L0.st (l,(l.length:Int),((k+1:Nat):Int)))):=by
   intro R kn kx
   rw[iK.L0.step,bI (by omega),bF (by omega) (by omega),aa,n1,j8.run (d:=l[k]) hx,N.pJ (by omega)]
   rfl
  cases hp:(λp=> !D3 p) l[k]
  ·left
   refine⟨(l,l.length,((k+1:Nat):Int)),⟨hl,hb,rfl,k+1,by omega,rfl⟩,by simp only[aa];omega,?_,λkn kx=> ?_⟩
   ·simp only[iK.L0.add,iK.L0.F,aa,hd,hp,cF,if_false]
   ·rw[step,hp,ai]
  ·right
   refine⟨iK.L0.bV (k:Int),?_,λkn kx=> ?_⟩
   ·simp only[iK.L0.add,iK.L0.F,aa,hd,hp,if_true]
    rfl
   ·rw[step,hp,ah]
 ·right
  obtain rfl:k=l.length:=by omega
  refine⟨iK.L0.kI (),?_,λkn kx=> ?_⟩
  ·simp only[iK.L0.add,iK.L0.F,aa,bH]
   rfl
  ·rw[iK.L0.step,bp (by omega),ai]
theorem iK.ok:iK.Ok:=by
 rintro l ⟨hl,hb⟩
 rw[iK.eq,iK.L0.run (d:=(l,l.length,0)) ⟨hl,hb,rfl,0,by omega,rfl⟩]
 simp only[ab,iK.L0.add,iK.L0.F,bK,aW,iK.add,iK.F,DO]
 cases tN (λp=> !D3 p) l 0 <;> rfl
def iK.E:=Entry.dp [some tU,none] iK.st iK.aw iK.add iK.F iK.out
def iK.call:iK.D->Option iK.X:=cj iK.E iK.st
theorem iK.run:cl iK.call iK.aw iK.add iK.F:=dw (du [.d tU] λ_=>by kernel_rfl)
def iK.sg:SG Tryz.prog:=⟨77,aP,iK.E,.fn 1 (by kernel_rfl) iK.ok (And.intro (.dp iK.L0.ok (by kernel_rfl)) trivial)⟩
abbrev qx.D:=Bs
def qx.st:qx.D->SA:=λsv=>([.d tU sv,.fn 169 (.nil)],[])
abbrev qx.Y:=Bool
abbrev qx.X:=Bool
def qx.out:qx.X->aZ:=λx=>⟨.d .bool x,[],[]⟩
def qx.add:qx.D->qx.Y->qx.X:=λsv y=>y
def qx.aw:qx.D->Prop:=λl=>(∀x∈l,iw x)/\l.length<=1000000000
def qx.F:qx.D->qx.Y:=λl=>l.any (λp=> !D3 p)
def qx.G:fD:=gz (P:=Tryz.prog) [iK.sg]
def qx.an:fT:= {}
def qx.A:= @dq Tryz.prog qx.G qx.an 0 Tryz.f35 _ qx.st
abbrev qx.Ok:=dr @qx.A qx.aw qx.add qx.F qx.out
theorem qx.eq{R:Type}(sv:Bs)(k:aZ->Option R):qx.A sv k=
 aj (iK.call sv) λx1=>
 k (qx.out (qz x1 (0:Int))):=by kernel_rfl
theorem qx.ok:qx.Ok:=by
 rintro l ⟨hl,hb⟩
 rw[qx.eq,iK.run (d:=l) ⟨hl,hb⟩]
 simp only[ab,iK.add,iK.F,yD]
 rfl
def qx.E:=Entry.dp [some tU,none] qx.st qx.aw qx.add qx.F qx.out
def qx.call:qx.D->Option qx.X:=cj qx.E qx.st
theorem qx.run:cl qx.call qx.aw qx.add qx.F:=dw (du [.d tU] λ_=>by kernel_rfl)
def qx.sg:SG Tryz.prog:=⟨35,aP,qx.E,.fn 0 (by kernel_rfl) qx.ok trivial⟩
abbrev dz.D:=KU
def dz.st:dz.D->SA:=λb=>([.d qt b],[])
abbrev dz.Y:=Bool
abbrev dz.X:=Bool
def dz.out:dz.X->aZ:=λx=>⟨.d .bool x,[],[]⟩
def dz.add:dz.D->dz.Y->dz.X:=λb y=>y
def dz.aw:dz.D->Prop:=λb=>Q4 b
def dz.F:dz.D->dz.Y:=λ_=>true
def dz.G:fD:=gz (P:=Tryz.prog) [qx.sg]
def dz.an:fT:= {}
def dz.A:= @dq Tryz.prog dz.G dz.an 0 Tryz.f135 _ dz.st
abbrev dz.Ok:=dr @dz.A dz.aw dz.add dz.F dz.out
theorem dz.eq{R:Type}(b:KU)(k:aZ->Option R):dz.A b k=
 aj (qx.call [b.1,b.2.1,b.2.2.1,b.2.2.2.1,b.2.2.2.2.1]) λx1=>
 k (dz.out (!x1)):=by kernel_rfl
theorem dz.ok:dz.Ok:=by
 intro b hb
 rw[dz.eq,qx.run (d:=[b.1,b.2.1,b.2.2.1,b.2.2.2.1,b.2.2.2.2.1]) ⟨λx hx=> ?_,by show 5<=_;decide⟩]
 ·simp only[ab,qx.add,qx.F,nj,List.any_nil,hb.1.2,hb.2.1.2,hb.2.2.1.2,hb.2.2.2.1.2,hb.2.2.2.2.2]
  rfl
 ·simp only[cH,List.mem_nil_iff,or_false]at hx
  rcases hx with rfl | rfl | rfl | rfl | rfl
  ·exact hb.1.1
  ·exact hb.2.1.1
  ·exact hb.2.2.1.1
  ·exact hb.2.2.2.1.1
  ·exact hb.2.2.2.2.1
def dz.E:=Entry.dp [some qt] dz.st dz.aw dz.add dz.F dz.out
def dz.call:dz.D->Option dz.X:=cj dz.E dz.st
theorem dz.run:cl dz.call dz.aw dz.add dz.F:=dw (du [.d qt] λ_=>by kernel_rfl)
def dz.sg:SG Tryz.prog:=⟨135,aP,dz.E,.fn 0 (by kernel_rfl) dz.ok trivial⟩
abbrev cJ.L0.D:=iN×(List Ml)×Int
def cJ.L0.st:cJ.L0.D->AS:=λ(jB,t34,t35)=>⟨([.undef,.gE nb jB]++bG 32 ([.d (.arr 2 oP) t34,.d ti t35]++bG 35 [])),[],(List.replicate 71 [])⟩
abbrev cJ.L0.Y0:=Unit
abbrev cJ.L0.X0:=Unit
def cJ.L0.bV:cJ.L0.X0->Exit×AS:=λx=>(.ret,⟨([.undef,.undef,.d ti (1:Int)]++bG 68 []),[],(List.replicate 71 [])⟩)
abbrev cJ.L0.Y1:=Unit
abbrev cJ.L0.X1:=iN
def cJ.L0.kI:cJ.L0.X1->Exit×AS:=λx=>(.exit 0,⟨([.undef,.gE nb x]++bG 69 []),[],(List.replicate 71 [])⟩)
abbrev cJ.L0.X:=(cJ.L0.X0)⊕(cJ.L0.X1)
abbrev cJ.L0.Y:=(cJ.L0.Y0)⊕(cJ.L0.Y1)
def cJ.L0.out:cJ.L0.X->Out (Exit×AS):=λx=> .br x.isLeft (.get x.getLeft? λa=> .ok (cJ.L0.bV a)) (.get x.getRight? λb=> .ok (cJ.L0.kI b))
def cJ.L0.add:cJ.L0.D->cJ.L0.Y->cJ.L0.X:=λ(jB,t34,t35) y=>match y with | .inl y=> .inl y | .inr z=> .inr (jB)
abbrev cJ.D:=iN
def cJ.st:cJ.D->SA:=λch=>([.d nb ch],[])
abbrev cJ.Y:=Int
abbrev cJ.X:=Int
def cJ.out:cJ.X->aZ:=λx=>⟨.d ti x,[],[]⟩
def cJ.add:cJ.D->cJ.Y->cJ.X:=λch y=>y
def cJ.L0.aw:cJ.L0.D->Prop:=λ(ch,l,i)=>ns ch/\l=[te 5,te 6]/\∃k:Nat,k<=2/\i=k
def cJ.L0.F:cJ.L0.D->cJ.L0.Y:=λ_=> .inr ()
def cJ.aw:cJ.D->Prop:=λch=>ns ch
def cJ.F:cJ.D->cJ.Y:=λ_=>0
def cJ.G:fD:=gz (P:=Tryz.prog) [dM.sg,dz.sg,jo.sg]
def cJ.L0.E:=cV.dp cJ.L0.st cJ.L0.aw cJ.L0.add cJ.L0.F cJ.L0.out
def cJ.L0.call:cJ.L0.D->Option cJ.L0.X:=eI cJ.L0.E cJ.L0.st
def cJ.an:fT:= {loops:=oF [(4,{bS:=[1,34,35]})],outs:=oE [(4,{bS:=[1]},{bS:=[2]})],jw:=pL [(4,cJ.L0.E)]}
def cJ.A:= @dq Tryz.prog cJ.G cJ.an 0 Tryz.f91 _ cJ.st
abbrev cJ.Ok:=dr @cJ.A cJ.aw cJ.add cJ.F cJ.out
def cJ.L0.R:= @dn Tryz.prog cJ.G cJ.an 0 Tryz.f91 0 _ cJ.L0.st
abbrev cJ.L0.Ok:=gw Tryz.prog cJ.G cJ.an 0 Tryz.f91 0 cJ.L0.st cJ.L0.aw cJ.L0.add cJ.L0.F cJ.L0.out
theorem cJ.L0.run:cl cJ.L0.call cJ.L0.aw cJ.L0.add cJ.L0.F:=gT (gS [.d nb,.d (.slice oP),.d ti] λ_=>by kernel_rfl)
theorem cJ.L0.aI:sB @cJ.L0.R cJ.L0.st cJ.L0.aw cJ.L0.add cJ.L0.F cJ.L0.out cJ.L0.Ok:=s8
theorem cJ.L0.step{R:Type}(jB:iN)(t34:(List Ml))(t35:Int)(kn:AS->Option R)(kx:Exit->AS->Option R):cJ.L0.R (jB,t34,t35) kn kx=
  aJ ((jK t35 (2:Int))) (
   aJ (fp t35 (2:Int)) (
   aj (dM.call (nth oP t34 (Int.toNat t35))) λx1=>
   aJ ((!x1)) (
    kx (cJ.L0.bV ()).1 (cJ.L0.bV ()).2) (
    aJ (fp t35 (2:Int)) (
    aj (dz.call (nth qt jB.2.2.1 (Int.toNat t35))) λx2=>
    aJ ((!x2)) (
     kx (cJ.L0.bV ()).1 (cJ.L0.bV ()).2) (
     kn (cJ.L0.st (jB,t34,(bO .i64 t35 (1:Int)))))) none)) none) (
   kx (cJ.L0.kI jB).1 (cJ.L0.kI jB).2):=by kernel_rfl
theorem cJ.eq{R:Type}(ch:iN)(k:aZ->Option R):cJ.A ch k=
  aJ ((jK ch.2.1 (1:Int))) (
   k (cJ.out (1:Int))) (
   aJ ((so ch.2.1 (1125899906842624:Int))) (
    k (cJ.out (1:Int))) (
    aJ ((jK ch.1.2.1 (0:Int))) (
     k (cJ.out (1:Int))) (
     aJ ((qz ch.1.2.1 (64:Int))) (
      k (cJ.out (1:Int))) (
      aJ ((rN (dC .andNot .i64 ch.2.2.2.2.1 (1:Int)) (0:Int))) (
       k (cJ.out (1:Int))) (
       aj (cJ.L0.call (ch,ch.2.2.2.1,(0:Int))) λx3=>
       aJ (x3.isLeft) (
        aj (x3.getLeft?) λa4=>
        k (cJ.out (1:Int))) (
        aj (x3.getRight?) λb5=>
        aj (jo.call ((nth oP b5.2.2.2.1 0).2.1,(nth oP b5.2.2.2.1 1).2.1)) λx6=>
        aJ ((!x6.2)) (
         k (cJ.out (10:Int))) (
         aJ ((so x6.1 b5.2.1)) (
          k (cJ.out (10:Int))) (
          k (cJ.out (0:Int)))))))))):=by kernel_rfl
theorem cJ.L0.ok:cJ.L0.Ok:=by
 refine cJ.L0.aI (λ(_,_,i)=>(2 - i).toNat) ?_
 rintro⟨ch,l,i⟩ ⟨⟨a,b0,b1,o,rfl,ha,TB,g0,g1,ho⟩,rfl,k,hk,rfl⟩
 have hk:k<=2:=hk
 have hg:ns (xf a b0 b1 o):=⟨a,b0,b1,o,rfl,ha,TB,g0,g1,ho⟩
 by_cases h:k < 2
 ·left
  refine⟨(xf a b0 b1 o,[te 5,te 6],((k+1:Nat):Int)),⟨hg,rfl,k+1,by omega,rfl⟩,by show(2 - ((k+1:Nat):Int)).toNat < (2 - (k:Int)).toNat;omega,rfl,λkn kx=> ?_⟩
  have ht:nth oP [te 5,te 6] k=te 5\/nth oP [te 5,te 6] k=te 6:=by
   obtain rfl | rfl:k=0\/k=1:=by omega
   ·exact .inl rfl
   ·exact .inr rfl
  have hb:Q4 (nth qt [b0,b1] k):=by
   obtain rfl | rfl:k=0\/k=1:=by omega
   ·exact g0
   ·exact g1
  rw[cJ.L0.step,bI (by omega),ah,bF (by omega) (by omega),ah,aa]
  rw[dM.run (d:=nth oP [te 5,te 6] k) ht]
  simp only[ab,dM.add,dM.F,bY,ai,ah]
  simp only[xf]
  rw[dz.run (d:=nth qt [b0,b1] k) hb]
  simp only[ab,dz.add,dz.F,bY,ai]
  rw[N.pJ (by omega)]
 ·right
  obtain rfl:k=2:=by omega
  refine⟨cJ.L0.kI (xf a b0 b1 o),rfl,λkn kx=> ?_⟩
  rw[cJ.L0.step,bp (by omega),ai]
theorem OY{o:Int}(h:o=0\/o=1):rN (dC .andNot .i64 o 1) 0=false:=by
 rcases h with rfl | rfl
 ·decide
 ·decide
theorem cJ.ok:cJ.Ok:=by
 rintro ch hg
 obtain⟨a,b0,b1,o,rfl,ha,TB,g0,g1,ho⟩:=id hg
 have hl:=cJ.L0.run (d:=(xf a b0 b1 o,[te 5,te 6],0)) ⟨hg,rfl,0,by omega,rfl⟩
 rw[cJ.eq]
 simp only[xf]at hl
 simp only[xf,ab]
 rw[bp (by omega),ai,dW (by omega),ai,bp (by omega),ai,iU (by omega),ai,OY ho,ai,hl]
 simp only[ab,cJ.L0.add,cJ.L0.F,iZ,ai,gO]
 rw[jo.run (d:=((nth oP [te 5,te 6] 0).2.1,(nth oP [te 5,te 6] 1).2.1)) trivial]
 simp only[ab,jo.add,jo.F]
 rw[show(bif ud (nth oP [te 5,te 6] 0).2.1 (nth oP [te 5,te 6] 1).2.1 then(nth oP [te 5,te 6] 0).2.1+(nth oP [te 5,te 6] 1).2.1 else 0)=400 from rfl,show ud (nth oP [te 5,te 6] 0).2.1 (nth oP [te 5,te 6] 1).2.1=true from rfl,bY,ai,dW (by omega),ai]
 rfl
def cJ.E:=Entry.dp [some nb] cJ.st cJ.aw cJ.add cJ.F cJ.out
def cJ.call:cJ.D->Option cJ.X:=cj cJ.E cJ.st
theorem cJ.run:cl cJ.call cJ.aw cJ.add cJ.F:=dw (du [.d nb] λ_=>by kernel_rfl)
def cJ.sg:SG Tryz.prog:=⟨91,aP,cJ.E,.fn 1 (by kernel_rfl) cJ.ok (And.intro (.dp cJ.L0.ok (by kernel_rfl)) trivial)⟩
abbrev eD.D:=jj
def eD.st:eD.D->SA:=λc=>([.d ke c],[])
abbrev eD.Y:=Bool
abbrev eD.X:=Bool
def eD.out:eD.X->aZ:=λx=>⟨.d .bool x,[],[]⟩
def eD.add:eD.D->eD.Y->eD.X:=λc y=>y
def eD.aw:eD.D->Prop:=λc=>iw c.2.2.2.1
def eD.F:eD.D->eD.Y:=λc=>Gl c
def eD.G:fD:=gz (P:=Tryz.prog) [dv.sg,je.sg]
def eD.an:fT:= {}
def eD.A:= @dq Tryz.prog eD.G eD.an 0 Tryz.f65 _ eD.st
abbrev eD.Ok:=dr @eD.A eD.aw eD.add eD.F eD.out
theorem eD.eq{R:Type}(c:jj)(k:aZ->Option R):eD.A c k=
  aj (dv.call c.2.2.2.1) λx1=>
  aJ (x1) (
   aJ ((rN c.2.2.2.1 (1:Int))) (
    aj (je.call (c.1,(0:Int),(1:Int))) λx2=>
    aJ (x2) (
     aj (je.call (c.2.1,(1:Int),(1048576:Int))) λx3=>
     aJ (x3) (
      aj (je.call (c.2.2.1,(1:Int),(1125899906842624:Int))) λx4=>
      aJ (x4) (
       aj (je.call (c.2.2.2.2.1,(1:Int),(1048576:Int))) λx5=>
       k (eD.out x5)) (
       k (eD.out false))) (
      k (eD.out false))) (
     k (eD.out false))) (
    k (eD.out false))) (
   k (eD.out false)):=by kernel_rfl
theorem eD.ok:eD.Ok:=by
 intro c hc
 rw[eD.eq,dv.run (d:=c.2.2.2.1) hc]
 simp only[ab,je.c,dv.add,dv.F,eD.add,eD.F,Gl,D3]
 cases oS c.2.2.2.1 <;> cases rN c.2.2.2.1 1 <;> cases qA c.1 0 1 <;> cases qA c.2.1 1 1048576 <;> cases qA c.2.2.1 1 1125899906842624 <;> rfl
def eD.E:=Entry.dp [some ke] eD.st eD.aw eD.add eD.F eD.out
def eD.call:eD.D->Option eD.X:=cj eD.E eD.st
theorem eD.run:cl eD.call eD.aw eD.add eD.F:=dw (du [.d ke] λ_=>by kernel_rfl)
def eD.sg:SG Tryz.prog:=⟨65,aP,eD.E,.fn 0 (by kernel_rfl) eD.ok trivial⟩
abbrev dA.D:=jj×jj
def dA.st:dA.D->SA:=λ(a,b)=>([.d ke a,.d ke b],[])
abbrev dA.Y:=Bool
abbrev dA.X:=Bool
def dA.out:dA.X->aZ:=λx=>⟨.d .bool x,[],[]⟩
def dA.add:dA.D->dA.Y->dA.X:=λ(a,b) y=>y
def dA.aw:dA.D->Prop:=λ_=>True
def dA.F:dA.D->dA.Y:=λ(a,b)=>zo a b
def dA.G:fD:=gz (P:=Tryz.prog) []
def dA.an:fT:= {}
def dA.A:= @dq Tryz.prog dA.G dA.an 0 Tryz.f66 _ dA.st
abbrev dA.Ok:=dr @dA.A dA.aw dA.add dA.F dA.out
theorem dA.eq{R:Type}(a:jj)(b:jj)(k:aZ->Option R):dA.A (a,b) k=
  aJ ((jK a.1 b.1)) (
   k (dA.out true)) (
   aJ ((nX a.1 b.1)) (
    k (dA.out (jK a.2.1 b.2.1))) (
    k (dA.out false))):=by kernel_rfl
theorem dA.ok:dA.Ok:=by
 rintro⟨a,b⟩ _
 rw[dA.eq]
 simp only[dA.add,dA.F,zo]
 by_cases h:a.1 < b.1
 ·rw[bI h,ah,aO (.inl h)]
 ·rw[bp h,ai]
  by_cases h2:a.1=b.1
  ·rw[iE h2,ah]
   by_cases h3:a.2.1 < b.2.1
   ·rw[bI h3,aO (.inr ⟨h2,h3⟩)]
   ·rw[bp h3,cR (by rintro(x | x);exact h x;exact h3 x.2)]
  ·rw[fJ h2,ai,cR (by rintro(x | x);exact h x;exact h2 x.1)]
def dA.E:=Entry.dp [some ke,some ke] dA.st dA.aw dA.add dA.F dA.out
def dA.call:dA.D->Option dA.X:=cj dA.E dA.st
theorem dA.run:cl dA.call dA.aw dA.add dA.F:=dw (du [.d ke,.d ke] λ_=>by kernel_rfl)
def dA.sg:SG Tryz.prog:=⟨66,aP,dA.E,.fn 0 (by kernel_rfl) dA.ok trivial⟩
theorem dA.c(a b:jj):dA.call (a,b)=some (zo a b):=dA.run (d:=(a,b)) trivial
abbrev fe.D:=iN×jl
def fe.st:fe.D->SA:=λ(ch,sv)=>([.d nb ch,.d mC sv],[])
abbrev fe.Y:=Int
abbrev fe.X:=Int
def fe.out:fe.X->aZ:=λx=>⟨.d ti x,[],[]⟩
def fe.add:fe.D->fe.Y->fe.X:=λ(ch,sv) y=>y
def fe.aw:fe.D->Prop:=λ_=>True
def fe.F:fe.D->fe.Y:=λ(_,s)=>Bt s.2.2.2.1 s.2.2.1.length+660
def fe.G:fD:=gz (P:=Tryz.prog) [gG.sg]
def fe.an:fT:= {}
def fe.A:= @dq Tryz.prog fe.G fe.an 0 Tryz.f69 _ fe.st
abbrev fe.Ok:=dr @fe.A fe.aw fe.add fe.F fe.out
theorem fe.eq{R:Type}(ch:iN)(sv:jl)(k:aZ->Option R):fe.A (ch,sv) k=
 aj (gG.call (sv.2.2.2.1,(((List.length sv.2.2.1):Nat):Int))) λx1=>
 k (fe.out (bO .i64 x1 (660:Int))):=by kernel_rfl
theorem fe.ok:fe.Ok:=by
 rintro⟨ch,s⟩ _
 rw[fe.eq,gG.run (d:=(s.2.2.2.1,(s.2.2.1.length:Int))) trivial]
 simp only[ab,gG.add,gG.F,fe.add,fe.F]
 have:=xH s.2.2.2.1 s.2.2.1.length
 rw[ff (by omega) (by omega)]
def fe.E:=Entry.dp [some nb,some mC] fe.st fe.aw fe.add fe.F fe.out
def fe.call:fe.D->Option fe.X:=cj fe.E fe.st
theorem fe.run:cl fe.call fe.aw fe.add fe.F:=dw (du [.d nb,.d mC] λ_=>by kernel_rfl)
def fe.sg:SG Tryz.prog:=⟨69,aP,fe.E,.fn 0 (by kernel_rfl) fe.ok trivial⟩
abbrev fC.D:=iN×jl
def fC.st:fC.D->SA:=λ(ch,sv)=>([.d nb ch,.d mC sv],[])
abbrev fC.Y:=Int
abbrev fC.X:=Int
def fC.out:fC.X->aZ:=λx=>⟨.d ti x,[],[]⟩
def fC.add:fC.D->fC.Y->fC.X:=λ(ch,sv) y=>y
def fC.aw:fC.D->Prop:=λ_=>True
def fC.F:fC.D->fC.Y:=λ(_,s)=>Bt s.2.2.2.1 s.2.2.1.length+660
def fC.G:fD:=gz (P:=Tryz.prog) [fZ.sg]
def fC.an:fT:= {}
def fC.A:= @dq Tryz.prog fC.G fC.an 0 Tryz.f97 _ fC.st
abbrev fC.Ok:=dr @fC.A fC.aw fC.add fC.F fC.out
theorem fC.eq{R:Type}(ch:iN)(sv:jl)(k:aZ->Option R):fC.A (ch,sv) k=
 aj (fZ.call (sv.2.2.2.1,(((List.length sv.2.2.1):Nat):Int))) λx1=>
 k (fC.out (bO .i64 x1 (660:Int))):=by kernel_rfl
theorem fC.ok:fC.Ok:=by
 rintro⟨ch,s⟩ _
 rw[fC.eq,fZ.run (d:=(s.2.2.2.1,(s.2.2.1.length:Int))) trivial]
 simp only[ab,fZ.add,fZ.F,fC.add,fC.F]
 have:=xH s.2.2.2.1 s.2.2.1.length
 rw[ff (by omega) (by omega)]
def fC.E:=Entry.dp [some nb,some mC] fC.st fC.aw fC.add fC.F fC.out
def fC.call:fC.D->Option fC.X:=cj fC.E fC.st
theorem fC.run:cl fC.call fC.aw fC.add fC.F:=dw (du [.d nb,.d mC] λ_=>by kernel_rfl)
def fC.sg:SG Tryz.prog:=⟨97,aP,fC.E,.fn 0 (by kernel_rfl) fC.ok trivial⟩
theorem BG{to:Int}(h:to=0\/to=1):cY .i64 1 to=1 - to:=gm (by omega) (by omega)
abbrev cK.L0.D:=Int×jl×Int×Int×Int
def cK.L0.st:cK.L0.D->AS:=λ(o9,ee,n,sum,i)=>⟨([.undef,.d ti o9,.gE mC ee,.undef,.undef,.undef,.d ti n,.d ti sum,.d ti i]++bG 28 []),[],(List.replicate 37 [])⟩
abbrev cK.L0.Y0:=Int×Int
abbrev cK.L0.X0:=Int×Int
def cK.L0.bV:cK.L0.X0->Exit×AS:=λx=>(.exit 0,⟨(bG 6 ([.d ti x.1,.d ti x.2]++bG 29 [])),[],(List.replicate 37 [])⟩)
abbrev cK.L0.X:=cK.L0.X0
abbrev cK.L0.Y:=cK.L0.Y0
def cK.L0.out:cK.L0.X->Out (Exit×AS):=λx=> .ok (cK.L0.bV x)
def cK.L0.add:cK.L0.D->cK.L0.Y->cK.L0.X:=λ(o9,ee,n,sum,i) y=>y
abbrev cK.D:=jl×Int
def cK.st:cK.D->SA:=λ(sv,to)=>([.d mC sv,.d ti to],[])
abbrev cK.Y:=Int×Int
abbrev cK.X:=Int×Int
def cK.out:cK.X->aZ:=λx=>⟨.cons (.d ti x.1) (.cons (.d ti x.2) (.nil)),[],[]⟩
def cK.add:cK.D->cK.Y->cK.X:=λ(sv,to) y=>y
def cK.L0.aw:cK.L0.D->Prop:=λ(to,sv,n,sum,i)=>(to=0\/to=1)/\(∀c∈sv.2.2.1,Gs c)/\sv.2.2.1.length<=1000/\∃k:Nat,k<=sv.2.2.1.length/\i=k/\(0<=n/\n<=k)/\0<=sum/\sum<=1125899906842624*k
def cK.L0.F:cK.L0.D->cK.L0.Y:=λ(to,sv,n,sum,i)=>(n+(l6 to (sv.2.2.1.drop i.toNat)).length,sum+jJ (l6 to (sv.2.2.1.drop i.toNat)))
def cK.aw:cK.D->Prop:=λ(s,to)=>(to=0\/to=1)/\(∀c∈s.2.2.1,Gs c)/\s.2.2.1.length<=1000
def cK.F:cK.D->cK.Y:=λ(s,to)=>(((l6 to s.2.2.1).length:Nat),jJ (l6 to s.2.2.1))
def cK.G:fD:=gz (P:=Tryz.prog) []
def cK.L0.E:=cV.dp cK.L0.st cK.L0.aw cK.L0.add cK.L0.F cK.L0.out
def cK.L0.call:cK.L0.D->Option cK.L0.X:=eI cK.L0.E cK.L0.st
def cK.an:fT:= {loops:=oF [(4,{bS:=[1,2,6,7,8]})],outs:=oE [(4,{bS:=[6,7]},{bS:=[4,5]})],jw:=pL [(4,cK.L0.E)]}
def cK.A:= @dq Tryz.prog cK.G cK.an 0 Tryz.f67 _ cK.st
abbrev cK.Ok:=dr @cK.A cK.aw cK.add cK.F cK.out
def cK.L0.R:= @dn Tryz.prog cK.G cK.an 0 Tryz.f67 0 _ cK.L0.st
abbrev cK.L0.Ok:=gw Tryz.prog cK.G cK.an 0 Tryz.f67 0 cK.L0.st cK.L0.aw cK.L0.add cK.L0.F cK.L0.out
theorem cK.L0.run:cl cK.L0.call cK.L0.aw cK.L0.add cK.L0.F:=gT (gS [.d ti,.d mC,.d ti,.d ti,.d ti] λ_=>by kernel_rfl)
theorem cK.L0.aI:jk @cK.L0.R cK.L0.st cK.L0.aw cK.L0.add cK.L0.F cK.L0.bV cK.L0.Ok:=jm
theorem cK.L0.step{R:Type}(o9:Int)(ee:jl)(n:Int)(sum:Int)(i:Int)(kn:AS->Option R)(kx:Exit->AS->Option R):cK.L0.R (o9,ee,n,sum,i) kn kx=
  aJ ((jK i (((List.length ee.2.2.1):Nat):Int))) (
   aJ (fp i (((List.length ee.2.2.1):Nat):Int)) (
   aJ ((nX (nth ke ee.2.2.1 (Int.toNat i)).1 (cY .i64 (1:Int) o9))) (
    aJ (fp i (((List.length ee.2.2.1):Nat):Int)) (
    kn (cK.L0.st (o9,ee,(bO .i64 n (1:Int)),(bO .i64 sum (nth ke ee.2.2.1 (Int.toNat i)).2.2.1),(bO .i64 i (1:Int))))) none) (
    kn (cK.L0.st (o9,ee,n,sum,(bO .i64 i (1:Int)))))) none) (
   kx (cK.L0.bV (n,sum)).1 (cK.L0.bV (n,sum)).2):=by kernel_rfl
theorem cK.eq{R:Type}(sv:jl)(to:Int)(k:aZ->Option R):cK.A (sv,to) k=
 aj (cK.L0.call (to,sv,(0:Int),(0:Int),(0:Int))) λx1=>
 k (cK.out (x1.1,x1.2)):=by kernel_rfl
theorem cK.L0.ok:cK.L0.Ok:=by
 refine cK.L0.aI (λ(to,sv,n,sum,i)=>sv.2.2.1.length - i.toNat) ?_
 rintro⟨to,sv,n,sum,i⟩ ⟨rV,hc,hl,k,hk,rfl,hn,Ms,zM⟩
 have hk:k<=sv.2.2.1.length:=hk
 have hl:sv.2.2.1.length<=1000:=hl
 have rV:to=0\/to=1:=rV
 have hn:0<=n/\n<=k:=hn
 have Ms:0<=sum:=Ms
 have zM:sum<=1125899906842624*k:=zM
 by_cases h:k < sv.2.2.1.length
 ·left
  have hx:0<=sv.2.2.1[k].2.2.1/\sv.2.2.1[k].2.2.1<=1125899906842624:=hc _ (List.getElem_mem h)
  have n1:nth ke sv.2.2.1 k=sv.2.2.1[k]:=dP (t:=ke) h
  have hd:=Ad to sv.2.2.1[k] (sv.2.2.1.drop (k+1))
  rw[<-aA h]at hd
  by_cases hq:sv.2.2.1[k].1=1 - to
  ·refine⟨(to,sv,n+1,sum+sv.2.2.1[k].2.2.1,((k+1:Nat):Int)),⟨rV,hc,hl,k+1,by omega,rfl,by omega,by omega,by omega⟩,by simp only[aa];omega,?_,λkn kx=> ?_⟩
   ·rw[iE hq,if_pos rfl]at hd
    simp only[cK.L0.add,cK.L0.F,aa,hd,aN,jJ]
    rw[show n+1+((l6 to (sv.2.2.1.drop (k+1))).length:Int)=n+(((l6 to (sv.2.2.1.drop (k+1))).length+1:Nat):Int) by omega,qS]
   ·rw[cK.L0.step,bI (by omega),bF (by omega) (by omega),aa,n1,BG rV,iE hq,N.pJ (by omega),ff (by omega) (by omega),ff (by omega) (by omega)]
    simp only[ah]
  ·refine⟨(to,sv,n,sum,((k+1:Nat):Int)),⟨rV,hc,hl,k+1,by omega,rfl,by omega,by omega,by omega⟩,by simp only[aa];omega,?_,λkn kx=> ?_⟩
   ·rw[fJ hq,if_neg (by simp)]at hd
    simp only[cK.L0.add,cK.L0.F,aa,hd]
   ·rw[cK.L0.step,bI (by omega),bF (by omega) (by omega),aa,n1,BG rV,fJ hq,N.pJ (by omega)]
    simp only[ah,ai]
 ·right
  obtain rfl:k=sv.2.2.1.length:=by omega
  intro R kn kx
  rw[cK.L0.step,bp (by omega),ai]
  simp only[cK.L0.add,cK.L0.F,aa,bH,l6,List.filter_nil,bJ,jJ,lU]
  rw[show(n+((0:Nat):Int))=n by omega]
theorem cK.ok:cK.Ok:=by
 rintro⟨s,to⟩ ⟨rV,hc,hl⟩
 rw[cK.eq,cK.L0.run (d:=(to,s,0,0,0)) ⟨rV,hc,hl,0,bm _,rfl,⟨by decide,by decide⟩,by decide,by decide⟩]
 simp only[ab,cK.L0.add,cK.L0.F,bK,aW,pX,cK.add,cK.F]
def cK.E:=Entry.dp [some mC,some ti] cK.st cK.aw cK.add cK.F cK.out
def cK.call:cK.D->Option cK.X:=cj cK.E cK.st
theorem cK.run:cl cK.call cK.aw cK.add cK.F:=dw (du [.d mC,.d ti] λ_=>by kernel_rfl)
def cK.sg:SG Tryz.prog:=⟨67,aP,cK.E,.fn 1 (by kernel_rfl) cK.ok (And.intro (.dp cK.L0.ok (by kernel_rfl)) trivial)⟩
abbrev cQ.L0.D:=Int×Int×Int×(List jj)×Int×Int
def cQ.L0.st:cQ.L0.D->AS:=λ(o9,n,sum,t11,t12,t13)=>⟨([.undef,.d ti o9]++bG 4 ([.d ti n,.d ti sum,.undef,.undef,.undef,.d (.slice ke) t11,.d ti t12,.d ti t13]++bG 17 [])),[],(List.replicate 31 [])⟩
abbrev cQ.L0.Y0:=Int×Int
abbrev cQ.L0.X0:=Int×Int
def cQ.L0.bV:cQ.L0.X0->Exit×AS:=λx=>(.exit 0,⟨(bG 6 ([.d ti x.1,.d ti x.2]++bG 23 [])),[],(List.replicate 31 [])⟩)
abbrev cQ.L0.X:=cQ.L0.X0
abbrev cQ.L0.Y:=cQ.L0.Y0
def cQ.L0.out:cQ.L0.X->Out (Exit×AS):=λx=> .ok (cQ.L0.bV x)
def cQ.L0.add:cQ.L0.D->cQ.L0.Y->cQ.L0.X:=λ(o9,n,sum,t11,t12,t13) y=>y
abbrev cQ.D:=jl×Int
def cQ.st:cQ.D->SA:=λ(sv,to)=>([.d mC sv,.d ti to],[])
abbrev cQ.Y:=Int×Int
abbrev cQ.X:=Int×Int
def cQ.out:cQ.X->aZ:=λx=>⟨.cons (.d ti x.1) (.cons (.d ti x.2) (.nil)),[],[]⟩
def cQ.add:cQ.D->cQ.Y->cQ.X:=λ(sv,to) y=>y
def cQ.L0.aw:cQ.L0.D->Prop:=λ(to,n,sum,l,m,i)=>(to=0\/to=1)/\(∀c∈l,Gs c)/\l.length<=1000/\m=l.length/\∃k:Nat,k<=l.length/\i=k/\(0<=n/\n<=k)/\0<=sum/\sum<=1125899906842624*k
def cQ.L0.F:cQ.L0.D->cQ.L0.Y:=λ(to,n,sum,l,m,i)=>(n+(l6 to (l.drop i.toNat)).length,sum+jJ (l6 to (l.drop i.toNat)))
def cQ.aw:cQ.D->Prop:=λ(s,to)=>(to=0\/to=1)/\(∀c∈s.2.2.1,Gs c)/\s.2.2.1.length<=1000
def cQ.F:cQ.D->cQ.Y:=λ(s,to)=>(((l6 to s.2.2.1).length:Nat),jJ (l6 to s.2.2.1))
def cQ.G:fD:=gz (P:=Tryz.prog) []
def cQ.L0.E:=cV.dp cQ.L0.st cQ.L0.aw cQ.L0.add cQ.L0.F cQ.L0.out
def cQ.L0.call:cQ.L0.D->Option cQ.L0.X:=eI cQ.L0.E cQ.L0.st
def cQ.an:fT:= {loops:=oF [(3,{bS:=[1,6,7,11,12,13]})],outs:=oE [(3,{bS:=[6,7]},{bS:=[4,5]})],jw:=pL [(3,cQ.L0.E)]}
def cQ.A:= @dq Tryz.prog cQ.G cQ.an 0 Tryz.f95 _ cQ.st
abbrev cQ.Ok:=dr @cQ.A cQ.aw cQ.add cQ.F cQ.out
def cQ.L0.R:= @dn Tryz.prog cQ.G cQ.an 0 Tryz.f95 0 _ cQ.L0.st
abbrev cQ.L0.Ok:=gw Tryz.prog cQ.G cQ.an 0 Tryz.f95 0 cQ.L0.st cQ.L0.aw cQ.L0.add cQ.L0.F cQ.L0.out
theorem cQ.L0.run:cl cQ.L0.call cQ.L0.aw cQ.L0.add cQ.L0.F:=gT (gS [.d ti,.d ti,.d ti,.d (.slice ke),.d ti,.d ti] λ_=>by kernel_rfl)
theorem cQ.L0.aI:jk @cQ.L0.R cQ.L0.st cQ.L0.aw cQ.L0.add cQ.L0.F cQ.L0.bV cQ.L0.Ok:=jm
theorem cQ.L0.step{R:Type}(o9:Int)(n:Int)(sum:Int)(t11:(List jj))(t12:Int)(t13:Int)(kn:AS->Option R)(kx:Exit->AS->Option R):cQ.L0.R (o9,n,sum,t11,t12,t13) kn kx=
  aJ ((jK t13 t12)) (
   aJ (fp t13 (((List.length t11):Nat):Int)) (
   aJ ((nX (nth ke t11 (Int.toNat t13)).1 (cY .i64 (1:Int) o9))) (
    kn (cQ.L0.st (o9,(bO .i64 n (1:Int)),(bO .i64 sum (nth ke t11 (Int.toNat t13)).2.2.1),t11,t12,(bO .i64 t13 (1:Int))))) (
    kn (cQ.L0.st (o9,n,sum,t11,t12,(bO .i64 t13 (1:Int)))))) none) (
   kx (cQ.L0.bV (n,sum)).1 (cQ.L0.bV (n,sum)).2):=by kernel_rfl
theorem cQ.eq{R:Type}(sv:jl)(to:Int)(k:aZ->Option R):cQ.A (sv,to) k=
 aj (cQ.L0.call (to,(0:Int),(0:Int),sv.2.2.1,(((List.length sv.2.2.1):Nat):Int),(0:Int))) λx1=>
 k (cQ.out (x1.1,x1.2)):=by kernel_rfl
theorem cQ.L0.ok:cQ.L0.Ok:=by
 refine cQ.L0.aI (λ(to,n,sum,l,m,i)=>l.length - i.toNat) ?_
 rintro⟨to,n,sum,l,m,i⟩ ⟨rV,hc,hl,rfl,k,hk,rfl,hn,Ms,zM⟩
 have hk:k<=l.length:=hk
 have hl:l.length<=1000:=hl
 have rV:to=0\/to=1:=rV
 have hn:0<=n/\n<=k:=hn
 have Ms:0<=sum:=Ms
 have zM:sum<=1125899906842624*k:=zM
 by_cases h:k < l.length
 ·left
  have hx:0<=l[k].2.2.1/\l[k].2.2.1<=1125899906842624:=hc _ (List.getElem_mem h)
  have n1:nth ke l k=l[k]:=dP (t:=ke) h
  have hd:=Ad to l[k] (l.drop (k+1))
  rw[<-aA h]at hd
  by_cases hq:l[k].1=1 - to
  ·refine⟨(to,n+1,sum+l[k].2.2.1,l,(l.length:Int),((k+1:Nat):Int)),⟨rV,hc,hl,rfl,k+1,by omega,rfl,by omega,by omega,by omega⟩,by simp only[aa];omega,?_,λkn kx=> ?_⟩
   ·rw[iE hq,if_pos rfl]at hd
    simp only[cQ.L0.add,cQ.L0.F,aa,hd,aN,jJ]
    rw[show n+1+((l6 to (l.drop (k+1))).length:Int)=n+(((l6 to (l.drop (k+1))).length+1:Nat):Int) by omega,qS]
   ·rw[cQ.L0.step,bI (by omega),bF (by omega) (by omega),aa,n1,BG rV,iE hq,N.pJ (by omega),ff (by omega) (by omega),ff (by omega) (by omega)]
    simp only[ah]
  ·refine⟨(to,n,sum,l,(l.length:Int),((k+1:Nat):Int)),⟨rV,hc,hl,rfl,k+1,by omega,rfl,by omega,by omega,by omega⟩,by simp only[aa];omega,?_,λkn kx=> ?_⟩
   ·rw[fJ hq,if_neg (by simp)]at hd
    simp only[cQ.L0.add,cQ.L0.F,aa,hd]
   ·rw[cQ.L0.step,bI (by omega),bF (by omega) (by omega),aa,n1,BG rV,fJ hq,N.pJ (by omega)]
    simp only[ah,ai]
 ·right
  obtain rfl:k=l.length:=by omega
  intro R kn kx
  rw[cQ.L0.step,bp (by omega),ai]
  simp only[cQ.L0.add,cQ.L0.F,aa,bH,l6,List.filter_nil,bJ,jJ,lU]
  rw[show(n+((0:Nat):Int))=n by omega]
theorem cQ.ok:cQ.Ok:=by
 rintro⟨s,to⟩ ⟨rV,hc,hl⟩
 rw[cQ.eq,cQ.L0.run (d:=(to,0,0,s.2.2.1,(s.2.2.1.length:Int),0)) ⟨rV,hc,hl,rfl,0,bm _,rfl,⟨by decide,by decide⟩,by decide,by decide⟩]
 simp only[ab,cQ.L0.add,cQ.L0.F,bK,aW,pX,cQ.add,cQ.F]
def cQ.E:=Entry.dp [some mC,some ti] cQ.st cQ.aw cQ.add cQ.F cQ.out
def cQ.call:cQ.D->Option cQ.X:=cj cQ.E cQ.st
theorem cQ.run:cl cQ.call cQ.aw cQ.add cQ.F:=dw (du [.d mC,.d ti] λ_=>by kernel_rfl)
def cQ.sg:SG Tryz.prog:=⟨95,aP,cQ.E,.fn 1 (by kernel_rfl) cQ.ok (And.intro (.dp cQ.L0.ok (by kernel_rfl)) trivial)⟩
abbrev cX.L0.D:=jl×Int×Int
def cX.L0.st:cX.L0.D->AS:=λ(ee,sum,i)=>⟨([.undef,.gE mC ee,.undef,.d ti sum,.d ti i]++bG 23 []),[],(List.replicate 28 [])⟩
abbrev cX.L0.Y0:=Int
abbrev cX.L0.X0:=Int
def cX.L0.bV:cX.L0.X0->Exit×AS:=λx=>(.exit 0,⟨([.undef,.undef,.undef,.d ti x]++bG 24 []),[],(List.replicate 28 [])⟩)
abbrev cX.L0.X:=cX.L0.X0
abbrev cX.L0.Y:=cX.L0.Y0
def cX.L0.out:cX.L0.X->Out (Exit×AS):=λx=> .ok (cX.L0.bV x)
def cX.L0.add:cX.L0.D->cX.L0.Y->cX.L0.X:=λ(ee,sum,i) y=>y
abbrev cX.D:=jl
def cX.st:cX.D->SA:=λsv=>([.d mC sv],[])
abbrev cX.Y:=Int
abbrev cX.X:=Int
def cX.out:cX.X->aZ:=λx=>⟨.d ti x,[],[]⟩
def cX.add:cX.D->cX.Y->cX.X:=λsv y=>y
def cX.L0.aw:cX.L0.D->Prop:=λ(sv,sum,i)=>(∀c∈sv.2.2.1,Gs c)/\sv.2.2.1.length<=1000/\∃k:Nat,k<=sv.2.2.1.length/\i=k/\0<=sum/\sum<=2251799813685248+1125899906842624*k
def cX.L0.F:cX.L0.D->cX.L0.Y:=λ(sv,sum,i)=>sum+jJ (sv.2.2.1.drop i.toNat)
def cX.aw:cX.D->Prop:=λs=>(∀c∈s.2.2.1,Gs c)/\s.2.2.1.length<=1000/\Bd (nth ti s.2.1 0) 0 1125899906842624/\Bd (nth ti s.2.1 1) 0 1125899906842624
def cX.F:cX.D->cX.Y:=λs=>nth ti s.2.1 0+nth ti s.2.1 1+jJ s.2.2.1
def cX.G:fD:=gz (P:=Tryz.prog) []
def cX.L0.E:=cV.dp cX.L0.st cX.L0.aw cX.L0.add cX.L0.F cX.L0.out
def cX.L0.call:cX.L0.D->Option cX.L0.X:=eI cX.L0.E cX.L0.st
def cX.an:fT:= {loops:=oF [(3,{bS:=[1,3,4]})],outs:=oE [(3,{bS:=[3]},{bS:=[2]})],jw:=pL [(3,cX.L0.E)]}
def cX.A:= @dq Tryz.prog cX.G cX.an 0 Tryz.f68 _ cX.st
abbrev cX.Ok:=dr @cX.A cX.aw cX.add cX.F cX.out
def cX.L0.R:= @dn Tryz.prog cX.G cX.an 0 Tryz.f68 0 _ cX.L0.st
abbrev cX.L0.Ok:=gw Tryz.prog cX.G cX.an 0 Tryz.f68 0 cX.L0.st cX.L0.aw cX.L0.add cX.L0.F cX.L0.out
theorem cX.L0.run:cl cX.L0.call cX.L0.aw cX.L0.add cX.L0.F:=gT (gS [.d mC,.d ti,.d ti] λ_=>by kernel_rfl)
theorem cX.L0.aI:jk @cX.L0.R cX.L0.st cX.L0.aw cX.L0.add cX.L0.F cX.L0.bV cX.L0.Ok:=jm
theorem cX.L0.step{R:Type}(ee:jl)(sum:Int)(i:Int)(kn:AS->Option R)(kx:Exit->AS->Option R):cX.L0.R (ee,sum,i) kn kx=
  aJ ((jK i (((List.length ee.2.2.1):Nat):Int))) (
   aJ (fp i (((List.length ee.2.2.1):Nat):Int)) (
   kn (cX.L0.st (ee,(bO .i64 sum (nth ke ee.2.2.1 (Int.toNat i)).2.2.1),(bO .i64 i (1:Int))))) none) (
   kx (cX.L0.bV sum).1 (cX.L0.bV sum).2):=by kernel_rfl
theorem cX.eq{R:Type}(sv:jl)(k:aZ->Option R):cX.A sv k=
 aj (cX.L0.call (sv,(bO .i64 (nth ti sv.2.1 0) (nth ti sv.2.1 1)),(0:Int))) λx1=>
 k (cX.out x1):=by kernel_rfl
theorem cX.L0.ok:cX.L0.Ok:=by
 refine cX.L0.aI (λ(sv,sum,i)=>sv.2.2.1.length - i.toNat) ?_
 rintro⟨sv,sum,i⟩ ⟨hc,hl,k,hk,rfl,Ms,zM⟩
 have hk:k<=sv.2.2.1.length:=hk
 have hl:sv.2.2.1.length<=1000:=hl
 have Ms:0<=sum:=Ms
 have zM:sum<=2251799813685248+1125899906842624*k:=zM
 by_cases h:k < sv.2.2.1.length
 ·left
  have hx:0<=sv.2.2.1[k].2.2.1/\sv.2.2.1[k].2.2.1<=1125899906842624:=hc _ (List.getElem_mem h)
  have n1:nth ke sv.2.2.1 k=sv.2.2.1[k]:=dP (t:=ke) h
  refine⟨(sv,sum+sv.2.2.1[k].2.2.1,((k+1:Nat):Int)),⟨hc,hl,k+1,by omega,rfl,by omega,by omega⟩,by simp only[aa];omega,?_,λkn kx=> ?_⟩
  ·simp only[cX.L0.add,cX.L0.F,aa]
   rw[aA h,jJ,qS]
  ·rw[cX.L0.step,bI (by omega),bF (by omega) (by omega),aa,n1,N.pJ (by omega),ff (by omega) (by omega)]
   simp only[ah]
 ·right
  obtain rfl:k=sv.2.2.1.length:=by omega
  intro R kn kx
  rw[cX.L0.step,bp (by omega),ai]
  simp only[cX.L0.add,cX.L0.F,aa,bH,jJ,lU]
theorem cX.ok:cX.Ok:=by
 rintro s ⟨hc,hl,h0,h1⟩
 have XU:=h0.1
 have XV:=h0.2
 have Rx:=h1.1
 have Tx:=h1.2
 rw[cX.eq,ff (by omega) (by omega),cX.L0.run (d:=(s,nth ti s.2.1 0+nth ti s.2.1 1,0)) ⟨hc,hl,0,bm _,rfl,by omega,by omega⟩]
 simp only[ab,cX.L0.add,cX.L0.F,bK,aW,cX.add,cX.F]
def cX.E:=Entry.dp [some mC] cX.st cX.aw cX.add cX.F cX.out
def cX.call:cX.D->Option cX.X:=cj cX.E cX.st
theorem cX.run:cl cX.call cX.aw cX.add cX.F:=dw (du [.d mC] λ_=>by kernel_rfl)
def cX.sg:SG Tryz.prog:=⟨68,aP,cX.E,.fn 1 (by kernel_rfl) cX.ok (And.intro (.dp cX.L0.ok (by kernel_rfl)) trivial)⟩
abbrev bA.L0.D:=Int×(List jj)×Int×Int
def bA.L0.st:bA.L0.D->AS:=λ(sum,t14,t15,t16)=>⟨([.undef,.undef,.undef,.d ti sum]++bG 10 ([.d (.slice ke) t14,.d ti t15,.d ti t16]++bG 9 [])),[],(List.replicate 26 [])⟩
abbrev bA.L0.Y0:=Int
abbrev bA.L0.X0:=Int
def bA.L0.bV:bA.L0.X0->Exit×AS:=λx=>(.exit 0,⟨([.undef,.undef,.undef,.d ti x]++bG 22 []),[],(List.replicate 26 [])⟩)
abbrev bA.L0.X:=bA.L0.X0
abbrev bA.L0.Y:=bA.L0.Y0
def bA.L0.out:bA.L0.X->Out (Exit×AS):=λx=> .ok (bA.L0.bV x)
def bA.L0.add:bA.L0.D->bA.L0.Y->bA.L0.X:=λ(sum,t14,t15,t16) y=>y
abbrev bA.D:=jl
def bA.st:bA.D->SA:=λsv=>([.d mC sv],[])
abbrev bA.Y:=Int
abbrev bA.X:=Int
def bA.out:bA.X->aZ:=λx=>⟨.d ti x,[],[]⟩
def bA.add:bA.D->bA.Y->bA.X:=λsv y=>y
def bA.L0.aw:bA.L0.D->Prop:=λ(sum,l,m,i)=>(∀c∈l,Gs c)/\l.length<=1000/\m=l.length/\∃k:Nat,k<=l.length/\i=k/\0<=sum/\sum<=2251799813685248+1125899906842624*k
def bA.L0.F:bA.L0.D->bA.L0.Y:=λ(sum,l,m,i)=>sum+jJ (l.drop i.toNat)
def bA.aw:bA.D->Prop:=λs=>(∀c∈s.2.2.1,Gs c)/\s.2.2.1.length<=1000/\Bd (nth ti s.2.1 0) 0 1125899906842624/\Bd (nth ti s.2.1 1) 0 1125899906842624
def bA.F:bA.D->bA.Y:=λs=>nth ti s.2.1 0+nth ti s.2.1 1+jJ s.2.2.1
def bA.G:fD:=gz (P:=Tryz.prog) []
def bA.L0.E:=cV.dp bA.L0.st bA.L0.aw bA.L0.add bA.L0.F bA.L0.out
def bA.L0.call:bA.L0.D->Option bA.L0.X:=eI bA.L0.E bA.L0.st
def bA.an:fT:= {loops:=oF [(3,{bS:=[3,14,15,16]})],outs:=oE [(3,{bS:=[3]},{bS:=[2]})],jw:=pL [(3,bA.L0.E)]}
def bA.A:= @dq Tryz.prog bA.G bA.an 0 Tryz.f96 _ bA.st
abbrev bA.Ok:=dr @bA.A bA.aw bA.add bA.F bA.out
def bA.L0.R:= @dn Tryz.prog bA.G bA.an 0 Tryz.f96 0 _ bA.L0.st
abbrev bA.L0.Ok:=gw Tryz.prog bA.G bA.an 0 Tryz.f96 0 bA.L0.st bA.L0.aw bA.L0.add bA.L0.F bA.L0.out
theorem bA.L0.run:cl bA.L0.call bA.L0.aw bA.L0.add bA.L0.F:=gT (gS [.d ti,.d (.slice ke),.d ti,.d ti] λ_=>by kernel_rfl)
theorem bA.L0.aI:jk @bA.L0.R bA.L0.st bA.L0.aw bA.L0.add bA.L0.F bA.L0.bV bA.L0.Ok:=jm
theorem bA.L0.step{R:Type}(sum:Int)(t14:(List jj))(t15:Int)(t16:Int)(kn:AS->Option R)(kx:Exit->AS->Option R):bA.L0.R (sum,t14,t15,t16) kn kx=
  aJ ((jK t16 t15)) (
   aJ (fp t16 (((List.length t14):Nat):Int)) (
   kn (bA.L0.st ((bO .i64 sum (nth ke t14 (Int.toNat t16)).2.2.1),t14,t15,(bO .i64 t16 (1:Int))))) none) (
   kx (bA.L0.bV sum).1 (bA.L0.bV sum).2):=by kernel_rfl
theorem bA.eq{R:Type}(sv:jl)(k:aZ->Option R):bA.A sv k=
 aj (bA.L0.call ((bO .i64 (nth ti sv.2.1 0) (nth ti sv.2.1 1)),sv.2.2.1,(((List.length sv.2.2.1):Nat):Int),(0:Int))) λx1=>
 k (bA.out x1):=by kernel_rfl
theorem bA.L0.ok:bA.L0.Ok:=by
 refine bA.L0.aI (λ(sum,l,m,i)=>l.length - i.toNat) ?_
 rintro⟨sum,l,m,i⟩ ⟨hc,hl,rfl,k,hk,rfl,Ms,zM⟩
 have hk:k<=l.length:=hk
 have hl:l.length<=1000:=hl
 have Ms:0<=sum:=Ms
 have zM:sum<=2251799813685248+1125899906842624*k:=zM
 by_cases h:k < l.length
 ·left
  have hx:0<=l[k].2.2.1/\l[k].2.2.1<=1125899906842624:=hc _ (List.getElem_mem h)
  have n1:nth ke l k=l[k]:=dP (t:=ke) h
  refine⟨(sum+l[k].2.2.1,l,(l.length:Int),((k+1:Nat):Int)),⟨hc,hl,rfl,k+1,by omega,rfl,by omega,by omega⟩,by simp only[aa];omega,?_,λkn kx=> ?_⟩
  ·simp only[bA.L0.add,bA.L0.F,aa]
   rw[aA h,jJ,qS]
  ·rw[bA.L0.step,bI (by omega),bF (by omega) (by omega),aa,n1,N.pJ (by omega),ff (by omega) (by omega)]
   simp only[ah]
 ·right
  obtain rfl:k=l.length:=by omega
  intro R kn kx
  rw[bA.L0.step,bp (by omega),ai]
  simp only[bA.L0.add,bA.L0.F,aa,bH,jJ,lU]
theorem bA.ok:bA.Ok:=by
 rintro s ⟨hc,hl,h0,h1⟩
 have XU:=h0.1
 have XV:=h0.2
 have Rx:=h1.1
 have Tx:=h1.2
 rw[bA.eq,ff (by omega) (by omega),bA.L0.run (d:=(nth ti s.2.1 0+nth ti s.2.1 1,s.2.2.1,(s.2.2.1.length:Int),0)) ⟨hc,hl,rfl,0,bm _,rfl,by omega,by omega⟩]
 simp only[ab,bA.L0.add,bA.L0.F,bK,aW,bA.add,bA.F]
def bA.E:=Entry.dp [some mC] bA.st bA.aw bA.add bA.F bA.out
def bA.call:bA.D->Option bA.X:=cj bA.E bA.st
theorem bA.run:cl bA.call bA.aw bA.add bA.F:=dw (du [.d mC] λ_=>by kernel_rfl)
def bA.sg:SG Tryz.prog:=⟨96,aP,bA.E,.fn 1 (by kernel_rfl) bA.ok (And.intro (.dp bA.L0.ok (by kernel_rfl)) trivial)⟩
abbrev jS.D:=Int×Int×Int
def jS.st:jS.D->SA:=λ(n,o0,o1)=>([.d ti n,.ptr (.ew 0) 0 [] 0,.ptr (.ew 1) 0 [] 0],[.obj 0 false (.d ti o0),.obj 0 false (.d ti o1)])
abbrev jS.Y:=Bool
abbrev jS.X:=(Int×Int)×(Bool)
def jS.out:jS.X->aZ:=λx=>⟨.d .bool x.2,[.obj 0 false (.d ti x.1.1),.obj 0 false (.d ti x.1.2)],[]⟩
def jS.add:jS.D->jS.Y->jS.X:=λ(n,o0,o1) y=>((o0,o1),y)
def jS.aw:jS.D->Prop:=λ_=>True
def jS.F:jS.D->jS.Y:=λ(n,lo,hi)=> !qA n lo hi
def jS.G:fD:=gz (P:=Tryz.prog) []
def jS.an:fT:= {}
def jS.A:= @dq Tryz.prog jS.G jS.an 0 Tryz.f137 _ jS.st
abbrev jS.Ok:=dr @jS.A jS.aw jS.add jS.F jS.out
theorem jS.eq{R:Type}(n:Int)(o0:Int)(o1:Int)(k:aZ->Option R):jS.A (n,o0,o1) k=
  aJ ((jK n o0)) (
   k (jS.out ((o0,o1),true))) (
   k (jS.out ((o0,o1),(so n o1)))):=by kernel_rfl
theorem jS.ok:jS.Ok:=by
 rintro⟨n,lo,hi⟩ _
 rw[jS.eq]
 simp only[jS.add,jS.F]
 by_cases h:n < lo
 ·rw[bI h,ah,pc (by omega)];rfl
 ·rw[bp h,ai]
  by_cases h2:n > hi
  ·rw[fA h2,pc (by omega)];rfl
  ·rw[dW h2,la (by omega) (by omega)];rfl
def jS.E:=Entry.dp [some ti,none,none] jS.st jS.aw jS.add jS.F jS.out
def jS.call:jS.D->Option jS.X:=cj jS.E jS.st
theorem jS.run:cl jS.call jS.aw jS.add jS.F:=dw (du [.d ti,.d ti,.d ti] λ_=>by kernel_rfl)
def jS.sg:SG Tryz.prog:=⟨137,aP,jS.E,.fn 0 (by kernel_rfl) jS.ok trivial⟩
abbrev dN.L0.D:=(List Int)×Int×Int×Int×Int
def dN.L0.st:dN.L0.D->AS:=λ(ee,t7,t8,sM,ow)=>⟨([.d (.slice ti) ee,.fn 137 (.cons (.ptr (.ew 0) 0 [] 0) (.cons (.ptr (.ew 1) 0 [] 0) (.nil)))]++bG 5 ([.d ti t7,.d ti t8]++bG 10 [])),[.obj 0 false (.d ti sM),.obj 0 false (.d ti ow)],(List.replicate 19 [])⟩
abbrev dN.L0.Y0:=Int×Int×Int
abbrev dN.L0.X0:=Int×Int×Int
def dN.L0.bV:dN.L0.X0->Exit×AS:=λx=>(.ret,⟨(bG 4 ([.d ti x.1]++bG 14 [])),[.obj 0 false (.d ti x.2.1),.obj 0 false (.d ti x.2.2)],(List.replicate 19 [])⟩)
abbrev dN.L0.Y1:=Int×Int
abbrev dN.L0.X1:=Int×Int
def dN.L0.kI:dN.L0.X1->Exit×AS:=λx=>(.exit 0,⟨(bG 19 []),[.obj 0 false (.d ti x.1),.obj 0 false (.d ti x.2)],(List.replicate 19 [])⟩)
abbrev dN.L0.X:=(dN.L0.X0)⊕(dN.L0.X1)
abbrev dN.L0.Y:=(dN.L0.Y0)⊕(dN.L0.Y1)
def dN.L0.out:dN.L0.X->Out (Exit×AS):=λx=> .br x.isLeft (.get x.getLeft? λa=> .ok (dN.L0.bV a)) (.get x.getRight? λb=> .ok (dN.L0.kI b))
def dN.L0.add:dN.L0.D->dN.L0.Y->dN.L0.X:=λ(ee,t7,t8,sM,ow) y=>match y with | .inl y=> .inl y | .inr z=> .inr (z)
abbrev dN.D:=(List Int)×Int×Int
def dN.st:dN.D->SA:=λ(sv,o0,o1)=>([.d (.slice ti) sv,.fn 137 (.cons (.ptr (.ew 0) 0 [] 0) (.cons (.ptr (.ew 1) 0 [] 0) (.nil)))],[.obj 0 false (.d ti o0),.obj 0 false (.d ti o1)])
abbrev dN.Y:=Int×Int×Int
abbrev dN.X:=Int×Int×Int
def dN.out:dN.X->aZ:=λx=>⟨.d ti x.1,[.obj 0 false (.d ti x.2.1),.obj 0 false (.d ti x.2.2)],[]⟩
def dN.add:dN.D->dN.Y->dN.X:=λ(sv,o0,o1) y=>y
def dN.L0.aw:dN.L0.D->Prop:=λ(l,n,i,lo,hi)=>l.length<=1000000000/\n=l.length/\∃k:Nat,k<=l.length/\i=k
def dN.L0.F:dN.L0.D->dN.L0.Y:=λ(l,n,i,lo,hi)=>match tN (λx=> !qA x lo hi) (l.drop i.toNat) i with | .inl j=> .inl (j,lo,hi) | .inr _=> .inr (lo,hi)
def dN.aw:dN.D->Prop:=λ(l,_,_)=>l.length<=1000000000
def dN.F:dN.D->dN.Y:=λ(l,lo,hi)=>(DO (λx=> !qA x lo hi) l,lo,hi)
def dN.G:fD:=gz (P:=Tryz.prog) [jS.sg]
def dN.L0.E:=cV.dp dN.L0.st dN.L0.aw dN.L0.add dN.L0.F dN.L0.out
def dN.L0.call:dN.L0.D->Option dN.L0.X:=eI dN.L0.E dN.L0.st
def dN.an:fT:= {loops:=oF [(2,{bS:=[0,1,7,8]})],outs:=oE [(2,{},{bS:=[4]})],jw:=pL [(2,dN.L0.E)]}
def dN.A:= @dq Tryz.prog dN.G dN.an 0 Tryz.f170 _ dN.st
abbrev dN.Ok:=dr @dN.A dN.aw dN.add dN.F dN.out
def dN.L0.R:= @dn Tryz.prog dN.G dN.an 0 Tryz.f170 0 _ dN.L0.st
abbrev dN.L0.Ok:=gw Tryz.prog dN.G dN.an 0 Tryz.f170 0 dN.L0.st dN.L0.aw dN.L0.add dN.L0.F dN.L0.out
theorem dN.L0.run:cl dN.L0.call dN.L0.aw dN.L0.add dN.L0.F:=gT (gS [.d (.slice ti),.d ti,.d ti,.d ti,.d ti] λ_=>by kernel_rfl)
theorem dN.L0.aI:sB @dN.L0.R dN.L0.st dN.L0.aw dN.L0.add dN.L0.F dN.L0.out dN.L0.Ok:=s8
theorem dN.L0.step{R:Type}(ee:(List Int))(t7:Int)(t8:Int)(sM:Int)(ow:Int)(kn:AS->Option R)(kx:Exit->AS->Option R):dN.L0.R (ee,t7,t8,sM,ow) kn kx=
  aJ ((jK t8 t7)) (
   aJ (fp t8 (((List.length ee):Nat):Int)) (
   aj (jS.call ((nth ti ee (Int.toNat t8)),sM,ow)) λx1=>
   aJ (x1.2) (
    kx (dN.L0.bV (t8,x1.1.1,x1.1.2)).1 (dN.L0.bV (t8,x1.1.1,x1.1.2)).2) (
    kn (dN.L0.st (ee,t7,(bO .i64 t8 (1:Int)),x1.1.1,x1.1.2)))) none) (
   kx (dN.L0.kI (sM,ow)).1 (dN.L0.kI (sM,ow)).2):=by kernel_rfl
theorem dN.eq{R:Type}(sv:(List Int))(o0:Int)(o1:Int)(k:aZ->Option R):dN.A (sv,o0,o1) k=
  aj (dN.L0.call (sv,(((List.length sv):Nat):Int),(0:Int),o0,o1)) λx2=>
  aJ (x2.isLeft) (
   aj (x2.getLeft?) λa3=>
   k (dN.out (a3.1,a3.2.1,a3.2.2))) (
   aj (x2.getRight?) λb4=>
   k (dN.out ((-1:Int),b4.1,b4.2))):=by kernel_rfl
theorem jS.c(n lo hi:Int):jS.call (n,lo,hi)=some ((lo,hi),!qA n lo hi):=jS.run (d:=(n,lo,hi)) trivial
theorem dN.L0.ok:dN.L0.Ok:=by
 refine dN.L0.aI (λ(l,n,i,lo,hi)=>l.length - i.toNat) ?_
 rintro⟨l,n,i,lo,hi⟩ ⟨hl,rfl,k,hk,rfl⟩
 have hl:l.length<=1000000000:=hl
 have hk:k<=l.length:=hk
 by_cases h:k < l.length
 ·have n1:nth ti l k=l[k]:=dP (t:=ti) h
  have hd:tN (λx=> !qA x lo hi) (l.drop k) k=if(!qA l[k] lo hi)=true then .inl (k:Int) else tN (λx=> !qA x lo hi) (l.drop (k+1)) ((k+1:Nat):Int):=by rw[aA h];rfl
  have step:∀ {R:Type} (kn:AS->Option R) (kx:Exit->AS->Option R),dN.L0.R (l,(l.length:Int),(k:Int),lo,hi) kn kx=aJ (!qA l[k] lo hi) (kx (dN.L0.bV ((k:Int),lo,hi)).1 (dN.L0.bV ((k:Int),lo,hi)).2) (kn (dN.L0.st (l,(l.length:Int),((k+1:Nat):Int),lo,hi))):=by
   intro R kn kx
   rw[dN.L0.step,bI (by omega),bF (by omega) (by omega),aa,n1,jS.c,N.pJ (by omega)]
   rfl
  cases hp:qA l[k] lo hi
  ·right
   refine⟨dN.L0.bV ((k:Int),lo,hi),?_,λkn kx=> ?_⟩
   ·simp only[dN.L0.add,dN.L0.F,aa,hd,hp,gk,if_true]
    rfl
   ·rw[step,hp,gk,ah]
  ·left
   refine⟨(l,l.length,((k+1:Nat):Int),lo,hi),⟨hl,rfl,k+1,by omega,rfl⟩,by simp only[aa];omega,?_,λkn kx=> ?_⟩
   ·simp only[dN.L0.add,dN.L0.F,aa,hd,hp,bY,cF,if_false]
   ·rw[step,hp,bY,ai]
 ·right
  obtain rfl:k=l.length:=by omega
  refine⟨dN.L0.kI (lo,hi),?_,λkn kx=> ?_⟩
  ·simp only[dN.L0.add,dN.L0.F,aa,bH]
   rfl
  ·rw[dN.L0.step,bp (by omega),ai]
theorem dN.ok:dN.Ok:=by
 rintro⟨l,lo,hi⟩ hl
 rw[dN.eq,dN.L0.run (d:=(l,l.length,0,lo,hi)) ⟨hl,rfl,0,bm _,rfl⟩]
 simp only[ab,dN.L0.add,dN.L0.F,bK,aW,dN.add,dN.F,DO]
 cases tN (λx=> !qA x lo hi) l 0 <;> rfl
def dN.E:=Entry.dp [some (.slice ti),none] dN.st dN.aw dN.add dN.F dN.out
def dN.call:dN.D->Option dN.X:=cj dN.E dN.st
theorem dN.run:cl dN.call dN.aw dN.add dN.F:=dw (du [.d (.slice ti),.d ti,.d ti] λ_=>by kernel_rfl)
def dN.sg:SG Tryz.prog:=⟨170,aP,dN.E,.fn 1 (by kernel_rfl) dN.ok (And.intro (.dp dN.L0.ok (by kernel_rfl)) trivial)⟩
abbrev j4.D:=(List Int)×Int×Int
def j4.st:j4.D->SA:=λ(sv,o0,o1)=>([.d (.slice ti) sv,.fn 137 (.cons (.ptr (.ew 0) 0 [] 0) (.cons (.ptr (.ew 1) 0 [] 0) (.nil)))],[.obj 0 false (.d ti o0),.obj 0 false (.d ti o1)])
abbrev j4.Y:=Bool×Int×Int
abbrev j4.X:=Bool×Int×Int
def j4.out:j4.X->aZ:=λx=>⟨.d .bool x.1,[.obj 0 false (.d ti x.2.1),.obj 0 false (.d ti x.2.2)],[]⟩
def j4.add:j4.D->j4.Y->j4.X:=λ(sv,o0,o1) y=>y
def j4.aw:j4.D->Prop:=λ(l,_,_)=>l.length<=1000000000
def j4.F:j4.D->j4.Y:=λ(l,lo,hi)=>(l.any λx=> !qA x lo hi,lo,hi)
def j4.G:fD:=gz (P:=Tryz.prog) [dN.sg]
def j4.an:fT:= {}
def j4.A:= @dq Tryz.prog j4.G j4.an 0 Tryz.f136 _ j4.st
abbrev j4.Ok:=dr @j4.A j4.aw j4.add j4.F j4.out
theorem j4.eq{R:Type}(sv:(List Int))(o0:Int)(o1:Int)(k:aZ->Option R):j4.A (sv,o0,o1) k=
 aj (dN.call (sv,o0,o1)) λx1=>
 k (j4.out ((qz x1.1 (0:Int)),x1.2.1,x1.2.2)):=by kernel_rfl
theorem j4.ok:j4.Ok:=by
 rintro⟨l,lo,hi⟩ hl
 rw[j4.eq,dN.run (d:=(l,lo,hi)) hl]
 simp only[ab,dN.add,dN.F,yD,j4.add,j4.F]
def j4.E:=Entry.dp [some (.slice ti),none] j4.st j4.aw j4.add j4.F j4.out
def j4.call:j4.D->Option j4.X:=cj j4.E j4.st
theorem j4.run:cl j4.call j4.aw j4.add j4.F:=dw (du [.d (.slice ti),.d ti,.d ti] λ_=>by kernel_rfl)
def j4.sg:SG Tryz.prog:=⟨136,aP,j4.E,.fn 0 (by kernel_rfl) j4.ok trivial⟩
abbrev cI.D:=Int×Int×(List Int)
def cI.st:cI.D->SA:=λ(low,high,l)=>([.d ti low,.d ti high,.d (.slice ti) l],[])
abbrev cI.Y:=Bool
abbrev cI.X:=Bool
def cI.out:cI.X->aZ:=λx=>⟨.d .bool x,[],[]⟩
def cI.add:cI.D->cI.Y->cI.X:=λ(low,high,l) y=>y
def cI.aw:cI.D->Prop:=λ(_,_,l)=>l.length<=1000000000
def cI.F:cI.D->cI.Y:=λ(lo,hi,l)=>l.all λx=>qA x lo hi
def cI.G:fD:=gz (P:=Tryz.prog) [j4.sg]
def cI.an:fT:= {da:=[3,4]}
def cI.A:= @dq Tryz.prog cI.G cI.an 0 Tryz.f92 _ cI.st
abbrev cI.Ok:=dr @cI.A cI.aw cI.add cI.F cI.out
theorem cI.eq{R:Type}(low:Int)(high:Int)(l:(List Int))(k:aZ->Option R):cI.A (low,high,l) k=
 aj (j4.call (l,low,high)) λx1=>
 k (cI.out (!x1.1)):=by kernel_rfl
theorem cI.ok:cI.Ok:=by
 rintro⟨lo,hi,l⟩ hl
 rw[cI.eq,j4.run (d:=(l,lo,hi)) hl]
 simp only[ab,j4.add,j4.F,cI.add,cI.F]
 rw[List.not_any_eq_all_not]
 simp only[Bool.not_not]
def cI.E:=Entry.dp [some ti,some ti,some (.slice ti)] cI.st cI.aw cI.add cI.F cI.out
def cI.call:cI.D->Option cI.X:=cj cI.E cI.st
theorem cI.run:cl cI.call cI.aw cI.add cI.F:=dw (du [.d ti,.d ti,.d (.slice ti)] λ_=>by kernel_rfl)
def cI.sg:SG Tryz.prog:=⟨92,aP,cI.E,.fn 0 (by kernel_rfl) cI.ok trivial⟩
theorem cI.c1(lo hi x:Int):cI.call (lo,hi,[x])=some (qA x lo hi):=by
 rw[cI.run (d:=(lo,hi,[x])) (by show 1<=_;decide)]
 simp only[cI.add,cI.F,kG,oe,lk]
theorem cI.c2(lo hi x y:Int):cI.call (lo,hi,[x,y])=some (qA x lo hi && qA y lo hi):=by
 rw[cI.run (d:=(lo,hi,[x,y])) (by show 2<=_;decide)]
 simp only[cI.add,cI.F,kG,oe,lk]
abbrev eX.D:=jj
def eX.st:eX.D->SA:=λc=>([.d ke c],[])
abbrev eX.Y:=Bool
abbrev eX.X:=Bool
def eX.out:eX.X->aZ:=λx=>⟨.d .bool x,[],[]⟩
def eX.add:eX.D->eX.Y->eX.X:=λc y=>y
def eX.aw:eX.D->Prop:=λc=>iw c.2.2.2.1
def eX.F:eX.D->eX.Y:=λc=>Gl c
def eX.G:fD:=gz (P:=Tryz.prog) [cI.sg,dy.sg]
def eX.an:fT:= {}
def eX.A:= @dq Tryz.prog eX.G eX.an 0 Tryz.f93 _ eX.st
abbrev eX.Ok:=dr @eX.A eX.aw eX.add eX.F eX.out
theorem eX.eq{R:Type}(c:jj)(k:aZ->Option R):eX.A c k=
  aj (cI.call ((0:Int),(1:Int),[c.1])) λx1=>
  aJ (x1) (
   aj (cI.call ((1:Int),(1048576:Int),[c.2.1])) λx2=>
   aJ (x2) (
    aj (cI.call ((1:Int),(1125899906842624:Int),[c.2.2.1])) λx3=>
    aJ (x3) (
     aj (cI.call ((1:Int),(1048576:Int),[c.2.2.2.2.1])) λx4=>
     aJ (x4) (
      aj (dy.call c.2.2.2.1) λx5=>
      aJ (x5) (
       k (eX.out (rN c.2.2.2.1 (1:Int)))) (
       k (eX.out false))) (
      k (eX.out false))) (
     k (eX.out false))) (
    k (eX.out false))) (
   k (eX.out false)):=by kernel_rfl
theorem eX.ok:eX.Ok:=by
 intro c hc
 rw[eX.eq,dy.run (d:=c.2.2.2.1) hc]
 simp only[ab,cI.c1,dy.add,dy.F,eX.add,eX.F,Gl,D3]
 cases oS c.2.2.2.1 <;> cases rN c.2.2.2.1 1 <;> cases qA c.1 0 1 <;> cases qA c.2.1 1 1048576 <;> cases qA c.2.2.1 1 1125899906842624 <;> cases qA c.2.2.2.2.1 1 1048576 <;> rfl
def eX.E:=Entry.dp [some ke] eX.st eX.aw eX.add eX.F eX.out
def eX.call:eX.D->Option eX.X:=cj eX.E eX.st
theorem eX.run:cl eX.call eX.aw eX.add eX.F:=dw (du [.d ke] λ_=>by kernel_rfl)
def eX.sg:SG Tryz.prog:=⟨93,aP,eX.E,.fn 0 (by kernel_rfl) eX.ok trivial⟩
theorem Q6(x y u v:Int):NV [xc x y,xc u v]=if decide (x < y\/x=y/\u < v)=true then -1 else if x=y/\u=v then 0 else 1:=by
 by_cases h1:x < y
 ·simp[NV,xc,h1]
 ·by_cases h2:x=y
  ·by_cases h3:u < v
   ·simp[NV,xc,h2,h3]
   ·by_cases h4:u=v
    ·simp[NV,xc,h2,h4]
    ·have h5:v < u:=by omega
     simp[NV,xc,h2,h3,h4,h5]
  ·have h5:y < x:=by omega
   simp[NV,xc,h1,h2,h5]
abbrev fh.D:=jj×jj
def fh.st:fh.D->SA:=λ(a,b)=>([.d ke a,.d ke b],[])
abbrev fh.Y:=Int
abbrev fh.X:=Int
def fh.out:fh.X->aZ:=λx=>⟨.d ti x,[],[]⟩
def fh.add:fh.D->fh.Y->fh.X:=λ(a,b) y=>y
def fh.aw:fh.D->Prop:=λ_=>True
def fh.F:fh.D->fh.Y:=λ(a,b)=>if zo a b=true then -1 else if a.1=b.1/\a.2.1=b.2.1 then 0 else 1
def fh.G:fD:=gz (P:=Tryz.prog) [iP.sg,iJ.sg]
def fh.an:fT:= {}
def fh.A:= @dq Tryz.prog fh.G fh.an 0 Tryz.f94 _ fh.st
abbrev fh.Ok:=dr @fh.A fh.aw fh.add fh.F fh.out
theorem fh.eq{R:Type}(a:jj)(b:jj)(k:aZ->Option R):fh.A (a,b) k=
 aj (iP.call (a.1,b.1)) λx1=>
 aj (iP.call (a.2.1,b.2.1)) λx2=>
 aj (iJ.call [x1,x2]) λx3=>
 k (fh.out x3):=by kernel_rfl
theorem fh.ok:fh.Ok:=by
 rintro⟨a,b⟩ _
 rw[fh.eq,iP.run (d:=(a.1,b.1)) trivial]
 simp only[ab,iP.add,iP.F]
 rw[iP.run (d:=(a.2.1,b.2.1)) trivial]
 simp only[ab,iP.add,iP.F]
 rw[iJ.run (d:=[xc a.1 b.1,xc a.2.1 b.2.1]) (by show 2<=_;decide)]
 simp only[ab,iJ.add,iJ.F,fh.add,fh.F,zo]
 rw[Q6]
 rfl
def fh.E:=Entry.dp [some ke,some ke] fh.st fh.aw fh.add fh.F fh.out
def fh.call:fh.D->Option fh.X:=cj fh.E fh.st
theorem fh.run:cl fh.call fh.aw fh.add fh.F:=dw (du [.d ke,.d ke] λ_=>by kernel_rfl)
def fh.sg:SG Tryz.prog:=⟨94,aP,fh.E,.fn 0 (by kernel_rfl) fh.ok trivial⟩
theorem fh.ge(a b:jj):∃n,fh.call (a,b)=some n/\qz n 0= !zo a b:=by
 refine⟨_,fh.run (d:=(a,b)) trivial,?_⟩
 simp only[fh.add,fh.F]
 cases zo a b
 ·simp only[cF,if_false]
  split <;> rfl
 ·rfl
theorem Ox(d:Int):(te d).2.2.2.1=16:=rfl
theorem UF(d:Int):(te d).2.2.2.2.2.1=1125899906842624:=rfl
theorem WT(d:Int):(te d).2.2.2.2.1=1:=rfl
theorem Y4(d:Int):(te d).2.1=200:=rfl
theorem WS(d:Int):(te d).2.2.1=d:=rfl
theorem ns.t0{ch:iN}(h:ns ch):nth oP ch.2.2.2.1 0=te 5:=by
 obtain⟨a,b0,b1,o,rfl,_⟩:=h
 rfl
theorem ns.t1{ch:iN}(h:ns ch):nth oP ch.2.2.2.1 1=te 6:=by
 obtain⟨a,b0,b1,o,rfl,_⟩:=h
 rfl
theorem ns.t{ch:iN}(h:ns ch){n:Int}(hn:n=0\/n=1):∃d,nth oP ch.2.2.2.1 n.toNat=te d/\(d=5\/d=6):=by
 rcases hn with rfl | rfl
 ·exact⟨5,h.t0,.inl rfl⟩
 ·exact⟨6,h.t1,.inr rfl⟩
theorem ns.op{ch:iN}(h:ns ch):ch.2.2.2.2.1=0\/ch.2.2.2.2.1=1:=by
 obtain⟨a,b0,b1,o,rfl,_,_,_,_,ho⟩:=h
 exact ho
theorem ns.DD{ch:iN}(h:ns ch):20000<=ch.2.1/\ch.2.1<=4294987295:=by
 obtain⟨a,b0,b1,o,rfl,h1,h2,_⟩:=h
 exact⟨h1,h2⟩
theorem Qa.a{c:jj}(h:Qa c):Gs c:=⟨by have:=h.DD.1;omega,h.DD.2⟩
theorem JD{n:Int}(h:0<=n/\n<=1):cY .i64 1 n=1 - n:=gm (by omega) (by omega)
abbrev aQ.L0.D:=iN×jl×Int
def aQ.L0.st:aQ.L0.D->AS:=λ(jB,ee,i)=>⟨([.undef,.undef,.gE nb jB,.gE mC ee,.undef,.d ti i]++bG 135 []),[],(List.replicate 141 [])⟩
abbrev aQ.L0.Y0:=Unit
abbrev aQ.L0.X0:=Unit
def aQ.L0.bV:aQ.L0.X0->Exit×AS:=λx=>(.ret,⟨(bG 4 ([.d .bool false]++bG 136 [])),[],(List.replicate 141 [])⟩)
abbrev aQ.L0.Y1:=Unit
abbrev aQ.L0.X1:=iN×jl
def aQ.L0.kI:aQ.L0.X1->Exit×AS:=λx=>(.exit 0,⟨([.undef,.undef,.gE nb x.1,.gE mC x.2]++bG 137 []),[],(List.replicate 141 [])⟩)
abbrev aQ.L0.X:=(aQ.L0.X0)⊕(aQ.L0.X1)
abbrev aQ.L0.Y:=(aQ.L0.Y0)⊕(aQ.L0.Y1)
def aQ.L0.out:aQ.L0.X->Out (Exit×AS):=λx=> .br x.isLeft (.get x.getLeft? λa=> .ok (aQ.L0.bV a)) (.get x.getRight? λb=> .ok (aQ.L0.kI b))
def aQ.L0.add:aQ.L0.D->aQ.L0.Y->aQ.L0.X:=λ(jB,ee,i) y=>match y with | .inl y=> .inl y | .inr z=> .inr ((jB,ee))
abbrev aQ.D:=iN×jl
def aQ.st:aQ.D->SA:=λ(ch,sv)=>([.d nb ch,.d mC sv],[])
abbrev aQ.Y:=Bool
abbrev aQ.X:=Bool
def aQ.out:aQ.X->aZ:=λx=>⟨.d .bool x,[],[]⟩
def aQ.add:aQ.D->aQ.Y->aQ.X:=λ(ch,sv) y=>y
def aQ.L0.aw:aQ.L0.D->Prop:=λ(ch,sv,i)=>ns ch/\uE sv/\∃k:Nat,k<=sv.2.2.1.length/\i=k
def aQ.L0.F:aQ.L0.D->aQ.L0.Y:=λ(ch,sv,i)=>if tF (yT sv.2.2.1 i.toNat) (sv.2.2.1.drop i.toNat)=true then .inr () else .inl ()
def aQ.aw:aQ.D->Prop:=λ(ch,s)=>ns ch/\uE s
def aQ.F:aQ.D->aQ.Y:=λ(ch,s)=>ye ch s
def aQ.G:fD:=gz (P:=Tryz.prog) [cC.sg,je.sg,eD.sg,dA.sg,cK.sg,cX.sg,fe.sg]
def aQ.L0.E:=cV.dp aQ.L0.st aQ.L0.aw aQ.L0.add aQ.L0.F aQ.L0.out
def aQ.L0.call:aQ.L0.D->Option aQ.L0.X:=eI aQ.L0.E aQ.L0.st
def aQ.an:fT:= {loops:=oF [(4,{bS:=[2,3,5]}),(10,{bS:=[2,3,7],sites:=[11,16,23,30,36,57,75,106,126,138]})],outs:=oE [(4,{bS:=[2,3]},{bS:=[4]}),(10,{bS:=[2,3],sites:=[11,16,23,30,36,57,75,106,126,138]},{bS:=[4],sites:=[11,16,23,30,36,57,75,106,126,138]})],jw:=pL [(4,aQ.L0.E)]}
def aQ.A:= @dq Tryz.prog aQ.G aQ.an 3 Tryz.f27 _ aQ.st
abbrev aQ.Ok:=dr @aQ.A aQ.aw aQ.add aQ.F aQ.out
def aQ.L0.R:= @dn Tryz.prog aQ.G aQ.an 3 Tryz.f27 0 _ aQ.L0.st
abbrev aQ.L0.Ok:=gw Tryz.prog aQ.G aQ.an 3 Tryz.f27 0 aQ.L0.st aQ.L0.aw aQ.L0.add aQ.L0.F aQ.L0.out
theorem aQ.L0.run:cl aQ.L0.call aQ.L0.aw aQ.L0.add aQ.L0.F:=gT (gS [.d nb,.d mC,.d ti] λ_=>by kernel_rfl)
theorem aQ.L0.aI:sB @aQ.L0.R aQ.L0.st aQ.L0.aw aQ.L0.add aQ.L0.F aQ.L0.out aQ.L0.Ok:=s8
theorem aQ.L0.step{R:Type}(jB:iN)(ee:jl)(i:Int)(kn:AS->Option R)(kx:Exit->AS->Option R):aQ.L0.R (jB,ee,i) kn kx=
  aJ ((jK i (((List.length ee.2.2.1):Nat):Int))) (
   aJ (fp i (((List.length ee.2.2.1):Nat):Int)) (
   aj (eD.call (nth ke ee.2.2.1 (Int.toNat i))) λx1=>
   aJ ((!x1)) (
    kx (aQ.L0.bV ()).1 (aQ.L0.bV ()).2) (
    aJ ((so i (0:Int))) (
     aJ (fp (cY .i64 i (1:Int)) (((List.length ee.2.2.1):Nat):Int)) (
     aJ (fp i (((List.length ee.2.2.1):Nat):Int)) (
     aj (dA.call ((nth ke ee.2.2.1 (Int.toNat (cY .i64 i (1:Int)))),(nth ke ee.2.2.1 (Int.toNat i)))) λx2=>
     aJ ((!x2)) (
      kx (aQ.L0.bV ()).1 (aQ.L0.bV ()).2) (
      aJ (fp i (((List.length ee.2.2.1):Nat):Int)) (
      aJ (fp i (((List.length ee.2.2.1):Nat):Int)) (
      aJ (fp (cY .i64 (1:Int) (nth ke ee.2.2.1 (Int.toNat i)).1) (2:Int)) (
      aJ ((jK (nth ke ee.2.2.1 (Int.toNat i)).2.2.1 (nth oP jB.2.2.2.1 (Int.toNat (cY .i64 (1:Int) (nth ke ee.2.2.1 (Int.toNat i)).1))).2.2.2.2.1)) (
       kx (aQ.L0.bV ()).1 (aQ.L0.bV ()).2) (
       kn (aQ.L0.st (jB,ee,(bO .i64 i (1:Int)))))) none) none) none)) none) none) (
     aJ (fp i (((List.length ee.2.2.1):Nat):Int)) (
     aJ (fp i (((List.length ee.2.2.1):Nat):Int)) (
     aJ (fp (cY .i64 (1:Int) (nth ke ee.2.2.1 (Int.toNat i)).1) (2:Int)) (
     aJ ((jK (nth ke ee.2.2.1 (Int.toNat i)).2.2.1 (nth oP jB.2.2.2.1 (Int.toNat (cY .i64 (1:Int) (nth ke ee.2.2.1 (Int.toNat i)).1))).2.2.2.2.1)) (
      kx (aQ.L0.bV ()).1 (aQ.L0.bV ()).2) (
      kn (aQ.L0.st (jB,ee,(bO .i64 i (1:Int)))))) none) none) none))) none) (
   kx (aQ.L0.kI (jB,ee)).1 (aQ.L0.kI (jB,ee)).2):=by kernel_rfl
theorem aQ.eq{R:Type}(ch:iN)(sv:jl)(k:aZ->Option R):aQ.A (ch,sv) k=
  aj (cC.call ch) λx1=>
  aJ ((rN x1 (0:Int))) (
   k (aQ.out false)) (
   aj (je.call (sv.1,(0:Int),(1048576:Int))) λx2=>
   aJ ((!x2)) (
    k (aQ.out false)) (
    aj (je.call ((nth ti sv.2.1 0),(0:Int),(1125899906842624:Int))) λx3=>
    aJ ((!x3)) (
     k (aQ.out false)) (
     aj (je.call ((nth ti sv.2.1 1),(0:Int),(1125899906842624:Int))) λx4=>
     aJ ((!x4)) (
      k (aQ.out false)) (
      aj (je.call (sv.2.2.2.1,(0:Int),(1000:Int))) λx5=>
      aJ ((!x5)) (
       k (aQ.out false)) (
       aJ ((so (((List.length sv.2.2.1):Nat):Int) (16:Int))) (
        k (aQ.out false)) (
        aj (aQ.L0.call (ch,sv,(0:Int))) λx8=>
        aJ (x8.isLeft) (
         aj (x8.getLeft?) λa9=>
         k (aQ.out false)) (
         aj (x8.getRight?) λb10=>
         aj (cK.call (b10.2,(0:Int))) λBL=>
         aJ ((so BL.1 (nth oP b10.1.2.2.2.1 0).2.2.2.1)) (
          k (aQ.out false)) (
          aJ ((so BL.2 (nth oP b10.1.2.2.2.1 0).2.2.2.2.2.1)) (
           k (aQ.out false)) (
           aj (cK.call (b10.2,(1:Int))) λEc=>
           aJ ((so Ec.1 (nth oP b10.1.2.2.2.1 1).2.2.2.1)) (
            k (aQ.out false)) (
            aJ ((so Ec.2 (nth oP b10.1.2.2.2.1 1).2.2.2.2.2.1)) (
             k (aQ.out false)) (
             aj (cX.call b10.2) λP9=>
             aJ ((nX P9 b10.1.2.1)) (
              aJ (fp b10.1.2.2.2.2.1 (2:Int)) (
              aj (fe.call (b10.1,b10.2)) λUH=>
              k (aQ.out (qz (nth ti b10.2.2.1 (Int.toNat b10.1.2.2.2.2.1)) UH))) none) (
              k (aQ.out false))))))))))))):=by kernel_rfl
theorem aQ.L0.ok:aQ.L0.Ok:=by
 refine aQ.L0.aI (λ(ch,sv,i)=>sv.2.2.1.length - i.toNat) ?_
 rintro⟨ch,sv,i⟩ ⟨fI,hu,k,hk,rfl⟩
 have hu:uE sv:=hu
 have hl:sv.2.2.1.length<=1000:=hu.2.1
 have hk:k<=sv.2.2.1.length:=hk
 by_cases h:k < sv.2.2.1.length
 ·have hd:=J1 h
  have step:∀ {R:Type} (kn:AS->Option R) (kx:Exit->AS->Option R),aQ.L0.R (ch,sv,(k:Int)) kn kx=aJ (Gl sv.2.2.1[k] && (decide (k=0) || zo (nth ke sv.2.2.1 (k - 1)) sv.2.2.1[k])) (kn (aQ.L0.st (ch,sv,((k+1:Nat):Int)))) (kx (aQ.L0.bV ()).1 (aQ.L0.bV ()).2):=by
   intro R kn kx
   have n1:nth ke sv.2.2.1 k=sv.2.2.1[k]:=dP (t:=ke) h
   have hx:iw sv.2.2.1[k].2.2.2.1:=hu.1 _ (List.getElem_mem h)
   rw[aQ.L0.step,bI (by omega),bF (by omega) (by omega),aa,n1,eD.run (d:=sv.2.2.1[k]) hx,N.pJ (by omega)]
   simp only[ah,ab,eD.add,eD.F]
   cases hb:Gl sv.2.2.1[k]
   ·rfl
   ·have g:=sj.1 hb
    have i2:fp (1 - sv.2.2.1[k].1) 2=true:=bF (by have:=g.side;omega) (by have:=g.side;omega)
    obtain⟨d,TM,_⟩:=fI.t (n:=1 - sv.2.2.1[k].1) (by have:=g.side;omega)
    rw[bY,ai,JD g.side,TM,WT,bp (by have:=g.DD.1;omega),i2]
    simp only[ah,ai]
    by_cases h0:k=0
    ·subst h0
     rw[dW (by omega),ai,aO rfl]
     rfl
    ·rw[fA (by omega),ah,N.Vc (by omega) (by omega),bF (by omega) (by omega),ah,aa,dA.c,ab,cR h0]
     cases zo (nth ke sv.2.2.1 (k - 1)) sv.2.2.1[k] <;> rfl
  cases hp:(Gl sv.2.2.1[k] && (decide (k=0) || zo (nth ke sv.2.2.1 (k - 1)) sv.2.2.1[k]))
  ·right
   refine⟨aQ.L0.bV (),?_,λkn kx=> ?_⟩
   ·rw[<-Bool.and_assoc,hp,fK]at hd
    simp only[aQ.L0.add,aQ.L0.F,aa,hd,cF,if_false]
    rfl
   ·rw[step,hp,ai]
  ·left
   refine⟨(ch,sv,((k+1:Nat):Int)),⟨fI,hu,k+1,by omega,rfl⟩,by simp only[aa];omega,?_,λkn kx=> ?_⟩
   ·rw[<-Bool.and_assoc,hp,cv]at hd
    simp only[aQ.L0.add,aQ.L0.F,aa,hd]
   ·rw[step,hp,ah]
 ·right
  obtain rfl:k=sv.2.2.1.length:=by omega
  refine⟨aQ.L0.kI (ch,sv),?_,λkn kx=> ?_⟩
  ·simp only[aQ.L0.add,aQ.L0.F,aa,bH,tF,if_true]
   rfl
  ·rw[aQ.L0.step,bp (by omega),ai]
theorem aQ.ok:aQ.Ok:=by
 rintro⟨ch,s⟩ ⟨fI,hu⟩
 have fI:ns ch:=fI
 rw[aQ.eq,cC.run (d:=ch) fI]
 simp only[ab,cC.add,cC.F,je.c]
 rw[gK rfl,ai]
 simp only[aQ.add,aQ.F,ye]
 cases h1:qA s.1 0 1048576
 ·rfl
 cases h2:qA (nth ti s.2.1 0) 0 1125899906842624
 ·rfl
 cases h3:qA (nth ti s.2.1 1) 0 1125899906842624
 ·rfl
 cases h4:qA s.2.2.2.1 0 1000
 ·rfl
 simp only[bY,ai,cv]
 by_cases h5:s.2.2.1.length<=16
 rotate_left
 ·rw[fA (by omega),ah,cR h5];rfl
 rw[dW (by omega),ai,aO h5,cv,aQ.L0.run (d:=(ch,s,0)) ⟨fI,hu,0,bm _,rfl⟩]
 simp only[ab,aQ.L0.add,aQ.L0.F,bK,aW]
 rw[show yT s.2.2.1 0=none from rfl]
 cases h6:tF none s.2.2.1
 ·simp only[cF,if_false,nL,ah,mr,ab,fK]
 have hA:∀c∈s.2.2.1,Gs c:=λc hc=>(ug _ _ h6 c hc).a
 simp only[if_true,iZ,ai,gO,ab,cv]
 rw[cK.run (d:=(s,0)) ⟨.inl rfl,hA,by have:s.2.2.1.length<=16:=h5;show s.2.2.1.length<=1000;omega⟩]
 simp only[ab,cK.add,cK.F]
 have o0:=yP 0 s.2.2.1
 have o1:=yP 1 s.2.2.1
 rw[fI.t0,Ox,UF,dW (by omega),ai]
 by_cases h7:jJ (l6 0 s.2.2.1)<=1125899906842624
 rotate_left
 ·rw[fA (by omega),ah,cR h7];rfl
 rw[dW (by omega),ai,aO h7,cv,cK.run (d:=(s,1)) ⟨.inr rfl,hA,by have:s.2.2.1.length<=16:=h5;show s.2.2.1.length<=1000;omega⟩]
 simp only[ab,cK.add,cK.F]
 rw[fI.t1,Ox,UF,dW (by omega),ai]
 by_cases h8:jJ (l6 1 s.2.2.1)<=1125899906842624
 rotate_left
 ·rw[fA (by omega),ah,cR h8];rfl
 rw[dW (by omega),ai,aO h8,cv,cX.run (d:=s) ⟨hA,by have:s.2.2.1.length<=16:=h5;show s.2.2.1.length<=1000;omega,sq.1 h2,sq.1 h3⟩]
 simp only[ab,cX.add,cX.F]
 cases nX (nth ti s.2.1 0+nth ti s.2.1 1+jJ s.2.2.1) ch.2.1
 ·rfl
 have ho:=fI.op
 rw[ah,bF (by omega) (by omega),ah,fe.run (d:=(ch,s)) trivial]
 rfl
def aQ.E:=Entry.dp [some nb,some mC] aQ.st aQ.aw aQ.add aQ.F aQ.out
def aQ.call:aQ.D->Option aQ.X:=cj aQ.E aQ.st
theorem aQ.run:cl aQ.call aQ.aw aQ.add aQ.F:=dw (du [.d nb,.d mC] λ_=>by kernel_rfl)
def aQ.sg:SG Tryz.prog:=⟨27,aP,aQ.E,.fn 2 (by kernel_rfl) aQ.ok (And.intro (.dp aQ.L0.ok (by kernel_rfl)) (And.intro (.none (by kernel_rfl)) trivial))⟩
abbrev au.L0.D:=iN×jl×(List jj)×Int×Int
def au.L0.st:au.L0.D->AS:=λ(jB,ee,t46,t47,t48)=>⟨([.undef,.undef,.gE nb jB,.gE mC ee]++bG 42 ([.d (.slice ke) t46,.d ti t47,.d ti t48]++bG 74 [])),[],(List.replicate 123 [])⟩
abbrev au.L0.Y0:=Unit
abbrev au.L0.X0:=Unit
def au.L0.bV:au.L0.X0->Exit×AS:=λx=>(.ret,⟨(bG 4 ([.d .bool false]++bG 118 [])),[],(List.replicate 123 [])⟩)
abbrev au.L0.Y1:=Unit
abbrev au.L0.X1:=iN×jl
def au.L0.kI:au.L0.X1->Exit×AS:=λx=>(.exit 0,⟨([.undef,.undef,.gE nb x.1,.gE mC x.2]++bG 119 []),[],(List.replicate 123 [])⟩)
abbrev au.L0.X:=(au.L0.X0)⊕(au.L0.X1)
abbrev au.L0.Y:=(au.L0.Y0)⊕(au.L0.Y1)
def au.L0.out:au.L0.X->Out (Exit×AS):=λx=> .br x.isLeft (.get x.getLeft? λa=> .ok (au.L0.bV a)) (.get x.getRight? λb=> .ok (au.L0.kI b))
def au.L0.add:au.L0.D->au.L0.Y->au.L0.X:=λ(jB,ee,t46,t47,t48) y=>match y with | .inl y=> .inl y | .inr z=> .inr ((jB,ee))
abbrev au.L1.D:=iN×jl×(List Ml)×Int
def au.L1.st:au.L1.D->AS:=λ(GM,Ga,t85,t86)=>⟨([.undef,.undef,.gE nb GM,.gE mC Ga]++bG 81 ([.d (.arr 2 oP) t85,.d ti t86]++bG 36 [])),[],(List.replicate 123 [])⟩
abbrev au.L1.Y0:=Unit
abbrev au.L1.X0:=Unit
def au.L1.bV:au.L1.X0->Exit×AS:=λx=>(.ret,⟨(bG 4 ([.d .bool false]++bG 118 [])),[],(List.replicate 123 [])⟩)
abbrev au.L1.Y1:=Unit
abbrev au.L1.X1:=iN×jl
def au.L1.kI:au.L1.X1->Exit×AS:=λx=>(.exit 2,⟨([.undef,.undef,.gE nb x.1,.gE mC x.2]++bG 119 []),[],(List.replicate 123 [])⟩)
abbrev au.L1.X:=(au.L1.X0)⊕(au.L1.X1)
abbrev au.L1.Y:=(au.L1.Y0)⊕(au.L1.Y1)
def au.L1.out:au.L1.X->Out (Exit×AS):=λx=> .br x.isLeft (.get x.getLeft? λa=> .ok (au.L1.bV a)) (.get x.getRight? λb=> .ok (au.L1.kI b))
def au.L1.add:au.L1.D->au.L1.Y->au.L1.X:=λ(GM,Ga,t85,t86) y=>match y with | .inl y=> .inl y | .inr z=> .inr ((GM,Ga))
abbrev au.D:=iN×jl
def au.st:au.D->SA:=λ(ch,sv)=>([.d nb ch,.d mC sv],[])
abbrev au.Y:=Bool
abbrev au.X:=Bool
def au.out:au.X->aZ:=λx=>⟨.d .bool x,[],[]⟩
def au.add:au.D->au.Y->au.X:=λ(ch,sv) y=>y
def au.L1.aw:au.L1.D->Prop:=λ(ch,s,l,i)=>ns ch/\(∀c∈s.2.2.1,Gs c)/\s.2.2.1.length<=16/\l=ch.2.2.2.1/\(i=0\/i=1\/i=2)
def au.L1.F:au.L1.D->au.L1.Y:=λ(ch,s,l,i)=>if(decide (i<=0->jJ (l6 0 s.2.2.1)<=1125899906842624) && decide (i<=1->jJ (l6 1 s.2.2.1)<=1125899906842624))=true then .inr () else .inl ()
def au.L0.aw:au.L0.D->Prop:=λ(ch,sv,l,m,i)=>ns ch/\uE sv/\l=sv.2.2.1/\m=sv.2.2.1.length/\∃k:Nat,k<=sv.2.2.1.length/\i=k
def au.L0.F:au.L0.D->au.L0.Y:=λ(ch,sv,l,m,i)=>if tF (yT sv.2.2.1 i.toNat) (sv.2.2.1.drop i.toNat)=true then .inr () else .inl ()
def au.aw:au.D->Prop:=λ(ch,s)=>ns ch/\uE s
def au.F:au.D->au.Y:=λ(ch,s)=>ye ch s
def au.G:fD:=gz (P:=Tryz.prog) [cJ.sg,cI.sg,eX.sg,fh.sg,cQ.sg,bA.sg,fC.sg]
def au.L0.E:=cV.dp au.L0.st au.L0.aw au.L0.add au.L0.F au.L0.out
def au.L0.call:au.L0.D->Option au.L0.X:=eI au.L0.E au.L0.st
def au.L1.E:=cV.dp au.L1.st au.L1.aw au.L1.add au.L1.F au.L1.out
def au.L1.call:au.L1.D->Option au.L1.X:=eI au.L1.E au.L1.st
def au.an:fT:= {loops:=oF [(4,{bS:=[2,3,46,47,48]}),(10,{bS:=[2,3,85,86]})],outs:=oE [(4,{bS:=[2,3]},{bS:=[4]}),(10,{bS:=[2,3]},{bS:=[4]})],jw:=pL [(4,au.L0.E),(10,au.L1.E)]}
def au.A:= @dq Tryz.prog au.G au.an 0 Tryz.f41 _ au.st
abbrev au.Ok:=dr @au.A au.aw au.add au.F au.out
def au.L0.R:= @dn Tryz.prog au.G au.an 0 Tryz.f41 0 _ au.L0.st
abbrev au.L0.Ok:=gw Tryz.prog au.G au.an 0 Tryz.f41 0 au.L0.st au.L0.aw au.L0.add au.L0.F au.L0.out
def au.L1.R:= @dn Tryz.prog au.G au.an 0 Tryz.f41 1 _ au.L1.st
abbrev au.L1.Ok:=gw Tryz.prog au.G au.an 0 Tryz.f41 1 au.L1.st au.L1.aw au.L1.add au.L1.F au.L1.out
theorem au.L0.run:cl au.L0.call au.L0.aw au.L0.add au.L0.F:=gT (gS [.d nb,.d mC,.d (.slice ke),.d ti,.d ti] λ_=>by kernel_rfl)
theorem au.L0.aI:sB @au.L0.R au.L0.st au.L0.aw au.L0.add au.L0.F au.L0.out au.L0.Ok:=s8
theorem au.L0.step{R:Type}(jB:iN)(ee:jl)(t46:(List jj))(t47:Int)(t48:Int)(kn:AS->Option R)(kx:Exit->AS->Option R):au.L0.R (jB,ee,t46,t47,t48) kn kx=
  aJ ((jK t48 t47)) (
   aJ (fp t48 (((List.length t46):Nat):Int)) (
   aj (eX.call (nth ke t46 (Int.toNat t48))) λx1=>
   aJ ((!x1)) (
    kx (au.L0.bV ()).1 (au.L0.bV ()).2) (
    aJ (fp (cY .i64 (1:Int) (nth ke t46 (Int.toNat t48)).1) (2:Int)) (
    aJ ((jK (nth ke t46 (Int.toNat t48)).2.2.1 (nth oP jB.2.2.2.1 (Int.toNat (cY .i64 (1:Int) (nth ke t46 (Int.toNat t48)).1))).2.2.2.2.1)) (
     kx (au.L0.bV ()).1 (au.L0.bV ()).2) (
     aJ ((so t48 (0:Int))) (
      aJ (fp (cY .i64 t48 (1:Int)) (((List.length ee.2.2.1):Nat):Int)) (
      aj (fh.call ((nth ke ee.2.2.1 (Int.toNat (cY .i64 t48 (1:Int)))),(nth ke t46 (Int.toNat t48)))) λx2=>
      aJ ((qz x2 (0:Int))) (
       kx (au.L0.bV ()).1 (au.L0.bV ()).2) (
       kn (au.L0.st (jB,ee,t46,t47,(bO .i64 t48 (1:Int)))))) none) (
      kn (au.L0.st (jB,ee,t46,t47,(bO .i64 t48 (1:Int))))))) none)) none) (
   kx (au.L0.kI (jB,ee)).1 (au.L0.kI (jB,ee)).2):=by kernel_rfl
theorem au.L1.run:cl au.L1.call au.L1.aw au.L1.add au.L1.F:=gT (gS [.d nb,.d mC,.d (.slice oP),.d ti] λ_=>by kernel_rfl)
theorem au.L1.aI:sB @au.L1.R au.L1.st au.L1.aw au.L1.add au.L1.F au.L1.out au.L1.Ok:=s8
theorem au.L1.step{R:Type}(GM:iN)(Ga:jl)(t85:(List Ml))(t86:Int)(kn:AS->Option R)(kx:Exit->AS->Option R):au.L1.R (GM,Ga,t85,t86) kn kx=
  aJ ((jK t86 (2:Int))) (
   aJ (fp t86 (2:Int)) (
   aj (cQ.call (Ga,t86)) λx1=>
   aJ ((so x1.1 (nth oP t85 (Int.toNat t86)).2.2.2.1)) (
    kx (au.L1.bV ()).1 (au.L1.bV ()).2) (
    aJ ((so x1.2 (nth oP t85 (Int.toNat t86)).2.2.2.2.2.1)) (
     kx (au.L1.bV ()).1 (au.L1.bV ()).2) (
     kn (au.L1.st (GM,Ga,t85,(bO .i64 t86 (1:Int))))))) none) (
   kx (au.L1.kI (GM,Ga)).1 (au.L1.kI (GM,Ga)).2):=by kernel_rfl
theorem au.eq{R:Type}(ch:iN)(sv:jl)(k:aZ->Option R):au.A (ch,sv) k=
  aj (cJ.call ch) λx1=>
  aJ ((rN x1 (0:Int))) (
   k (au.out false)) (
   aj (cI.call ((0:Int),(1048576:Int),[sv.1])) λx2=>
   aJ ((!x2)) (
    k (au.out false)) (
    aj (cI.call ((0:Int),(1125899906842624:Int),[(nth ti sv.2.1 0),(nth ti sv.2.1 1)])) λx3=>
    aJ ((!x3)) (
     k (au.out false)) (
     aj (cI.call ((0:Int),(1000:Int),[sv.2.2.2.1])) λx4=>
     aJ ((!x4)) (
      k (au.out false)) (
      aJ ((so (((List.length sv.2.2.1):Nat):Int) (16:Int))) (
       k (au.out false)) (
       aj (au.L0.call (ch,sv,sv.2.2.1,(((List.length sv.2.2.1):Nat):Int),(0:Int))) λx7=>
       aJ (x7.isLeft) (
        aj (x7.getLeft?) λa8=>
        k (au.out false)) (
        aj (x7.getRight?) λb9=>
        aj (au.L1.call (b9.1,b9.2,b9.1.2.2.2.1,(0:Int))) λBL=>
        aJ (BL.isLeft) (
         aj (BL.getLeft?) λa12=>
         k (au.out false)) (
         aj (BL.getRight?) λb13=>
         aj (bA.call b13.2) λUH=>
         aJ ((nX UH b13.1.2.1)) (
          aJ (fp b13.1.2.2.2.2.1 (2:Int)) (
          aj (fC.call (b13.1,b13.2)) λQY=>
          k (au.out (qz (nth ti b13.2.2.1 (Int.toNat b13.1.2.2.2.2.1)) QY))) none) (
          k (au.out false))))))))):=by kernel_rfl
theorem au.L0.ok:au.L0.Ok:=by
 refine au.L0.aI (λ(ch,sv,l,m,i)=>sv.2.2.1.length - i.toNat) ?_
 rintro⟨ch,sv,l,m,i⟩ ⟨fI,hu,rfl,rfl,k,hk,rfl⟩
 have hu:uE sv:=hu
 have hl:sv.2.2.1.length<=1000:=hu.2.1
 have hk:k<=sv.2.2.1.length:=hk
 by_cases h:k < sv.2.2.1.length
 ·have hd:=J1 h
  have step:∀ {R:Type} (kn:AS->Option R) (kx:Exit->AS->Option R),au.L0.R (ch,sv,sv.2.2.1,(sv.2.2.1.length:Int),(k:Int)) kn kx=aJ (Gl sv.2.2.1[k] && (decide (k=0) || zo (nth ke sv.2.2.1 (k - 1)) sv.2.2.1[k])) (kn (au.L0.st (ch,sv,sv.2.2.1,(sv.2.2.1.length:Int),((k+1:Nat):Int)))) (kx (au.L0.bV ()).1 (au.L0.bV ()).2):=by
   intro R kn kx
   have n1:nth ke sv.2.2.1 k=sv.2.2.1[k]:=dP (t:=ke) h
   have hx:iw sv.2.2.1[k].2.2.2.1:=hu.1 _ (List.getElem_mem h)
   obtain⟨an,ac,ag⟩:=fh.ge (nth ke sv.2.2.1 (k - 1)) sv.2.2.1[k]
   rw[au.L0.step,bI (by omega),bF (by omega) (by omega),aa,n1,eX.run (d:=sv.2.2.1[k]) hx,N.pJ (by omega)]
   simp only[ah,ab,eX.add,eX.F]
   cases hb:Gl sv.2.2.1[k]
   ·rfl
   ·have g:=sj.1 hb
    have i2:fp (1 - sv.2.2.1[k].1) 2=true:=bF (by have:=g.side;omega) (by have:=g.side;omega)
    obtain⟨d,TM,_⟩:=fI.t (n:=1 - sv.2.2.1[k].1) (by have:=g.side;omega)
    rw[bY,ai,JD g.side,TM,WT,bp (by have:=g.DD.1;omega),i2]
    simp only[ah,ai]
    by_cases h0:k=0
    ·subst h0
     rw[dW (by omega),ai,aO rfl]
     rfl
    ·rw[fA (by omega),ah,N.Vc (by omega) (by omega),bF (by omega) (by omega),ah,aa,ac,ab,ag,cR h0]
     cases zo (nth ke sv.2.2.1 (k - 1)) sv.2.2.1[k] <;> rfl
  cases hp:(Gl sv.2.2.1[k] && (decide (k=0) || zo (nth ke sv.2.2.1 (k - 1)) sv.2.2.1[k]))
  ·right
   refine⟨au.L0.bV (),?_,λkn kx=> ?_⟩
   ·rw[<-Bool.and_assoc,hp,fK]at hd
    simp only[au.L0.add,au.L0.F,aa,hd,cF,if_false]
    rfl
   ·rw[step,hp,ai]
  ·left
   refine⟨(ch,sv,sv.2.2.1,(sv.2.2.1.length:Int),((k+1:Nat):Int)),⟨fI,hu,rfl,rfl,k+1,by omega,rfl⟩,by simp only[aa];omega,?_,λkn kx=> ?_⟩
   ·rw[<-Bool.and_assoc,hp,cv]at hd
    simp only[au.L0.add,au.L0.F,aa,hd]
   ·rw[step,hp,ah]
 ·right
  obtain rfl:k=sv.2.2.1.length:=by omega
  refine⟨au.L0.kI (ch,sv),?_,λkn kx=> ?_⟩
  ·simp only[au.L0.add,au.L0.F,aa,bH,tF,if_true]
   rfl
  ·rw[au.L0.step,bp (by omega),ai]
theorem au.L1.ok:au.L1.Ok:=by
 refine au.L1.aI (λ(_,_,_,i)=>(2 - i).toNat) ?_
 rintro⟨ch,s,l,i⟩ ⟨fI,hA,hl,rfl,hi⟩
 have fI:ns ch:=fI
 have hl:s.2.2.1.length<=16:=hl
 have o0:=yP 0 s.2.2.1
 have o1:=yP 1 s.2.2.1
 rcases hi with rfl | rfl | rfl
 ·have step:∀ {R:Type} (kn:AS->Option R) (kx:Exit->AS->Option R),au.L1.R (ch,s,ch.2.2.2.1,0) kn kx=aJ (decide (jJ (l6 0 s.2.2.1)<=1125899906842624)) (kn (au.L1.st (ch,s,ch.2.2.2.1,1))) (kx (au.L1.bV ()).1 (au.L1.bV ()).2):=by
   intro R kn kx
   rw[au.L1.step,bI (by omega),bF (by omega) (by omega),cQ.run (d:=(s,0)) ⟨.inl rfl,hA,by show s.2.2.1.length<=1000;omega⟩]
   simp only[ah,ab,cQ.add,cQ.F]
   rw[show nth oP ch.2.2.2.1 (Int.toNat 0)=te 5 from fI.t0,Ox,UF,dW (by omega),ai]
   by_cases h:jJ (l6 0 s.2.2.1)<=1125899906842624
   ·rw[dW (by omega),aO h];rfl
   ·rw[fA (by omega),cR h];rfl
  by_cases h:jJ (l6 0 s.2.2.1)<=1125899906842624
  ·left
   refine⟨(ch,s,ch.2.2.2.1,1),⟨fI,hA,hl,rfl,.inr (.inl rfl)⟩,by show(2 - (1:Int)).toNat < (2 - (0:Int)).toNat;decide,?_,λkn kx=> ?_⟩
   ·simp only[au.L1.add,au.L1.F]
    simp[h]
   ·rw[step,aO h,ah]
  ·right
   refine⟨au.L1.bV (),?_,λkn kx=> ?_⟩
   ·simp only[au.L1.add,au.L1.F]
    simp[h]
    rfl
   ·rw[step,cR h,ai]
 ·have step:∀ {R:Type} (kn:AS->Option R) (kx:Exit->AS->Option R),au.L1.R (ch,s,ch.2.2.2.1,1) kn kx=aJ (decide (jJ (l6 1 s.2.2.1)<=1125899906842624)) (kn (au.L1.st (ch,s,ch.2.2.2.1,2))) (kx (au.L1.bV ()).1 (au.L1.bV ()).2):=by
   intro R kn kx
   rw[au.L1.step,bI (by omega),bF (by omega) (by omega),cQ.run (d:=(s,1)) ⟨.inr rfl,hA,by show s.2.2.1.length<=1000;omega⟩]
   simp only[ah,ab,cQ.add,cQ.F]
   rw[show nth oP ch.2.2.2.1 (Int.toNat 1)=te 6 from fI.t1,Ox,UF,dW (by omega),ai]
   by_cases h:jJ (l6 1 s.2.2.1)<=1125899906842624
   ·rw[dW (by omega),aO h];rfl
   ·rw[fA (by omega),cR h];rfl
  by_cases h:jJ (l6 1 s.2.2.1)<=1125899906842624
  ·left
   refine⟨(ch,s,ch.2.2.2.1,2),⟨fI,hA,hl,rfl,.inr (.inr rfl)⟩,by show(2 - (2:Int)).toNat < (2 - (1:Int)).toNat;decide,?_,λkn kx=> ?_⟩
   ·simp only[au.L1.add,au.L1.F]
    simp[h]
   ·rw[step,aO h,ah]
  ·right
   refine⟨au.L1.bV (),?_,λkn kx=> ?_⟩
   ·simp only[au.L1.add,au.L1.F]
    simp[h]
    rfl
   ·rw[step,cR h,ai]
 ·right
  refine⟨au.L1.kI (ch,s),?_,λkn kx=> ?_⟩
  ·simp only[au.L1.add,au.L1.F]
   simp
   rfl
  ·rw[au.L1.step,bp (by omega),ai]
theorem au.ok:au.Ok:=by
 rintro⟨ch,s⟩ ⟨fI,hu⟩
 have fI:ns ch:=fI
 rw[au.eq,cJ.run (d:=ch) fI]
 simp only[ab,cJ.add,cJ.F,cI.c1,cI.c2]
 rw[gK rfl,ai]
 simp only[au.add,au.F,ye]
 cases h1:qA s.1 0 1048576
 ·rfl
 cases h2:qA (nth ti s.2.1 0) 0 1125899906842624
 ·rfl
 cases h3:qA (nth ti s.2.1 1) 0 1125899906842624
 ·rfl
 cases h4:qA s.2.2.2.1 0 1000
 ·rfl
 simp only[bY,ai,cv]
 by_cases h5:s.2.2.1.length<=16
 rotate_left
 ·rw[fA (by omega),ah,cR h5];rfl
 rw[dW (by omega),ai,aO h5,cv,au.L0.run (d:=(ch,s,s.2.2.1,(s.2.2.1.length:Int),0)) ⟨fI,hu,rfl,rfl,0,bm _,rfl⟩]
 simp only[ab,au.L0.add,au.L0.F,bK,aW]
 rw[show yT s.2.2.1 0=none from rfl]
 cases h6:tF none s.2.2.1
 ·simp only[cF,if_false,nL,ah,mr,ab,fK]
 have hA:∀c∈s.2.2.1,Gs c:=λc hc=>(ug _ _ h6 c hc).a
 simp only[if_true,iZ,ai,gO,ab,cv]
 rw[au.L1.run (d:=(ch,s,ch.2.2.2.1,0)) ⟨fI,hA,h5,rfl,.inl rfl⟩]
 simp only[ab,au.L1.add,au.L1.F]
 by_cases h7:jJ (l6 0 s.2.2.1)<=1125899906842624
 rotate_left
 ·rw[cR (λx=>h7 (x (by omega))),cR h7];rfl
 by_cases h8:jJ (l6 1 s.2.2.1)<=1125899906842624
 rotate_left
 ·rw[cR (p:=(0:Int)<=1->_) (λx=>h8 (x (by omega))),cR h8,lB,fK,lB];rfl
 rw[aO (λ_=>h7),aO (p:=(0:Int)<=1->_) (λ_=>h8),aO h7,aO h8,cv,cv,cv,if_pos rfl]
 simp only[iZ,ai,gO,ab]
 rw[bA.run (d:=s) ⟨hA,by have:s.2.2.1.length<=16:=h5;show s.2.2.1.length<=1000;omega,sq.1 h2,sq.1 h3⟩]
 simp only[ab,bA.add,bA.F]
 cases nX (nth ti s.2.1 0+nth ti s.2.1 1+jJ s.2.2.1) ch.2.1
 ·rfl
 have ho:=fI.op
 rw[ah,bF (by omega) (by omega),ah,fC.run (d:=(ch,s)) trivial]
 rfl
def au.E:=Entry.dp [some nb,some mC] au.st au.aw au.add au.F au.out
def au.call:au.D->Option au.X:=cj au.E au.st
theorem au.run:cl au.call au.aw au.add au.F:=dw (du [.d nb,.d mC] λ_=>by kernel_rfl)
def au.sg:SG Tryz.prog:=⟨41,aP,au.E,.fn 2 (by kernel_rfl) au.ok (And.intro (.dp au.L0.ok (by kernel_rfl)) (And.intro (.dp au.L1.ok (by kernel_rfl)) trivial))⟩
abbrev aY.L0.D:=Int×Int×jl×Int
def aY.L0.st:aY.L0.D->AS:=λ(uT,I8,ee,i)=>⟨([.undef,.d ti uT,.d ti I8,.gE mC ee,.undef,.undef,.undef,.d ti i]++bG 26 []),[],(List.replicate 34 [])⟩
abbrev aY.L0.Y0:=Int
abbrev aY.L0.X0:=Int
def aY.L0.bV:aY.L0.X0->Exit×AS:=λx=>(.ret,⟨(bG 6 ([.d ti x]++bG 27 [])),[],(List.replicate 34 [])⟩)
abbrev aY.L0.Y1:=Unit
abbrev aY.L0.X1:=Unit
def aY.L0.kI:aY.L0.X1->Exit×AS:=λx=>(.exit 0,⟨(bG 34 []),[],(List.replicate 34 [])⟩)
abbrev aY.L0.X:=(aY.L0.X0)⊕(aY.L0.X1)
abbrev aY.L0.Y:=(aY.L0.Y0)⊕(aY.L0.Y1)
def aY.L0.out:aY.L0.X->Out (Exit×AS):=λx=> .br x.isLeft (.get x.getLeft? λa=> .ok (aY.L0.bV a)) (.get x.getRight? λb=> .ok (aY.L0.kI b))
def aY.L0.add:aY.L0.D->aY.L0.Y->aY.L0.X:=λ(uT,I8,ee,i) y=>match y with | .inl y=> .inl y | .inr z=> .inr (z)
abbrev aY.D:=jl×Int×Int
def aY.st:aY.D->SA:=λ(sv,fromv,id)=>([.d mC sv,.d ti fromv,.d ti id],[])
abbrev aY.Y:=Int
abbrev aY.X:=Int
def aY.out:aY.X->aZ:=λx=>⟨.d ti x,[],[]⟩
def aY.add:aY.D->aY.Y->aY.X:=λ(sv,fromv,id) y=>y
def Kn(a i:Int):jj->Bool:=λc=>nX c.1 a && nX c.2.1 i
def aY.L0.aw:aY.L0.D->Prop:=λ(_,_,s,i)=>s.2.2.1.length<=1000/\∃k:Nat,k<=s.2.2.1.length/\i=k
def aY.L0.F:aY.L0.D->aY.L0.Y:=λ(a,b,s,i)=>tN (Kn a b) (s.2.2.1.drop i.toNat) i
def aY.aw:aY.D->Prop:=λ(s,_,_)=>s.2.2.1.length<=1000
def aY.F:aY.D->aY.Y:=λ(s,a,b)=>DO (Kn a b) s.2.2.1
def aY.G:fD:=gz (P:=Tryz.prog) []
def aY.L0.E:=cV.dp aY.L0.st aY.L0.aw aY.L0.add aY.L0.F aY.L0.out
def aY.L0.call:aY.L0.D->Option aY.L0.X:=eI aY.L0.E aY.L0.st
def aY.an:fT:= {loops:=oF [(2,{bS:=[1,2,3,7]})],outs:=oE [(2,{},{bS:=[6]})],jw:=pL [(2,aY.L0.E)]}
def aY.A:= @dq Tryz.prog aY.G aY.an 0 Tryz.f71 _ aY.st
abbrev aY.Ok:=dr @aY.A aY.aw aY.add aY.F aY.out
def aY.L0.R:= @dn Tryz.prog aY.G aY.an 0 Tryz.f71 0 _ aY.L0.st
abbrev aY.L0.Ok:=gw Tryz.prog aY.G aY.an 0 Tryz.f71 0 aY.L0.st aY.L0.aw aY.L0.add aY.L0.F aY.L0.out
theorem aY.L0.run:cl aY.L0.call aY.L0.aw aY.L0.add aY.L0.F:=gT (gS [.d ti,.d ti,.d mC,.d ti] λ_=>by kernel_rfl)
theorem aY.L0.aI:sB @aY.L0.R aY.L0.st aY.L0.aw aY.L0.add aY.L0.F aY.L0.out aY.L0.Ok:=s8
theorem aY.L0.step{R:Type}(uT:Int)(I8:Int)(ee:jl)(i:Int)(kn:AS->Option R)(kx:Exit->AS->Option R):aY.L0.R (uT,I8,ee,i) kn kx=
  aJ ((jK i (((List.length ee.2.2.1):Nat):Int))) (
   aJ (fp i (((List.length ee.2.2.1):Nat):Int)) (
   aJ ((nX (nth ke ee.2.2.1 (Int.toNat i)).1 uT)) (
    aJ (fp i (((List.length ee.2.2.1):Nat):Int)) (
    aJ ((nX (nth ke ee.2.2.1 (Int.toNat i)).2.1 I8)) (
     kx (aY.L0.bV i).1 (aY.L0.bV i).2) (
     kn (aY.L0.st (uT,I8,ee,(bO .i64 i (1:Int)))))) none) (
    kn (aY.L0.st (uT,I8,ee,(bO .i64 i (1:Int)))))) none) (
   kx (aY.L0.kI ()).1 (aY.L0.kI ()).2):=by kernel_rfl
theorem aY.eq{R:Type}(sv:jl)(fromv:Int)(id:Int)(k:aZ->Option R):aY.A (sv,fromv,id) k=
  aj (aY.L0.call (fromv,id,sv,(0:Int))) λx1=>
  aJ (x1.isLeft) (
   aj (x1.getLeft?) λa2=>
   k (aY.out a2)) (
   aj (x1.getRight?) λb3=>
   k (aY.out (-1:Int))):=by kernel_rfl
theorem aY.L0.ok:aY.L0.Ok:=by
 refine aY.L0.aI (λ(_,_,s,i)=>s.2.2.1.length - i.toNat) ?_
 rintro⟨a,b,s,i⟩ ⟨hl,k,hk,rfl⟩
 have hl:s.2.2.1.length<=1000:=hl
 have hk:k<=s.2.2.1.length:=hk
 by_cases h:k < s.2.2.1.length
 ·have n1:nth ke s.2.2.1 k=s.2.2.1[k]:=dP (t:=ke) h
  have hd:tN (Kn a b) (s.2.2.1.drop k) k=if Kn a b s.2.2.1[k]=true then .inl (k:Int) else tN (Kn a b) (s.2.2.1.drop (k+1)) ((k+1:Nat):Int):=by rw[aA h];rfl
  have step:∀ {R:Type} (kn:AS->Option R) (kx:Exit->AS->Option R),aY.L0.R (a,b,s,(k:Int)) kn kx=aJ (Kn a b s.2.2.1[k]) (kx (aY.L0.bV (k:Int)).1 (aY.L0.bV (k:Int)).2) (kn (aY.L0.st (a,b,s,((k+1:Nat):Int)))):=by
   intro R kn kx
   rw[aY.L0.step,bI (by omega),bF (by omega) (by omega),aa,n1,N.pJ (by omega)]
   simp only[ah,Kn]
   cases nX s.2.2.1[k].1 a <;> rfl
  cases hp:Kn a b s.2.2.1[k]
  ·left
   refine⟨(a,b,s,((k+1:Nat):Int)),⟨hl,k+1,by omega,rfl⟩,by simp only[aa];omega,?_,λkn kx=> ?_⟩
   ·simp only[aY.L0.add,aY.L0.F,aa,hd,hp,cF,if_false]
   ·rw[step,hp,ai]
  ·right
   refine⟨aY.L0.bV (k:Int),?_,λkn kx=> ?_⟩
   ·simp only[aY.L0.add,aY.L0.F,aa,hd,hp,if_true]
    rfl
   ·rw[step,hp,ah]
 ·right
  obtain rfl:k=s.2.2.1.length:=by omega
  refine⟨aY.L0.kI (),?_,λkn kx=> ?_⟩
  ·simp only[aY.L0.add,aY.L0.F,aa,bH]
   rfl
  ·rw[aY.L0.step,bp (by omega),ai]
theorem aY.ok:aY.Ok:=by
 rintro⟨s,a,b⟩ hl
 rw[aY.eq,aY.L0.run (d:=(a,b,s,0)) ⟨hl,0,bm _,rfl⟩]
 simp only[ab,aY.L0.add,aY.L0.F,bK,aW,aY.add,aY.F,DO]
 cases tN (Kn a b) s.2.2.1 0 <;> rfl
def aY.E:=Entry.dp [some mC,some ti,some ti] aY.st aY.aw aY.add aY.F aY.out
def aY.call:aY.D->Option aY.X:=cj aY.E aY.st
theorem aY.run:cl aY.call aY.aw aY.add aY.F:=dw (du [.d mC,.d ti,.d ti] λ_=>by kernel_rfl)
def aY.sg:SG Tryz.prog:=⟨71,aP,aY.E,.fn 1 (by kernel_rfl) aY.ok (And.intro (.dp aY.L0.ok (by kernel_rfl)) trivial)⟩
abbrev bU.L0.D:=jl×jj×Bool×Int×Int×(List Int)×(Int×Unit)×Int×(List Int)×Nat×(Int×Unit)×(List jj)
def bU.L0.st:bU.L0.D->AS:=λ(ee,vS,done,i,n4,nF,qL,n5,s9,Dz,DY,LN)=>⟨([.undef,.undef,.gE mC ee,.gE ke vS,.ptr (.new 4 0) 0 [] 0,.ptr (.new 5 0) 0 [] 0,.d .bool done,.d ti i]++bG 57 []),[],(db 4 ([[.obj 0 false (.pr (.d ti n4) (.pr (.d (.arr 2 ti) nF) (.pr (.eV) (.d (.pair ti .unit) qL))))],[.obj 0 false (.pr (.d ti n5) (.pr (.d (.arr 2 ti) s9) (.pr (.dh (.new 32 0) 0 [] 0 0 Dz) (.d (.pair ti .unit) DY))))]]++db 26 ([[.obj 0 false (.vec 75 ke LN)]]++db 32 [])))⟩
abbrev bU.L0.Y0:=Bool×Nat×(List jj)
abbrev bU.L0.X0:=(jj×Int×(List Int)×(Int×Unit)×Int×(List Int)×(Int×Unit))×(Bool×Nat×(List jj))
def bU.L0.bV:bU.L0.X0->Exit×AS:=λx=>(.exit 0,⟨([.undef,.undef,.undef,.gE ke x.1.1,.ptr (.new 4 0) 0 [] 0,.ptr (.new 5 0) 0 [] 0,.d .bool x.2.1]++bG 58 []),[],(db 4 ([[.obj 0 false (.pr (.d ti x.1.2.1) (.pr (.d (.arr 2 ti) x.1.2.2.1) (.pr (.eV) (.d (.pair ti .unit) x.1.2.2.2.1))))],[.obj 0 false (.pr (.d ti x.1.2.2.2.2.1) (.pr (.d (.arr 2 ti) x.1.2.2.2.2.2.1) (.pr (.dh (.new 32 0) 0 [] 0 0 x.2.2.1) (.d (.pair ti .unit) x.1.2.2.2.2.2.2))))]]++db 26 ([[.obj 0 false (.vec 75 ke x.2.2.2)]]++db 32 [])))⟩)
abbrev bU.L0.X:=bU.L0.X0
abbrev bU.L0.Y:=bU.L0.Y0
def bU.L0.out:bU.L0.X->Out (Exit×AS):=λx=> .ok (bU.L0.bV x)
def bU.L0.add:bU.L0.D->bU.L0.Y->bU.L0.X:=λ(ee,vS,done,i,n4,nF,qL,n5,s9,Dz,DY,LN) y=>((vS,n4,nF,qL,n5,s9,DY),y)
abbrev bU.D:=jl×jj
def bU.st:bU.D->SA:=λ(sv,c)=>([.d mC sv,.d ke c],[])
abbrev bU.Y:=jl
abbrev bU.X:=jl
def bU.out:bU.X->aZ:=λx=>⟨.d mC x,[],[]⟩
def bU.add:bU.D->bU.Y->bU.X:=λ(sv,c) y=>y
def xQ:Bool->jj->List jj->List jj
 |_,_,[]=> []
 |d,c,x::l=>if(!d && zo c x)=true then c::x::xQ true c l else x::xQ d c l
def Bl:Bool->jj->List jj->Bool
 |d,_,[]=>d
 |d,c,x::l=>if(!d && zo c x)=true then Bl true c l else Bl d c l
def xO(c:jj)(l:List jj):List jj:=xQ false c l++(if Bl false c l=true then [] else [c])
theorem zR:∀(c:jj) (l:List jj),xQ true c l=l/\Bl true c l=true
 |c,[]=>⟨rfl,rfl⟩
 |c,x::l=>by
  have:=zR c l
  simp only[xQ,Bl,bY,fK,cF,if_false,this.1,this.2,and_self]
theorem wS(c x:jj)(l:List jj):xO c (x::l)=if zo c x=true then c::x::l else x::xO c l:=by
 unfold xO
 simp only[xQ,Bl,gk,cv]
 split
 ·rw[(zR c l).1,(zR c l).2]
  simp
 ·rfl
def lI(s:jl)(c:jj):jl:=(s.1,(s.2.1.set c.1.toNat (nth ti s.2.1 c.1.toNat - c.2.2.1),(xO c s.2.2.1,s.2.2.2)))
def bU.L0.aw:bU.L0.D->Prop:=λ(s,c,done,i,z1,z2,z3,a1,a2,L,a3,row)=>s.2.2.1.length<=1000/\∃k:Nat,k<=s.2.2.1.length/\i=k/\L=row.length/\row.length<=2*k
def bU.L0.F:bU.L0.D->bU.L0.Y:=λ(s,c,done,i,z1,z2,z3,a1,a2,L,a3,row)=>(Bl done c (s.2.2.1.drop i.toNat),(row++xQ done c (s.2.2.1.drop i.toNat)).length,row++xQ done c (s.2.2.1.drop i.toNat))
def bU.aw:bU.D->Prop:=λ(s,c)=>s.2.2.1.length<=1000/\s.2.1.length=2/\(0<=c.1/\c.1<=1)/\Bd (nth ti s.2.1 c.1.toNat) 0 1125899906842624/\0<=c.2.2.1/\c.2.2.1<=1125899906842624
def bU.F:bU.D->bU.Y:=λ(s,c)=>lI s c
def bU.G:fD:=gz (P:=Tryz.prog) [dA.sg]
def bU.L0.E:=cV.dp bU.L0.st bU.L0.aw bU.L0.add bU.L0.F bU.L0.out
def bU.L0.call:bU.L0.D->Option bU.L0.X:=eI bU.L0.E bU.L0.st
def bU.an:fT:= {loops:=oF [(5,{bS:=[2,3,4,5,6,7],sites:=[4,5,32],nB:=[⟨5,[.snd,.snd,.fst],32,51⟩]})],outs:=oE [(5,{bS:=[3,4,5,6],sites:=[4,5,32]},{bS:=[4]})],jw:=pL [(5,bU.L0.E)],res:=[some mC]}
def bU.A:= @dq Tryz.prog bU.G bU.an 0 Tryz.f72 _ bU.st
abbrev bU.Ok:=dr @bU.A bU.aw bU.add bU.F bU.out
def bU.L0.R:= @dn Tryz.prog bU.G bU.an 0 Tryz.f72 0 _ bU.L0.st
abbrev bU.L0.Ok:=gw Tryz.prog bU.G bU.an 0 Tryz.f72 0 bU.L0.st bU.L0.aw bU.L0.add bU.L0.F bU.L0.out
theorem bU.L0.run:cl bU.L0.call bU.L0.aw bU.L0.add bU.L0.F:=gT (gS [.d mC,.d ke,.d .bool,.d ti,.d ti,.d (.slice ti),.d (.pair ti .unit),.d ti,.d (.slice ti),.n,.d (.pair ti .unit),.d (.slice ke)] λ_=>by kernel_rfl)
theorem bU.L0.aI:jk @bU.L0.R bU.L0.st bU.L0.aw bU.L0.add bU.L0.F bU.L0.bV bU.L0.Ok:=jm
theorem bU.L0.step{R:Type}(ee:jl)(vS:jj)(done:Bool)(i:Int)(n4:Int)(nF:(List Int))(qL:(Int×Unit))(n5:Int)(s9:(List Int))(Dz:Nat)(DY:(Int×Unit))(LN:(List jj))(kn:AS->Option R)(kx:Exit->AS->Option R):bU.L0.R (ee,vS,done,i,n4,nF,qL,n5,s9,Dz,DY,LN) kn kx=
  aJ ((jK i (((List.length ee.2.2.1):Nat):Int))) (
   aJ ((!done)) (
    aJ (fp i (((List.length ee.2.2.1):Nat):Int)) (
    aj (dA.call (vS,(nth ke ee.2.2.1 (Int.toNat i)))) λx1=>
    aJ (x1) (
     aJ (decide (Dz<=(List.length LN))) (
     aJ (fk (Dz+1) 40) (
     aJ (fp i (((List.length ee.2.2.1):Nat):Int)) (
     aJ (decide ((Dz+1)<=(List.length ((List.take Dz LN)++ [vS])))) (
     aJ (fk ((Dz+1)+1) 40) (
     kn (bU.L0.st (ee,vS,true,(bO .i64 i (1:Int)),n4,nF,qL,n5,s9,((Dz+1)+1),DY,((List.take (Dz+1) ((List.take Dz LN)++ [vS]))++ [(nth ke ee.2.2.1 (Int.toNat i))])))) none) none) none) none) none) (
     aJ (fp i (((List.length ee.2.2.1):Nat):Int)) (
     aJ (decide (Dz<=(List.length LN))) (
     aJ (fk (Dz+1) 40) (
     kn (bU.L0.st (ee,vS,done,(bO .i64 i (1:Int)),n4,nF,qL,n5,s9,(Dz+1),DY,((List.take Dz LN)++ [(nth ke ee.2.2.1 (Int.toNat i))])))) none) none) none)) none) (
    aJ (fp i (((List.length ee.2.2.1):Nat):Int)) (
    aJ (decide (Dz<=(List.length LN))) (
    aJ (fk (Dz+1) 40) (
    kn (bU.L0.st (ee,vS,done,(bO .i64 i (1:Int)),n4,nF,qL,n5,s9,(Dz+1),DY,((List.take Dz LN)++ [(nth ke ee.2.2.1 (Int.toNat i))])))) none) none) none)) (
   kx (bU.L0.bV ((vS,n4,nF,qL,n5,s9,DY),(done,Dz,LN))).1 (bU.L0.bV ((vS,n4,nF,qL,n5,s9,DY),(done,Dz,LN))).2):=by kernel_rfl
theorem bU.eq{R:Type}(sv:jl)(c:jj)(k:aZ->Option R):bU.A (sv,c) k=
  aj (bU.L0.call (sv,c,false,(0:Int),(0:Int),(List.replicate 2 (0:Int)),((0:Int),()),sv.1,sv.2.1,0,sv.2.2.2,([]:List jj))) λx3=>
  aJ ((!x3.2.1)) (
   aJ (decide (x3.2.2.1<=(List.length x3.2.2.2))) (
   aJ (fk (x3.2.2.1+1) 40) (
   aJ (fp x3.1.1.1 (2:Int)) (
   aJ (decide ((Int.toNat x3.1.1.1) < (List.length x3.1.2.2.2.2.2.1))) (
   aJ (decide ((1+(((Int.toNat x3.1.1.1)*1)+0))=(1+((Int.toNat x3.1.1.1)*1)))) (
   aJ (fp x3.1.1.1 (2:Int)) (
   aJ (decide ((Int.toNat x3.1.1.1) < (List.length x3.1.2.2.2.2.2.1))) (
   aJ (decide ((1+(((Int.toNat x3.1.1.1)*1)+0))=(1+((Int.toNat x3.1.1.1)*1)))) (
   aJ (decide ((Int.toNat x3.1.1.1) < (List.length x3.1.2.2.2.2.2.1))) (
   aJ (decide (0=0/\(0+(x3.2.2.1+1))<=(List.length ((List.take x3.2.2.1 x3.2.2.2)++ [x3.1.1])))) (
   k (bU.out (x3.1.2.2.2.2.1,((List.set x3.1.2.2.2.2.2.1 (Int.toNat x3.1.1.1) (cY .i64 (nth ti x3.1.2.2.2.2.2.1 (Int.toNat x3.1.1.1)) x3.1.1.2.2.1)),((cut ((List.take x3.2.2.1 x3.2.2.2)++ [x3.1.1]) 0 (x3.2.2.1+1)),x3.1.2.2.2.2.2.2))))) none) none) none) none) none) none) none) none) none) none) (
   aJ (fp x3.1.1.1 (2:Int)) (
   aJ (decide ((Int.toNat x3.1.1.1) < (List.length x3.1.2.2.2.2.2.1))) (
   aJ (decide ((1+(((Int.toNat x3.1.1.1)*1)+0))=(1+((Int.toNat x3.1.1.1)*1)))) (
   aJ (fp x3.1.1.1 (2:Int)) (
   aJ (decide ((Int.toNat x3.1.1.1) < (List.length x3.1.2.2.2.2.2.1))) (
   aJ (decide ((1+(((Int.toNat x3.1.1.1)*1)+0))=(1+((Int.toNat x3.1.1.1)*1)))) (
   aJ (decide ((Int.toNat x3.1.1.1) < (List.length x3.1.2.2.2.2.2.1))) (
   aJ (decide (0=0/\(0+x3.2.2.1)<=(List.length x3.2.2.2))) (
   k (bU.out (x3.1.2.2.2.2.1,((List.set x3.1.2.2.2.2.2.1 (Int.toNat x3.1.1.1) (cY .i64 (nth ti x3.1.2.2.2.2.2.1 (Int.toNat x3.1.1.1)) x3.1.1.2.2.1)),((cut x3.2.2.2 0 x3.2.2.1),x3.1.2.2.2.2.2.2))))) none) none) none) none) none) none) none) none):=by kernel_rfl
theorem bU.L0.ok:bU.L0.Ok:=by
 refine bU.L0.aI (λ(s,c,done,i,_)=>s.2.2.1.length - i.toNat) ?_
 rintro⟨s,c,done,i,z1,z2,z3,a1,a2,L,a3,row⟩ ⟨hl,k,hk,rfl,rfl,hr⟩
 have hl:s.2.2.1.length<=1000:=hl
 have hk:k<=s.2.2.1.length:=hk
 have hr:row.length<=2*k:=hr
 by_cases h:k < s.2.2.1.length
 ·left
  have n1:nth ke s.2.2.1 k=s.2.2.1[k]:=dP (t:=ke) h
  have hd:s.2.2.1.drop k=s.2.2.1[k]::s.2.2.1.drop (k+1):=aA h
  have e1:∀x:jj,(row++ [x]).length=row.length+1:=λx=>by rw[ae];rfl
  have e2:∀x y:jj,(row++ [x]++ [y]).length=row.length+1+1:=λx y=>by rw[ae,ae];rfl
  by_cases hq:(!done && zo c s.2.2.1[k])=true
  ·refine⟨(s,c,true,((k+1:Nat):Int),z1,z2,z3,a1,a2,row.length+1+1,a3,row++ [c]++ [s.2.2.1[k]]),⟨hl,k+1,by omega,rfl,(e2 _ _).symm,by show(row++ [c]++ [s.2.2.1[k]]).length<=_;rw[e2];omega⟩,by simp only[aa];omega,?_,λkn kx=> ?_⟩
   ·simp only[bU.L0.add,bU.L0.F,aa,hd,xQ,Bl,hq,if_true,bR,kz,bu]
   ·rw[bU.L0.step,bI (by omega),aa,n1,N.pJ (by omega)]
    obtain⟨q1,q2⟩:=nI.1 hq
    rw[q1,ah,ah,bF (by omega) (by omega),ah,dA.c,ab,q2,ah,aO (aC _),ah,fV (by omega) (by omega),ah,ah,cz]
    rw[aO (by rw[e1];exact aC _),ah,fV (by omega) (by omega),ah,cn (by rw[e1];exact aC _)]
  ·refine⟨(s,c,done,((k+1:Nat):Int),z1,z2,z3,a1,a2,row.length+1,a3,row++ [s.2.2.1[k]]),⟨hl,k+1,by omega,rfl,(e1 _).symm,by show(row++ [s.2.2.1[k]]).length<=_;rw[e1];omega⟩,by simp only[aa];omega,?_,λkn kx=> ?_⟩
   ·simp only[bU.L0.add,bU.L0.F,aa,hd,xQ,Bl,hq,cF,if_false,bR,eS]
   ·rw[bU.L0.step,bI (by omega),aa,n1,N.pJ (by omega)]
    rw[ah,bF (by omega) (by omega),dA.c,aO (aC _),fV (by omega) (by omega),cz]
    simp only[ah,ab]
    cases done
    ·have q:zo c s.2.2.1[k]=false:=by
      cases e:zo c s.2.2.1[k]
      ·rfl
      ·rw[e]at hq;exact absurd rfl hq
     rw[q]
     rfl
    ·rfl
 ·right
  obtain rfl:k=s.2.2.1.length:=by omega
  intro R kn kx
  rw[bU.L0.step,bp (by omega),ai]
  simp only[bU.L0.add,bU.L0.F,aa,bH,xQ,Bl,dg]
theorem bU.ok:bU.Ok:=by
 rintro⟨s,c⟩ ⟨hl,h2,hc,ha,hb⟩
 have hl:s.2.2.1.length<=1000:=hl
 have h2:s.2.1.length=2:=h2
 have hc:0<=c.1/\c.1<=1:=hc
 have Zl:=ha.1
 have Zm:=ha.2
 have hb:0<=c.2.2.1/\c.2.2.1<=1125899906842624:=hb
 rw[bU.eq,bU.L0.run (d:=(s,c,false,0,0,List.replicate 2 0,(0,()),s.1,s.2.1,0,s.2.2.2,[])) ⟨hl,0,bm _,rfl,rfl,bm _⟩]
 simp only[ab,bU.L0.add,bU.L0.F,bK,aW,bu,bU.add,bU.F,lI]
 have hT:(xQ false c s.2.2.1).length<=2*s.2.2.1.length:=by
  have:∀(d:Bool) (l:List jj),(xQ d c l).length<=2*l.length:=by
   intro d l
   induction l generalizing d with
   |nil=>exact aC _
   |cons x l ih=>
    rw[xQ]
    split
    ·have:=ih true
     simp only[aN]
     omega
    ·have:=ih d
     simp only[aN]
     omega
  exact this false _
 have i1:fp c.1 2=true:=bF hc.1 (by omega)
 have i2:c.1.toNat < s.2.1.length:=by omega
 have i3:1+(c.1.toNat*1+0)=1+c.1.toNat*1:=by omega
 rw[gm (by omega) (by omega)]
 simp only[i1,aO i2,aO i3,ah,cz,bl,xO]
 cases Bl false c s.2.2.1
 ·rw[gk,ah,aO (aC _),ah,fV (by omega) (by omega),ah,aO ⟨trivial,by rw[ae];exact aC _⟩,ah,iV (by rw[ae];rfl)]
  rfl
 ·rw[bY,ai,aO ⟨trivial,aC _⟩,ah,iV rfl]
  rw[if_pos rfl,dg]
def bU.E:=Entry.dp [some mC,some ke] bU.st bU.aw bU.add bU.F bU.out
def bU.call:bU.D->Option bU.X:=cj bU.E bU.st
theorem bU.run:cl bU.call bU.aw bU.add bU.F:=dw (du [.d mC,.d ke] λ_=>by kernel_rfl)
def bU.sg:SG Tryz.prog:=⟨72,aP,bU.E,.fn 1 (by kernel_rfl) bU.ok (And.intro (.dp bU.L0.ok (by kernel_rfl)) trivial)⟩
abbrev fL.D:=iN×jl×jj
def fL.st:fL.D->SA:=λ(ch,sv,c)=>([.d nb ch,.d mC sv,.d ke c],[])
abbrev fL.Y:=jl×Int
abbrev fL.X:=jl×Int
def fL.out:fL.X->aZ:=λx=>⟨.cons (.d mC x.1) (.cons (.d ti x.2) (.nil)),[],[]⟩
def fL.add:fL.D->fL.Y->fL.X:=λ(ch,sv,c) y=>y
def OJ:jl:=((0:Int),((List.replicate 2 (0:Int)),(([]:List jj),((0:Int),()))))
def Qx(ch:iN)(t:jl)(c:jj):Int:=nth ti t.2.1 c.1.toNat - (if c.1=ch.2.2.2.2.1 then Bt t.2.2.2.1 t.2.2.1.length+660 else 0)
def Bc(ch:iN)(s:jl)(c:jj):jl×Int:=
 if(ye ch s && Gl c)=true then
  if s.2.2.1.any (Kn c.1 c.2.1)=true then(OJ,4) else
  if s.2.2.1.length=16 then(OJ,3) else
  if jJ (l6 (1 - c.1) s.2.2.1)+c.2.2.1 > 1125899906842624 then(OJ,6) else
  if nth ti (lI s c).2.1 c.1.toNat < 0 then(OJ,8) else
  if nth ti (lI s c).2.1 ch.2.2.2.2.1.toNat < Bt (lI s c).2.2.2.1 (lI s c).2.2.1.length+660 then(OJ,8) else
  if Qx ch (lI s c) c < 200 then(OJ,10) else(lI s c,0)
 else(OJ,1)
def fL.aw:fL.D->Prop:=λ(ch,s,c)=>ns ch/\uE s/\iw c.2.2.2.1
def fL.F:fL.D->fL.Y:=λ(ch,s,c)=>Bc ch s c
def fL.G:fD:=gz (P:=Tryz.prog) [aQ.sg,eD.sg,aY.sg,cK.sg,bU.sg,fe.sg]
def fL.an:fT:= {res:=[some mC,none]}
def fL.A:= @dq Tryz.prog fL.G fL.an 0 Tryz.f30 _ fL.st
abbrev fL.Ok:=dr @fL.A fL.aw fL.add fL.F fL.out
theorem fL.eq{R:Type}(ch:iN)(sv:jl)(c:jj)(k:aZ->Option R):fL.A (ch,sv,c) k=
  aj (aQ.call (ch,sv)) λx1=>
  aj (eD.call c) λx2=>
  aJ ((!x1)) (
   k (fL.out (((0:Int),((List.replicate 2 (0:Int)),(([]:List jj),((0:Int),())))),(1:Int)))) (
   aJ ((!x2)) (
    k (fL.out (((0:Int),((List.replicate 2 (0:Int)),(([]:List jj),((0:Int),())))),(1:Int)))) (
    aj (aY.call (sv,c.1,c.2.1)) λx3=>
    aJ ((qz x3 (0:Int))) (
     k (fL.out (((0:Int),((List.replicate 2 (0:Int)),(([]:List jj),((0:Int),())))),(4:Int)))) (
     aJ (fp (cY .i64 (1:Int) c.1) (2:Int)) (
     aj (cK.call (sv,(cY .i64 (1:Int) c.1))) λx4=>
     aJ ((jK c.2.2.1 (nth oP ch.2.2.2.1 (Int.toNat (cY .i64 (1:Int) c.1))).2.2.2.2.1)) (
      k (fL.out (((0:Int),((List.replicate 2 (0:Int)),(([]:List jj),((0:Int),())))),(9:Int)))) (
      aJ ((nX (((List.length sv.2.2.1):Nat):Int) (16:Int))) (
       k (fL.out (((0:Int),((List.replicate 2 (0:Int)),(([]:List jj),((0:Int),())))),(3:Int)))) (
       aJ ((qz x4.1 (nth oP ch.2.2.2.1 (Int.toNat (cY .i64 (1:Int) c.1))).2.2.2.1)) (
        k (fL.out (((0:Int),((List.replicate 2 (0:Int)),(([]:List jj),((0:Int),())))),(3:Int)))) (
        aJ ((so (bO .i64 x4.2 c.2.2.1) (nth oP ch.2.2.2.1 (Int.toNat (cY .i64 (1:Int) c.1))).2.2.2.2.2.1)) (
         k (fL.out (((0:Int),((List.replicate 2 (0:Int)),(([]:List jj),((0:Int),())))),(6:Int)))) (
         aj (bU.call (sv,c)) λx5=>
         aj (fe.call (ch,x5)) λx6=>
         aJ (fp c.1 (2:Int)) (
         aJ (decide ((Int.toNat c.1) < (List.length x5.2.1))) (
         aJ (decide ((1+(((Int.toNat c.1)*1)+0))=(1+((Int.toNat c.1)*1)))) (
         aJ ((jK (nth ti x5.2.1 (Int.toNat c.1)) (0:Int))) (
          k (fL.out (((0:Int),((List.replicate 2 (0:Int)),(([]:List jj),((0:Int),())))),(8:Int)))) (
          aJ (fp ch.2.2.2.2.1 (2:Int)) (
          aJ (decide ((Int.toNat ch.2.2.2.2.1) < (List.length x5.2.1))) (
          aJ (decide ((1+(((Int.toNat ch.2.2.2.2.1)*1)+0))=(1+((Int.toNat ch.2.2.2.2.1)*1)))) (
          aJ ((jK (nth ti x5.2.1 (Int.toNat ch.2.2.2.2.1)) x6)) (
           k (fL.out (((0:Int),((List.replicate 2 (0:Int)),(([]:List jj),((0:Int),())))),(8:Int)))) (
           aJ (fp c.1 (2:Int)) (
           aJ (decide ((Int.toNat c.1) < (List.length x5.2.1))) (
           aJ (decide ((1+(((Int.toNat c.1)*1)+0))=(1+((Int.toNat c.1)*1)))) (
           aJ ((nX c.1 ch.2.2.2.2.1)) (
            aJ ((jK (cY .i64 (nth ti x5.2.1 (Int.toNat c.1)) x6) (nth oP ch.2.2.2.1 (Int.toNat (cY .i64 (1:Int) c.1))).2.1)) (
             k (fL.out (((0:Int),((List.replicate 2 (0:Int)),(([]:List jj),((0:Int),())))),(10:Int)))) (
             k (fL.out (x5,(0:Int))))) (
            aJ ((jK (nth ti x5.2.1 (Int.toNat c.1)) (nth oP ch.2.2.2.1 (Int.toNat (cY .i64 (1:Int) c.1))).2.1)) (
             k (fL.out (((0:Int),((List.replicate 2 (0:Int)),(([]:List jj),((0:Int),())))),(10:Int)))) (
             k (fL.out (x5,(0:Int)))))) none) none) none)) none) none) none)) none) none) none))))) none))):=by kernel_rfl
structure xi(ch:iN)(s:jl):Prop where
 no:0<=s.1/\s.1<=1048576
 h0:Bd (nth ti s.2.1 0) 0 1125899906842624
 h1:Bd (nth ti s.2.1 1) 0 1125899906842624
 bP:0<=s.2.2.2.1/\s.2.2.2.1<=1000
 len:s.2.2.1.length<=16
 pq:tF none s.2.2.1=true
 o0:jJ (l6 0 s.2.2.1)<=1125899906842624
 o1:jJ (l6 1 s.2.2.1)<=1125899906842624
 Ve: @Eq Int (nth ti s.2.1 0+nth ti s.2.1 1+jJ s.2.2.1) ch.2.1
 cost: @GE.ge Int _ (nth ti s.2.1 ch.2.2.2.2.1.toNat) (Bt s.2.2.2.1 s.2.2.1.length+660)
theorem sT{ch:iN}{s:jl}:ye ch s=true↔xi ch s:=by
 unfold ye nX qz
 simp only[ak,sq,decide_eq_true_eq,beq_iff_eq]
 exact⟨λ⟨a,b,c,d,e,f,g,h,i,j⟩=>⟨a,b,c,d,e,f,g,h,i,j⟩,λh=>⟨h.no,h.h0,h.h1,h.bP,h.len,h.pq,h.o0,h.o1,h.Ve,h.cost⟩⟩
theorem xi.Nb{ch:iN}{s:jl}(h:xi ch s){n:Int}(hn:n=0\/n=1):Bd (nth ti s.2.1 n.toNat) 0 1125899906842624:=by
 rcases hn with rfl | rfl
 ·exact h.h0
 ·exact h.h1
theorem xi.a{ch:iN}{s:jl}(h:xi ch s):∀c∈s.2.2.1,Gs c:=λc hc=>(ug _ _ h.pq c hc).a
theorem xi.off{ch:iN}{s:jl}(h:xi ch s){n:Int}(hn:n=0\/n=1):0<=jJ (l6 n s.2.2.1)/\jJ (l6 n s.2.2.1)<=1125899906842624:=by
 refine⟨(JT _ λc hc=>h.a c ((jG.1 hc).1)).1,?_⟩
 rcases hn with rfl | rfl
 ·exact h.o0
 ·exact h.o1
theorem Ct:∀(c:jj) (l:List jj),(xO c l).length=l.length+1
 |c,[]=>rfl
 |c,x::l=>by
  rw[wS]
  split
  ·rfl
  ·rw[aN,Ct c l];rfl
theorem HI{l:List Int}(h:l.length=2)(a b v:Int)(ha:a=0\/a=1)(hb:b=0\/b=1):nth ti (l.set a.toNat v) b.toNat=if a=b then v else nth ti l b.toNat:=by
 match l,h with
 |[x,y],_=>
  rcases ha with rfl | rfl <;> rcases hb with rfl | rfl <;> rfl
theorem Om{n:Int}(h:0<=n/\n<=1):n=0\/n=1:=by omega
theorem fL.ok:fL.Ok:=by
 rintro⟨ch,s,c⟩ ⟨fI,hu,hc⟩
 have fI:ns ch:=fI
 have hu:uE s:=hu
 rw[fL.eq,aQ.run (d:=(ch,s)) ⟨fI,hu⟩]
 simp only[ab,aQ.add,aQ.F]
 rw[eD.run (d:=c) hc]
 simp only[ab,eD.add,eD.F,fL.add,fL.F,Bc]
 cases e1:ye ch s
 ·rfl
 cases e2:Gl c
 ·rfl
 have hs:=sT.1 e1
 have g:=sj.1 e2
 have gs:=Om g.side
 have hlen:=hs.len
 simp only[bY,ai,l9,if_true]
 rw[aY.run (d:=(s,c.1,c.2.1)) hu.2.1]
 simp only[ab,aY.add,aY.F,yD]
 cases e3:s.2.2.1.any (Kn c.1 c.2.1)
 rotate_left
 ·rfl
 have gs':1 - c.1=0\/1 - c.1=1:=by omega
 obtain⟨d,hd,_⟩:=fI.t gs'
 simp only[ai,cF,if_false]
 rw[JD g.side,bF (by omega) (by omega),ah,cK.run (d:=(s,1 - c.1)) ⟨gs',hs.a,hu.2.1⟩]
 simp only[ab,cK.add,cK.F]
 rw[hd,WT,Ox,UF,Y4,bp (by have:=g.DD;omega),ai]
 by_cases e4:s.2.2.1.length=16
 ·rw[iE (by omega),ah,if_pos e4];rfl
 have ho:=yP (1 - c.1) s.2.2.1
 have U2:=hs.off gs'
 have ga:=g.DD
 rw[fJ (by omega),ai,if_neg e4,iU (by omega),ai,ff (by omega) (by omega)]
 by_cases e5:jJ (l6 (1 - c.1) s.2.2.1)+c.2.2.1 > 1125899906842624
 ·rw[fA e5,ah,if_pos e5];rfl
 have hv:=hs.Nb gs
 have Qq:=hv.1
 have Uj:=hv.2
 rw[dW e5,ai,if_neg e5,bU.run (d:=(s,c)) ⟨hu.2.1,hu.2.2,g.side,hv,g.a.1,g.a.2⟩]
 simp only[ab,bU.add,bU.F]
 rw[fe.run (d:=(ch,lI s c)) trivial]
 simp only[ab,fe.add,fe.F]
 have l2:(lI s c).2.1.length=2:=by
  show(List.set _ _ _).length=2
  rw[ej];exact hu.2.2
 have fa:=fI.op
 have i1:fp c.1 2=true:=bF g.side.1 (by omega)
 have i2:c.1.toNat < (lI s c).2.1.length:=by rw[l2];omega
 have i3:1+(c.1.toNat*1+0)=1+c.1.toNat*1:=by omega
 have j1:fp ch.2.2.2.2.1 2=true:=bF (by omega) (by omega)
 have j2:ch.2.2.2.2.1.toNat < (lI s c).2.1.length:=by rw[l2];omega
 have j3:1+(ch.2.2.2.2.1.toNat*1+0)=1+ch.2.2.2.2.1.toNat*1:=by omega
 simp only[i1,aO i2,aO i3,j1,aO j2,aO j3,ah]
 by_cases e6:nth ti (lI s c).2.1 c.1.toNat < 0
 ·rw[bI e6,ah,if_pos e6];rfl
 rw[bp e6,ai,if_neg e6]
 by_cases e7:nth ti (lI s c).2.1 ch.2.2.2.2.1.toNat < Bt (lI s c).2.2.2.1 (lI s c).2.2.1.length+660
 ·rw[bI e7,ah,if_pos e7];rfl
 have hf:=xH (lI s c).2.2.2.1 (lI s c).2.2.1.length
 have hw: @Eq Int (nth ti (lI s c).2.1 c.1.toNat) (nth ti s.2.1 c.1.toNat - c.2.2.1):=by
  show nth ti (List.set _ _ _) _=_
  rw[HI hu.2.2 _ _ _ gs gs,if_pos rfl]
 rw[bp e7,ai,if_neg e7]
 unfold Qx
 by_cases e8:c.1=ch.2.2.2.2.1
 ·rw[iE e8,ah,gm (by omega) (by omega),if_pos e8]
  by_cases e9:nth ti (lI s c).2.1 c.1.toNat - (Bt (lI s c).2.2.2.1 (lI s c).2.2.1.length+660) < 200
  ·rw[bI e9,ah,if_pos e9];rfl
  ·rw[bp e9,ai,if_neg e9]
 ·rw[fJ e8,ai,if_neg e8,oc]
  by_cases e9:nth ti (lI s c).2.1 c.1.toNat < 200
  ·rw[bI e9,ah,if_pos e9];rfl
  ·rw[bp e9,ai,if_neg e9]
def fL.E:=Entry.dp [some nb,some mC,some ke] fL.st fL.aw fL.add fL.F fL.out
def fL.call:fL.D->Option fL.X:=cj fL.E fL.st
theorem fL.run:cl fL.call fL.aw fL.add fL.F:=dw (du [.d nb,.d mC,.d ke] λ_=>by kernel_rfl)
def fL.sg:SG Tryz.prog:=⟨30,aP,fL.E,.fn 0 (by kernel_rfl) fL.ok trivial⟩
abbrev cd.L0.D:=Bs×Nat×Int×(List Int)
def cd.L0.st:cd.L0.D->AS:=λ(s6,outL,i,n7)=>⟨([.undef,.undef,.undef,.gE tH s6,.undef,.dh (.new 7 0) 0 [] 0 0 outL,.d ti i]++bG 14 []),[],(db 7 ([[.obj 0 false (.vec 5 tb n7)]]++db 13 []))⟩
abbrev cd.L0.Y0:=Nat×(List Int)
abbrev cd.L0.X0:=Nat×(List Int)
def cd.L0.bV:cd.L0.X0->Exit×AS:=λx=>(.exit 0,⟨(bG 5 ([.dh (.new 7 0) 0 [] 0 0 x.1]++bG 15 [])),[],(db 7 ([[.obj 0 false (.vec 5 tb x.2)]]++db 13 []))⟩)
abbrev cd.L0.X:=cd.L0.X0
abbrev cd.L0.Y:=cd.L0.Y0
def cd.L0.out:cd.L0.X->Out (Exit×AS):=λx=> .ok (cd.L0.bV x)
def cd.L0.add:cd.L0.D->cd.L0.Y->cd.L0.X:=λ(s6,outL,i,n7) y=>y
abbrev cd.D:=Bs×Bs
def cd.st:cd.D->SA:=λ(b,h)=>([.d tB b,.d tH h],[])
abbrev cd.Y:=Bs
abbrev cd.X:=Bs
def cd.out:cd.X->aZ:=λx=>⟨.d tB x,[],[]⟩
def cd.add:cd.D->cd.Y->cd.X:=λ(b,h) y=>y
def cd.L0.aw:cd.L0.D->Prop:=λ(h,m,i,l)=>h.length=32/\m=l.length/\∃k:Nat,k<=32/\i=k/\l.length<=100000000+k
def cd.L0.F:cd.L0.D->cd.L0.Y:=λ(h,m,i,l)=>((l++h.drop i.toNat).length,l++h.drop i.toNat)
def cd.aw:cd.D->Prop:=λ(b,h)=>b.length<=90000000/\h.length=32
def cd.F:cd.D->cd.Y:=λ(b,h)=>b++h
def cd.G:fD:=gz (P:=Tryz.prog) []
def cd.L0.E:=cV.dp cd.L0.st cd.L0.aw cd.L0.add cd.L0.F cd.L0.out
def cd.L0.call:cd.L0.D->Option cd.L0.X:=eI cd.L0.E cd.L0.st
def cd.an:fT:= {da:=[7],loops:=oF [(3,{bS:=[3,5,6],sites:=[7],nB:=[⟨5,[],7,135⟩]})],outs:=oE [(3,{bS:=[5],sites:=[7]},{bS:=[4]})],jw:=pL [(3,cd.L0.E)],res:=[some tB]}
def cd.A:= @dq Tryz.prog cd.G cd.an 0 Tryz.f114 _ cd.st
abbrev cd.Ok:=dr @cd.A cd.aw cd.add cd.F cd.out
def cd.L0.R:= @dn Tryz.prog cd.G cd.an 0 Tryz.f114 0 _ cd.L0.st
abbrev cd.L0.Ok:=gw Tryz.prog cd.G cd.an 0 Tryz.f114 0 cd.L0.st cd.L0.aw cd.L0.add cd.L0.F cd.L0.out
theorem cd.L0.run:cl cd.L0.call cd.L0.aw cd.L0.add cd.L0.F:=gT (gS [.d tH,.n,.d ti,.d tB] λ_=>by kernel_rfl)
theorem cd.L0.aI:jk @cd.L0.R cd.L0.st cd.L0.aw cd.L0.add cd.L0.F cd.L0.bV cd.L0.Ok:=jm
theorem cd.L0.step{R:Type}(s6:Bs)(outL:Nat)(i:Int)(n7:(List Int))(kn:AS->Option R)(kx:Exit->AS->Option R):cd.L0.R (s6,outL,i,n7) kn kx=
  aJ ((jK i (32:Int))) (
   aJ (fp i (32:Int)) (
   aJ (decide (outL<=(List.length n7))) (
   aJ (fk (outL+1) 1) (
   kn (cd.L0.st (s6,(outL+1),(bO .i64 i (1:Int)),((List.take outL n7)++ [(nth tb s6 (Int.toNat i))])))) none) none) none) (
   kx (cd.L0.bV (outL,n7)).1 (cd.L0.bV (outL,n7)).2):=by kernel_rfl
theorem cd.eq{R:Type}(b:Bs)(h:Bs)(k:aZ->Option R):cd.A (b,h) k=
 aJ (fk (0+(List.length b)) 1) (
 aj (cd.L0.call (h,(0+(List.length b)),(0:Int),((List.take 0 (List.replicate 0 (0:Int)))++b))) λx1=>
 aJ (decide (0=0/\(0+x1.1)<=(List.length x1.2))) (
 k (cd.out (cut x1.2 0 x1.1))) none) none:=by kernel_rfl
theorem cd.L0.ok:cd.L0.Ok:=by
 refine cd.L0.aI (λ(_,_,i,_)=>(32 - i).toNat) ?_
 rintro⟨h,m,i,l⟩ ⟨Rz,rfl,k,hk,rfl,hl⟩
 have Rz:h.length=32:=Rz
 have hl:l.length<=100000000+k:=hl
 by_cases mw:k < 32
 ·left
  have n1:nth tb h k=h[k]:=dP (t:=tb) (by omega)
  have el:(l++ [h[k]]).length=l.length+1:=by rw[ae];rfl
  refine⟨(h,l.length+1,((k+1:Nat):Int),l++ [h[k]]),⟨Rz,el.symm,k+1,by omega,rfl,by show(l++ [h[k]]).length<=_;omega⟩,by show(32 - ((k+1:Nat):Int)).toNat < (32 - (k:Int)).toNat;omega,?_,λkn kx=> ?_⟩
  ·simp only[cd.L0.add,cd.L0.F,aa]
   rw[aA (show k < h.length by omega),bR,eS]
  ·rw[cd.L0.step,bI (by omega),ah,bF (by omega) (by omega),ah,aO (aC _),ah,fV (by omega) (by omega),ah,N.pJ (by omega),aa,n1,cz]
 ·right
  obtain rfl:k=32:=by omega
  intro T kn kx
  rw[cd.L0.step,bp (by omega),ai]
  simp only[cd.L0.add,cd.L0.F,aa]
  rw[gM (by omega),dg]
theorem cd.ok:cd.Ok:=by
 rintro⟨b,h⟩ ⟨hb,Rz⟩
 have hb:b.length<=90000000:=hb
 have Rz:h.length=32:=Rz
 rw[cd.eq]
 simp only[bl,jA,bu]
 rw[fV (by omega) (by omega),ah,cd.L0.run (d:=(h,b.length,0,b)) ⟨Rz,rfl,0,by omega,rfl,by omega⟩]
 simp only[ab,cd.L0.add,cd.L0.F,bK,aW,aC,and_self,decide_true,ah,iV,cd.add,cd.F]
def cd.E:=Entry.dp [some tB,some tH] cd.st cd.aw cd.add cd.F cd.out
def cd.call:cd.D->Option cd.X:=cj cd.E cd.st
theorem cd.run:cl cd.call cd.aw cd.add cd.F:=dw (du [.d tB,.d tB] λ_=>by kernel_rfl)
def cd.sg:SG Tryz.prog:=⟨114,aP,cd.E,.fn 1 (by kernel_rfl) cd.ok (And.intro (.dp cd.L0.ok (by kernel_rfl)) trivial)⟩
noncomputable section
def Ur:ByteArray:=⟨#[107,105,116]⟩
theorem HQ:∃f:List Int->Int->List Int,∀s n,f s n=Di Ur [s,[n]]:=⟨_,λ_ _=>rfl⟩
def o7:List Int->Int->List Int:=Classical.choose HQ
theorem uB(s:List Int)(n:Int):o7 s n=Di Ur [s,[n]]:=Classical.choose_spec HQ s n
theorem NY(s:List Int)(n:Int):Sm (o7 s n):=by rw[uB];exact Df _ _
def oK(seed:List Int):pI:=(kS (o7 seed 1),(kS (o7 seed 2),(kS (o7 seed 3),(kS (o7 seed 4),(kS (o7 seed 5),(o7 seed 6,()))))))
def uJ(k:pI):KU:=(fw k.1,(fw k.2.1,(fw k.2.2.1,(fw k.2.2.2.1,(fw k.2.2.2.2.1,())))))
def Fa(k:pI):Prop:=iw k.1/\iw k.2.1/\iw k.2.2.1/\iw k.2.2.2.1/\iw k.2.2.2.2.1
theorem vZ(h:List Int):iw (kS h):=by have:=lZ h;exact⟨by omega,by omega⟩
theorem v9(s:List Int):Fa (oK s):=⟨vZ _,vZ _,vZ _,vZ _,vZ _⟩
theorem GF{k:Int}(h0:0 < k)(h1:k < 2305843009213688669):MA (fw k):=by
 refine⟨uK k,?_⟩
 unfold D3
 rw[v7,cv]
 exact kN (λe=>Qf (n:=k.toNat) (by omega) (by omega) (by rw[<-td k (by omega)];exact e))
theorem vY(h:List Int):MA (fw (kS h)):=GF (lZ h).1 (lZ h).2
theorem JW(s:List Int):Q4 (uJ (oK s)):=⟨vY _,vY _,vY _,vY _,vY _⟩
abbrev fb.D:=Bs×Int
def fb.st:fb.D->SA:=λ(seed,n)=>([.d tH seed,.d tb n],[])
abbrev fb.Y:=Bs
abbrev fb.X:=Bs
def fb.out:fb.X->aZ:=λx=>⟨.d tH x,[],[]⟩
def fb.add:fb.D->fb.Y->fb.X:=λ(seed,n) y=>y
def fb.aw:fb.D->Prop:=λ(s,_)=>s.length=32
def fb.F:fb.D->fb.Y:=λ(s,n)=>o7 s n
def fb.G:fD:=gz (P:=Tryz.prog) [cd.sg,eM.sg]
def fb.an:fT:= {}
def fb.A:= @dq Tryz.prog fb.G fb.an 0 Tryz.f61 _ fb.st
abbrev fb.Ok:=dr @fb.A fb.aw fb.add fb.F fb.out
theorem fb.eq{R:Type}(seed:Bs)(n:Int)(k:aZ->Option R):fb.A (seed,n) k=
 aj (cd.call ((List.replicate 0 (0:Int)),seed)) λx1=>
 aj (eM.call ((⟨#[107,105,116]⟩:ByteArray),[x1,[n]])) λx2=>
 k (fb.out x2):=by kernel_rfl
theorem fb.ok:fb.Ok:=by
 rintro⟨s,n⟩ hs
 have hs:s.length=32:=hs
 rw[fb.eq,cd.run (d:=(List.replicate 0 0,s)) ⟨by decide,hs⟩]
 simp only[ab,cd.add,cd.F]
 rw[show(List.replicate 0 (0:Int)++s)=s from rfl,eM.run (d:=((⟨#[107,105,116]⟩:ByteArray),[s,[n]])) (Dj (by decide) (by omega) (by show 1<=_;decide))]
 simp only[ab,eM.add,eM.F,fb.add,fb.F,uB]
 rfl
def fb.E:=Entry.dp [some tH,some tb] fb.st fb.aw fb.add fb.F fb.out
def fb.call:fb.D->Option fb.X:=cj fb.E fb.st
theorem fb.run:cl fb.call fb.aw fb.add fb.F:=dw (du [.d tB,.d tb] λ_=>by kernel_rfl)
def fb.sg:SG Tryz.prog:=⟨61,aP,fb.E,.fn 0 (by kernel_rfl) fb.ok trivial⟩
abbrev gB.D:=Bs
def gB.st:gB.D->SA:=λseed=>([.d tH seed],[])
abbrev gB.Y:=pI
abbrev gB.X:=pI
def gB.out:gB.X->aZ:=λx=>⟨.d rZ x,[],[]⟩
def gB.add:gB.D->gB.Y->gB.X:=λseed y=>y
def gB.aw:gB.D->Prop:=λs=>s.length=32
def gB.F:gB.D->gB.Y:=λs=>oK s
def gB.G:fD:=gz (P:=Tryz.prog) [fb.sg,bX.sg]
def gB.an:fT:= {}
def gB.A:= @dq Tryz.prog gB.G gB.an 0 Tryz.f25 _ gB.st
abbrev gB.Ok:=dr @gB.A gB.aw gB.add gB.F gB.out
theorem gB.eq{R:Type}(seed:Bs)(k:aZ->Option R):gB.A seed k=
 aj (fb.call (seed,(1:Int))) λx1=>
 aj (bX.call x1) λx2=>
 aj (fb.call (seed,(2:Int))) λx3=>
 aj (bX.call x3) λx4=>
 aj (fb.call (seed,(3:Int))) λx5=>
 aj (bX.call x5) λx6=>
 aj (fb.call (seed,(4:Int))) λx7=>
 aj (bX.call x7) λx8=>
 aj (fb.call (seed,(5:Int))) λx9=>
 aj (bX.call x9) λzm=>
 aj (fb.call (seed,(6:Int))) λBL=>
 k (gB.out (x2,(x4,(x6,(x8,(zm,(BL,()))))))):=by kernel_rfl
theorem gB.ok:gB.Ok:=by
 intro s hs
 have q:∀n,fb.call (s,n)=some (o7 s n):=λn=>fb.run (d:=(s,n)) hs
 have r:∀n,bX.call (o7 s n)=some (kS (o7 s n)):=λn=>bX.run (d:=o7 s n) (NY s n)
 rw[gB.eq]
 simp only[q,r,ab]
 rfl
def gB.E:=Entry.dp [some tH] gB.st gB.aw gB.add gB.F gB.out
def gB.call:gB.D->Option gB.X:=cj gB.E gB.st
theorem gB.run:cl gB.call gB.aw gB.add gB.F:=dw (du [.d tB] λ_=>by kernel_rfl)
def gB.sg:SG Tryz.prog:=⟨25,aP,gB.E,.fn 0 (by kernel_rfl) gB.ok trivial⟩
abbrev gZ.D:=pI
def gZ.st:gZ.D->SA:=λkv=>([.d rZ kv],[])
abbrev gZ.Y:=KU
abbrev gZ.X:=KU
def gZ.out:gZ.X->aZ:=λx=>⟨.d qt x,[],[]⟩
def gZ.add:gZ.D->gZ.Y->gZ.X:=λkv y=>y
def gZ.aw:gZ.D->Prop:=λk=>Fa k
def gZ.F:gZ.D->gZ.Y:=λk=>uJ k
def gZ.G:fD:=gz (P:=Tryz.prog) [eh.sg]
def gZ.an:fT:= {}
def gZ.A:= @dq Tryz.prog gZ.G gZ.an 0 Tryz.f26 _ gZ.st
abbrev gZ.Ok:=dr @gZ.A gZ.aw gZ.add gZ.F gZ.out
theorem gZ.eq{R:Type}(kv:pI)(k:aZ->Option R):gZ.A kv k=
 aj (eh.call kv.1) λx1=>
 aj (eh.call kv.2.1) λx2=>
 aj (eh.call kv.2.2.1) λx3=>
 aj (eh.call kv.2.2.2.1) λx4=>
 aj (eh.call kv.2.2.2.2.1) λx5=>
 k (gZ.out (x1,(x2,(x3,(x4,(x5,())))))):=by kernel_rfl
theorem gZ.ok:gZ.Ok:=by
 rintro k ⟨h1,h2,h3,h4,h5⟩
 rw[gZ.eq,eh.run (d:=k.1) h1]
 simp only[ab,eh.add,eh.F]
 rw[eh.run (d:=k.2.1) h2]
 simp only[ab,eh.add,eh.F]
 rw[eh.run (d:=k.2.2.1) h3]
 simp only[ab,eh.add,eh.F]
 rw[eh.run (d:=k.2.2.2.1) h4]
 simp only[ab,eh.add,eh.F]
 rw[eh.run (d:=k.2.2.2.2.1) h5]
 rfl
def gZ.E:=Entry.dp [some rZ] gZ.st gZ.aw gZ.add gZ.F gZ.out
def gZ.call:gZ.D->Option gZ.X:=cj gZ.E gZ.st
theorem gZ.run:cl gZ.call gZ.aw gZ.add gZ.F:=dw (du [.d rZ] λ_=>by kernel_rfl)
def gZ.sg:SG Tryz.prog:=⟨26,aP,gZ.E,.fn 0 (by kernel_rfl) gZ.ok trivial⟩
def F3(o:KV):Int:=1+o.2.2.2.1%2305843009213688668
theorem PZ{o:KV}:0 < F3 o/\F3 o < 2305843009213688669:=by
 unfold F3;omega
abbrev ig.D:=KV
def ig.st:ig.D->SA:=λo=>([.d OQ o],[])
abbrev ig.Y:=Int
abbrev ig.X:=Int
def ig.out:ig.X->aZ:=λx=>⟨.d tu x,[],[]⟩
def ig.add:ig.D->ig.Y->ig.X:=λo y=>y
def ig.aw:ig.D->Prop:=λo=>iw o.2.2.2.1
def ig.F:ig.D->ig.Y:=λo=>F3 o
def ig.G:fD:=gz (P:=Tryz.prog) []
def ig.an:fT:= {}
def ig.A:= @dq Tryz.prog ig.G ig.an 0 Tryz.f29 _ ig.st
abbrev ig.Ok:=dr @ig.A ig.aw ig.add ig.F ig.out
theorem ig.eq{R:Type}(o:KV)(k:aZ->Option R):ig.A o k=
 k (ig.out (bO .u64 (1:Int) (fU o.2.2.2.1 (2305843009213688668:Int)))):=by kernel_rfl
theorem ig.ok:ig.Ok:=by
 intro o ho
 have:=ho.1
 rw[ig.eq,kT ho.1]
 have e:bO .u64 1 (o.2.2.2.1%2305843009213688668)=F3 o:=by
  unfold F3
  rw[nD,jq (by omega) (by omega)]
 rw[e]
 rfl
def ig.E:=Entry.dp [some OQ] ig.st ig.aw ig.add ig.F ig.out
def ig.call:ig.D->Option ig.X:=cj ig.E ig.st
theorem ig.run:cl ig.call ig.aw ig.add ig.F:=dw (du [.d OQ] λ_=>by kernel_rfl)
def ig.sg:SG Tryz.prog:=⟨29,aP,ig.E,.fn 0 (by kernel_rfl) ig.ok trivial⟩
abbrev aM.L0.D:=yk×Int×iN×(List pI)×Int×(List Int)×(Int×Unit)×(List pI)×iN
def aM.L0.st:aM.L0.D->AS:=λ(QR,i,n2,n3,n4,nF,qL,n5,n6)=>⟨([.undef,.gE KL QR,.ptr (.new 2 0) 0 [] 0,.ptr (.new 3 0) 0 [] 0,.ptr (.new 4 0) 0 [] 0,.ptr (.new 5 0) 0 [] 0,.ptr (.new 6 0) 0 [] 0,.d ti i]++bG 130 []),[],([[],[],[.obj 0 false (.d nb n2)],[.obj 0 false (.d (.arr 2 rZ) n3)],[.obj 0 false (.pr (.d ti n4) (.pr (.d (.arr 2 ti) nF) (.pr (.eV) (.d (.pair ti .unit) qL))))],[.obj 0 false (.d (.arr 2 rZ) n5)],[.obj 0 false (.d nb n6)]]++db 131 [])⟩
abbrev aM.L0.Y0:=iN
abbrev aM.L0.X0:=(yk×iN×(List pI)×Int×(List Int)×(Int×Unit)×(List pI))×(iN)
def aM.L0.bV:aM.L0.X0->Exit×AS:=λx=>(.exit 0,⟨([.undef,.gE KL x.1.1,.ptr (.new 2 0) 0 [] 0,.ptr (.new 3 0) 0 [] 0,.ptr (.new 4 0) 0 [] 0,.ptr (.new 5 0) 0 [] 0,.ptr (.new 6 0) 0 [] 0]++bG 131 []),[],([[],[],[.obj 0 false (.d nb x.1.2.1)],[.obj 0 false (.d (.arr 2 rZ) x.1.2.2.1)],[.obj 0 false (.pr (.d ti x.1.2.2.2.1) (.pr (.d (.arr 2 ti) x.1.2.2.2.2.1) (.pr (.eV) (.d (.pair ti .unit) x.1.2.2.2.2.2.1))))],[.obj 0 false (.d (.arr 2 rZ) x.1.2.2.2.2.2.2)],[.obj 0 false (.d nb x.2)]]++db 131 [])⟩)
abbrev aM.L0.X:=aM.L0.X0
abbrev aM.L0.Y:=aM.L0.Y0
def aM.L0.out:aM.L0.X->Out (Exit×AS):=λx=> .ok (aM.L0.bV x)
def aM.L0.add:aM.L0.D->aM.L0.Y->aM.L0.X:=λ(QR,i,n2,n3,n4,nF,qL,n5,n6) y=>((QR,n2,n3,n4,nF,qL,n5),y)
abbrev aM.L1.D:=yk×Int×iN×(List pI)×Int×(List Int)×(Int×Unit)×(List pI)×iN×jl
def aM.L1.st:aM.L1.D->AS:=λ(Mw,jf,lS,CO,CP,CQ,CR,s9,pU,n8)=>⟨([.undef,.gE KL Mw,.ptr (.new 2 0) 0 [] 0,.ptr (.new 3 0) 0 [] 0,.ptr (.new 4 0) 0 [] 0,.ptr (.new 5 0) 0 [] 0,.ptr (.new 6 0) 0 [] 0,.undef,.ptr (.new 8 0) 0 [] 0,.undef,.d ti jf]++bG 127 []),[],([[],[],[.obj 0 false (.d nb lS)],[.obj 0 false (.d (.arr 2 rZ) CO)],[.obj 0 false (.pr (.d ti CP) (.pr (.d (.arr 2 ti) CQ) (.pr (.eV) (.d (.pair ti .unit) CR))))],[.obj 0 false (.d (.arr 2 rZ) s9)],[.obj 0 false (.d nb pU)],[],[.obj 0 false (.d mC n8)]]++db 129 [])⟩
abbrev aM.L1.Y0:=jl
abbrev aM.L1.X0:=(iN×(List pI)×Int×(List Int)×(Int×Unit)×(List pI)×iN)×(jl)
def aM.L1.bV:aM.L1.X0->Exit×AS:=λx=>(.exit 2,⟨([.undef,.undef,.ptr (.new 2 0) 0 [] 0,.ptr (.new 3 0) 0 [] 0,.ptr (.new 4 0) 0 [] 0,.ptr (.new 5 0) 0 [] 0,.ptr (.new 6 0) 0 [] 0,.undef,.ptr (.new 8 0) 0 [] 0]++bG 129 []),[],([[],[],[.obj 0 false (.d nb x.1.1)],[.obj 0 false (.d (.arr 2 rZ) x.1.2.1)],[.obj 0 false (.pr (.d ti x.1.2.2.1) (.pr (.d (.arr 2 ti) x.1.2.2.2.1) (.pr (.eV) (.d (.pair ti .unit) x.1.2.2.2.2.1))))],[.obj 0 false (.d (.arr 2 rZ) x.1.2.2.2.2.2.1)],[.obj 0 false (.d nb x.1.2.2.2.2.2.2)],[],[.obj 0 false (.d mC x.2)]]++db 129 [])⟩)
abbrev aM.L1.X:=aM.L1.X0
abbrev aM.L1.Y:=aM.L1.Y0
def aM.L1.out:aM.L1.X->Out (Exit×AS):=λx=> .ok (aM.L1.bV x)
def aM.L1.add:aM.L1.D->aM.L1.Y->aM.L1.X:=λ(Mw,jf,lS,CO,CP,CQ,CR,s9,pU,n8) y=>((lS,CO,CP,CQ,CR,s9,pU),y)
abbrev aM.D:=yk
def aM.st:aM.D->SA:=λp=>([.d KL p],[])
abbrev aM.Y:=iN×(List pI)×jl
abbrev aM.X:=iN×(List pI)×jl
def aM.out:aM.X->aZ:=λx=>⟨.cons (.d nb x.1) (.cons (.d (.arr 2 rZ) x.2.1) (.cons (.d mC x.2.2) (.nil))),[],[]⟩
def aM.add:aM.D->aM.Y->aM.X:=λp y=>y
def Vk(o:KV):Prop:=(0<=o.1/\o.1 < 256)/\(0<=o.2.1/\o.2.1 < 65536)/\(0<=o.2.2.1/\o.2.2.1 < 65536)/\iw o.2.2.2.1
structure Mn(p:yk):Prop where
 len:p.1.length=2
 s0:(nth tH p.1 0).length=32
 s1:(nth tH p.1 1).length=32
 DD:0<=p.2.1/\p.2.1 < 4294967296
 own:0<=p.2.2.1/\p.2.2.1 < 4294967296
 bP:0<=p.2.2.2.1/\p.2.2.2.1 < 256
 op:0<=p.2.2.2.2.1/\p.2.2.2.2.1 < 256
 Wy:∀o∈p.2.2.2.2.2.1,Vk o
 room:p.2.2.2.2.2.1.length<=9223372036854775807
 no:0<=p.2.2.2.2.2.2.1/\p.2.2.2.2.2.2.1 < 65536
def Jl(i:Nat)(o:KV):jj:=(o.1%2,((i:Int)+1,(1+o.2.1,(fw (F3 o),(1+o.2.2.1,())))))
def Dg(ch:iN)(s:jl)(i:Nat)(o:KV):jl:=if(Bc ch s (Jl i o)).2=0 then(Bc ch s (Jl i o)).1 else s
def tn(ch:iN):jl->Nat->List KV->jl
 |s,_,[]=>s
 |s,i,o::l=>if i < 20 then tn ch (Dg ch s i o) (i+1) l else s
def tm(p:yk):List pI:=[oK (nth tH p.1 0),oK (nth tH p.1 1)]
def tE(p:yk):iN:=xf (20000+p.2.1) (uJ (oK (nth tH p.1 0))) (uJ (oK (nth tH p.1 1))) (p.2.2.2.2.1%2)
def vo(p:yk):List Int:=[p.2.2.1%(20000+p.2.1+1),20000+p.2.1 - p.2.2.1%(20000+p.2.1+1)]
def Jv(p:yk)(l:List Int):jl:=(p.2.2.2.2.2.2.1,(l,(([]:List jj),(p.2.2.2.1%8,()))))
def L7(p:yk):jl:=if ye (tE p) (Jv p (vo p))=true then Jv p (vo p) else Jv p (((vo p).set (p.2.2.2.2.1%2).toNat (20000+p.2.1)).set (1 - p.2.2.2.2.1%2).toNat 0)
def Ib(p:yk):jl:=tn (tE p) (L7 p) 0 p.2.2.2.2.2.1
theorem GL{p:yk}(h:Mn p):ns (tE p):=by
 have:=h.DD
 have:=h.op
 exact⟨_,_,_,_,rfl,by omega,by omega,JW _,JW _,by omega⟩
theorem yE:∀(c:jj) (l:List jj) (x:jj),x∈xO c l↔x=c\/x∈l
 |c,[],x=>by simp[xO,xQ,Bl]
 |c,y::l,x=>by
  rw[wS]
  split
  ·simp
  ·rw[cH,yE c l x,cH]
   constructor
   ·rintro(h | h | h) <;> simp[h]
   ·rintro(h | h | h) <;> simp[h]
theorem JR{ch:iN}{s:jl}{c:jj}(h:(Bc ch s c).2=0):(Bc ch s c).1=lI s c/\xi ch s/\Qa c/\s.2.2.1.any (Kn c.1 c.2.1)=false/\s.2.2.1.length≠16/\
  jJ (l6 (1 - c.1) s.2.2.1)+c.2.2.1<=1125899906842624/\0<=nth ti (lI s c).2.1 c.1.toNat/\Bt (lI s c).2.2.2.1 (lI s c).2.2.1.length+660<=nth ti (lI s c).2.1 ch.2.2.2.2.1.toNat:=by
 unfold Bc at h ⊢
 split at h
 ·next e=>
  rw[if_pos e]
  split at h
  ·exact absurd h (by decide)
  ·next e1=>
   rw[if_neg e1]
   split at h
   ·exact absurd h (by decide)
   ·next e2=>
    rw[if_neg e2]
    split at h
    ·exact absurd h (by decide)
    ·next e3=>
     rw[if_neg e3]
     split at h
     ·exact absurd h (by decide)
     ·next e4=>
      rw[if_neg e4]
      split at h
      ·exact absurd h (by decide)
      ·next e5=>
       rw[if_neg e5]
       split at h
       ·exact absurd h (by decide)
       ·next e6=>
        rw[if_neg e6]
        have e':=nI.1 e
        exact⟨rfl,sT.1 e'.1,sj.1 e'.2,by simpa using e1,e2,by omega,Int.not_lt.1 e4,Int.not_lt.1 e5⟩
 ·exact absurd h (by decide)
theorem JB{ch:iN}{s:jl}{i:Nat}{o:KV}(h:uE s):uE (Dg ch s i o):=by
 unfold Dg
 split
 ·next e=>
  obtain⟨e1,hs,_⟩:=JR e
  rw[e1]
  refine⟨λc hc=> ?_,?_,?_⟩
  ·have hc:c∈xO (Jl i o) s.2.2.1:=hc
   rcases(yE _ _ _).1 hc with rfl | hc
   ·exact uK _
   ·exact h.1 c hc
  ·show(xO _ _).length<=1000
   rw[Ct]
   have:=hs.len
   omega
  ·show(List.set _ _ _).length=2
   rw[ej]
   exact h.2.2
 ·exact h
theorem ND{ch:iN}:∀(l:List KV) (s:jl) (i:Nat),uE s->uE (tn ch s i l)
 |[],_,_,h=>h
 |o::l,s,i,h=>by
  rw[tn]
  split
  ·exact ND l _ _ (JB h)
  ·exact h
theorem Oh(p:yk)(l:List Int)(h:l.length=2):uE (Jv p l):=⟨λc hc=>(by cases hc),bm _,h⟩
theorem KE(p:yk):uE (L7 p):=by
 unfold L7
 split
 ·exact Oh p _ rfl
 ·exact Oh p _ (by rw[ej,ej];rfl)
theorem Ot(p:yk):uE (Ib p):=ND _ _ _ (KE p)
def A4(i:Nat)(ks:List pI)(ch:iN):iN:=(ch.1,(ch.2.1,(ch.2.2.1.set i (uJ (nth rZ ks i)),(ch.2.2.2.1.set i (te (5+i)),ch.2.2.2.2))))
def aM.L0.aw:aM.L0.D->Prop:=λ(p,i,z1,z2,z3,z4,z5,ks,ch)=>ks.length=2/\(∀k∈ks,Fa k)/\ch.2.2.1.length=2/\ch.2.2.2.1.length=2/\(i=0\/i=1\/i=2)
def aM.L0.F:aM.L0.D->aM.L0.Y:=λ(p,i,z1,z2,z3,z4,z5,ks,ch)=>if i=0 then A4 1 ks (A4 0 ks ch) else if i=1 then A4 1 ks ch else ch
def aM.L1.aw:aM.L1.D->Prop:=λ(p,i,z1,z2,z3,z4,z5,ks,ch,s)=>ns ch/\uE s/\(∀o∈p.2.2.2.2.2.1,Vk o)/\p.2.2.2.2.2.1.length<=9223372036854775807/\∃k:Nat,k<=p.2.2.2.2.2.1.length/\i=k
def aM.L1.F:aM.L1.D->aM.L1.Y:=λ(p,i,z1,z2,z3,z4,z5,ks,ch,s)=>tn ch s i.toNat (p.2.2.2.2.2.1.drop i.toNat)
def aM.aw:aM.D->Prop:=λp=>Mn p
def aM.F:aM.D->aM.Y:=λp=>(tE p,tm p,Ib p)
def aM.G:fD:=gz (P:=Tryz.prog) [gB.sg,gZ.sg,aQ.sg,ig.sg,dX.sg,fL.sg]
def aM.L0.E:=cV.dp aM.L0.st aM.L0.aw aM.L0.add aM.L0.F aM.L0.out
def aM.L0.call:aM.L0.D->Option aM.L0.X:=eI aM.L0.E aM.L0.st
def aM.L1.E:=cV.dp aM.L1.st aM.L1.aw aM.L1.add aM.L1.F aM.L1.out
def aM.L1.call:aM.L1.D->Option aM.L1.X:=eI aM.L1.E aM.L1.st
def aM.an:fT:= {loops:=oF [(4,{bS:=[1,2,3,4,5,6,7],sites:=[2,3,4,5,6]}),(16,{bS:=[1,2,3,4,5,6,8,10],sites:=[2,3,4,5,6,8],Fo:=[⟨8,[.arr],mC⟩]})],outs:=oE [(4,{bS:=[1,2,3,4,5,6],sites:=[2,3,4,5,6]},{bS:=[2,3,4]}),(16,{bS:=[2,3,4,5,6,8],sites:=[2,3,4,5,6,8]},{bS:=[2,3,4]})],jw:=pL [(4,aM.L0.E),(16,aM.L1.E)]}
def aM.A:= @dq Tryz.prog aM.G aM.an 0 Tryz.f8 _ aM.st
abbrev aM.Ok:=dr @aM.A aM.aw aM.add aM.F aM.out
def aM.L0.R:= @dn Tryz.prog aM.G aM.an 0 Tryz.f8 0 _ aM.L0.st
abbrev aM.L0.Ok:=gw Tryz.prog aM.G aM.an 0 Tryz.f8 0 aM.L0.st aM.L0.aw aM.L0.add aM.L0.F aM.L0.out
def aM.L1.R:= @dn Tryz.prog aM.G aM.an 0 Tryz.f8 1 _ aM.L1.st
abbrev aM.L1.Ok:=gw Tryz.prog aM.G aM.an 0 Tryz.f8 1 aM.L1.st aM.L1.aw aM.L1.add aM.L1.F aM.L1.out
theorem aM.L0.run:cl aM.L0.call aM.L0.aw aM.L0.add aM.L0.F:=gT (gS [.d KL,.d ti,.d nb,.d (.slice rZ),.d ti,.d (.slice ti),.d (.pair ti .unit),.d (.slice rZ),.d nb] λ_=>by kernel_rfl)
theorem aM.L0.aI:jk @aM.L0.R aM.L0.st aM.L0.aw aM.L0.add aM.L0.F aM.L0.bV aM.L0.Ok:=jm
theorem aM.L0.step{R:Type}(QR:yk)(i:Int)(n2:iN)(n3:(List pI))(n4:Int)(nF:(List Int))(qL:(Int×Unit))(n5:(List pI))(n6:iN)(kn:AS->Option R)(kx:Exit->AS->Option R):aM.L0.R (QR,i,n2,n3,n4,nF,qL,n5,n6) kn kx=
  aJ ((jK i (2:Int))) (
   aJ (fp i (2:Int)) (
   aJ (decide ((Int.toNat i) < (List.length n5))) (
   aJ (decide ((((Int.toNat i)*37)+0)=(0+((Int.toNat i)*37)))) (
   aj (gZ.call (nth rZ n5 (Int.toNat i))) λx1=>
   aJ (fp i (2:Int)) (
   aJ (decide ((Int.toNat i) < (List.length n6.2.2.1))) (
   aJ (decide ((33+(1+(((Int.toNat i)*5)+0)))=(34+((Int.toNat i)*5)))) (
   aJ (decide ((Int.toNat i) < (List.length n6.2.2.1))) (
   aJ (fp i (2:Int)) (
   aJ (decide ((Int.toNat i) < (List.length n6.2.2.2.1))) (
   aJ (decide ((33+(1+(10+(((Int.toNat i)*6)+0))))=(44+((Int.toNat i)*6)))) (
   aJ (decide ((Int.toNat i) < (List.length n6.2.2.2.1))) (
   kn (aM.L0.st (QR,(bO .i64 i (1:Int)),n2,n3,n4,nF,qL,n5,(n6.1,(n6.2.1,((List.set n6.2.2.1 (Int.toNat i) x1),((List.set n6.2.2.2.1 (Int.toNat i) ((100:Int),((200:Int),((bO .i64 (5:Int) i),((16:Int),((1:Int),((1125899906842624:Int),()))))))),n6.2.2.2.2))))))) none) none) none) none) none) none) none) none) none) none) none) (
   kx (aM.L0.bV ((QR,n2,n3,n4,nF,qL,n5),n6)).1 (aM.L0.bV ((QR,n2,n3,n4,nF,qL,n5),n6)).2):=by kernel_rfl
theorem aM.L1.run:cl aM.L1.call aM.L1.aw aM.L1.add aM.L1.F:=gT (gS [.d KL,.d ti,.d nb,.d (.slice rZ),.d ti,.d (.slice ti),.d (.pair ti .unit),.d (.slice rZ),.d nb,.d mC] λ_=>by kernel_rfl)
theorem aM.L1.aI:jk @aM.L1.R aM.L1.st aM.L1.aw aM.L1.add aM.L1.F aM.L1.bV aM.L1.Ok:=jm
theorem aM.L1.step{R:Type}(Mw:yk)(jf:Int)(lS:iN)(CO:(List pI))(CP:Int)(CQ:(List Int))(CR:(Int×Unit))(s9:(List pI))(pU:iN)(n8:jl)(kn:AS->Option R)(kx:Exit->AS->Option R):aM.L1.R (Mw,jf,lS,CO,CP,CQ,CR,s9,pU,n8) kn kx=
  aJ ((jK jf (((List.length Mw.2.2.2.2.2.1):Nat):Int))) (
   aJ ((jK jf (20:Int))) (
    aJ (fp jf (((List.length Mw.2.2.2.2.2.1):Nat):Int)) (
    aj (ig.call (nth OQ Mw.2.2.2.2.2.1 (Int.toNat jf))) λx1=>
    aj (dX.call x1) λx2=>
    aj (fL.call (pU,n8,((eH .i64 (fU (nth OQ Mw.2.2.2.2.2.1 (Int.toNat jf)).1 (2:Int))),((bO .i64 jf (1:Int)),((bO .i64 (1:Int) (eH .i64 (nth OQ Mw.2.2.2.2.2.1 (Int.toNat jf)).2.1)),(x2,((bO .i64 (1:Int) (eH .i64 (nth OQ Mw.2.2.2.2.2.1 (Int.toNat jf)).2.2.1)),()))))))) λx3=>
    aJ ((nX x3.2 (0:Int))) (
     kn (aM.L1.st (Mw,(bO .i64 jf (1:Int)),lS,CO,CP,CQ,CR,s9,pU,x3.1))) (
     kn (aM.L1.st (Mw,(bO .i64 jf (1:Int)),lS,CO,CP,CQ,CR,s9,pU,n8)))) none) (
    kx (aM.L1.bV ((lS,CO,CP,CQ,CR,s9,pU),n8)).1 (aM.L1.bV ((lS,CO,CP,CQ,CR,s9,pU),n8)).2)) (
   kx (aM.L1.bV ((lS,CO,CP,CQ,CR,s9,pU),n8)).1 (aM.L1.bV ((lS,CO,CP,CQ,CR,s9,pU),n8)).2):=by kernel_rfl
theorem aM.eq{R:Type}(p:yk)(k:aZ->Option R):aM.A p k=
  aj (gB.call (nth tH p.1 0)) λx1=>
  aj (gB.call (nth tH p.1 1)) λx2=>
  aj (aM.L0.call (p,(0:Int),(((List.replicate 32 (0:Int)),((0:Int),())),((0:Int),((List.replicate 2 ((0:Int),((0:Int),((0:Int),((0:Int),((0:Int),())))))),((List.replicate 2 ((0:Int),((0:Int),((0:Int),((0:Int),((0:Int),((0:Int),()))))))),((0:Int),()))))),(List.replicate 2 ((0:Int),((0:Int),((0:Int),((0:Int),((0:Int),((List.replicate 32 (0:Int)),()))))))),(0:Int),(List.replicate 2 (0:Int)),((0:Int),()),[x1,x2],(((List.replicate 32 (0:Int)),((0:Int),())),((bO .i64 (20000:Int) (eH .i64 p.2.1)),((List.replicate 2 ((0:Int),((0:Int),((0:Int),((0:Int),((0:Int),())))))),((List.replicate 2 ((0:Int),((0:Int),((0:Int),((0:Int),((0:Int),((0:Int),()))))))),((eH .i64 (fU p.2.2.2.2.1 (2:Int))),()))))))) λx4=>
  aJ (lN (bO .i64 x4.2.2.1 (1:Int))) (
  aj (aQ.call (x4.2,((eH .i64 x4.1.1.2.2.2.2.2.2.1),([(fU (eH .i64 x4.1.1.2.2.1) (bO .i64 x4.2.2.1 (1:Int))),(cY .i64 x4.2.2.1 (fU (eH .i64 x4.1.1.2.2.1) (bO .i64 x4.2.2.1 (1:Int))))],(([]:List jj),((eH .i64 (fU x4.1.1.2.2.2.1 (8:Int))),())))))) λx5=>
  aJ ((!x5)) (
   aJ (fp x4.2.2.2.2.2.1 (2:Int)) (
   aJ (decide ((Int.toNat x4.2.2.2.2.2.1) < 2)) (
   aJ (decide ((1+(((Int.toNat x4.2.2.2.2.2.1)*1)+0))=(1+((Int.toNat x4.2.2.2.2.2.1)*1)))) (
   aJ (decide ((Int.toNat x4.2.2.2.2.2.1) < 2)) (
   aJ (fp (cY .i64 (1:Int) x4.2.2.2.2.2.1) (2:Int)) (
   aJ (decide ((Int.toNat (cY .i64 (1:Int) x4.2.2.2.2.2.1)) < (List.length (List.set [(fU (eH .i64 x4.1.1.2.2.1) (bO .i64 x4.2.2.1 (1:Int))),(cY .i64 x4.2.2.1 (fU (eH .i64 x4.1.1.2.2.1) (bO .i64 x4.2.2.1 (1:Int))))] (Int.toNat x4.2.2.2.2.2.1) x4.2.2.1)))) (
   aJ (decide ((1+(((Int.toNat (cY .i64 (1:Int) x4.2.2.2.2.2.1))*1)+0))=(1+((Int.toNat (cY .i64 (1:Int) x4.2.2.2.2.2.1))*1)))) (
   aJ (decide ((Int.toNat (cY .i64 (1:Int) x4.2.2.2.2.2.1)) < (List.length (List.set [(fU (eH .i64 x4.1.1.2.2.1) (bO .i64 x4.2.2.1 (1:Int))),(cY .i64 x4.2.2.1 (fU (eH .i64 x4.1.1.2.2.1) (bO .i64 x4.2.2.1 (1:Int))))] (Int.toNat x4.2.2.2.2.2.1) x4.2.2.1)))) (
   aj (aM.L1.call (x4.1.1,(0:Int),x4.1.2.1,x4.1.2.2.1,x4.1.2.2.2.1,x4.1.2.2.2.2.1,x4.1.2.2.2.2.2.1,x4.1.2.2.2.2.2.2,x4.2,((eH .i64 x4.1.1.2.2.2.2.2.2.1),((List.set (List.set [(fU (eH .i64 x4.1.1.2.2.1) (bO .i64 x4.2.2.1 (1:Int))),(cY .i64 x4.2.2.1 (fU (eH .i64 x4.1.1.2.2.1) (bO .i64 x4.2.2.1 (1:Int))))] (Int.toNat x4.2.2.2.2.2.1) x4.2.2.1) (Int.toNat (cY .i64 (1:Int) x4.2.2.2.2.2.1)) (0:Int)),(([]:List jj),((eH .i64 (fU x4.1.1.2.2.2.1 (8:Int))),())))))) λEc=>
   k (aM.out (Ec.1.2.2.2.2.2.2,Ec.1.2.2.2.2.2.1,Ec.2))) none) none) none) none) none) none) none) none) (
   aj (aM.L1.call (x4.1.1,(0:Int),x4.1.2.1,x4.1.2.2.1,x4.1.2.2.2.1,x4.1.2.2.2.2.1,x4.1.2.2.2.2.2.1,x4.1.2.2.2.2.2.2,x4.2,((eH .i64 x4.1.1.2.2.2.2.2.2.1),([(fU (eH .i64 x4.1.1.2.2.1) (bO .i64 x4.2.2.1 (1:Int))),(cY .i64 x4.2.2.1 (fU (eH .i64 x4.1.1.2.2.1) (bO .i64 x4.2.2.1 (1:Int))))],(([]:List jj),((eH .i64 (fU x4.1.1.2.2.2.1 (8:Int))),())))))) λP9=>
   k (aM.out (P9.1.2.2.2.2.2.2,P9.1.2.2.2.2.2.1,P9.2)))) none:=by kernel_rfl
theorem aM.L0.round{p:yk}{z1:iN}{z2:List pI}{z3:Int}{z4:List Int}{z5:Int×Unit}{ks:List pI}{ch:iN}(k:Nat)(hk:k < 2)(h1:ks.length=2)(h2:∀k∈ks,Fa k)(h3:ch.2.2.1.length=2)(h4:ch.2.2.2.1.length=2)
  {R:Type} (kn:AS->Option R) (kx:Exit->AS->Option R):aM.L0.R (p,(k:Int),z1,z2,z3,z4,z5,ks,ch) kn kx=kn (aM.L0.st (p,((k+1:Nat):Int),z1,z2,z3,z4,z5,ks,A4 k ks ch)):=by
 have hm:Fa (nth rZ ks k):=by
  rw[dP (t:=rZ) (by omega:k < ks.length)]
  exact h2 _ (List.getElem_mem _)
 have i1:k < ks.length:=by omega
 have i3:k < ch.2.2.1.length:=by omega
 have i5:k < ch.2.2.2.1.length:=by omega
 rw[aM.L0.step,bI (by omega),bF (by omega) (by omega),aa]
 rw[aO i1,aO (show k*37+0=0+k*37 by omega),aO i3,aO (show 33+(1+(k*5+0))=34+k*5 by omega),aO i5,aO (show 33+(1+(10+(k*6+0)))=44+k*6 by omega),N.pJ (by omega),gZ.run (d:=nth rZ ks k) hm]
 simp only[ah,ab,gZ.add,gZ.F]
 rw[ff (by omega) (by omega)]
 rfl
theorem wZ{k:Nat}{ks:List pI}{ch:iN}(h3:ch.2.2.1.length=2)(h4:ch.2.2.2.1.length=2):(A4 k ks ch).2.2.1.length=2/\(A4 k ks ch).2.2.2.1.length=2:=
 ⟨by show(List.set _ _ _).length=2;rw[ej];exact h3,by show(List.set _ _ _).length=2;rw[ej];exact h4⟩
theorem aM.L0.ok:aM.L0.Ok:=by
 refine aM.L0.aI (λ(_,i,_)=>(2 - i).toNat) ?_
 rintro⟨p,i,z1,z2,z3,z4,z5,ks,ch⟩ ⟨h1,h2,h3,h4,hi⟩
 rcases hi with rfl | rfl | rfl
 ·left
  refine⟨(p,1,z1,z2,z3,z4,z5,ks,A4 0 ks ch),⟨h1,h2,(wZ h3 h4).1,(wZ h3 h4).2,.inr (.inl rfl)⟩,by show(2 - (1:Int)).toNat < (2 - (0:Int)).toNat;decide,?_,λkn kx=>aM.L0.round 0 (by omega) h1 h2 h3 h4 kn kx⟩
  simp only[aM.L0.add,aM.L0.F]
  rfl
 ·left
  refine⟨(p,2,z1,z2,z3,z4,z5,ks,A4 1 ks ch),⟨h1,h2,(wZ h3 h4).1,(wZ h3 h4).2,.inr (.inr rfl)⟩,by show(2 - (2:Int)).toNat < (2 - (1:Int)).toNat;decide,?_,λkn kx=>aM.L0.round 1 (by omega) h1 h2 h3 h4 kn kx⟩
  simp only[aM.L0.add,aM.L0.F]
  rfl
 ·right
  intro R kn kx
  rw[aM.L0.step,bp (by omega),ai]
  simp only[aM.L0.add,aM.L0.F]
  rfl
theorem aM.L1.ok:aM.L1.Ok:=by
 refine aM.L1.aI (λ(p,i,_)=>p.2.2.2.2.2.1.length - i.toNat) ?_
 rintro⟨p,i,z1,z2,z3,z4,z5,ks,ch,s⟩ ⟨fI,hu,ho,hl,k,hk,rfl⟩
 have hk:k<=p.2.2.2.2.2.1.length:=hk
 have hl:p.2.2.2.2.2.1.length<=9223372036854775807:=hl
 have ho:∀o∈p.2.2.2.2.2.1,Vk o:=ho
 by_cases h:k < p.2.2.2.2.2.1.length
 ·have n1:nth OQ p.2.2.2.2.2.1 k=p.2.2.2.2.2.1[k]:=dP (t:=OQ) h
  have hd:p.2.2.2.2.2.1.drop k=p.2.2.2.2.2.1[k]::p.2.2.2.2.2.1.drop (k+1):=aA h
  by_cases SQ:k < 20
  ·left
   obtain⟨g1,g2,g3,g4⟩:=ho _ (List.getElem_mem h)
   refine⟨(p,((k+1:Nat):Int),z1,z2,z3,z4,z5,ks,ch,Dg ch s k p.2.2.2.2.2.1[k]),⟨fI,JB hu,ho,hl,k+1,by omega,rfl⟩,by simp only[aa];omega,?_,λkn kx=> ?_⟩
   ·simp only[aM.L1.add,aM.L1.F,aa,hd,tn,SQ,if_true]
   ·rw[aM.L1.step,bI (by omega),ah,bI (by omega),ah,bF (by omega) (by omega),ah,aa,n1,ig.run (d:=p.2.2.2.2.2.1[k]) g4]
    simp only[ab,ig.add,ig.F]
    have:=PZ (o:=p.2.2.2.2.2.1[k])
    rw[dX.run (d:=F3 p.2.2.2.2.2.1[k]) ⟨by omega,by omega⟩]
    simp only[ab,dX.add,dX.F]
    rw[kT g1.1,pb (by omega) (by omega),pb (by omega) (by omega),pb (by omega) (by omega),N.pJ (by omega),ff (by omega) (by omega),ff (by omega) (by omega)]
    rw[show(p.2.2.2.2.2.1[k].1%2,(((k+1:Nat):Int),(1+p.2.2.2.2.2.1[k].2.1,(fw (F3 p.2.2.2.2.2.1[k]),(1+p.2.2.2.2.2.1[k].2.2.1,())))))=Jl k p.2.2.2.2.2.1[k] from rfl]
    rw[fL.run (d:=(ch,s,Jl k p.2.2.2.2.2.1[k])) ⟨fI,hu,uK _⟩]
    simp only[ab,fL.add,fL.F,Dg]
    by_cases e:(Bc ch s (Jl k p.2.2.2.2.2.1[k])).2=0
    ·rw[iE e,ah,if_pos e]
    ·rw[fJ e,ai,if_neg e]
  ·right
   intro R kn kx
   rw[aM.L1.step,bI (by omega),ah,bp (by omega),ai]
   simp only[aM.L1.add,aM.L1.F,aa,hd,tn,SQ,if_false]
 ·right
  obtain rfl:k=p.2.2.2.2.2.1.length:=by omega
  intro R kn kx
  rw[aM.L1.step,bp (by omega),ai]
  simp only[aM.L1.add,aM.L1.F,aa,bH,tn]
theorem aM.ok:aM.Ok:=by
 rintro p hp
 have hp:Mn p:=hp
 have ha:=hp.DD
 have hw:=hp.own
 have ho:=hp.op
 have hr:=hp.bP
 have hn:=hp.no
 have fI:=GL hp
 have l1:∀(z1:iN) (z2:List pI) (z3:Int) (z4:List Int) (z5:Int×Unit) (s:jl),uE s->
   aM.L1.call (p,0,z1,z2,z3,z4,z5,tm p,tE p,s)=some ((z1,z2,z3,z4,z5,tm p,tE p),tn (tE p) s 0 p.2.2.2.2.2.1):=λz1 z2 z3 z4 z5 s hs=>
  aM.L1.run (d:=(p,0,z1,z2,z3,z4,z5,tm p,tE p,s)) ⟨fI,hs,hp.Wy,hp.room,0,bm _,rfl⟩
 have l0:∀(z1:iN) (z2:List pI) (z3:Int) (z4:List Int) (z5:Int×Unit),aM.L0.call (p,0,z1,z2,z3,z4,z5,tm p,((List.replicate 32 0,(0,())),(20000+p.2.1,(List.replicate 2 ((0:Int),((0:Int),((0:Int),((0:Int),((0:Int),()))))),(List.replicate 2 ((0:Int),((0:Int),((0:Int),((0:Int),((0:Int),((0:Int),())))))),(p.2.2.2.2.1%2,()))))))=some ((p,z1,z2,z3,z4,z5,tm p),tE p):=λz1 z2 z3 z4 z5=>
  aM.L0.run (d:=(p,0,z1,z2,z3,z4,z5,tm p,((List.replicate 32 0,(0,())),(20000+p.2.1,(List.replicate 2 ((0:Int),((0:Int),((0:Int),((0:Int),((0:Int),()))))),(List.replicate 2 ((0:Int),((0:Int),((0:Int),((0:Int),((0:Int),((0:Int),())))))),(p.2.2.2.2.1%2,()))))))) ⟨rfl,λk hk=>by
   rcases cH.1 hk with rfl | hk
   ·exact v9 _
   ·rw[aR]at hk
    subst hk
    exact v9 _,rfl,rfl,.inl rfl⟩
 rw[aM.eq,gB.run (d:=nth tH p.1 0) hp.s0]
 simp only[ab,gB.add,gB.F]
 rw[gB.run (d:=nth tH p.1 1) hp.s1]
 simp only[ab,gB.add,gB.F]
 rw[kT ho.1,pb (x:=p.2.1) (by omega) (by omega),pb (x:=p.2.2.2.2.1%2) (by omega) (by omega),ff (x:=20000) (by omega) (by omega)]
 refine(congrArg (λz=>aj z _) (l0 _ _ _ _ _)).trans ?_
 have e1:(tE p).2.1=20000+p.2.1:=rfl
 have e2:(tE p).2.2.2.2.1=p.2.2.2.2.1%2:=rfl
 have hm:0<=p.2.2.1%(20000+p.2.1+1)/\p.2.2.1%(20000+p.2.1+1) < 20000+p.2.1+1:=⟨kU _ (by omega),ky _ (by omega)⟩
 simp only[ab,e1,e2]
 rw[ff (x:=20000+p.2.1) (by omega) (by omega),kT hr.1,pb (x:=p.2.2.1) (by omega) (by omega),kT hw.1,pb (x:=p.2.2.2.2.2.2.1) (by omega) (by omega),pb (x:=p.2.2.2.1%8) (by omega) (by omega),gm (x:=20000+p.2.1) (by omega) (by omega),gm (x:=1) (by omega) (by omega)]
 rw[show lN (20000+p.2.1+1)=true by unfold lN;rw[cR (by omega)];rfl,ah]
 rw[show((p.2.2.2.2.2.2.1,([p.2.2.1%(20000+p.2.1+1),20000+p.2.1 - p.2.2.1%(20000+p.2.1+1)],(([]:List jj),(p.2.2.2.1%8,())))):jl)=Jv p (vo p) from rfl]
 rw[aQ.run (d:=(tE p,Jv p (vo p))) ⟨fI,Oh p _ rfl⟩]
 simp only[ab,aQ.add,aQ.F]
 rw[show [p.2.2.1%(20000+p.2.1+1),20000+p.2.1 - p.2.2.1%(20000+p.2.1+1)]=vo p from rfl]
 cases jV:ye (tE p) (Jv p (vo p))
 ·have e3:L7 p=Jv p (((vo p).set (p.2.2.2.2.1%2).toNat (20000+p.2.1)).set (1 - p.2.2.2.2.1%2).toNat 0):=by
   unfold L7
   rw[jV]
   rfl
  have i1:fp (p.2.2.2.2.1%2) 2=true:=bF (by omega) (by omega)
  have i2:(p.2.2.2.2.1%2).toNat < 2:=by omega
  have i3:1+((p.2.2.2.2.1%2).toNat*1+0)=1+(p.2.2.2.2.1%2).toNat*1:=by omega
  have j1:fp (1 - p.2.2.2.2.1%2) 2=true:=bF (by omega) (by omega)
  have j2:(1 - p.2.2.2.2.1%2).toNat < ((vo p).set (p.2.2.2.2.1%2).toNat (20000+p.2.1)).length:=by
   rw[ej];show _ < 2;omega
  have j3:1+((1 - p.2.2.2.2.1%2).toNat*1+0)=1+(1 - p.2.2.2.2.1%2).toNat*1:=by omega
  rw[gk]
  simp only[i1,aO i2,aO i3,j1,aO j2,aO j3,ah]
  have lm:=λz1 z2 z3 z4 z5=>l1 z1 z2 z3 z4 z5 (L7 p) (KE p)
  rw[e3]at lm
  refine(congrArg (λz=>aj z _) (lm _ _ _ _ _)).trans ?_
  simp only[ab,aM.add,aM.F,Ib,e3]
 ·have e3:L7 p=Jv p (vo p):=by
   unfold L7
   rw[jV]
   rfl
  rw[bY,ai]
  have lm:=λz1 z2 z3 z4 z5=>l1 z1 z2 z3 z4 z5 (L7 p) (KE p)
  rw[e3]at lm
  refine(congrArg (λz=>aj z _) (lm _ _ _ _ _)).trans ?_
  simp only[ab,aM.add,aM.F,Ib,e3]
def aM.E:=Entry.dp [some KL] aM.st aM.aw aM.add aM.F aM.out
def aM.call:aM.D->Option aM.X:=cj aM.E aM.st
theorem aM.run:cl aM.call aM.aw aM.add aM.F:=dw (du [.d KL] λ_=>by kernel_rfl)
def aM.sg:SG Tryz.prog:=⟨8,aP,aM.E,.fn 2 (by kernel_rfl) aM.ok (And.intro (.dp aM.L0.ok (by kernel_rfl)) (And.intro (.dp aM.L1.ok (by kernel_rfl)) trivial))⟩
end
end Go.Ab
end
