/-
  Made short by a program of mine (wip/tools/mini.py).
-/
import Derived.Test.YtlpebgkekjfhaaaGreatS25x4
import Derived.Test.YtlpebgkekjfhaaaGreatProg
import Derived.Shelf.SlSortCmp.NoneTotal
set_option linter.unusedVariables false
set_option linter.unusedSimpArgs false
set_option maxRecDepth 100000
set_option synthInstance.maxSize 5000
noncomputable section
namespace Go.Ab
open Go.Proofs
def rH(x:gz):Bool:=decide (x.2.1.2.1.length<=14)
def pZ(b:sN):Bool:=decide (b.1.length<=14)
def nE(o:j7):Bool:=decide (o.2.1.1.length<=6) && o.2.1.1.all pZ
def xm(t:gT):Bool:=decide (t.1.length<=66/\t.2.1.length<=66) && (t.1.all rH && t.2.1.all nE)
abbrev ai.L0.D:=gT×Int
def ai.L0.st:ai.L0.D->AS:=λ(lb,i)=>⟨([.undef,.ed iL lb,.undef,.d ti i]++bj 69 []),[],(List.replicate 73 [])⟩
abbrev ai.L0.Y0:=Unit
abbrev ai.L0.X0:=Unit
def ai.L0.dE:ai.L0.X0->Exit×AS:=λx=>(.ret,⟨([.undef,.undef,.d .bool false]++bj 70 []),[],(List.replicate 73 [])⟩)
abbrev ai.L0.Y1:=Unit
abbrev ai.L0.X1:=gT
def ai.L0.fQ:ai.L0.X1->Exit×AS:=λx=>(.exit 0,⟨([.undef,.ed iL x]++bj 71 []),[],(List.replicate 73 [])⟩)
abbrev ai.L0.X:=(ai.L0.X0)⊕(ai.L0.X1)
abbrev ai.L0.Y:=(ai.L0.Y0)⊕(ai.L0.Y1)
def ai.L0.out:ai.L0.X->Out (Exit×AS):=λx=> .br x.isLeft (.get x.getLeft? λa=> .ok (ai.L0.dE a)) (.get x.getRight? λb=> .ok (ai.L0.fQ b))
def ai.L0.add:ai.L0.D->ai.L0.Y->ai.L0.X:=λ(lb,i) y=>match y with | .inl y=> .inl y | .inr z=> .inr (lb)
abbrev ai.L1.D:=gT×Int
def ai.L1.st:ai.L1.D->AS:=λ(rN,fY)=>⟨([.undef,.ed iL rN,.undef,.undef,.d ti fY]++bj 68 []),[],(List.replicate 73 [])⟩
abbrev ai.L1.Y0:=Unit
abbrev ai.L1.X0:=Unit
def ai.L1.dE:ai.L1.X0->Exit×AS:=λx=>(.ret,⟨([.undef,.undef,.d .bool false]++bj 70 []),[],(List.replicate 73 [])⟩)
abbrev ai.L1.Y1:=Unit
abbrev ai.L1.X1:=Unit
def ai.L1.fQ:ai.L1.X1->Exit×AS:=λx=>(.exit 2,⟨(bj 73 []),[],(List.replicate 73 [])⟩)
abbrev ai.L1.X:=(ai.L1.X0)⊕(ai.L1.X1)
abbrev ai.L1.Y:=(ai.L1.Y0)⊕(ai.L1.Y1)
def ai.L1.out:ai.L1.X->Out (Exit×AS):=λx=> .br x.isLeft (.get x.getLeft? λa=> .ok (ai.L1.dE a)) (.get x.getRight? λb=> .ok (ai.L1.fQ b))
def ai.L1.add:ai.L1.D->ai.L1.Y->ai.L1.X:=λ(rN,fY) y=>match y with | .inl y=> .inl y | .inr z=> .inr (z)
abbrev ai.L2.D:=gT×Int×Int
def ai.L2.st:ai.L2.D->AS:=λ(tr,ph,kv)=>⟨([.undef,.ed iL tr,.undef,.undef,.d ti ph,.d ti kv]++bj 67 []),[],(List.replicate 73 [])⟩
abbrev ai.L2.Y0:=Unit
abbrev ai.L2.X0:=Unit
def ai.L2.dE:ai.L2.X0->Exit×AS:=λx=>(.ret,⟨([.undef,.undef,.d .bool false]++bj 70 []),[],(List.replicate 73 [])⟩)
abbrev ai.L2.Y1:=Unit
abbrev ai.L2.X1:=gT×Int
def ai.L2.fQ:ai.L2.X1->Exit×AS:=λx=>(.exit 4,⟨([.undef,.ed iL x.1,.undef,.undef,.d ti x.2]++bj 68 []),[],(List.replicate 73 [])⟩)
abbrev ai.L2.X:=(ai.L2.X0)⊕(ai.L2.X1)
abbrev ai.L2.Y:=(ai.L2.Y0)⊕(ai.L2.Y1)
def ai.L2.out:ai.L2.X->Out (Exit×AS):=λx=> .br x.isLeft (.get x.getLeft? λa=> .ok (ai.L2.dE a)) (.get x.getRight? λb=> .ok (ai.L2.fQ b))
def ai.L2.add:ai.L2.D->ai.L2.Y->ai.L2.X:=λ(tr,ph,kv) y=>match y with | .inl y=> .inl y | .inr z=> .inr ((tr,ph))
abbrev ai.D:=gT
abbrev ai.Y:=Bool
def ai.L0.aU:ai.L0.D->Prop:=λ(t,i)=>t.1.length<=1000000000/\∃k:Nat,k<=t.1.length/\i=k
def ai.L0.F:ai.L0.D->ai.L0.Y:=λ(t,i)=>if(List.drop (Int.toNat i) t.1).all rH then .inr () else .inl ()
def ai.L2.aU:ai.L2.D->Prop:=λ(t,j,i)=>(nth iR t.2.1 (Int.toNat j)).2.1.1.length<=1000000000/\∃k:Nat,k<=(nth iR t.2.1 (Int.toNat j)).2.1.1.length/\i=k/\(0<=j/\j < (t.2.1.length:Int))
def ai.L2.F:ai.L2.D->ai.L2.Y:=λ(t,j,i)=>if(List.drop (Int.toNat i) (nth iR t.2.1 (Int.toNat j)).2.1.1).all pZ then .inr () else .inl ()
def ai.L1.aU:ai.L1.D->Prop:=λ(t,i)=>t.2.1.length<=1000000000/\∃k:Nat,k<=t.2.1.length/\i=k
def ai.L1.F:ai.L1.D->ai.L1.Y:=λ(t,i)=>if(List.drop (Int.toNat i) t.2.1).all nE then .inr () else .inl ()
def ai.aU:ai.D->Prop:=λ_=>True
def ai.F:ai.D->ai.Y:=λt=>xm t
def ai.L0.E:=eO.hZ ai.L0.st ai.L0.aU ai.L0.add ai.L0.F ai.L0.out
def ai.L0.call:ai.L0.D->Option ai.L0.X:=jH ai.L0.E ai.L0.st
def ai.L1.E:=eO.hZ ai.L1.st ai.L1.aU ai.L1.add ai.L1.F ai.L1.out
def ai.L1.call:ai.L1.D->Option ai.L1.X:=jH ai.L1.E ai.L1.st
def ai.L2.E:=eO.hZ ai.L2.st ai.L2.aU ai.L2.add ai.L2.F ai.L2.out
def ai.L2.call:ai.L2.D->Option ai.L2.X:=jH ai.L2.E ai.L2.st
def ai:Fs Tryz.prog ai.aU bE ai.F:=fK 49 Tryz.f49 (λt=>([.d iL t],[])) (λx=>⟨.d .bool x,[],[]⟩) [some iL] [] {loops:=oM [(4,{bm:=[1,3]}),(9,{bm:=[1,4]}),(14,{bm:=[1,4,5]})],outs:=oL [(4,{bm:=[1]},{bm:=[2]}),(9,{},{bm:=[2]}),(14,{bm:=[1,4]},{bm:=[2]})],iA:=pq [(4,ai.L0.E),(9,ai.L1.E),(14,ai.L2.E)]}
def ai.L0.R:= @gL Tryz.prog (lN ai.G) ai.an 0 Tryz.f49 0 _ ai.L0.st
abbrev ai.L0.Ok:=nh Tryz.prog (lN ai.G) ai.an 0 Tryz.f49 0 ai.L0.st ai.L0.aU ai.L0.add ai.L0.F ai.L0.out
def ai.L1.R:= @gL Tryz.prog (lN ai.G) ai.an 0 Tryz.f49 1 _ ai.L1.st
abbrev ai.L1.Ok:=nh Tryz.prog (lN ai.G) ai.an 0 Tryz.f49 1 ai.L1.st ai.L1.aU ai.L1.add ai.L1.F ai.L1.out
def ai.L2.R:= @gL Tryz.prog (lN ai.G) ai.an 0 Tryz.f49 2 _ ai.L2.st
abbrev ai.L2.Ok:=nh Tryz.prog (lN ai.G) ai.an 0 Tryz.f49 2 ai.L2.st ai.L2.aU ai.L2.add ai.L2.F ai.L2.out
theorem ai.L0.run:mq ai.L0.call ai.L0.aU ai.L0.add ai.L0.F:=oo (oa [.d iL,.d ti] λ_=>by kernel_rfl)
theorem ai.L0.cM:nM @ai.L0.R ai.L0.st ai.L0.aU ai.L0.add ai.L0.F ai.L0.out ai.L0.Ok:=oF
theorem ai.L0.step{R:Type}(lb:gT)(i:Int)(kn:AS->Option R)(kx:Exit->AS->Option R):ai.L0.R (lb,i) kn kx=
  aJ ((ik i (((List.length lb.1):Nat):Int))) (
   aJ (eY i (((List.length lb.1):Nat):Int)) (
   aJ ((nc (((List.length (nth gX lb.1 (Int.toNat i)).2.1.2.1):Nat):Int) (14:Int))) (
    kx (ai.L0.dE ()).1 (ai.L0.dE ()).2) (
    kn (ai.L0.st (lb,(bt .i64 i (1:Int)))))) none) (
   kx (ai.L0.fQ lb).1 (ai.L0.fQ lb).2):=by kernel_rfl
theorem ai.L1.run:mq ai.L1.call ai.L1.aU ai.L1.add ai.L1.F:=oo (oa [.d iL,.d ti] λ_=>by kernel_rfl)
theorem ai.L1.cM:nM @ai.L1.R ai.L1.st ai.L1.aU ai.L1.add ai.L1.F ai.L1.out ai.L1.Ok:=oF
theorem ai.L1.step{R:Type}(rN:gT)(fY:Int)(kn:AS->Option R)(kx:Exit->AS->Option R):ai.L1.R (rN,fY) kn kx=
  aJ ((ik fY (((List.length rN.2.1):Nat):Int))) (
   aJ (eY fY (((List.length rN.2.1):Nat):Int)) (
   aJ ((nc (((List.length (nth iR rN.2.1 (Int.toNat fY)).2.1.1):Nat):Int) (6:Int))) (
    kx (ai.L1.dE ()).1 (ai.L1.dE ()).2) (
    av (ai.L2.call (rN,fY,(0:Int))) λx1=>
    aJ (x1.isLeft) (
     av (x1.getLeft?) λa2=>
     kx (ai.L1.dE ()).1 (ai.L1.dE ()).2) (
     av (x1.getRight?) λb3=>
     kn (ai.L1.st (b3.1,(bt .i64 b3.2 (1:Int))))))) none) (
   kx (ai.L1.fQ ()).1 (ai.L1.fQ ()).2):=by kernel_rfl
theorem ai.L2.run:mq ai.L2.call ai.L2.aU ai.L2.add ai.L2.F:=oo (oa [.d iL,.d ti,.d ti] λ_=>by kernel_rfl)
theorem ai.L2.cM:nM @ai.L2.R ai.L2.st ai.L2.aU ai.L2.add ai.L2.F ai.L2.out ai.L2.Ok:=oF
theorem ai.L2.step{R:Type}(tr:gT)(ph:Int)(kv:Int)(kn:AS->Option R)(kx:Exit->AS->Option R):ai.L2.R (tr,ph,kv) kn kx=
  aJ (eY ph (((List.length tr.2.1):Nat):Int)) (
  aJ ((ik kv (((List.length (nth iR tr.2.1 (Int.toNat ph)).2.1.1):Nat):Int))) (
   aJ (eY ph (((List.length tr.2.1):Nat):Int)) (
   aJ (eY kv (((List.length (nth iR tr.2.1 (Int.toNat ph)).2.1.1):Nat):Int)) (
   aJ ((nc (((List.length (nth kK (nth iR tr.2.1 (Int.toNat ph)).2.1.1 (Int.toNat kv)).1):Nat):Int) (14:Int))) (
    kx (ai.L2.dE ()).1 (ai.L2.dE ()).2) (
    kn (ai.L2.st (tr,ph,(bt .i64 kv (1:Int)))))) none) none) (
   kx (ai.L2.fQ (tr,ph)).1 (ai.L2.fQ (tr,ph)).2)) none:=by kernel_rfl
theorem ai.eq{R:Type}(t)(k:K1 R):ai.A t k=
  aJ ((nc (t.1.length:Int) 66)) (
   k (ai.out false)) (
   aJ ((nc (t.2.1.length:Int) 66)) (
    k (ai.out false)) (
    av (ai.L0.call (t,0)) λx1=>
    aJ (x1.isLeft) (
     av (x1.getLeft?) λa2=>
     k (ai.out false)) (
     av (x1.getRight?) λb3=>
     av (ai.L1.call (b3,0)) λx7=>
     aJ (x7.isLeft) (
      av (x7.getLeft?) λa8=>
      k (ai.out false)) (
      av (x7.getRight?) λb9=>
      k (ai.out true))))):=by kernel_rfl
theorem ai.L0.ok:ai.L0.Ok:=by
 refine ai.L0.cM (λ(t,i)=>t.1.length - Int.toNat i) ?_
 rintro⟨t,i⟩ ⟨hlen,k,hk,rfl⟩
 have hlen:t.1.length<=1000000000:=hlen
 have hk:k<=t.1.length:=hk
 by_cases h:k < t.1.length
 ·have n1:nth gX t.1 k=t.1[k]:=dg (t:=gX) h
  have hd:(List.drop k t.1).all rH=(rH t.1[k] && (List.drop (k+1) t.1).all rH):=by rw[aq h,ff]
  have step:∀ {R:Type} (kn:AS->Option R) (kx:Exit->AS->Option R),ai.L0.R (t,(k:Int)) kn kx=aJ (rH t.1[k]) (kn (ai.L0.st (t,((k+1:Nat):Int)))) (kx (ai.L0.dE ()).1 (ai.L0.dE ()).2):=by
   intro R kn kx
   rw[ai.L0.step,bh (by omega),bp (show(0:Int)<=(k:Int) by omega) (by omega),aa,n1]
   simp only[ae]
   rw[N.pk (by omega)]
   unfold rH
   by_cases hs:t.1[k].2.1.2.1.length<=14
   ·rw[cj (by omega),aP hs];rfl
   ·rw[cX (by omega),bf hs];rfl
  cases hp:rH t.1[k]
  ·right
   refine⟨ai.L0.dE (),?_,λkn kx=> ?_⟩
   ·simp only[ai.L0.add,ai.L0.F,aa,hd,hp,dF,bJ,if_false]
    rfl
   ·rw[step,hp,ah]
  ·left
   refine⟨(t,((k+1:Nat):Int)),⟨hlen,k+1,by omega,rfl⟩,by simp only[aa];omega,?_,λkn kx=> ?_⟩
   ·simp only[ai.L0.add,ai.L0.F,aa,hd,hp,bO]
   ·rw[step,hp,ae]
 ·right
  obtain rfl:k=t.1.length:=by omega
  refine⟨ai.L0.fQ t,?_,λkn kx=> ?_⟩
  ·simp only[ai.L0.add,ai.L0.F,aa,aQ]
   rfl
  ·rw[ai.L0.step,aR (by omega),ah]
theorem ai.L2.ok:ai.L2.Ok:=by
 refine ai.L2.cM (λ(t,j,i)=>(nth iR t.2.1 (Int.toNat j)).2.1.1.length - Int.toNat i) ?_
 rintro⟨t,j,i⟩ ⟨hlen,k,hk,rfl,hj⟩
 have hlen:(nth iR t.2.1 (Int.toNat j)).2.1.1.length<=1000000000:=hlen
 have hk:k<=(nth iR t.2.1 (Int.toNat j)).2.1.1.length:=hk
 have hj:0<=j/\j < (t.2.1.length:Int):=hj
 by_cases h:k < (nth iR t.2.1 (Int.toNat j)).2.1.1.length
 ·have n1:nth kK (nth iR t.2.1 (Int.toNat j)).2.1.1 k=(nth iR t.2.1 (Int.toNat j)).2.1.1[k]:=dg (t:=kK) h
  have hd:(List.drop k (nth iR t.2.1 (Int.toNat j)).2.1.1).all pZ=(pZ (nth iR t.2.1 (Int.toNat j)).2.1.1[k] && (List.drop (k+1) (nth iR t.2.1 (Int.toNat j)).2.1.1).all pZ):=by rw[aq h,ff]
  have step:∀ {R:Type} (kn:AS->Option R) (kx:Exit->AS->Option R),ai.L2.R (t,j,(k:Int)) kn kx=aJ (pZ (nth iR t.2.1 (Int.toNat j)).2.1.1[k]) (kn (ai.L2.st (t,j,((k+1:Nat):Int)))) (kx (ai.L2.dE ()).1 (ai.L2.dE ()).2):=by
   intro R kn kx
   rw[ai.L2.step,bp hj.1 hj.2,ae,bh (by omega),bp (show(0:Int)<=(k:Int) by omega) (by omega),aa,n1]
   simp only[ae]
   rw[N.pk (by omega)]
   unfold pZ
   by_cases hs:(nth iR t.2.1 (Int.toNat j)).2.1.1[k].1.length<=14
   ·rw[cj (by omega),aP hs];rfl
   ·rw[cX (by omega),bf hs];rfl
  cases hp:pZ (nth iR t.2.1 (Int.toNat j)).2.1.1[k]
  ·right
   refine⟨ai.L2.dE (),?_,λkn kx=> ?_⟩
   ·simp only[ai.L2.add,ai.L2.F,aa,hd,hp,dF,bJ,if_false]
    rfl
   ·rw[step,hp,ah]
  ·left
   refine⟨(t,j,((k+1:Nat):Int)),⟨hlen,k+1,by omega,rfl,hj⟩,by simp only[aa];omega,?_,λkn kx=> ?_⟩
   ·simp only[ai.L2.add,ai.L2.F,aa,hd,hp,bO]
   ·rw[step,hp,ae]
 ·right
  obtain rfl:k=(nth iR t.2.1 (Int.toNat j)).2.1.1.length:=by omega
  refine⟨ai.L2.fQ (t,j),?_,λkn kx=> ?_⟩
  ·simp only[ai.L2.add,ai.L2.F,aa,aQ]
   rfl
  ·rw[ai.L2.step,bp hj.1 hj.2,ae,aR (by omega),ah]
theorem ai.L1.ok:ai.L1.Ok:=by
 refine ai.L1.cM (λ(t,i)=>t.2.1.length - Int.toNat i) ?_
 rintro⟨t,i⟩ ⟨hlen,k,hk,rfl⟩
 have hlen:t.2.1.length<=1000000000:=hlen
 have hk:k<=t.2.1.length:=hk
 by_cases h:k < t.2.1.length
 ·have n1:nth iR t.2.1 k=t.2.1[k]:=dg (t:=iR) h
  have hd:(List.drop k t.2.1).all nE=(nE t.2.1[k] && (List.drop (k+1) t.2.1).all nE):=by rw[aq h,ff]
  have step:∀ {R:Type} (kn:AS->Option R) (kx:Exit->AS->Option R),ai.L1.R (t,(k:Int)) kn kx=aJ (nE t.2.1[k]) (kn (ai.L1.st (t,((k+1:Nat):Int)))) (kx (ai.L1.dE ()).1 (ai.L1.dE ()).2):=by
   intro R kn kx
   rw[ai.L1.step,bh (by omega),bp (show(0:Int)<=(k:Int) by omega) (by omega),aa,n1]
   simp only[ae]
   unfold nE
   by_cases hs:t.2.1[k].2.1.1.length<=6
   ·rw[cj (by omega),aP hs,ah,ai.L2.run (d:=(t,(k:Int),0)) ⟨by rw[aa,n1];show t.2.1[k].2.1.1.length<=_;omega,0,aV _,rfl,by show(0:Int)<=(k:Int);omega,by show(k:Int) < (t.2.1.length:Int);omega⟩]
    simp only[ab,ai.L2.add,ai.L2.F,aa,n1,bH,aI,bO]
    cases t.2.1[k].2.1.1.all pZ
    ·rfl
    ·simp only[if_true,gg,fe,ah,ab,ae]
     rw[N.pk (by omega)]
   ·rw[cX (by omega),bf hs];rfl
  cases hp:nE t.2.1[k]
  ·right
   refine⟨ai.L1.dE (),?_,λkn kx=> ?_⟩
   ·simp only[ai.L1.add,ai.L1.F,aa,hd,hp,dF,bJ,if_false]
    rfl
   ·rw[step,hp,ah]
  ·left
   refine⟨(t,((k+1:Nat):Int)),⟨hlen,k+1,by omega,rfl⟩,by simp only[aa];omega,?_,λkn kx=> ?_⟩
   ·simp only[ai.L1.add,ai.L1.F,aa,hd,hp,bO]
   ·rw[step,hp,ae]
 ·right
  obtain rfl:k=t.2.1.length:=by omega
  refine⟨ai.L1.fQ (),?_,λkn kx=> ?_⟩
  ·simp only[ai.L1.add,ai.L1.F,aa,aQ]
   rfl
  ·rw[ai.L1.step,aR (by omega),ah]
theorem ai.ok:ai.Ok:=by
 intro t _
 rw[ai.eq]
 simp only[bE,ai.F,xm]
 by_cases h1:t.1.length<=66
 ·by_cases h2:t.2.1.length<=66
  ·rw[cj (by omega),cj (by omega),ah,ah,aP ⟨h1,h2⟩,ai.L0.run (d:=(t,0)) ⟨by show t.1.length<=_;omega,0,aV _,rfl⟩]
   simp only[ab,ai.L0.add,ai.L0.F,bH,aI,bO]
   cases t.1.all rH
   ·rfl
   ·simp only[if_true,gg,fe,ah,ab,bO]
    rw[ai.L1.run (d:=(t,0)) ⟨by show t.2.1.length<=_;omega,0,aV _,rfl⟩]
    simp only[ab,ai.L1.add,ai.L1.F,bH,aI]
    cases t.2.1.all nE <;> rfl
  ·rw[cj (by omega),cX (by omega),bf (λx=>h2 x.2)];rfl
 ·rw[cX (by omega),bf (λx=>h1 x.1)];rfl
theorem ai.run:ai.RS:=rE [.d iL] ai
def ai.sg:=ai.fS ai.ok 3 ⟨.hZ ai.L0.ok,⟨.hZ ai.L1.ok,⟨.hZ ai.L2.ok,trivial⟩⟩⟩
abbrev bK.L0.D:=Az×Az×Int
def bK.L0.st:bK.L0.D->AS:=λ(mM,iI,i)=>⟨([.undef,.undef,.ed EZ mM,.ed EZ iI,.undef,.d ti i]++bj 39 []),[],(List.replicate 45 [])⟩
abbrev bK.L0.Y0:=Unit
abbrev bK.L0.X0:=Unit
def bK.L0.dE:bK.L0.X0->Exit×AS:=λx=>(.ret,⟨(bj 4 ([.d .bool false]++bj 40 [])),[],(List.replicate 45 [])⟩)
abbrev bK.L0.Y1:=Unit
abbrev bK.L0.X1:=Unit
def bK.L0.fQ:bK.L0.X1->Exit×AS:=λx=>(.exit 0,⟨(bj 45 []),[],(List.replicate 45 [])⟩)
abbrev bK.L0.X:=(bK.L0.X0)⊕(bK.L0.X1)
abbrev bK.L0.Y:=(bK.L0.Y0)⊕(bK.L0.Y1)
def bK.L0.out:bK.L0.X->Out (Exit×AS):=λx=> .br x.isLeft (.get x.getLeft? λa=> .ok (bK.L0.dE a)) (.get x.getRight? λb=> .ok (bK.L0.fQ b))
def bK.L0.add:bK.L0.D->bK.L0.Y->bK.L0.X:=λ(mM,iI,i) y=>match y with | .inl y=> .inl y | .inr z=> .inr (z)
abbrev bK.D:=Az×Az
abbrev bK.Y:=Bool
def bK.L0.aU:bK.L0.D->Prop:=λ(a,b,i)=>a.2.1.length<=1000000000/\a.2.1.length=b.2.1.length/\∃k:Nat,k<=a.2.1.length/\i=k
def bK.L0.F:bK.L0.D->bK.L0.Y:=λ(a,b,i)=>if List.drop (Int.toNat i) a.2.1=List.drop (Int.toNat i) b.2.1 then .inr () else .inl ()
def bK.aU:bK.D->Prop:=λ(a,b)=>a.2.1.length<=1000000000
def bK.F:bK.D->bK.Y:=λ(a,b)=>decide (a=b)
def bK.L0.E:=eO.hZ bK.L0.st bK.L0.aU bK.L0.add bK.L0.F bK.L0.out
def bK.L0.call:bK.L0.D->Option bK.L0.X:=jH bK.L0.E bK.L0.st
def bK:Fs Tryz.prog bK.aU bE bK.F:=fK 120 Tryz.f120 (λ(a,b)=>([.d EZ a,.d EZ b],[])) (λx=>⟨.d .bool x,[],[]⟩) [some EZ,some EZ] [] {loops:=oM [(4,{bm:=[2,3,5]})],outs:=oL [(4,{},{bm:=[4]})],iA:=pq [(4,bK.L0.E)]}
def bK.L0.R:= @gL Tryz.prog (lN bK.G) bK.an 0 Tryz.f120 0 _ bK.L0.st
abbrev bK.L0.Ok:=nh Tryz.prog (lN bK.G) bK.an 0 Tryz.f120 0 bK.L0.st bK.L0.aU bK.L0.add bK.L0.F bK.L0.out
theorem bK.L0.run:mq bK.L0.call bK.L0.aU bK.L0.add bK.L0.F:=oo (oa [.d EZ,.d EZ,.d ti] λ_=>by kernel_rfl)
theorem bK.L0.cM:nM @bK.L0.R bK.L0.st bK.L0.aU bK.L0.add bK.L0.F bK.L0.out bK.L0.Ok:=oF
theorem bK.L0.step{R:Type}(mM:Az)(iI:Az)(i:Int)(kn:AS->Option R)(kx:Exit->AS->Option R):bK.L0.R (mM,iI,i) kn kx=
  aJ ((ik i (((List.length mM.2.1):Nat):Int))) (
   aJ (eY i (((List.length mM.2.1):Nat):Int)) (
   aJ (eY i (((List.length iI.2.1):Nat):Int)) (
   aJ ((!(Ty.beq zy (nth zy mM.2.1 (Int.toNat i)) (nth zy iI.2.1 (Int.toNat i))))) (
    kx (bK.L0.dE ()).1 (bK.L0.dE ()).2) (
    kn (bK.L0.st (mM,iI,(bt .i64 i (1:Int)))))) none) none) (
   kx (bK.L0.fQ ()).1 (bK.L0.fQ ()).2):=by kernel_rfl
theorem bK.eq{R:Type}(a b)(k:K1 R):bK.A (a,b) k=
  aJ ((sR a.1 b.1)) (
   k (bK.out false)) (
   aJ ((sR a.2.2.1 b.2.2.1)) (
    k (bK.out false)) (
    aJ ((sR (a.2.1.length:Int) (b.2.1.length:Int))) (
     k (bK.out false)) (
     av (bK.L0.call (a,b,0)) λx1=>
     aJ (x1.isLeft) (
      av (x1.getLeft?) λa2=>
      k (bK.out false)) (
      av (x1.getRight?) λb3=>
      k (bK.out true))))):=by kernel_rfl
theorem bK.L0.ok:bK.L0.Ok:=by
 refine bK.L0.cM (λ(a,b,i)=>a.2.1.length - Int.toNat i) ?_
 rintro⟨a,b,i⟩ ⟨hlen,yH,k,hk,rfl⟩
 have hlen:a.2.1.length<=1000000000:=hlen
 have yH:a.2.1.length=b.2.1.length:=yH
 have hk:k<=a.2.1.length:=hk
 by_cases h:k < a.2.1.length
 ·have h2:k < b.2.1.length:=by omega
  have n1:nth zy a.2.1 k=a.2.1[k]:=dg (t:=zy) h
  have n2:nth zy b.2.1 k=b.2.1[k]:=dg (t:=zy) h2
  have hd:(List.drop k a.2.1=List.drop k b.2.1)=(a.2.1[k]=b.2.1[k]/\List.drop (k+1) a.2.1=List.drop (k+1) b.2.1):=by rw[aq h,aq h2,dC]
  have step:∀ {R:Type} (kn:AS->Option R) (kx:Exit->AS->Option R),bK.L0.R (a,b,(k:Int)) kn kx=if a.2.1[k]=b.2.1[k] then kn (bK.L0.st (a,b,((k+1:Nat):Int))) else kx (bK.L0.dE ()).1 (bK.L0.dE ()).2:=by
   intro R kn kx
   rw[bK.L0.step,bh (by omega),bp (by omega) (by omega),bp (by omega) (by omega),aa,n1,n2]
   simp only[ae]
   rw[O8,N.pk (by omega)]
   by_cases hx:a.2.1[k]=b.2.1[k]
   ·rw[aP hx,if_pos hx];rfl
   ·rw[bf hx,if_neg hx];rfl
  by_cases hx:a.2.1[k]=b.2.1[k]
  ·left
   refine⟨(a,b,((k+1:Nat):Int)),⟨hlen,yH,k+1,by omega,rfl⟩,by simp only[aa];omega,?_,λkn kx=> ?_⟩
   ·simp only[bK.L0.add,bK.L0.F,aa,hd,hx,true_and]
   ·rw[step,if_pos hx]
  ·right
   refine⟨bK.L0.dE (),?_,λkn kx=> ?_⟩
   ·simp only[bK.L0.add,bK.L0.F,aa,hd,hx,false_and,if_false]
    rfl
   ·rw[step,if_neg hx]
 ·right
  obtain rfl:k=a.2.1.length:=by omega
  refine⟨bK.L0.fQ (),?_,λkn kx=> ?_⟩
  ·simp only[bK.L0.add,bK.L0.F,aa,aQ]
   rw[yH,aQ,if_pos rfl]
   rfl
  ·rw[bK.L0.step,aR (by omega),ah]
theorem bK.ok:bK.Ok:=by
 rintro⟨⟨b1,s1,c1,u1⟩,⟨b2,s2,c2,u2⟩⟩ h
 have h:s1.length<=1000000000:=h
 rw[bK.eq]
 simp only[bE,bK.F]
 by_cases e1:b1=b2
 ·by_cases e2:c1=c2
  ·by_cases e3:s1.length=s2.length
   ·rw[cS e1,cS e2,cS (by omega),bK.L0.run (d:=((b1,s1,c1,u1),(b2,s2,c2,u2),0)) ⟨h,e3,0,aV _,rfl⟩]
    simp only[ab,bK.L0.add,bK.L0.F,bH,aI,ah]
    by_cases e4:s1=s2
    ·rw[if_pos e4,aP (by rw[e1,e2,e4])];rfl
    ·rw[if_neg e4,bf (by rintro⟨⟩;exact e4 rfl)];rfl
   ·rw[cS e1,cS e2,eI (by omega),bf (by rintro⟨⟩;exact e3 rfl)];rfl
  ·rw[cS e1,eI e2,bf (by rintro⟨⟩;exact e2 rfl)];rfl
 ·rw[eI e1,bf (by rintro⟨⟩;exact e1 rfl)];rfl
theorem bK.run:bK.RS:=rE [.d EZ,.d EZ] bK
def bK.sg:=bK.fS bK.ok 1 ⟨.hZ bK.L0.ok,trivial⟩
abbrev aA.L0.D:=Lk×Lk×Int
def aA.L0.st:aA.L0.D->AS:=λ(mM,iI,i)=>⟨([.undef,.undef,.ed mK mM,.ed mK iI,.undef,.d ti i]++bj 73 []),[],(List.replicate 79 [])⟩
abbrev aA.L0.Y0:=Unit
abbrev aA.L0.X0:=Unit
def aA.L0.dE:aA.L0.X0->Exit×AS:=λx=>(.ret,⟨(bj 4 ([.d .bool false]++bj 74 [])),[],(List.replicate 79 [])⟩)
abbrev aA.L0.Y1:=Unit
abbrev aA.L0.X1:=Unit
def aA.L0.fQ:aA.L0.X1->Exit×AS:=λx=>(.exit 0,⟨(bj 79 []),[],(List.replicate 79 [])⟩)
abbrev aA.L0.X:=(aA.L0.X0)⊕(aA.L0.X1)
abbrev aA.L0.Y:=(aA.L0.Y0)⊕(aA.L0.Y1)
def aA.L0.out:aA.L0.X->Out (Exit×AS):=λx=> .br x.isLeft (.get x.getLeft? λa=> .ok (aA.L0.dE a)) (.get x.getRight? λb=> .ok (aA.L0.fQ b))
def aA.L0.add:aA.L0.D->aA.L0.Y->aA.L0.X:=λ(mM,iI,i) y=>match y with | .inl y=> .inl y | .inr z=> .inr (z)
abbrev aA.L1.D:=Lk×Lk×Int×Int×sN×sN
def aA.L1.st:aA.L1.D->AS:=λ(Eb,xB,fY,kv,n6,n7)=>⟨([.undef,.undef,.ed mK Eb,.ed mK xB,.undef,.d ti fY,.ptr (.new 6 0) 0 [] 0,.ptr (.new 7 0) 0 [] 0,.d ti kv]++bj 70 []),[],(cg 6 ([[.obj 0 false (.d kK n6)],[.obj 0 false (.d kK n7)]]++cg 71 []))⟩
abbrev aA.L1.Y0:=Unit
abbrev aA.L1.X0:=Unit
def aA.L1.dE:aA.L1.X0->Exit×AS:=λx=>(.ret,⟨(bj 4 ([.d .bool false]++bj 74 [])),[],(List.replicate 79 [])⟩)
abbrev aA.L1.Y1:=Unit
abbrev aA.L1.X1:=Lk×Lk×Int
def aA.L1.fQ:aA.L1.X1->Exit×AS:=λx=>(.exit 2,⟨([.undef,.undef,.ed mK x.1,.ed mK x.2.1,.undef,.d ti x.2.2]++bj 73 []),[],(List.replicate 79 [])⟩)
abbrev aA.L1.X:=(aA.L1.X0)⊕(aA.L1.X1)
abbrev aA.L1.Y:=(aA.L1.Y0)⊕(aA.L1.Y1)
def aA.L1.out:aA.L1.X->Out (Exit×AS):=λx=> .br x.isLeft (.get x.getLeft? λa=> .ok (aA.L1.dE a)) (.get x.getRight? λb=> .ok (aA.L1.fQ b))
def aA.L1.add:aA.L1.D->aA.L1.Y->aA.L1.X:=λ(Eb,xB,fY,kv,n6,n7) y=>match y with | .inl y=> .inl y | .inr z=> .inr ((Eb,xB,fY))
abbrev aA.D:=Lk×Lk
abbrev aA.Y:=Bool
def aA.L1.aU:aA.L1.D->Prop:=λ(a,b,j,i,x,y)=>x.1.length<=1000000000/\x.1.length=y.1.length/\∃k:Nat,k<=x.1.length/\i=k
def aA.L1.F:aA.L1.D->aA.L1.Y:=λ(a,b,j,i,x,y)=>if List.drop (Int.toNat i) x.1=List.drop (Int.toNat i) y.1 then .inr () else .inl ()
def aA.L0.aU:aA.L0.D->Prop:=λ(a,b,i)=>a.1.length<=1000000000/\a.1.length=b.1.length/\(∀x∈a.1,x.1.length<=1000000000)/\∃k:Nat,k<=a.1.length/\i=k
def aA.L0.F:aA.L0.D->aA.L0.Y:=λ(a,b,i)=>if List.drop (Int.toNat i) a.1=List.drop (Int.toNat i) b.1 then .inr () else .inl ()
def aA.aU:aA.D->Prop:=λ(a,b)=>a.1.length<=1000000000/\∀x∈a.1,x.1.length<=1000000000
def aA.F:aA.D->aA.Y:=λ(a,b)=>decide (a.1=b.1)
def aA.L0.E:=eO.hZ aA.L0.st aA.L0.aU aA.L0.add aA.L0.F aA.L0.out
def aA.L0.call:aA.L0.D->Option aA.L0.X:=jH aA.L0.E aA.L0.st
def aA.L1.E:=eO.hZ aA.L1.st aA.L1.aU aA.L1.add aA.L1.F aA.L1.out
def aA.L1.call:aA.L1.D->Option aA.L1.X:=jH aA.L1.E aA.L1.st
def aA:Fs Tryz.prog aA.aU bE aA.F:=fK 121 Tryz.f121 (λ(a,b)=>([.d mK a,.d mK b],[])) (λx=>⟨.d .bool x,[],[]⟩) [some mK,some mK] [] {loops:=oM [(4,{bm:=[2,3,5]}),(11,{bm:=[2,3,5,6,7,8],sites:=[6,7]})],outs:=oL [(4,{},{bm:=[4]}),(11,{bm:=[2,3,5]},{bm:=[4]})],iA:=pq [(4,aA.L0.E),(11,aA.L1.E)]}
def aA.L0.R:= @gL Tryz.prog (lN aA.G) aA.an 0 Tryz.f121 0 _ aA.L0.st
abbrev aA.L0.Ok:=nh Tryz.prog (lN aA.G) aA.an 0 Tryz.f121 0 aA.L0.st aA.L0.aU aA.L0.add aA.L0.F aA.L0.out
def aA.L1.R:= @gL Tryz.prog (lN aA.G) aA.an 0 Tryz.f121 1 _ aA.L1.st
abbrev aA.L1.Ok:=nh Tryz.prog (lN aA.G) aA.an 0 Tryz.f121 1 aA.L1.st aA.L1.aU aA.L1.add aA.L1.F aA.L1.out
theorem aA.L0.run:mq aA.L0.call aA.L0.aU aA.L0.add aA.L0.F:=oo (oa [.d mK,.d mK,.d ti] λ_=>by kernel_rfl)
theorem aA.L0.cM:nM @aA.L0.R aA.L0.st aA.L0.aU aA.L0.add aA.L0.F aA.L0.out aA.L0.Ok:=oF
theorem aA.L0.step{R:Type}(mM:Lk)(iI:Lk)(i:Int)(kn:AS->Option R)(kx:Exit->AS->Option R):aA.L0.R (mM,iI,i) kn kx=
  aJ ((ik i (((List.length mM.1):Nat):Int))) (
   aJ (eY i (((List.length mM.1):Nat):Int)) (
   aJ (eY i (((List.length iI.1):Nat):Int)) (
   aJ ((sR (nth kK mM.1 (Int.toNat i)).2.1 (nth kK iI.1 (Int.toNat i)).2.1)) (
    kx (aA.L0.dE ()).1 (aA.L0.dE ()).2) (
    aJ ((sR (nth kK mM.1 (Int.toNat i)).2.2.1 (nth kK iI.1 (Int.toNat i)).2.2.1)) (
     kx (aA.L0.dE ()).1 (aA.L0.dE ()).2) (
     aJ ((sR (nth kK mM.1 (Int.toNat i)).2.2.2.1 (nth kK iI.1 (Int.toNat i)).2.2.2.1)) (
      kx (aA.L0.dE ()).1 (aA.L0.dE ()).2) (
      aJ ((sR (((List.length (nth kK mM.1 (Int.toNat i)).1):Nat):Int) (((List.length (nth kK iI.1 (Int.toNat i)).1):Nat):Int))) (
       kx (aA.L0.dE ()).1 (aA.L0.dE ()).2) (
       av (aA.L1.call (mM,iI,i,(0:Int),(nth kK mM.1 (Int.toNat i)),(nth kK iI.1 (Int.toNat i)))) λx1=>
       aJ (x1.isLeft) (
        av (x1.getLeft?) λa2=>
        kx (aA.L0.dE ()).1 (aA.L0.dE ()).2) (
        av (x1.getRight?) λb3=>
        kn (aA.L0.st (b3.1,b3.2.1,(bt .i64 b3.2.2 (1:Int)))))))))) none) none) (
   kx (aA.L0.fQ ()).1 (aA.L0.fQ ()).2):=by kernel_rfl
theorem aA.L1.run:mq aA.L1.call aA.L1.aU aA.L1.add aA.L1.F:=oo (oa [.d mK,.d mK,.d ti,.d ti,.d kK,.d kK] λ_=>by kernel_rfl)
theorem aA.L1.cM:nM @aA.L1.R aA.L1.st aA.L1.aU aA.L1.add aA.L1.F aA.L1.out aA.L1.Ok:=oF
theorem aA.L1.step{R:Type}(Eb:Lk)(xB:Lk)(fY:Int)(kv:Int)(n6:sN)(n7:sN)(kn:AS->Option R)(kx:Exit->AS->Option R):aA.L1.R (Eb,xB,fY,kv,n6,n7) kn kx=
  aJ ((ik kv (((List.length n6.1):Nat):Int))) (
   aJ (eY kv (((List.length n6.1):Nat):Int)) (
   aJ (eY kv (((List.length n7.1):Nat):Int)) (
   aJ ((sR (nth tu n6.1 (Int.toNat kv)) (nth tu n7.1 (Int.toNat kv)))) (
    kx (aA.L1.dE ()).1 (aA.L1.dE ()).2) (
    kn (aA.L1.st (Eb,xB,fY,(bt .i64 kv (1:Int)),n6,n7)))) none) none) (
   kx (aA.L1.fQ (Eb,xB,fY)).1 (aA.L1.fQ (Eb,xB,fY)).2):=by kernel_rfl
theorem aA.eq{R:Type}(a b)(k:K1 R):aA.A (a,b) k=
  aJ ((sR (a.1.length:Int) (b.1.length:Int))) (
   k (aA.out false)) (
   av (aA.L0.call (a,b,0)) λx4=>
   aJ (x4.isLeft) (
    av (x4.getLeft?) λa5=>
    k (aA.out false)) (
    av (x4.getRight?) λb6=>
    k (aA.out true))):=by kernel_rfl
theorem aA.L1.ok:aA.L1.Ok:=by
 refine aA.L1.cM (λ(a,b,j,i,x,y)=>x.1.length - Int.toNat i) ?_
 rintro⟨a,b,j,i,x,y⟩ ⟨hlen,yH,k,hk,rfl⟩
 have hlen:x.1.length<=1000000000:=hlen
 have yH:x.1.length=y.1.length:=yH
 have hk:k<=x.1.length:=hk
 by_cases h:k < x.1.length
 ·have h2:k < y.1.length:=by omega
  have n1:nth tu x.1 k=x.1[k]:=dg (t:=tu) h
  have n2:nth tu y.1 k=y.1[k]:=dg (t:=tu) h2
  have hd:(List.drop k x.1=List.drop k y.1)=(x.1[k]=y.1[k]/\List.drop (k+1) x.1=List.drop (k+1) y.1):=by rw[aq h,aq h2,dC]
  have step:∀ {R:Type} (kn:AS->Option R) (kx:Exit->AS->Option R),aA.L1.R (a,b,j,(k:Int),x,y) kn kx=if x.1[k]=y.1[k] then kn (aA.L1.st (a,b,j,((k+1:Nat):Int),x,y)) else kx (aA.L1.dE ()).1 (aA.L1.dE ()).2:=by
   intro R kn kx
   rw[aA.L1.step,bh (by omega),bp (by omega) (by omega),bp (by omega) (by omega),aa,n1,n2]
   simp only[ae]
   rw[N.pk (by omega)]
   by_cases hx:x.1[k]=y.1[k]
   ·rw[cS hx,if_pos hx];rfl
   ·rw[eI hx,if_neg hx];rfl
  by_cases hx:x.1[k]=y.1[k]
  ·left
   refine⟨(a,b,j,((k+1:Nat):Int),x,y),⟨hlen,yH,k+1,by omega,rfl⟩,by simp only[aa];omega,?_,λkn kx=> ?_⟩
   ·simp only[aA.L1.add,aA.L1.F,aa,hd,hx,true_and]
   ·rw[step,if_pos hx]
  ·right
   refine⟨aA.L1.dE (),?_,λkn kx=> ?_⟩
   ·simp only[aA.L1.add,aA.L1.F,aa,hd,hx,false_and,if_false]
    rfl
   ·rw[step,if_neg hx]
 ·right
  obtain rfl:k=x.1.length:=by omega
  refine⟨aA.L1.fQ (a,b,j),?_,λkn kx=> ?_⟩
  ·simp only[aA.L1.add,aA.L1.F,aa,aQ]
   rw[yH,aQ,if_pos rfl]
   rfl
  ·rw[aA.L1.step,aR (by omega),ah]
theorem aA.L0.ok:aA.L0.Ok:=by
 refine aA.L0.cM (λ(a,b,i)=>a.1.length - Int.toNat i) ?_
 rintro⟨a,b,i⟩ ⟨hlen,yH,hs,k,hk,rfl⟩
 have hlen:a.1.length<=1000000000:=hlen
 have yH:a.1.length=b.1.length:=yH
 have hk:k<=a.1.length:=hk
 have hs:∀x∈a.1,x.1.length<=1000000000:=hs
 by_cases h:k < a.1.length
 ·have h2:k < b.1.length:=by omega
  have n1:nth kK a.1 k=a.1[k]:=dg (t:=kK) h
  have n2:nth kK b.1 k=b.1[k]:=dg (t:=kK) h2
  have hd:(List.drop k a.1=List.drop k b.1)=(a.1[k]=b.1[k]/\List.drop (k+1) a.1=List.drop (k+1) b.1):=by rw[aq h,aq h2,dC]
  have step:∀ {R:Type} (kn:AS->Option R) (kx:Exit->AS->Option R),aA.L0.R (a,b,(k:Int)) kn kx=if a.1[k]=b.1[k] then kn (aA.L0.st (a,b,((k+1:Nat):Int))) else kx (aA.L0.dE ()).1 (aA.L0.dE ()).2:=by
   intro R kn kx
   rw[aA.L0.step,bh (by omega),bp (by omega) (by omega),bp (by omega) (by omega),aa,n1,n2]
   simp only[ae]
   have SU:=hs _ (bw h)
   obtain⟨⟨k1,a1,d1,s1,u1⟩,e1⟩:∃x,a.1[k]=x:=⟨_,rfl⟩
   obtain⟨⟨k2,a2,d2,s2,u2⟩,e2⟩:∃x,b.1[k]=x:=⟨_,rfl⟩
   rw[e1]at SU ⊢
   rw[e2]
   dsimp only
   have SU:k1.length<=1000000000:=SU
   by_cases q2:a1=a2
   ·by_cases q3:d1=d2
    ·by_cases q4:s1=s2
     ·by_cases q1:k1.length=k2.length
      ·rw[cS q2,cS q3,cS q4,cS (by omega),aA.L1.run (d:=(a,b,(k:Int),0,(k1,a1,d1,s1,u1),(k2,a2,d2,s2,u2))) ⟨SU,q1,0,aV _,rfl⟩]
       simp only[ah,ab,aA.L1.add,aA.L1.F,bH,aI]
       by_cases q5:k1=k2
       ·rw[if_pos q5,if_pos (by rw[q5,q2,q3,q4])]
        simp only[gg,fe,ah,ab]
        rw[N.pk (by omega)]
       ·rw[if_neg q5,if_neg (by rintro⟨⟩;exact q5 rfl)]
        rfl
      ·rw[cS q2,cS q3,cS q4,eI (by omega),if_neg (by rintro⟨⟩;exact q1 rfl)];rfl
     ·rw[cS q2,cS q3,eI q4,if_neg (by rintro⟨⟩;exact q4 rfl)];rfl
    ·rw[cS q2,eI q3,if_neg (by rintro⟨⟩;exact q3 rfl)];rfl
   ·rw[eI q2,if_neg (by rintro⟨⟩;exact q2 rfl)];rfl
  by_cases hx:a.1[k]=b.1[k]
  ·left
   refine⟨(a,b,((k+1:Nat):Int)),⟨hlen,yH,hs,k+1,by omega,rfl⟩,by simp only[aa];omega,?_,λkn kx=> ?_⟩
   ·simp only[aA.L0.add,aA.L0.F,aa,hd,hx,true_and]
   ·rw[step,if_pos hx]
  ·right
   refine⟨aA.L0.dE (),?_,λkn kx=> ?_⟩
   ·simp only[aA.L0.add,aA.L0.F,aa,hd,hx,false_and,if_false]
    rfl
   ·rw[step,if_neg hx]
 ·right
  obtain rfl:k=a.1.length:=by omega
  refine⟨aA.L0.fQ (),?_,λkn kx=> ?_⟩
  ·simp only[aA.L0.add,aA.L0.F,aa,aQ]
   rw[yH,aQ,if_pos rfl]
   rfl
  ·rw[aA.L0.step,aR (by omega),ah]
theorem aA.ok:aA.Ok:=by
 rintro⟨a,b⟩ ⟨h,hs⟩
 have h:a.1.length<=1000000000:=h
 rw[aA.eq]
 simp only[bE,aA.F]
 by_cases e3:a.1.length=b.1.length
 ·rw[cS (by omega),aA.L0.run (d:=(a,b,0)) ⟨h,e3,hs,0,aV _,rfl⟩]
  simp only[ab,aA.L0.add,aA.L0.F,bH,aI,ah]
  by_cases e4:a.1=b.1
  ·rw[if_pos e4,aP e4];rfl
  ·rw[if_neg e4,bf e4];rfl
 ·rw[eI (by omega),bf (λx=>e3 (by rw[x]))];rfl
theorem aA.run:aA.RS:=rE [.d mK,.d mK] aA
def aA.sg:=aA.fS aA.ok 2 ⟨.hZ aA.L0.ok,⟨.hZ aA.L1.ok,trivial⟩⟩
abbrev aB.L0.D:=gT×gT×Int
def aB.L0.st:aB.L0.D->AS:=λ(mM,iI,i)=>⟨([.undef,.undef,.ed iL mM,.ed iL iI,.undef,.d ti i]++bj 96 []),[],(List.replicate 102 [])⟩
abbrev aB.L0.Y0:=Unit
abbrev aB.L0.X0:=Unit
def aB.L0.dE:aB.L0.X0->Exit×AS:=λx=>(.ret,⟨(bj 4 ([.d .bool false]++bj 97 [])),[],(List.replicate 102 [])⟩)
abbrev aB.L0.Y1:=Unit
abbrev aB.L0.X1:=gT×gT
def aB.L0.fQ:aB.L0.X1->Exit×AS:=λx=>(.exit 0,⟨([.undef,.undef,.ed iL x.1,.ed iL x.2]++bj 98 []),[],(List.replicate 102 [])⟩)
abbrev aB.L0.X:=(aB.L0.X0)⊕(aB.L0.X1)
abbrev aB.L0.Y:=(aB.L0.Y0)⊕(aB.L0.Y1)
def aB.L0.out:aB.L0.X->Out (Exit×AS):=λx=> .br x.isLeft (.get x.getLeft? λa=> .ok (aB.L0.dE a)) (.get x.getRight? λb=> .ok (aB.L0.fQ b))
def aB.L0.add:aB.L0.D->aB.L0.Y->aB.L0.X:=λ(mM,iI,i) y=>match y with | .inl y=> .inl y | .inr z=> .inr ((mM,iI))
abbrev aB.L1.D:=gT×gT×Int
def aB.L1.st:aB.L1.D->AS:=λ(Eb,xB,fY)=>⟨([.undef,.undef,.ed iL Eb,.ed iL xB,.undef,.undef,.d ti fY]++bj 95 []),[],(List.replicate 102 [])⟩
abbrev aB.L1.Y0:=Unit
abbrev aB.L1.X0:=Unit
def aB.L1.dE:aB.L1.X0->Exit×AS:=λx=>(.ret,⟨(bj 4 ([.d .bool false]++bj 97 [])),[],(List.replicate 102 [])⟩)
abbrev aB.L1.Y1:=Unit
abbrev aB.L1.X1:=Unit
def aB.L1.fQ:aB.L1.X1->Exit×AS:=λx=>(.exit 2,⟨(bj 102 []),[],(List.replicate 102 [])⟩)
abbrev aB.L1.X:=(aB.L1.X0)⊕(aB.L1.X1)
abbrev aB.L1.Y:=(aB.L1.Y0)⊕(aB.L1.Y1)
def aB.L1.out:aB.L1.X->Out (Exit×AS):=λx=> .br x.isLeft (.get x.getLeft? λa=> .ok (aB.L1.dE a)) (.get x.getRight? λb=> .ok (aB.L1.fQ b))
def aB.L1.add:aB.L1.D->aB.L1.Y->aB.L1.X:=λ(Eb,xB,fY) y=>match y with | .inl y=> .inl y | .inr z=> .inr (z)
abbrev aB.D:=gT×gT
abbrev aB.Y:=Bool
def aB.L0.aU:aB.L0.D->Prop:=λ(a,b,i)=>a.1.length<=1000000000/\a.1.length=b.1.length/\(∀x∈a.1,x.2.1.2.1.length<=1000000000)/\∃k:Nat,k<=a.1.length/\i=k
def aB.L0.F:aB.L0.D->aB.L0.Y:=λ(a,b,i)=>if List.drop (Int.toNat i) a.1=List.drop (Int.toNat i) b.1 then .inr () else .inl ()
def aB.L1.aU:aB.L1.D->Prop:=λ(a,b,i)=>a.2.1.length<=1000000000/\a.2.1.length=b.2.1.length/\(∀x∈a.2.1,x.2.1.1.length<=1000000000/\∀b∈x.2.1.1,b.1.length<=1000000000)/\∃k:Nat,k<=a.2.1.length/\i=k
def aB.L1.F:aB.L1.D->aB.L1.Y:=λ(a,b,i)=>if List.drop (Int.toNat i) a.2.1=List.drop (Int.toNat i) b.2.1 then .inr () else .inl ()
def aB.aU:aB.D->Prop:=λ(a,b)=>uK a
def aB.F:aB.D->aB.Y:=λ(a,b)=>decide (a=b)
def aB.L0.E:=eO.hZ aB.L0.st aB.L0.aU aB.L0.add aB.L0.F aB.L0.out
def aB.L0.call:aB.L0.D->Option aB.L0.X:=jH aB.L0.E aB.L0.st
def aB.L1.E:=eO.hZ aB.L1.st aB.L1.aU aB.L1.add aB.L1.F aB.L1.out
def aB.L1.call:aB.L1.D->Option aB.L1.X:=jH aB.L1.E aB.L1.st
def aB:Fs Tryz.prog aB.aU bE aB.F:=fK 54 Tryz.f54 (λ(a,b)=>([.d iL a,.d iL b],[])) (λx=>⟨.d .bool x,[],[]⟩) [some iL,some iL] [bK.sg,aA.sg] {loops:=oM [(4,{bm:=[2,3,5]}),(9,{bm:=[2,3,6]})],outs:=oL [(4,{bm:=[2,3]},{bm:=[4]}),(9,{},{bm:=[4]})],iA:=pq [(4,aB.L0.E),(9,aB.L1.E)]}
def aB.L0.R:= @gL Tryz.prog (lN aB.G) aB.an 0 Tryz.f54 0 _ aB.L0.st
abbrev aB.L0.Ok:=nh Tryz.prog (lN aB.G) aB.an 0 Tryz.f54 0 aB.L0.st aB.L0.aU aB.L0.add aB.L0.F aB.L0.out
def aB.L1.R:= @gL Tryz.prog (lN aB.G) aB.an 0 Tryz.f54 1 _ aB.L1.st
abbrev aB.L1.Ok:=nh Tryz.prog (lN aB.G) aB.an 0 Tryz.f54 1 aB.L1.st aB.L1.aU aB.L1.add aB.L1.F aB.L1.out
theorem aB.L0.run:mq aB.L0.call aB.L0.aU aB.L0.add aB.L0.F:=oo (oa [.d iL,.d iL,.d ti] λ_=>by kernel_rfl)
theorem aB.L0.cM:nM @aB.L0.R aB.L0.st aB.L0.aU aB.L0.add aB.L0.F aB.L0.out aB.L0.Ok:=oF
theorem aB.L0.step{R:Type}(mM:gT)(iI:gT)(i:Int)(kn:AS->Option R)(kx:Exit->AS->Option R):aB.L0.R (mM,iI,i) kn kx=
  aJ ((ik i (((List.length mM.1):Nat):Int))) (
   aJ (eY i (((List.length mM.1):Nat):Int)) (
   aJ (eY i (((List.length iI.1):Nat):Int)) (
   aJ ((!(Ty.beq jk (nth gX mM.1 (Int.toNat i)).1 (nth gX iI.1 (Int.toNat i)).1))) (
    kx (aB.L0.dE ()).1 (aB.L0.dE ()).2) (
    aJ (eY i (((List.length mM.1):Nat):Int)) (
    aJ (eY i (((List.length iI.1):Nat):Int)) (
    av (bK.call ((nth gX mM.1 (Int.toNat i)).2.1,(nth gX iI.1 (Int.toNat i)).2.1)) λx1=>
    aJ ((!x1)) (
     kx (aB.L0.dE ()).1 (aB.L0.dE ()).2) (
     kn (aB.L0.st (mM,iI,(bt .i64 i (1:Int)))))) none) none)) none) none) (
   kx (aB.L0.fQ (mM,iI)).1 (aB.L0.fQ (mM,iI)).2):=by kernel_rfl
theorem aB.L1.run:mq aB.L1.call aB.L1.aU aB.L1.add aB.L1.F:=oo (oa [.d iL,.d iL,.d ti] λ_=>by kernel_rfl)
theorem aB.L1.cM:nM @aB.L1.R aB.L1.st aB.L1.aU aB.L1.add aB.L1.F aB.L1.out aB.L1.Ok:=oF
theorem aB.L1.step{R:Type}(Eb:gT)(xB:gT)(fY:Int)(kn:AS->Option R)(kx:Exit->AS->Option R):aB.L1.R (Eb,xB,fY) kn kx=
  aJ ((ik fY (((List.length Eb.2.1):Nat):Int))) (
   aJ (eY fY (((List.length Eb.2.1):Nat):Int)) (
   aJ (eY fY (((List.length xB.2.1):Nat):Int)) (
   aJ ((sR (nth iR Eb.2.1 (Int.toNat fY)).1 (nth iR xB.2.1 (Int.toNat fY)).1)) (
    kx (aB.L1.dE ()).1 (aB.L1.dE ()).2) (
    aJ (eY fY (((List.length Eb.2.1):Nat):Int)) (
    aJ (eY fY (((List.length xB.2.1):Nat):Int)) (
    av (aA.call ((nth iR Eb.2.1 (Int.toNat fY)).2.1,(nth iR xB.2.1 (Int.toNat fY)).2.1)) λx1=>
    aJ ((!x1)) (
     kx (aB.L1.dE ()).1 (aB.L1.dE ()).2) (
     kn (aB.L1.st (Eb,xB,(bt .i64 fY (1:Int)))))) none) none)) none) none) (
   kx (aB.L1.fQ ()).1 (aB.L1.fQ ()).2):=by kernel_rfl
theorem aB.eq{R:Type}(a b)(k:K1 R):aB.A (a,b) k=
  aJ ((sR a.2.2.1 b.2.2.1)) (
   k (aB.out false)) (
   aJ ((sR (a.1.length:Int) (b.1.length:Int))) (
    k (aB.out false)) (
    aJ ((sR (a.2.1.length:Int) (b.2.1.length:Int))) (
     k (aB.out false)) (
     av (aB.L0.call (a,b,0)) λx2=>
     aJ (x2.isLeft) (
      av (x2.getLeft?) λa3=>
      k (aB.out false)) (
      av (x2.getRight?) λb4=>
      av (aB.L1.call (b4.1,b4.2,0)) λx6=>
      aJ (x6.isLeft) (
       av (x6.getLeft?) λa7=>
       k (aB.out false)) (
       av (x6.getRight?) λb8=>
       k (aB.out true)))))):=by kernel_rfl
theorem aB.L0.ok:aB.L0.Ok:=by
 refine aB.L0.cM (λ(a,b,i)=>a.1.length - Int.toNat i) ?_
 rintro⟨a,b,i⟩ ⟨hlen,yH,hs,k,hk,rfl⟩
 have hlen:a.1.length<=1000000000:=hlen
 have yH:a.1.length=b.1.length:=yH
 have hk:k<=a.1.length:=hk
 have hs:∀x∈a.1,x.2.1.2.1.length<=1000000000:=hs
 by_cases h:k < a.1.length
 ·have h2:k < b.1.length:=by omega
  have n1:nth gX a.1 k=a.1[k]:=dg (t:=gX) h
  have n2:nth gX b.1 k=b.1[k]:=dg (t:=gX) h2
  have hd:(List.drop k a.1=List.drop k b.1)=(a.1[k]=b.1[k]/\List.drop (k+1) a.1=List.drop (k+1) b.1):=by rw[aq h,aq h2,dC]
  have step:∀ {R:Type} (kn:AS->Option R) (kx:Exit->AS->Option R),aB.L0.R (a,b,(k:Int)) kn kx=if a.1[k]=b.1[k] then kn (aB.L0.st (a,b,((k+1:Nat):Int))) else kx (aB.L0.dE ()).1 (aB.L0.dE ()).2:=by
   intro R kn kx
   rw[aB.L0.step,bh (by omega),bp (by omega) (by omega),bp (by omega) (by omega),aa,n1,n2]
   simp only[ae]
   have e:=hs _ (bw h)
   rw[O7,N.pk (by omega),bK.run (d:=(a.1[k].2.1,b.1[k].2.1)) e]
   simp only[ab,bE,bK.F]
   obtain⟨⟨f1,w1,u1⟩,e1⟩:∃x,a.1[k]=x:=⟨_,rfl⟩
   obtain⟨⟨f2,w2,u2⟩,e2⟩:∃x,b.1[k]=x:=⟨_,rfl⟩
   rw[e1,e2]
   by_cases q1:f1=f2
   ·by_cases q2:w1=w2
    ·rw[aP q1,aP q2,if_pos (by rw[q1,q2])];rfl
    ·rw[aP q1,bf q2,if_neg (by rintro⟨⟩;exact q2 rfl)];rfl
   ·rw[bf q1,if_neg (by rintro⟨⟩;exact q1 rfl)];rfl
  by_cases hx:a.1[k]=b.1[k]
  ·left
   refine⟨(a,b,((k+1:Nat):Int)),⟨hlen,yH,hs,k+1,by omega,rfl⟩,by simp only[aa];omega,?_,λkn kx=> ?_⟩
   ·simp only[aB.L0.add,aB.L0.F,aa,hd,hx,true_and]
   ·rw[step,if_pos hx]
  ·right
   refine⟨aB.L0.dE (),?_,λkn kx=> ?_⟩
   ·simp only[aB.L0.add,aB.L0.F,aa,hd,hx,false_and,if_false]
    rfl
   ·rw[step,if_neg hx]
 ·right
  obtain rfl:k=a.1.length:=by omega
  refine⟨aB.L0.fQ (a,b),?_,λkn kx=> ?_⟩
  ·simp only[aB.L0.add,aB.L0.F,aa,aQ]
   rw[yH,aQ,if_pos rfl]
   rfl
  ·rw[aB.L0.step,aR (by omega),ah]
theorem aB.L1.ok:aB.L1.Ok:=by
 refine aB.L1.cM (λ(a,b,i)=>a.2.1.length - Int.toNat i) ?_
 rintro⟨a,b,i⟩ ⟨hlen,yH,hs,k,hk,rfl⟩
 have hlen:a.2.1.length<=1000000000:=hlen
 have yH:a.2.1.length=b.2.1.length:=yH
 have hk:k<=a.2.1.length:=hk
 have hs:∀x∈a.2.1,x.2.1.1.length<=1000000000/\∀b∈x.2.1.1,b.1.length<=1000000000:=hs
 by_cases h:k < a.2.1.length
 ·have h2:k < b.2.1.length:=by omega
  have n1:nth iR a.2.1 k=a.2.1[k]:=dg (t:=iR) h
  have n2:nth iR b.2.1 k=b.2.1[k]:=dg (t:=iR) h2
  have hd:(List.drop k a.2.1=List.drop k b.2.1)=(a.2.1[k]=b.2.1[k]/\List.drop (k+1) a.2.1=List.drop (k+1) b.2.1):=by rw[aq h,aq h2,dC]
  have step:∀ {R:Type} (kn:AS->Option R) (kx:Exit->AS->Option R),aB.L1.R (a,b,(k:Int)) kn kx=if a.2.1[k]=b.2.1[k] then kn (aB.L1.st (a,b,((k+1:Nat):Int))) else kx (aB.L1.dE ()).1 (aB.L1.dE ()).2:=by
   intro R kn kx
   rw[aB.L1.step,bh (by omega),bp (by omega) (by omega),bp (by omega) (by omega),aa,n1,n2]
   simp only[ae]
   have e:=hs _ (bw h)
   rw[N.pk (by omega),aA.run (d:=(a.2.1[k].2.1,b.2.1[k].2.1)) e]
   simp only[ab,bE,aA.F]
   obtain⟨⟨n1,⟨l1,v1⟩,u1⟩,e1⟩:∃x,a.2.1[k]=x:=⟨_,rfl⟩
   obtain⟨⟨n2,⟨l2,v2⟩,u2⟩,e2⟩:∃x,b.2.1[k]=x:=⟨_,rfl⟩
   rw[e1,e2]
   by_cases q1:n1=n2
   ·by_cases q2:l1=l2
    ·rw[cS q1,aP q2,if_pos (by rw[q1,q2])];rfl
    ·rw[cS q1,bf q2,if_neg (by rintro⟨⟩;exact q2 rfl)];rfl
   ·rw[eI q1,if_neg (by rintro⟨⟩;exact q1 rfl)];rfl
  by_cases hx:a.2.1[k]=b.2.1[k]
  ·left
   refine⟨(a,b,((k+1:Nat):Int)),⟨hlen,yH,hs,k+1,by omega,rfl⟩,by simp only[aa];omega,?_,λkn kx=> ?_⟩
   ·simp only[aB.L1.add,aB.L1.F,aa,hd,hx,true_and]
   ·rw[step,if_pos hx]
  ·right
   refine⟨aB.L1.dE (),?_,λkn kx=> ?_⟩
   ·simp only[aB.L1.add,aB.L1.F,aa,hd,hx,false_and,if_false]
    rfl
   ·rw[step,if_neg hx]
 ·right
  obtain rfl:k=a.2.1.length:=by omega
  refine⟨aB.L1.fQ (),?_,λkn kx=> ?_⟩
  ·simp only[aB.L1.add,aB.L1.F,aa,aQ]
   rw[yH,aQ,if_pos rfl]
   rfl
  ·rw[aB.L1.step,aR (by omega),ah]
theorem aB.ok:aB.Ok:=by
 rintro⟨⟨i1,o1,n1,u1⟩,⟨i2,o2,n2,u2⟩⟩ h
 have h:uK (i1,o1,n1,u1):=h
 have hi:i1.length<=1000000000:=h.1.1
 have ho:o1.length<=1000000000:=h.2.1
 rw[aB.eq]
 simp only[bE,aB.F]
 by_cases e1:n1=n2
 ·by_cases e2:i1.length=i2.length
  ·by_cases e3:o1.length=o2.length
   ·rw[cS e1,cS (by omega),cS (by omega),aB.L0.run (d:=((i1,o1,n1,u1),(i2,o2,n2,u2),0)) ⟨hi,e2,h.1.2,0,aV _,rfl⟩]
    simp only[ab,aB.L0.add,aB.L0.F,bH,aI,ah]
    by_cases e4:i1=i2
    ·rw[if_pos e4]
     simp only[gg,fe,ah,ab]
     rw[aB.L1.run (d:=((i1,o1,n1,u1),(i2,o2,n2,u2),0)) ⟨ho,e3,h.2.2,0,aV _,rfl⟩]
     simp only[ab,aB.L1.add,aB.L1.F,bH,aI]
     by_cases e5:o1=o2
     ·rw[if_pos e5,aP (by rw[e1,e4,e5])];rfl
     ·rw[if_neg e5,bf (by rintro⟨⟩;exact e5 rfl)];rfl
    ·rw[if_neg e4,bf (by rintro⟨⟩;exact e4 rfl)];rfl
   ·rw[cS e1,cS (by omega),eI (by omega),bf (by rintro⟨⟩;exact e3 rfl)];rfl
  ·rw[cS e1,eI (by omega),bf (by rintro⟨⟩;exact e2 rfl)];rfl
 ·rw[eI e1,bf (by rintro⟨⟩;exact e1 rfl)];rfl
theorem aB.run:aB.RS:=rE [.d iL,.d iL] aB
def aB.sg:=aB.fS aB.ok 2 ⟨.hZ aB.L0.ok,⟨.hZ aB.L1.ok,trivial⟩⟩
abbrev aW.L0.D:=gT×Int×(Int×Unit)×Nat×(Int×Unit)×(List gz)
abbrev aW.L0.Y:=Nat×(List gz)
abbrev aW.L0.X:=(gT×(Int×Unit)×(Int×Unit))×(Nat×(List gz))
def aW.L0.add:aW.L0.D->aW.L0.Y->aW.L0.X:=λ(lb,i,n2,NQ,n3,n36) y=>((lb,n2,n3),y)
abbrev aW.L1.D:=gT×Int×(Int×Unit)×Nat×Nat×(Int×Unit)×(List gz)×(List j7)
abbrev aW.L1.Y:=(Int×Unit)×Nat×Nat×(Int×Unit)×(List gz)×(List j7)
abbrev aW.L2.D:=gT×Int×Int×(Int×Unit)×Nat×Nat×(Int×Unit)×Int×Nat×(List gz)×(List sN)×(List j7)
abbrev aW.L2.Y:=Nat×(List sN)
abbrev aW.L2.X:=(gT×Int×(Int×Unit)×Nat×Nat×(Int×Unit)×Int×(List gz)×(List j7))×(Nat×(List sN))
def aW.L2.add:aW.L2.D->aW.L2.Y->aW.L2.X:=λ(tr,ph,kv,om,BT,BU,Ii,n7,NS,BS,Qc,BW) y=>((tr,ph,om,BT,BU,Ii,n7,BS,BW),y)
abbrev aW.D:=gT
abbrev aW.Y:=Nat×Nat×(Int×Unit)×(List gz)×(List j7)
def aW.L0.aU:aW.L0.D->Prop:=λ(t,i,u,L,v,r)=>(t.1).length<=1000000/\∃k:Nat,k<=(t.1).length/\i=k/\L=(r).length/\(r).length<=1000000+k/\(∀x∈t.1,x.2.1.2.1.length<=1000000)
def aW.L0.F:aW.L0.D->aW.L0.Y:=λ(t,i,u,L,v,r)=>(L+(List.drop (Int.toNat i) t.1).length,r++(List.drop (Int.toNat i) t.1).map (λx:gz=>x))
def aW.L2.aU:aW.L2.D->Prop:=λ(t,j,i,u,L4,L5,v,am,L,is,r,os)=>((nth iR t.2.1 (Int.toNat j)).2.1.1).length<=1000000/\∃k:Nat,k<=((nth iR t.2.1 (Int.toNat j)).2.1.1).length/\i=k/\L=(r).length/\(r).length<=1000000+k/\(0<=j/\j < (t.2.1.length:Int))/\(∀x∈(nth iR t.2.1 (Int.toNat j)).2.1.1,x.1.length<=1000000)
def aW.L2.F:aW.L2.D->aW.L2.Y:=λ(t,j,i,u,L4,L5,v,am,L,is,r,os)=>(L+(List.drop (Int.toNat i) (nth iR t.2.1 (Int.toNat j)).2.1.1).length,r++(List.drop (Int.toNat i) (nth iR t.2.1 (Int.toNat j)).2.1.1).map (λx:sN=>x))
def aW.L1.aU:aW.L1.D->Prop:=λ(t,i,u,L3,L,v,is,r)=>(t.2.1.length<=1000/\∀x∈t.2.1,x.2.1.1.length<=1000/\∀b∈x.2.1.1,b.1.length<=1000000)/\∃k:Nat,k<=t.2.1.length/\i=k/\L=r.length/\r.length=k
def aW.L1.F:aW.L1.D->aW.L1.Y:=λ(t,i,u,L3,L,v,is,r)=>(u,L3,L+(t.2.1.drop i.toNat).length,v,is,r++t.2.1.drop i.toNat)
def Og(t:gT):Prop:=(t.1.length<=1000/\∀x∈t.1,x.2.1.2.1.length<=1000000)/\t.2.1.length<=1000/\∀x∈t.2.1,x.2.1.1.length<=1000/\∀b∈x.2.1.1,b.1.length<=1000000
def aW.aU:aW.D->Prop:=λt=>Og t
def aW.F:aW.D->aW.Y:=λt=>(t.1.length,t.2.1.length,(t.2.2.1,()),t.1,t.2.1)
def aW.L0:Ls aW.L0.aU aW.L0.add aW.L0.F:=pG (λ(lb,i,n2,NQ,n3,n36)=>⟨([.undef,.ed iL lb,.ptr (.new 2 0) 0 [] 0,.ptr (.new 3 0) 0 [] 0,.d ti i]++bj 89 []),[],([[],[],[.obj 0 false (.pr (.df) (.pr (.df) (.d (.pair ti .unit) n2)))],[.obj 0 false (.pr (.cP (.new 36 0) 0 [] 0 0 NQ) (.pr (.df) (.d (.pair ti .unit) n3)))]]++cg 32 ([[.obj 0 false (.vec 52 gX n36)]]++cg 57 []))⟩) (λx=>(.exit 0,⟨([.undef,.ed iL x.1.1,.ptr (.new 2 0) 0 [] 0,.ptr (.new 3 0) 0 [] 0]++bj 90 []),[],([[],[],[.obj 0 false (.pr (.df) (.pr (.df) (.d (.pair ti .unit) x.1.2.1)))],[.obj 0 false (.pr (.cP (.new 36 0) 0 [] 0 0 x.2.1) (.pr (.df) (.d (.pair ti .unit) x.1.2.2)))]]++cg 32 ([[.obj 0 false (.vec 52 gX x.2.2)]]++cg 57 []))⟩))
def aW.L1:Ls aW.L1.aU bE aW.L1.F:=pG (λ(rN,fY,mE,Gx,Gy,Ml,Gw,Sl)=>⟨([.undef,.ed iL rN,.ptr (.new 2 0) 0 [] 0,.ptr (.new 3 0) 0 [] 0,.undef,.undef,.d ti fY]++bj 87 []),[],([[],[],[.obj 0 false (.pr (.df) (.pr (.df) (.d (.pair ti .unit) mE)))],[.obj 0 false (.pr (.cP (.new 36 0) 0 [] 0 0 Gx) (.pr (.cP (.new 91 0) 0 [] 0 0 Gy) (.d (.pair ti .unit) Ml)))]]++cg 32 ([[.obj 0 false (.vec 52 gX Gw)]]++cg 54 [[.obj 0 false (.vec 36 iR Sl)],[],[]]))⟩) (λx=>(.exit 2,⟨([.undef,.undef,.ptr (.new 2 0) 0 [] 0,.ptr (.new 3 0) 0 [] 0]++bj 90 []),[],([[],[],[.obj 0 false (.pr (.df) (.pr (.df) (.d (.pair ti .unit) x.1)))],[.obj 0 false (.pr (.cP (.new 36 0) 0 [] 0 0 x.2.1) (.pr (.cP (.new 91 0) 0 [] 0 0 x.2.2.1) (.d (.pair ti .unit) x.2.2.2.1)))]]++cg 32 ([[.obj 0 false (.vec 52 gX x.2.2.2.2.1)]]++cg 54 [[.obj 0 false (.vec 36 iR x.2.2.2.2.2)],[],[]]))⟩))
def aW.L2:Ls aW.L2.aU aW.L2.add aW.L2.F:=pG (λ(tr,ph,kv,om,BT,BU,Ii,n7,NS,BS,Qc,BW)=>⟨([.undef,.ed iL tr,.ptr (.new 2 0) 0 [] 0,.ptr (.new 3 0) 0 [] 0,.undef,.undef,.d ti ph,.ptr (.new 7 0) 0 [] 0,.d ti kv]++bj 85 []),[],([[],[],[.obj 0 false (.pr (.df) (.pr (.df) (.d (.pair ti .unit) om)))],[.obj 0 false (.pr (.cP (.new 36 0) 0 [] 0 0 BT) (.pr (.cP (.new 91 0) 0 [] 0 0 BU) (.d (.pair ti .unit) Ii)))],[],[],[],[.obj 0 false (.pr (.d ti n7) (.pr (.pr (.cP (.new 84 0) 0 [] 0 0 NS) (.d .unit ())) (.d .unit ())))]]++cg 28 ([[.obj 0 false (.vec 52 gX BS)]]++cg 47 ([[.obj 0 false (.vec 29 kK Qc)]]++cg 6 [[.obj 0 false (.vec 36 iR BW)],[],[]])))⟩) (λx=>(.exit 4,⟨([.undef,.ed iL x.1.1,.ptr (.new 2 0) 0 [] 0,.ptr (.new 3 0) 0 [] 0,.undef,.undef,.d ti x.1.2.1,.ptr (.new 7 0) 0 [] 0]++bj 86 []),[],([[],[],[.obj 0 false (.pr (.df) (.pr (.df) (.d (.pair ti .unit) x.1.2.2.1)))],[.obj 0 false (.pr (.cP (.new 36 0) 0 [] 0 0 x.1.2.2.2.1) (.pr (.cP (.new 91 0) 0 [] 0 0 x.1.2.2.2.2.1) (.d (.pair ti .unit) x.1.2.2.2.2.2.1)))],[],[],[],[.obj 0 false (.pr (.d ti x.1.2.2.2.2.2.2.1) (.pr (.pr (.cP (.new 84 0) 0 [] 0 0 x.2.1) (.d .unit ())) (.d .unit ())))]]++cg 28 ([[.obj 0 false (.vec 52 gX x.1.2.2.2.2.2.2.2.1)]]++cg 47 ([[.obj 0 false (.vec 29 kK x.2.2)]]++cg 6 [[.obj 0 false (.vec 36 iR x.1.2.2.2.2.2.2.2.2)],[],[]])))⟩))
def aW:Fs Tryz.prog aW.aU bE aW.F:=fK 91 Tryz.f91 (λt=>([.d iL t],[])) (λx=>⟨.pr (.cP (.new 0 0) 0 [] 0 0 x.1) (.pr (.cP (.new 0 1) 0 [] 0 0 x.2.1) (.d (.pair ti .unit) x.2.2.1)),[],[.obj 0 false (.vec 52 gX x.2.2.2.1),.obj 0 false (.vec 36 iR x.2.2.2.2)]⟩) [some iL] [] {bU:=[25,74],loops:=oM [(3,{bm:=[1,2,3,4],sites:=[2,3,36],owns:=[⟨3,[.fst],36,38⟩]}),(9,{bm:=[1,2,3,6],sites:=[2,3,36,91],owns:=[⟨3,[.snd,.fst],91,37⟩]}),(13,{bm:=[1,2,3,6,7,8],sites:=[2,3,7,36,84,91],owns:=[⟨7,[.snd,.fst,.fst],84,32⟩]})],outs:=oL [(3,{bm:=[1,2,3],sites:=[2,3,36]},{bm:=[2]}),(9,{bm:=[2,3],sites:=[2,3,36,91]},{bm:=[2]}),(13,{bm:=[1,2,3,6,7],sites:=[2,3,7,36,84,91]},{bm:=[2]})],iA:=pq [(3,aW.L0.E),(9,aW.L1.E),(13,aW.L2.E)]}
theorem aW.L0.run:aW.L0.RS:=rL [.d iL,.d ti,.d (.pair ti .unit),.n,.d (.pair ti .unit),.d (.slice gX)] aW.L0
theorem aW.L0.step{R:Type}(lb i n2 NQ n3 n36)(kn:K2 R)(kx:K3 R):aW.R 0 aW.L0 (lb,i,n2,NQ,n3,n36) kn kx=
  aJ ((ik i (lb.1.length:Int))) (
   aJ (eY i (lb.1.length:Int)) (
   aJ (dG (0+(List.length (nth gX lb.1 (Int.toNat i)).2.1.2.1)) 16) (
   aJ (decide (0=0/\(0+(0+(List.length (nth gX lb.1 (Int.toNat i)).2.1.2.1)))<=(List.length ((List.take 0 (List.replicate 0 (0,(0,()))))++(nth gX lb.1 (Int.toNat i)).2.1.2.1)))) (
   aJ (decide (NQ<=(List.length n36))) (
   aJ (dG (NQ+1) 80) (
   kn (aW.L0.st (lb,(bt .i64 i 1),n2,(NQ+1),n3,((List.take NQ n36)++ [((nth gX lb.1 (Int.toNat i)).1,(((nth gX lb.1 (Int.toNat i)).2.1.1,((cut ((List.take 0 (List.replicate 0 (0,(0,()))))++(nth gX lb.1 (Int.toNat i)).2.1.2.1) 0 (0+(List.length (nth gX lb.1 (Int.toNat i)).2.1.2.1))),(nth gX lb.1 (Int.toNat i)).2.1.2.2)),(nth gX lb.1 (Int.toNat i)).2.2))])))) none) none) none) none) none) (
   aW.L0.go kx ((lb,n2,n3),(NQ,n36))):=by kernel_rfl
theorem aW.L1.run:aW.L1.RS:=rL [.d iL,.d ti,.d (.pair ti .unit),.n,.n,.d (.pair ti .unit),.d (.slice gX),.d (.slice iR)] aW.L1
theorem aW.L1.step{R:Type}(rN fY mE Gx Gy Ml Gw Sl)(kn:K2 R)(kx:K3 R):aW.R 1 aW.L1 (rN,fY,mE,Gx,Gy,Ml,Gw,Sl) kn kx=
  aJ ((ik fY (rN.2.1.length:Int))) (
   aJ (eY fY (rN.2.1.length:Int)) (
   av (aW.L2.call (rN,fY,0,mE,Gx,Gy,Ml,(nth iR rN.2.1 (Int.toNat fY)).1,0,Gw,([]:List sN),Sl)) λx1=>
   aJ (decide (0=0/\(0+x1.2.1)<=(List.length x1.2.2))) (
   aJ (decide (x1.1.2.2.2.2.1<=(List.length x1.1.2.2.2.2.2.2.2.2))) (
   aJ (dG (x1.1.2.2.2.2.1+1) 32) (
   kn (aW.L1.st (x1.1.1,(bt .i64 x1.1.2.1 1),x1.1.2.2.1,x1.1.2.2.2.1,(x1.1.2.2.2.2.1+1),x1.1.2.2.2.2.2.1,x1.1.2.2.2.2.2.2.2.1,((List.take x1.1.2.2.2.2.1 x1.1.2.2.2.2.2.2.2.2)++ [(x1.1.2.2.2.2.2.2.1,(((cut x1.2.2 0 x1.2.1),()),()))])))) none) none) none) none) (
   aW.L1.go kx (mE,Gx,Gy,Ml,Gw,Sl)):=by kernel_rfl
theorem aW.L2.run:aW.L2.RS:=rL [.d iL,.d ti,.d ti,.d (.pair ti .unit),.n,.n,.d (.pair ti .unit),.d ti,.n,.d (.slice gX),.d (.slice kK),.d (.slice iR)] aW.L2
theorem aW.L2.step{R:Type}(tr ph kv om BT BU Ii n7 NS BS Qc BW)(kn:K2 R)(kx:K3 R):aW.R 2 aW.L2 (tr,ph,kv,om,BT,BU,Ii,n7,NS,BS,Qc,BW) kn kx=
  aJ (eY ph (tr.2.1.length:Int)) (
  aJ ((ik kv (((List.length (nth iR tr.2.1 (Int.toNat ph)).2.1.1):Nat):Int))) (
   aJ (eY ph (tr.2.1.length:Int)) (
   aJ (eY kv (((List.length (nth iR tr.2.1 (Int.toNat ph)).2.1.1):Nat):Int)) (
   aJ (dG (0+(List.length (nth kK (nth iR tr.2.1 (Int.toNat ph)).2.1.1 (Int.toNat kv)).1)) 8) (
   aJ (decide (0=0/\(0+(0+(List.length (nth kK (nth iR tr.2.1 (Int.toNat ph)).2.1.1 (Int.toNat kv)).1)))<=(List.length ((List.take 0 (List.replicate 0 0))++(nth kK (nth iR tr.2.1 (Int.toNat ph)).2.1.1 (Int.toNat kv)).1)))) (
   aJ (decide (NS<=(List.length Qc))) (
   aJ (dG (NS+1) 48) (
   kn (aW.L2.st (tr,ph,(bt .i64 kv 1),om,BT,BU,Ii,n7,(NS+1),BS,((List.take NS Qc)++ [((cut ((List.take 0 (List.replicate 0 0))++(nth kK (nth iR tr.2.1 (Int.toNat ph)).2.1.1 (Int.toNat kv)).1) 0 (0+(List.length (nth kK (nth iR tr.2.1 (Int.toNat ph)).2.1.1 (Int.toNat kv)).1))),(nth kK (nth iR tr.2.1 (Int.toNat ph)).2.1.1 (Int.toNat kv)).2)]),BW))) none) none) none) none) none) none) (
   aW.L2.go kx ((tr,ph,om,BT,BU,Ii,n7,BS,BW),(NS,Qc)))) none:=by kernel_rfl
theorem aW.eq{R:Type}(t)(k:K1 R):aW.A t k=
 av (aW.L0.call (t,0,(0,()),0,(t.2.2.1,()),([]:List gz))) λx1=>
 av (aW.L1.call (x1.1.1,0,x1.1.2.1,x1.2.1,0,x1.1.2.2,x1.2.2,([]:List j7))) λx4=>
 k (aW.out (x4.2.1,x4.2.2.1,x4.2.2.2.1,x4.2.2.2.2.1,x4.2.2.2.2.2)):=by kernel_rfl
theorem aW.L0.ok:(aW.lE 0 aW.L0):=by
 refine(aW.mr 0 aW.L0) (λ(t,i,u,L,v,r)=>(t.1).length - Int.toNat i) ?_
 rintro⟨t,i,u,L,v,r⟩ ⟨hlen,k,hk,rfl,rfl,nX,hx⟩
 have hlen:(t.1).length<=1000000:=hlen
 have hk:k<=(t.1).length:=hk
 have nX:(r).length<=1000000+k:=nX
 have hx:∀x∈t.1,x.2.1.2.1.length<=1000000:=hx
 by_cases h:k < (t.1).length
 ·left
  have n1:nth gX t.1 k=t.1[k]:=dg (t:=gX) h
  have hd:List.drop k t.1=t.1[k]::List.drop (k+1) t.1:=aq h
  refine⟨(t,((k+1:Nat):Int),u,(r).length+1,v,r++ [(λx:gz=>x) t.1[k]]),⟨hlen,k+1,by omega,rfl,by rw[aj];rfl,by rw[aj];show(r).length+1<=_;omega,hx⟩,by simp only[aa];omega,?_,λkn kx=> ?_⟩
  ·simp only[aW.L0.add,aW.L0.F,aa,hd,bR,aD,bk,dy]
   rw[show ∀a c:Nat,a+1+c=a+(c+1) from λa c=>by omega]
  ·rw[aW.L0.step,bh (by omega),bp (show(0:Int)<=(k:Int) by omega) (by omega),aa,n1]
   simp only[ae]
   have e:=hx _ (bw h)
   have hr:dG t.1[k].2.1.2.1.length 16=true:=dU (by omega) (by omega)
   simp only[aO,eH,aS,hr,ae,ay,and_self,decide_true,fi]
   rw[dU (by omega) (by omega),N.pk (by omega),bY]
   rfl
 ·right
  obtain rfl:k=(t.1).length:=by omega
  intro R kn kx
  rw[aW.L0.step,aR (by omega),ah]
  simp only[aW.L0.add,aW.L0.F,aa,aQ,fT,cH,aZ,cK]
theorem aW.L2.ok:(aW.lE 2 aW.L2):=by
 refine(aW.mr 2 aW.L2) (λ(t,j,i,u,L4,L5,v,am,L,is,r,os)=>((nth iR t.2.1 (Int.toNat j)).2.1.1).length - Int.toNat i) ?_
 rintro⟨t,j,i,u,L4,L5,v,am,L,is,r,os⟩ ⟨hlen,k,hk,rfl,rfl,nX,hj,hx⟩
 have hlen:((nth iR t.2.1 (Int.toNat j)).2.1.1).length<=1000000:=hlen
 have hk:k<=((nth iR t.2.1 (Int.toNat j)).2.1.1).length:=hk
 have nX:(r).length<=1000000+k:=nX
 have hj:0<=j/\j < (t.2.1.length:Int):=hj
 have hx:∀x∈(nth iR t.2.1 (Int.toNat j)).2.1.1,x.1.length<=1000000:=hx
 by_cases h:k < ((nth iR t.2.1 (Int.toNat j)).2.1.1).length
 ·left
  have n1:nth kK (nth iR t.2.1 (Int.toNat j)).2.1.1 k=(nth iR t.2.1 (Int.toNat j)).2.1.1[k]:=dg (t:=kK) h
  have hd:List.drop k (nth iR t.2.1 (Int.toNat j)).2.1.1=(nth iR t.2.1 (Int.toNat j)).2.1.1[k]::List.drop (k+1) (nth iR t.2.1 (Int.toNat j)).2.1.1:=aq h
  refine⟨(t,j,((k+1:Nat):Int),u,L4,L5,v,am,(r).length+1,is,r++ [(λx:sN=>x) (nth iR t.2.1 (Int.toNat j)).2.1.1[k]],os),⟨hlen,k+1,by omega,rfl,by rw[aj];rfl,by rw[aj];show(r).length+1<=_;omega,hj,hx⟩,by simp only[aa];omega,?_,λkn kx=> ?_⟩
  ·simp only[aW.L2.add,aW.L2.F,aa,hd,bR,aD,bk,dy]
   rw[show ∀a c:Nat,a+1+c=a+(c+1) from λa c=>by omega]
  ·rw[aW.L2.step,bp hj.1 hj.2,ae,bh (by omega),bp (show(0:Int)<=(k:Int) by omega) (by omega),aa,n1]
   simp only[ae]
   have e:=hx _ (bw h)
   have hr:dG (nth iR t.2.1 (Int.toNat j)).2.1.1[k].1.length 8=true:=dU (by omega) (by omega)
   simp only[aO,eH,aS,hr,ae,ay,and_self,decide_true,fi]
   rw[dU (by omega) (by omega),N.pk (by omega),bY]
   rfl
 ·right
  obtain rfl:k=((nth iR t.2.1 (Int.toNat j)).2.1.1).length:=by omega
  intro R kn kx
  rw[aW.L2.step,bp hj.1 hj.2,ae,aR (by omega),ah]
  simp only[aW.L2.add,aW.L2.F,aa,aQ,fT,cH,aZ,cK]
theorem aW.L1.ok:(aW.lE 1 aW.L1):=by
 refine(aW.mr 1 aW.L1) (λ(t,i,u,L3,L,v,is,r)=>t.2.1.length - i.toNat) ?_
 rintro⟨t,i,u,L3,L,v,is,r⟩ ⟨⟨hl,hx⟩,k,hk,rfl,rfl,Va⟩
 have hl:t.2.1.length<=1000:=hl
 have hk:k<=t.2.1.length:=hk
 have Va:r.length=k:=Va
 by_cases h:k < t.2.1.length
 ·left
  have e:=hx _ (bw h)
  have n1:nth iR t.2.1 k=t.2.1[k]:=dg (t:=iR) h
  have hd:t.2.1.drop k=t.2.1[k]::t.2.1.drop (k+1):=aq h
  have e1:(nth iR t.2.1 (Int.toNat (k:Int))).2.1.1=t.2.1[k].2.1.1:=by rw[aa,n1]
  refine⟨(t,((k+1:Nat):Int),u,L3,r.length+1,v,is,r++ [t.2.1[k]]),⟨⟨hl,hx⟩,k+1,by omega,rfl,by rw[aj];rfl,by rw[aj];show r.length+1=_;omega⟩,by simp only[aa];omega,?_,λkn kx=> ?_⟩
  ·simp only[bE,aW.L1.F,aa,hd,aD,bk,dy]
   rw[show ∀a c:Nat,a+1+c=a+(c+1) from λa c=>by omega]
  ·rw[aW.L1.step,bh (by omega),bp (by omega) (by omega),aa,n1]
   simp only[ae]
   rw[aW.L2.run (d:=(t,(k:Int),0,u,L3,r.length,v,t.2.1[k].1,0,is,[],r)) ⟨by rw[e1];omega,0,aV _,rfl,rfl,aV _,⟨by show(0:Int)<=(k:Int);omega,by show(k:Int) < (t.2.1.length:Int);omega⟩,by rw[e1];exact e.2⟩]
   simp only[ab,aW.L2.add,aW.L2.F,e1,bH,aI,aS,aO,List.map_id',ay,and_self,decide_true,ae,fi]
   rw[dU (by omega) (by omega),N.pk (by omega),bY]
   rfl
 ·right
  obtain rfl:k=t.2.1.length:=by omega
  intro R kn kx
  rw[aW.L1.step,aR (by omega),ah]
  simp only[bE,aW.L1.F,aa,aQ,cH,aZ,cK]
theorem aW.ok:aW.Ok:=by
 rintro⟨is,os,nt,u⟩ ⟨⟨h1,h2⟩,h3,h4⟩
 have h1:is.length<=1000:=h1
 have h3:os.length<=1000:=h3
 rw[aW.eq,aW.L0.run (d:=((is,os,nt,u),0,(0,()),0,(nt,()),[])) ⟨by show is.length<=_;omega,0,aV _,rfl,rfl,aV _,h2⟩]
 simp only[ab,aW.L0.add,aW.L0.F,bH,aI,aS,aO,List.map_id']
 rw[aW.L1.run (d:=((is,os,nt,u),0,(0,()),is.length,0,(nt,()),is,[])) ⟨⟨h3,h4⟩,0,aV _,rfl,rfl,rfl⟩]
 simp only[ab,bE,aW.L1.F,bH,aI,aS,aO]
 rfl
theorem aW.run:aW.RS:=rE [.d iL] aW
def aW.sg:=aW.fS aW.ok 3 ⟨.hZ aW.L0.ok,⟨.hZ aW.L1.ok,⟨.hZ aW.L2.ok,trivial⟩⟩⟩
abbrev qN.D:=lF×lF
abbrev qN.Y:=Int
def A4(a b:lF):Int:=OU [A0 a.1 b.1,uT a.2.1 b.2.1]
def qN.aU:qN.D->Prop:=λ(a,b)=>a.1.length=32/\b.1.length=32
def qN.F:qN.D->qN.Y:=λ(a,b)=>A4 a b
def qN:Fs Tryz.prog qN.aU bE qN.F:=fK 80 Tryz.f80 (λ(a,b)=>([.d jk a,.d jk b],[])) (λx=>⟨.d ti x,[],[]⟩) [some jk,some jk] [oQ.sg,lK.sg,gY.sg]
theorem qN.eq{R:Type}(a b)(k:K1 R):qN.A (a,b) k=
 av (oQ.call ((cut a.1 0 32),(cut b.1 0 32))) λx1=>
 av (lK.call (a.2.1,b.2.1)) λx2=>
 av (gY.call [x1,x2]) λx3=>
 k (qN.out x3):=by kernel_rfl
theorem qN.ok:qN.Ok:=by
 rintro⟨a,b⟩ ⟨ha,hb⟩
 have ha:a.1.length=32:=ha
 have hb:b.1.length=32:=hb
 have c1:cut a.1 0 32=a.1:=fi ha
 have c2:cut b.1 0 32=b.1:=fi hb
 rw[qN.eq,c1,c2,oQ.run (d:=(a.1,b.1)) trivial]
 simp only[ab,bE,oQ.F]
 rw[lK.run (d:=(a.2.1,b.2.1)) trivial]
 simp only[ab,bE,lK.F]
 rw[gY.run (d:=[A0 a.1 b.1,uT a.2.1 b.2.1]) (by show 2<=_;decide)]
 simp only[ab,bE,gY.F,bE,qN.F,A4]
theorem qN.run:qN.RS:=rE [.d jk,.d jk] qN
def qN.sg:=qN.fS qN.ok
def lx:List Int->List Int->Int
 |x::xs,y::ys=>if x≠y then(if x < y then -1 else 1) else lx xs ys
 |_,_=>0
theorem EH:∀a,lx a a=0
 |[]=>rfl
 |x::a=>by simp[lx,EH a]
theorem Mi:∀ {a b:List Int},a.length=b.length->lx a b=0->a=b
 |[],[],_,_=>rfl
 |[],_::_,h,_=>by simp at h
 |_::_,[],h,_=>by simp at h
 |x::a,y::b,h,h2=>by
  simp only[lx]at h2
  split at h2
  ·split at h2 <;> omega
  ·rename_i e
   have e:x=y:=by omega
   rw[e,Mi (by simpa using h) h2]
theorem ua:∀a b:List Int,lx b a= - lx a b
 |[],[]=>rfl
 |[],_::_=>rfl
 |_::_,[]=>rfl
 |x::a,y::b=>by
  simp only[lx]
  by_cases h:x=y
  ·rw[if_neg (by omega),if_neg (by omega),ua a b]
  ·rw[if_pos (by omega),if_pos h]
   by_cases h2:x < y
   ·rw[if_neg (by omega),if_pos h2];rfl
   ·rw[if_pos (by omega),if_neg h2]
theorem vc:∀ {a b c:List Int},a.length=b.length->b.length=c.length->lx a b<=0->lx b c<=0->lx a c<=0/\(lx a c=0->lx a b=0/\lx b c=0)
 |[],[],[],_,_,_,_=>by simp[lx]
 |x::a,y::b,z::c,h1,h2,h3,h4=>by
  have ih:=vc (a:=a) (b:=b) (c:=c) (by simpa using h1) (by simpa using h2)
  simp only[lx]at h3 h4 ⊢
  by_cases e1:x=y
  ·by_cases e2:y=z
   ·rw[if_neg (by omega)]at h3 h4
    rw[if_neg (by omega),if_neg (by omega),if_neg (by omega)]
    exact ih h3 h4
   ·rw[if_neg (by omega)]at h3
    rw[if_pos e2]at h4
    rw[if_pos (by omega)]
    by_cases e3:y < z
    ·rw[if_pos (by omega)]
     exact⟨by omega,λh=>by omega⟩
    ·rw[if_neg e3]at h4;omega
  ·rw[if_pos e1]at h3
   by_cases e3:x < y
   ·by_cases e2:y=z
    ·rw[if_pos (by omega),if_pos (by omega)]
     exact⟨by omega,λh=>by omega⟩
    ·rw[if_pos e2]at h4
     by_cases e4:y < z
     ·rw[if_pos (by omega),if_pos (by omega)]
      exact⟨by omega,λh=>by omega⟩
     ·rw[if_neg e4]at h4;omega
   ·rw[if_neg e3]at h3;omega
 |[],_::_,_,h,_,_,_=>by simp at h
 |_::_,[],_,h,_,_,_=>by simp at h
 |_,[],_::_,_,h,_,_=>by simp at h
 |_,_::_,[],_,h,_,_=>by simp at h
def S3(a b:Int):Int:=if a=0 then b else a
theorem AP{p:Int}{a b:List Int}:lx (p::a) (p::b)=lx a b:=by simp[lx]
theorem vT{p q:Int}{a b:List Int}(h:¬p=q):lx (p::a) (q::b)=if p < q then -1 else 1:=by simp[lx,h]
theorem Jj:∀ {a b:List Int} (x y:Int),a.length=b.length->lx (a++ [x]) (b++ [y])=S3 (lx a b) (uT x y)
 |[],[],x,y,_=>by
  show lx [x] [y]=S3 0 (uT x y)
  simp only[S3,if_true]
  unfold uT
  by_cases h:x=y
  ·subst h
   rw[AP,if_neg (by omega),if_neg (by omega)]
   rfl
  ·rw[vT h]
   by_cases h2:x < y
   ·rw[if_pos h2,if_pos h2]
   ·rw[if_neg h2,if_neg h2,if_pos (by omega)]
 |[],_::_,_,_,h=>by simp at h
 |_::_,[],_,_,h=>by simp at h
 |p::a,q::b,x,y,h=>by
  show lx (p::(a++ [x])) (q::(b++ [y]))=_
  by_cases h2:p=q
  ·subst h2
   rw[AP,AP]
   exact Jj x y (by simpa using h)
  ·rw[vT h2,vT h2]
   by_cases h3:p < q
   ·rw[if_pos h3];rfl
   ·rw[if_neg h3];rfl
def Lt:List UInt8->List UInt8->Int
 |x::xs,y::ys=>if x !=y then(if x < y then -1 else 1) else Lt xs ys
 |_,_=>0
theorem FI:∀(xs ys:List UInt8),xs.length=ys.length->(match(List.range xs.length).find? λi=>xs[i]! !=ys[i]! with | some i=>if xs[i]! < ys[i]! then(-1:Int) else 1 | none=>0)=Lt xs ys
 |[],[],_=>rfl
 |[],_::_,h=>by simp at h
 |_::_,[],h=>by simp at h
 |x::xs,y::ys,h=>by
  have ih:=FI xs ys (by simpa using h)
  rw[aD,List.range_succ_eq_map,List.find?_cons]
  simp only[List.getElem!_cons_zero,Lt]
  cases hb:(x !=y) with
  |true=>simp
  |false=>
   simp only[bJ,if_false]
   rw[List.find?_map,<-ih]
   have e:((λi=>(x::xs)[i]! !=(y::ys)[i]!)∘Nat.succ)=λi=>xs[i]! !=ys[i]! :=by
    funext i;simp
   rw[e]
   cases(List.range xs.length).find? λi=>xs[i]! !=ys[i]! <;> simp
theorem IY:∀ {a b:List Int},(∀x∈a,0<=x/\x < 256)->(∀x∈b,0<=x/\x < 256)->Lt (a.map λn=>UInt8.ofNat n.toNat) (b.map λn=>UInt8.ofNat n.toNat)=lx a b
 |[],_,_,_=>by cases ‹List Int› <;> rfl
 |_::_,[],_,_=>rfl
 |x::a,y::b,ha,hb=>by
  have hx:=ha x (aN ..)
  have hy:=hb y (aN ..)
  have ih:=IY (a:=a) (b:=b) (λz hz=>ha z (aL _ hz)) (λz hz=>hb z (aL _ hz))
  simp only[bR,Lt,lx,ih]
  have e1:(UInt8.ofNat x.toNat).toNat=x.toNat:=by simp[UInt8.toNat_ofNat];omega
  have e2:(UInt8.ofNat y.toNat).toNat=y.toNat:=by simp[UInt8.toNat_ofNat];omega
  by_cases h:x=y
  ·subst h;simp
  ·have jb:(UInt8.ofNat x.toNat !=UInt8.ofNat y.toNat)=true:=by
    rw[bne_iff_ne]
    intro e
    have:=congrArg UInt8.toNat e
    rw[e1,e2]at this
    omega
   rw[jb,if_pos rfl,if_pos h]
   have jt:UInt8.ofNat x.toNat < UInt8.ofNat y.toNat↔x < y:=by
    rw[UInt8.lt_iff_toNat_lt,e1,e2];omega
   by_cases h2:x < y
   ·rw[if_pos (jt.2 h2),if_pos h2]
   ·rw[if_neg (λe=>h2 (jt.1 e)),if_neg h2]
theorem Nl{a b:List Int}(hl:a.length=b.length)(ha:∀x∈a,0<=x/\x < 256)(hb:∀x∈b,0<=x/\x < 256):A0 a b=lx a b:=by
 rw[<-IY ha hb,<-FI _ _ (by simpa using hl)]
 unfold A0 Extern.BytealgCompare.cmp
 have s1:∀l:List Int,(fD l).size=l.length:=λl=>by simp[fD,ByteArray.size]
 have g1:∀(l:List Int) (i:Nat),(fD l)[i]! =(l.map λn=>UInt8.ofNat n.toNat)[i]! :=λl i=>by
  by_cases h:i < (fD l).size
  ·rw[getElem!_pos _ i h]
   have h2:i < (l.map λn=>UInt8.ofNat n.toNat).length:=by simpa[fD,ByteArray.size]using h
   rw[getElem!_pos _ i h2]
   rfl
  ·rw[getElem!_neg _ i h]
   have h2:¬i < (l.map λn=>UInt8.ofNat n.toNat).length:=by simpa[fD,ByteArray.size]using h
   rw[getElem!_neg _ i h2]
 simp only[s1,g1,hl,Nat.min_self,cR]
 cases(List.range b.length).find? λi=>(a.map λn=>UInt8.ofNat n.toNat)[i]! !=(b.map λn=>UInt8.ofNat n.toNat)[i]! <;> simp
def M0(o:lF):Prop:=o.1.length=32/\∀x∈o.1,0<=x/\x < 256
def rC(o:lF):List Int:=o.1++ [o.2.1]
theorem mG{o:lF}(h:M0 o):(rC o).length=33:=by simp[rC,h.1]
theorem GD{a b:lF}(ha:M0 a)(hb:M0 b)(h:rC a=rC b):a=b:=by
 obtain⟨a1,a2,_⟩:=a
 obtain⟨b1,b2,_⟩:=b
 have h:a1++ [a2]=b1++ [b2]:=h
 have:=List.append_inj' h rfl
 rw[this.1,show a2=b2 by simpa using this.2]
theorem oR{a b:lF}(ha:M0 a)(hb:M0 b):A4 a b=lx (rC a) (rC b):=by
 unfold rC A4
 rw[Jj _ _ (ha.1.trans hb.1.symm),Nl (ha.1.trans hb.1.symm) ha.2 hb.2]
 simp only[OU,S3]
 by_cases h:lx a.1 b.1=0
 ·rw[if_pos h,if_neg (λe=>e h)]
  split
  ·rfl
  ·omega
 ·rw[if_neg h,if_pos h]
theorem A5:Of Tryz.prog jk 80 M0 A4:= {
 cz:=⟨qN.E,qN.sg.h.1 (by rfl),λx y hx hy=>⟨_,qN.run (d:=(x,y)) ⟨hx.1,hy.1⟩,rfl⟩⟩
 enters:=enters_of Tryz.func80 (by kernel_rfl) rfl
 irrefl:=λx hx=>by rw[oR hx hx,EH];decide
 trans:=λx y z hx hy hz h1 h2=>by
  rw[oR hx hy]at h1
  rw[oR hy hz]at h2
  rw[oR hx hz]
  have:=vc (by rw[mG hx,mG hy]) (by rw[mG hy,mG hz]) (by omega:lx (rC x) (rC y)<=0) (by omega:lx (rC y) (rC z)<=0)
  have h3:=this.1
  by_cases h4:lx (rC x) (rC z)=0
  ·have:=(this.2 h4).1;omega
  ·omega
 ntrans:=λx y z hx hy hz h1 h2=>by
  rw[oR hx hy]at h1
  rw[oR hy hz]at h2
  rw[oR hx hz]
  have e1:=ua (rC x) (rC y)
  have e2:=ua (rC y) (rC z)
  have e3:=ua (rC x) (rC z)
  have:=(vc (by rw[mG hz,mG hy]) (by rw[mG hy,mG hx]) (by omega:lx (rC z) (rC y)<=0) (by omega:lx (rC y) (rC x)<=0)).1
  omega}
theorem A6{x y:lF}(hx:M0 x)(hy:M0 y)(h1:¬A4 x y < 0)(h2:¬A4 y x < 0):x=y:=by
 rw[oR hx hy]at h1
 rw[oR hy hx,ua]at h2
 exact GD hx hy (Mi (by rw[mG hx,mG hy]) (by omega))
end Go.Ab
namespace Go.Proofs
open Go.Shelf
def Tryz.IA:Go.Shelf.Ren:=⟨λ | 6=>102 | 15=>155 | 14=>166 | 28=>214 | 29=>215 | 20=>226 | 21=>227 | 22=>228 | 23=>229 | 24=>230 | 25=>231 | 26=>232 | 27=>233 | 46=>270 | 47=>256 | 48=>257 | 49=>271 | 50=>272 | 57=>285 | n=>n,λ | 22=>92 | 24=>117 | 25=>179 | 3=>3 | 39=>224 | 0=>0 | 53=>255 | 55=>22 | 4=>4 | 46=>265 | 45=>264 | 50=>66 | 5=>5 | 9=>9 | 66=>298 | 70=>301 | 76=>313 | 77=>314 | n=>n,λ | n=>n⟩
theorem Tryz.MN:Go.Proofs.SlLaysF0.n6 Tryz.prog Tryz.IA:= {
 mixed:=by kernel_rfl
 f6:=⟨Tryz.f102.name,by decide,Tryz.func102.trans (congrArg some (by kernel_rfl))⟩
 f14:=⟨Tryz.f166.name,by decide,Tryz.func166.trans (congrArg some (by kernel_rfl))⟩
 f15:=Tryz.func155.trans (congrArg some (by kernel_rfl))
 f20:=⟨Tryz.f226.name,by decide,Tryz.func226.trans (congrArg some (by kernel_rfl))⟩
 f21:=⟨Tryz.f227.name,by decide,Tryz.func227.trans (congrArg some (by kernel_rfl))⟩
 f22:=⟨Tryz.f228.name,by decide,Tryz.func228.trans (congrArg some (by kernel_rfl))⟩
 f23:=⟨Tryz.f229.name,by decide,Tryz.func229.trans (congrArg some (by kernel_rfl))⟩
 f24:=⟨Tryz.f230.name,by decide,Tryz.func230.trans (congrArg some (by kernel_rfl))⟩
 f25:=⟨Tryz.f231.name,by decide,Tryz.func231.trans (congrArg some (by kernel_rfl))⟩
 f26:=⟨Tryz.f232.name,by decide,Tryz.func232.trans (congrArg some (by kernel_rfl))⟩
 f27:=⟨Tryz.f233.name,by decide,Tryz.func233.trans (congrArg some (by kernel_rfl))⟩
 f28:=Tryz.func214.trans (congrArg some (by kernel_rfl))
 f29:=Tryz.func215.trans (congrArg some (by kernel_rfl))
 f46:=⟨Tryz.f270.name,by decide,Tryz.func270.trans (congrArg some (by kernel_rfl))⟩
 f47:=Tryz.func256.trans (congrArg some (by kernel_rfl))
 f48:=Tryz.func257.trans (congrArg some (by kernel_rfl))
 f49:=⟨Tryz.f271.name,by decide,Tryz.func271.trans (congrArg some (by kernel_rfl))⟩
 f50:=⟨Tryz.f272.name,by decide,Tryz.func272.trans (congrArg some (by kernel_rfl))⟩
 f57:=⟨Tryz.f285.name,by decide,Tryz.func285.trans (congrArg some (by kernel_rfl))⟩
 t0:=Tryz.underlying0
 a0:=Tryz.isAgg0
 z0:=Tryz.sizeOf0
 v0:=Tryz.zeroValue0
 t3:=Tryz.underlying3
 a3:=Tryz.isAgg3
 z3:=Tryz.sizeOf3
 v3:=Tryz.zeroValue3
 t4:=Tryz.underlying4
 a4:=Tryz.isAgg4
 z4:=Tryz.sizeOf4
 v4:=Tryz.zeroValue4
 t5:=Tryz.underlying5
 a5:=Tryz.isAgg5
 z5:=Tryz.sizeOf5
 v5:=Tryz.zeroValue5
 t9:=Tryz.underlying9
 a9:=Tryz.isAgg9
 z9:=Tryz.sizeOf9
 v9:=Tryz.zeroValue9
 t22:=Tryz.underlying92
 a22:=Tryz.isAgg92
 z22:=Tryz.sizeOf92
 v22:=Tryz.zeroValue92
 t25:=Tryz.underlying179
 a25:=Tryz.isAgg179
 z25:=Tryz.sizeOf179
 v25:=Tryz.zeroValue179
 t39:=Tryz.underlying224
 a39:=Tryz.isAgg224
 z39:=Tryz.sizeOf224
 v39:=Tryz.zeroValue224
 t45:=Tryz.underlying264
 a45:=Tryz.isAgg264
 z45:=Tryz.sizeOf264
 v45:=Tryz.zeroValue264
 t46:=Tryz.underlying265
 a46:=Tryz.isAgg265
 z46:=Tryz.sizeOf265
 v46:=Tryz.zeroValue265
 t50:=Tryz.underlying66
 a50:=Tryz.isAgg66
 z50:=Tryz.sizeOf66
 v50:=Tryz.zeroValue66
 t53:=Tryz.underlying255
 a53:=Tryz.isAgg255
 z53:=Tryz.sizeOf255
 v53:=Tryz.zeroValue255
 t55:=Tryz.underlying22
 a55:=Tryz.isAgg22
 z55:=Tryz.sizeOf22
 v55:=Tryz.zeroValue22
 t66:=Tryz.underlying298
 a66:=Tryz.isAgg298
 z66:=Tryz.sizeOf298
 v66:=Tryz.zeroValue298
 t70:=Tryz.underlying301
 a70:=Tryz.isAgg301
 z70:=Tryz.sizeOf301
 v70:=Tryz.zeroValue301
 t76:=Tryz.underlying313
 a76:=Tryz.isAgg313
 z76:=Tryz.sizeOf313
 v76:=Tryz.zeroValue313
 t77:=Tryz.underlying314
 a77:=Tryz.isAgg314
 z77:=Tryz.sizeOf314
 v77:=Tryz.zeroValue314}
end Go.Proofs
namespace Go.Ab
open Go.Proofs
theorem Ad{β:Type}{kt:Ty}(hc:kt.comp=true){x:kt.den}{v:β}:∀ {l:List (kt.den×β)},x ∉ l.map (·.1)->jK kt x v l=l++ [(x,v)]
 |[],_=>rfl
 |p::l,h=>by
  rw[xe]
  have h1:¬kt.beq x p.1=true:=λe=>h (by rw[beq_eq kt _ _ hc e];simp)
  rw[if_neg h1,Ad hc λe=>h (by simp[e])]
  rfl
theorem la:jk.comp=true:=rfl
def uD(l:List (lF×CD)):Int:=(l.map λp=>p.2.1.1).sum
theorem px(p:lF×CD)(l:List (lF×CD)):uD (p::l)=p.2.1.1+uD l:=by simp[uD]
theorem Fq(l l':List (lF×CD)):uD (l++l')=uD l+uD l':=by simp[uD]
theorem JF{l l':List (lF×CD)}(h:l.Perm l'):uD l=uD l':=by
 induction h with
 |nil=>rfl
 |cons x _ ih=>rw[px,px,ih]
 |swap x y l=>rw[px,px,px,px];omega
 |trans _ _ h1 h2=>rw[h1,h2]
def SD(l:Lk):Prop:=l.1.length<=1000/\∀b∈l.1,b.1.length<=1000000
abbrev p9:Ty:=(.pair ti (.pair ti (.pair ti .unit)))
abbrev rj:=(Int×(Int×(Int×Unit)))
abbrev ei:Ty:=(.pair jk (.pair iR (.pair ti (.pair tu (.pair ti (.pair ti .unit))))))
abbrev eK:=(lF×(j7×(Int×(Int×(Int×(Int×Unit))))))
abbrev oq:Ty:=(.pair (.slice ei) p9)
abbrev jz:=((List eK)×rj)
def kB(b:rj):Bool:=decide (0<=sQ b.1 b.2.1/\1<=b.2.2.1/\imax (imax b.1 b.2.1) b.2.2.1<=1000)
theorem vo{b:rj}(h:kB b=true):(0<=b.1/\b.1<=1000)/\(0<=b.2.1/\b.2.1<=1000)/\1<=b.2.2.1/\b.2.2.1<=1000:=by
 have h:=of_decide_eq_true h
 unfold sQ imax at h
 split at h <;> split at h <;> split at h <;> omega
def zm(b:rj):Int:=if kB b then b.2.2.1+b.1+b.2.1+1 else 0
def jo(b:rj):Int:=if kB b then b.2.2.1+b.1+b.2.1+1+12 else 0
theorem AU(b:rj):0<=jo b/\jo b<=3013/\(kB b=true->14<=jo b):=by
 unfold jo
 split
 ·rename_i h
  have:=vo h
  exact⟨by omega,by omega,λ_=>by omega⟩
 ·rename_i h
  exact⟨by omega,by omega,λe=>absurd e h⟩
abbrev fw.D:=rj
abbrev fw.Y:=Bool
def fw.aU:fw.D->Prop:=λ_=>True
def fw.F:fw.D->fw.Y:=λb=>kB b
def fw:Fs Tryz.prog fw.aU bE fw.F:=fK 98 Tryz.f98 (λb=>([.d p9 b],[])) (λx=>⟨.d .bool x,[],[]⟩) [some p9]
theorem fw.eq{R:Type}(b)(k:K1 R):fw.A b k=
  aJ ((qQ (sQ b.1 b.2.1) 0)) (
   aJ ((qQ b.2.2.1 1)) (
    k (fw.out (zS (imax (imax b.1 b.2.1) b.2.2.1) 1000))) (
    k (fw.out false))) (
   k (fw.out false)):=by kernel_rfl
theorem fw.ok:fw.Ok:=by
 intro b _
 rw[fw.eq]
 simp only[bE,fw.F,kB]
 by_cases a1:0<=sQ b.1 b.2.1
 ·rw[eQ a1,ae]
  by_cases a2:1<=b.2.2.1
  ·rw[eQ a2,ae]
   by_cases a3:imax (imax b.1 b.2.1) b.2.2.1<=1000
   ·rw[ix a3,decide_eq_true ⟨a1,a2,a3⟩]
   ·rw[ga (by omega),decide_eq_false (λe=>a3 e.2.2)]
  ·rw[dQ (by omega),ah,decide_eq_false (λe=>a2 e.2.1)]
 ·rw[dQ (by omega),ah,decide_eq_false (λe=>a1 e.1)]
theorem fw.run:fw.RS:=rE [.d p9] fw
def fw.sg:=fw.fS fw.ok
abbrev iW.D:=rj
abbrev iW.Y:=Int
def iW.aU:iW.D->Prop:=λ_=>True
def iW.F:iW.D->iW.Y:=λb=>zm b
def iW:Fs Tryz.prog iW.aU bE iW.F:=fK 122 Tryz.f122 (λb=>([.d p9 b],[])) (λx=>⟨.d ti x,[],[]⟩) [some p9] [fw.sg]
theorem iW.eq{R:Type}(b)(k:K1 R):iW.A b k=
  av (fw.call b) λx1=>
  aJ ((!x1)) (
   k (iW.out 0)) (
   k (iW.out (bt .i64 (bt .i64 (bt .i64 b.2.2.1 b.1) b.2.1) 1))):=by kernel_rfl
theorem iW.ok:iW.Ok:=by
 intro b _
 rw[iW.eq,fw.run (d:=b) trivial]
 simp only[ab,bE,fw.F,bE,iW.F,zm]
 cases h:kB b with
 |false=>rfl
 |true=>
  obtain⟨⟨h1,h2⟩,⟨h3,h4⟩,h5,h6⟩:=vo h
  rw[cq,ah,eC (x:=b.2.2.1) (by omega) (by omega),eC (x:=b.2.2.1+b.1) (by omega) (by omega),eC (by omega) (by omega)]
  rfl
theorem iW.run:iW.RS:=rE [.d p9] iW
def iW.sg:=iW.fS iW.ok
abbrev iF.D:=rj
abbrev iF.Y:=Int
def iF.aU:iF.D->Prop:=λ_=>True
def iF.F:iF.D->iF.Y:=λb=>jo b
def iF:Fs Tryz.prog iF.aU bE iF.F:=fK 57 Tryz.f57 (λb=>([.d p9 b],[])) (λx=>⟨.d ti x,[],[]⟩) [some p9] [fw.sg,iW.sg]
theorem iF.eq{R:Type}(b)(k:K1 R):iF.A b k=
  av (fw.call b) λx1=>
  aJ ((!x1)) (
   k (iF.out 0)) (
   av (iW.call b) λx2=>
   k (iF.out (bt .i64 x2 12))):=by kernel_rfl
theorem iF.ok:iF.Ok:=by
 intro b _
 rw[iF.eq,fw.run (d:=b) trivial]
 simp only[ab,bE,fw.F,bE,iF.F,jo]
 cases h:kB b with
 |false=>rfl
 |true=>
  obtain⟨⟨h1,h2⟩,⟨h3,h4⟩,h5,h6⟩:=vo h
  rw[cq,ah,iW.run (d:=b) trivial]
  simp only[ab,bE,iW.F,zm,h,if_true]
  rw[eC (by omega) (by omega)]
theorem iF.run:iF.RS:=rE [.d p9] iF
def iF.sg:=iF.fS iF.ok
def yN(x:eK)(h:Int):Bool:=decide (x.2.2.2.2.1<=h/\(x.2.2.2.2.2.1=0\/h < x.2.2.2.2.2.1))
def E6(n:Int)(x:eK):Int:=if x.2.2.2.1≠0 then n+18+4 else n+18
def sI(l:List eK):Int:=if l.length=0 then 0 else l.foldl E6 18
theorem zC:∀(l:List eK) (n:Int),n+18*(l.length:Int)<=l.foldl E6 n/\l.foldl E6 n<=n+22*(l.length:Int)
 |[],n=>by simp
 |x::l,n=>by
  have h1:=zC l (E6 n x)
  have h2:n+18<=E6 n x/\E6 n x<=n+22:=by unfold E6;split <;> omega
  rw[cZ,aD]
  omega
theorem ot(l:List eK):0<=sI l/\sI l<=18+22*(l.length:Int):=by
 unfold sI
 have:=zC l 18
 split <;> omega
abbrev alone.D:=eK×Int
abbrev alone.Y:=Bool
def alone.aU:alone.D->Prop:=λ_=>True
def alone.F:alone.D->alone.Y:=λ(x,h)=>yN x h
def alone:Fs Tryz.prog alone.aU bE alone.F:=fK 55 Tryz.f55 (λ(x,atv)=>([.d ei x,.d ti atv],[])) (λx=>⟨.d .bool x,[],[]⟩) [some ei,some ti]
theorem alone.eq{R:Type}(x atv)(k:K1 R):alone.A (x,atv) k=
  aJ ((zS x.2.2.2.2.1 atv)) (
   aJ ((wy x.2.2.2.2.2.1 0)) (
    k (alone.out true)) (
    k (alone.out (ik atv x.2.2.2.2.2.1)))) (
   k (alone.out false)):=by kernel_rfl
theorem alone.ok:alone.Ok:=by
 rintro⟨x,h⟩ _
 rw[alone.eq]
 simp only[bE,alone.F,yN]
 by_cases a1:x.2.2.2.2.1<=h
 ·rw[ix a1,ae]
  by_cases a2:x.2.2.2.2.2.1=0
  ·rw[iw a2,ae,decide_eq_true ⟨a1,.inl a2⟩]
  ·rw[gl a2,ah]
   by_cases a3:h < x.2.2.2.2.2.1
   ·rw[bh a3,decide_eq_true ⟨a1,.inr a3⟩]
   ·rw[aR a3,decide_eq_false (λe=>e.2.elim a2 a3)]
 ·rw[ga a1,ah,decide_eq_false (λe=>a1 e.1)]
theorem alone.run:alone.RS:=rE [.d ei,.d ti] alone
def alone.sg:=alone.fS alone.ok
abbrev cD.L0.D:=Int×(List eK)×Int×Int
abbrev cD.L0.Y:=Int
abbrev cD.D:=(List eK)
abbrev cD.Y:=Int
def cD.L0.aU:cD.L0.D->Prop:=λ(n,l,m,i)=>(l).length<=1000000000/\∃k:Nat,k<=(l).length/\i=k/\m=(l).length/\(0<=n)/\(n<=18+22*(k:Int))
def cD.L0.F:cD.L0.D->cD.L0.Y:=λ(n,l,m,i)=>(List.drop (Int.toNat i) l).foldl E6 n
def cD.aU:cD.D->Prop:=λl=>l.length<=1000000000
def cD.F:cD.D->cD.Y:=λl=>sI l
def cD.L0:Ls cD.L0.aU bE cD.L0.F:=pG (λ(n,t9,t10,t11)=>⟨([.undef,.undef,.undef,.d ti n]++bj 5 ([.d (.slice ei) t9,.d ti t10,.d ti t11]++bj 12 [])),[],(List.replicate 24 [])⟩) (λx=>(.exit 0,⟨([.undef,.undef,.undef,.d ti x]++bj 20 []),[],(List.replicate 24 [])⟩))
def cD:Fs Tryz.prog cD.aU bE cD.F:=fK 46 Tryz.f46 (λl=>([.d (.slice ei) l],[])) (λx=>⟨.d ti x,[],[]⟩) [some (.slice ei)] [] {loops:=oM [(5,{bm:=[3,9,10,11]})],outs:=oL [(5,{bm:=[3]},{bm:=[2]})],iA:=pq [(5,cD.L0.E)]}
theorem cD.L0.run:cD.L0.RS:=rL [.d ti,.d (.slice ei),.d ti,.d ti] cD.L0
theorem cD.L0.step{R:Type}(n t9 t10 t11)(kn:K2 R)(kx:K3 R):cD.R 0 cD.L0 (n,t9,t10,t11) kn kx=
  aJ ((ik t11 t10)) (
   aJ (eY t11 (t9.length:Int)) (
   aJ ((sR (nth ei t9 (Int.toNat t11)).2.2.2.1 0)) (
    kn (cD.L0.st ((bt .i64 (bt .i64 n 18) 4),t9,t10,(bt .i64 t11 1)))) (
    kn (cD.L0.st ((bt .i64 n 18),t9,t10,(bt .i64 t11 1))))) none) (
   cD.L0.go kx n):=by kernel_rfl
theorem cD.eq{R:Type}(l)(k:K1 R):cD.A l k=
  aJ ((wy (l.length:Int) 0)) (
   k (cD.out 0)) (
   av (cD.L0.call (18,l,(l.length:Int),0)) λx1=>
   k (cD.out x1)):=by kernel_rfl
theorem cD.L0.ok:(cD.lE 0 cD.L0):=by
 refine(cD.mr 0 cD.L0) (λ(n,l,m,i)=>(l).length - Int.toNat i) ?_
 rintro⟨n,l,m,i⟩ ⟨hlen,k,hk,rfl,rfl,h1,h2⟩
 have hlen:(l).length<=1000000000:=hlen
 have hk:k<=(l).length:=hk
 have h1:0<=n:=h1
 have h2:n<=18+22*(k:Int):=h2
 by_cases h:k < (l).length
 ·left
  have n1:nth ei l k=l[k]:=dg (t:=ei) h
  have hd:List.drop k l=l[k]::List.drop (k+1) l:=aq h
  refine⟨((E6 n l[k]),l,((l).length:Int),((k+1:Nat):Int)),⟨hlen,k+1,by omega,rfl,rfl,by have:=(zC [l[k]] n).1;simp only[cZ,gK,aD,aZ]at this;omega,by have:=(zC [l[k]] n).2;simp only[cZ,gK,aD,aZ]at this;omega⟩,by simp only[aa];omega,?_,λkn kx=> ?_⟩
  ·simp only[bE,cD.L0.F,aa,hd,cZ]
  ·rw[cD.L0.step,bh (by omega),bp (by omega) (by omega),aa,n1]
   simp only[ae]
   rw[N.pk (by omega),eC (x:=n) (by omega) (by omega),eC (x:=n+18) (by omega) (by omega)]
   unfold E6
   by_cases hs:l[k].2.2.2.1=0
   ·rw[cS hs,ah,if_neg (λe=>e hs)]
   ·rw[eI hs,ae,if_pos hs]
 ·right
  obtain rfl:k=(l).length:=by omega
  intro R kn kx
  rw[cD.L0.step,aR (by omega),ah]
  simp only[bE,cD.L0.F,aa,aQ,gK]
theorem cD.ok:cD.Ok:=by
 intro l (h:l.length<=1000000000)
 have z1:((0:Int)).toNat=0:=rfl
 rw[cD.eq]
 simp only[bE,cD.F,sI]
 by_cases h0:l.length=0
 ·rw[iw (by omega),ae,if_pos h0]
 ·rw[gl (by omega),ah,if_neg h0,cD.L0.run (d:=(18,l,(l.length:Int),0)) ⟨h,0,aV _,rfl,rfl,by decide,by decide⟩]
  simp only[ab,bE,cD.L0.F,z1,aI]
theorem cD.run:cD.RS:=rE [.d (.slice ei)] cD
def cD.sg:=cD.fS cD.ok 1 ⟨.hZ cD.L0.ok,trivial⟩
abbrev cV.L0.D:=Nat×Int×Int×lF×Int×Nat×(Int×(Int×(Int×(Int×Unit))))×lF×Int×(Int×(Int×(Int×(Int×Unit))))×(List sN)
abbrev cV.L0.Y:=(List sN)
abbrev cV.L0.X:=(lF×Int×Nat×(Int×(Int×(Int×(Int×Unit))))×lF×Int×(Int×(Int×(Int×(Int×Unit)))))×((List sN))
def cV.L0.add:cV.L0.D->cV.L0.Y->cV.L0.X:=λ(KP,t17,t18,n1,zk,Fc,xg,n2,mE,om,n9) y=>((n1,zk,Fc,xg,n2,mE,om),y)
abbrev cV.D:=eK
abbrev cV.Y:=eK
def cV.L0.aU:cV.L0.D->Prop:=λ(m,t,i,_,_,n,_,_,_,_,l)=>(l.length<=1000/\∀b∈l,b.1.length<=1000000)/\∃k:Nat,k<=l.length/\i=k/\n=l.length/\m=l.length/\t=l.length
def cV.L0.F:cV.L0.D->cV.L0.Y:=λ(_,_,_,_,_,_,_,_,_,_,l)=>l
def cV.aU:cV.D->Prop:=λx=>SD x.2.1.2.1
def cV.F:cV.D->cV.Y:=λx=>x
def cV.L0:Ls cV.L0.aU cV.L0.add cV.L0.F:=pG (λ(KP,t17,t18,n1,zk,Fc,xg,n2,mE,om,n9)=>⟨([.undef,.ptr (.new 1 0) 0 [] 0,.ptr (.new 2 0) 0 [] 0]++bj 13 ([.cP (.new 9 0) 0 [] 0 0 KP,.d ti t17,.d ti t18]++bj 16 [])),[],([[],[.obj 0 false (.pr (.d jk n1) (.pr (.pr (.d ti zk) (.pr (.pr (.cP (.new 9 0) 0 [] 0 0 Fc) (.d .unit ())) (.d .unit ()))) (.d (.pair ti (.pair tu (.pair ti (.pair ti .unit)))) xg)))],[.obj 0 false (.pr (.d jk n2) (.pr (.pr (.d ti mE) (.pr (.pr (.df) (.d .unit ())) (.d .unit ()))) (.d (.pair ti (.pair tu (.pair ti (.pair ti .unit)))) om)))]]++cg 6 ([[.obj 0 false (.vec 29 kK n9)]]++cg 25 []))⟩) (λx=>(.exit 0,⟨([.undef,.ptr (.new 1 0) 0 [] 0,.ptr (.new 2 0) 0 [] 0]++bj 32 []),[],([[],[.obj 0 false (.pr (.d jk x.1.1) (.pr (.pr (.d ti x.1.2.1) (.pr (.pr (.cP (.new 9 0) 0 [] 0 0 x.1.2.2.1) (.d .unit ())) (.d .unit ()))) (.d (.pair ti (.pair tu (.pair ti (.pair ti .unit)))) x.1.2.2.2.1)))],[.obj 0 false (.pr (.d jk x.1.2.2.2.2.1) (.pr (.pr (.d ti x.1.2.2.2.2.2.1) (.pr (.pr (.df) (.d .unit ())) (.d .unit ()))) (.d (.pair ti (.pair tu (.pair ti (.pair ti .unit)))) x.1.2.2.2.2.2.2)))]]++cg 6 ([[.obj 0 false (.vec 29 kK x.2)]]++cg 25 []))⟩))
def cV:Fs Tryz.prog cV.aU bE cV.F:=fK 101 Tryz.f101 (λx=>([.d ei x],[])) (λx=>⟨.d ei x,[],[]⟩) [some ei] [nu.sg,gh.sg] {bU:=[1],loops:=oM [(3,{bm:=[1,2,16,17,18],sites:=[1,2,9]})],outs:=oL [(3,{bm:=[1,2],sites:=[1,2,9]},{bm:=[2]})],iA:=pq [(3,cV.L0.E)],res:=[some ei]}
theorem cV.L0.run:cV.L0.RS:=rL [.n,.d ti,.d ti,.d jk,.d ti,.n,.d (.pair ti (.pair tu (.pair ti (.pair ti .unit)))),.d jk,.d ti,.d (.pair ti (.pair tu (.pair ti (.pair ti .unit)))),.d (.slice kK)] cV.L0
theorem cV.L0.step{R:Type}(KP t17 t18 n1 zk Fc xg n2 mE om n9)(kn:K2 R)(kx:K3 R):cV.R 0 cV.L0 (KP,t17,t18,n1,zk,Fc,xg,n2,mE,om,n9) kn kx=
  aJ ((ik t18 t17)) (
   aJ (eY t18 ((KP:Nat):Int)) (
   aJ (decide ((0+(Int.toNat t18)) < (List.length n9))) (
   aJ (decide ((((0+(Int.toNat t18))*4)+0)=(0+((Int.toNat t18)*4)))) (
   av (gh.call (nth kK n9 (0+(Int.toNat t18))).1) λx1=>
   aJ (eY t18 ((Fc:Nat):Int)) (
   aJ (decide ((0+(Int.toNat t18)) < (List.length n9))) (
   aJ (decide ((((0+(Int.toNat t18))*4)+0)=((0+((Int.toNat t18)*4))+0))) (
   aJ (decide ((0+(Int.toNat t18)) < (List.length n9))) (
   kn (cV.L0.st (KP,t17,(bt .i64 t18 1),n1,zk,Fc,xg,n2,mE,om,(List.set n9 (0+(Int.toNat t18)) (x1,(nth kK n9 (0+(Int.toNat t18))).2))))) none) none) none) none) none) none) none) (
   cV.L0.go kx ((n1,zk,Fc,xg,n2,mE,om),n9)):=by kernel_rfl
theorem cV.eq{R:Type}(x)(k:K1 R):cV.A x k=
 av (nu.call x.2.1.2.1.1) λx1=>
 av (cV.L0.call (x1.1,((x1.1:Nat):Int),0,x.1,x.2.1.1,x1.1,x.2.2,((List.replicate 32 0),(0,())),0,(0,(0,(0,(0,())))),x1.2)) λx3=>
 aJ (decide (0=0/\(0+x3.1.2.2.1)<=(List.length x3.2))) (
 k (cV.out (x3.1.1,((x3.1.2.1,(((cut x3.2 0 x3.1.2.2.1),()),())),x3.1.2.2.2.1)))) none:=by kernel_rfl
theorem cV.L0.ok:(cV.lE 0 cV.L0):=by
 refine(cV.mr 0 cV.L0) (λ(_,_,i,_,_,_,_,_,_,_,l)=>l.length - i.toNat) ?_
 rintro⟨m,t,i,a1,a2,n,a3,a4,a5,a6,l⟩ ⟨⟨hlen,hx⟩,k,hk,rfl,rfl,rfl,rfl⟩
 have hlen:l.length<=1000:=hlen
 have hk:k<=l.length:=hk
 by_cases h:k < l.length
 ·left
  have n1:nth kK l k=l[k]:=dg (t:=kK) h
  have hs:l.set k l[k]=l:=gI h
  have e:=hx _ (bw h)
  refine⟨(l.length,(l.length:Int),((k+1:Nat):Int),a1,a2,l.length,a3,a4,a5,a6,l),⟨⟨hlen,hx⟩,k+1,by omega,rfl,rfl,rfl,rfl⟩,by simp only[aa];omega,rfl,λkn kx=> ?_⟩
  rw[cV.L0.step,bh (by omega),bp (by omega) (by omega)]
  simp only[aa,aO,cK,ae,aP h,decide_true,n1]
  rw[gh.run (d:=l[k].1) e]
  simp only[ab,bE,gh.F]
  rw[N.pk (by omega)]
  exact congrArg (λz=>kn (cV.L0.st (_,_,_,_,_,_,_,_,_,_,z))) hs
 ·right
  obtain rfl:k=l.length:=by omega
  intro R kn kx
  rw[cV.L0.step,aR (by omega),ah]
  rfl
theorem cV.ok:cV.Ok:=by
 rintro⟨a,⟨am,⟨l,u⟩,u2⟩,r⟩ ⟨h1,h2⟩
 have h1:l.length<=1000:=h1
 rw[cV.eq,nu.run (d:=l) (by show l.length<=_;omega)]
 simp only[ab,bE,nu.F]
 rw[cV.L0.run (d:=(l.length,(l.length:Int),0,a,am,l.length,r,(List.replicate 32 0,0,()),0,(0,0,0,0,()),l)) ⟨⟨h1,h2⟩,0,aV _,rfl,rfl,rfl,rfl⟩]
 simp only[ab,cV.L0.add,cV.L0.F,bE,cV.F]
 rw[aP ⟨trivial,by omega⟩,ae,fi rfl]
theorem cV.run:cV.RS:=rE [.d ei] cV
def cV.sg:=cV.fS cV.ok 1 ⟨.hZ cV.L0.ok,trivial⟩
abbrev fj.D:=eK×eK
abbrev fj.Y:=Int
def fj.aU:fj.D->Prop:=λ(x,y)=>x.1.1.length=32/\y.1.1.length=32
def fj.F:fj.D->fj.Y:=λ(x,y)=>A4 x.1 y.1
def fj:Fs Tryz.prog fj.aU bE fj.F:=fK 104 Tryz.f104 (λ(x,yv)=>([.d ei x,.d ei yv],[])) (λx=>⟨.d ti x,[],[]⟩) [some ei,some ei] [oQ.sg,lK.sg,gY.sg]
theorem fj.eq{R:Type}(x yv)(k:K1 R):fj.A (x,yv) k=
 av (oQ.call ((cut x.1.1 0 32),(cut yv.1.1 0 32))) λx1=>
 av (lK.call (x.1.2.1,yv.1.2.1)) λx2=>
 av (gY.call [x1,x2]) λx3=>
 k (fj.out x3):=by kernel_rfl
theorem fj.ok:fj.Ok:=by
 rintro⟨x,y⟩ ⟨h1,h2⟩
 have h1:x.1.1.length=32:=h1
 have h2:y.1.1.length=32:=h2
 rw[fj.eq,oQ.run (d:=(cut x.1.1 0 32,cut y.1.1 0 32)) trivial,fi h1,fi h2]
 simp only[ab,bE,oQ.F]
 rw[lK.run (d:=(x.1.2.1,y.1.2.1)) trivial]
 simp only[ab,bE,lK.F]
 rw[gY.run (d:=[A0 x.1.1 y.1.1,uT x.1.2.1 y.1.2.1]) (by show 2<=_;decide)]
 rfl
theorem fj.run:fj.RS:=rE [.d ei,.d ei] fj
def fj.sg:=fj.fS fj.ok
def rT(x y:eK):Int:=OU [uT x.2.2.2.2.2.1 y.2.2.2.2.2.1,A4 x.1 y.1]
def CM(x y:eK):Int:=A4 x.1 y.1
abbrev jA.D:=eK×eK
abbrev jA.Y:=Int
def jA.aU:jA.D->Prop:=λ(x,y)=>x.1.1.length=32/\y.1.1.length=32
def jA.F:jA.D->jA.Y:=λ(x,y)=>rT x y
def jA:Fs Tryz.prog jA.aU bE jA.F:=fK 103 Tryz.f103 (λ(x,yv)=>([.d ei x,.d ei yv],[])) (λx=>⟨.d ti x,[],[]⟩) [some ei,some ei] [lK.sg,fj.sg,gY.sg]
theorem jA.eq{R:Type}(x yv)(k:K1 R):jA.A (x,yv) k=
 av (lK.call (x.2.2.2.2.2.1,yv.2.2.2.2.2.1)) λx1=>
 av (fj.call (x,yv)) λx2=>
 av (gY.call [x1,x2]) λx3=>
 k (jA.out x3):=by kernel_rfl
theorem jA.ok:jA.Ok:=by
 rintro⟨x,y⟩ h
 rw[jA.eq,lK.run (d:=(x.2.2.2.2.2.1,y.2.2.2.2.2.1)) trivial]
 simp only[ab,bE,lK.F]
 rw[fj.run (d:=(x,y)) h]
 simp only[ab,bE,fj.F]
 rw[gY.run (d:=[uT x.2.2.2.2.2.1 y.2.2.2.2.2.1,A4 x.1 y.1]) (by show 2<=_;decide)]
 rfl
theorem jA.run:jA.RS:=rE [.d ei,.d ei] jA
def jA.sg:=jA.fS jA.ok
def Fg(x:eK):Prop:=M0 x.1
def sF(x:eK):List Int:=x.2.2.2.2.2.1::rC x.1
theorem nG{x:eK}(h:Fg x):(sF x).length=34:=by unfold sF;rw[aD,mG h]
theorem oS{x y:eK}(hx:Fg x)(hy:Fg y):rT x y=lx (sF x) (sF y):=by
 unfold rT sF
 rw[oR hx hy]
 simp only[OU]
 by_cases h:x.2.2.2.2.2.1=y.2.2.2.2.2.1
 ·have e:uT x.2.2.2.2.2.1 y.2.2.2.2.2.1=0:=by unfold uT;rw[if_neg (by omega),if_neg (by omega)]
  rw[e,if_neg (λe=>e rfl),h,AP]
  split
  ·rfl
  ·rename_i h0;exact(Classical.not_not.1 h0).symm
 ·rw[vT h]
  by_cases h1:x.2.2.2.2.2.1 < y.2.2.2.2.2.1
  ·have e:uT x.2.2.2.2.2.1 y.2.2.2.2.2.1= -1:=by unfold uT;rw[if_pos h1]
   rw[e,if_pos h1,if_pos (by decide)]
  ·have e:uT x.2.2.2.2.2.1 y.2.2.2.2.2.1=1:=by unfold uT;rw[if_neg h1,if_pos (by omega)]
   rw[e,if_neg h1,if_pos (by decide)]
theorem A1:Of Tryz.prog ei 104 Fg CM:= {
 cz:=⟨fj.E,fj.sg.h.1 (by rfl),λx y hx hy=>⟨_,fj.run (d:=(x,y)) ⟨hx.1,hy.1⟩,rfl⟩⟩
 enters:=enters_of Tryz.func104 (by kernel_rfl) rfl
 irrefl:=λx hx=>A5.irrefl _ hx
 trans:=λx y z hx hy hz=>A5.trans _ _ _ hx hy hz
 ntrans:=λx y z hx hy hz=>A5.ntrans _ _ _ hx hy hz}
theorem yU:Of Tryz.prog ei 103 Fg rT:= {
 cz:=⟨jA.E,jA.sg.h.1 (by rfl),λx y hx hy=>⟨_,jA.run (d:=(x,y)) ⟨hx.1,hy.1⟩,rfl⟩⟩
 enters:=enters_of Tryz.func103 (by kernel_rfl) rfl
 irrefl:=λx hx=>by rw[oS hx hx,EH];decide
 trans:=λx y z hx hy hz h1 h2=>by
  rw[oS hx hy]at h1
  rw[oS hy hz]at h2
  rw[oS hx hz]
  have:=vc (by rw[nG hx,nG hy]) (by rw[nG hy,nG hz]) (by omega:lx (sF x) (sF y)<=0) (by omega:lx (sF y) (sF z)<=0)
  have h3:=this.1
  by_cases h4:lx (sF x) (sF z)=0
  ·have:=(this.2 h4).1;omega
  ·omega
 ntrans:=λx y z hx hy hz h1 h2=>by
  rw[oS hx hy]at h1
  rw[oS hy hz]at h2
  rw[oS hx hz]
  have e1:=ua (sF x) (sF y)
  have e2:=ua (sF y) (sF z)
  have e3:=ua (sF x) (sF z)
  have:=(vc (by rw[nG hz,nG hy]) (by rw[nG hy,nG hx]) (by omega:lx (sF z) (sF y)<=0) (by omega:lx (sF y) (sF x)<=0)).1
  omega}
theorem zJ{x y:eK}(hx:Fg x)(hy:Fg y)(h1:¬rT x y < 0)(h2:¬rT y x < 0):x.1=y.1:=by
 rw[oS hx hy]at h1
 rw[oS hy hx,ua]at h2
 have:=Mi (by rw[nG hx,nG hy]) (by omega:lx (sF x) (sF y)=0)
 exact GD hx hy (List.cons.inj this).2
def Rk(g:Nat):List az->Bool:=λvs=>match vs with | [_,.fn f _]=>Nat.beq f g | _=>false
def G1.E:Entry:=MO 104 117 ei Fg CM
def G1.call:Nat×List eK->Option (Nat×List eK):=AV 104 117 ei Fg CM
theorem G1.run{d:Nat×List eK}(h:zw (t:=ei) Fg CM d):G1.call d=some (d.1,wg (t:=ei) CM d.2):=EX h
def G1.sg:SG Tryz.prog:=⟨102,Rk 104,G1.E,.of (G3 Tryz.MN (by rfl) (λw=>Tryz.isAgg117 w) (λw=>Tryz.sizeOf117 w) A1) (by rfl)⟩
def G2.E:Entry:=MO 103 117 ei Fg rT
def G2.call:Nat×List eK->Option (Nat×List eK):=AV 103 117 ei Fg rT
theorem G2.run{d:Nat×List eK}(h:zw (t:=ei) Fg rT d):G2.call d=some (d.1,wg (t:=ei) rT d.2):=EX h
def G2.sg:SG Tryz.prog:=⟨102,Rk 103,G2.E,.of (G3 Tryz.MN (by rfl) (λw=>Tryz.isAgg117 w) (λw=>Tryz.sizeOf117 w) yU) (by rfl)⟩
abbrev bV.L0.D:=(List eK)×Int×Int×rj×jz
abbrev bV.L0.Y:=jz
abbrev bV.L0.X:=(rj)×(jz)
def bV.L0.add:bV.L0.D->bV.L0.Y->bV.L0.X:=λ(t12,t13,t14,n2,n3) y=>(n2,y)
abbrev bV.D:=(List eK)
abbrev bV.Y:=jz
def IJ(u:Int)(x:eK):Int:=if x.2.2.2.2.2.1≠0/\(u=0\/x.2.2.2.2.2.1 < u) then x.2.2.2.2.2.1 else u
def UI(l:List eK):Int:=l.foldl IJ 0
def gC(l:List eK):jz:=(l,(sI l,(sI l,(UI l,()))))
def NA(g:jz)(x:eK):jz:=(g.1,(g.2.1,(g.2.2.1,(IJ g.2.2.2.1 x,g.2.2.2.2))))
theorem Dy:∀(l:List eK) (g:jz),l.foldl NA g=(g.1,(g.2.1,(g.2.2.1,(l.foldl IJ g.2.2.2.1,g.2.2.2.2))))
 |[],g=>rfl
 |x::l,g=>by rw[cZ,Dy l];rfl
def bV.L0.aU:bV.L0.D->Prop:=λ(l,n,i,z,g)=>(l).length<=1000000000/\∃k:Nat,k<=(l).length/\i=k/\n=(l).length
def bV.L0.F:bV.L0.D->bV.L0.Y:=λ(l,n,i,z,g)=>(List.drop (Int.toNat i) l).foldl NA g
def bV.aU:bV.D->Prop:=λl=>l.length<=1000000000
def bV.F:bV.D->bV.Y:=λl=>gC l
def bV.L0:Ls bV.L0.aU bV.L0.add bV.L0.F:=pG (λ(t12,t13,t14,n2,n3)=>⟨([.undef,.undef,.ptr (.new 2 0) 0 [] 0,.ptr (.new 3 0) 0 [] 0]++bj 8 ([.d (.slice ei) t12,.d ti t13,.d ti t14]++bj 23 [])),[],([[],[],[.obj 0 false (.pr (.df) (.d p9 n2))],[.obj 0 false (.d oq n3)]]++cg 34 [])⟩) (λx=>(.exit 0,⟨([.undef,.undef,.ptr (.new 2 0) 0 [] 0,.ptr (.new 3 0) 0 [] 0]++bj 34 []),[],([[],[],[.obj 0 false (.pr (.df) (.d p9 x.1))],[.obj 0 false (.d oq x.2)]]++cg 34 [])⟩))
def bV:Fs Tryz.prog bV.aU bE bV.F:=fK 105 Tryz.f105 (λl=>([.d (.slice ei) l],[])) (λx=>⟨.d oq x,[],[]⟩) [some (.slice ei)] [cD.sg] {loops:=oM [(3,{bm:=[2,3,12,13,14],sites:=[2,3]})],outs:=oL [(3,{bm:=[2,3],sites:=[2,3]},{bm:=[2]})],iA:=pq [(3,bV.L0.E)]}
theorem bV.L0.run:bV.L0.RS:=rL [.d (.slice ei),.d ti,.d ti,.d p9,.d oq] bV.L0
theorem bV.L0.step{R:Type}(t12 t13 t14 n2 n3)(kn:K2 R)(kx:K3 R):bV.R 0 bV.L0 (t12,t13,t14,n2,n3) kn kx=
  aJ ((ik t14 t13)) (
   aJ (eY t14 (t12.length:Int)) (
   aJ ((sR (nth ei t12 (Int.toNat t14)).2.2.2.2.2.1 0)) (
    aJ ((wy n3.2.2.2.1 0)) (
     kn (bV.L0.st (t12,t13,(bt .i64 t14 1),n2,(n3.1,(n3.2.1,(n3.2.2.1,((nth ei t12 (Int.toNat t14)).2.2.2.2.2.1,n3.2.2.2.2))))))) (
     aJ ((ik (nth ei t12 (Int.toNat t14)).2.2.2.2.2.1 n3.2.2.2.1)) (
      kn (bV.L0.st (t12,t13,(bt .i64 t14 1),n2,(n3.1,(n3.2.1,(n3.2.2.1,((nth ei t12 (Int.toNat t14)).2.2.2.2.2.1,n3.2.2.2.2))))))) (
      kn (bV.L0.st (t12,t13,(bt .i64 t14 1),n2,n3))))) (
    kn (bV.L0.st (t12,t13,(bt .i64 t14 1),n2,n3)))) none) (
   bV.L0.go kx (n2,n3)):=by kernel_rfl
theorem bV.eq{R:Type}(l)(k:K1 R):bV.A l k=
 av (cD.call l) λx1=>
 av (cD.call l) λx2=>
 av (bV.L0.call (l,(l.length:Int),0,(0,(0,(0,()))),(l,(x1,(x2,(0,())))))) λx3=>
 k (bV.out x3.2):=by kernel_rfl
theorem bV.L0.ok:(bV.lE 0 bV.L0):=by
 refine(bV.mr 0 bV.L0) (λ(l,n,i,z,g)=>(l).length - Int.toNat i) ?_
 rintro⟨l,n,i,z,g⟩ ⟨hlen,k,hk,rfl,rfl⟩
 have hlen:(l).length<=1000000000:=hlen
 have hk:k<=(l).length:=hk
 by_cases h:k < (l).length
 ·left
  have n1:nth ei l k=l[k]:=dg (t:=ei) h
  have hd:List.drop k l=l[k]::List.drop (k+1) l:=aq h
  refine⟨(l,((l).length:Int),((k+1:Nat):Int),z,(NA g l[k])),⟨hlen,k+1,by omega,rfl,rfl⟩,by simp only[aa];omega,?_,λkn kx=> ?_⟩
  ·simp only[bV.L0.add,bV.L0.F,aa,hd,cZ]
  ·rw[bV.L0.step,bh (by omega),bp (by omega) (by omega),aa,n1]
   simp only[ae]
   rw[N.pk (by omega)]
   unfold NA IJ
   by_cases h1:l[k].2.2.2.2.2.1=0
   ·rw[cS h1,ah,if_neg (λe=>e.1 h1)]
   ·rw[eI h1,ae]
    by_cases h2:g.2.2.2.1=0
    ·rw[iw h2,ae,if_pos ⟨h1,.inl h2⟩]
    ·rw[gl h2,ah]
     by_cases h3:l[k].2.2.2.2.2.1 < g.2.2.2.1
     ·rw[bh h3,ae,if_pos ⟨h1,.inr h3⟩]
     ·rw[aR h3,ah,if_neg (λe=>e.2.elim h2 h3)]
 ·right
  obtain rfl:k=(l).length:=by omega
  intro R kn kx
  rw[bV.L0.step,aR (by omega),ah]
  simp only[bV.L0.add,bV.L0.F,aa,aQ,gK]
theorem bV.ok:bV.Ok:=by
 intro l (h:l.length<=1000000000)
 have z1:((0:Int)).toNat=0:=rfl
 rw[bV.eq,cD.run (d:=l) h]
 simp only[ab,bE,cD.F]
 rw[bV.L0.run (d:=(l,(l.length:Int),0,(0,(0,(0,()))),(l,(sI l,(sI l,(0,())))))) ⟨h,0,aV _,rfl,rfl⟩]
 simp only[ab,bV.L0.add,bV.L0.F,z1,aI,Dy]
 rfl
theorem bV.run:bV.RS:=rE [.d (.slice ei)] bV
def bV.sg:=bV.fS bV.ok 1 ⟨.hZ bV.L0.ok,trivial⟩
def SB(c:CD):Prop:=nC c.1.2.1=true/\Hh c.1.2.1/\0<=c.1.1/\c.1.1<=1125899906842624/\0<=c.2.1/\c.2.1<=1048576
def UN(a:List (lF×CD)):Prop:=(a.map (·.1)).Nodup/\∀p∈a,M0 p.1/\SB p.2
theorem UN.get{a:List (lF×CD)}(h:UN a){o:lF}{c:CD}(hg:eS jk o a=some c):SB c:=(h.2 _ ((mW la h.1).1 hg)).2
def Sy:CD:=((0,(([],()),())),(0,()))
theorem SB.own{c:CD}(h:SB c):SD c.1.2.1:=by
 have:=EF h.1
 exact⟨by omega,λb hb=>by have:=this.2 b hb;omega⟩
def Sh(h:Int)(id:List Int)(a:List (lF×CD)):List gz->Int->Int⊕Int
 |[],iE=> .inr iE
 |x::l,iE=>match eS jk x.1 a with
  |none=> .inl 5
  |some c=>if OT c.1.2.1 x.2.1 id h (h - c.2.1)≠0 then .inl (OT c.1.2.1 x.2.1 id h (h - c.2.1)) else Sh h id a l (iE+c.1.1)
def o8(l:List j7):Int:=(l.map (·.1)).sum
theorem DD{t:gT}(h:lf t=true):(rb t).length=t.2.1.length:=by
 unfold rb
 rw[if_pos h]
 simp[Mj]
def FN(l:List lF)(a:List (lF×CD)):List (lF×CD):=l.foldl (λm o=>mm jk o m) a
def Ec(h:Int):List lF->List j7->List (lF×CD)->List (lF×CD)
 |o::l,x::xs,a=>Ec h l xs (jK jk o (x,(h,())) a)
 |_,_,a=>a
def AW(t:gT)(h:Int)(a:List (lF×CD)):List (lF×CD):=Ec h (rb t) t.2.1 (FN (kN t) a)
theorem LX{t:gT}(h:lf t=true):(kN t).length=t.1.length:=by
 unfold kN
 rw[if_pos h,cR]
theorem MK(k:Int)(m:List Int):UO (pa k m):=by
 unfold pa
 split
 ·exact⟨(Jv _).u,(Nf _ _).u⟩
 ·exact⟨⟨dT 0,by decide⟩,dT 0,by decide⟩
theorem FV:∀(l l':List gz) (b:List Int),l.map (·.1)=l'.map (·.1)->l.foldl wz b=l'.foldl wz b
 |[],[],_,_=>rfl
 |[],_::_,_,h=>by cases h
 |_::_,[],_,h=>by cases h
 |x::l,y::l',b,h=>by
  rw[bR,bR,dC]at h
  have e:wz b x=wz b y:=by unfold wz;rw[h.1]
  rw[cZ,cZ,e,FV l l' _ h.2]
theorem Kz{l l':List gz}(t:List j7×Int×Unit)(h:l.map (·.1)=l'.map (·.1)):tm (l,t)=tm (l',t):=by
 have hl:l.length=l'.length:=by have:=congrArg List.length h;simpa using this
 unfold tm
 simp only[hl]
 rw[FV l l' _ h]
theorem Gb:∀(l l':List gz) (m:List (lF×Bool)),l.map (·.1)=l'.map (·.1)->uG m l=true->(∀x∈l',sJ x.2.1=true)->uG m l'=true
 |[],[],_,_,_,_=>rfl
 |[],_::_,_,h,_,_=>by cases h
 |_::_,[],_,h,_,_=>by cases h
 |x::l,y::l',m,h,hi,hw=>by
  rw[bR,bR,dC]at h
  rw[uG,ak,ak]at hi ⊢
  have hx:=hi.1.2
  unfold u6 at hx
  rw[ak]at hx
  refine⟨⟨?_,?_⟩,?_⟩
  ·have:=hi.1.1
   unfold xJ at this ⊢
   rw[<-h.1]
   exact this
  ·unfold u6
   rw[<-h.1,hx.1,hw y aN]
   rfl
  ·rw[<-h.1]
   exact Gb l l' _ h.2 hi.2 λz hz=>hw z (aL _ hz)
theorem MR{l l':List gz}{t:List j7×Int×Unit}(h:l.map (·.1)=l'.map (·.1))(nj:lf (l,t)=true)(hw:∀x∈l',sJ x.2.1=true):lf (l',t)=true:=by
 have hl:l.length=l'.length:=by have:=congrArg List.length h;simpa using this
 unfold lf zA at nj ⊢
 rw[ak,ak]at nj ⊢
 simp only[hl]at nj
 exact⟨nj.1,Gb l l' _ h nj.2.1 hw,nj.2.2⟩
theorem Jw{l l':List gz}{t:List j7×Int×Unit}(h:l.map (·.1)=l'.map (·.1))(h1:lf (l,t)=true)(h2:lf (l',t)=true):C5 (l',t)=C5 (l,t):=by
 unfold C5
 rw[h1,h2,Kz t h]
theorem IB{l l':List gz}{t:List j7×Int×Unit}(h:l.map (·.1)=l'.map (·.1))(h1:lf (l,t)=true)(h2:lf (l',t)=true):kN (l',t)=kN (l,t):=by
 unfold kN
 rw[h1,h2]
 exact h.symm
theorem Mk{l l':List gz}{t:List j7×Int×Unit}(h:l.map (·.1)=l'.map (·.1))(h1:lf (l,t)=true)(h2:lf (l',t)=true):rb (l',t)=rb (l,t):=by
 unfold rb
 rw[h1,h2,Jw h h1 h2]
def xl(t:gT)(k:Nat)(w:Az):gT:=(t.1.set k ((nth gX t.1 k).1,w,()),t.2)
theorem yw(l:List gz)(k:Nat)(w:Az)(h:k < l.length):l.map (·.1)=(l.set k ((nth gX l k).1,w,())).map (·.1):=by
 have n1:nth gX l k=l[k]:=dg (t:=gX) h
 rw[n1,List.map_set]
 have e:(l[k].1:lF)=(l.map (·.1))[k]'(by rw[cR];exact h):=by rw[List.getElem_map]
 show _=(l.map (·.1)).set k l[k].1
 rw[e,gI]
theorem GQ{l:List gz}{k:Nat}{w:Az}{x:gz}(h:k < l.length)(hx:x∈l.set k ((nth gX l k).1,w,())):x∈l\/(x.1=l[k].1/\x.2.1=w):=by
 have n1:nth gX l k=l[k]:=dg (t:=gX) h
 rw[n1]at hx
 rcases List.mem_or_eq_of_mem_set hx with h1 | h1
 ·exact .inl h1
 ·exact .inr ⟨by rw[h1],by rw[h1]⟩
theorem AT{t:gT}{k:Nat}{w:Az}(h:k < t.1.length)(nj:lf t=true)(hw:sJ w=true):lf (xl t k w)=true:=by
 obtain⟨_,b1,_⟩:=tt nj
 refine MR (l:=t.1) (yw t.1 k w h) nj λx hx=> ?_
 rcases GQ h hx with h1 | h1
 ·have:=sa _ _ b1 x h1
  unfold u6 at this
  rw[ak]at this
  exact this.2
 ·rw[h1.2];exact hw
theorem Qm{t:gT}{k:Nat}{w:Az}(h:k < t.1.length)(hv:yL t)(hu:O4 w)(hl:w.2.1.length<=9223372036854775807):yL (xl t k w):=by
 refine⟨⟨hv.1.1,by show(t.1.set k _).length<=_;rw[j8];exact hv.1.2.1,hv.1.2.2⟩,λx hx=> ?_,hv.2.2⟩
 rcases GQ h hx with h1 | h1
 ·exact hv.2.1 x h1
 ·refine⟨?_,by rw[h1.2];exact hu,by rw[h1.2];exact hl⟩
  rw[h1.1]
  exact(hv.2.1 _ (bw h)).1
theorem N3{t:gT}{k:Nat}{w:Az}(h:k < t.1.length)(nj:lf t=true)(hw:sJ w=true):C5 (xl t k w)=C5 t/\kN (xl t k w)=kN t/\rb (xl t k w)=rb t:=
 ⟨Jw (l:=t.1) (yw t.1 k w h) nj (AT h nj hw),IB (l:=t.1) (yw t.1 k w h) nj (AT h nj hw),Mk (l:=t.1) (yw t.1 k w h) nj (AT h nj hw)⟩
theorem MJ(t:gT)(k:Nat)(w:Az):(xl t k w).1.length=t.1.length:=j8
def Ax(t:gT)(br:Int)(ks:List Int)(sc:Int):Az:=(br,ks.map (λk=>pa k (C5 t)),sc,())
theorem vy(t:gT)(i br:Int)(ks:List Int)(sc:Int):mn t i br ks sc=if qU t i br ks then(xl t i.toNat (Ax t br ks sc),0) else(([],[],0,()),1):=rfl
theorem GU{t:gT}{i br:Int}{ks:List Int}(h:qU t i br ks=true):lf t=true/\(0<=i/\i < t.1.length/\0<=br/\br < 4/\ks.length<=12)/\∀k∈ks,k < 2305843009213688669/\k≠0:=by
 unfold qU at h
 simp only[ak,decide_eq_true_eq,bX]at h
 refine⟨h.1,h.2.1,λk hk=> ?_⟩
 have:=h.2.2
 rw[jl]at this
 have:=this k hk
 unfold lI at this
 simpa using this
theorem N4{t:gT}{i br:Int}{ks:List Int}(sc:Int)(h:qU t i br ks=true):sJ (Ax t br ks sc)=true:=by
 have e:=(GU h).2.1
 unfold sJ Ax
 rw[aP ⟨e.2.2.1,e.2.2.2.1⟩,aP (by rw[cR];exact e.2.2.2.2)]
 rfl
theorem Qr(t:gT)(br:Int)(ks:List Int){sc:Int}(h:je sc):O4 (Ax t br ks sc):=⟨λs hs=>by
  obtain⟨k,_,rfl⟩:=dD.1 (show s∈ks.map λk=>pa k (C5 t) from hs)
  exact MK k _,h⟩
theorem GV{t:gT}{i br sc:Int}{ks:List Int}(hv:yL t)(h:qU t i br ks=true)(hs:je sc):
  lf (xl t i.toNat (Ax t br ks sc))=true/\yL (xl t i.toNat (Ax t br ks sc))/\C5 (xl t i.toNat (Ax t br ks sc))=C5 t/\kN (xl t i.toNat (Ax t br ks sc))=kN t/\rb (xl t i.toNat (Ax t br ks sc))=rb t:=by
 obtain⟨nj,e,_⟩:=GU h
 have hk:i.toNat < t.1.length:=by omega
 have hw:=N4 sc h
 exact⟨AT hk nj hw,Qm hk hv (Qr t br ks hs) (by show(ks.map _).length<=_;rw[cR];omega),N3 hk nj hw⟩
def Ta(r:QC):Prop:=r.1.length<=1000000000/\Bytes r.1
structure Ws(b:sN):Prop where
 len:b.1.length<=12
 af:Hp b.2.1
 dl:Hp b.2.2.1
def Q6(r:QC):Prop:=Ta r/\(r.2.1=true->r.1=[])
def Ov(r r':QC)(e:List Int):Prop:=Q6 r'/\(r'.2.1=false->r.2.1=false/\r.1=e++r'.1)
theorem Ov.trans{r r1 r2:QC}{e1 e2:List Int}(h1:Ov r r1 e1)(h2:Ov r1 r2 e2):Ov r r2 (e1++e2):=
 ⟨h2.1,λh=>⟨(h1.2 (h2.2 h).1).1,by rw[(h1.2 (h2.2 h).1).2,(h2.2 h).2,bk]⟩⟩
theorem Ov.of{r r':QC}{e e':List Int}(h:Ov r r' e)(he:r'.2.1=false->e=e'):Ov r r' e':=⟨h.1,λh'=>by rw[<-he h'];exact h.2 h'⟩
theorem Ov.refl{r:QC}(h:Q6 r):Ov r r []:=⟨h,λh'=>⟨h',rfl⟩⟩
theorem ML{t:gT}(h:lf t=true):uK t:=by
 obtain⟨⟨_,a2,a3,_⟩,b1,b2⟩:=tt h
 exact⟨⟨by omega,λx hx=>by have:=Bv (sa _ _ b1 x hx);omega⟩,by omega,λo ho=>by
  have:=EF (pH _ _ b2 o ho).2
  exact⟨by omega,λb hb=>by have:=this.2 b hb;omega⟩⟩
section
variable {β:Type} {kt:Ty}
theorem vN(hc:kt.comp=true)(o o':kt.den)(v:β):∀l:List (kt.den×β),eS kt o (jK kt o' v l)=if kt.beq o o'=true then some v else eS kt o l
 |[]=>by rw[Ko,kz,vU]
 |p::l=>by
  rw[xe]
  by_cases h:kt.beq o' p.1=true
  ·rw[if_pos h,kz,kz]
   have e:=beq_eq kt _ _ hc h
   by_cases h2:kt.beq o o'=true
   ·rw[if_pos h2,if_pos h2]
   ·rw[if_neg h2,if_neg h2,if_neg (by rw[<-e];exact h2)]
  ·rw[if_neg h,kz,kz,vN hc o o' v l]
   by_cases h3:kt.beq o p.1=true
   ·rw[if_pos h3,if_pos h3,if_neg]
    intro h4
    apply h
    rw[<-beq_eq kt _ _ hc h4]
    exact h3
   ·rw[if_neg h3,if_neg h3]
theorem I3(hc:kt.comp=true)(o o':kt.den):∀ {l:List (kt.den×β)},(l.map (·.1)).Nodup->eS kt o (mm kt o' l)=if kt.beq o o'=true then none else eS kt o l
 |[],_=>by rw[Kn,vU];split <;> rfl
 |p::l,hn=>by
  rw[bR,dK]at hn
  rw[xd]
  by_cases h:kt.beq o' p.1=true
  ·rw[if_pos h,kz]
   have e:=beq_eq kt _ _ hc h
   by_cases h2:kt.beq o o'=true
   ·rw[if_pos h2]
    have e2:=beq_eq kt _ _ hc h2
    cases hg:eS kt o l with
    |none=>rfl
    |some v=>exact absurd (dD.2 ⟨_,(mW hc hn.2).1 hg,rfl⟩) (by rw[e2,e];exact hn.1)
   ·rw[if_neg h2,if_neg (by rw[<-e];exact h2)]
  ·rw[if_neg h,kz,kz,I3 hc o o' hn.2]
   by_cases h3:kt.beq o p.1=true
   ·rw[if_pos h3,if_pos h3,if_neg]
    intro h4
    apply h
    rw[<-beq_eq kt _ _ hc h4]
    exact h3
   ·rw[if_neg h3,if_neg h3]
theorem get_none(hc:kt.comp=true){o:kt.den}{l:List (kt.den×β)}(hn:(l.map (·.1)).Nodup):eS kt o l=none↔o ∉ l.map (·.1):=by
 constructor
 ·intro h hm
  obtain⟨p,hp,e⟩:=dD.1 hm
  have e:p.1=o:=e
  have:=(mW hc hn (x:=o) (v:=p.2)).2 (by rw[<-e];exact hp)
  rw[h]at this;cases this
 ·intro h
  cases hg:eS kt o l with
  |none=>rfl
  |some v=>exact absurd (dD.2 ⟨_,(mW hc hn).1 hg,rfl⟩) h
theorem wC{l:List (kt.den×β)}(hn:(l.map (·.1)).Nodup):l.Nodup:=by
 induction l with
 |nil=>exact jS
 |cons p l ih=>
  rw[bR,dK]at hn
  exact dK.2 ⟨λh=>hn.1 (dD.2 ⟨p,h,rfl⟩),ih hn.2⟩
theorem GI(hc:kt.comp=true){l l':List (kt.den×β)}(hn:(l.map (·.1)).Nodup)(hn':(l'.map (·.1)).Nodup)(h:∀o,eS kt o l=eS kt o l'):l.Perm l':=by
 rw[List.perm_ext_iff_of_nodup (wC hn) (wC hn')]
 rintro⟨o,v⟩
 rw[<-mW hc hn,<-mW hc hn',h]
end
theorem wK(a b:lF):(Ty.beq jk a b=true)↔a=b:=⟨beq_eq jk a b rfl,λh=>by rw[h];exact beq_refl jk b rfl⟩
abbrev At:=List (lF×CD)
abbrev sh(a:At):List lF:=a.map (·.1)
theorem PD(o o':lF)(v:CD)(a:At):eS jk o (jK jk o' v a)=if o=o' then some v else eS jk o a:=by
 rw[vN la]
 by_cases h:o=o'
 ·rw[if_pos ((wK _ _).2 h),if_pos h]
 ·rw[if_neg (λe=>h ((wK _ _).1 e)),if_neg h]
theorem Nv(o o':lF){a:At}(hn:(sh a).Nodup):eS jk o (mm jk o' a)=if o=o' then none else eS jk o a:=by
 rw[I3 la _ _ hn]
 by_cases h:o=o'
 ·rw[if_pos ((wK _ _).2 h),if_pos h]
 ·rw[if_neg (λe=>h ((wK _ _).1 e)),if_neg h]
theorem HU{o:lF}{v:CD}{a:At}(hn:(sh a).Nodup):(sh (jK jk o v a)).Nodup:=Ae la hn
theorem rZ{o:lF}{a:At}(hn:(sh a).Nodup):(sh (mm jk o a)).Nodup:=vg la hn
theorem Rn{a a':At}(hn:(sh a).Nodup)(hn':(sh a').Nodup)(h:∀o,eS jk o a=eS jk o a'):a.Perm a':=GI la hn hn' h
theorem IH{o:lF}{c:CD}{a:At}(hn:(sh a).Nodup)(hg:eS jk o a=some c):a.Perm ((o,c)::mm jk o a):=by
 refine Rn hn ?_ λx=> ?_
 ·show(o::sh (mm jk o a)).Nodup
  refine dK.2 ⟨?_,rZ hn⟩
  have:=(get_none la (rZ (o:=o) hn)).1 (by rw[Nv o o hn,if_pos rfl])
  exact this
 ·rw[kz,Nv x o hn]
  by_cases h:x=o
  ·subst h;rw[if_pos ((wK _ _).2 rfl),hg]
  ·rw[if_neg (λe=>h ((wK _ _).1 e)),if_neg h]
theorem yV(o:lF)(l:List lF)(a:At):FN (o::l) a=FN l (mm jk o a):=rfl
theorem A9:∀(l:List lF) {a:At},(sh a).Nodup->(sh (FN l a)).Nodup
 |[],_,h=>h
 |o::l,a,h=>by rw[yV];exact A9 l (rZ h)
theorem Oo(x:lF):∀(l:List lF) {a:At},(sh a).Nodup->eS jk x (FN l a)=if x∈l then none else eS jk x a
 |[],a,_=>by rw[if_neg (by simp)];rfl
 |o::l,a,h=>by
  rw[yV,Oo x l (rZ h),Nv x o h]
  by_cases h1:x∈l
  ·rw[if_pos h1,if_pos (aL _ h1)]
  ·rw[if_neg h1]
   by_cases h2:x=o
   ·rw[if_pos h2,if_pos (by rw[h2];exact aN ..)]
   ·rw[if_neg h2,if_neg (by simp[h1,h2])]
theorem yM(h:Int)(o:lF)(l:List lF)(x:j7)(xs:List j7)(a:At):Ec h (o::l) (x::xs) a=Ec h l xs (jK jk o (x,(h,())) a):=rfl
theorem On(h:Int)(x:lF):∀(l:List lF) (xs:List j7) (a:At),x ∉ l->eS jk x (Ec h l xs a)=eS jk x a
 |[],[],_,_=>rfl
 |[],_::_,_,_=>rfl
 |_::_,[],_,_=>rfl
 |o::l,y::xs,a,hx=>by
  rw[yM,On h x l xs _ (λe=>hx (aL _ e)),PD,if_neg (λe=>hx (by rw[e];exact aN ..))]
theorem FY(h:Int):∀(l:List lF) (xs:List j7) (a:At),l.Nodup->∀(k:Nat) (hk:k < l.length) (xv:k < xs.length),eS jk l[k] (Ec h l xs a)=some (xs[k],(h,()))
 |[],_,_,_,k,hk,_=>by simp at hk
 |_::_,[],_,_,k,_,hk=>by simp at hk
 |o::l,y::xs,a,hn,k,hk,xv=>by
  rw[dK]at hn
  rw[yM]
  cases k with
  |zero=>
   show eS jk o _=some (y,(h,()))
   rw[On h o l xs _ hn.1,PD,if_pos rfl]
  |succ k=>
   simp only[List.getElem_cons_succ]
   exact FY h l xs _ hn.2 k (by simpa using hk) (by simpa using xv)
def uq(a:At)(l:List lF):Int:=(l.map λo=>((eS jk o a).getD Sy).1.1).sum
theorem FO:∀(l:List lF) {a:At},(sh a).Nodup->l.Nodup->(∀o∈l,(eS jk o a).isSome=true)->uD (FN l a)=uD a - uq a l/\(FN l a).length+l.length=a.length
 |[],a,_,_,_=>by simp[FN,uq]
 |o::l,a,hn,hl,ht=>by
  rw[dK]at hl
  obtain⟨c,hc⟩:=cv.1 (ht o (aN ..))
  have hg:∀x∈l,eS jk x (mm jk o a)=eS jk x a:=λx hx=>by
   rw[Nv x o hn,if_neg (λe=>hl.1 (by rw[<-e];exact hx))]
  obtain⟨h1,h2⟩:=FO l (rZ (o:=o) hn) hl.2 λx hx=>by rw[hg x hx];exact ht x (aL _ hx)
  have hp:=IH hn hc
  have h3:=JF hp
  have h4:=hp.length_eq
  have h5:uq (mm jk o a) l=uq a l:=by
   unfold uq
   congr 1
   exact iB λx hx=>by rw[hg x hx]
  rw[px]at h3
  rw[aD]at h4
  rw[yV,h1,h5,aD]
  have h6:uq a (o::l)=c.1.1+uq a l:=by simp[uq,hc]
  rw[h6]
  exact⟨by have h3:uD a=c.1.1+uD (mm jk o a):=h3;omega,by omega⟩
theorem sY(x:j7)(xs:List j7):o8 (x::xs)=x.1+o8 xs:=by simp[o8]
theorem Fl(h:Int):∀(l:List lF) (xs:List j7) {a:At},(sh a).Nodup->l.Nodup->l.length=xs.length->(∀o∈l,eS jk o a=none)->uD (Ec h l xs a)=uD a+o8 xs/\(Ec h l xs a).length=a.length+l.length
 |[],[],a,_,_,_,_=>by simp[Ec,o8]
 |[],_::_,_,_,_,he,_=>by simp at he
 |_::_,[],_,_,_,he,_=>by simp at he
 |o::l,x::xs,a,hn,hl,he,ht=>by
  rw[dK]at hl
  have h0:=(get_none la hn).1 (ht o (aN ..))
  have e:jK jk o (x,(h,())) a=a++ [(o,(x,(h,())))]:=Ad la h0
  obtain⟨h1,h2⟩:=Fl h l xs (HU (o:=o) (v:=(x,(h,()))) hn) hl.2 (by simpa using he) λy hy=>by
   rw[PD,if_neg (λe=>hl.1 (by rw[<-e];exact hy))];exact ht y (aL _ hy)
  rw[yM,h1,h2,e,Fq,sY,aj]
  simp only[uD,bR,fT,List.sum_cons,List.sum_nil,aD,aZ]
  omega
theorem By:∀(l:List gz) (m:List (lF×Bool)),uG m l=true->(l.map (·.1)).Nodup/\∀x∈l,eS jk x.1 m≠some true
 |[],_,_=>⟨jS,λ_ h=>by cases h⟩
 |x::l,m,h=>by
  rw[uG,ak,ak]at h
  obtain⟨⟨h1,_⟩,h2⟩:=h
  obtain⟨h3,h4⟩:=By l _ h2
  have hs:∀y∈l,eS jk y.1 (jK jk x.1 true m)≠some true:=h4
  have jb:∀y∈l,y.1≠x.1:=λy hy e=>hs y hy (by rw[vN la,if_pos ((wK _ _).2 e)])
  refine⟨?_,λy hy=> ?_⟩
  ·rw[bR,dK]
   refine⟨λhm=> ?_,h3⟩
   obtain⟨y,hy,e⟩:=dD.1 hm
   exact jb y hy e
  ·rcases dd.1 hy with rfl | hy
   ·intro e
    unfold xJ at h1
    rw[e]at h1
    cases h1
   ·have:=hs y hy
    rw[vN la,if_neg (λe=>jb y hy ((wK _ _).1 e))]at this
    exact this
theorem EV(t:gT):(kN t).Nodup:=by
 unfold kN
 split
 ·rename_i h
  exact(By _ _ (tt h).2.1).1
 ·exact jS
theorem BH(t:gT):(rb t).Nodup:=by
 unfold rb
 split
 ·unfold Mj
  refine List.Pairwise.map _ (λa b jb e=> ?_) (List.nodup_range' (s:=0) (n:=t.2.1.length) (step:=1))
  have:(a:Int)=b:=congrArg (λo:lF=>o.2.1) e
  exact jb (by omega)
 ·exact jS
structure D6(t:gT)(h:Int)(a:At)(iE:Int):Prop where
 ok:lf t=true
 h1:1<=h
 h2:h<=1048576
 ins:∃f,Sh h (C5 t) a t.1 0= .inr f/\iE=f - o8 t.2.1
 there:∀o∈kN t,(eS jk o a).isSome=true
 made:∀o∈rb t,eS jk o a=none
 Rj:iE=uq a (kN t) - o8 t.2.1
 pos:0<=iE
section
variable {t:gT} {h iE:Int} {a:At}
theorem D6.new(hc:D6 t h a iE){k:Nat}(hk:k < (rb t).length)(xv:k < t.2.1.length):eS jk (rb t)[k] (AW t h a)=some (t.2.1[k],(h,())):=by
 unfold AW
 exact FY h _ _ _ (BH t) k hk xv
theorem D6.sum(hc:D6 t h a iE)(ha:(sh a).Nodup):uD (AW t h a)=uD a - iE/\(AW t h a).length+t.1.length=a.length+t.2.1.length:=by
 obtain⟨d1,d2⟩:=FO (kN t) ha (EV t) hc.there
 obtain⟨e1,e2⟩:=Fl h (rb t) t.2.1 (A9 (kN t) ha) (BH t) (DD hc.ok) λo ho=>by
  rw[Oo o _ ha];split
  ·rfl
  ·exact hc.made o ho
 have hf:=hc.Rj
 have hl:=LX hc.ok
 have hm:=DD hc.ok
 unfold AW
 rw[e1,e2,d1]
 exact⟨by omega,by omega⟩
end
end Go.Ab
namespace Go.Ab
open Go.Proofs
def IS(x:eK):Bool:=decide (0<=x.2.1.1/\x.2.1.1<=1099511627776)
def sy:List (lF×Bool)->List eK->Bool
 |_,[]=>true
 |m,x::l=>if((eS jk x.1 m).getD false)=true then false else if IS x=true then sy (jK jk x.1 true m) l else false
def zp(l:List eK):Bool:=decide (l.length<=64) && sy [] l
theorem Ce:∀(l:List eK) (m:List (lF×Bool)),sy m l=true↔(l.map (·.1)).Nodup/\(∀x∈l,(eS jk x.1 m).getD false=false)/\∀x∈l,IS x=true
 |[],m=>by simp[sy]
 |x::l,m=>by
  have ih:=Ce l (jK jk x.1 true m)
  have hg:∀y:eK,(eS jk y.1 (jK jk x.1 true m)).getD false=if y.1=x.1 then true else(eS jk y.1 m).getD false:=λy=>by
   rw[vN (kt:=jk) la]
   by_cases e:y.1=x.1
   ·rw[if_pos ((wK _ _).2 e),if_pos e];rfl
   ·rw[if_neg (λh=>e ((wK _ _).1 h)),if_neg e]
  simp only[sy,bR,dK,dd,forall_eq_or_imp]
  by_cases h1:(eS jk x.1 m).getD false=true
  ·rw[if_pos h1]
   refine⟨λh=>(by cases h),λh=> ?_⟩
   rw[h.2.1.1]at h1;cases h1
  ·rw[if_neg h1]
   have h1':(eS jk x.1 m).getD false=false:=by simpa using h1
   by_cases h2:IS x=true
   ·rw[if_pos h2,ih]
    constructor
    ·rintro⟨a1,a2,a3⟩
     have hx:∀y∈l,y.1≠x.1:=λy hy e=>by
      have:=a2 y hy
      rw[hg,if_pos e]at this;cases this
     refine⟨⟨λhm=> ?_,a1⟩,⟨h1',λy hy=> ?_⟩,h2,a3⟩
     ·obtain⟨y,hy,e⟩:=dD.1 hm
      exact hx y hy e
     ·have:=a2 y hy
      rwa[hg,if_neg (hx y hy)]at this
    ·rintro⟨⟨b0,b1⟩,⟨_,b2⟩,_,b3⟩
     refine⟨b1,λy hy=> ?_,b3⟩
     rw[hg,if_neg (λe=>b0 (by rw[<-e];exact gB hy))]
     exact b2 y hy
   ·rw[if_neg h2]
    exact⟨λh=>(by cases h),λh=>absurd h.2.2.1 h2⟩
theorem xk(l:List eK):zp l=true↔l.length<=64/\(l.map (·.1)).Nodup/\∀x∈l,0<=x.2.1.1/\x.2.1.1<=1099511627776:=by
 unfold zp
 rw[ak,decide_eq_true_eq,Ce]
 refine and_congr Iff.rfl ⟨λh=>⟨h.1,λx hx=>of_decide_eq_true (h.2.2 x hx)⟩,λh=>⟨h.1,λx _=>rfl,λx hx=>decide_eq_true (h.2 x hx)⟩⟩
abbrev bG.L0.D:=(List eK)×Int×Int×(List (lF×Bool))
def bG.L0.st:bG.L0.D->AS:=λ(t10,t11,t12,n9)=>⟨([.undef,.undef,.undef,.oh (.new 9 0) 0]++bj 6 ([.d (.slice ei) t10,.d ti t11,.d ti t12]++bj 23 [])),[],(cg 9 ([[.obj 0 false (.mp jk .bool n9)]]++cg 26 []))⟩
abbrev bG.L0.Y0:=Unit
abbrev bG.L0.X0:=Unit
def bG.L0.dE:bG.L0.X0->Exit×AS:=λx=>(.ret,⟨([.undef,.undef,.d .bool false]++bj 33 []),[],(List.replicate 36 [])⟩)
abbrev bG.L0.Y1:=Unit
abbrev bG.L0.X1:=Unit
def bG.L0.fQ:bG.L0.X1->Exit×AS:=λx=>(.exit 0,⟨(bj 36 []),[],(List.replicate 36 [])⟩)
abbrev bG.L0.X:=(bG.L0.X0)⊕(bG.L0.X1)
abbrev bG.L0.Y:=(bG.L0.Y0)⊕(bG.L0.Y1)
def bG.L0.out:bG.L0.X->Out (Exit×AS):=λx=> .br x.isLeft (.get x.getLeft? λa=> .ok (bG.L0.dE a)) (.get x.getRight? λb=> .ok (bG.L0.fQ b))
def bG.L0.add:bG.L0.D->bG.L0.Y->bG.L0.X:=λ(t10,t11,t12,n9) y=>match y with | .inl y=> .inl y | .inr z=> .inr (z)
abbrev bG.D:=(List eK)
abbrev bG.Y:=Bool
def bG.L0.aU:bG.L0.D->Prop:=λ(l,n,i,_)=>l.length<=64/\n=(l.length:Int)/\∃k:Nat,k<=l.length/\i=k
def bG.L0.F:bG.L0.D->bG.L0.Y:=λ(l,_,i,m)=>if sy m (l.drop i.toNat)=true then .inr () else .inl ()
def bG.aU:bG.D->Prop:=λ_=>True
def bG.F:bG.D->bG.Y:=λl=>zp l
def bG.L0.E:=eO.hZ bG.L0.st bG.L0.aU bG.L0.add bG.L0.F bG.L0.out
def bG.L0.call:bG.L0.D->Option bG.L0.X:=jH bG.L0.E bG.L0.st
def bG:Fs Tryz.prog bG.aU bE bG.F:=fK 99 Tryz.f99 (λl=>([.d (.slice ei) l],[])) (λx=>⟨.d .bool x,[],[]⟩) [some (.slice ei)] [] {loops:=oM [(5,{bm:=[3,10,11,12],sites:=[9]})],outs:=oL [(5,{},{bm:=[2]})],iA:=pq [(5,bG.L0.E)]}
def bG.L0.R:= @gL Tryz.prog (lN bG.G) bG.an 0 Tryz.f99 0 _ bG.L0.st
abbrev bG.L0.Ok:=nh Tryz.prog (lN bG.G) bG.an 0 Tryz.f99 0 bG.L0.st bG.L0.aU bG.L0.add bG.L0.F bG.L0.out
theorem bG.L0.run:mq bG.L0.call bG.L0.aU bG.L0.add bG.L0.F:=oo (oa [.d (.slice ei),.d ti,.d ti,.d (.slice (.pair jk .bool))] λ_=>by kernel_rfl)
theorem bG.L0.cM:nM @bG.L0.R bG.L0.st bG.L0.aU bG.L0.add bG.L0.F bG.L0.out bG.L0.Ok:=oF
theorem bG.L0.step{R:Type}(t10:(List eK))(t11:Int)(t12:Int)(n9:(List (lF×Bool)))(kn:AS->Option R)(kx:Exit->AS->Option R):bG.L0.R (t10,t11,t12,n9) kn kx=
  aJ ((ik t12 t11)) (
   aJ (eY t12 (((List.length t10):Nat):Int)) (
   aJ (((eS jk (nth ei t10 (Int.toNat t12)).1 n9).getD false)) (
    kx (bG.L0.dE ()).1 (bG.L0.dE ()).2) (
    aJ ((ik (nth ei t10 (Int.toNat t12)).2.1.1 (0:Int))) (
     kx (bG.L0.dE ()).1 (bG.L0.dE ()).2) (
     aJ ((nc (nth ei t10 (Int.toNat t12)).2.1.1 (1099511627776:Int))) (
      kx (bG.L0.dE ()).1 (bG.L0.dE ()).2) (
      kn (bG.L0.st (t10,t11,(bt .i64 t12 (1:Int)),(jK jk (nth ei t10 (Int.toNat t12)).1 true n9))))))) none) (
   kx (bG.L0.fQ ()).1 (bG.L0.fQ ()).2):=by kernel_rfl
theorem bG.eq{R:Type}(l)(k:K1 R):bG.A l k=
  aJ ((nc (l.length:Int) 64)) (
   k (bG.out false)) (
   av (bG.L0.call (l,(l.length:Int),0,([]:List (lF×Bool)))) λx1=>
   aJ (x1.isLeft) (
    av (x1.getLeft?) λa2=>
    k (bG.out false)) (
    av (x1.getRight?) λb3=>
    k (bG.out true))):=by kernel_rfl
theorem bG.L0.ok:bG.L0.Ok:=by
 refine bG.L0.cM (λ(l,_,i,_)=>l.length - i.toNat) ?_
 rintro⟨l,n,i,m⟩ ⟨hl,rfl,k,hk,rfl⟩
 have hl:l.length<=64:=hl
 have hk:k<=l.length:=hk
 by_cases h:k < l.length
 ·have n1:nth ei l k=l[k]:=dg (t:=ei) h
  have hd:l.drop k=l[k]::l.drop (k+1):=aq h
  by_cases h1:(eS jk l[k].1 m).getD false=true
  ·right
   refine⟨bG.L0.dE (),?_,λkn kx=> ?_⟩
   ·simp only[bG.L0.add,bG.L0.F,aa,hd,sy,if_pos h1,bJ,if_false];rfl
   ·rw[bG.L0.step,bh (by omega),ae,bp (by omega) (by omega),ae,aa,n1,h1,ae]
  ·have h1':(eS jk l[k].1 m).getD false=false:=by simpa using h1
   by_cases h2:IS l[k]=true
   ·left
    have h3:=of_decide_eq_true h2
    refine⟨(l,(l.length:Int),((k+1:Nat):Int),jK jk l[k].1 true m),⟨hl,rfl,k+1,by omega,rfl⟩,by simp only[aa];omega,?_,λkn kx=> ?_⟩
    ·simp only[bG.L0.add,bG.L0.F,aa,hd,sy,if_neg h1,if_pos h2]
    ·rw[bG.L0.step,bh (by omega),ae,bp (by omega) (by omega),ae,aa,n1,h1',ah,aR (by omega),ah,cj (by omega),ah,N.pk (by omega)]
   ·right
    refine⟨bG.L0.dE (),?_,λkn kx=> ?_⟩
    ·simp only[bG.L0.add,bG.L0.F,aa,hd,sy,if_neg h1,if_neg h2,bJ,if_false];rfl
    ·rw[bG.L0.step,bh (by omega),ae,bp (by omega) (by omega),ae,aa,n1,h1',ah]
     by_cases h3:l[k].2.1.1 < 0
     ·rw[bh h3,ae]
     ·rw[aR h3,ah,cX,ae]
      refine Classical.byContradiction λh4=>h2 (decide_eq_true ⟨by omega,by omega⟩)
 ·right
  obtain rfl:k=l.length:=by omega
  refine⟨bG.L0.fQ (),?_,λkn kx=> ?_⟩
  ·simp only[bG.L0.add,bG.L0.F,aa,aQ,sy,if_true];rfl
  ·rw[bG.L0.step,aR (by omega),ah]
theorem bG.ok:bG.Ok:=by
 intro l _
 have z1:((0:Int)).toNat=0:=rfl
 rw[bG.eq]
 simp only[bE,bG.F,zp]
 by_cases h:l.length<=64
 ·rw[cj (by omega),ah,bG.L0.run (d:=(l,(l.length:Int),0,[])) ⟨h,rfl,0,aV _,rfl⟩,aP h]
  simp only[ab,bG.L0.add,bG.L0.F,z1,aI]
  cases sy [] l <;> rfl
 ·rw[cX (by omega),ae,bf h]
  rfl
theorem bG.run:bG.RS:=rE [.d (.slice ei)] bG
def bG.sg:=bG.fS bG.ok 1 ⟨.hZ bG.L0.ok,trivial⟩
def lT(h:Int)(x:eK):Bool:=yN x h && !decide (x.2.1.1 < sI [x])
def kW(b:rj)(h:Int)(x:eK):Bool:=decide (x.2.2.2.2.2.1≠0/\x.2.2.2.2.2.1 - h<=2*jo b)
abbrev iG.D:=eK×Int×rj
abbrev iG.Y:=Bool
def iG.aU:iG.D->Prop:=λ(x,h,_)=>(1<=h/\h<=1048576)/\(x.2.2.2.2.2.1=0\/h < x.2.2.2.2.2.1)/\x.2.2.2.2.2.1<=9223372036854775807
def iG.F:iG.D->iG.Y:=λ(x,h,b)=>kW b h x
def iG:Fs Tryz.prog iG.aU bE iG.F:=fK 100 Tryz.f100 (λ(x,t1,t2)=>([.d ei x,.ed ti t1,.ed p9 t2],[])) (λx=>⟨.d .bool x,[],[]⟩) [some ei,none,none] [iF.sg]
theorem iG.eq{R:Type}(x t1 t2)(k:K1 R):iG.A (x,t1,t2) k=
  aJ ((sR x.2.2.2.2.2.1 0)) (
   av (iF.call t2) λx1=>
   k (iG.out (zS (dp .i64 x.2.2.2.2.2.1 t1) (eR .i64 2 x1)))) (
   k (iG.out false)):=by kernel_rfl
theorem iG.ok:iG.Ok:=by
 rintro⟨x,h,b⟩ ⟨⟨h1,h2⟩,h3,h4⟩
 have h3:x.2.2.2.2.2.1=0\/h < x.2.2.2.2.2.1:=h3
 have h4:x.2.2.2.2.2.1<=9223372036854775807:=h4
 have h1:1<=h:=h1
 have hs:=AU b
 rw[iG.eq]
 simp only[bE,iG.F,kW]
 by_cases a1:x.2.2.2.2.2.1=0
 ·rw[cS a1,ah,decide_eq_false (λe=>e.1 a1)]
 ·rw[eI a1,ae,iF.run (d:=b) trivial]
  simp only[ab,bE,iF.F]
  rw[eE (by omega) (by omega),qo (by omega) (by omega)]
  by_cases a2:x.2.2.2.2.2.1 - h<=2*jo b
  ·rw[ix a2,decide_eq_true ⟨a1,a2⟩]
  ·rw[ga a2,decide_eq_false (λe=>a2 e.2)]
theorem iG.run:iG.RS:=rE [.d ei,.d ti,.d p9] iG
def iG.sg:=iG.fS iG.ok
abbrev gN.D:=(List eK)×Int
abbrev gN.Y:=Unit
abbrev gN.X:=(List eK)×Int
def gN.add:gN.D->gN.Y->gN.X:=λ(sv,n) y=>(sv,n)
def gN.aU:gN.D->Prop:=λ(_,n)=>1<=n
def gN.F:gN.D->gN.Y:=λ_=>()
def gN:Fs Tryz.prog gN.aU gN.add gN.F:=fK 106 Tryz.f106 (λ(sv,n)=>([.d (.slice ei) sv,.d ti n],[])) (λx=>⟨.fn 167 (.cons (.ptr (.new 0 0) 0 [] 0) (.cons (.ptr (.new 0 1) 0 [] 0) (.nil))),[],[.obj 0 false (.d (.slice ei) x.1),.obj 0 false (.d ti x.2)]⟩) [some (.slice ei),some ti] [] {bU:=[2,3]}
theorem gN.eq{R:Type}(sv n)(k:K1 R):gN.A (sv,n) k=
  aJ ((ik n 1)) (
   none) (
   k (gN.out (sv,n))):=by kernel_rfl
theorem gN.ok:gN.Ok:=by
 rintro⟨l,n⟩ h
 have h:1<=n:=h
 rw[gN.eq,aR (by omega),ah]
 rfl
theorem gN.run:gN.RS:=rE [.d (.slice ei),.d ti] gN
def gN.sg:=gN.fS gN.ok
abbrev lX.D:=(List eK)×Nat×(List jz)
abbrev lX.Y:=Nat×(List jz)
def lX.aU:lX.D->Prop:=λ(c,n,l)=>c.length<=1000000/\n=l.length/\n<=1000000
def lX.F:lX.D->lX.Y:=λ(c,n,l)=>(n+1,l++ [gC c])
def lX:Fs Tryz.prog lX.aU bE lX.F:=fK 4294968000 (O1 Tryz.prog 4294968000) (λ(t106,o1L,o2)=>(([.yl (.dB 0) 0,.d (.slice ei) t106]++bj 15 ([.ptr (.dB 1) 0 [] 0]++bj 154 [])),[.obj 0 false (.qK (um Tryz.prog 4294968000) (rU (bj 15 ([.ptr (.dB 1) 0 [] 0]++bj 154 []))) 0),.obj 0 false (.cP (.dB 2) 0 [] 0 0 o1L),.obj 0 false (.vec 105 oq o2)])) (λx=>⟨.d .bool true,[.obj 0 false (.qK (um Tryz.prog 4294968000) (rU (bj 15 ([.ptr (.dB 1) 0 [] 0]++bj 154 []))) 0),.obj 0 false (.cP (.dB 2) 1 [] 0 0 x.1),.obj 1 false (.vec 105 oq x.2)],[]⟩) [none,none,none,none,none,none,none,none,none,none,none,none,none,none,none,none,none,none,none,none,none,none,none,none,none,none,none,none,none,none,none,none,none,none,none,none,none,none,none,none,none,none,none,none,none,none,none,none,none,none,none,none,none,none,none,none,none,none,none,none,none,none,none,none,none,none,none,none,none,none,none,none,none,none,none,none,none,none,none,none,none,none,none,none,none,none,none,none,none,none,none,none,none,none,none,none,none,none,none,none,none,none,none,none,none,none,none,none,none,none,none,none,none,none,none,none,none,none,none,none,none,none,none,none,none,none,none,none,none,none,none,none,none,none,none,none,none,none,none,none,none,none,none,none,none,none,none,none,none,none,none,none,none,none,none,none,none,none,none,none,none,none,none,none,none,none,none,none,none,none,none,none] [bV.sg] {mr:=some 4294968000}
theorem lX.eq{R:Type}(t106 o1L o2)(k:K1 R):lX.A (t106,o1L,o2) k=
 av (bV.call t106) λx1=>
 aJ (decide (o1L<=(List.length o2))) (
 aJ (dG (o1L+1) 48) (
 k (lX.out ((o1L+1),((List.take o1L o2)++ [x1])))) none) none:=by kernel_rfl
theorem lX.ok:lX.Ok:=by
 rintro⟨c,n,l⟩ ⟨h1,rfl,h2⟩
 have h1:c.length<=1000000:=h1
 have h2:l.length<=1000000:=h2
 rw[lX.eq,bV.run (d:=c) (by show c.length<=_;omega)]
 simp only[ab,bE,bV.F]
 rw[aP (ay _),ae,dU (by omega) (by omega),ae,bY]
 rfl
theorem lX.run:lX.RS:=rE [.d (.slice ei),.n,.d (.slice oq)] lX
def lX.sg:=lX.Wi lX.ok
abbrev gG.L0.D:=Int×Nat×(List jz)×(List eK)×Int
abbrev gG.L0.Y:=Nat×(List jz)
abbrev gG.L0.X:=((List eK)×Int)×(Nat×(List jz))
def gG.L0.add:gG.L0.D->gG.L0.Y->gG.L0.X:=λ(i,DN,Ku,qu,xh) y=>((qu,xh),y)
abbrev gG.D:=Nat×(List jz)×(List eK)×Int
abbrev gG.Y:=Nat×(List jz)×(List eK)×Int
def wO{α:Type}(n:Nat):Nat->List α->List (List α)
 | 0,_=> []
 |_+1,[]=> []
 |f+1,x::l=>(x::l).take n::wO n f ((x::l).drop n)
theorem zI{α:Type}{n:Nat}(hn:1<=n):∀(f f':Nat) (l:List α),l.length<=f->l.length<=f'->wO n f l=wO n f' l
 | 0,f',l,h,_=>by
  obtain rfl:=bo (Nat.le_zero.1 h)
  cases f' <;> rfl
 |f+1,0,l,_,h=>by
  obtain rfl:=bo (Nat.le_zero.1 h)
  rfl
 |f+1,f'+1,[],_,_=>rfl
 |f+1,f'+1,x::l,h,h'=>by
  rw[aD]at h h'
  have e:((x::l).drop n).length<=l.length:=by rw[dx,aD];omega
  rw[wO,wO,zI hn f f' _ (by omega) (by omega)]
def jq{α:Type}(l:List α):List (List α):=wO 8 l.length l
theorem uS{α:Type}{l:List α}(h:0 < l.length):jq l=l.take 8::jq (l.drop 8):=by
 cases l with
 |nil=>cases h
 |cons x l=>
  unfold jq
  rw[aD,wO]
  congr 1
  refine zI (by decide) _ _ _ ?_ (ay _)
  rw[dx,aD]
  omega
theorem HF{α:Type}:jq ([]:List α)=[]:=rfl
def gG.L0.aU:gG.L0.D->Prop:=λ(i,n,o2,l,c)=>c=8/\l.length<=1000/\n=o2.length/\∃k:Nat,i=k/\k<=l.length+8/\n<=1000+k
def gG.L0.F:gG.L0.D->gG.L0.Y:=λ(i,n,o2,l,_)=>(n+(jq (l.drop i.toNat)).length,o2++(jq (l.drop i.toNat)).map gC)
def gG.aU:gG.D->Prop:=λ(n,o2,l,c)=>c=8/\l.length<=1000/\n=o2.length/\n<=1000
def gG.F:gG.D->gG.Y:=λ(n,o2,l,c)=>(n+(jq l).length,o2++(jq l).map gC,l,c)
def gG.L0:Ls gG.L0.aU gG.L0.add gG.L0.F:=pG (λ(i,DN,Ku,qu,xh)=>⟨([.yl (.dB 0) 0,.ptr (.dB 3) 0 [] 0,.ptr (.dB 4) 0 [] 0,.undef,.d ti i]++bj 26 []),[.obj 0 false (.qK (um Tryz.prog 4294968000) (rU (bj 15 ([.ptr (.dB 1) 0 [] 0]++bj 154 []))) 0),.obj 0 false (.cP (.dB 2) 1 [] 0 0 DN),.obj 1 false (.vec 105 oq Ku),.obj 0 false (.d (.slice ei) qu),.obj 0 false (.d ti xh)],(List.replicate 31 [])⟩) (λx=>(.exit 0,⟨(bj 31 []),[.obj 0 false (.qK (um Tryz.prog 4294968000) (rU (bj 15 ([.ptr (.dB 1) 0 [] 0]++bj 154 []))) 0),.obj 0 false (.cP (.dB 2) 1 [] 0 0 x.2.1),.obj 1 false (.vec 105 oq x.2.2),.obj 0 false (.d (.slice ei) x.1.1),.obj 0 false (.d ti x.1.2)],(List.replicate 31 [])⟩))
def gG:Fs Tryz.prog gG.aU bE gG.F:=fK 167 Tryz.f167 (λ(o1L,o2,o3,o4)=>([.yl (.dB 0) 0,.ptr (.dB 3) 0 [] 0,.ptr (.dB 4) 0 [] 0],[.obj 0 false (.qK (um Tryz.prog 4294968000) (rU (bj 15 ([.ptr (.dB 1) 0 [] 0]++bj 154 []))) 0),.obj 0 false (.cP (.dB 2) 0 [] 0 0 o1L),.obj 0 false (.vec 105 oq o2),.obj 0 false (.d (.slice ei) o3),.obj 0 false (.d ti o4)])) (λx=>⟨.nil,[.obj 0 false (.qK (um Tryz.prog 4294968000) (rU (bj 15 ([.ptr (.dB 1) 0 [] 0]++bj 154 []))) 0),.obj 0 false (.cP (.dB 2) 1 [] 0 0 x.1),.obj 1 false (.vec 105 oq x.2.1),.obj 0 false (.d (.slice ei) x.2.2.1),.obj 0 false (.d ti x.2.2.2)],[]⟩) [none,none,none] [lX.sg] {loops:=oM [(1,{bm:=[0,1,2,4],Pa:=[(2,1)]})],outs:=oL [(1,{Pa:=[(2,1)]},{Pa:=[(2,1)]})],iA:=pq [(1,gG.L0.E)]}
theorem gG.L0.run:gG.L0.RS:=rL [.d ti,.n,.d (.slice oq),.d (.slice ei),.d ti] gG.L0
theorem gG.L0.step{R:Type}(i DN Ku qu xh)(kn:K2 R)(kx:K3 R):gG.R 0 gG.L0 (i,DN,Ku,qu,xh) kn kx=
  aJ ((ik i (qu.length:Int))) (
   aJ (inc i (qu.length:Int)) (
   aJ (decide (0<=(bt .i64 i (sQ xh (((List.length (cut qu (Int.toNat i) ((List.length qu) - (Int.toNat i)))):Nat):Int)))/\(bt .i64 i (sQ xh (((List.length (cut qu (Int.toNat i) ((List.length qu) - (Int.toNat i)))):Nat):Int)))<=(bt .i64 i (sQ xh (((List.length (cut qu (Int.toNat i) ((List.length qu) - (Int.toNat i)))):Nat):Int)))/\(bt .i64 i (sQ xh (((List.length (cut qu (Int.toNat i) ((List.length qu) - (Int.toNat i)))):Nat):Int)))<=(qu.length:Int))) (
   aJ (inc (bt .i64 i (sQ xh (((List.length (cut qu (Int.toNat i) ((List.length qu) - (Int.toNat i)))):Nat):Int))) (qu.length:Int)) (
   aJ (inc i (((Int.toNat (bt .i64 i (sQ xh (((List.length (cut qu (Int.toNat i) ((List.length qu) - (Int.toNat i)))):Nat):Int)))):Nat):Int)) (
   same (um Tryz.prog 4294968000) (um Tryz.prog 4294968000) (
    av (lX.call ((cut qu (Int.toNat i) ((Int.toNat (bt .i64 i (sQ xh (((List.length (cut qu (Int.toNat i) ((List.length qu) - (Int.toNat i)))):Nat):Int)))) - (Int.toNat i))),DN,Ku)) λx1=>
    kn (gG.L0.st ((bt .i64 i xh),x1.1,x1.2,qu,xh)))) none) none) none) none) (
   gG.L0.go kx ((qu,xh),(DN,Ku))):=by kernel_rfl
theorem gG.eq{R:Type}(o1L o2 o3 o4)(k:K1 R):gG.A (o1L,o2,o3,o4) k=
 av (gG.L0.call (0,o1L,o2,o3,o4)) λx2=>
 k (gG.out (x2.2.1,x2.2.2,x2.1.1,x2.1.2)):=by kernel_rfl
theorem gG.L0.ok:(gG.lE 0 gG.L0):=by
 refine(gG.mr 0 gG.L0) (λ(i,_,_,l,_)=>l.length+8 - i.toNat) ?_
 rintro⟨i,n,o2,l,c⟩ ⟨rfl,hl,rfl,k,rfl,hk,hn⟩
 have hl:l.length<=1000:=hl
 have hk:k<=l.length+8:=hk
 have hn:o2.length<=1000+k:=hn
 by_cases h:k < l.length
 ·left
  have e1:(((cut l k (l.length - k)).length:Nat):Int)=(l.length:Int) - k:=by rw[rV (by omega)];omega
  obtain⟨m,hm,OD⟩:∃m:Nat,sQ 8 ((l.length:Int) - k)=(m:Int)/\m=min 8 (l.length - k):=⟨min 8 (l.length - k),by unfold sQ;split <;> omega,rfl⟩
  have e2:bt .i64 (k:Int) (m:Int)=((k+m:Nat):Int):=by rw[eC (by omega) (by omega)];omega
  have ec:cut l k m=(l.drop k).take 8:=by
   unfold cut
   rw[OD,<-jU,bz (l:=l.drop k) (i:=l.length - k) (by rw[dx];exact ay _)]
  have hd:=uS (l:=l.drop k) (by rw[dx];omega)
  rw[fI]at hd
  refine⟨(((k+8:Nat):Int),o2.length+1,o2++ [gC ((l.drop k).take 8)],l,8),⟨rfl,hl,by simp,k+8,rfl,by omega,by show o2.length+1<=_;omega⟩,by simp only[aa];omega,?_,λkn kx=> ?_⟩
  ·simp only[gG.L0.add,gG.L0.F,aa,hd,aD,bR,bk,dy]
   rw[show o2.length+1+(jq (l.drop (k+8))).length=o2.length+((jq (l.drop (k+8))).length+1) by omega]
  ·rw[gG.L0.step,bh (by omega),ae,mD (by omega) (by omega),ae]
   simp only[aa,e1,hm,e2]
   rw[aP ⟨by omega,dT _,by omega⟩,ae,mD (by omega) (by omega),ae,mD (by omega) (by omega),ae,KH,jm,ec]
   rw[lX.run (d:=((l.drop k).take 8,o2.length,o2)) ⟨by show((l.drop k).take 8).length<=_;rw[cU,dx];omega,rfl,by show o2.length<=_;omega⟩]
   simp only[ab,bE,lX.F]
   rw[show bt .i64 (k:Int) 8=((k+8:Nat):Int) by rw[eC (by omega) (by omega)];omega]
 ·right
  have e0:l.drop k=[]:=List.drop_eq_nil_of_le (by omega)
  intro R kn kx
  rw[gG.L0.step,aR (by omega),ah]
  simp only[gG.L0.add,gG.L0.F,aa,e0,HF,aZ,cK,fT,cH]
theorem gG.ok:gG.Ok:=by
 rintro⟨n,o2,l,c⟩ ⟨rfl,hl,rfl,hn⟩
 have hl:l.length<=1000:=hl
 have hn:o2.length<=1000:=hn
 have z1:((0:Int)).toNat=0:=rfl
 rw[gG.eq,gG.L0.run (d:=(0,o2.length,o2,l,8)) ⟨rfl,hl,rfl,0,rfl,by omega,by omega⟩]
 simp only[ab,gG.L0.add,gG.L0.F,z1,aI]
 rfl
theorem gG.run:gG.RS:=rE [.n,.d (.slice oq),.d (.slice ei),.d ti] gG
def gG.sg:=gG.fS gG.ok 1 ⟨.hZ gG.L0.ok,trivial⟩
abbrev aH.L0.D:=Int×Int×Int×Int×rj×Nat×Nat×(List eK)×Int×Int×(List eK)×(List eK)
abbrev aH.L0.Y:=Nat×Nat×(List eK)×(List eK)
abbrev aH.L0.X:=(Int×Int)×(Nat×Nat×(List eK)×(List eK))
def aH.L0.add:aH.L0.D->aH.L0.Y->aH.L0.X:=λ(ns,oW,t9,presses,mX,firstL,restL,t48,t49,t50,M7,M8) y=>((ns,t9),y)
abbrev aH.L1.D:=Int×Int×Nat×Nat×Int×Int×Nat×(List eK)×(List eK)×(List jz)
abbrev aH.L1.Y:=Nat×(List jz)
abbrev aH.L1.X:=(Int×Int×Nat×Nat×(List eK)×(List eK))×(Nat×(List jz))
def aH.L1.add:aH.L1.D->aH.L1.Y->aH.L1.X:=λ(rQ,IG,oT,uk,t88,t89,EL,BV,xY,n102) y=>((rQ,IG,oT,uk,BV,xY),y)
abbrev aH.L2.D:=Int×Nat×Nat×Int×Int×Nat×(List eK)×(List jz)
abbrev aH.L2.Y:=Int×Nat
abbrev aH.L2.X:=(Nat×(List eK)×(List jz))×(Int×Nat)
def aH.L2.add:aH.L2.D->aH.L2.Y->aH.L2.X:=λ(qi,qm,DY,t113,t114,xf,Af,sk) y=>((qm,Af,sk),y)
abbrev aH.L3.D:=Int×Int×Int×Nat×(List jz)
abbrev aH.L3.Y:=(List jz)
abbrev aH.L3.X:=(Nat)×((List jz))
def aH.L3.add:aH.L3.D->aH.L3.Y->aH.L3.X:=λ(rR,t135,t136,vj,kV) y=>(vj,y)
abbrev aH.D:=(List eK)×Int×rj×Int
abbrev aH.Y:=(List jz)×Int
def E9(x:eK):Prop:=Fg x/\SD x.2.1.2.1/\x.2.2.2.2.2.1<=9223372036854775807
def tD(b:rj)(h:Int)(x:eK):Bool:=lT h x && kW b h x
def tK(b:rj)(h:Int)(x:eK):Bool:=lT h x && !kW b h x
def fh(l:List eK)(b:rj)(h:Int):List eK:=wg (t:=ei) rT (l.filter (tD b h))
def kq(l:List eK)(b:rj)(h:Int):List eK:=wg (t:=ei) CM (l.filter (tK b h))
def kJ(x:eK):jz:=gC [x]
def nP(l:List eK)(b:rj)(h:Int):List jz:=(fh l b h).map kJ++(jq (kq l b h)).map gC
def nw:Int->List jz->Int×List jz
 |b,[]=>(b,[])
 |b,g::l=>if g.2.1 > b then(b,[]) else((nw (b - g.2.1) l).1,g::(nw (b - g.2.1) l).2)
def Am(g:jz)(m:Int):jz:=(g.1,(g.2.1,(g.2.2.1+m,g.2.2.2)))
def nD(b:Int)(g:jz):Int:=sQ b ((nth ei g.1 0).2.1.1 - g.2.1)
def lu:Nat->Int->List jz->List jz
 | 0,_,l=>l
 |_+1,_,[]=> []
 |n+1,b,g::l=>Am g (nD b g)::lu n (b - nD b g) l
def oD(l:List eK)(budget:Int)(b:rj)(h:Int):List jz:=lu (fh l b h).length (nw budget (nP l b h)).1 (nw budget (nP l b h)).2
def mH(l:List eK)(budget:Int)(b:rj)(h:Int):Bool:=decide (0<=budget/\budget<=1125899906842624) && (kB b && (decide (1<=h/\h<=1048576) && zp l))
def yh(l:List eK)(budget:Int)(b:rj)(h:Int):List jz×Int:=if mH l budget b h=true then(oD l budget b h,0) else([],1)
def aH.L0.aU:aH.L0.D->Prop:=λ(_,h,_,h',b,fl,rl,l,n,i,rs,fs)=>(∀x∈l,E9 x)/\(1<=h/\h<=1048576)/\h=h'/\fl=fs.length/\rl=rs.length/\l.length<=1000/\n=(l.length:Int)/\∃k:Nat,k<=l.length/\i=k/\fs.length<=k/\rs.length<=k
def aH.L0.F:aH.L0.D->aH.L0.Y:=λ(_,h,_,_,b,fl,rl,l,_,i,rs,fs)=>(fl+((l.drop i.toNat).filter (tD b h)).length,rl+((l.drop i.toNat).filter (tK b h)).length,rs++(l.drop i.toNat).filter (tK b h),fs++(l.drop i.toNat).filter (tD b h))
def aH.L1.aU:aH.L1.D->Prop:=λ(_,_,fl,_,n,i,m,_,fs,all)=>fl=fs.length/\fs.length<=1000/\n=(fs.length:Int)/\m=all.length/\∃k:Nat,k<=fs.length/\i=k/\all.length<=k
def aH.L1.F:aH.L1.D->aH.L1.Y:=λ(_,_,_,_,_,i,m,_,fs,all)=>(m+(fs.drop i.toNat).length,all++(fs.drop i.toNat).map kJ)
def aH.L2.aU:aH.L2.D->Prop:=λ(bu,_,m,n,i,m2,_,all)=>m=all.length/\m2=all.length/\all.length<=10000/\n=(all.length:Int)/\(0<=bu/\bu<=1125899906842624)/\(∀g∈all,0<=g.2.1)/\∃k:Nat,k<=all.length/\i=k
def aH.L2.F:aH.L2.D->aH.L2.Y:=λ(bu,_,_,_,i,_,_,all)=>((nw bu (all.drop i.toNat)).1,i.toNat+(nw bu (all.drop i.toNat)).2.length)
def O2(g:jz):Prop:=0 < g.1.length/\(0<=g.2.1/\g.2.1<=(nth ei g.1 0).2.1.1/\(nth ei g.1 0).2.1.1<=1099511627776)/\0<=g.2.2.1/\g.2.2.1<=1000000
def aH.L3.aU:aH.L3.D->Prop:=λ(bu,n,i,m,all)=>m<=all.length/\all.length<=10000/\(0<=bu/\bu<=1125899906842624)/\∃k j:Nat,n=j/\i=k/\k<=j/\j<=m/\∀g∈(all.take j).drop k,O2 g
def aH.L3.F:aH.L3.D->aH.L3.Y:=λ(bu,n,i,m,all)=>all.take i.toNat++lu (n - i).toNat bu (all.drop i.toNat)
def aH.aU:aH.D->Prop:=λ(l,_,_,h)=>(∀x∈l,E9 x)
def aH.F:aH.D->aH.Y:=λ(l,bu,b,h)=>yh l bu b h
def aH.L0:Ls aH.L0.aU aH.L0.add aH.L0.F:=pG (λ(ns,oW,t9,presses,mX,firstL,restL,t48,t49,t50,M7,M8)=>⟨([.undef,.d ti ns]++bj 5 ([.ed ti oW,.df,.d ti t9,.fn 100 (.cons (.ed ti presses) (.cons (.ed p9 mX) (.nil))),.cP (.new 81 0) 0 [] 0 0 firstL,.cP (.new 58 0) 0 [] 0 0 restL]++bj 35 ([.d (.slice ei) t48,.d ti t49,.d ti t50]++bj 119 []))),[],(cg 58 ([[.obj 0 false (.vec 117 ei M7)]]++cg 22 ([[.obj 0 false (.vec 117 ei M8)]]++cg 88 [])))⟩) (λx=>(.exit 0,⟨([.undef,.d ti x.1.1]++bj 6 ([.df,.d ti x.1.2,.undef,.cP (.new 81 0) 0 [] 0 0 x.2.1,.cP (.new 58 0) 0 [] 0 0 x.2.2.1]++bj 157 [])),[],(cg 58 ([[.obj 0 false (.vec 117 ei x.2.2.2.1)]]++cg 22 ([[.obj 0 false (.vec 117 ei x.2.2.2.2)]]++cg 88 [])))⟩))
def aH.L1:Ls aH.L1.aU aH.L1.add aH.L1.F:=pG (λ(rQ,IG,oT,uk,t88,t89,EL,BV,xY,n102)=>⟨([.undef,.d ti rQ]++bj 6 ([.df,.d ti IG,.undef,.cP (.new 81 0) 0 [] 0 0 oT,.cP (.new 58 0) 0 [] 0 0 uk,.undef,.undef,.ptr (.new 15 0) 0 [] 0]++bj 72 ([.d ti t88,.d ti t89]++bj 80 []))),[],(cg 15 ([[.obj 0 false (.cP (.new 102 0) 0 [] 0 0 EL)]]++cg 42 ([[.obj 0 false (.vec 117 ei BV)]]++cg 22 ([[.obj 0 true (.vec 117 ei xY)]]++cg 20 ([[.obj 0 false (.vec 105 oq n102)]]++cg 67 [])))))⟩) (λx=>(.exit 3,⟨([.undef,.d ti x.1.1]++bj 6 ([.df,.d ti x.1.2.1,.undef,.cP (.new 81 0) 0 [] 0 0 x.1.2.2.1,.cP (.new 58 0) 0 [] 0 0 x.1.2.2.2.1,.undef,.undef,.ptr (.new 15 0) 0 [] 0]++bj 154 [])),[],(cg 15 ([[.obj 0 false (.cP (.new 102 0) 0 [] 0 0 x.2.1)]]++cg 42 ([[.obj 0 false (.vec 117 ei x.1.2.2.2.2.1)]]++cg 22 ([[.obj 0 true (.vec 117 ei x.1.2.2.2.2.2)]]++cg 20 ([[.obj 0 false (.vec 105 oq x.2.2)]]++cg 67 [])))))⟩))
def aH.L2:Ls aH.L2.aU aH.L2.add aH.L2.F:=pG (λ(qi,qm,DY,t113,t114,xf,Af,sk)=>⟨([.undef,.d ti qi]++bj 9 ([.cP (.new 81 0) 0 [] 0 0 qm,.undef,.undef,.undef,.ptr (.new 15 0) 0 [] 0]++bj 96 ([.cP (.new 102 0) 1 [] 0 0 DY,.d ti t113,.d ti t114]++bj 55 []))),[],(cg 15 ([[.obj 0 false (.cP (.new 102 0) 1 [] 0 0 xf)]]++cg 65 ([[.obj 0 true (.vec 117 ei Af)]]++cg 20 ([[.obj 1 false (.vec 105 oq sk)]]++cg 67 []))))⟩) (λx=>(.exit 7,⟨([.undef,.d ti x.2.1]++bj 9 ([.cP (.new 81 0) 0 [] 0 0 x.1.1,.undef,.undef,.undef,.ptr (.new 15 0) 0 [] 0]++bj 154 [])),[],(cg 15 ([[.obj 0 false (.cP (.new 102 0) 1 [] 0 0 x.2.2)]]++cg 65 ([[.obj 0 true (.vec 117 ei x.1.2.1)]]++cg 20 ([[.obj 1 false (.vec 105 oq x.1.2.2)]]++cg 67 []))))⟩))
def aH.L3:Ls aH.L3.aU aH.L3.add aH.L3.F:=pG (λ(rR,t135,t136,vj,kV)=>⟨([.undef,.d ti rR]++bj 13 ([.ptr (.new 15 0) 0 [] 0]++bj 119 ([.d ti t135,.d ti t136]++bj 33 []))),[],(cg 15 ([[.obj 0 false (.cP (.new 102 0) 1 [] 0 0 vj)]]++cg 86 ([[.obj 1 false (.vec 105 oq kV)]]++cg 67 [])))⟩) (λx=>(.exit 9,⟨(bj 15 ([.ptr (.new 15 0) 0 [] 0]++bj 154 [])),[],(cg 15 ([[.obj 0 false (.cP (.new 102 0) 1 [] 0 0 x.1)]]++cg 86 ([[.obj 1 false (.vec 105 oq x.2)]]++cg 67 [])))⟩))
def aH:Fs Tryz.prog aH.aU bE aH.F:=fK 44 Tryz.f44 (λ(l,budget,b,height)=>([.d (.slice ei) l,.d ti budget,.d p9 b,.d ti height],[])) (λx=>⟨.cons (.d (.slice oq) x.1) (.cons (.d ti x.2) (.nil)),[],[]⟩) [some (.slice ei),some ti,some p9,some ti] [fw.sg,bG.sg,alone.sg,cD.sg,iG.sg,cV.sg,G2.sg,G1.sg,bV.sg,gN.sg,gG.sg] {loops:=oM [(6,{bm:=[1,7,8,9,10,11,12,48,49,50],sites:=[58,81],owns:=[⟨11,[],81,92⟩,⟨12,[],58,92⟩]}),(17,{bm:=[1,8,9,11,12,15,88,89],sites:=[15,58,81,102],HT:=[(.new 81 0)],owns:=[⟨15,[.arr],102,96⟩]}),(25,{bm:=[1,11,15,112,113,114],sites:=[15,81,102]}),(32,{bm:=[1,15,135,136],sites:=[15,102]})],outs:=oL [(6,{bm:=[1,8,9,11,12],sites:=[58,81]},{bm:=[8,9]}),(17,{bm:=[1,8,9,11,12,15],sites:=[15,58,81,102]},{bm:=[8,9]}),(25,{bm:=[1,11,15],sites:=[15,81,102]},{bm:=[8,9]}),(32,{bm:=[15],sites:=[15,102]},{bm:=[8,9]})],iA:=pq [(6,aH.L0.E),(17,aH.L1.E),(25,aH.L2.E),(32,aH.L3.E)],res:=[some (.slice oq),none],rf:=pq [(106,(4294968000,[15]))]}
theorem aH.L0.run:aH.L0.RS:=rL [.d ti,.d ti,.d ti,.d ti,.d p9,.n,.n,.d (.slice ei),.d ti,.d ti,.d (.slice ei),.d (.slice ei)] aH.L0
theorem aH.L0.step{R:Type}(ns oW t9 presses mX firstL restL t48 t49 t50 M7 M8)(kn:K2 R)(kx:K3 R):aH.R 0 aH.L0 (ns,oW,t9,presses,mX,firstL,restL,t48,t49,t50,M7,M8) kn kx=
  aJ ((ik t50 t49)) (
   aJ (eY t50 (t48.length:Int)) (
   av (alone.call ((nth ei t48 (Int.toNat t50)),oW)) λx1=>
   aJ ((!x1)) (
    kn (aH.L0.st (ns,oW,t9,presses,mX,firstL,restL,t48,t49,(bt .i64 t50 1),M7,M8))) (
    av (cD.call [(nth ei t48 (Int.toNat t50))]) λx2=>
    aJ ((ik (nth ei t48 (Int.toNat t50)).2.1.1 x2)) (
     kn (aH.L0.st (ns,oW,t9,presses,mX,firstL,restL,t48,t49,(bt .i64 t50 1),M7,M8))) (
     av (iG.call ((nth ei t48 (Int.toNat t50)),presses,mX)) λx3=>
     aJ (x3) (
      av (cV.call (nth ei t48 (Int.toNat t50))) λx4=>
      aJ (decide (firstL<=(List.length M8))) (
      aJ (dG (firstL+1) 104) (
      kn (aH.L0.st (ns,oW,t9,presses,mX,(firstL+1),restL,t48,t49,(bt .i64 t50 1),M7,((List.take firstL M8)++ [x4])))) none) none) (
      av (cV.call (nth ei t48 (Int.toNat t50))) λx5=>
      aJ (decide (restL<=(List.length M7))) (
      aJ (dG (restL+1) 104) (
      kn (aH.L0.st (ns,oW,t9,presses,mX,firstL,(restL+1),t48,t49,(bt .i64 t50 1),((List.take restL M7)++ [x5]),M8))) none) none)))) none) (
   aH.L0.go kx ((ns,t9),(firstL,restL,M7,M8))):=by kernel_rfl
theorem aH.L1.run:aH.L1.RS:=rL [.d ti,.d ti,.n,.n,.d ti,.d ti,.n,.d (.slice ei),.d (.slice ei),.d (.slice oq)] aH.L1
theorem aH.L1.step{R:Type}(rQ IG oT uk t88 t89 EL BV xY n102)(kn:K2 R)(kx:K3 R):aH.R 1 aH.L1 (rQ,IG,oT,uk,t88,t89,EL,BV,xY,n102) kn kx=
  aJ ((ik t89 t88)) (
   aJ (decide (0<=(bt .i64 t89 1)/\(bt .i64 t89 1)<=(bt .i64 t89 1)/\(bt .i64 t89 1)<=((oT:Nat):Int))) (
   aJ (inc (bt .i64 t89 1) ((oT:Nat):Int)) (
   aJ (inc t89 (((Int.toNat (bt .i64 t89 1)):Nat):Int)) (
   aJ (decide ((0+((0+(Int.toNat t89))*39))=(0+((Int.toNat t89)*39))/\((0+(Int.toNat t89))+((Int.toNat (bt .i64 t89 1)) - (Int.toNat t89)))<=(List.length xY))) (
   av (bV.call (cut xY (0+(Int.toNat t89)) ((Int.toNat (bt .i64 t89 1)) - (Int.toNat t89)))) λx1=>
   aJ (decide (EL<=(List.length n102))) (
   aJ (dG (EL+1) 48) (
   kn (aH.L1.st (rQ,IG,oT,uk,t88,(bt .i64 t89 1),(EL+1),BV,xY,((List.take EL n102)++ [x1])))) none) none) none) none) none) none) (
   aH.L1.go kx ((rQ,IG,oT,uk,BV,xY),(EL,n102))):=by kernel_rfl
theorem aH.L2.run:aH.L2.RS:=rL [.d ti,.n,.n,.d ti,.d ti,.n,.d (.slice ei),.d (.slice oq)] aH.L2
theorem aH.L2.step{R:Type}(qi qm DY t113 t114 xf Af sk)(kn:K2 R)(kx:K3 R):aH.R 2 aH.L2 (qi,qm,DY,t113,t114,xf,Af,sk) kn kx=
  aJ ((ik t114 t113)) (
   aJ (eY t114 ((DY:Nat):Int)) (
   aJ (decide ((0+(Int.toNat t114)) < (List.length sk))) (
   aJ (decide ((((0+(Int.toNat t114))*4)+0)=(0+((Int.toNat t114)*4)))) (
   aJ ((nc (nth oq sk (0+(Int.toNat t114))).2.1 qi)) (
    aJ (inc t114 ((xf:Nat):Int)) (
    aH.L2.go kx ((qm,Af,sk),(qi,((Int.toNat t114) - 0)))) none) (
    kn (aH.L2.st ((dp .i64 qi (nth oq sk (0+(Int.toNat t114))).2.1),qm,DY,t113,(bt .i64 t114 1),xf,Af,sk)))) none) none) none) (
   aH.L2.go kx ((qm,Af,sk),(qi,xf))):=by kernel_rfl
theorem aH.L3.run:aH.L3.RS:=rL [.d ti,.d ti,.d ti,.n,.d (.slice oq)] aH.L3
theorem aH.L3.step{R:Type}(rR t135 t136 vj kV)(kn:K2 R)(kx:K3 R):aH.R 3 aH.L3 (rR,t135,t136,vj,kV) kn kx=
  aJ ((ik t136 t135)) (
   aJ (eY t136 ((vj:Nat):Int)) (
   aJ (decide ((0+(Int.toNat t136)) < (List.length kV))) (
   aJ (decide ((((0+(Int.toNat t136))*4)+0)=((0+((Int.toNat t136)*4))+0))) (
   aJ (eY 0 (((List.length (nth oq kV (0+(Int.toNat t136))).1):Nat):Int)) (
   aJ (decide ((0+(Int.toNat t136)) < (List.length kV))) (
   aJ (decide ((((0+(Int.toNat t136))*4)+1)=((0+((Int.toNat t136)*4))+1))) (
   aJ (decide ((0+(Int.toNat t136)) < (List.length kV))) (
   aJ (decide ((((0+(Int.toNat t136))*4)+2)=((0+((Int.toNat t136)*4))+2))) (
   aJ (decide ((0+(Int.toNat t136)) < (List.length kV))) (
   aJ (decide ((((0+(Int.toNat t136))*4)+2)=((0+((Int.toNat t136)*4))+2))) (
   aJ (decide ((0+(Int.toNat t136)) < (List.length kV))) (
   kn (aH.L3.st ((dp .i64 rR (sQ rR (dp .i64 (nth ei (nth oq kV (0+(Int.toNat t136))).1 0).2.1.1 (nth oq kV (0+(Int.toNat t136))).2.1))),t135,(bt .i64 t136 1),vj,(List.set kV (0+(Int.toNat t136)) ((nth oq kV (0+(Int.toNat t136))).1,((nth oq kV (0+(Int.toNat t136))).2.1,((bt .i64 (nth oq kV (0+(Int.toNat t136))).2.2.1 (sQ rR (dp .i64 (nth ei (nth oq kV (0+(Int.toNat t136))).1 0).2.1.1 (nth oq kV (0+(Int.toNat t136))).2.1))),(nth oq kV (0+(Int.toNat t136))).2.2.2))))))) none) none) none) none) none) none) none) none) none) none) none) (
   aH.L3.go kx (vj,kV)):=by kernel_rfl
theorem aH.eq{R:Type}(l budget b height)(k:K1 R):aH.A (l,budget,b,height) k=
  aJ ((ik budget 0)) (
   k (aH.out (([]:List jz),1))) (
   aJ ((nc budget 1125899906842624)) (
    k (aH.out (([]:List jz),1))) (
    av (fw.call b) λx1=>
    aJ ((!x1)) (
     k (aH.out (([]:List jz),1))) (
     aJ ((ik height 1)) (
      k (aH.out (([]:List jz),1))) (
      aJ ((nc height 1048576)) (
       k (aH.out (([]:List jz),1))) (
       av (bG.call l) λx2=>
       aJ ((!x2)) (
        k (aH.out (([]:List jz),1))) (
        av (aH.L0.call (budget,height,0,height,b,0,0,l,(l.length:Int),0,([]:List eK),([]:List eK))) λJB=>
        av (G2.call (JB.2.1,JB.2.2.2.2)) λNa=>
        av (G1.call (JB.2.2.1,JB.2.2.2.1)) λQ0=>
        av (aH.L1.call (JB.1.1,JB.1.2,JB.2.1,JB.2.2.1,((JB.2.1:Nat):Int),0,0,Q0.2,Na.2,([]:List jz))) λOe=>
        aJ (decide (0=0/\(0+Oe.1.2.2.2.1)<=(List.length Oe.1.2.2.2.2.1))) (
        av (gN.call ((cut Oe.1.2.2.2.2.1 0 Oe.1.2.2.2.1),8)) λUL=>
        av (gG.call (Oe.2.1,Oe.2.2,UL.1,UL.2)) λS7=>
        av (aH.L2.call (Oe.1.1,Oe.1.2.2.1,S7.1,((S7.1:Nat):Int),0,S7.1,Oe.1.2.2.2.2.2,S7.2.1)) λCI=>
        av (aH.L3.call (CI.2.1,(sQ ((CI.2.2:Nat):Int) ((CI.1.1:Nat):Int)),0,CI.2.2,CI.1.2.2)) λQ1=>
        aJ (decide (0=0/\(0+Q1.1)<=(List.length Q1.2))) (
        k (aH.out ((cut Q1.2 0 Q1.1),0))) none) none)))))):=by kernel_rfl
theorem BA{h:Int}{x:eK}(e:yN x h=true):x.2.2.2.2.2.1=0\/h < x.2.2.2.2.2.1:=(of_decide_eq_true e).2
theorem aH.L0.ok:(aH.lE 0 aH.L0):=by
 refine(aH.mr 0 aH.L0) (λ(_,_,_,_,_,_,_,l,_,i,_,_)=>l.length - i.toNat) ?_
 rintro⟨bu,h,t9,h',b,fl,rl,l,n,i,rs,fs⟩ ⟨hx,hh,rfl,rfl,rfl,hl,rfl,k,hk,rfl,hf,hr⟩
 have hl:l.length<=1000:=hl
 have hk:k<=l.length:=hk
 have hf:fs.length<=k:=hf
 have hr:rs.length<=k:=hr
 by_cases jt:k < l.length
 ·left
  have n1:nth ei l k=l[k]:=dg (t:=ei) jt
  have hd:l.drop k=l[k]::l.drop (k+1):=aq jt
  obtain⟨hq,hb,hu⟩:=hx _ (bw jt)
  have ca:=alone.run (d:=(l[k],h)) trivial
  have cw:=cD.run (d:=[l[k]]) (by show 1<=_;decide)
  have cc:=cV.run (d:=l[k]) hb
  have skip:lT h l[k]=false->∀ {R:Type} (kn:K2 R) (kx:K3 R),aH.R 0 aH.L0 (bu,h,t9,h,b,fs.length,rs.length,l,(l.length:Int),(k:Int),rs,fs) kn kx=kn (aH.L0.st (bu,h,t9,h,b,fs.length,rs.length,l,(l.length:Int),((k+1:Nat):Int),rs,fs)):=by
   intro KZ R kn kx
   rw[aH.L0.step,bh (by omega),ae,bp (by omega) (by omega),ae,aa,n1,ca]
   simp only[ab,bE,alone.F]
   unfold lT at KZ
   cases ha:yN l[k] h with
   |false=>rw[dX,ae,N.pk (by omega)]
   |true=>
    rw[ha,bO,Bool.not_eq_false']at KZ
    rw[cq,ah,cw]
    simp only[ab,bE,cD.F]
    rw[bh (of_decide_eq_true KZ),ae,N.pk (by omega)]
  cases KZ:lT h l[k]with
  |false=>
   have e1:tD b h l[k]=false:=by unfold tD;rw[KZ];rfl
   have e2:tK b h l[k]=false:=by unfold tK;rw[KZ];rfl
   refine⟨(bu,h,t9,h,b,fs.length,rs.length,l,(l.length:Int),((k+1:Nat):Int),rs,fs),⟨hx,hh,rfl,rfl,rfl,hl,rfl,k+1,by omega,rfl,by show fs.length<=_;omega,by show rs.length<=_;omega⟩,by simp only[aa];omega,?_,λkn kx=>skip KZ kn kx⟩
   simp only[aH.L0.add,aH.L0.F,aa,hd,kO,e1,e2,bJ,if_false]
  |true=>
   have PS:=KZ
   unfold lT at PS
   rw[ak,bX]at PS
   obtain⟨ha,hw⟩:=PS
   have cp:=iG.run (d:=(l[k],h,b)) ⟨hh,BA ha,hu⟩
   cases hp:kW b h l[k]with
   |true=>
    have e1:tD b h l[k]=true:=by unfold tD;rw[KZ,hp];rfl
    have e2:tK b h l[k]=false:=by unfold tK;rw[KZ,hp];rfl
    refine⟨(bu,h,t9,h,b,fs.length+1,rs.length,l,(l.length:Int),((k+1:Nat):Int),rs,fs++ [l[k]]),⟨hx,hh,rfl,by simp,rfl,hl,rfl,k+1,by omega,rfl,by rw[aj];show fs.length+1<=_;omega,by show rs.length<=_;omega⟩,by simp only[aa];omega,?_,λkn kx=> ?_⟩
    ·simp only[aH.L0.add,aH.L0.F,aa,hd,kO,e1,e2,bJ,if_false,if_true,aD,bk,dy]
     rw[ew,Nat.add_comm 1]
    ·rw[aH.L0.step,bh (by omega),ae,bp (by omega) (by omega),ae,aa,n1,ca]
     simp only[ab,bE,alone.F,ha,cq,ah]
     rw[cw]
     simp only[ab,bE,cD.F]
     rw[aR (of_decide_eq_false hw),ah,cp]
     simp only[ab,bE,iG.F,hp,ae]
     rw[cc]
     simp only[ab,bE,cV.F]
     rw[aP (ay _),ae,dU (by omega) (by omega),ae,bY,N.pk (by omega)]
   |false=>
    have e1:tD b h l[k]=false:=by unfold tD;rw[KZ,hp];rfl
    have e2:tK b h l[k]=true:=by unfold tK;rw[KZ,hp];rfl
    refine⟨(bu,h,t9,h,b,fs.length,rs.length+1,l,(l.length:Int),((k+1:Nat):Int),rs++ [l[k]],fs),⟨hx,hh,rfl,rfl,by simp,hl,rfl,k+1,by omega,rfl,by show fs.length<=_;omega,by rw[aj];show rs.length+1<=_;omega⟩,by simp only[aa];omega,?_,λkn kx=> ?_⟩
    ·simp only[aH.L0.add,aH.L0.F,aa,hd,kO,e1,e2,bJ,if_false,if_true,aD,bk,dy]
     rw[ew rs.length,Nat.add_comm 1]
    ·rw[aH.L0.step,bh (by omega),ae,bp (by omega) (by omega),ae,aa,n1,ca]
     simp only[ab,bE,alone.F,ha,cq,ah]
     rw[cw]
     simp only[ab,bE,cD.F]
     rw[aR (of_decide_eq_false hw),ah,cp]
     simp only[ab,bE,iG.F,hp,ah]
     rw[cc]
     simp only[ab,bE,cV.F]
     rw[aP (ay _),ae,dU (by omega) (by omega),ae,bY,N.pk (by omega)]
 ·right
  obtain rfl:k=l.length:=by omega
  intro R kn kx
  rw[aH.L0.step,aR (by omega),ah]
  simp only[aH.L0.add,aH.L0.F,aa,aQ,List.filter_nil,aZ,cK,cH]
theorem aH.L1.ok:(aH.lE 1 aH.L1):=by
 refine(aH.mr 1 aH.L1) (λ(_,_,_,_,_,i,_,_,fs,_)=>fs.length - i.toNat) ?_
 rintro⟨bu,t9,fl,rl,n,i,m,rs,fs,all⟩ ⟨rfl,hl,rfl,rfl,k,hk,rfl,ha⟩
 have hl:fs.length<=1000:=hl
 have hk:k<=fs.length:=hk
 have ha:all.length<=k:=ha
 by_cases jt:k < fs.length
 ·left
  have hd:fs.drop k=fs[k]::fs.drop (k+1):=aq jt
  have ec:cut fs k 1=[fs[k]]:=by unfold cut;rw[hd];rfl
  refine⟨(bu,t9,fs.length,rl,(fs.length:Int),((k+1:Nat):Int),all.length+1,rs,fs,all++ [kJ fs[k]]),⟨rfl,hl,rfl,by simp,k+1,by omega,rfl,by rw[aj];show all.length+1<=_;omega⟩,by simp only[aa];omega,?_,λkn kx=> ?_⟩
  ·simp only[aH.L1.add,aH.L1.F,aa,hd,aD,bR,bk,dy]
   rw[ew,Nat.add_comm 1]
  ·rw[aH.L1.step,bh (by omega),ae,N.pk (by omega),aP ⟨by omega,dT _,by omega⟩,ae,mD (by omega) (by omega),ae]
   simp only[aa,aO,jm]
   rw[mD (by omega) (by omega),ae,aP ⟨trivial,by omega⟩,ae,ec,bV.run (d:=[fs[k]]) (by show 1<=_;decide)]
   simp only[ab,bE,bV.F]
   rw[aP (ay _),ae,dU (by omega) (by omega),ae,bY]
   rfl
 ·right
  obtain rfl:k=fs.length:=by omega
  intro R kn kx
  rw[aH.L1.step,aR (by omega),ah]
  simp only[aH.L1.add,aH.L1.F,aa,aQ,aZ,cK,fT,cH]
theorem aH.L2.ok:(aH.lE 2 aH.L2):=by
 refine(aH.mr 2 aH.L2) (λ(_,_,_,_,i,_,_,all)=>all.length - i.toNat) ?_
 rintro⟨bu,fl,m,n,i,m2,fs,all⟩ ⟨rfl,rfl,hl,rfl,hb,hg,k,hk,rfl⟩
 have hl:all.length<=10000:=hl
 have hk:k<=all.length:=hk
 have hb:0<=bu/\bu<=1125899906842624:=hb
 by_cases jt:k < all.length
 ·have n1:nth oq all k=all[k]:=dg (t:=oq) jt
  have hd:all.drop k=all[k]::all.drop (k+1):=aq jt
  have PM:=hg _ (bw jt)
  by_cases hc:all[k].2.1 > bu
  ·right
   intro R kn kx
   rw[aH.L2.step,bh (by omega),ae,bp (by omega) (by omega),ae]
   simp only[aa,aO,cK,aP jt,ae,decide_true,n1]
   rw[cX hc,ae,mD (by omega) (by omega),ae]
   simp only[aH.L2.add,aH.L2.F,aa,hd,nw,if_pos hc,aZ,cK,Nat.sub_zero]
  ·left
   refine⟨(bu - all[k].2.1,fl,all.length,(all.length:Int),((k+1:Nat):Int),all.length,fs,all),⟨rfl,rfl,hl,rfl,⟨by omega,by omega⟩,hg,k+1,by omega,rfl⟩,by simp only[aa];omega,?_,λkn kx=> ?_⟩
   ·simp only[aH.L2.add,aH.L2.F,aa,hd,nw,if_neg hc,aD]
    rw[ew,Nat.add_comm 1]
   ·rw[aH.L2.step,bh (by omega),ae,bp (by omega) (by omega),ae]
    simp only[aa,aO,cK,aP jt,ae,decide_true,n1]
    rw[cj hc,ah,eE (by omega) (by omega),N.pk (by omega)]
 ·right
  obtain rfl:k=all.length:=by omega
  intro R kn kx
  rw[aH.L2.step,aR (by omega),ah]
  simp only[aH.L2.add,aH.L2.F,aa,aQ,nw,aZ,cK]
theorem EK{b:Int}{g:jz}(hg:O2 g)(hb:0<=b/\b<=1125899906842624):0<=nD b g/\nD b g<=b/\nD b g<=(nth ei g.1 0).2.1.1 - g.2.1:=by
 obtain⟨_,h1,_⟩:=hg
 unfold nD sQ
 split <;> omega
theorem aH.L3.ok:(aH.lE 3 aH.L3):=by
 refine(aH.mr 3 aH.L3) (λ(_,n,i,_,_)=>(n - i).toNat) ?_
 rintro⟨bu,n,i,m,all⟩ ⟨hm,hl,hb,k,j,rfl,rfl,hk,hj,hg⟩
 have hm:m<=all.length:=hm
 have hl:all.length<=10000:=hl
 have hk:k<=j:=hk
 have hj:j<=m:=hj
 have hb:0<=bu/\bu<=1125899906842624:=hb
 by_cases jt:k < j
 ·left
  obtain⟨q,hq⟩:∃q,j=k+1+q:=⟨j - (k+1),by omega⟩
  have ek:k < all.length:=by omega
  have n1:nth oq all k=all[k]:=dg (t:=oq) ek
  have hd:all.drop k=all[k]::all.drop (k+1):=aq ek
  have e1:((j:Int) - (k:Int)).toNat=q+1:=by omega
  have e2:((j:Int) - ((k+1:Nat):Int)).toNat=q:=by omega
  have VM:k < (all.take j).length:=by rw[cU];omega
  have Vz:(all.take j).drop k=all[k]::(all.take j).drop (k+1):=by rw[aq VM,List.getElem_take]
  rw[Vz]at hg
  have PM:=hg _ aN
  obtain⟨g1,g2,g3⟩:=id PM
  have SQ:=EK PM hb
  have g2:(0:Int)<=all[k].2.1/\ @LE.le Int _ all[k].2.1 (nth ei all[k].1 0).2.1.1/\ @LE.le Int _ (nth ei all[k].1 0).2.1.1 1099511627776:=g2
  have es:all.set k (Am all[k] (nD bu all[k]))=all.take k++Am all[k] (nD bu all[k])::all.drop (k+1):=List.set_eq_take_append_cons_drop▸if_pos ek
  have et:(all.set k (Am all[k] (nD bu all[k]))).take (k+1)=all.take k++ [Am all[k] (nD bu all[k])]:=by
   rw[es,kS,cU,fp (by omega),bz (by rw[cU];omega),show k+1 - k=1 by omega]
   rfl
  have eD:(all.set k (Am all[k] (nD bu all[k]))).drop (k+1)=all.drop (k+1):=List.drop_set_of_lt (by omega)
  refine⟨(bu - nD bu all[k],(j:Int),((k+1:Nat):Int),m,all.set k (Am all[k] (nD bu all[k]))),⟨by rw[j8];exact hm,by rw[j8];exact hl,⟨by omega,by omega⟩,k+1,j,rfl,rfl,by omega,hj,λg UY=> ?_⟩,by simp only[e1,e2];omega,?_,λkn kx=> ?_⟩
  ·have:((all.set k (Am all[k] (nD bu all[k]))).take j).drop (k+1)=(all.take j).drop (k+1):=by
    rw[List.take_set,List.drop_set_of_lt (by omega)]
   rw[this]at UY
   exact hg g (aL _ UY)
  ·simp only[aH.L3.add,aH.L3.F,aa,e1,e2,hd,lu,et,eD,bk,dy]
  ·rw[aH.L3.step,bh (by omega),ae,bp (by omega) (by omega),ae]
   simp only[aa,aO,cK,aP ek,ae,decide_true,n1]
   rw[bp (by omega) (by omega),ae,eE (x:=(nth ei all[k].1 0).2.1.1) (by omega) (by omega)]
   rw[show sQ bu ((nth ei all[k].1 0).2.1.1 - all[k].2.1)=nD bu all[k] from rfl,eE (by omega) (by omega),eC (x:=all[k].2.2.1) (by omega) (by omega),N.pk (by omega)]
   rfl
 ·right
  obtain rfl:k=j:=by omega
  intro R kn kx
  have e1:((k:Int) - (k:Int)).toNat=0:=by omega
  rw[aH.L3.step,aR (by omega),ah]
  simp only[aH.L3.add,aH.L3.F,aa,e1,lu,dL]
theorem Dm:∀ {l:List eK},(l.map (·.1)).Nodup->∀ {x y:eK},x∈l->y∈l->x.1=y.1->x=y
 |[],_,_,_,hx,_,_=>by cases hx
 |a::l,hn,x,y,hx,hy,e=>by
  rw[bR,dK]at hn
  rcases dd.1 hx with h1 | h1
  ·rcases dd.1 hy with h2 | h2
   ·rw[h1,h2]
   ·exact absurd (by rw[<-h1,e];exact gB h2) hn.1
  ·rcases dd.1 hy with h2 | h2
   ·exact absurd (by rw[<-h2,<-e];exact gB h1) hn.1
   ·exact Dm hn.2 h1 h2 e
theorem zi:∀(n:Nat) (b:Int) (l:List jz),(lu n b l).length=l.length
 | 0,_,_=>rfl
 |_+1,_,[]=>rfl
 |n+1,b,g::l=>by rw[lu,aD,aD,zi n]
theorem kj{l:List eK}(hx:∀x∈l,E9 x)(hn:(l.map (·.1)).Nodup)(p:eK->Bool):(∀x∈l.filter p,Fg x)/\(∀x∈l.filter p,∀y∈l.filter p,x.1=y.1->x=y):=by
 refine⟨λx h=>(hx x (eW.1 h).1).1,λx h y h2 e=> ?_⟩
 exact Dm hn (eW.1 h).1 (eW.1 h2).1 e
theorem Lx:∀(l:List jz) (b:Int),(∀g∈l,0<=g.2.1)->0<=b->(0<=(nw b l).1/\(nw b l).1<=b)/\∃k,k<=l.length/\(nw b l).2=l.take k
 |[],b,_,hb=>⟨⟨hb,dT _⟩,0,ay _,rfl⟩
 |g::l,b,h,hb=>by
  unfold nw
  by_cases hc:g.2.1 > b
  ·rw[if_pos hc]
   exact⟨⟨hb,dT _⟩,0,aV _,rfl⟩
  ·rw[if_neg hc]
   have h0:=h g aN
   obtain⟨⟨i1,i2⟩,k,i3,i4⟩:=Lx l (b - g.2.1) (λx hx=>h x (aL _ hx)) (by omega)
   refine⟨⟨i1,by show(nw (b - g.2.1) l).1<=b;omega⟩,k+1,by rw[aD];omega,?_⟩
   show g::(nw (b - g.2.1) l).2=_
   rw[i4]
   rfl
theorem BJ:∀(n:Nat) (b:Int) (l:List jz) (m:Nat),(lu n b l).take m=lu n b (l.take m)
 | 0,_,_,_=>rfl
 |_+1,_,[],m=>by simp[lu]
 |n+1,b,g::l,0=>by simp[lu]
 |n+1,b,g::l,m+1=>by
  rw[ng,lu,lu,ng,BJ]
theorem DG:∀(n:Nat) (b:Int) (l:List jz),lu (min l.length n) b l=lu n b l
 | 0,_,l=>by rw[Nat.min_zero]
 |_+1,_,[]=>rfl
 |n+1,b,g::l=>by
  rw[aD,Nat.succ_min_succ,lu,lu,DG n]
theorem tQ{α:Type}:∀(n:Nat) (l:List α),l.length<=n->(jq l).length<=l.length/\∀c∈jq l,1<=c.length/\c.length<=8
 | 0,l,h=>by
  obtain rfl:=bo (Nat.le_zero.1 h)
  exact⟨ay _,λc hc=>(by cases hc)⟩
 |n+1,l,h=>by
  by_cases h0:0 < l.length
  ·have hd:(l.drop 8).length<=l.length - 1:=by rw[dx];omega
   obtain⟨i1,i2⟩:=tQ n (l.drop 8) (by omega)
   rw[uS h0]
   refine⟨by rw[aD];omega,λc hc=> ?_⟩
   rcases dd.1 hc with rfl | hc
   ·rw[cU];omega
   ·exact i2 c hc
  ·obtain rfl:=bo (by omega:l.length=0)
   exact⟨ay _,λc hc=>(by cases hc)⟩
section
variable {l:List eK} {b:rj} {h:Int}
theorem tC(hx:∀x∈l,E9 x):Hr (t:=ei) rT (l.filter (tD b h)) (fh l b h):=EW yU λx hm=>(hx x (eW.1 hm).1).1
theorem vY(hx:∀x∈l,E9 x):Hr (t:=ei) CM (l.filter (tK b h)) (kq l b h):=EW A1 λx hm=>(hx x (eW.1 hm).1).1
theorem wY(hx:∀x∈l,E9 x){x:eK}(hm:x∈fh l b h):x∈l/\lT h x=true/\kW b h x=true:=by
 obtain⟨h1,h2⟩:=eW.1 ((tC hx).1.mem_iff.1 hm)
 unfold tD at h2
 rw[ak]at h2
 exact⟨h1,h2⟩
theorem B0{x:eK}(ha:0<=x.2.1.1/\x.2.1.1<=1099511627776)(hk:lT h x=true):O2 (kJ x):=by
 have h1:=ot [x]
 unfold lT at hk
 rw[ak,bX]at hk
 have h2:=of_decide_eq_false hk.2
 have h3:sI [x]<=40:=h1.2
 exact⟨by show 0 < 1;decide,⟨h1.1,by show sI [x]<=x.2.1.1;omega,ha.2⟩,h1.1,by show sI [x]<=_;omega⟩
theorem Fo{g:jz}(hg:g∈nP l b h):0<=g.2.1:=by
 unfold nP at hg
 rcases bP.1 hg with hg | hg
 ·obtain⟨x,_,rfl⟩:=dD.1 hg
  exact(ot [x]).1
 ·obtain⟨c,_,rfl⟩:=dD.1 hg
  exact(ot c).1
end
theorem aH.ok:aH.Ok:=by
 rintro⟨l,bu,b,h⟩ hx
 have hx:∀x∈l,E9 x:=hx
 have z1:((0:Int)).toNat=0:=rfl
 rw[aH.eq]
 simp only[bE,aH.F,yh]
 by_cases a1:0<=bu
 rotate_left
 ·rw[bh (by omega),ae,if_neg (λe=>by unfold mH at e;rw[ak]at e;exact a1 (of_decide_eq_true e.1).1)]
 rw[aR (by omega),ah]
 by_cases a2:bu<=1125899906842624
 rotate_left
 ·rw[cX (by omega),ae,if_neg (λe=>by unfold mH at e;rw[ak]at e;exact a2 (of_decide_eq_true e.1).2)]
 rw[cj (by omega),ah,fw.run (d:=b) trivial]
 simp only[ab,bE,fw.F]
 cases a3:kB b with
 |false=>rw[dX,ae,if_neg (λe=>by unfold mH at e;rw[a3,dF,my]at e;cases e)]
 |true=>
 rw[cq,ah]
 by_cases a4:1<=h
 rotate_left
 ·rw[bh (by omega),ae,if_neg (λe=>by unfold mH at e;rw[ak,ak,ak]at e;exact a4 (of_decide_eq_true e.2.2.1).1)]
 rw[aR (by omega),ah]
 by_cases a5:h<=1048576
 rotate_left
 ·rw[cX (by omega),ae,if_neg (λe=>by unfold mH at e;rw[ak,ak,ak]at e;exact a5 (of_decide_eq_true e.2.2.1).2)]
 rw[cj (by omega),ah,bG.run (d:=l) trivial]
 simp only[ab,bE,bG.F]
 cases a6:zp l with
 |false=>rw[dX,ae,if_neg (λe=>by unfold mH at e;rw[a6,my,my,my]at e;cases e)]
 |true=>
 have nj:mH l bu b h=true:=by unfold mH;rw[aP ⟨a1,a2⟩,a3,aP ⟨a4,a5⟩,a6];rfl
 rw[if_pos nj,cq,ah]
 obtain⟨r1,r2,r3⟩:=(xk l).1 a6
 rw[aH.L0.run (d:=(bu,h,0,h,b,0,0,l,(l.length:Int),0,[],[])) ⟨hx,⟨a4,a5⟩,rfl,rfl,rfl,by omega,rfl,0,aV _,rfl,ay _,ay _⟩]
 simp only[ab,aH.L0.add,aH.L0.F,z1,aI,aO,aS]
 have fl:∀p,(l.filter p).length<=64:=λp=>Nat.le_trans (j3 p l) r1
 have s1:=G2.run (d:=((l.filter (tD b h)).length,l.filter (tD b h))) ⟨rfl,Nat.lt_of_le_of_lt (fl _) (by decide),(kj hx r2 _).1,λx hm y OD e1 e2=>(kj hx r2 _).2 x hm y OD (zJ ((kj hx r2 _).1 x hm) ((kj hx r2 _).1 y OD) e1 e2)⟩
 have s2:=G1.run (d:=((l.filter (tK b h)).length,l.filter (tK b h))) ⟨rfl,Nat.lt_of_le_of_lt (fl _) (by decide),(kj hx r2 _).1,λx hm y OD e1 e2=>(kj hx r2 _).2 x hm y OD (A6 ((kj hx r2 _).1 x hm) ((kj hx r2 _).1 y OD) e1 e2)⟩
 have f1:(l.filter (tD b h)).length=(fh l b h).length:=(tC hx).1.length_eq.symm
 have f2:(l.filter (tK b h)).length=(kq l b h).length:=(vY hx).1.length_eq.symm
 have g1:(fh l b h).length<=64:=by rw[<-f1];exact fl _
 have g2:(kq l b h).length<=64:=by rw[<-f2];exact fl _
 rw[s1]
 simp only[ab]
 rw[s2]
 simp only[ab]
 rw[show wg (t:=ei) rT (l.filter (tD b h))=fh l b h from rfl,show wg (t:=ei) CM (l.filter (tK b h))=kq l b h from rfl,f1,f2]
 rw[aH.L1.run (d:=(bu,0,(fh l b h).length,(kq l b h).length,((fh l b h).length:Int),0,0,kq l b h,fh l b h,[])) ⟨rfl,by omega,rfl,rfl,0,aV _,rfl,ay _⟩]
 simp only[ab,aH.L1.add,aH.L1.F,z1,aI,aO,aS]
 rw[aP ⟨trivial,by omega⟩,ae,fi rfl,gN.run (d:=(kq l b h,8)) (by show(1:Int)<=8;decide)]
 simp only[ab,gN.add,gN.F]
 rw[gG.run (d:=((fh l b h).length,(fh l b h).map kJ,kq l b h,8)) ⟨rfl,by show(kq l b h).length<=_;omega,by rw[cR],by show(fh l b h).length<=_;omega⟩]
 simp only[ab,bE,gG.F]
 have tW:(fh l b h).length+(jq (kq l b h)).length=(nP l b h).length:=by unfold nP;rw[aj,cR,cR]
 have hlen:(nP l b h).length<=1000:=by
  have:=(tQ _ (kq l b h) (ay _)).1
  omega
 have nW:∀g∈nP l b h,0<=g.2.1:=λg hg=>Fo hg
 rw[show(fh l b h).map kJ++(jq (kq l b h)).map gC=nP l b h from rfl,tW]
 rw[aH.L2.run (d:=(bu,(fh l b h).length,(nP l b h).length,((nP l b h).length:Int),0,(nP l b h).length,fh l b h,nP l b h)) ⟨rfl,rfl,by omega,rfl,⟨a1,a2⟩,nW,0,aV _,rfl⟩]
 simp only[ab,aH.L2.add,aH.L2.F,z1,aI,aO]
 obtain⟨⟨c1,c2⟩,k,c3,c4⟩:=Lx (nP l b h) bu nW a1
 have c5:(nw bu (nP l b h)).2.length=k:=by rw[c4,cU];omega
 have ej:sQ (k:Int) ((fh l b h).length:Int)=((min k (fh l b h).length:Nat):Int):=by unfold sQ;split <;> omega
 unfold oD
 rw[c5,c4,ej]
 generalize (nw bu (nP l b h)).1=bu2 at c1 c2 ⊢
 have tf:∀g∈((nP l b h).take (min k (fh l b h).length)).drop 0,O2 g:=λg hg=>by
  rw[aI]at hg
  have hg:g∈((fh l b h).map kJ).take (min k (fh l b h).length):=by
   have e:(nP l b h).take (min k (fh l b h).length)=((fh l b h).map kJ).take (min k (fh l b h).length):=by
    unfold nP
    rw[gF (by rw[cR];omega)]
   rw[e]at hg
   exact hg
  obtain⟨x,hm,rfl⟩:=dD.1 (List.mem_of_mem_take hg)
  obtain⟨m1,m2,_⟩:=wY hx hm
  exact B0 (r3 x m1) m2
 rw[aH.L3.run (d:=(bu2,((min k (fh l b h).length:Nat):Int),0,k,nP l b h)) ⟨c3,by omega,⟨c1,by omega⟩,0,min k (fh l b h).length,rfl,rfl,aV _,Nat.min_le_left _ _,tf⟩]
 have e0:(((min k (fh l b h).length:Nat):Int) - 0).toNat=min k (fh l b h).length:=by omega
 simp only[ab,aH.L3.add,aH.L3.F,z1,aI,eH,aS,e0,aO]
 have em:∀(n:Nat) (c:Int) (L:List jz),(lu n c L).length=L.length:=zi
 rw[aP ⟨trivial,by rw[em];exact c3⟩,ae]
 have ec:cut (lu (min k (fh l b h).length) bu2 (nP l b h)) 0 k=lu (fh l b h).length bu2 ((nP l b h).take k):=by
  unfold cut
  rw[aI,BJ,<-DG (fh l b h).length,cU,fp c3]
 rw[ec]
theorem aH.run:aH.RS:=rE [.d (.slice ei),.d ti,.d p9,.d ti] aH
def aH.sg:=aH.fS aH.ok 4 ⟨.hZ aH.L0.ok,⟨.hZ aH.L1.ok,⟨.hZ aH.L2.ok,⟨.hZ aH.L3.ok,trivial⟩⟩⟩⟩
end Go.Ab
namespace Go.Ab
open Go.Proofs
abbrev j6.D:=Int×Int×Int
abbrev j6.Y:=Int×Bool×Bool
def j6.aU:j6.D->Prop:=λ(a,n,d)=>(0<=a/\a<=1125899906842624)/\(0<=n/\n<=d)/\1<=d/\d<=10000
def j6.F:j6.D->j6.Y:=λ(a,n,d)=>(a*n / d,nc (a*n%d) 0,true)
def j6:Fs Tryz.prog j6.aU bE j6.F:=fK 175 Tryz.f175 (λ(a,num,den)=>([.d ti a,.d ti num,.d ti den],[])) (λx=>⟨.cons (.d ti x.1) (.cons (.d .bool x.2.1) (.cons (.d .bool x.2.2) (.nil))),[],[]⟩) [some ti,some ti,some ti] [gD.sg,jh.sg,cI.sg]
theorem j6.eq{R:Type}(a num den)(k:K1 R):j6.A (a,num,den) k=
  av (gD.call a) λx1=>
  aJ ((!x1)) (
   k (j6.out (0,false,false))) (
   aJ ((ik num 0)) (
    k (j6.out (0,false,false))) (
    aJ ((ik den 1)) (
     k (j6.out (0,false,false))) (
     av (jh.call ((dP .u64 a),(dP .u64 num))) λx2=>
     aJ ((qQ x2.1 (dP .u64 den))) (
      k (j6.out (0,false,false))) (
      av (cI.call (x2.1,x2.2,(dP .u64 den))) λx3=>
      aJ ((nc x3.1 1125899906842624)) (
       k (j6.out (0,false,false))) (
       k (j6.out ((dP .i64 x3.1),(nc x3.2 0),true))))))):=by kernel_rfl
theorem j6.ok:j6.Ok:=by
 rintro⟨a,n,d⟩ ⟨⟨h1,h2⟩,⟨h3,h4⟩,h5,h6⟩
 have h1:0<=a:=h1
 have h2:a<=1125899906842624:=h2
 have h3:0<=n:=h3
 have h4:n<=d:=h4
 have h5:1<=d:=h5
 have h6:d<=10000:=h6
 have k1:0<=a*n:=jQ h1 h3
 have k2:a*n<=a*d:=gE h4 h1
 have k3:a*d<=1125899906842624*d:=Int.mul_le_mul_of_nonneg_right h2 (by omega)
 have k4:a*n / d<=a:=j2 (by omega) k2
 have k5:0<=a*n / d:=fH k1 (by omega)
 have e0:jr a=true:=aP ⟨h1,h2⟩
 have c1:dP .u64 a=a:=by rw[tg];omega
 have c2:dP .u64 n=n:=by rw[tg];omega
 have c3:dP .u64 d=d:=by rw[tg];omega
 rw[j6.eq,gD.run (d:=a) trivial]
 simp only[ab,bE,gD.F,e0,cq,ah]
 rw[aR (by omega),ah,aR (by omega),ah,c1,c2,c3,jh.run (d:=(a,n)) ⟨⟨h1,by show a < _;omega⟩,h3,by show n < _;omega⟩]
 simp only[ab,bE,jh.F]
 have e1:a*n / 18446744073709551616=0:=by omega
 have e2:a*n%18446744073709551616=a*n:=by omega
 rw[e1,e2,dQ (by omega),ah,cI.run (d:=(0,a*n,d)) ⟨.inr ⟨rfl,by show 0 < d;omega,by show d < _;omega⟩,dT 0,by show 0 < d;omega,k1,by show a*n < _;omega⟩]
 simp only[ab,bE,cI.F,Int.zero_mul,lD]
 rw[cj (by omega),ah,AH (by omega) (by omega)]
 rfl
theorem j6.run:j6.RS:=rE [.d ti,.d ti,.d ti] j6
def j6.sg:=j6.fS j6.ok
def IK(a n d:Int):Int:=if 0 < a*n%d then a*n / d+1 else a*n / d
theorem Jy{a n d:Int}(h1:0<=a)(h3:0<=n)(h4:n<=d)(h5:1<=d):0<=IK a n d/\IK a n d<=a/\(0 < a*n%d->a*n / d+1<=a):=by
 have k1:0<=a*n:=jQ h1 h3
 have k2:a*n<=a*d:=gE h4 h1
 have k4:a*n / d<=a:=j2 (by omega) k2
 have k5:0<=a*n / d:=fH k1 (by omega)
 have k6:0 < a*n%d->a*n / d+1<=a:=λh=>by
  have e:=Int.mul_ediv_add_emod (a*n) d
  refine Classical.byContradiction λhc=> ?_
  have:a=a*n / d:=by omega
  rw[<-this,lC d a]at e
  omega
 unfold IK
 split
 ·rename_i h
  exact⟨by omega,k6 h,k6⟩
 ·exact⟨k5,k4,k6⟩
abbrev yJ.D:=Int×Int×Int
abbrev yJ.Y:=Int×Bool
def yJ.aU:yJ.D->Prop:=λ(a,n,d)=>(0<=a/\a<=1125899906842624)/\(0<=n/\n<=d)/\1<=d/\d<=10000
def yJ.F:yJ.D->yJ.Y:=λ(a,n,d)=>(IK a n d,true)
def yJ:Fs Tryz.prog yJ.aU bE yJ.F:=fK 116 Tryz.f116 (λ(a,num,den)=>([.d ti a,.d ti num,.d ti den],[])) (λx=>⟨.cons (.d ti x.1) (.cons (.d .bool x.2) (.nil)),[],[]⟩) [some ti,some ti,some ti] [j6.sg,lW.sg]
theorem yJ.eq{R:Type}(a num den)(k:K1 R):yJ.A (a,num,den) k=
  av (j6.call (a,num,den)) λx1=>
  aJ (x1.2.2) (
   aJ (x1.2.1) (
    av (lW.call (x1.1,1)) λx2=>
    k (yJ.out (x2.1,x2.2))) (
    k (yJ.out (x1.1,x1.2.2)))) (
   k (yJ.out (x1.1,x1.2.2))):=by kernel_rfl
theorem yJ.ok:yJ.Ok:=by
 rintro⟨a,n,d⟩ h
 obtain⟨⟨h1,h2⟩,⟨h3,h4⟩,h5,h6⟩:=id h
 obtain⟨f1,f2,f3⟩:=Jy (a:=a) (n:=n) (d:=d) h1 h3 h4 h5
 have h2:a<=1125899906842624:=h2
 rw[yJ.eq,j6.run (d:=(a,n,d)) h]
 simp only[ab,bE,j6.F,ae,bE,yJ.F,IK]at f1 f2 ⊢
 by_cases hr:0 < a*n%d
 ·have:=f3 hr
  rw[if_pos hr]at f1
  have k5:0<=a*n / d:=fH (jQ h1 h3) (by have:1<=d:=h5;omega)
  have e:qh (a*n / d) 1=true:=by
   unfold qh jr
   rw[aP ⟨k5,by omega⟩,aP ⟨by decide,by decide⟩,aP (by omega)]
   rfl
  rw[cX hr,ae,lW.run (d:=(a*n / d,1)) trivial,if_pos hr]
  simp only[ab,bE,lW.F,e,cond_true]
 ·rw[cj hr,ah,if_neg hr]
theorem yJ.run:yJ.RS:=rE [.d ti,.d ti,.d ti] yJ
def yJ.sg:=yJ.fS yJ.ok
abbrev mQ.D:=jz×Int×rj
abbrev mQ.Y:=Int
def qO(g:jz)(h:Int)(b:rj):Int:=
 if g.2.2.2.1=0\/kB b=false\/g.2.2.2.1 - h>=2*jo b then g.2.1
 else if g.2.2.2.1 - h<=jo b then g.2.2.1
 else g.2.1+IK (g.2.2.1 - g.2.1) (2*jo b - (g.2.2.2.1 - h)) (jo b)
def Nb(g:jz):Prop:=(0<=g.2.1/\g.2.1<=g.2.2.1/\g.2.2.1<=1125899906842624)/\0<=g.2.2.2.1/\g.2.2.2.1<=9223372036854775807
def mQ.aU:mQ.D->Prop:=λ(g,h,_)=>Nb g/\0<=h/\h<=9223372036854775807
def mQ.F:mQ.D->mQ.Y:=λ(g,h,b)=>qO g h b
def mQ:Fs Tryz.prog mQ.aU bE mQ.F:=fK 52 Tryz.f52 (λ(g,atv,b)=>([.d oq g,.d ti atv,.d p9 b],[])) (λx=>⟨.d ti x,[],[]⟩) [some oq,some ti,some p9] [iF.sg,fw.sg,yJ.sg]
theorem mQ.eq{R:Type}(g atv b)(k:K1 R):mQ.A (g,atv,b) k=
  av (iF.call b) λx1=>
  aJ ((wy g.2.2.2.1 0)) (
   k (mQ.out g.2.1)) (
   av (fw.call b) λx2=>
   aJ ((!x2)) (
    k (mQ.out g.2.1)) (
    aJ ((qQ (dp .i64 g.2.2.2.1 atv) (eR .i64 2 x1))) (
     k (mQ.out g.2.1)) (
     aJ ((zS (dp .i64 g.2.2.2.1 atv) x1)) (
      k (mQ.out g.2.2.1)) (
      av (yJ.call ((dp .i64 g.2.2.1 g.2.1),(dp .i64 (eR .i64 2 x1) (dp .i64 g.2.2.2.1 atv)),x1)) λx3=>
      k (mQ.out (bt .i64 g.2.1 x3.1)))))):=by kernel_rfl
theorem HO{g:jz}{h:Int}{b:rj}(hg:Nb g):g.2.1<=qO g h b/\qO g h b<=g.2.2.1:=by
 obtain⟨⟨g1,g2,g3⟩,_⟩:=hg
 unfold qO
 split
 ·omega
 ·rename_i h1
  split
  ·omega
  ·rename_i h2
   have hs:=AU b
   have hr:kB b=true:=by cases h:kB b with | true=>rfl | false=>exact absurd (.inr (.inl h)) h1
   have:=Jy (a:=g.2.2.1 - g.2.1) (n:=2*jo b - (g.2.2.2.1 - h)) (d:=jo b) (by omega) (by omega) (by omega) (by have:=hs.2.2 hr;omega)
   omega
theorem mQ.ok:mQ.Ok:=by
 rintro⟨g,h,b⟩ ⟨hg,h0,h1⟩
 obtain⟨⟨g1,g2,g3⟩,g4,g5⟩:=id hg
 have h0:0<=h:=h0
 have h1:h<=9223372036854775807:=h1
 have hs:=AU b
 have hf:=HO (h:=h) (b:=b) hg
 rw[mQ.eq,iF.run (d:=b) trivial]
 simp only[ab,bE,iF.F,bE,mQ.F]at hf ⊢
 unfold qO at hf ⊢
 by_cases a1:g.2.2.2.1=0
 ·rw[iw a1,ae,if_pos (.inl a1)]
 rw[gl a1,ah,fw.run (d:=b) trivial]
 simp only[ab,bE,fw.F]
 cases a2:kB b with
 |false=>rw[dX,ae,if_pos (.inr (.inl rfl))]
 |true=>
 have hp:=hs.2.2 a2
 rw[cq,ah,eE (x:=g.2.2.2.1) (by omega) (by omega),qo (by omega) (by omega)]
 by_cases a3:g.2.2.2.1 - h>=2*jo b
 ·rw[eQ a3,ae,if_pos (.inr (.inr a3))]
 rw[dQ a3,ah]
 have hn:¬(g.2.2.2.1=0\/true=false\/g.2.2.2.1 - h>=2*jo b):=λe=>e.elim a1 λe=>e.elim (λe=>by cases e) a3
 rw[if_neg hn]
 rw[a2,if_neg hn]at hf
 by_cases a4:g.2.2.2.1 - h<=jo b
 ·rw[ix a4,ae,if_pos a4]
 rw[ga a4,ah,if_neg a4]
 rw[if_neg a4]at hf
 rw[eE (x:=g.2.2.1) (by omega) (by omega),eE (x:=2*jo b) (by omega) (by omega),yJ.run (d:=(g.2.2.1 - g.2.1,2*jo b - (g.2.2.2.1 - h),jo b)) ⟨⟨by show 0<=g.2.2.1 - g.2.1;omega,by show g.2.2.1 - g.2.1<=_;omega⟩,⟨by show 0<=2*jo b - (g.2.2.2.1 - h);omega,by show 2*jo b - (g.2.2.2.1 - h)<=jo b;omega⟩,by show 1<=jo b;omega,by show jo b<=_;omega⟩]
 simp only[ab,bE,yJ.F]
 rw[eC (x:=g.2.1) (by omega) (by omega)]
theorem mQ.run:mQ.RS:=rE [.d oq,.d ti,.d p9] mQ
def mQ.sg:=mQ.fS mQ.ok
abbrev nv.D:=gz×eK
abbrev nv.Y:=Bool
abbrev nv.X:=(eK)×(Bool)
def nv.add:nv.D->nv.Y->nv.X:=λ(i,o0) y=>(o0,y)
def oU(x:eK)(i:gz):Bool:=Ty.beq jk i.1 x.1
def nv.aU:nv.D->Prop:=λ_=>True
def nv.F:nv.D->nv.Y:=λ(i,x)=>oU x i
def nv:Fs Tryz.prog nv.aU nv.add nv.F:=fK 172 Tryz.f172 (λ(i,o0)=>([.d gX i,.ptr (.dB 0) 0 [] 0],[.obj 0 false (.d ei o0)])) (λx=>⟨.d .bool x.2,[.obj 0 false (.d ei x.1)],[]⟩) [some gX,none]
theorem nv.eq{R:Type}(i o0)(k:K1 R):nv.A (i,o0) k=
 k (nv.out (o0,(Ty.beq jk i.1 o0.1))):=by kernel_rfl
theorem nv.ok:nv.Ok:=by
 rintro⟨i,x⟩ _
 rw[nv.eq]
 rfl
theorem nv.run:nv.RS:=rE [.d gX,.d ei] nv
def nv.sg:=nv.fS nv.ok
abbrev bM.L0.D:=Nat×Int×Int×(List gz)×eK
def bM.L0.st:bM.L0.D->AS:=λ(KG,t7,t8,zl,Il)=>⟨([.cP (.dB 0) 0 [] 0 0 KG,.fn 172 (.cons (.ptr (.dB 1) 0 [] 0) (.nil))]++bj 5 ([.d ti t7,.d ti t8]++bj 10 [])),[.obj 0 false (.vec 52 gX zl),.obj 0 false (.d ei Il)],(List.replicate 19 [])⟩
abbrev bM.L0.Y0:=Int×eK
abbrev bM.L0.X0:=((List gz))×(Int×eK)
def bM.L0.dE:bM.L0.X0->Exit×AS:=λx=>(.ret,⟨(bj 4 ([.d ti x.2.1]++bj 14 [])),[.obj 0 false (.vec 52 gX x.1),.obj 0 false (.d ei x.2.2)],(List.replicate 19 [])⟩)
abbrev bM.L0.Y1:=eK
abbrev bM.L0.X1:=((List gz))×(eK)
def bM.L0.fQ:bM.L0.X1->Exit×AS:=λx=>(.exit 0,⟨(bj 19 []),[.obj 0 false (.vec 52 gX x.1),.obj 0 false (.d ei x.2)],(List.replicate 19 [])⟩)
abbrev bM.L0.X:=(bM.L0.X0)⊕(bM.L0.X1)
abbrev bM.L0.Y:=(bM.L0.Y0)⊕(bM.L0.Y1)
def bM.L0.out:bM.L0.X->Out (Exit×AS):=λx=> .br x.isLeft (.get x.getLeft? λa=> .ok (bM.L0.dE a)) (.get x.getRight? λb=> .ok (bM.L0.fQ b))
def bM.L0.add:bM.L0.D->bM.L0.Y->bM.L0.X:=λ(KG,t7,t8,zl,Il) y=>match y with | .inl y=> .inl (zl,y) | .inr z=> .inr ((zl,z))
abbrev bM.D:=Nat×(List gz)×eK
abbrev bM.Y:=Int×(List gz)×eK
def bM.L0.aU:bM.L0.D->Prop:=λ(m,n,i,l,_)=>l.length<=1000000000/\m=l.length/\n=l.length/\∃k:Nat,k<=l.length/\i=k
def bM.L0.F:bM.L0.D->bM.L0.Y:=λ(_,_,i,l,x)=>match za (oU x) (l.drop i.toNat) i with | .inl j=> .inl (j,x) | .inr _=> .inr x
def bM.aU:bM.D->Prop:=λ(m,l,_)=>l.length<=1000000000/\m=l.length
def bM.F:bM.D->bM.Y:=λ(_,l,x)=>(Kf (oU x) l,l,x)
def bM.L0.E:=eO.hZ bM.L0.st bM.L0.aU bM.L0.add bM.L0.F bM.L0.out
def bM.L0.call:bM.L0.D->Option bM.L0.X:=jH bM.L0.E bM.L0.st
def bM:Fs Tryz.prog bM.aU bE bM.F:=fK 234 Tryz.f234 (λ(sL,o0,o1)=>([.cP (.dB 0) 0 [] 0 0 sL,.fn 172 (.cons (.ptr (.dB 1) 0 [] 0) (.nil))],[.obj 0 false (.vec 52 gX o0),.obj 0 false (.d ei o1)])) (λx=>⟨.d ti x.1,[.obj 0 false (.vec 52 gX x.2.1),.obj 0 false (.d ei x.2.2)],[]⟩) [none,none] [nv.sg] {loops:=oM [(2,{bm:=[0,1,7,8]})],outs:=oL [(2,{},{bm:=[4]})],iA:=pq [(2,bM.L0.E)]}
def bM.L0.R:= @gL Tryz.prog (lN bM.G) bM.an 0 Tryz.f234 0 _ bM.L0.st
abbrev bM.L0.Ok:=nh Tryz.prog (lN bM.G) bM.an 0 Tryz.f234 0 bM.L0.st bM.L0.aU bM.L0.add bM.L0.F bM.L0.out
theorem bM.L0.run:mq bM.L0.call bM.L0.aU bM.L0.add bM.L0.F:=oo (oa [.n,.d ti,.d ti,.d (.slice gX),.d ei] λ_=>by kernel_rfl)
theorem bM.L0.cM:nM @bM.L0.R bM.L0.st bM.L0.aU bM.L0.add bM.L0.F bM.L0.out bM.L0.Ok:=oF
theorem bM.L0.step{R:Type}(KG:Nat)(t7:Int)(t8:Int)(zl:(List gz))(Il:eK)(kn:AS->Option R)(kx:Exit->AS->Option R):bM.L0.R (KG,t7,t8,zl,Il) kn kx=
  aJ ((ik t8 t7)) (
   aJ (eY t8 ((KG:Nat):Int)) (
   aJ (decide ((0+(Int.toNat t8)) < (List.length zl))) (
   aJ (decide ((((0+(Int.toNat t8))*36)+0)=(0+((Int.toNat t8)*36)))) (
   av (nv.call ((nth gX zl (0+(Int.toNat t8))),Il)) λx1=>
   aJ (x1.2) (
    kx (bM.L0.dE (zl,(t8,x1.1))).1 (bM.L0.dE (zl,(t8,x1.1))).2) (
    kn (bM.L0.st (KG,t7,(bt .i64 t8 (1:Int)),zl,x1.1)))) none) none) none) (
   kx (bM.L0.fQ (zl,Il)).1 (bM.L0.fQ (zl,Il)).2):=by kernel_rfl
theorem bM.eq{R:Type}(sL o0 o1)(k:K1 R):bM.A (sL,o0,o1) k=
  av (bM.L0.call (sL,((sL:Nat):Int),0,o0,o1)) λx2=>
  aJ (x2.isLeft) (
   av (x2.getLeft?) λa3=>
   k (bM.out (a3.2.1,a3.1,a3.2.2))) (
   av (x2.getRight?) λb4=>
   k (bM.out ((-1),b4.1,b4.2))):=by kernel_rfl
theorem bM.L0.ok:bM.L0.Ok:=by
 refine bM.L0.cM (λ(_,_,i,l,_)=>l.length - i.toNat) ?_
 rintro⟨m,n,i,l,x⟩ ⟨hb,rfl,rfl,k,hk,rfl⟩
 have hb:l.length<=1000000000:=hb
 have hk:k<=l.length:=hk
 by_cases h:k < l.length
 ·have n1:nth gX l k=l[k]:=dg (t:=gX) h
  have hd:za (oU x) (l.drop k) k=if oU x l[k] then .inl (k:Int) else za (oU x) (l.drop (k+1)) ((k+1:Nat):Int):=by rw[aq h];rfl
  have step:∀ {R:Type} (kn:AS->Option R) (kx:Exit->AS->Option R),bM.L0.R (l.length,(l.length:Int),(k:Int),l,x) kn kx=aJ (oU x l[k]) (kx (bM.L0.dE (l,((k:Int),x))).1 (bM.L0.dE (l,((k:Int),x))).2) (kn (bM.L0.st (l.length,(l.length:Int),((k+1:Nat):Int),l,x))):=by
   intro R kn kx
   rw[bM.L0.step,bh (by omega),ae,bp (by omega) (by omega),ae]
   simp only[aa,aO,cK,aP h,ae,decide_true,n1]
   rw[nv.run (d:=(l[k],x)) trivial]
   simp only[ab,nv.add,nv.F]
   rw[N.pk (by omega)]
  cases hp:oU x l[k]
  ·left
   refine⟨(l.length,(l.length:Int),((k+1:Nat):Int),l,x),⟨hb,rfl,rfl,k+1,by omega,rfl⟩,by simp only[aa];omega,?_,λkn kx=> ?_⟩
   ·simp only[bM.L0.add,bM.L0.F,aa,hd,hp,bJ,if_false]
   ·rw[step,hp,ah]
  ·right
   refine⟨bM.L0.dE (l,((k:Int),x)),?_,λkn kx=> ?_⟩
   ·simp only[bM.L0.add,bM.L0.F,aa,hd,hp,if_true]
    rfl
   ·rw[step,hp,ae]
 ·right
  obtain rfl:k=l.length:=by omega
  refine⟨bM.L0.fQ (l,x),?_,λkn kx=> ?_⟩
  ·simp only[bM.L0.add,bM.L0.F,aa,aQ]
   rfl
  ·rw[bM.L0.step,aR (by omega),ah]
theorem bM.ok:bM.Ok:=by
 rintro⟨m,l,x⟩ ⟨hb,rfl⟩
 rw[bM.eq,bM.L0.run (d:=(l.length,(l.length:Int),0,l,x)) ⟨hb,rfl,rfl,0,aV _,rfl⟩]
 simp only[ab,bM.L0.add,bM.L0.F,bH,aI,bE,bM.F,Kf]
 cases za (oU x) l 0 <;> rfl
theorem bM.run:bM.RS:=rE [.n,.d (.slice gX),.d ei] bM
def bM.sg:=bM.fS bM.ok 1 ⟨.hZ bM.L0.ok,trivial⟩
abbrev jg.D:=Nat×(List gz)×eK
abbrev jg.Y:=Bool×(List gz)×eK
def jg.aU:jg.D->Prop:=λ(m,l,_)=>l.length<=1000000000/\m=l.length
def jg.F:jg.D->jg.Y:=λ(_,l,x)=>(l.any (oU x),l,x)
def jg:Fs Tryz.prog jg.aU bE jg.F:=fK 171 Tryz.f171 (λ(sL,o0,o1)=>([.cP (.dB 0) 0 [] 0 0 sL,.fn 172 (.cons (.ptr (.dB 1) 0 [] 0) (.nil))],[.obj 0 false (.vec 52 gX o0),.obj 0 false (.d ei o1)])) (λx=>⟨.d .bool x.1,[.obj 0 false (.vec 52 gX x.2.1),.obj 0 false (.d ei x.2.2)],[]⟩) [none,none] [bM.sg]
theorem jg.eq{R:Type}(sL o0 o1)(k:K1 R):jg.A (sL,o0,o1) k=
 av (bM.call (sL,o0,o1)) λx1=>
 k (jg.out ((qQ x1.1 0),x1.2.1,x1.2.2)):=by kernel_rfl
theorem jg.ok:jg.Ok:=by
 rintro⟨m,l,x⟩ h
 rw[jg.eq,bM.run (d:=(m,l,x)) h]
 simp only[ab,bE,bM.F,F9]
 rfl
theorem jg.run:jg.RS:=rE [.n,.d (.slice gX),.d ei] jg
def jg.sg:=jg.fS jg.ok
abbrev bS.L0.D:=(List eK)×Bs×Int×Lk×Int×(List eK)×Int×Int×(Int×Unit)×Nat×(Int×Unit)×(List gz)
def bS.L0.st:bS.L0.D->AS:=λ(mw,As,qX,rI,sum,t41,t42,t43,n8,ue,n10,Qd)=>⟨([.d (.slice ei) mw,.d tU As,.undef,.d ti qX,.undef,.undef,.ed mK rI,.undef,.ptr (.new 8 0) 0 [] 0,.undef,.ptr (.new 10 0) 0 [] 0,.d ti sum]++bj 29 ([.d (.slice ei) t41,.d ti t42,.d ti t43]++bj 90 [])),[],(cg 8 ([[.obj 0 false (.pr (.df) (.pr (.df) (.d (.pair ti .unit) n8)))],[],[.obj 0 false (.pr (.cP (.new 88 0) 0 [] 0 0 ue) (.pr (.df) (.d (.pair ti .unit) n10)))]]++cg 77 ([[.obj 0 false (.vec 52 gX Qd)]]++cg 45 [])))⟩
abbrev bS.L0.Y0:=(Int×Unit)
abbrev bS.L0.X0:=(Int×Unit)
def bS.L0.dE:bS.L0.X0->Exit×AS:=λx=>(.ret,⟨(bj 8 ([.ptr (.new 8 0) 0 [] 0,.d ti (1:Int)]++bj 124 [])),[],(cg 8 ([[.obj 0 false (.pr (.df) (.pr (.df) (.d (.pair ti .unit) x)))]]++cg 125 []))⟩)
abbrev bS.L0.Y1:=Int×Nat×(List gz)
abbrev bS.L0.X1:=((List eK)×Bs×Int×Lk×(Int×Unit)×(Int×Unit))×(Int×Nat×(List gz))
def bS.L0.fQ:bS.L0.X1->Exit×AS:=λx=>(.exit 0,⟨([.d (.slice ei) x.1.1,.d tU x.1.2.1,.undef,.d ti x.1.2.2.1,.undef,.undef,.ed mK x.1.2.2.2.1,.undef,.ptr (.new 8 0) 0 [] 0,.undef,.ptr (.new 10 0) 0 [] 0,.d ti x.2.1]++bj 122 []),[],(cg 8 ([[.obj 0 false (.pr (.df) (.pr (.df) (.d (.pair ti .unit) x.1.2.2.2.2.1)))],[],[.obj 0 false (.pr (.cP (.new 88 0) 0 [] 0 0 x.2.2.1) (.pr (.df) (.d (.pair ti .unit) x.1.2.2.2.2.2)))]]++cg 77 ([[.obj 0 false (.vec 52 gX x.2.2.2)]]++cg 45 [])))⟩)
abbrev bS.L0.X:=(bS.L0.X0)⊕(bS.L0.X1)
abbrev bS.L0.Y:=(bS.L0.Y0)⊕(bS.L0.Y1)
def bS.L0.out:bS.L0.X->Out (Exit×AS):=λx=> .br x.isLeft (.get x.getLeft? λa=> .ok (bS.L0.dE a)) (.get x.getRight? λb=> .ok (bS.L0.fQ b))
def bS.L0.add:bS.L0.D->bS.L0.Y->bS.L0.X:=λ(mw,As,qX,rI,sum,t41,t42,t43,n8,ue,n10,Qd) y=>match y with | .inl y=> .inl y | .inr z=> .inr (((mw,As,qX,rI,n8,n10),z))
abbrev bS.L1.D:=Bs×(List eK)×Int×Int×(Int×Unit)×gT
def bS.L1.st:bS.L1.D->AS:=λ(H8,t106,t107,t108,vk,re)=>⟨([.undef,.d tU H8]++bj 6 ([.ptr (.new 8 0) 0 [] 0,.undef,.ptr (.new 10 0) 0 [] 0]++bj 95 ([.d (.slice ei) t106,.d ti t107,.d ti t108]++bj 25 []))),[],(cg 8 ([[.obj 0 false (.pr (.df) (.pr (.df) (.d (.pair ti .unit) vk)))],[],[.obj 0 false (.d iL re)]]++cg 123 []))⟩
abbrev bS.L1.Y0:=Int×(Int×Unit)
abbrev bS.L1.X0:=Int×(Int×Unit)
def bS.L1.dE:bS.L1.X0->Exit×AS:=λx=>(.ret,⟨(bj 8 ([.ptr (.new 8 0) 0 [] 0,.d ti x.1]++bj 124 [])),[],(cg 8 ([[.obj 0 false (.pr (.df) (.pr (.df) (.d (.pair ti .unit) x.2)))]]++cg 125 []))⟩)
abbrev bS.L1.Y1:=gT
abbrev bS.L1.X1:=((Int×Unit))×(gT)
def bS.L1.fQ:bS.L1.X1->Exit×AS:=λx=>(.exit 2,⟨(bj 8 ([.ptr (.new 8 0) 0 [] 0,.undef,.ptr (.new 10 0) 0 [] 0]++bj 123 [])),[],(cg 8 ([[.obj 0 false (.pr (.df) (.pr (.df) (.d (.pair ti .unit) x.1)))],[],[.obj 0 false (.d iL x.2)]]++cg 123 []))⟩)
abbrev bS.L1.X:=(bS.L1.X0)⊕(bS.L1.X1)
abbrev bS.L1.Y:=(bS.L1.Y0)⊕(bS.L1.Y1)
def bS.L1.out:bS.L1.X->Out (Exit×AS):=λx=> .br x.isLeft (.get x.getLeft? λa=> .ok (bS.L1.dE a)) (.get x.getRight? λb=> .ok (bS.L1.fQ b))
def bS.L1.add:bS.L1.D->bS.L1.Y->bS.L1.X:=λ(H8,t106,t107,t108,vk,re) y=>match y with | .inl y=> .inl y | .inr z=> .inr ((vk,z))
abbrev bS.D:=(List eK)×Bs×Lk×Int
abbrev bS.Y:=gT×Int
def Ff:gT:=(([]:List gz),(([]:List j7),((0:Int),())))
def xN(x:eK):gz:=(x.1,(((0:Int),(([]:List Sg),((0:Int),()))),()))
def Gs(s:Int)(ins:List gz)(x:eK)(k:Int):Bool:=qh s x.2.1.1 && (!(ins.any (oU x)) && decide (k≠0/\k < 2305843009213688669))
def qY:Int->List gz->List eK->List Int->Option (Int×List gz)
 |s,ins,x::l,k::ks=>if Gs s ins x k=true then qY (s+x.2.1.1) (ins++ [xN x]) l ks else none
 |s,ins,_,_=>some (s,ins)
def mJ:gT->Nat->List eK->List Int->gT⊕Int
 |t,i,x::l,k::ks=>if(mn t i x.2.2.1 [k] x.2.2.2.1).2=0 then mJ (mn t i x.2.2.1 [k] x.2.2.2.1).1 (i+1) l ks else .inr (mn t i x.2.2.1 [k] x.2.2.2.1).2
 |t,_,_,_=> .inl t
def tj(l:List eK)(ks:List Int)(to:Lk)(iE:Int):gT×Int:=
 if 1<=l.length/\l.length<=64/\l.length=ks.length/\nC to=true then
  match qY 0 [] l ks with
  |none=>(Ff,1)
  |some r=>if iE < 0\/iE > r.1 then(Ff,8) else match mJ (r.2,([(r.1 - iE,(to,()))],((0:Int),()))) 0 l ks with | .inl t=>(t,0) | .inr e=>(Ff,e)
 else(Ff,1)
def KW(x:eK):Prop:=Sm x.1.1/\je x.2.2.2.1
def bS.L0.aU:bS.L0.D->Prop:=λ(_,ks,_,_,s,l,n,i,_,m,_,ins)=>l.length<=64/\l.length=ks.length/\n=(l.length:Int)/\m=ins.length/\∃k:Nat,k<=l.length/\i=k/\ins.length<=k
def bS.L0.F:bS.L0.D->bS.L0.Y:=λ(_,ks,_,_,s,l,_,i,_,_,_,ins)=>match qY s ins (l.drop i.toNat) (ks.drop i.toNat) with
 |none=> .inl ((0:Int),())
 |some r=> .inr (r.1,r.2.length,r.2)
def bS.L1.aU:bS.L1.D->Prop:=λ(ks,l,n,i,_,t)=>yL t/\(∀x∈l,je x.2.2.2.1)/\(∀k∈ks,je k)/\l.length<=64/\l.length=ks.length/\n=(l.length:Int)/\∃k:Nat,k<=l.length/\i=k
def bS.L1.F:bS.L1.D->bS.L1.Y:=λ(ks,l,_,i,_,t)=>match mJ t i.toNat (l.drop i.toNat) (ks.drop i.toNat) with
 | .inl t=> .inr t
 | .inr e=> .inl (e,((0:Int),()))
def bS.aU:bS.D->Prop:=λ(l,ks,to,iE)=>(∀x∈l,KW x)/\(∀k∈ks,je k)/\Fh to/\l.length<=1000000000/\ks.length<=1000000000/\(-1125899906842624<=iE/\iE<=9223372036854775807)
def bS.F:bS.D->bS.Y:=λ(l,ks,to,iE)=>tj l ks to iE
def bS.L0.E:=eO.hZ bS.L0.st bS.L0.aU bS.L0.add bS.L0.F bS.L0.out
def bS.L0.call:bS.L0.D->Option bS.L0.X:=jH bS.L0.E bS.L0.st
def bS.L1.E:=eO.hZ bS.L1.st bS.L1.aU bS.L1.add bS.L1.F bS.L1.out
def bS.L1.call:bS.L1.D->Option bS.L1.X:=jH bS.L1.E bS.L1.st
def bS:Fs Tryz.prog bS.aU bE bS.F:=fK 114 Tryz.f114 (λ(l,ks,to,iE)=>([.d (.slice ei) l,.d tU ks,.d mK to,.d ti iE],[])) (λx=>⟨.cons (.d iL x.1) (.cons (.d ti x.2) (.nil)),[],[]⟩) [some (.slice ei),some tU,some mK,some ti] [bq.sg,lW.sg,jg.sg,gk.sg,dV.sg] {loops:=oM [(6,{bm:=[0,1,3,6,8,10,11,41,42,43],sites:=[8,10,88],owns:=[⟨10,[.fst],88,38⟩]}),(19,{bm:=[1,8,10,106,107,108],sites:=[8,10],Ek:=[⟨10,[.arr],iL⟩]})],outs:=oL [(6,{bm:=[0,1,3,6,8,10,11],sites:=[8,10,88]},{bm:=[8,9],sites:=[8]}),(19,{bm:=[8,10],sites:=[8,10]},{bm:=[8,9],sites:=[8]})],iA:=pq [(6,bS.L0.E),(19,bS.L1.E)],res:=[some iL,none]}
def bS.L0.R:= @gL Tryz.prog (lN bS.G) bS.an 0 Tryz.f114 0 _ bS.L0.st
abbrev bS.L0.Ok:=nh Tryz.prog (lN bS.G) bS.an 0 Tryz.f114 0 bS.L0.st bS.L0.aU bS.L0.add bS.L0.F bS.L0.out
def bS.L1.R:= @gL Tryz.prog (lN bS.G) bS.an 0 Tryz.f114 1 _ bS.L1.st
abbrev bS.L1.Ok:=nh Tryz.prog (lN bS.G) bS.an 0 Tryz.f114 1 bS.L1.st bS.L1.aU bS.L1.add bS.L1.F bS.L1.out
theorem bS.L0.run:mq bS.L0.call bS.L0.aU bS.L0.add bS.L0.F:=oo (oa [.d (.slice ei),.d tU,.d ti,.d mK,.d ti,.d (.slice ei),.d ti,.d ti,.d (.pair ti .unit),.n,.d (.pair ti .unit),.d (.slice gX)] λ_=>by kernel_rfl)
theorem bS.L0.cM:nM @bS.L0.R bS.L0.st bS.L0.aU bS.L0.add bS.L0.F bS.L0.out bS.L0.Ok:=oF
theorem bS.L0.step{R:Type}(mw:(List eK))(As:Bs)(qX:Int)(rI:Lk)(sum:Int)(t41:(List eK))(t42:Int)(t43:Int)(n8:(Int×Unit))(ue:Nat)(n10:(Int×Unit))(Qd:(List gz))(kn:AS->Option R)(kx:Exit->AS->Option R):bS.L0.R (mw,As,qX,rI,sum,t41,t42,t43,n8,ue,n10,Qd) kn kx=
  aJ ((ik t43 t42)) (
   aJ (eY t43 (((List.length t41):Nat):Int)) (
   av (lW.call (sum,(nth ei t41 (Int.toNat t43)).2.1.1)) λx1=>
   av (jg.call (ue,Qd,(nth ei t41 (Int.toNat t43)))) λx2=>
   aJ ((!x1.2)) (
    kx (bS.L0.dE ((0:Int),())).1 (bS.L0.dE ((0:Int),())).2) (
    aJ (x2.1) (
     kx (bS.L0.dE ((0:Int),())).1 (bS.L0.dE ((0:Int),())).2) (
     aJ (eY t43 (((List.length As):Nat):Int)) (
     aJ ((wy (nth tu As (Int.toNat t43)) (0:Int))) (
      kx (bS.L0.dE ((0:Int),())).1 (bS.L0.dE ((0:Int),())).2) (
      aJ (eY t43 (((List.length As):Nat):Int)) (
      av (gk.call (nth tu As (Int.toNat t43))) λx3=>
      aJ ((!x3)) (
       kx (bS.L0.dE ((0:Int),())).1 (bS.L0.dE ((0:Int),())).2) (
       aJ (decide (ue<=(List.length x2.2.1))) (
       aJ (dG (ue+1) 80) (
       kn (bS.L0.st (mw,As,qX,rI,x1.1,t41,t42,(bt .i64 t43 (1:Int)),n8,(ue+1),n10,((List.take ue x2.2.1)++ [(x2.2.2.1,(((0:Int),(([]:List Sg),((0:Int),()))),()))])))) none) none)) none)) none))) none) (
   kx (bS.L0.fQ ((mw,As,qX,rI,n8,n10),(sum,ue,Qd))).1 (bS.L0.fQ ((mw,As,qX,rI,n8,n10),(sum,ue,Qd))).2):=by kernel_rfl
theorem bS.L1.run:mq bS.L1.call bS.L1.aU bS.L1.add bS.L1.F:=oo (oa [.d tU,.d (.slice ei),.d ti,.d ti,.d (.pair ti .unit),.d iL] λ_=>by kernel_rfl)
theorem bS.L1.cM:nM @bS.L1.R bS.L1.st bS.L1.aU bS.L1.add bS.L1.F bS.L1.out bS.L1.Ok:=oF
theorem bS.L1.step{R:Type}(H8:Bs)(t106:(List eK))(t107:Int)(t108:Int)(vk:(Int×Unit))(re:gT)(kn:AS->Option R)(kx:Exit->AS->Option R):bS.L1.R (H8,t106,t107,t108,vk,re) kn kx=
  aJ ((ik t108 t107)) (
   aJ (eY t108 (((List.length t106):Nat):Int)) (
   aJ (eY t108 (((List.length H8):Nat):Int)) (
   av (dV.call (re,t108,(nth ei t106 (Int.toNat t108)).2.2.1,[(nth tu H8 (Int.toNat t108))],(nth ei t106 (Int.toNat t108)).2.2.2.1)) λx1=>
   aJ ((sR x1.2 (0:Int))) (
    kx (bS.L1.dE (x1.2,((0:Int),()))).1 (bS.L1.dE (x1.2,((0:Int),()))).2) (
    kn (bS.L1.st (H8,t106,t107,(bt .i64 t108 (1:Int)),vk,x1.1)))) none) none) (
   kx (bS.L1.fQ (vk,re)).1 (bS.L1.fQ (vk,re)).2):=by kernel_rfl
theorem bS.eq{R:Type}(l ks to iE)(k:K1 R):bS.A (l,ks,to,iE) k=
  aJ ((ik (l.length:Int) 1)) (
   k (bS.out ((([]:List gz),(([]:List j7),(0,()))),1))) (
   aJ ((nc (l.length:Int) 64)) (
    k (bS.out ((([]:List gz),(([]:List j7),(0,()))),1))) (
    aJ ((sR (l.length:Int) (ks.length:Int))) (
     k (bS.out ((([]:List gz),(([]:List j7),(0,()))),1))) (
     av (bq.call to) λx1=>
     aJ ((!x1)) (
      k (bS.out ((([]:List gz),(([]:List j7),(0,()))),1))) (
      av (bS.L0.call (l,ks,iE,to,0,l,(l.length:Int),0,(0,()),0,(0,()),([]:List gz))) λx5=>
      aJ (x5.isLeft) (
       av (x5.getLeft?) λa6=>
       k (bS.out ((([]:List gz),(([]:List j7),a6)),1))) (
       av (x5.getRight?) λb7=>
       aJ ((ik b7.1.2.2.1 0)) (
        k (bS.out ((([]:List gz),(([]:List j7),(0,()))),8))) (
        aJ ((nc b7.1.2.2.1 b7.2.1)) (
         k (bS.out ((([]:List gz),(([]:List j7),(0,()))),8))) (
         aJ (decide (0=0/\(0+b7.2.2.1)<=(List.length b7.2.2.2))) (
         av (bS.L1.call (b7.1.2.1,b7.1.1,(b7.1.1.length:Int),0,b7.1.2.2.2.2.1,((cut b7.2.2.2 0 b7.2.2.1),([((dp .i64 b7.2.1 b7.1.2.2.1),(b7.1.2.2.2.1,()))],b7.1.2.2.2.2.2)))) λx9=>
         aJ (x9.isLeft) (
          av (x9.getLeft?) λa10=>
          k (bS.out ((([]:List gz),(([]:List j7),a10.2)),a10.1))) (
          av (x9.getRight?) λb11=>
          k (bS.out (b11.2,0)))) none))))))):=by kernel_rfl
theorem ET{t:gT}{i br sc:Int}{ks:List Int}(hv:yL t)(hs:je sc)(h:(mn t i br ks sc).2=0):yL (mn t i br ks sc).1/\qU t i br ks=true:=by
 rw[vy]at h ⊢
 by_cases e:qU t i br ks=true
 ·rw[if_pos e]
  exact⟨(GV hv e hs).2.1,e⟩
 ·rw[if_neg e]at h
  exact absurd h (by decide)
theorem Ev:∀(l:List eK) (ks:List Int) (s:Int) (ins:List gz) {r:Int×List gz},l.length=ks.length->0<=s->s<=1125899906842624->qY s ins l ks=some r->0<=r.1/\r.1<=1125899906842624/\r.2=ins++l.map xN
 |[],ks,s,ins,r,hl,h0,h1,h=>by
  have:ks=[]:=bo hl.symm
  subst this
  obtain rfl:=bB h
  exact⟨h0,h1,by simp⟩
 |x::l,[],s,ins,r,hl,_,_,h=>by cases hl
 |x::l,k::ks,s,ins,r,hl,h0,h1,h=>by
  unfold qY at h
  by_cases ho:Gs s ins x k=true
  ·rw[if_pos ho]at h
   unfold Gs qh jr at ho
   simp only[ak,decide_eq_true_eq]at ho
   obtain⟨⟨o1,o2,o3⟩,_⟩:=ho
   obtain⟨i1,i2,i3⟩:=Ev l ks _ _ (Nat.succ.inj hl) (by omega) (by omega) h
   exact⟨i1,i2,by rw[i3];simp⟩
  ·rw[if_neg ho]at h;cases h
theorem HS(x:eK)(i:gz):oU x i=true↔i.1=x.1:=wK _ _
theorem bS.L0.ok:bS.L0.Ok:=by
 refine bS.L0.cM (λ(_,_,_,_,_,l,_,i,_,_,_,_)=>l.length - i.toNat) ?_
 rintro⟨l0,ks,iE,to,s,l,n,i,z,m,z2,ins⟩ ⟨hl,xv,rfl,rfl,k,hk,rfl,hi⟩
 have hl:l.length<=64:=hl
 have xv:l.length=ks.length:=xv
 have hk:k<=l.length:=hk
 have hi:ins.length<=k:=hi
 by_cases h:k < l.length
 ·have hq:k < ks.length:=by omega
  have n1:nth ei l k=l[k]:=dg (t:=ei) h
  have n2:nth tu ks k=ks[k]:=dg (t:=tu) hq
  have hd:l.drop k=l[k]::l.drop (k+1):=aq h
  have M1:ks.drop k=ks[k]::ks.drop (k+1):=aq hq
  have ca:=lW.run (d:=(s,l[k].2.1.1)) trivial
  have ci:=jg.run (d:=(ins.length,ins,l[k])) ⟨by show ins.length<=_;omega,rfl⟩
  have cf:=gk.run (d:=ks[k]) trivial
  by_cases ho:Gs s ins l[k] ks[k]=true
  ·left
   have RY:=ho
   unfold Gs at RY
   simp only[ak,decide_eq_true_eq,bX]at RY
   obtain⟨o1,o2,o3,o4⟩:=RY
   refine⟨(l0,ks,iE,to,s+l[k].2.1.1,l,(l.length:Int),((k+1:Nat):Int),z,ins.length+1,z2,ins++ [xN l[k]]),⟨hl,xv,rfl,by simp,k+1,by omega,rfl,by rw[aj];show ins.length+1<=_;omega⟩,by simp only[aa];omega,?_,λkn kx=> ?_⟩
   ·simp only[bS.L0.add,bS.L0.F,aa,hd,M1]
    rw[show qY s ins (l[k]::l.drop (k+1)) (ks[k]::ks.drop (k+1))=qY (s+l[k].2.1.1) (ins++ [xN l[k]]) (l.drop (k+1)) (ks.drop (k+1)) by rw[qY,if_pos ho]]
   ·rw[bS.L0.step,bh (by omega),ae,bp (by omega) (by omega),ae]
    simp only[aa,n1,n2]
    rw[ca]
    simp only[ab,bE,lW.F]
    rw[ci]
    simp only[ab,bE,jg.F,o1,o2,cq,ah,cond_true]
    rw[bp (by omega) (by omega),ae,gl o3,ah,ae,cf]
    simp only[ab,bE,gk.F]
    rw[bh o4,cq,ah,aP (ay _),ae,dU (by omega) (by omega),ae,bY,N.pk (by omega)]
    rfl
  ·right
   refine⟨bS.L0.dE ((0:Int),()),?_,λkn kx=> ?_⟩
   ·simp only[bS.L0.add,bS.L0.F,aa,hd,M1]
    rw[show qY s ins (l[k]::l.drop (k+1)) (ks[k]::ks.drop (k+1))=none by rw[qY,if_neg ho]]
    rfl
   ·rw[bS.L0.step,bh (by omega),ae,bp (by omega) (by omega),ae]
    simp only[aa,n1,n2]
    rw[ca]
    simp only[ab,bE,lW.F]
    rw[ci]
    simp only[ab,bE,jg.F]
    unfold Gs at ho
    cases o1:qh s l[k].2.1.1 with
    |false=>rw[dX,ae]
    |true=>
     rw[o1,bO]at ho
     rw[cq,ah]
     cases o2:ins.any (oU l[k]) with
     |true=>rw[ae]
     |false=>
      rw[o2,dX,bO,decide_eq_true_eq]at ho
      rw[ah,bp (by omega) (by omega),ae]
      by_cases o3:ks[k]=0
      ·rw[iw o3,ae]
      ·rw[gl o3,ah,ae,cf]
       simp only[ab,bE,gk.F]
       rw[aR (λe=>ho ⟨o3,e⟩),dX,ae]
 ·right
  obtain rfl:k=l.length:=by omega
  refine⟨bS.L0.fQ ((l0,ks,iE,to,z,z2),(s,ins.length,ins)),?_,λkn kx=> ?_⟩
  ·simp only[bS.L0.add,bS.L0.F,aa,aQ]
   rfl
  ·rw[bS.L0.step,aR (by omega),ah]
theorem bS.L1.ok:bS.L1.Ok:=by
 refine bS.L1.cM (λ(_,l,_,i,_,_)=>l.length - i.toNat) ?_
 rintro⟨ks,l,n,i,z,t⟩ ⟨hv,hx,hu,hl,xv,rfl,k,hk,rfl⟩
 have hv:yL t:=hv
 have hl:l.length<=64:=hl
 have xv:l.length=ks.length:=xv
 have hk:k<=l.length:=hk
 by_cases h:k < l.length
 ·have hq:k < ks.length:=by omega
  have n1:nth ei l k=l[k]:=dg (t:=ei) h
  have n2:nth tu ks k=ks[k]:=dg (t:=tu) hq
  have hd:l.drop k=l[k]::l.drop (k+1):=aq h
  have M1:ks.drop k=ks[k]::ks.drop (k+1):=aq hq
  have hs:=hx _ (bw h)
  have c1:dV.call (t,(k:Int),l[k].2.2.1,[ks[k]],l[k].2.2.2.1)=some (mn t k l[k].2.2.1 [ks[k]] l[k].2.2.2.1):=dV.run (d:=(t,(k:Int),l[k].2.2.1,[ks[k]],l[k].2.2.2.1)) ⟨hv,λx hx=>by rw[ck.1 hx];exact hu _ (bw hq),by show 1<=1000000000;decide⟩
  have wx:(mn t k l[k].2.2.1 [ks[k]] l[k].2.2.2.1).2=0->yL (mn t k l[k].2.2.1 [ks[k]] l[k].2.2.2.1).1:=λhz=>(ET hv hs hz).1
  have e:mJ t k (l.drop k) (ks.drop k)=if(mn t k l[k].2.2.1 [ks[k]] l[k].2.2.2.1).2=0 then mJ (mn t k l[k].2.2.1 [ks[k]] l[k].2.2.2.1).1 (k+1) (l.drop (k+1)) (ks.drop (k+1)) else .inr (mn t k l[k].2.2.1 [ks[k]] l[k].2.2.2.1).2:=by rw[hd,M1,mJ]
  generalize mn t k l[k].2.2.1 [ks[k]] l[k].2.2.2.1=r at c1 wx e
  have step:∀ {R:Type} (kn:AS->Option R) (kx:Exit->AS->Option R),bS.L1.R (ks,l,(l.length:Int),(k:Int),z,t) kn kx=aJ (sR r.2 0) (kx (bS.L1.dE (r.2,((0:Int),()))).1 (bS.L1.dE (r.2,((0:Int),()))).2) (kn (bS.L1.st (ks,l,(l.length:Int),((k+1:Nat):Int),z,r.1))):=by
   intro R kn kx
   rw[bS.L1.step,bh (by omega),ae,bp (by omega) (by omega),ae,bp (by omega) (by omega),ae]
   simp only[aa,n1,n2]
   rw[c1,ab,N.pk (by omega)]
  by_cases hz:r.2=0
  ·left
   refine⟨(ks,l,(l.length:Int),((k+1:Nat):Int),z,r.1),⟨wx hz,hx,hu,hl,xv,rfl,k+1,by omega,rfl⟩,by simp only[aa];omega,?_,λkn kx=> ?_⟩
   ·simp only[bS.L1.add,bS.L1.F,aa,e,if_pos hz]
   ·rw[step,cS hz,ah]
  ·right
   refine⟨bS.L1.dE (r.2,((0:Int),())),?_,λkn kx=> ?_⟩
   ·simp only[bS.L1.add,bS.L1.F,aa,e,if_neg hz]
    rfl
   ·rw[step,eI hz,ae]
 ·right
  obtain rfl:k=l.length:=by omega
  refine⟨bS.L1.fQ (z,t),?_,λkn kx=> ?_⟩
  ·simp only[bS.L1.add,bS.L1.F,aa,aQ]
   rfl
  ·rw[bS.L1.step,aR (by omega),ah]
theorem LU{l:List eK}{to:Lk}{n:Int}(hl:l.length<=64)(hx:∀x∈l,KW x)(uF:Fh to):yL (l.map xN,([(n,(to,()))],((0:Int),()))):=by
 refine⟨⟨λo ho=> ?_,by show(l.map xN).length<=_;rw[cR];omega,by show 1<=_;decide⟩,λx h=> ?_,by show(0:Int)<=_;decide⟩
 ·rw[ck.1 (show o∈ [(n,(to,()))] from ho)]
  exact uF
 ·obtain⟨y,hy,rfl⟩:=dD.1 (show x∈l.map xN from h)
  exact⟨(hx y hy).1,⟨λs hs=>(by cases hs),dT 0,by show(0:Int) < 18446744073709551616;decide⟩,aV _⟩
theorem bS.ok:bS.Ok:=by
 rintro⟨l,ks,to,iE⟩ ⟨hx,hu,uF,OA,Oz,hf⟩
 have hx:∀x∈l,KW x:=hx
 have uF:Fh to:=uF
 have OA:l.length<=1000000000:=OA
 have Oz:ks.length<=1000000000:=Oz
 have hf: -1125899906842624<=iE/\iE<=9223372036854775807:=hf
 have z1:((0:Int)).toNat=0:=rfl
 rw[bS.eq]
 simp only[bE,bS.F,tj]
 by_cases a1:1<=l.length
 rotate_left
 ·rw[bh (by omega),ae,if_neg (λe=>a1 e.1)]
  rfl
 rw[aR (by omega),ah]
 by_cases a2:l.length<=64
 rotate_left
 ·rw[cX (by omega),ae,if_neg (λe=>a2 e.2.1)]
  rfl
 rw[cj (by omega),ah]
 by_cases a3:l.length=ks.length
 rotate_left
 ·rw[eI (by omega),ae,if_neg (λe=>a3 e.2.2.1)]
  rfl
 rw[cS (by omega),ah,bq.run (d:=to) ⟨uF.1,uF.2⟩]
 simp only[ab,bE,bq.F]
 cases a4:nC to with
 |false=>
  rw[dX,ae,if_neg (λe=>by cases e.2.2.2)]
  rfl
 |true=>
 rw[cq,ah,if_pos ⟨a1,a2,a3,rfl⟩,bS.L0.run (d:=(l,ks,iE,to,0,l,(l.length:Int),0,(0,()),0,(0,()),[])) ⟨a2,a3,rfl,rfl,0,aV _,rfl,ay _⟩]
 simp only[ab,bS.L0.add,bS.L0.F,z1,aI]
 cases hm:qY 0 [] l ks with
 |none=>rfl
 |some r=>
  obtain⟨r1,r2,r3⟩:=Ev l ks 0 [] a3 (dT 0) (by decide) hm
  simp only[gg,ah,fe,ab]
  by_cases b1:iE < 0
  ·rw[bh b1,ae,if_pos (.inl b1)]
   rfl
  rw[aR b1,ah]
  by_cases b2:iE > r.1
  ·rw[cX b2,ae,if_pos (.inr b2)]
   rfl
  rw[cj b2,ah,if_neg (λe=>e.elim b1 b2),aP ⟨trivial,by omega⟩,ae,fi rfl,eE (by omega) (by omega)]
  rw[aS]at r3
  have hv:yL (r.2,([(r.1 - iE,(to,()))],((0:Int),()))):=by rw[r3];exact LU a2 hx uF
  rw[bS.L1.run (d:=(ks,l,(l.length:Int),0,(0,()),(r.2,([(r.1 - iE,(to,()))],((0:Int),()))))) ⟨hv,λx h=>(hx x h).2,hu,a2,a3,rfl,0,aV _,rfl⟩]
  simp only[ab,bS.L1.add,bS.L1.F,z1,aI]
  generalize mJ _ 0 l ks=q
  cases q with
  |inl t=>rfl
  |inr e=>rfl
theorem bS.run:bS.RS:=rE [.d (.slice ei),.d tU,.d mK,.d ti] bS
def bS.sg:=bS.fS bS.ok 2 ⟨.hZ bS.L0.ok,⟨.hZ bS.L1.ok,trivial⟩⟩
abbrev ez.D:=jz×Bs×Lk×Int×rj×Int
abbrev ez.Y:=gT×Int×Int
def rh(g:jz)(ks:List Int)(to:Lk)(h:Int)(b:rj)(dB:Int):gT×Int×Int:=
 if dB > 0/\qO g h b<=dB then(Ff,0,4) else
 if(if dB > 0 then imax (qO g h b) (dB+sI g.1) else qO g h b) > g.2.2.1 then(Ff,0,13) else
 if(tj g.1 ks to (if dB > 0 then imax (qO g h b) (dB+sI g.1) else qO g h b)).2≠0 then(Ff,0,(tj g.1 ks to (if dB > 0 then imax (qO g h b) (dB+sI g.1) else qO g h b)).2) else((tj g.1 ks to (if dB > 0 then imax (qO g h b) (dB+sI g.1) else qO g h b)).1,(if dB > 0 then imax (qO g h b) (dB+sI g.1) else qO g h b),0)
def ez.aU:ez.D->Prop:=λ(g,ks,to,h,b,dB)=>Nb g/\(0<=h/\h<=9223372036854775807)/\(∀x∈g.1,KW x)/\(∀k∈ks,je k)/\Fh to/\g.1.length<=1000000/\ks.length<=1000000000/\dB<=1125899906842624
def ez.F:ez.D->ez.Y:=λ(g,ks,to,h,b,dB)=>rh g ks to h b dB
def ez:Fs Tryz.prog ez.aU bE ez.F:=fK 50 Tryz.f50 (λ(g,keys,to,atv,b,dB)=>([.d oq g,.d tU keys,.d mK to,.d ti atv,.d p9 b,.d ti dB],[])) (λx=>⟨.cons (.d iL x.1) (.cons (.d ti x.2.1) (.cons (.d ti x.2.2) (.nil))),[],[]⟩) [some oq,some tU,some mK,some ti,some p9,some ti] [mQ.sg,cD.sg,bS.sg] {res:=[some iL,none,none]}
theorem ez.eq{R:Type}(g keys to atv b dB)(k:K1 R):ez.A (g,keys,to,atv,b,dB) k=
  av (mQ.call (g,atv,b)) λx1=>
  aJ ((nc dB 0)) (
   aJ ((zS x1 dB)) (
    k (ez.out ((([]:List gz),(([]:List j7),(0,()))),0,4))) (
    av (cD.call g.1) λx2=>
    aJ ((nc (imax x1 (bt .i64 dB x2)) g.2.2.1)) (
     k (ez.out ((([]:List gz),(([]:List j7),(0,()))),0,13))) (
     av (bS.call (g.1,keys,to,(imax x1 (bt .i64 dB x2)))) λx3=>
     aJ ((sR x3.2 0)) (
      k (ez.out ((([]:List gz),(([]:List j7),(0,()))),0,x3.2))) (
      k (ez.out (x3.1,(imax x1 (bt .i64 dB x2)),0)))))) (
   aJ ((nc x1 g.2.2.1)) (
    k (ez.out ((([]:List gz),(([]:List j7),(0,()))),0,13))) (
    av (bS.call (g.1,keys,to,x1)) λx4=>
    aJ ((sR x4.2 0)) (
     k (ez.out ((([]:List gz),(([]:List j7),(0,()))),0,x4.2))) (
     k (ez.out (x4.1,x1,0))))):=by kernel_rfl
theorem ez.ok:ez.Ok:=by
 rintro⟨g,ks,to,h,b,dB⟩ ⟨hg,hh,hx,hu,uF,hl,hk,ho⟩
 have hl:g.1.length<=1000000:=hl
 have ho:dB<=1125899906842624:=ho
 have hf:=HO (h:=h) (b:=b) hg
 have hw:=ot g.1
 obtain⟨⟨g1,g2,g3⟩,_⟩:=id hg
 have cm:∀iE:Int,0<=iE->iE<=1125899906842624->bS.call (g.1,ks,to,iE)=some (tj g.1 ks to iE):=λiE h0 h1=>bS.run (d:=(g.1,ks,to,iE)) ⟨hx,hu,uF,by show g.1.length<=_;omega,hk,by show -1125899906842624<=iE;omega,by show iE<=_;omega⟩
 rw[ez.eq,mQ.run (d:=(g,h,b)) ⟨hg,hh.1,hh.2⟩]
 simp only[ab,bE,mQ.F,bE,ez.F,rh]
 generalize qO g h b=f at hf
 by_cases a1:dB > 0
 ·rw[cX a1,ae]
  by_cases a2:f<=dB
  ·rw[ix a2,ae,if_pos ⟨a1,a2⟩]
   rfl
  ·rw[ga a2,ah,if_neg (λe=>a2 e.2),cD.run (d:=g.1) (by show g.1.length<=_;omega)]
   simp only[ab,bE,cD.F,if_pos a1]
   rw[eC (x:=dB) (by omega) (by omega)]
   have h1:0<=imax f (dB+sI g.1):=by unfold imax;split <;> omega
   generalize imax f (dB+sI g.1)=q at h1
   by_cases a3:q > g.2.2.1
   ·rw[cX a3,ae,if_pos a3]
    rfl
   ·rw[cj a3,ah,if_neg a3,cm q h1 (by omega)]
    simp only[ab]
    generalize tj g.1 ks to q=r
    by_cases a4:r.2=0
    ·rw[cS a4,ah,if_neg (λe=>e a4)]
    ·rw[eI a4,ae,if_pos a4]
     rfl
 ·rw[cj a1,ah,if_neg (λe=>a1 e.1),if_neg a1]
  by_cases a3:f > g.2.2.1
  ·rw[cX a3,ae,if_pos a3]
   rfl
  ·rw[cj a3,ah,if_neg a3,cm f (by omega) (by omega)]
   simp only[ab]
   generalize tj g.1 ks to f=r
   by_cases a4:r.2=0
   ·rw[cS a4,ah,if_neg (λe=>e a4)]
   ·rw[eI a4,ae,if_pos a4]
    rfl
theorem ez.run:ez.RS:=rE [.d oq,.d tU,.d mK,.d ti,.d p9,.d ti] ez
def ez.sg:=ez.fS ez.ok
abbrev di.D:=Int
def di.st:di.D->SA:=λn=>([.d ti n],[])
abbrev di.Y:=Bs
abbrev di.X:=Bs
def di.out:di.X->kr:=λx=>⟨.d tB x,[],[]⟩
def di.add:di.D->di.Y->di.X:=λn y=>y
def di.aU:Nat->di.D->Prop
 | 0=>λ_=>False
 |dep+1=>λn=>0<=n/\n<=9223372036854775807/\n < 128^(dep+1)
def di.F:di.D->di.Y:=λn=>sz n
theorem Iy{n:Int}(h:n < 128):sz n=[n]:=by
 unfold sz
 rw[mY,if_neg (by omega)]
 rfl
theorem KE{n:Int}(h:128<=n)(h2:n<=9223372036854775807):sz n=(n%128+128)::sz (n / 128):=by
 unfold sz
 rw[DT h h2]
 rfl
theorem He{n:Int}(h0:0<=n)(h:n < 256):dP .u8 n=n:=by rw[y9,hM];omega
theorem di.inj:∀d d',di.st d=di.st d'->d=d':=Sf [.d ti] λ_=>by kernel_rfl
def di.R(dep:Nat):Entry:=Entry.of [some ti] di.st (di.aU dep) (λd=>di.add d (di.F d)) di.out
def di.OX(dep:Nat):di.D->Option di.X:=λd=>(di.R dep).run (di.st d).1 (di.st d).2
theorem di.UB{dep:Nat}{d:di.D}(h:di.aU dep d):di.OX dep d=some (di.add d (di.F d)):=Entry.sq di.inj h
def di.G(dep:Nat):qd:=I2 265 vH (di.R dep) (lN (P:=Tryz.prog) [])
def di.an:v7:= {bU:=[8,13],res:=[some tB]}
def di.A(dep:Nat):= @K9 Tryz.prog (di.G dep) di.an 0 Tryz.f265 _ di.st
theorem di.eq{R:Type}(dep:Nat)(n:Int)(k:kr->Option R):di.A dep n k=
  aJ ((ik n (128:Int))) (
   k (di.out [(dP .u8 n)])) (
   av (di.OX dep (jX .i64 n (128:Int))) λx1=>
   aJ (dG (1+(List.length x1)) 1) (
   aJ (decide (0=0/\(0+(1+(List.length x1)))<=(List.length ([(bt .u8 (dP .u8 (gv n (128:Int))) (128:Int))]++x1)))) (
   k (di.out (cut ([(bt .u8 (dP .u8 (gv n (128:Int))) (128:Int))]++x1) 0 (1+(List.length x1))))) none) none):=by kernel_rfl
theorem di.ok:∀(dep:Nat) (d:di.D),di.aU (dep+1) d->di.A dep d some=some (di.out (di.add d (di.F d))):=by
 rintro dep (n:Int) ⟨h0,h1,h2⟩
 have h0:0<=n:=h0
 have h1:n<=9223372036854775807:=h1
 have h2:n < 128^(dep+1):=h2
 rw[di.eq]
 simp only[di.add,di.F]
 by_cases h:n < 128
 ·rw[bh h,ae,Iy h,He h0 (by omega)]
 ·obtain⟨m,rfl⟩:∃m:Nat,n=m:=⟨n.toNat,by omega⟩
  cases dep with
  |zero=>exact absurd h2 h
  |succ dep=>
   have e:(128:Int)^(dep+1+1)=128^(dep+1)*128:=Int.pow_succ 128 (dep+1)
   have e1:jX .i64 (m:Int) (128:Int)=((m / 128:Nat):Int):=N.Ur (by omega)
   have e2:gv (m:Int) (128:Int)=((m%128:Nat):Int):=N.Ut
   have e3:bt .u8 (dP .u8 ((m%128:Nat):Int)) (128:Int)=(m:Int)%128+128:=by
    rw[He (by omega) (by omega)]
    show IntKind.u8.wrap _=_
    rw[wrap_u8,hM]
    omega
   have e4:((m / 128:Nat):Int)=(m:Int) / 128:=by omega
   have hl:=sA ((m:Int) / 128)
   rw[aR h,ah,e1,e2,e3,e4,di.UB (dep:=dep+1) (d:=(m:Int) / 128) ⟨by show 0<=(m:Int) / 128;omega,by show(m:Int) / 128<=_;omega,by show(m:Int) / 128 < _;omega⟩]
   simp only[ab,di.add,di.F]
   rw[dU (by omega) (by omega),KE (by omega) h1]
   have el:([(m:Int)%128+128]++sz ((m:Int) / 128)).length=1+(sz ((m:Int) / 128)).length:=by rw[aj];rfl
   rw[aP ⟨by trivial,by rw[el];omega⟩,fi el]
   rfl
def di.E:Entry:=di.R 9
def di.call:di.D->Option di.X:=Lp di.E di.st
theorem di.run{d:di.D}(h:di.aU 9 d):di.call d=some (di.add d (di.F d)):=Entry.sq di.inj h
theorem di.OY:∀dep,mo Tryz.prog 265 (di.R dep)
 | 0=>mo.of (an:=di.an) (N:=0) (fn:=Tryz.f265) (by kernel_rfl) (show Sound _ PC from Sound.nil _) (by kernel_rfl) (by kernel_rfl) (by kernel_rfl) (lE.fn 0 (by kernel_rfl) trivial) (λ_ h=>False.elim h)
 |dep+1=>mo.of (an:=di.an) (N:=0) (fn:=Tryz.f265) (by kernel_rfl) (show Sound _ (di.G dep) from Sound.cons (qc.of (di.OY dep) (by rfl)) (Sound.lN (P:=Tryz.prog) [])) (by kernel_rfl) (by kernel_rfl) (by kernel_rfl) (lE.fn 0 (by kernel_rfl) trivial) (di.ok dep)
def di.sg:SG Tryz.prog:=⟨265,vH,di.E,.of (di.OY 9) (by rfl)⟩
abbrev fJ.D:=Bs×Int
abbrev fJ.Y:=Bs
def fJ.aU:fJ.D->Prop:=λ(b,n)=>b.length<=90000000/\n<=9223372036854775807
def fJ.F:fJ.D->fJ.Y:=λ(b,n)=>dY b n
def fJ:Fs Tryz.prog fJ.aU bE fJ.F:=fK 220 Tryz.f220 (λ(b,n)=>([.d tB b,.d ti n],[])) (λx=>⟨.d tB x,[],[]⟩) [some tB,some ti] [di.sg] {bU:=[6],res:=[some tB]}
theorem fJ.eq{R:Type}(b n)(k:K1 R):fJ.A (b,n) k=
  aJ (dG (0+(List.length b)) 1) (
  aJ ((qQ n 0)) (
   av (di.call n) λx1=>
   aJ (decide ((0+(List.length b))<=(List.length ((List.take 0 (List.replicate 0 0))++b)))) (
   aJ (dG ((0+(List.length b))+(List.length x1)) 1) (
   aJ (decide (0=0/\(0+((0+(List.length b))+(List.length x1)))<=(List.length ((List.take (0+(List.length b)) ((List.take 0 (List.replicate 0 0))++b))++x1)))) (
   k (fJ.out (cut ((List.take (0+(List.length b)) ((List.take 0 (List.replicate 0 0))++b))++x1) 0 ((0+(List.length b))+(List.length x1))))) none) none) none) (
   aJ (decide (0=0/\(0+(0+(List.length b)))<=(List.length ((List.take 0 (List.replicate 0 0))++b)))) (
   k (fJ.out (cut ((List.take 0 (List.replicate 0 0))++b) 0 (0+(List.length b))))) none)) none:=by kernel_rfl
theorem fJ.ok:fJ.Ok:=by
 rintro⟨b,n⟩ ⟨hb,hn⟩
 have hb:b.length<=90000000:=hb
 have hn:n<=9223372036854775807:=hn
 have e0:(List.take 0 (List.replicate 0 0):List Int)=[]:=rfl
 rw[fJ.eq]
 simp only[aO,e0,aS,bE,fJ.F,dY,ay,and_self,decide_true,ae,fi,bY]
 rw[dU (by omega) (by omega),ae]
 by_cases h:n>=0
 ·have hl:=sA n
  rw[eQ h,ae,if_neg (by omega),di.run (d:=n) ⟨h,hn,by have e:(128:Int)^(8+1)=9223372036854775808:=rfl;rw[e];show n < _;omega⟩]
  simp only[ab,di.add,di.F]
  rw[dU (by omega) (by omega),aP ⟨by trivial,by rw[aj];omega⟩,fi (by rw[aj])]
  rfl
 ·rw[dQ h,if_pos (by omega)];rfl
theorem fJ.run:fJ.RS:=rE [.d tB,.d ti] fJ
def fJ.sg:=fJ.fS fJ.ok
abbrev dM.L0.D:=Int×Nat×Int×(List Int)
abbrev dM.L0.Y:=Nat×(List Int)
abbrev dM.D:=Bs×Int
abbrev dM.Y:=Bs
def dM.L0.aU:dM.L0.D->Prop:=λ(n,m,i,l)=>m=l.length/\∃j:Nat,j<=8/\i=7 - (j:Int)/\l.length<=100000000+j
def dM.L0.F:dM.L0.D->dM.L0.Y:=λ(n,m,i,l)=>(m+(i+1).toNat,l++(lO n).drop (7 - i).toNat)
def dM.aU:dM.D->Prop:=λ(b,n)=>b.length<=90000000
def dM.F:dM.D->dM.Y:=λ(b,n)=>b++lO n
def dM.L0:Ls dM.L0.aU bE dM.L0.F:=pG (λ(xZ,outL,i,n7)=>⟨([.undef,.d tu xZ,.undef,.undef,.undef,.cP (.new 7 0) 0 [] 0 0 outL,.d ti i]++bj 17 []),[],(cg 7 ([[.obj 0 false (.vec 5 tb n7)]]++cg 16 []))⟩) (λx=>(.exit 0,⟨(bj 5 ([.cP (.new 7 0) 0 [] 0 0 x.1]++bj 18 [])),[],(cg 7 ([[.obj 0 false (.vec 5 tb x.2)]]++cg 16 []))⟩))
def dM:Fs Tryz.prog dM.aU bE dM.F:=fK 266 Tryz.f266 (λ(b,n)=>([.d tB b,.d tu n],[])) (λx=>⟨.d tB x,[],[]⟩) [some tB,some tu] [] {bU:=[7],loops:=oM [(3,{bm:=[1,5,6],sites:=[7],owns:=[⟨5,[],7,140⟩]})],outs:=oL [(3,{bm:=[5],sites:=[7]},{bm:=[4]})],iA:=pq [(3,dM.L0.E)],res:=[some tB]}
theorem dM.L0.run:dM.L0.RS:=rL [.d tu,.n,.d ti,.d tB] dM.L0
theorem dM.L0.step{R:Type}(xZ outL i n7)(kn:K2 R)(kx:K3 R):dM.R 0 dM.L0 (xZ,outL,i,n7) kn kx=
  aJ ((qQ i 0)) (
   aJ (kA (dP .u64 (eR .i64 8 i))) (
   aJ (decide (outL<=(List.length n7))) (
   aJ (dG (outL+1) 1) (
   kn (dM.L0.st (xZ,(outL+1),(dp .i64 i 1),((List.take outL n7)++ [(dP .u8 (cr .u64 xZ (dP .u64 (eR .i64 8 i))))])))) none) none) none) (
   dM.L0.go kx (outL,n7)):=by kernel_rfl
theorem dM.eq{R:Type}(b n)(k:K1 R):dM.A (b,n) k=
 aJ (dG (0+(List.length b)) 1) (
 av (dM.L0.call (n,(0+(List.length b)),7,((List.take 0 (List.replicate 0 0))++b))) λx1=>
 aJ (decide (0=0/\(0+x1.1)<=(List.length x1.2))) (
 k (dM.out (cut x1.2 0 x1.1))) none) none:=by kernel_rfl
theorem dM.L0.ok:(dM.lE 0 dM.L0):=by
 refine(dM.mr 0 dM.L0) (λ(n,m,i,l)=>(i+1).toNat) ?_
 rintro⟨n,m,i,l⟩ ⟨rfl,j,hj,rfl,hl⟩
 have hl:l.length<=100000000+j:=hl
 have e1:(7 - (7 - (j:Int))).toNat=j:=by omega
 by_cases h:j < 8
 ·left
  have e2:dp .i64 (7 - (j:Int)) 1=7 - ((j+1:Nat):Int):=by rw[eE (by omega) (by omega)];omega
  have e3:(7 - (7 - ((j+1:Nat):Int))).toNat=j+1:=by omega
  have e4:eR .i64 8 (7 - (j:Int))=((56 - 8*j:Nat):Int):=by rw[qo (by omega) (by omega)];omega
  have e5:dP .u64 ((56 - 8*j:Nat):Int)=((56 - 8*j:Nat):Int):=by rw[AI,hM];omega
  refine⟨(n,l.length+1,7 - ((j+1:Nat):Int),l++ [n / 2^(56 - 8*j)%256]),⟨by rw[aj];rfl,j+1,by omega,rfl,by rw[aj];show l.length+1<=_;omega⟩,by simp only;omega,?_,λkn kx=> ?_⟩
  ·simp only[bE,dM.L0.F,e1,e3,Fy n j h,bk,dy]
   rw[show l.length+1+(7 - ((j+1:Nat):Int)+1).toNat=l.length+(7 - (j:Int)+1).toNat by omega]
  ·rw[dM.L0.step,eQ (by omega),e4,e5,oB (by omega),Cz n _ (by omega),e2,aP (ay _),dU (by omega) (by omega),bY]
   rfl
 ·right
  obtain rfl:j=8:=by omega
  intro R kn kx
  rw[dM.L0.step,dQ (by omega),ah]
  simp only[bE,dM.L0.F,e1]
  rw[eu (by rw[cF];omega),cH]
  rfl
theorem dM.ok:dM.Ok:=by
 rintro⟨b,n⟩ hb
 have hb:b.length<=90000000:=hb
 have e0:(List.take 0 (List.replicate 0 0):List Int)=[]:=rfl
 rw[dM.eq]
 simp only[aO,e0,aS]
 rw[dU (by omega) (by omega),ae,dM.L0.run (d:=(n,b.length,7,b)) ⟨rfl,0,by omega,rfl,by omega⟩]
 simp only[ab,bE,dM.L0.F]
 rw[show(7 - (7:Int)).toNat=0 from rfl,show((7:Int)+1).toNat=8 from rfl,aI]
 have el:(b++lO n).length=b.length+8:=by rw[aj,cF]
 rw[aP ⟨by trivial,by rw[el];omega⟩,fi el]
 rfl
theorem dM.run:dM.RS:=rE [.d tB,.d tu] dM
def dM.sg:=dM.fS dM.ok 1 ⟨.hZ dM.L0.ok,trivial⟩
abbrev c9.L0.D:=Int×Int×Int
abbrev c9.L0.Y:=Int
abbrev c9.D:=Int×Int
abbrev c9.Y:=Int
def c9.L0.aU:c9.L0.D->Prop:=λ(a,b,o)=>Pn a/\je b/\Pn o
def c9.L0.F:c9.L0.D->c9.L0.Y:=λ(a,b,o)=>(o+a*b)%4611686018427377339
def c9.aU:c9.D->Prop:=λ(a,b)=>Pn a/\je b
def c9.F:c9.D->c9.Y:=λ(a,b)=>qs a b
def c9.L0:Ls c9.L0.aU bE c9.L0.F:=pG (λ(mM,iI,outv)=>⟨([.d tu mM,.d tu iI,.undef,.undef,.undef,.d tu outv]++bj 16 []),[],(List.replicate 22 [])⟩) (λx=>(.exit 0,⟨(bj 5 ([.d tu x]++bj 16 [])),[],(List.replicate 22 [])⟩))
def c9:Fs Tryz.prog c9.aU bE c9.F:=fK 280 Tryz.f280 (λ(a,b)=>([.d tu a,.d tu b],[])) (λx=>⟨.d tu x,[],[]⟩) [some tu,some tu] [] {loops:=oM [(2,{bm:=[0,1,5]})],outs:=oL [(2,{bm:=[5]},{bm:=[4]})],iA:=pq [(2,c9.L0.E)]}
theorem c9.L0.run:c9.L0.RS:=rL [.d tu,.d tu,.d tu] c9.L0
theorem c9.L0.step{R:Type}(mM iI outv)(kn:K2 R)(kx:K3 R):c9.R 0 c9.L0 (mM,iI,outv) kn kx=
  aJ ((nc iI 0)) (
   aJ ((wy (gv iI 2) 1)) (
    kn (c9.L0.st ((gv (bt .u64 mM mM) 4611686018427377339),(jX .u64 iI 2),(gv (bt .u64 outv mM) 4611686018427377339)))) (
    kn (c9.L0.st ((gv (bt .u64 mM mM) 4611686018427377339),(jX .u64 iI 2),outv)))) (
   c9.L0.go kx outv):=by kernel_rfl
theorem c9.eq{R:Type}(a b)(k:K1 R):c9.A (a,b) k=
 av (c9.L0.call (a,b,0)) λx1=>
 k (c9.out x1):=by kernel_rfl
theorem J3(o a b:Int)(m:Int):(o+a*b)%m=((if b%2=1 then(o+a)%m else o)+(a+a)%m*(b / 2))%m:=by
 have e:b=2*(b / 2)+b%2:=by omega
 have hb:b%2=0\/b%2=1:=by omega
 generalize b / 2=q at*
 have l1:∀x y:Int,(x%m+(a+a)%m*y)%m=(x+(a+a)*y)%m:=λx y=>by
  rw[ka,kc _ (Int.dvd_refl m),kf,kc _ (Int.dvd_refl m),<-kf,<-ka]
 have l2:∀x y:Int,(x+(a+a)%m*y)%m=(x+(a+a)*y)%m:=λx y=>by
  rw[ka,kf,kc _ (Int.dvd_refl m),<-kf,<-ka]
 rcases hb with h | h
 ·rw[if_neg (by omega),l2]
  rw[h]at e
  rw[e,kb,ou,<-ku,lC a 2,Int.two_mul,ou]
 ·rw[if_pos h,l1]
  rw[h]at e
  rw[e,Int.mul_add,Int.mul_one,<-ku,lC a 2,Int.two_mul]
  congr 1
  omega
theorem ON{n:Int}(h:je n):jX .u64 n 2=n / 2:=sW h.1 (by omega) h.2
theorem c9.L0.ok:(c9.lE 0 c9.L0):=by
 refine(c9.mr 0 c9.L0) (λ(a,b,o)=>b.toNat) ?_
 rintro⟨a,b,o⟩ ⟨ha,hb,ho⟩
 have ha:Pn a:=ha
 have hb:je b:=hb
 have ho:Pn o:=ho
 obtain⟨a0,a1⟩:=ha
 obtain⟨b0,b1⟩:=hb
 obtain⟨o0,o1⟩:=ho
 by_cases h:0 < b
 ·left
  have e1:gv (bt .u64 a a) 4611686018427377339=(a+a)%4611686018427377339:=by
   have:bt .u64 a a=a+a:=by rw[iJ];omega
   rw[this,iy (by omega)]
  have e2:gv (bt .u64 o a) 4611686018427377339=(o+a)%4611686018427377339:=by
   have:bt .u64 o a=o+a:=by rw[iJ];omega
   rw[this,iy (by omega)]
  refine⟨((a+a)%4611686018427377339,b / 2,if b%2=1 then(o+a)%4611686018427377339 else o),⟨⟨by omega,by omega⟩,⟨by omega,by omega⟩,?_⟩,by simp only[];omega,?_,λkn kx=> ?_⟩
  ·show Pn (if b%2=1 then(o+a)%4611686018427377339 else o)
   split
   ·exact⟨by omega,by omega⟩
   ·exact⟨o0,o1⟩
  ·exact congrArg _ (J3 o a b 4611686018427377339).symm
  ·rw[c9.L0.step,cX h,e1,e2,ON ⟨b0,b1⟩,iy b0]
   by_cases h1:b%2=1
   ·rw[iw h1,if_pos h1];rfl
   ·rw[gl h1,if_neg h1];rfl
 ·right
  intro R kn kx
  obtain rfl:b=0:=by omega
  rw[c9.L0.step,cj (by omega)]
  simp only[ah,bE,c9.L0.F]
  rw[show(o+a*0)%4611686018427377339=o by omega]
theorem c9.ok:c9.Ok:=by
 rintro⟨a,b⟩ ⟨ha,hb⟩
 rw[c9.eq,c9.L0.run (d:=(a,b,0)) ⟨ha,hb,by omega,by omega⟩]
 simp only[ab,bE,c9.L0.F,lD]
 rfl
theorem c9.run:c9.RS:=rE [.d tu,.d tu] c9
def c9.sg:=c9.fS c9.ok 1 ⟨.hZ c9.L0.ok,trivial⟩
abbrev de.L0.D:=Int×Int×Int
abbrev de.L0.Y:=Int
abbrev de.D:=Int×Int
abbrev de.Y:=Int
def de.L0.aU:de.L0.D->Prop:=λ(a,n,o)=>Pn a/\je n/\Pn o
def de.L0.F:de.L0.D->de.L0.Y:=λ(a,n,o)=>Hm 64 a n.toNat o
def de.aU:de.D->Prop:=λ(a,n)=>Pn a/\je n
def de.F:de.D->de.Y:=λ(a,n)=>pw a n.toNat
def de.L0:Ls de.L0.aU bE de.L0.F:=pG (λ(mM,xZ,outv)=>⟨([.d tu mM,.d tu xZ,.undef,.undef,.undef,.d tu outv]++bj 14 []),[],(List.replicate 20 [])⟩) (λx=>(.exit 0,⟨(bj 5 ([.d tu x]++bj 14 [])),[],(List.replicate 20 [])⟩))
def de:Fs Tryz.prog de.aU bE de.F:=fK 261 Tryz.f261 (λ(a,n)=>([.d tu a,.d tu n],[])) (λx=>⟨.d tu x,[],[]⟩) [some tu,some tu] [c9.sg] {loops:=oM [(2,{bm:=[0,1,5]})],outs:=oL [(2,{bm:=[5]},{bm:=[4]})],iA:=pq [(2,de.L0.E)]}
theorem de.L0.run:de.L0.RS:=rL [.d tu,.d tu,.d tu] de.L0
theorem de.L0.step{R:Type}(mM xZ outv)(kn:K2 R)(kx:K3 R):de.R 0 de.L0 (mM,xZ,outv) kn kx=
  aJ ((nc xZ 0)) (
   aJ ((wy (gv xZ 2) 1)) (
    av (c9.call (outv,mM)) λx1=>
    av (c9.call (mM,mM)) λx2=>
    kn (de.L0.st (x2,(jX .u64 xZ 2),x1))) (
    av (c9.call (mM,mM)) λx3=>
    kn (de.L0.st (x3,(jX .u64 xZ 2),outv)))) (
   de.L0.go kx outv):=by kernel_rfl
theorem de.eq{R:Type}(a n)(k:K1 R):de.A (a,n) k=
 av (de.L0.call (a,n,1)) λx4=>
 k (de.out x4):=by kernel_rfl
theorem de.L0.ok:(de.lE 0 de.L0):=by
 refine(de.mr 0 de.L0) (λ(a,n,o)=>n.toNat) ?_
 rintro⟨a,n,o⟩ ⟨ha,hn,ho⟩
 have ha:Pn a:=ha
 have hn:je n:=hn
 have ho:Pn o:=ho
 have n0:=hn.1
 have n1:=hn.2
 by_cases h:0 < n
 ·left
  have e:de.L0.F (a,n,o)=de.L0.F (qs a a,n / 2,if n%2=1 then qs o a else o):=by
   show Hm 64 a n.toNat o=Hm 64 (qs a a) (n / 2).toNat _
   rw[B8 64 65 a n.toNat o (by omega) (by omega)]
   have t1:(n / 2).toNat=n.toNat / 2:=by omega
   have t2:(n%2=1)=(n.toNat%2=1):=by apply propext;omega
   rw[t1]
   simp only[t2]
   show(if n.toNat=0 then o else _)=_
   rw[if_neg (by omega)]
  refine⟨(qs a a,n / 2,if n%2=1 then qs o a else o),⟨ud a a,⟨by omega,by omega⟩,?_⟩,by show(n / 2).toNat < n.toNat;omega,?_,λkn kx=> ?_⟩
  ·show Pn (if n%2=1 then qs o a else o)
   split
   ·exact ud _ _
   ·exact ho
  ·exact congrArg _ e.symm
  ·rw[de.L0.step,cX h,ON hn,iy n0,c9.run (d:=(o,a)) ⟨ho,ha.u⟩,c9.run (d:=(a,a)) ⟨ha,ha.u⟩]
   by_cases h1:n%2=1
   ·rw[iw h1,if_pos h1];rfl
   ·rw[gl h1,if_neg h1];rfl
 ·right
  intro R kn kx
  obtain rfl:n=0:=by omega
  rw[de.L0.step,cj (by omega)]
  simp only[ah,bE,de.L0.F]
  rw[show Hm 64 a (Int.toNat 0) o=o from tI _ _ _]
theorem de.ok:de.Ok:=by
 rintro⟨a,n⟩ ⟨ha,hn⟩
 rw[de.eq,de.L0.run (d:=(a,n,1)) ⟨ha,hn,by omega,by omega⟩]
 rfl
theorem de.run:de.RS:=rE [.d tu,.d tu] de
def de.sg:=de.fS de.ok 1 ⟨.hZ de.L0.ok,trivial⟩
abbrev eV.D:=Int
abbrev eV.Y:=Bool
def eV.aU:eV.D->Prop:=λp=>je p
def eV.F:eV.D->eV.Y:=λp=>tw p
def eV:Fs Tryz.prog eV.aU bE eV.F:=fK 217 Tryz.f217 (λp=>([.d tu p],[])) (λx=>⟨.d .bool x,[],[]⟩) [some tu] [de.sg]
theorem eV.eq{R:Type}(p)(k:K1 R):eV.A p k=
  aJ ((qQ p 1)) (
   aJ ((ik p 4611686018427377339)) (
    av (de.call (p,2305843009213688669)) λx1=>
    k (eV.out (wy x1 1))) (
    k (eV.out false))) (
   k (eV.out false)):=by kernel_rfl
theorem eV.ok:eV.Ok:=by
 intro(p:Int) hp
 have hp:je p:=hp
 rw[eV.eq]
 simp only[bE,eV.F,tw]
 by_cases h:0 < p
 ·rw[eQ (by omega),ae]
  by_cases h2:p < 4611686018427377339
  ·rw[bh h2,ae,aP ⟨h,h2⟩,bO,de.run (d:=(p,2305843009213688669)) ⟨⟨by omega,h2⟩,by constructor <;> decide⟩]
   rfl
  ·rw[aR h2,ah,bf (λx=>h2 x.2),dF]
 ·rw[dQ (by omega),ah,bf (λx=>h x.1),dF]
theorem eV.run:eV.RS:=rE [.d tu] eV
def eV.sg:=eV.fS eV.ok
abbrev fm.D:=Int
abbrev fm.Y:=Int
def fm.aU:fm.D->Prop:=λp=>je p
def fm.F:fm.D->fm.Y:=λp=>tk p
def fm:Fs Tryz.prog fm.aU bE fm.F:=fK 267 Tryz.f267 (λp=>([.d tu p],[])) (λx=>⟨.d tu x,[],[]⟩) [some tu] [eV.sg]
theorem fm.eq{R:Type}(p)(k:K1 R):fm.A p k=
  av (eV.call p) λx1=>
  aJ (x1) (
   k (fm.out p)) (
   k (fm.out 1)):=by kernel_rfl
theorem fm.ok:fm.Ok:=by
 intro p hp
 rw[fm.eq,eV.run (d:=p) hp]
 simp only[ab,bE,eV.F,bE,fm.F,tk]
 cases tw p <;> rfl
theorem fm.run:fm.RS:=rE [.d tu] fm
def fm.sg:=fm.fS fm.ok
abbrev ia.D:=Int×Int
abbrev ia.Y:=Int
def ia.aU:ia.D->Prop:=λ(p,k)=>je p/\je k
def ia.F:ia.D->ia.Y:=λ(p,k)=>ES p k
def ia:Fs Tryz.prog ia.aU bE ia.F:=fK 224 Tryz.f224 (λ(p,kv)=>([.d tu p,.d tu kv],[])) (λx=>⟨.d tu x,[],[]⟩) [some tu,some tu] [fm.sg,de.sg]
theorem ia.eq{R:Type}(p kv)(k:K1 R):ia.A (p,kv) k=
 av (fm.call p) λx1=>
 av (de.call (x1,(gv kv 2305843009213688669))) λx2=>
 k (ia.out x2):=by kernel_rfl
theorem ia.ok:ia.Ok:=by
 rintro⟨p,k⟩ ⟨hp,hk⟩
 have hk:je k:=hk
 have e:=iy (y:=2305843009213688669) hk.1
 have b:je (k%2305843009213688669):=⟨by omega,by omega⟩
 rw[ia.eq,fm.run (d:=p) hp,e]
 simp only[ab,bE,fm.F]
 rw[de.run (d:=(tk p,k%2305843009213688669)) ⟨D1 p,b⟩]
 rfl
theorem ia.run:ia.RS:=rE [.d tu,.d tu] ia
def ia.sg:=ia.fS ia.ok
abbrev iH.D:=Int
abbrev iH.Y:=Int
def iH.aU:iH.D->Prop:=λk=>je k
def iH.F:iH.D->iH.Y:=λk=>jw k
def iH:Fs Tryz.prog iH.aU bE iH.F:=fK 163 Tryz.f163 (λkv=>([.d tu kv],[])) (λx=>⟨.d tu x,[],[]⟩) [some tu] [ia.sg]
theorem iH.eq{R:Type}(kv)(k:K1 R):iH.A kv k=
 av (ia.call (4,kv)) λx1=>
 k (iH.out x1):=by kernel_rfl
theorem iH.ok:iH.Ok:=by
 intro k hk
 rw[iH.eq,ia.run (d:=(4,k)) ⟨⟨by omega,by omega⟩,hk⟩]
 rfl
theorem iH.run:iH.RS:=rE [.d tu] iH
def iH.sg:=iH.fS iH.ok
theorem N7(p q:Int):wh [p,q]=qs (tk p) (tk q):=by
 show qs (qs 1 (tk p)) (tk q)=_
 have:qs 1 (tk p)=tk p:=by
  have h:=D1 p
  unfold qs
  rw[Int.one_mul]
  exact ke h.1 h.2
 rw[this]
abbrev lv.D:=Int×Int
abbrev lv.Y:=Int
def lv.aU:lv.D->Prop:=λ(p,q)=>je p/\je q
def lv.F:lv.D->lv.Y:=λ(p,q)=>wh [p,q]
def lv:Fs Tryz.prog lv.aU bE lv.F:=fK 268 Tryz.f268 (λ(p,q)=>([.d tu p,.d tu q],[])) (λx=>⟨.d tu x,[],[]⟩) [some tu,some tu] [fm.sg,c9.sg]
theorem lv.eq{R:Type}(p q)(k:K1 R):lv.A (p,q) k=
 av (fm.call p) λx1=>
 av (fm.call q) λx2=>
 av (c9.call (x1,x2)) λx3=>
 k (lv.out x3):=by kernel_rfl
theorem lv.ok:lv.Ok:=by
 rintro⟨p,q⟩ ⟨hp,hq⟩
 rw[lv.eq,fm.run (d:=p) hp,fm.run (d:=q) hq]
 simp only[ab,bE,fm.F]
 rw[c9.run (d:=(tk p,tk q)) ⟨D1 p,(D1 q).u⟩]
 simp only[ab,bE,c9.F,bE,lv.F,N7]
theorem lv.run:lv.RS:=rE [.d tu,.d tu] lv
def lv.sg:=lv.fS lv.ok
abbrev fX.D:=Int
abbrev fX.Y:=Bool
def fX.aU:fX.D->Prop:=λ_=>True
def fX.F:fX.D->fX.Y:=λa=>ik a 2305843009213688669
def fX:Fs Tryz.prog fX.aU bE fX.F:=fK 173 Tryz.f173 (λa=>([.d tu a],[])) (λx=>⟨.d .bool x,[],[]⟩) [some tu]
theorem fX.eq{R:Type}(a)(k:K1 R):fX.A a k=
 k (fX.out (ik a 2305843009213688669)):=by kernel_rfl
theorem fX.ok:fX.Ok:=by
 intro a _
 rw[fX.eq]
 rfl
theorem fX.run:fX.RS:=rE [.d tu] fX
def fX.sg:=fX.fS fX.ok
abbrev dI.L0.D:=Bs×Int×Int
abbrev dI.L0.Y:=Int
abbrev dI.D:=Bs
abbrev dI.Y:=Int
def dI.L0.aU:dI.L0.D->Prop:=λ(h,n,i)=>D7.b n/\h.length=32/\Bytes h/\∃k:Nat,k<=32/\i=k
def dI.L0.F:dI.L0.D->dI.L0.Y:=λ(h,n,i)=>(h.drop i.toNat).foldl (λn b=>(n*256+b)%2305843009213688668) n
def dI.aU:dI.D->Prop:=λh=>h.length=32/\Bytes h
def dI.F:dI.D->dI.Y:=λh=>uZ h
def dI.L0:Ls dI.L0.aU bE dI.L0.F:=pG (λ(tv,n,i)=>⟨([.undef,.ed tH tv,.undef,.d tu n,.d ti i]++bj 25 []),[],(List.replicate 30 [])⟩) (λx=>(.exit 0,⟨([.undef,.undef,.undef,.d tu x]++bj 26 []),[],(List.replicate 30 [])⟩))
def dI:Fs Tryz.prog dI.aU bE dI.F:=fK 274 Tryz.f274 (λh=>([.d tH h],[])) (λx=>⟨.d tu x,[],[]⟩) [some tH] [] {loops:=oM [(3,{bm:=[1,3,4]}),(6,{bm:=[1,3,4,5]})],outs:=oL [(3,{bm:=[3]},{bm:=[2]}),(6,{bm:=[1,3,4]},{bm:=[2]})],iA:=pq [(3,dI.L0.E)]} 12
theorem dI.L0.run:dI.L0.RS:=rL [.d tH,.d tu,.d ti] dI.L0
theorem dI.L0.step{R:Type}(tv n i)(kn:K2 R)(kx:K3 R):dI.R 0 dI.L0 (tv,n,i) kn kx=
  aJ ((ik i 32)) (
   aJ (eY i 32) (
   aJ (eY i 32) (
   aJ (eY i 32) (
   aJ (eY i 32) (
   aJ (eY i 32) (
   aJ (eY i 32) (
   aJ (eY i 32) (
   aJ (eY i 32) (
   kn (dI.L0.st (tv,(gv (bt .u64 (eR .u64 2 (gv (bt .u64 (eR .u64 2 (gv (bt .u64 (eR .u64 2 (gv (bt .u64 (eR .u64 2 (gv (bt .u64 (eR .u64 2 (gv (bt .u64 (eR .u64 2 (gv (bt .u64 (eR .u64 2 (gv (bt .u64 (eR .u64 2 n) (cW .and .u64 (cr .u64 (dP .u64 (nth tb tv (Int.toNat i))) 7) 1)) 2305843009213688668)) (cW .and .u64 (cr .u64 (dP .u64 (nth tb tv (Int.toNat i))) 6) 1)) 2305843009213688668)) (cW .and .u64 (cr .u64 (dP .u64 (nth tb tv (Int.toNat i))) 5) 1)) 2305843009213688668)) (cW .and .u64 (cr .u64 (dP .u64 (nth tb tv (Int.toNat i))) 4) 1)) 2305843009213688668)) (cW .and .u64 (cr .u64 (dP .u64 (nth tb tv (Int.toNat i))) 3) 1)) 2305843009213688668)) (cW .and .u64 (cr .u64 (dP .u64 (nth tb tv (Int.toNat i))) 2) 1)) 2305843009213688668)) (cW .and .u64 (cr .u64 (dP .u64 (nth tb tv (Int.toNat i))) 1) 1)) 2305843009213688668)) (cW .and .u64 (cr .u64 (dP .u64 (nth tb tv (Int.toNat i))) 0) 1)) 2305843009213688668),(bt .i64 i 1)))) none) none) none) none) none) none) none) none) (
   dI.L0.go kx n):=by kernel_rfl
theorem dI.eq{R:Type}(h)(k:K1 R):dI.A h k=
 av (dI.L0.call (h,0,0)) λx1=>
 k (dI.out (bt .u64 x1 1)):=by kernel_rfl
theorem uM{c:Int}(hc:CJ c)(k:Nat)(hk:k<=7):cW .and .u64 (cr .u64 (dP .u64 c) (k:Int)) 1=c / 2^k%2:=by
 obtain⟨h1,h2⟩:=hc
 have e:dP .u64 c=c:=by rw[tg];omega
 have p:(0:Int) < 2^k:=qe (by omega)
 have q0:0<=c / 2^k:=fH h1 (by omega)
 have q1:c / 2^k<=c:=Int.ediv_le_self _ h1
 rw[e,pY k (by rfl) (by omega),Q8 q0 (by omega)]
theorem Lg:∀c:Fin 256,(c.val:Int) / 2^7%2*128+(c.val:Int) / 2^6%2*64+(c.val:Int) / 2^5%2*32+(c.val:Int) / 2^4%2*16+(c.val:Int) / 2^3%2*8+(c.val:Int) / 2^2%2*4+(c.val:Int) / 2^1%2*2+(c.val:Int) / 2^0%2=(c.val:Int):=by decide+kernel
theorem Lh{c:Int}(hc:CJ c):c / 2^7%2*128+c / 2^6%2*64+c / 2^5%2*32+c / 2^4%2*16+c / 2^3%2*8+c / 2^2%2*4+c / 2^1%2*2+c / 2^0%2=c:=by
 obtain⟨n,rfl⟩:∃n:Nat,c=n:=⟨c.toNat,by have:=hc.1;omega⟩
 exact Lg ⟨n,by have:=hc.2;omega⟩
theorem JN{c:Int}(hc:CJ c):∃d7 d6 d5 d4 d3 d2 d1 d0:Int,(0<=d7/\d7 < 2)/\(0<=d6/\d6 < 2)/\(0<=d5/\d5 < 2)/\(0<=d4/\d4 < 2)/\(0<=d3/\d3 < 2)/\(0<=d2/\d2 < 2)/\(0<=d1/\d1 < 2)/\(0<=d0/\d0 < 2)/\cW .and .u64 (cr .u64 (dP .u64 c) 7) 1=d7/\cW .and .u64 (cr .u64 (dP .u64 c) 6) 1=d6/\cW .and .u64 (cr .u64 (dP .u64 c) 5) 1=d5/\cW .and .u64 (cr .u64 (dP .u64 c) 4) 1=d4/\cW .and .u64 (cr .u64 (dP .u64 c) 3) 1=d3/\cW .and .u64 (cr .u64 (dP .u64 c) 2) 1=d2/\cW .and .u64 (cr .u64 (dP .u64 c) 1) 1=d1/\cW .and .u64 (cr .u64 (dP .u64 c) 0) 1=d0/\d7*128+d6*64+d5*32+d4*16+d3*8+d2*4+d1*2+d0=c:=by
 have z:∀x:Int,0<=x%2/\x%2 < 2:=λx=>by omega
 exact⟨c / 2^7%2,c / 2^6%2,c / 2^5%2,c / 2^4%2,c / 2^3%2,c / 2^2%2,c / 2^1%2,c / 2^0%2,z _,z _,z _,z _,z _,z _,z _,z _,uM hc 7 (by omega),uM hc 6 (by omega),uM hc 5 (by omega),uM hc 4 (by omega),uM hc 3 (by omega),uM hc 2 (by omega),uM hc 1 (by omega),uM hc 0 (by omega),Lh hc⟩
theorem uN{n b:Int}(hn:D7.b n)(hb:0<=b/\b < 2):gv (bt .u64 (eR .u64 2 n) b) 2305843009213688668=(2*n+b)%2305843009213688668/\D7.b ((2*n+b)%2305843009213688668):=by
 obtain⟨h1,h2⟩:=hn
 have e:bt .u64 (eR .u64 2 n) b=2*n+b:=by rw[nH,iJ];omega
 rw[e,iy (by omega)]
 exact⟨rfl,by omega,by omega⟩
theorem HK(n c d7 d6 d5 d4 d3 d2 d1 d0:Int)(M:Int)(h:d7*128+d6*64+d5*32+d4*16+d3*8+d2*4+d1*2+d0=c):
  (2*((2*((2*((2*((2*((2*((2*((2*n+d7)%M)+d6)%M)+d5)%M)+d4)%M)+d3)%M)+d2)%M)+d1)%M)+d0)%M=(n*256+c)%M:=by
 have l:∀x b:Int,(2*(x%M)+b)%M=(2*x+b)%M:=λx b=>by
  rw[ka,kf,kc _ (Int.dvd_refl M),<-kf,<-ka]
 simp only[l]
 have e:2*(2*(2*(2*(2*(2*(2*(2*n+d7)+d6)+d5)+d4)+d3)+d2)+d1)+d0=n*256+c:=by omega
 rw[e]
theorem dI.L0.ok:(dI.lE 0 dI.L0):=by
 refine(dI.mr 0 dI.L0) (λ(h,n,i)=>32 - i.toNat) ?_
 rintro⟨h,n,i⟩ ⟨hn,hl,hb,k,hk,rfl⟩
 have hn:D7.b n:=hn
 have hl:h.length=32:=hl
 have hb:Bytes h:=hb
 by_cases jt:k < 32
 ·left
  have hx:CJ (h[k]'(by omega)):=hb _ (bw _)
  have n1:nth (.int .u8) h k=h[k]'(by omega):=dg (t:= .int .u8) (by omega)
  refine⟨(h,(n*256+h[k]'(by omega))%2305843009213688668,((k+1:Nat):Int)),⟨⟨by omega,by omega⟩,hl,hb,k+1,by omega,rfl⟩,by simp only[aa];omega,?_,λkn kx=> ?_⟩
  ·simp only[bE,dI.L0.F,aa]
   rw[aq (by omega:k < h.length)]
   rfl
  ·rw[dI.L0.step]
   generalize hc:h[k]'(by omega)=c at hx n1
   obtain⟨d7,d6,d5,d4,d3,d2,d1,d0,z7,z6,z5,z4,z3,z2,z1,z0,b7,b6,b5,b4,b3,b2,b1,b0,cE⟩:=JN hx
   obtain⟨f7,g7⟩:=uN hn z7
   obtain⟨f6,g6⟩:=uN g7 z6
   obtain⟨f5,g5⟩:=uN g6 z5
   obtain⟨f4,g4⟩:=uN g5 z4
   obtain⟨f3,g3⟩:=uN g4 z3
   obtain⟨f2,g2⟩:=uN g3 z2
   obtain⟨f1,g1⟩:=uN g2 z1
   obtain⟨f0,g0⟩:=uN g1 z0
   have e8:=HK n c _ _ _ _ _ _ _ _ 2305843009213688668 cE
   have hi:ik (k:Int) 32=true:=bh (by omega)
   have NC:eY (k:Int) 32=true:=bp (by omega) (by omega)
   have ha:bt .i64 (k:Int) 1=((k+1:Nat):Int):=by rw[eC (by omega) (by omega)];omega
   simp only[hi,NC,ha,ae,aa,n1,b7,b6,b5,b4,b3,b2,b1,b0,f7,f6,f5,f4,f3,f2,f1,f0,e8]
 ·right
  obtain rfl:k=32:=by omega
  intro R kn kx
  rw[dI.L0.step]
  simp(disch:=omega) only[↓S1,↓if_pos,↓if_neg,if_pos,if_neg,if_true,if_false,S2,bE,dI.L0.F]
  rw[eu (by omega)]
  rfl
theorem dI.ok:dI.Ok:=by
 rintro h ⟨hl,hb⟩
 have e:=Bf h 0 ⟨by omega,by omega⟩
 have h1:=e.1
 have h2:=e.2
 rw[dI.eq,dI.L0.run (d:=(h,0,0)) ⟨⟨by omega,by omega⟩,hl,hb,0,by omega,rfl⟩]
 simp only[ab,bE,dI.L0.F,bE,dI.F,uZ,bH,aI]
 revert h1 h2
 generalize h.foldl (λn b=>(n*256+b)%2305843009213688668) 0=m
 intro h1 h2
 have e:bt .u64 m 1=m+1:=by rw[iJ];omega
 rw[e]
theorem dI.run:dI.RS:=rE [.d tB] dI
def dI.sg:=dI.fS dI.ok 2 ⟨.hZ dI.L0.ok,⟨.none (by kernel_rfl),trivial⟩⟩
abbrev gr.D:=Int
abbrev gr.Y:=Bs
def gr.aU:gr.D->Prop:=λn=>je n
def gr.F:gr.D->gr.Y:=λn=>lO n
def gr:Fs Tryz.prog gr.aU bE gr.F:=fK 284 Tryz.f284 (λp=>([.d tu p],[])) (λx=>⟨.d tB x,[],[]⟩) [some tu] [iQ.sg] {res:=[some tB]}
theorem gr.eq{R:Type}(p)(k:K1 R):gr.A p k=
 av (iQ.call p) λx1=>
 aJ (decide (0=0/\(0+x1.1)<=(List.length x1.2))) (
 k (gr.out (cut x1.2 0 x1.1))) none:=by kernel_rfl
theorem gr.ok:gr.Ok:=by
 intro n hn
 rw[gr.eq,iQ.run (d:=n) hn]
 simp only[ab,bE,iQ.F,cF,aO,ay,and_self,decide_true,ae]
 rw[fi (cF _)]
 rfl
theorem gr.run:gr.RS:=rE [.d tu] gr
def gr.sg:=gr.fS gr.ok
abbrev gQ.D:=Int×Int×Bs
abbrev gQ.Y:=Int
def gQ.aU:gQ.D->Prop:=λ(r,p,m)=>je r/\je p/\Sm m
def gQ.F:gQ.D->gQ.Y:=λ(r,p,m)=>tz r p m
def gQ:Fs Tryz.prog gQ.aU bE gQ.F:=fK 269 Tryz.f269 (λ(r,p,m)=>([.d tu r,.d tu p,.d tH m],[])) (λx=>⟨.d tu x,[],[]⟩) [some tu,some tu,some tH] [gr.sg,fO.sg,dI.sg]
theorem gQ.eq{R:Type}(r p m)(k:K1 R):gQ.A (r,p,m) k=
 av (gr.call r) λx1=>
 av (gr.call p) λx2=>
 av (fO.call ((⟨#[115,105,103]⟩:ByteArray),[x1,x2,(cut m 0 32)])) λx3=>
 av (dI.call x3) λx4=>
 k (gQ.out x4):=by kernel_rfl
theorem gQ.ok:gQ.Ok:=by
 rintro⟨r,p,m⟩ ⟨hr,hp,hm⟩
 have hm:Sm m:=hm
 have TY:fO.aU ((⟨#[115,105,103]⟩:ByteArray),[lO r,lO p,m]):=G8 (by decide) (by rw[cF];omega) (by rw[cF];omega) (by rw[hm.1];omega)
 rw[gQ.eq,gr.run (d:=r) hr,gr.run (d:=p) hp]
 simp only[ab,bE,gr.F]
 rw[fi hm.1,fO.run TY]
 simp only[ab,bE,fO.F]
 rw[dI.run (d:=tag (bC (⟨#[115,105,103]⟩:ByteArray)) [lO r,lO p,m]) (Cm _ _)]
 rfl
theorem gQ.run:gQ.RS:=rE [.d tu,.d tu,.d tB] gQ
def gQ.sg:=gQ.fS gQ.ok
abbrev aK.L0.D:=sN×Int
def aK.L0.st:aK.L0.D->AS:=λ(iI,i)=>⟨([.undef,.ed kK iI,.undef,.d ti i]++bj 50 []),[],(List.replicate 54 [])⟩
abbrev aK.L0.Y0:=Unit
abbrev aK.L0.X0:=Unit
def aK.L0.dE:aK.L0.X0->Exit×AS:=λx=>(.ret,⟨([.undef,.undef,.d .bool false]++bj 51 []),[],(List.replicate 54 [])⟩)
abbrev aK.L0.Y1:=Unit
abbrev aK.L0.X1:=sN
def aK.L0.fQ:aK.L0.X1->Exit×AS:=λx=>(.exit 0,⟨([.undef,.ed kK x]++bj 52 []),[],(List.replicate 54 [])⟩)
abbrev aK.L0.X:=(aK.L0.X0)⊕(aK.L0.X1)
abbrev aK.L0.Y:=(aK.L0.Y0)⊕(aK.L0.Y1)
def aK.L0.out:aK.L0.X->Out (Exit×AS):=λx=> .br x.isLeft (.get x.getLeft? λa=> .ok (aK.L0.dE a)) (.get x.getRight? λb=> .ok (aK.L0.fQ b))
def aK.L0.add:aK.L0.D->aK.L0.Y->aK.L0.X:=λ(iI,i) y=>match y with | .inl y=> .inl y | .inr z=> .inr (iI)
abbrev aK.D:=sN
abbrev aK.Y:=Bool
def aK.L0.aU:aK.L0.D->Prop:=λ(b,i)=>Qz b/\b.1.length<=1000000000/\∃k:Nat,k<=b.1.length/\i=k
def aK.L0.F:aK.L0.D->aK.L0.Y:=λ(b,i)=>if(b.1.drop i.toNat).all tw then .inr () else .inl ()
def aK.aU:aK.D->Prop:=λb=>Qz b
def aK.F:aK.D->aK.Y:=λb=>qM b
def aK.L0.E:=eO.hZ aK.L0.st aK.L0.aU aK.L0.add aK.L0.F aK.L0.out
def aK.L0.call:aK.L0.D->Option aK.L0.X:=jH aK.L0.E aK.L0.st
def aK:Fs Tryz.prog aK.aU bE aK.F:=fK 159 Tryz.f159 (λb=>([.d kK b],[])) (λx=>⟨.d .bool x,[],[]⟩) [some kK] [eV.sg] {loops:=oM [(4,{bm:=[1,3]})],outs:=oL [(4,{bm:=[1]},{bm:=[2]})],iA:=pq [(4,aK.L0.E)]}
def aK.L0.R:= @gL Tryz.prog (lN aK.G) aK.an 0 Tryz.f159 0 _ aK.L0.st
abbrev aK.L0.Ok:=nh Tryz.prog (lN aK.G) aK.an 0 Tryz.f159 0 aK.L0.st aK.L0.aU aK.L0.add aK.L0.F aK.L0.out
theorem aK.L0.run:mq aK.L0.call aK.L0.aU aK.L0.add aK.L0.F:=oo (oa [.d kK,.d ti] λ_=>by kernel_rfl)
theorem aK.L0.cM:nM @aK.L0.R aK.L0.st aK.L0.aU aK.L0.add aK.L0.F aK.L0.out aK.L0.Ok:=oF
theorem aK.L0.step{R:Type}(iI:sN)(i:Int)(kn:AS->Option R)(kx:Exit->AS->Option R):aK.L0.R (iI,i) kn kx=
  aJ ((ik i (((List.length iI.1):Nat):Int))) (
   aJ (eY i (((List.length iI.1):Nat):Int)) (
   av (eV.call (nth tu iI.1 (Int.toNat i))) λx1=>
   aJ ((!x1)) (
    kx (aK.L0.dE ()).1 (aK.L0.dE ()).2) (
    kn (aK.L0.st (iI,(bt .i64 i (1:Int)))))) none) (
   kx (aK.L0.fQ iI).1 (aK.L0.fQ iI).2):=by kernel_rfl
theorem aK.eq{R:Type}(b)(k:K1 R):aK.A b k=
  aJ ((nc (b.1.length:Int) 12)) (
   k (aK.out false)) (
   aJ ((ik b.2.1 0)) (
    k (aK.out false)) (
    aJ ((nc b.2.1 1048576)) (
     k (aK.out false)) (
     aJ ((ik b.2.2.1 0)) (
      k (aK.out false)) (
      aJ ((nc b.2.2.1 1048576)) (
       k (aK.out false)) (
       av (aK.L0.call (b,0)) λx2=>
       aJ (x2.isLeft) (
        av (x2.getLeft?) λa3=>
        k (aK.out false)) (
        av (x2.getRight?) λb4=>
        av (eV.call b4.2.2.2.1) λx5=>
        aJ ((wy b4.2.2.2.1 0)) (
         k (aK.out true)) (
         k (aK.out x5)))))))):=by kernel_rfl
theorem aK.L0.ok:aK.L0.Ok:=by
 refine aK.L0.cM (λ(b,i)=>b.1.length - i.toNat) ?_
 rintro⟨b,i⟩ ⟨hb,hl,k,hk,rfl⟩
 have hl:b.1.length<=1000000000:=hl
 have hk:k<=b.1.length:=hk
 by_cases h:k < b.1.length
 ·have hx:=hb.1 _ (bw h)
  have n1:nth (.int .u64) b.1 k=b.1[k]:=dg (t:= .int .u64) h
  have hd:(b.1.drop k).all tw=(tw b.1[k] && (b.1.drop (k+1)).all tw):=by rw[aq h,ff]
  have step:∀ {R:Type} (kn:AS->Option R) (kx:Exit->AS->Option R),aK.L0.R (b,(k:Int)) kn kx=aJ (tw b.1[k]) (kn (aK.L0.st (b,((k+1:Nat):Int)))) (kx (aK.L0.dE ()).1 (aK.L0.dE ()).2):=by
   intro R kn kx
   rw[aK.L0.step,bh (by omega),bp (by omega) (by omega),aa,n1,N.pk (by omega),eV.run (d:=b.1[k]) hx]
   simp only[ae,ab,bE,eV.F]
   cases tw b.1[k] <;> rfl
  cases hp:tw b.1[k]
  ·right
   refine⟨aK.L0.dE (),?_,λkn kx=> ?_⟩
   ·simp only[aK.L0.add,aK.L0.F,aa,hd,hp,dF,bJ,if_false]
    rfl
   ·rw[step,hp,ah]
  ·left
   refine⟨(b,((k+1:Nat):Int)),⟨hb,hl,k+1,by omega,rfl⟩,by simp only[aa];omega,?_,λkn kx=> ?_⟩
   ·simp only[aK.L0.add,aK.L0.F,aa,hd,hp,bO]
   ·rw[step,hp,ae]
 ·right
  obtain rfl:k=b.1.length:=by omega
  refine⟨aK.L0.fQ b,?_,λkn kx=> ?_⟩
  ·simp only[aK.L0.add,aK.L0.F,aa,aQ]
   rfl
  ·rw[aK.L0.step]
   simp(disch:=omega) only[↓S1,↓if_pos,↓if_neg,if_pos,if_neg,if_true,if_false,S2]
theorem aK.ok:aK.Ok:=by
 rintro⟨ks,af,dl,sc,u⟩ hb
 have hb:Qz (ks,af,dl,sc,u):=hb
 have h2:je sc:=hb.2
 rw[aK.eq]
 simp only[bE,aK.F,qM,y7]
 by_cases hk:ks.length<=12
 ·rw[cj (by omega),aP hk,aK.L0.run (d:=((ks,af,dl,sc,u),0)) ⟨hb,by show ks.length<=1000000000;omega,0,by omega,rfl⟩]
  simp only[ah,bO,ab,aK.L0.add,aK.L0.F,bH,aI]
  by_cases a1:af < 0
  ·rw[bh a1,bf (p:=0<=af/\af<=1048576) (by omega)]
   cases ks.all tw <;> rfl
  by_cases a2:af > 1048576
  ·rw[aR a1,cX a2,bf (p:=0<=af/\af<=1048576) (by omega)]
   cases ks.all tw <;> rfl
  by_cases a3:dl < 0
  ·rw[aR a1,cj a2,bh a3,bf (p:=0<=dl/\dl<=1048576) (by omega)]
   cases ks.all tw <;> cases(decide (0<=af/\af<=1048576)) <;> rfl
  by_cases a4:dl > 1048576
  ·rw[aR a1,cj a2,aR a3,cX a4,bf (p:=0<=dl/\dl<=1048576) (by omega)]
   cases ks.all tw <;> cases(decide (0<=af/\af<=1048576)) <;> rfl
  rw[aR a1,cj a2,aR a3,cj a4,aP (p:=0<=dl/\dl<=1048576) (by omega),aP (p:=0<=af/\af<=1048576) (by omega)]
  cases QK:ks.all tw
  ·simp only[QK,bJ,if_false];rfl
  ·simp only[QK,if_true]
   show av (eV.call sc) _=_
   rw[eV.run (d:=sc) h2]
   simp only[ab,bE,eV.F]
   by_cases hs:sc=0
   ·rw[aP hs]
    show aJ (wy sc 0) _ _=_
    rw[iw hs];rfl
   ·rw[bf hs]
    show aJ (wy sc 0) _ _=_
    rw[gl hs];rfl
 ·rw[cX (by omega),bf hk];rfl
theorem aK.run:aK.RS:=rE [.d kK] aK
def aK.sg:=aK.fS aK.ok 1 ⟨.hZ aK.L0.ok,trivial⟩
abbrev aM.L0.D:=Lk×Int
def aM.L0.st:aM.L0.D->AS:=λ(mw,i)=>⟨([.undef,.ed mK mw,.undef,.d ti i]++bj 24 []),[],(List.replicate 28 [])⟩
abbrev aM.L0.Y0:=Unit
abbrev aM.L0.X0:=Unit
def aM.L0.dE:aM.L0.X0->Exit×AS:=λx=>(.ret,⟨([.undef,.undef,.d .bool false]++bj 25 []),[],(List.replicate 28 [])⟩)
abbrev aM.L0.Y1:=Unit
abbrev aM.L0.X1:=Unit
def aM.L0.fQ:aM.L0.X1->Exit×AS:=λx=>(.exit 0,⟨(bj 28 []),[],(List.replicate 28 [])⟩)
abbrev aM.L0.X:=(aM.L0.X0)⊕(aM.L0.X1)
abbrev aM.L0.Y:=(aM.L0.Y0)⊕(aM.L0.Y1)
def aM.L0.out:aM.L0.X->Out (Exit×AS):=λx=> .br x.isLeft (.get x.getLeft? λa=> .ok (aM.L0.dE a)) (.get x.getRight? λb=> .ok (aM.L0.fQ b))
def aM.L0.add:aM.L0.D->aM.L0.Y->aM.L0.X:=λ(mw,i) y=>match y with | .inl y=> .inl y | .inr z=> .inr (z)
abbrev aM.D:=Lk
abbrev aM.Y:=Bool
def aM.L0.aU:aM.L0.D->Prop:=λ(l,i)=>Hh l/\l.1.length<=1000000000/\∃k:Nat,k<=l.1.length/\i=k
def aM.L0.F:aM.L0.D->aM.L0.Y:=λ(l,i)=>if(l.1.drop i.toNat).all qM then .inr () else .inl ()
def aM.aU:aM.D->Prop:=λl=>Hh l
def aM.F:aM.D->aM.Y:=λl=>nC l
def aM.L0.E:=eO.hZ aM.L0.st aM.L0.aU aM.L0.add aM.L0.F aM.L0.out
def aM.L0.call:aM.L0.D->Option aM.L0.X:=jH aM.L0.E aM.L0.st
def aM:Fs Tryz.prog aM.aU bE aM.F:=fK 85 Tryz.f85 (λl=>([.d mK l],[])) (λx=>⟨.d .bool x,[],[]⟩) [some mK] [aK.sg] {loops:=oM [(4,{bm:=[1,3]})],outs:=oL [(4,{},{bm:=[2]})],iA:=pq [(4,aM.L0.E)]}
def aM.L0.R:= @gL Tryz.prog (lN aM.G) aM.an 0 Tryz.f85 0 _ aM.L0.st
abbrev aM.L0.Ok:=nh Tryz.prog (lN aM.G) aM.an 0 Tryz.f85 0 aM.L0.st aM.L0.aU aM.L0.add aM.L0.F aM.L0.out
theorem aM.L0.run:mq aM.L0.call aM.L0.aU aM.L0.add aM.L0.F:=oo (oa [.d mK,.d ti] λ_=>by kernel_rfl)
theorem aM.L0.cM:nM @aM.L0.R aM.L0.st aM.L0.aU aM.L0.add aM.L0.F aM.L0.out aM.L0.Ok:=oF
theorem aM.L0.step{R:Type}(mw:Lk)(i:Int)(kn:AS->Option R)(kx:Exit->AS->Option R):aM.L0.R (mw,i) kn kx=
  aJ ((ik i (((List.length mw.1):Nat):Int))) (
   aJ (eY i (((List.length mw.1):Nat):Int)) (
   av (aK.call (nth kK mw.1 (Int.toNat i))) λx1=>
   aJ ((!x1)) (
    kx (aM.L0.dE ()).1 (aM.L0.dE ()).2) (
    kn (aM.L0.st (mw,(bt .i64 i (1:Int)))))) none) (
   kx (aM.L0.fQ ()).1 (aM.L0.fQ ()).2):=by kernel_rfl
theorem aM.eq{R:Type}(l)(k:K1 R):aM.A l k=
  aJ ((ik (l.1.length:Int) 1)) (
   k (aM.out false)) (
   aJ ((nc (l.1.length:Int) 4)) (
    k (aM.out false)) (
    av (aM.L0.call (l,0)) λx2=>
    aJ (x2.isLeft) (
     av (x2.getLeft?) λa3=>
     k (aM.out false)) (
     av (x2.getRight?) λb4=>
     k (aM.out true)))):=by kernel_rfl
theorem aM.L0.ok:aM.L0.Ok:=by
 refine aM.L0.cM (λ(l,i)=>l.1.length - i.toNat) ?_
 rintro⟨l,i⟩ ⟨hb,hl,k,hk,rfl⟩
 have hl:l.1.length<=1000000000:=hl
 have hk:k<=l.1.length:=hk
 by_cases h:k < l.1.length
 ·have hx:=hb _ (bw h)
  have n1:nth (.pair (.slice (.int .u64)) (.pair (.int .i64) (.pair (.int .i64) (.pair (.int .u64) .unit)))) l.1 k=l.1[k]:=dg (t:=(.pair (.slice (.int .u64)) (.pair (.int .i64) (.pair (.int .i64) (.pair (.int .u64) .unit))))) h
  have hd:(l.1.drop k).all qM=(qM l.1[k] && (l.1.drop (k+1)).all qM):=by rw[aq h,ff]
  have step:∀ {R:Type} (kn:AS->Option R) (kx:Exit->AS->Option R),aM.L0.R (l,(k:Int)) kn kx=aJ (qM l.1[k]) (kn (aM.L0.st (l,((k+1:Nat):Int)))) (kx (aM.L0.dE ()).1 (aM.L0.dE ()).2):=by
   intro R kn kx
   rw[aM.L0.step,bh (by omega),bp (by omega) (by omega),aa,n1,N.pk (by omega),aK.run (d:=l.1[k]) hx]
   simp only[ae,ab,bE,aK.F]
   cases qM l.1[k] <;> rfl
  cases hp:qM l.1[k]
  ·right
   refine⟨aM.L0.dE (),?_,λkn kx=> ?_⟩
   ·simp only[aM.L0.add,aM.L0.F,aa,hd,hp,dF,bJ,if_false]
    rfl
   ·rw[step,hp,ah]
  ·left
   refine⟨(l,((k+1:Nat):Int)),⟨hb,hl,k+1,by omega,rfl⟩,by simp only[aa];omega,?_,λkn kx=> ?_⟩
   ·simp only[aM.L0.add,aM.L0.F,aa,hd,hp,bO]
   ·rw[step,hp,ae]
 ·right
  obtain rfl:k=l.1.length:=by omega
  refine⟨aM.L0.fQ (),?_,λkn kx=> ?_⟩
  ·simp only[aM.L0.add,aM.L0.F,aa,aQ]
   rfl
  ·rw[aM.L0.step]
   simp(disch:=omega) only[↓S1,↓if_pos,↓if_neg,if_pos,if_neg,if_true,if_false,S2]
theorem aM.ok:aM.Ok:=by
 intro l hl
 have hl:Hh l:=hl
 rw[aM.eq]
 simp only[bE,aM.F,nC]
 by_cases h0:l.1.length < 1
 ·rw[bh (by omega),bf (p:=0 < l.1.length/\l.1.length<=4) (by omega),my];rfl
 by_cases h4:l.1.length > 4
 ·rw[aR (by omega),cX (by omega),bf (p:=0 < l.1.length/\l.1.length<=4) (by omega),my];rfl
 rw[aR (by omega),cj (by omega),aP (p:=0 < l.1.length/\l.1.length<=4) (by omega),l6,aM.L0.run (d:=(l,0)) ⟨hl,by show l.1.length<=1000000000;omega,0,by omega,rfl⟩]
 simp only[ah,ab,aM.L0.add,aM.L0.F,bH,aI]
 cases l.1.all qM <;> rfl
theorem aM.run:aM.RS:=rE [.d mK] aM
def aM.sg:=aM.fS aM.ok 1 ⟨.hZ aM.L0.ok,trivial⟩
abbrev bn.L0.D:=Lk×Bs×Int
abbrev bn.L0.Y:=Bs
abbrev bn.L1.D:=Lk×Bs×Int×Int×sN
abbrev bn.L1.Y:=Bs
abbrev bn.L1.X:=(Lk×Int×sN)×(Bs)
def bn.L1.add:bn.L1.D->bn.L1.Y->bn.L1.X:=λ(DB,pI,fY,kv,n5) y=>((DB,fY,n5),y)
abbrev bn.D:=Lk
abbrev bn.Y:=Bs
def bn.L1.aU:bn.L1.D->Prop:=λ(l,o,i,j,b)=>b.1.length<=12/\∃k:Nat,k<=b.1.length/\j=k/\o.length+8*b.1.length<=80000000+8*k
def bn.L1.F:bn.L1.D->bn.L1.Y:=λ(l,o,i,j,b)=>lU o (b.1.drop j.toNat)
def bn.L0.aU:bn.L0.D->Prop:=λ(l,o,i)=>(∀b∈l.1,Q2 b)/\l.1.length<=4/\∃k:Nat,k<=l.1.length/\i=k/\o.length<=1000+200*k
def bn.L0.F:bn.L0.D->bn.L0.Y:=λ(l,o,i)=>(l.1.drop i.toNat).foldl Nh o
def bn.aU:bn.D->Prop:=λl=>Hh l
def bn.F:bn.D->bn.Y:=λl=>Kj l
def bn.L0:Ls bn.L0.aU bE bn.L0.F:=pG (λ(mw,outv,i)=>⟨([.undef,.ed mK mw,.undef,.d tB outv,.d ti i]++bj 53 []),[],(List.replicate 58 [])⟩) (λx=>(.exit 0,⟨([.undef,.undef,.undef,.d tB x]++bj 54 []),[],(List.replicate 58 [])⟩))
def bn.L1:Ls bn.L1.aU bn.L1.add bn.L1.F:=pG (λ(DB,pI,fY,kv,n5)=>⟨([.undef,.ed mK DB,.undef,.d tB pI,.d ti fY,.ptr (.new 5 0) 0 [] 0,.d ti kv]++bj 51 []),[],(cg 5 ([[.obj 0 false (.d kK n5)]]++cg 52 []))⟩) (λx=>(.exit 2,⟨([.undef,.ed mK x.1.1,.undef,.d tB x.2,.d ti x.1.2.1,.ptr (.new 5 0) 0 [] 0]++bj 52 []),[],(cg 5 ([[.obj 0 false (.d kK x.1.2.2)]]++cg 52 []))⟩))
def bn:Fs Tryz.prog bn.aU bE bn.F:=fK 223 Tryz.f223 (λl=>([.d mK l],[])) (λx=>⟨.d tB x,[],[]⟩) [some mK] [aM.sg,fJ.sg,dM.sg] {loops:=oM [(5,{bm:=[1,3,4]}),(10,{bm:=[1,3,4,5,6],sites:=[5]})],outs:=oL [(5,{bm:=[3]},{bm:=[2]}),(10,{bm:=[1,3,4,5],sites:=[5]},{bm:=[2]})],iA:=pq [(5,bn.L0.E),(10,bn.L1.E)],res:=[some tB]}
theorem bn.L0.run:bn.L0.RS:=rL [.d mK,.d tB,.d ti] bn.L0
theorem bn.L0.step{R:Type}(mw outv i)(kn:K2 R)(kx:K3 R):bn.R 0 bn.L0 (mw,outv,i) kn kx=
  aJ ((ik i (mw.1.length:Int))) (
   aJ (eY i (mw.1.length:Int)) (
   av (fJ.call (outv,(((List.length (nth kK mw.1 (Int.toNat i)).1):Nat):Int))) λx1=>
   av (bn.L1.call (mw,x1,i,0,(nth kK mw.1 (Int.toNat i)))) λx2=>
   av (fJ.call (x2.2,x2.1.2.2.2.1)) λx3=>
   av (fJ.call (x3,x2.1.2.2.2.2.1)) λx4=>
   av (dM.call (x4,x2.1.2.2.2.2.2.1)) λx5=>
   kn (bn.L0.st (x2.1.1,x5,(bt .i64 x2.1.2.1 1)))) none) (
   bn.L0.go kx outv):=by kernel_rfl
theorem bn.L1.run:bn.L1.RS:=rL [.d mK,.d tB,.d ti,.d ti,.d kK] bn.L1
theorem bn.L1.step{R:Type}(DB pI fY kv n5)(kn:K2 R)(kx:K3 R):bn.R 1 bn.L1 (DB,pI,fY,kv,n5) kn kx=
  aJ ((ik kv (n5.1.length:Int))) (
   aJ (eY kv (n5.1.length:Int)) (
   av (dM.call (pI,(nth tu n5.1 (Int.toNat kv)))) λx1=>
   kn (bn.L1.st (DB,x1,fY,(bt .i64 kv 1),n5))) none) (
   bn.L1.go kx ((DB,fY,n5),pI)):=by kernel_rfl
theorem bn.eq{R:Type}(l)(k:K1 R):bn.A l k=
  av (aM.call l) λx1=>
  aJ ((!x1)) (
   k (bn.out ([]:List Int))) (
   av (fJ.call (([]:List Int),(l.1.length:Int))) λx2=>
   av (bn.L0.call (l,x2,0)) λx9=>
   k (bn.out x9)):=by kernel_rfl
theorem bn.L1.ok:(bn.lE 1 bn.L1):=by
 refine(bn.mr 1 bn.L1) (λ(l,o,i,j,b)=>b.1.length - j.toNat) ?_
 rintro⟨l,o,i,j,b⟩ ⟨J1,k,hk,rfl,hl⟩
 have J1:b.1.length<=12:=J1
 have hk:k<=b.1.length:=hk
 have hl:o.length+8*b.1.length<=80000000+8*k:=hl
 by_cases h:k < b.1.length
 ·left
  have n1:nth (.int .u64) b.1 k=b.1[k]:=dg (t:= .int .u64) h
  refine⟨(l,o++lO b.1[k],i,((k+1:Nat):Int),b),⟨J1,k+1,by omega,rfl,by rw[aj,cF];omega⟩,by simp only[aa];omega,?_,λkn kx=> ?_⟩
  ·simp only[bn.L1.add,bn.L1.F,aa]
   rw[BB _ _ _ h]
  ·rw[bn.L1.step,bh (by omega),bp (by omega) (by omega),aa,n1,dM.run (d:=(o,b.1[k])) (by show o.length<=90000000;omega)]
   simp only[ae,ab,bE,dM.F]
   rw[N.pk (by omega)]
 ·right
  obtain rfl:k=b.1.length:=by omega
  intro R kn kx
  rw[bn.L1.step,aR (by omega),ah]
  simp only[bn.L1.add,bn.L1.F,aa,aQ]
  rfl
theorem bn.L0.ok:(bn.lE 0 bn.L0):=by
 refine(bn.mr 0 bn.L0) (λ(l,o,i)=>l.1.length - i.toNat) ?_
 rintro⟨l,o,i⟩ ⟨hb,h4,k,hk,rfl,hl⟩
 have h4:l.1.length<=4:=h4
 have hk:k<=l.1.length:=hk
 have hl:o.length<=1000+200*k:=hl
 by_cases h:k < l.1.length
 ·left
  have hx:=hb _ (bw h)
  have n1:nth (.pair (.slice (.int .u64)) (.pair (.int .i64) (.pair (.int .i64) (.pair (.int .u64) .unit)))) l.1 k=l.1[k]:=dg (t:=(.pair (.slice (.int .u64)) (.pair (.int .i64) (.pair (.int .i64) (.pair (.int .u64) .unit))))) h
  have e0:=Ei o l.1[k] hx.1
  refine⟨(l,Nh o l.1[k],((k+1:Nat):Int)),⟨hb,h4,k+1,by omega,rfl,by omega⟩,by simp only[aa];omega,?_,λkn kx=> ?_⟩
  ·simp only[bE,bn.L0.F,aa]
   rw[aq h]
   rfl
  ·rw[bn.L0.step,bh (by omega),bp (by omega) (by omega),aa,n1]
   obtain⟨⟨ks,af,dl,sc,u⟩,Rw⟩:∃b,l.1[k]=b:=⟨_,rfl⟩
   rw[Rw]at hx e0 ⊢
   obtain⟨J1,ha,hd⟩:=hx
   have J1:ks.length<=12:=J1
   have ha:af<=9223372036854775807:=ha
   have hd:dl<=9223372036854775807:=hd
   have l1:=fW o ks.length
   have l2:=vS ks (dY o ks.length)
   have l3:=fW (lU (dY o ks.length) ks) af
   have l4:=fW (dY (lU (dY o ks.length) ks) af) dl
   simp only[ae]
   rw[fJ.run (d:=(o,(ks.length:Int))) ⟨by show o.length<=90000000;omega,by show(ks.length:Int)<=9223372036854775807;omega⟩]
   simp only[ab,bE,fJ.F]
   rw[bn.L1.run (d:=(l,dY o ks.length,(k:Int),0,(ks,af,dl,sc,u))) ⟨J1,0,aV _,rfl,by show(dY o ks.length).length+8*ks.length<=_;omega⟩]
   simp only[ab,bn.L1.add,bn.L1.F,bH,aI]
   rw[fJ.run (d:=(lU (dY o ks.length) ks,af)) ⟨by show(lU (dY o ks.length) ks).length<=90000000;omega,ha⟩]
   simp only[ab,bE,fJ.F]
   rw[fJ.run (d:=(dY (lU (dY o ks.length) ks) af,dl)) ⟨by show(dY (lU (dY o ks.length) ks) af).length<=90000000;omega,hd⟩]
   simp only[ab,bE,fJ.F]
   rw[dM.run (d:=(dY (dY (lU (dY o ks.length) ks) af) dl,sc)) (by show(dY (dY (lU (dY o ks.length) ks) af) dl).length<=90000000;omega)]
   simp only[ab,bE,dM.F]
   rw[N.pk (by omega)]
   rfl
 ·right
  obtain rfl:k=l.1.length:=by omega
  intro R kn kx
  rw[bn.L0.step,aR (by omega),ah]
  simp only[bE,bn.L0.F,aa,aQ]
  rfl
theorem bn.ok:bn.Ok:=by
 intro l hl
 have hl:Hh l:=hl
 rw[bn.eq,aM.run (d:=l) hl]
 simp only[ab,bE,aM.F,bE,bn.F,Kj]
 cases nj:nC l
 ·rfl
 ·obtain⟨h1,h2,h3⟩:=Ib nj
  have l1:=fW [] l.1.length
  have l0:([]:List Int).length=0:=rfl
  simp only[cq,ah,if_true]
  rw[fJ.run (d:=([],(l.1.length:Int))) ⟨by show([]:List Int).length<=90000000;omega,by show(l.1.length:Int)<=9223372036854775807;omega⟩]
  simp only[ab,bE,fJ.F]
  rw[bn.L0.run (d:=(l,dY [] l.1.length,0)) ⟨h1,h3,0,aV _,rfl,by show(dY [] l.1.length).length<=_;omega⟩]
  rfl
theorem bn.run:bn.RS:=rE [.d mK] bn
def bn.sg:=bn.fS bn.ok 2 ⟨.hZ bn.L0.ok,⟨.hZ bn.L1.ok,trivial⟩⟩
abbrev dO.L0.D:=Bs×Nat×Int×(List Int)
abbrev dO.L0.Y:=Nat×(List Int)
abbrev dO.D:=Bs×Bs
abbrev dO.Y:=Bs
def dO.L0.aU:dO.L0.D->Prop:=λ(h,m,i,l)=>h.length=32/\m=l.length/\∃k:Nat,k<=32/\i=k/\l.length<=100000000+k
def dO.L0.F:dO.L0.D->dO.L0.Y:=λ(h,m,i,l)=>((l++h.drop i.toNat).length,l++h.drop i.toNat)
def dO.aU:dO.D->Prop:=λ(b,h)=>b.length<=90000000/\h.length=32
def dO.F:dO.D->dO.Y:=λ(b,h)=>b++h
def dO.L0:Ls dO.L0.aU bE dO.L0.F:=pG (λ(tv,outL,i,n7)=>⟨([.undef,.undef,.undef,.ed tH tv,.undef,.cP (.new 7 0) 0 [] 0 0 outL,.d ti i]++bj 14 []),[],(cg 7 ([[.obj 0 false (.vec 5 tb n7)]]++cg 13 []))⟩) (λx=>(.exit 0,⟨(bj 5 ([.cP (.new 7 0) 0 [] 0 0 x.1]++bj 15 [])),[],(cg 7 ([[.obj 0 false (.vec 5 tb x.2)]]++cg 13 []))⟩))
def dO:Fs Tryz.prog dO.aU bE dO.F:=fK 221 Tryz.f221 (λ(b,h)=>([.d tB b,.d tH h],[])) (λx=>⟨.d tB x,[],[]⟩) [some tB,some tH] [] {bU:=[7],loops:=oM [(3,{bm:=[3,5,6],sites:=[7],owns:=[⟨5,[],7,140⟩]})],outs:=oL [(3,{bm:=[5],sites:=[7]},{bm:=[4]})],iA:=pq [(3,dO.L0.E)],res:=[some tB]}
theorem dO.L0.run:dO.L0.RS:=rL [.d tH,.n,.d ti,.d tB] dO.L0
theorem dO.L0.step{R:Type}(tv outL i n7)(kn:K2 R)(kx:K3 R):dO.R 0 dO.L0 (tv,outL,i,n7) kn kx=
  aJ ((ik i 32)) (
   aJ (eY i 32) (
   aJ (decide (outL<=(List.length n7))) (
   aJ (dG (outL+1) 1) (
   kn (dO.L0.st (tv,(outL+1),(bt .i64 i 1),((List.take outL n7)++ [(nth tb tv (Int.toNat i))])))) none) none) none) (
   dO.L0.go kx (outL,n7)):=by kernel_rfl
theorem dO.eq{R:Type}(b h)(k:K1 R):dO.A (b,h) k=
 aJ (dG (0+(List.length b)) 1) (
 av (dO.L0.call (h,(0+(List.length b)),0,((List.take 0 (List.replicate 0 0))++b))) λx1=>
 aJ (decide (0=0/\(0+x1.1)<=(List.length x1.2))) (
 k (dO.out (cut x1.2 0 x1.1))) none) none:=by kernel_rfl
theorem dO.L0.ok:(dO.lE 0 dO.L0):=by
 refine(dO.mr 0 dO.L0) (λ(_,_,i,_)=>(32 - i).toNat) ?_
 rintro⟨h,m,i,l⟩ ⟨PE,rfl,k,hk,rfl,hl⟩
 have PE:h.length=32:=PE
 have hl:l.length<=100000000+k:=hl
 by_cases jt:k < 32
 ·left
  have n1:nth tb h k=h[k]:=dg (t:=tb) (by omega)
  have el:(l++ [h[k]]).length=l.length+1:=by rw[aj];rfl
  refine⟨(h,l.length+1,((k+1:Nat):Int),l++ [h[k]]),⟨PE,el.symm,k+1,by omega,rfl,by show(l++ [h[k]]).length<=_;omega⟩,by show(32 - ((k+1:Nat):Int)).toNat < (32 - (k:Int)).toNat;omega,?_,λkn kx=> ?_⟩
  ·simp only[bE,dO.L0.F,aa]
   rw[aq (show k < h.length by omega),bk,dy]
  ·rw[dO.L0.step,bh (by omega),ae,bp (by omega) (by omega),ae,aP (ay _),ae,dU (by omega) (by omega),ae,N.pk (by omega),aa,n1,bY]
 ·right
  obtain rfl:k=32:=by omega
  intro T kn kx
  rw[dO.L0.step,aR (by omega),ah]
  simp only[bE,dO.L0.F,aa]
  rw[eu (by omega),cH]
theorem dO.ok:dO.Ok:=by
 rintro⟨b,h⟩ ⟨hb,PE⟩
 have hb:b.length<=90000000:=hb
 have PE:h.length=32:=PE
 rw[dO.eq]
 simp only[aO,eH,aS]
 rw[dU (by omega) (by omega),ae,dO.L0.run (d:=(h,b.length,0,b)) ⟨PE,rfl,0,by omega,rfl,by omega⟩]
 simp only[ab,bE,dO.L0.F,bH,aI,ay,and_self,decide_true,ae,fi,bE,dO.F]
theorem dO.run:dO.RS:=rE [.d tB,.d tB] dO
def dO.sg:=dO.fS dO.ok 1 ⟨.hZ dO.L0.ok,trivial⟩
abbrev iV.D:=Bs×Int
abbrev iV.Y:=Nat×(List Int)
def iV.aU:iV.D->Prop:=λ(b,n)=>b.length<=90000000/\n<=9223372036854775807
def iV.F:iV.D->iV.Y:=λ(b,n)=>((dY b n).length,dY b n)
def iV:Fs Tryz.prog iV.aU bE iV.F:=fK 220 Tryz.f220 (λ(b,n)=>([.d tB b,.d ti n],[])) (λx=>⟨.cP (.new 0 0) 0 [] 0 0 x.1,[],[.obj 0 false (.vec 5 tb x.2)]⟩) [some tB,some ti] [di.sg] {bU:=[6],owns:=[⟨4,[],6,140⟩]}
theorem iV.eq{R:Type}(b n)(k:K1 R):iV.A (b,n) k=
  aJ (dG (0+(List.length b)) 1) (
  aJ ((qQ n 0)) (
   av (di.call n) λx1=>
   aJ (decide ((0+(List.length b))<=(List.length ((List.take 0 (List.replicate 0 0))++b)))) (
   aJ (dG ((0+(List.length b))+(List.length x1)) 1) (
   k (iV.out (((0+(List.length b))+(List.length x1)),((List.take (0+(List.length b)) ((List.take 0 (List.replicate 0 0))++b))++x1)))) none) none) (
   k (iV.out ((0+(List.length b)),((List.take 0 (List.replicate 0 0))++b))))) none:=by kernel_rfl
theorem iV.ok:iV.Ok:=by
 rintro⟨b,n⟩ ⟨hb,hn⟩
 have hb:b.length<=90000000:=hb
 have hn:n<=9223372036854775807:=hn
 rw[iV.eq]
 simp only[aO,eH,aS,bE,iV.F,dY,ay,decide_true,ae,bY]
 rw[dU (by omega) (by omega),ae]
 by_cases h:n>=0
 ·have hl:=sA n
  rw[eQ h,ae,if_neg (by omega),di.run (d:=n) ⟨h,hn,by have e:(128:Int)^(8+1)=9223372036854775808:=rfl;rw[e];show n < _;omega⟩]
  simp only[ab,di.add,di.F]
  rw[dU (by omega) (by omega),aj]
  rfl
 ·rw[dQ h,if_pos (by omega)];rfl
theorem iV.run:iV.RS:=rE [.d tB,.d ti] iV
def iV.sg:=iV.fS iV.ok
abbrev ji.D:=Bs×Bs
abbrev ji.Y:=Bs
def ji.aU:ji.D->Prop:=λ(b,c)=>b.length+c.length<=80000000
def ji.F:ji.D->ji.Y:=λ(b,c)=>b++(sz c.length++c)
def ji:Fs Tryz.prog ji.aU bE ji.F:=fK 222 Tryz.f222 (λ(b,c)=>([.d tB b,.d tB c],[])) (λx=>⟨.d tB x,[],[]⟩) [some tB,some tB] [iV.sg] {res:=[some tB]}
theorem ji.eq{R:Type}(b c)(k:K1 R):ji.A (b,c) k=
 av (iV.call (b,(c.length:Int))) λx1=>
 aJ (decide (x1.1<=(List.length x1.2))) (
 aJ (dG (x1.1+(List.length c)) 1) (
 aJ (decide (0=0/\(0+(x1.1+(List.length c)))<=(List.length ((List.take x1.1 x1.2)++c)))) (
 k (ji.out (cut ((List.take x1.1 x1.2)++c) 0 (x1.1+(List.length c))))) none) none) none:=by kernel_rfl
theorem ji.ok:ji.Ok:=by
 rintro⟨b,c⟩ h
 have h:b.length+c.length<=80000000:=h
 have hl:=fW b c.length
 have e:dY b c.length=b++sz c.length:=by unfold dY;rw[if_neg (by omega)]
 have el:(b++sz c.length++c).length=(b++sz c.length).length+c.length:=aj
 rw[ji.eq,iV.run (d:=(b,(c.length:Int))) ⟨by show b.length<=_;omega,by show(c.length:Int)<=_;omega⟩]
 simp only[ab,bE,iV.F,ay,decide_true,ae,bY,aO,true_and]
 rw[e]at hl ⊢
 rw[dU (by omega) (by omega),ae,aP (by omega),ae,fi el]
 simp only[bE,ji.F,bk]
theorem ji.run:ji.RS:=rE [.d tB,.d tB] ji
def ji.sg:=ji.fS ji.ok
abbrev kI.D:=Az
abbrev kI.Y:=Bool
def kI.aU:kI.D->Prop:=λ_=>True
def kI.F:kI.D->kI.Y:=λw=>sJ w
def kI:Fs Tryz.prog kI.aU bE kI.F:=fK 160 Tryz.f160 (λwv=>([.d EZ wv],[])) (λx=>⟨.d .bool x,[],[]⟩) [some EZ]
theorem kI.eq{R:Type}(wv)(k:K1 R):kI.A wv k=
  aJ ((qQ wv.1 0)) (
   aJ ((zS wv.1 3)) (
    k (kI.out (zS (wv.2.1.length:Int) 12))) (
    k (kI.out false))) (
   k (kI.out false)):=by kernel_rfl
theorem kI.ok:kI.Ok:=by
 rintro⟨b,ss,sc,u⟩ _
 rw[kI.eq]
 simp only[bE,kI.F,sJ]
 by_cases h:0<=b
 ·rw[eQ h,ae]
  by_cases h2:b < 4
  ·rw[ix (by omega),ae,aP ⟨h,h2⟩,bO]
   by_cases h3:ss.length<=12
   ·rw[ix (by omega),aP h3]
   ·rw[ga (by omega),bf h3]
  ·rw[ga (by omega),ah,bf (λx=>h2 x.2),dF]
 ·rw[dQ h,ah,bf (λx=>h x.1),dF]
theorem kI.run:kI.RS:=rE [.d EZ] kI
def kI.sg:=kI.fS kI.ok
def Bl(pre:List gz)(o:lF):Bool:=pre.any λy=>Ty.beq jk y.1 o
def Gc:List gz->List gz->Bool
 |_,[]=>true
 |pre,x::l=>(u6 x && !(Bl pre x.1)) && Gc (pre++ [x]) l
theorem LW:∀(l:List gz) (m:List (lF×Bool)) (pre:List gz),(∀o,(eS jk o m).getD false=Bl pre o)->uG m l=Gc pre l
 |[],_,_,_=>rfl
 |x::l,m,pre,h=>by
  have e:xJ m x=Bl pre x.1:=h x.1
  rw[uG,Gc,e,LW l (jK jk x.1 true m) (pre++ [x]) λo=> ?_,Bool.and_comm (u6 x)]
  rw[vN la]
  unfold Bl
  rw[List.any_append]
  simp only[l7,List.any_nil,Bool.or_false]
  by_cases h1:o=x.1
  ·rw[if_pos ((wK _ _).2 h1),(wK x.1 o).2 h1.symm,Bool.or_true];rfl
  ·rw[if_neg (λe=>h1 ((wK _ _).1 e)),h o]
   have:Ty.beq jk x.1 o=false:=by
    cases hb:Ty.beq jk x.1 o with
    |false=>rfl
    |true=>exact absurd ((wK _ _).1 hb).symm h1
   rw[this,Bool.or_false]
   rfl
def sr(o:j7):Bool:=jr o.1 && nC o.2.1
theorem GG:∀(l:List j7) (s:Int),0<=s->s<=1125899906842624->sw s l=(l.all sr && decide (s+o8 l<=1125899906842624))
 |[],s,h0,h1=>by
  rw[aP (show s+o8 []<=1125899906842624 by show s+0<=_;omega)]
  rfl
 |o::l,s,h0,h1=>by
  have hc:jr s=true:=aP ⟨h0,h1⟩
  rw[sw,ff,sY]
  unfold qh
  rw[hc,bO,show sr o=(jr o.1 && nC o.2.1) from rfl]
  cases c1:jr o.1 with
  |false=>rfl
  |true=>
   have c2:0<=o.1/\o.1<=1125899906842624:=of_decide_eq_true c1
   rw[bO,bO]
   by_cases hs:s+o.1<=1125899906842624
   ·rw[aP hs,bO,GG l (s+o.1) (by omega) hs,Int.add_assoc,Bool.and_assoc]
   ·rw[bf hs,dF,dF]
    cases hl:l.all sr with
    |false=>cases nC o.2.1 <;> rfl
    |true=>
     have key:∀l:List j7,l.all sr=true->0<=o8 l:=by
      intro l
      induction l with
      |nil=>intro _;exact dT 0
      |cons x l ih=>
       intro h
       rw[ff,ak]at h
       have h1:=h.1
       unfold sr at h1
       rw[ak]at h1
       have h2:0<=x.1/\x.1<=1125899906842624:=of_decide_eq_true h1.1
       have:=ih h.2
       rw[sY]
       omega
     have:=key l hl
     rw[bf (show ¬s+(o.1+o8 l)<=1125899906842624 by omega)]
     cases nC o.2.1 <;> rfl
abbrev ag.L0.D:=gT×Int
def ag.L0.st:ag.L0.D->AS:=λ(lb,i)=>⟨([.undef,.ed iL lb,.undef,.d ti i]++bj 100 []),[],(List.replicate 104 [])⟩
abbrev ag.L0.Y0:=Unit
abbrev ag.L0.X0:=Unit
def ag.L0.dE:ag.L0.X0->Exit×AS:=λx=>(.ret,⟨([.undef,.undef,.d .bool false]++bj 101 []),[],(List.replicate 104 [])⟩)
abbrev ag.L0.Y1:=gT
abbrev ag.L0.X1:=gT
def ag.L0.fQ:ag.L0.X1->Exit×AS:=λx=>(.exit 0,⟨([.undef,.ed iL x]++bj 102 []),[],(List.replicate 104 [])⟩)
abbrev ag.L0.X:=(ag.L0.X0)⊕(ag.L0.X1)
abbrev ag.L0.Y:=(ag.L0.Y0)⊕(ag.L0.Y1)
def ag.L0.out:ag.L0.X->Out (Exit×AS):=λx=> .br x.isLeft (.get x.getLeft? λa=> .ok (ag.L0.dE a)) (.get x.getRight? λb=> .ok (ag.L0.fQ b))
def ag.L0.add:ag.L0.D->ag.L0.Y->ag.L0.X:=λ(lb,i) y=>match y with | .inl y=> .inl y | .inr z=> .inr (z)
abbrev ag.L1.D:=gT×Int×Int×gz
def ag.L1.st:ag.L1.D->AS:=λ(rN,fY,kv,n4)=>⟨([.undef,.ed iL rN,.undef,.d ti fY,.ptr (.new 4 0) 0 [] 0,.d ti kv]++bj 98 []),[],(cg 4 ([[.obj 0 false (.d gX n4)]]++cg 99 []))⟩
abbrev ag.L1.Y0:=Unit
abbrev ag.L1.X0:=Unit
def ag.L1.dE:ag.L1.X0->Exit×AS:=λx=>(.ret,⟨([.undef,.undef,.d .bool false]++bj 101 []),[],(List.replicate 104 [])⟩)
abbrev ag.L1.Y1:=Unit
abbrev ag.L1.X1:=gT×Int
def ag.L1.fQ:ag.L1.X1->Exit×AS:=λx=>(.exit 2,⟨([.undef,.ed iL x.1,.undef,.d ti x.2]++bj 100 []),[],(List.replicate 104 [])⟩)
abbrev ag.L1.X:=(ag.L1.X0)⊕(ag.L1.X1)
abbrev ag.L1.Y:=(ag.L1.Y0)⊕(ag.L1.Y1)
def ag.L1.out:ag.L1.X->Out (Exit×AS):=λx=> .br x.isLeft (.get x.getLeft? λa=> .ok (ag.L1.dE a)) (.get x.getRight? λb=> .ok (ag.L1.fQ b))
def ag.L1.add:ag.L1.D->ag.L1.Y->ag.L1.X:=λ(rN,fY,kv,n4) y=>match y with | .inl y=> .inl y | .inr z=> .inr ((rN,fY))
abbrev ag.L2.D:=gT×Int×Int
def ag.L2.st:ag.L2.D->AS:=λ(tr,sum,ph)=>⟨([.undef,.ed iL tr]++bj 4 ([.d ti sum,.d ti ph]++bj 96 [])),[],(List.replicate 104 [])⟩
abbrev ag.L2.Y0:=Unit
abbrev ag.L2.X0:=Unit
def ag.L2.dE:ag.L2.X0->Exit×AS:=λx=>(.ret,⟨([.undef,.undef,.d .bool false]++bj 101 []),[],(List.replicate 104 [])⟩)
abbrev ag.L2.Y1:=Int
abbrev ag.L2.X1:=Int
def ag.L2.fQ:ag.L2.X1->Exit×AS:=λx=>(.exit 4,⟨(bj 6 ([.d ti x]++bj 97 [])),[],(List.replicate 104 [])⟩)
abbrev ag.L2.X:=(ag.L2.X0)⊕(ag.L2.X1)
abbrev ag.L2.Y:=(ag.L2.Y0)⊕(ag.L2.Y1)
def ag.L2.out:ag.L2.X->Out (Exit×AS):=λx=> .br x.isLeft (.get x.getLeft? λa=> .ok (ag.L2.dE a)) (.get x.getRight? λb=> .ok (ag.L2.fQ b))
def ag.L2.add:ag.L2.D->ag.L2.Y->ag.L2.X:=λ(tr,sum,ph) y=>match y with | .inl y=> .inl y | .inr z=> .inr (z)
abbrev ag.D:=gT
abbrev ag.Y:=Bool
def ag.L1.aU:ag.L1.D->Prop:=λ(t,i,j,x)=>∃(n k:Nat),n<=t.1.length/\k<=n/\n<=1000/\i=n/\j=k
def ag.L1.F:ag.L1.D->ag.L1.Y:=λ(t,i,j,x)=>if Bl ((t.1.take i.toNat).drop j.toNat) x.1 then .inl () else .inr ()
def ag.L0.aU:ag.L0.D->Prop:=λ(t,i)=>t.1.length<=64/\∃k:Nat,k<=t.1.length/\i=k
def ag.L0.F:ag.L0.D->ag.L0.Y:=λ(t,i)=>if Gc (t.1.take i.toNat) (t.1.drop i.toNat) then .inr t else .inl ()
def ag.L2.aU:ag.L2.D->Prop:=λ(t,s,i)=>t.2.1.length<=64/\(∀o∈t.2.1,Hh o.2.1)/\∃k:Nat,k<=t.2.1.length/\i=k/\0<=s/\s<=(k:Int)*1125899906842624
def ag.L2.F:ag.L2.D->ag.L2.Y:=λ(t,s,i)=>if(t.2.1.drop i.toNat).all sr then .inr (s+o8 (t.2.1.drop i.toNat)) else .inl ()
def ag.aU:ag.D->Prop:=λt=>SE t
def ag.F:ag.D->ag.Y:=λt=>lf t
def ag.L0.E:=eO.hZ ag.L0.st ag.L0.aU ag.L0.add ag.L0.F ag.L0.out
def ag.L0.call:ag.L0.D->Option ag.L0.X:=jH ag.L0.E ag.L0.st
def ag.L1.E:=eO.hZ ag.L1.st ag.L1.aU ag.L1.add ag.L1.F ag.L1.out
def ag.L1.call:ag.L1.D->Option ag.L1.X:=jH ag.L1.E ag.L1.st
def ag.L2.E:=eO.hZ ag.L2.st ag.L2.aU ag.L2.add ag.L2.F ag.L2.out
def ag.L2.call:ag.L2.D->Option ag.L2.X:=jH ag.L2.E ag.L2.st
def ag:Fs Tryz.prog ag.aU bE ag.F:=fK 86 Tryz.f86 (λt=>([.d iL t],[])) (λx=>⟨.d .bool x,[],[]⟩) [some iL] [kI.sg,aM.sg] {loops:=oM [(4,{bm:=[1,3]}),(10,{bm:=[1,3,4,5],sites:=[4]}),(16,{bm:=[1,6,7]})],outs:=oL [(4,{bm:=[1]},{bm:=[2]}),(10,{bm:=[1,3]},{bm:=[2]}),(16,{bm:=[6]},{bm:=[2]})],iA:=pq [(4,ag.L0.E),(10,ag.L1.E),(16,ag.L2.E)]}
def ag.L0.R:= @gL Tryz.prog (lN ag.G) ag.an 0 Tryz.f86 0 _ ag.L0.st
abbrev ag.L0.Ok:=nh Tryz.prog (lN ag.G) ag.an 0 Tryz.f86 0 ag.L0.st ag.L0.aU ag.L0.add ag.L0.F ag.L0.out
def ag.L1.R:= @gL Tryz.prog (lN ag.G) ag.an 0 Tryz.f86 1 _ ag.L1.st
abbrev ag.L1.Ok:=nh Tryz.prog (lN ag.G) ag.an 0 Tryz.f86 1 ag.L1.st ag.L1.aU ag.L1.add ag.L1.F ag.L1.out
def ag.L2.R:= @gL Tryz.prog (lN ag.G) ag.an 0 Tryz.f86 2 _ ag.L2.st
abbrev ag.L2.Ok:=nh Tryz.prog (lN ag.G) ag.an 0 Tryz.f86 2 ag.L2.st ag.L2.aU ag.L2.add ag.L2.F ag.L2.out
theorem ag.L0.run:mq ag.L0.call ag.L0.aU ag.L0.add ag.L0.F:=oo (oa [.d iL,.d ti] λ_=>by kernel_rfl)
theorem ag.L0.cM:nM @ag.L0.R ag.L0.st ag.L0.aU ag.L0.add ag.L0.F ag.L0.out ag.L0.Ok:=oF
theorem ag.L0.step{R:Type}(lb:gT)(i:Int)(kn:AS->Option R)(kx:Exit->AS->Option R):ag.L0.R (lb,i) kn kx=
  aJ ((ik i (((List.length lb.1):Nat):Int))) (
   aJ (eY i (((List.length lb.1):Nat):Int)) (
   aJ ((ik (nth gX lb.1 (Int.toNat i)).1.2.1 (0:Int))) (
    kx (ag.L0.dE ()).1 (ag.L0.dE ()).2) (
    aJ ((nc (nth gX lb.1 (Int.toNat i)).1.2.1 (63:Int))) (
     kx (ag.L0.dE ()).1 (ag.L0.dE ()).2) (
     av (kI.call (nth gX lb.1 (Int.toNat i)).2.1) λx1=>
     aJ ((!x1)) (
      kx (ag.L0.dE ()).1 (ag.L0.dE ()).2) (
      av (ag.L1.call (lb,i,(0:Int),(nth gX lb.1 (Int.toNat i)))) λx2=>
      aJ (x2.isLeft) (
       av (x2.getLeft?) λa3=>
       kx (ag.L0.dE ()).1 (ag.L0.dE ()).2) (
       av (x2.getRight?) λb4=>
       kn (ag.L0.st (b4.1,(bt .i64 b4.2 (1:Int))))))))) none) (
   kx (ag.L0.fQ lb).1 (ag.L0.fQ lb).2):=by kernel_rfl
theorem ag.L1.run:mq ag.L1.call ag.L1.aU ag.L1.add ag.L1.F:=oo (oa [.d iL,.d ti,.d ti,.d gX] λ_=>by kernel_rfl)
theorem ag.L1.cM:nM @ag.L1.R ag.L1.st ag.L1.aU ag.L1.add ag.L1.F ag.L1.out ag.L1.Ok:=oF
theorem ag.L1.step{R:Type}(rN:gT)(fY:Int)(kv:Int)(n4:gz)(kn:AS->Option R)(kx:Exit->AS->Option R):ag.L1.R (rN,fY,kv,n4) kn kx=
  aJ ((ik kv fY)) (
   aJ (eY kv (((List.length rN.1):Nat):Int)) (
   aJ ((Ty.beq jk (nth gX rN.1 (Int.toNat kv)).1 n4.1)) (
    kx (ag.L1.dE ()).1 (ag.L1.dE ()).2) (
    kn (ag.L1.st (rN,fY,(bt .i64 kv (1:Int)),n4)))) none) (
   kx (ag.L1.fQ (rN,fY)).1 (ag.L1.fQ (rN,fY)).2):=by kernel_rfl
theorem ag.L2.run:mq ag.L2.call ag.L2.aU ag.L2.add ag.L2.F:=oo (oa [.d iL,.d ti,.d ti] λ_=>by kernel_rfl)
theorem ag.L2.cM:nM @ag.L2.R ag.L2.st ag.L2.aU ag.L2.add ag.L2.F ag.L2.out ag.L2.Ok:=oF
theorem ag.L2.step{R:Type}(tr:gT)(sum:Int)(ph:Int)(kn:AS->Option R)(kx:Exit->AS->Option R):ag.L2.R (tr,sum,ph) kn kx=
  aJ ((ik ph (((List.length tr.2.1):Nat):Int))) (
   aJ (eY ph (((List.length tr.2.1):Nat):Int)) (
   aJ ((ik (nth iR tr.2.1 (Int.toNat ph)).1 (0:Int))) (
    kx (ag.L2.dE ()).1 (ag.L2.dE ()).2) (
    aJ ((nc (nth iR tr.2.1 (Int.toNat ph)).1 (1125899906842624:Int))) (
     kx (ag.L2.dE ()).1 (ag.L2.dE ()).2) (
     av (aM.call (nth iR tr.2.1 (Int.toNat ph)).2.1) λx1=>
     aJ ((!x1)) (
      kx (ag.L2.dE ()).1 (ag.L2.dE ()).2) (
      kn (ag.L2.st (tr,(bt .i64 sum (nth iR tr.2.1 (Int.toNat ph)).1),(bt .i64 ph (1:Int)))))))) none) (
   kx (ag.L2.fQ sum).1 (ag.L2.fQ sum).2):=by kernel_rfl
theorem ag.eq{R:Type}(t)(k:K1 R):ag.A t k=
  aJ ((ik (t.1.length:Int) 1)) (
   k (ag.out false)) (
   aJ ((nc (t.1.length:Int) 64)) (
    k (ag.out false)) (
    aJ ((nc (t.2.1.length:Int) 64)) (
     k (ag.out false)) (
     aJ ((ik t.2.2.1 0)) (
      k (ag.out false)) (
      av (ag.L0.call (t,0)) λx5=>
      aJ (x5.isLeft) (
       av (x5.getLeft?) λa6=>
       k (ag.out false)) (
       av (x5.getRight?) λb7=>
       av (ag.L2.call (b7,0,0)) λx9=>
       aJ (x9.isLeft) (
        av (x9.getLeft?) λa10=>
        k (ag.out false)) (
        av (x9.getRight?) λb11=>
        k (ag.out (zS b11 1125899906842624)))))))):=by kernel_rfl
theorem ag.L1.ok:ag.L1.Ok:=by
 refine ag.L1.cM (λ(_,i,j,_)=>(i - j).toNat) ?_
 rintro⟨t,i,j,x⟩ ⟨n,k,hn,hk,hm,rfl,rfl⟩
 by_cases jt:k < n
 ·have xv:k < (t.1.take n).length:=by rw[cU];omega
  have n1:nth gX t.1 k=t.1[k]:=dg (t:=gX) (by omega)
  have hd:(t.1.take n).drop k=t.1[k]::(t.1.take n).drop (k+1):=by rw[aq xv,List.getElem_take]
  have hh:Bl ((t.1.take n).drop k) x.1=(Ty.beq jk t.1[k].1 x.1 || Bl ((t.1.take n).drop (k+1)) x.1):=by rw[hd];rfl
  have step:∀ {R:Type} (kn:AS->Option R) (kx:Exit->AS->Option R),ag.L1.R (t,(n:Int),(k:Int),x) kn kx=aJ (Ty.beq jk t.1[k].1 x.1) (kx (ag.L1.dE ()).1 (ag.L1.dE ()).2) (kn (ag.L1.st (t,(n:Int),((k+1:Nat):Int),x))):=by
   intro R kn kx
   rw[ag.L1.step,bh (by omega),ae,bp (by omega) (by omega),ae,aa,n1,N.pk (by omega)]
  cases hb:Ty.beq jk t.1[k].1 x.1 with
  |true=>
   right
   refine⟨ag.L1.dE (),?_,λkn kx=> ?_⟩
   ·simp only[ag.L1.add,ag.L1.F,aa,hh,hb,Bool.true_or,if_true]
    rfl
   ·rw[step,hb,ae]
  |false=>
   left
   refine⟨(t,(n:Int),((k+1:Nat):Int),x),⟨n,k+1,hn,by omega,hm,rfl,rfl⟩,by show((n:Int) - ((k+1:Nat):Int)).toNat < ((n:Int) - (k:Int)).toNat;omega,?_,λkn kx=> ?_⟩
   ·simp only[ag.L1.add,ag.L1.F,aa,hh,hb,pQ]
   ·rw[step,hb,ah]
 ·right
  obtain rfl:k=n:=by omega
  have e:(t.1.take k).drop k=[]:=eu (by rw[cU];omega)
  refine⟨ag.L1.fQ (t,(k:Int)),?_,λkn kx=> ?_⟩
  ·simp only[ag.L1.add,ag.L1.F,aa,e]
   rfl
  ·rw[ag.L1.step,aR (by omega),ah]
theorem ag.L0.ok:ag.L0.Ok:=by
 refine ag.L0.cM (λ(t,i)=>t.1.length - i.toNat) ?_
 rintro⟨t,i⟩ ⟨w6,k,hk,rfl⟩
 have w6:t.1.length<=64:=w6
 have hk:k<=t.1.length:=hk
 by_cases jt:k < t.1.length
 ·have n1:nth gX t.1 k=t.1[k]:=dg (t:=gX) jt
  have hd:Gc (t.1.take k) (t.1.drop k)=((u6 t.1[k] && !(Bl (t.1.take k) t.1[k].1)) && Gc (t.1.take (k+1)) (t.1.drop (k+1))):=by
   rw[aq jt,Gc,List.take_succ_eq_append_getElem jt]
  have step:∀ {R:Type} (kn:AS->Option R) (kx:Exit->AS->Option R),ag.L0.R (t,(k:Int)) kn kx=aJ (u6 t.1[k] && !(Bl (t.1.take k) t.1[k].1)) (kn (ag.L0.st (t,((k+1:Nat):Int)))) (kx (ag.L0.dE ()).1 (ag.L0.dE ()).2):=by
   intro R kn kx
   rw[ag.L0.step,bh (by omega),ae,bp (by omega) (by omega),ae,aa,n1]
   unfold u6
   by_cases h1:t.1[k].1.2.1 < 0
   ·rw[bh h1,ae,bf (by omega)];rfl
   rw[aR h1,ah]
   by_cases h2:t.1[k].1.2.1 > 63
   ·rw[cX h2,ae,bf (by omega)];rfl
   rw[cj h2,ah,aP (by omega),kI.run (d:=t.1[k].2.1) trivial]
   simp only[ab,bE,kI.F,bO]
   cases sJ t.1[k].2.1 with
   |false=>rfl
   |true=>
    rw[cq,ah,bO,ag.L1.run (d:=(t,(k:Int),0,t.1[k])) ⟨k,0,hk,aV _,by omega,rfl,rfl⟩]
    simp only[ab,ag.L1.add,ag.L1.F,aa,bH,aI]
    cases Bl (t.1.take k) t.1[k].1 with
    |true=>rfl
    |false=>
     simp only[bJ,if_false,gg,ah,fe,ab,dX,ae]
     rw[N.pk (by omega)]
  cases hp:u6 t.1[k] && !(Bl (t.1.take k) t.1[k].1)
  ·right
   refine⟨ag.L0.dE (),?_,λkn kx=> ?_⟩
   ·simp only[ag.L0.add,ag.L0.F,aa,hd,hp,dF,bJ,if_false]
    rfl
   ·rw[step,hp,ah]
  ·left
   refine⟨(t,((k+1:Nat):Int)),⟨w6,k+1,by omega,rfl⟩,by simp only[aa];omega,?_,λkn kx=> ?_⟩
   ·simp only[ag.L0.add,ag.L0.F,aa,hd,hp,bO]
   ·rw[step,hp,ae]
 ·right
  obtain rfl:k=t.1.length:=by omega
  refine⟨ag.L0.fQ t,?_,λkn kx=> ?_⟩
  ·simp only[ag.L0.add,ag.L0.F,aa,aQ]
   rfl
  ·rw[ag.L0.step,aR (by omega),ah]
theorem ag.L2.ok:ag.L2.Ok:=by
 refine ag.L2.cM (λ(t,_,i)=>t.2.1.length - i.toNat) ?_
 rintro⟨t,s,i⟩ ⟨w6,hu,k,hk,rfl,h0,h1⟩
 have w6:t.2.1.length<=64:=w6
 have hk:k<=t.2.1.length:=hk
 have h0:0<=s:=h0
 have h1:s<=(k:Int)*1125899906842624:=h1
 by_cases jt:k < t.2.1.length
 ·have n1:nth iR t.2.1 k=t.2.1[k]:=dg (t:=iR) jt
  have hd:t.2.1.drop k=t.2.1[k]::t.2.1.drop (k+1):=aq jt
  have step:∀ {R:Type} (kn:AS->Option R) (kx:Exit->AS->Option R),ag.L2.R (t,s,(k:Int)) kn kx=aJ (sr t.2.1[k]) (kn (ag.L2.st (t,s+t.2.1[k].1,((k+1:Nat):Int)))) (kx (ag.L2.dE ()).1 (ag.L2.dE ()).2):=by
   intro R kn kx
   rw[ag.L2.step,bh (by omega),ae,bp (by omega) (by omega),ae,aa,n1]
   unfold sr jr
   by_cases c1:t.2.1[k].1 < 0
   ·rw[bh c1,ae,bf (by omega)];rfl
   rw[aR c1,ah]
   by_cases c2:t.2.1[k].1 > 1125899906842624
   ·rw[cX c2,ae,bf (by omega)];rfl
   rw[cj c2,ah,aP (by omega),aM.run (d:=t.2.1[k].2.1) (hu _ (bw jt))]
   simp only[ab,bE,aM.F,bO]
   rw[eC (by omega) (by omega),N.pk (by omega)]
   cases nC t.2.1[k].2.1 <;> rfl
  cases hp:sr t.2.1[k]
  ·right
   refine⟨ag.L2.dE (),?_,λkn kx=> ?_⟩
   ·simp only[ag.L2.add,ag.L2.F,aa,hd,ff,hp,dF,bJ,if_false]
    rfl
   ·rw[step,hp,ah]
  ·left
   have hp':=hp
   unfold sr at hp'
   rw[ak]at hp'
   have c:0<=t.2.1[k].1/\t.2.1[k].1<=1125899906842624:=of_decide_eq_true hp'.1
   refine⟨(t,s+t.2.1[k].1,((k+1:Nat):Int)),⟨w6,hu,k+1,by omega,rfl,by show 0<=s+t.2.1[k].1;omega,by show s+t.2.1[k].1<=((k+1:Nat):Int)*1125899906842624;omega⟩,by simp only[aa];omega,?_,λkn kx=> ?_⟩
   ·simp only[ag.L2.add,ag.L2.F,aa,hd,ff,hp,bO,sY,Int.add_assoc]
   ·rw[step,hp,ae]
 ·right
  obtain rfl:k=t.2.1.length:=by omega
  refine⟨ag.L2.fQ s,?_,λkn kx=> ?_⟩
  ·simp only[ag.L2.add,ag.L2.F,aa,aQ]
   rw[show s+o8 ([]:List j7)=s+0 from rfl,kb]
   rfl
  ·rw[ag.L2.step,aR (by omega),ah]
theorem ag.ok:ag.Ok:=by
 intro t hv
 have hv:SE t:=hv
 rw[ag.eq]
 simp only[bE,ag.F,lf,zA]
 by_cases h1:t.1.length < 1
 ·rw[bh (by omega),bf (by omega)];rfl
 by_cases h2:t.1.length > 64
 ·rw[aR (by omega),ah,cX (by omega),bf (by omega)];rfl
 by_cases h3:t.2.1.length > 64
 ·rw[aR (by omega),ah,cj (by omega),ah,cX (by omega),bf (by omega)];rfl
 rw[aR (by omega),ah,cj (by omega),ah,cj (by omega),ah]
 by_cases h4:t.2.2.1 < 0
 ·rw[bh h4,bf (by omega)];rfl
 rw[aR h4,ah,aP (by omega),bO,ag.L0.run (d:=(t,0)) ⟨by show t.1.length<=64;omega,0,aV _,rfl⟩]
 simp only[ab,ag.L0.add,ag.L0.F,bH,aI,eH]
 rw[LW t.1 [] [] (λo=>by rw[vU];rfl),GG t.2.1 0 (by decide) (by decide)]
 cases Gc [] t.1 with
 |false=>rfl
 |true=>
  simp only[if_true,gg,ah,fe,ab,bO]
  rw[ag.L2.run (d:=(t,0,0)) ⟨by show t.2.1.length<=64;omega,λo ho=>(hv.1 o ho).1,0,aV _,rfl,dT 0,by omega⟩]
  simp only[ab,ag.L2.add,ag.L2.F,bH,aI]
  cases t.2.1.all sr with
  |false=>rfl
  |true=>
   simp only[if_true,gg,ah,fe,ab,bO]
   by_cases hs:0+o8 t.2.1<=1125899906842624
   ·rw[ix hs,aP hs]
   ·rw[ga hs,bf hs]
theorem ag.run:ag.RS:=rE [.d iL] ag
def ag.sg:=ag.fS ag.ok 3 ⟨.hZ ag.L0.ok,⟨.hZ ag.L1.ok,⟨.hZ ag.L2.ok,trivial⟩⟩⟩
abbrev bg.L0.D:=gT×Bs×Int
abbrev bg.L0.Y:=Bs
abbrev bg.L0.X:=(gT)×(Bs)
def bg.L0.add:bg.L0.D->bg.L0.Y->bg.L0.X:=λ(lb,b,i) y=>(lb,y)
abbrev bg.L1.D:=gT×Bs×Int
abbrev bg.L1.Y:=Bs
abbrev bg.L1.X:=(gT)×(Bs)
def bg.L1.add:bg.L1.D->bg.L1.Y->bg.L1.X:=λ(rN,iI,fY) y=>(rN,y)
abbrev bg.D:=gT
abbrev bg.Y:=Bs
def bg.L0.aU:bg.L0.D->Prop:=λ(t,b,i)=>(t.1).length<=1000000000/\∃k:Nat,k<=(t.1).length/\i=k/\(t.1.length<=64)/\(∀x∈t.1,x.1.1.length=32/\x.1.2.1<=9223372036854775807)/\(b.length<=100+50*k)
def bg.L0.F:bg.L0.D->bg.L0.Y:=λ(t,b,i)=>(List.drop (Int.toNat i) t.1).foldl wz b
def bg.L1.aU:bg.L1.D->Prop:=λ(t,b,i)=>(t.2.1).length<=1000000000/\∃k:Nat,k<=(t.2.1).length/\i=k/\(t.2.1.length<=64)/\(∀o∈t.2.1,o.1<=9223372036854775807/\Hh o.2.1)/\(b.length<=4000+1100*k)
def bg.L1.F:bg.L1.D->bg.L1.Y:=λ(t,b,i)=>(List.drop (Int.toNat i) t.2.1).foldl ye b
def bg.aU:bg.D->Prop:=λt=>lf t=true/\yL t
def bg.F:bg.D->bg.Y:=λt=>tm t
def bg.L0:Ls bg.L0.aU bg.L0.add bg.L0.F:=pG (λ(lb,b,i)=>⟨([.undef,.ed iL lb,.undef,.d tB b,.d ti i]++bj 63 []),[],(List.replicate 68 [])⟩) (λx=>(.exit 0,⟨([.undef,.ed iL x.1,.undef,.d tB x.2]++bj 64 []),[],(List.replicate 68 [])⟩))
def bg.L1:Ls bg.L1.aU bg.L1.add bg.L1.F:=pG (λ(rN,iI,fY)=>⟨([.undef,.ed iL rN,.undef,.d tB iI,.undef,.d ti fY]++bj 62 []),[],(List.replicate 68 [])⟩) (λx=>(.exit 2,⟨([.undef,.ed iL x.1,.undef,.d tB x.2]++bj 64 []),[],(List.replicate 68 [])⟩))
def bg:Fs Tryz.prog bg.aU bE bg.F:=fK 162 Tryz.f162 (λt=>([.d iL t],[])) (λx=>⟨.d tB x,[],[]⟩) [some iL] [fJ.sg,dO.sg,bn.sg,ji.sg] {loops:=oM [(3,{bm:=[1,3,4]}),(9,{bm:=[1,3,5]})],outs:=oL [(3,{bm:=[1,3]},{bm:=[2]}),(9,{bm:=[1,3]},{bm:=[2]})],iA:=pq [(3,bg.L0.E),(9,bg.L1.E)],res:=[some tB]}
theorem bg.L0.run:bg.L0.RS:=rL [.d iL,.d tB,.d ti] bg.L0
theorem bg.L0.step{R:Type}(lb b i)(kn:K2 R)(kx:K3 R):bg.R 0 bg.L0 (lb,b,i) kn kx=
  aJ ((ik i (lb.1.length:Int))) (
   aJ (eY i (lb.1.length:Int)) (
   av (dO.call (b,(nth gX lb.1 (Int.toNat i)).1.1)) λx1=>
   aJ (eY i (lb.1.length:Int)) (
   av (fJ.call (x1,(nth gX lb.1 (Int.toNat i)).1.2.1)) λx2=>
   kn (bg.L0.st (lb,x2,(bt .i64 i 1)))) none) none) (
   bg.L0.go kx (lb,b)):=by kernel_rfl
theorem bg.L1.run:bg.L1.RS:=rL [.d iL,.d tB,.d ti] bg.L1
theorem bg.L1.step{R:Type}(rN iI fY)(kn:K2 R)(kx:K3 R):bg.R 1 bg.L1 (rN,iI,fY) kn kx=
  aJ ((ik fY (rN.2.1.length:Int))) (
   aJ (eY fY (rN.2.1.length:Int)) (
   av (fJ.call (iI,(nth iR rN.2.1 (Int.toNat fY)).1)) λx1=>
   aJ (eY fY (rN.2.1.length:Int)) (
   av (bn.call (nth iR rN.2.1 (Int.toNat fY)).2.1) λx2=>
   av (ji.call (x1,x2)) λx3=>
   kn (bg.L1.st (rN,x3,(bt .i64 fY 1)))) none) none) (
   bg.L1.go kx (rN,iI)):=by kernel_rfl
theorem bg.eq{R:Type}(t)(k:K1 R):bg.A t k=
 av (fJ.call (([]:List Int),(t.1.length:Int))) λx1=>
 av (bg.L0.call (t,x1,0)) λx4=>
 av (fJ.call (x4.2,(x4.1.2.1.length:Int))) λx5=>
 av (bg.L1.call (x4.1,x5,0)) λx9=>
 av (fJ.call (x9.2,x9.1.2.2.1)) λC8=>
 k (bg.out C8):=by kernel_rfl
theorem bg.L0.ok:(bg.lE 0 bg.L0):=by
 refine(bg.mr 0 bg.L0) (λ(t,b,i)=>(t.1).length - Int.toNat i) ?_
 rintro⟨t,b,i⟩ ⟨hlen,k,hk,rfl,w6,hx,hb⟩
 have hlen:(t.1).length<=1000000000:=hlen
 have hk:k<=(t.1).length:=hk
 have w6:t.1.length<=64:=w6
 have hx:∀x∈t.1,x.1.1.length=32/\x.1.2.1<=9223372036854775807:=hx
 have hb:b.length<=100+50*k:=hb
 by_cases h:k < (t.1).length
 ·left
  have n1:nth gX t.1 k=t.1[k]:=dg (t:=gX) h
  have hd:List.drop k t.1=t.1[k]::List.drop (k+1) t.1:=aq h
  refine⟨(t,(wz b t.1[k]),((k+1:Nat):Int)),⟨hlen,k+1,by omega,rfl,w6,hx,by have:=EB b t.1[k];have:=(hx _ (bw h)).1;omega⟩,by simp only[aa];omega,?_,λkn kx=> ?_⟩
  ·simp only[bg.L0.add,bg.L0.F,aa,hd,cZ]
  ·rw[bg.L0.step,bh (by omega),bp (by omega) (by omega),aa,n1]
   simp only[ae]
   have e:=hx _ (bw h)
   have e2:(b++t.1[k].1.1).length=b.length+t.1[k].1.1.length:=aj
   rw[dO.run (d:=(b,t.1[k].1.1)) ⟨by show b.length<=_;omega,e.1⟩]
   simp only[ab,bE,dO.F]
   rw[fJ.run (d:=(b++t.1[k].1.1,t.1[k].1.2.1)) ⟨by show(b++t.1[k].1.1).length<=_;omega,e.2⟩]
   simp only[ab,bE,fJ.F]
   rw[N.pk (by omega)]
   rfl
 ·right
  obtain rfl:k=(t.1).length:=by omega
  intro R kn kx
  rw[bg.L0.step,aR (by omega),ah]
  simp only[bg.L0.add,bg.L0.F,aa,aQ,gK]
theorem bg.L1.ok:(bg.lE 1 bg.L1):=by
 refine(bg.mr 1 bg.L1) (λ(t,b,i)=>(t.2.1).length - Int.toNat i) ?_
 rintro⟨t,b,i⟩ ⟨hlen,k,hk,rfl,w6,hx,hb⟩
 have hlen:(t.2.1).length<=1000000000:=hlen
 have hk:k<=(t.2.1).length:=hk
 have w6:t.2.1.length<=64:=w6
 have hx:∀o∈t.2.1,o.1<=9223372036854775807/\Hh o.2.1:=hx
 have hb:b.length<=4000+1100*k:=hb
 by_cases h:k < (t.2.1).length
 ·left
  have n1:nth iR t.2.1 k=t.2.1[k]:=dg (t:=iR) h
  have hd:List.drop k t.2.1=t.2.1[k]::List.drop (k+1) t.2.1:=aq h
  refine⟨(t,(ye b t.2.1[k]),((k+1:Nat):Int)),⟨hlen,k+1,by omega,rfl,w6,hx,by have:=B1 b t.2.1[k];omega⟩,by simp only[aa];omega,?_,λkn kx=> ?_⟩
  ·simp only[bg.L1.add,bg.L1.F,aa,hd,cZ]
  ·rw[bg.L1.step,bh (by omega),bp (by omega) (by omega),aa,n1]
   simp only[ae]
   have e:=hx _ (bw h)
   have e1:=fW b t.2.1[k].1
   have e2:=EE t.2.1[k].2.1
   rw[fJ.run (d:=(b,t.2.1[k].1)) ⟨by show b.length<=_;omega,e.1⟩]
   simp only[ab,bE,fJ.F]
   rw[bn.run (d:=t.2.1[k].2.1) e.2]
   simp only[ab,bE,bn.F]
   rw[ji.run (d:=(dY b t.2.1[k].1,Kj t.2.1[k].2.1)) (by show(dY b t.2.1[k].1).length+(Kj t.2.1[k].2.1).length<=_;omega)]
   simp only[ab,bE,ji.F]
   rw[N.pk (by omega)]
   rfl
 ·right
  obtain rfl:k=(t.2.1).length:=by omega
  intro R kn kx
  rw[bg.L1.step,aR (by omega),ah]
  simp only[bg.L1.add,bg.L1.F,aa,aQ,gK]
theorem bg.ok:bg.Ok:=by
 rintro t ⟨nj,hv⟩
 have hv:yL t:=hv
 obtain⟨⟨_,a2,a3,_⟩,b1,b2⟩:=tt nj
 have h0:([]:List Int).length=0:=rfl
 have l0:=fW [] t.1.length
 have l1:=AJ t.1 (dY [] t.1.length) λx hx=>(hv.2.1 x hx).1.1
 have l2:=fW (t.1.foldl wz (dY [] t.1.length)) t.2.1.length
 have l3:=yf t.2.1 (dY (t.1.foldl wz (dY [] t.1.length)) t.2.1.length)
 rw[bg.eq,fJ.run (d:=([],(t.1.length:Int))) ⟨by show([]:List Int).length<=_;omega,by show(t.1.length:Int)<=_;omega⟩]
 simp only[ab,bE,fJ.F]
 rw[bg.L0.run (d:=(t,dY [] t.1.length,0)) ⟨by show t.1.length<=_;omega,0,aV _,rfl,a2,λx hx=>⟨(hv.2.1 x hx).1.1,by have:=Bv (sa _ _ b1 x hx);omega⟩,by show(dY [] t.1.length).length<=_;omega⟩]
 simp only[ab,bg.L0.add,bg.L0.F,bH,aI]
 rw[fJ.run (d:=(t.1.foldl wz (dY [] t.1.length),(t.2.1.length:Int))) ⟨by show(t.1.foldl wz (dY [] t.1.length)).length<=_;omega,by show(t.2.1.length:Int)<=_;omega⟩]
 simp only[ab,bE,fJ.F]
 rw[bg.L1.run (d:=(t,dY (t.1.foldl wz (dY [] t.1.length)) t.2.1.length,0)) ⟨by show t.2.1.length<=_;omega,0,aV _,rfl,a3,λo ho=>⟨by have:=(pH _ _ b2 o ho).1;omega,(hv.1.1 o ho).1⟩,by show(dY (t.1.foldl wz (dY [] t.1.length)) t.2.1.length).length<=_;omega⟩]
 simp only[ab,bg.L1.add,bg.L1.F,bH,aI]
 rw[fJ.run (d:=(t.2.1.foldl ye (dY (t.1.foldl wz (dY [] t.1.length)) t.2.1.length),t.2.2.1)) ⟨by show(t.2.1.foldl ye (dY (t.1.foldl wz (dY [] t.1.length)) t.2.1.length)).length<=_;omega,hv.2.2⟩]
 rfl
theorem bg.run:bg.RS:=rE [.d iL] bg
def bg.sg:=bg.fS bg.ok 2 ⟨.hZ bg.L0.ok,⟨.hZ bg.L1.ok,trivial⟩⟩
abbrev kX.D:=gT
abbrev kX.Y:=Bs
def kX.aU:kX.D->Prop:=λt=>yL t
def kX.F:kX.D->kX.Y:=λt=>C5 t
def kX:Fs Tryz.prog kX.aU bE kX.F:=fK 87 Tryz.f87 (λt=>([.d iL t],[])) (λx=>⟨.d tH x,[],[]⟩) [some iL] [ag.sg,bg.sg,fO.sg]
theorem kX.eq{R:Type}(t)(k:K1 R):kX.A t k=
  av (ag.call t) λx1=>
  aJ ((!x1)) (
   k (kX.out (List.replicate 32 0))) (
   av (bg.call t) λx2=>
   av (fO.call ((⟨#[116,120]⟩:ByteArray),[x2])) λx3=>
   k (kX.out x3)):=by kernel_rfl
theorem kX.ok:kX.Ok:=by
 intro t hv
 have hv:yL t:=hv
 rw[kX.eq,ag.run (d:=t) hv.1]
 simp only[ab,bE,ag.F,bE,kX.F,C5]
 cases nj:lf t
 ·rfl
 ·have hl:=B5 nj hv
  rw[bg.run (d:=t) ⟨nj,hv⟩]
  simp only[cq,ah,if_true,ab,bE,bg.F]
  rw[fO.run (d:=((⟨#[116,120]⟩:ByteArray),[tm t])) (G6 (by decide) (by omega))]
  rfl
theorem kX.run:kX.RS:=rE [.d iL] kX
def kX.sg:=kX.fS kX.ok
abbrev np.D:=Int
abbrev np.Y:=Int
def np.aU:np.D->Prop:=λa=>je a
def np.F:np.D->np.Y:=λa=>CH a
def np:Fs Tryz.prog np.aU bE np.F:=fK 288 Tryz.f288 (λa=>([.d tu a],[])) (λx=>⟨.d tu x,[],[]⟩) [some tu]
theorem np.eq{R:Type}(a)(k:K1 R):np.A a k=
 k (np.out (gv a 2305843009213688669)):=by kernel_rfl
theorem np.ok:np.Ok:=by
 intro a ha
 rw[np.eq,iy ha.1]
 rfl
theorem np.run:np.RS:=rE [.d tu] np
def np.sg:=np.fS np.ok
theorem Jk(o x y q:Int):(o%q+(x%q)*y)%q=(o+x*y)%q:=by simp[ka,kf]
abbrev eU.L0.D:=Int×Int×Int
abbrev eU.L0.Y:=Int
abbrev eU.D:=Int×Int
abbrev eU.Y:=Int
def eU.L0.aU:eU.L0.D->Prop:=λ(x,y,o)=>Qn x/\(0<=y/\y < 18446744073709551616)/\Qn o
def eU.L0.F:eU.L0.D->eU.L0.Y:=λ(x,y,o)=>(o+x*y)%2305843009213688669
def eU.aU:eU.D->Prop:=λ(a,b)=>je a/\je b
def eU.F:eU.D->eU.Y:=λ(a,b)=>CV a b
def eU.L0:Ls eU.L0.aU bE eU.L0.F:=pG (λ(x,yv,outv)=>⟨(bj 5 ([.d tu x,.d tu yv,.d tu outv]++bj 20 [])),[],(List.replicate 28 [])⟩) (λx=>(.exit 0,⟨(bj 7 ([.d tu x]++bj 20 [])),[],(List.replicate 28 [])⟩))
def eU:Fs Tryz.prog eU.aU bE eU.F:=fK 287 Tryz.f287 (λ(a,b)=>([.d tu a,.d tu b],[])) (λx=>⟨.d tu x,[],[]⟩) [some tu,some tu] [np.sg] {loops:=oM [(4,{bm:=[5,6,7]})],outs:=oL [(4,{bm:=[7]},{bm:=[4]})],iA:=pq [(4,eU.L0.E)]}
theorem eU.L0.run:eU.L0.RS:=rL [.d tu,.d tu,.d tu] eU.L0
theorem eU.L0.step{R:Type}(x yv outv)(kn:K2 R)(kx:K3 R):eU.R 0 eU.L0 (x,yv,outv) kn kx=
  aJ ((nc yv 0)) (
   aJ ((wy (gv yv 2) 1)) (
    kn (eU.L0.st ((gv (bt .u64 x x) 2305843009213688669),(jX .u64 yv 2),(gv (bt .u64 outv x) 2305843009213688669)))) (
    kn (eU.L0.st ((gv (bt .u64 x x) 2305843009213688669),(jX .u64 yv 2),outv)))) (
   eU.L0.go kx outv):=by kernel_rfl
theorem eU.eq{R:Type}(a b)(k:K1 R):eU.A (a,b) k=
 av (np.call a) λx1=>
 av (np.call b) λx2=>
 av (eU.L0.call (x1,x2,0)) λx3=>
 k (eU.out x3):=by kernel_rfl
theorem xj(x:Int):Qn (x%2305843009213688669):=⟨iC _ (by omega),gS _ (by omega)⟩
theorem eU.L0.ok:(eU.lE 0 eU.L0):=by
 refine(eU.mr 0 eU.L0) (λ(_,y,_)=>y.toNat) ?_
 rintro⟨x,y,o⟩ ⟨hx,hy,ho⟩
 obtain⟨x0,x1⟩:=hx
 obtain⟨o0,o1⟩:=ho
 have x0:0<=x:=x0
 have x1:x < 2305843009213688669:=x1
 have o0:0<=o:=o0
 have o1:o < 2305843009213688669:=o1
 have hy:0<=y/\y < 18446744073709551616:=hy
 have e2:bt .u64 x x=x+x:=by rw[iJ];omega
 have e3:bt .u64 o x=o+x:=by rw[iJ];omega
 by_cases h:0 < y
 ·left
  have dv:=Int.mul_ediv_add_emod y 2
  have e1:jX .u64 y 2=y / 2:=sW hy.1 (by omega) hy.2
  by_cases hb:y%2=1
  ·refine⟨((x+x)%2305843009213688669,y / 2,(o+x)%2305843009213688669),⟨xj _,⟨by omega,by omega⟩,xj _⟩,by show(y / 2).toNat < y.toNat;omega,?_,λkn kx=> ?_⟩
   ·simp only[bE,eU.L0.F]
    rw[Jk]
    have:x*y=x*(2*(y / 2)+1):=by rw[show y=2*(y / 2)+1 by omega];congr 1;omega
    have:o+x*y=o+x+(x+x)*(y / 2):=by rw[this,Int.mul_add,Int.mul_one,<-ku,lC x 2,Int.two_mul];omega
    rw[this]
   ·rw[eU.L0.step,cX h,ae,iy hy.1,iw hb,ae,e2,e3,e1,iy (by omega),iy (by omega)]
  ·refine⟨((x+x)%2305843009213688669,y / 2,o),⟨xj _,⟨by omega,by omega⟩,o0,o1⟩,by show(y / 2).toNat < y.toNat;omega,?_,λkn kx=> ?_⟩
   ·simp only[bE,eU.L0.F]
    have eo:o%2305843009213688669=o:=ke o0 o1
    have:=Jk o (x+x) (y / 2) 2305843009213688669
    rw[eo]at this
    rw[this]
    have:x*y=x*(2*(y / 2)):=by congr 1;omega
    have:o+x*y=o+(x+x)*(y / 2):=by rw[this,<-ku,lC x 2,Int.two_mul]
    rw[this]
   ·rw[eU.L0.step,cX h,ae,iy hy.1,gl hb,ah,e2,e1,iy (by omega)]
 ·right
  obtain rfl:y=0:=by omega
  intro R kn kx
  rw[eU.L0.step,cj h,ah]
  simp only[bE,eU.L0.F,Int.mul_zero,kb]
  rw[ke o0 o1]
theorem eU.ok:eU.Ok:=by
 rintro⟨a,b⟩ ⟨ha,hb⟩
 have qa:Qn (CH a):=xj a
 have qb:Qn (CH b):=xj b
 rw[eU.eq,np.run (d:=a) ha,np.run (d:=b) hb]
 simp only[ab,bE,np.F]
 rw[eU.L0.run (d:=(CH a,CH b,0)) ⟨qa,⟨qb.1,by have:=qb.2;show CH b < _;omega⟩,by decide,by decide⟩]
 simp only[ab,bE,eU.L0.F,bE,eU.F,CV,lD]
theorem eU.run:eU.RS:=rE [.d tu,.d tu] eU
def eU.sg:=eU.fS eU.ok 1 ⟨.hZ eU.L0.ok,trivial⟩
abbrev lY.D:=Int×Int
abbrev lY.Y:=Int
def lY.aU:lY.D->Prop:=λ(a,b)=>je a/\je b
def lY.F:lY.D->lY.Y:=λ(a,b)=>Ld a b
def lY:Fs Tryz.prog lY.aU bE lY.F:=fK 286 Tryz.f286 (λ(a,b)=>([.d tu a,.d tu b],[])) (λx=>⟨.d tu x,[],[]⟩) [some tu,some tu] [np.sg]
theorem lY.eq{R:Type}(a b)(k:K1 R):lY.A (a,b) k=
 av (np.call a) λx1=>
 av (np.call b) λx2=>
 k (lY.out (gv (bt .u64 x1 x2) 2305843009213688669)):=by kernel_rfl
theorem lY.ok:lY.Ok:=by
 rintro⟨a,b⟩ ⟨ha,hb⟩
 have qa:Qn (CH a):=xj a
 have qb:Qn (CH b):=xj b
 obtain⟨a0,a1⟩:=qa
 obtain⟨b0,b1⟩:=qb
 rw[lY.eq,np.run (d:=a) ha,np.run (d:=b) hb]
 simp only[ab,bE,np.F,bE,lY.F,Ld]
 have e:bt .u64 (CH a) (CH b)=CH a+CH b:=by rw[iJ];omega
 rw[e,iy (by omega)]
theorem lY.run:lY.RS:=rE [.d tu,.d tu] lY
def lY.sg:=lY.fS lY.ok
abbrev kY.D:=Int
abbrev kY.Y:=Bool
def kY.aU:kY.D->Prop:=λ_=>True
def kY.F:kY.D->kY.Y:=λk=>decide (k < 2305843009213688669/\k≠0)
def kY:Fs Tryz.prog kY.aU bE kY.F:=fK 273 Tryz.f273 (λkv=>([.d tu kv],[])) (λx=>⟨.d .bool x,[],[]⟩) [some tu] [fX.sg]
theorem kY.eq{R:Type}(kv)(k:K1 R):kY.A kv k=
  av (fX.call kv) λx1=>
  aJ (x1) (
   k (kY.out (sR kv 0))) (
   k (kY.out false)):=by kernel_rfl
theorem kY.ok:kY.Ok:=by
 intro k _
 rw[kY.eq,fX.run (d:=k) trivial]
 simp only[ab,bE,fX.F,bE,kY.F]
 by_cases h:k < 2305843009213688669
 ·rw[bh h,ae]
  by_cases h0:k=0
  ·rw[cS h0,bf (λx=>x.2 h0)]
  ·rw[eI h0,aP ⟨h,h0⟩]
 ·rw[aR h,ah,bf (λx=>h x.1)]
theorem kY.run:kY.RS:=rE [.d tu] kY
def kY.sg:=kY.fS kY.ok
abbrev jE.D:=Int×Int×Bs×Int
abbrev jE.Y:=Sg
def jE.aU:jE.D->Prop:=λ(k,n,m,t)=>je k/\je n/\Sm m/\je t
def jE.F:jE.D->jE.Y:=λ(k,n,m,t)=>Ee k n m t
def jE:Fs Tryz.prog jE.aU bE jE.F:=fK 275 Tryz.f275 (λ(kv,n,m,t)=>([.d tu kv,.d tu n,.d tH m,.d tu t],[])) (λx=>⟨.d zy x,[],[]⟩) [some tu,some tu,some tH,some tu] [iH.sg,lv.sg,gQ.sg,eU.sg,lY.sg]
theorem jE.eq{R:Type}(kv n m t)(k:K1 R):jE.A (kv,n,m,t) k=
 av (iH.call n) λx1=>
 av (lv.call (x1,t)) λx2=>
 av (iH.call kv) λx3=>
 av (gQ.call (x2,x3,m)) λx4=>
 av (eU.call (kv,x4)) λx5=>
 av (lY.call (n,x5)) λx6=>
 k (jE.out (x2,(x6,()))):=by kernel_rfl
theorem jE.ok:jE.Ok:=by
 rintro⟨k,n,m,t⟩ ⟨hk,hn,hm,ht⟩
 have hk:je k:=hk
 have hn:je n:=hn
 have hm:Sm m:=hm
 have ht:je t:=ht
 have hc:CV k (tz (wh [jw n,t]) (jw k) m)=CV (tz (wh [jw n,t]) (jw k) m) k:=by unfold CV;rw[lC]
 rw[jE.eq,iH.run (d:=n) hn]
 simp only[ab,bE,iH.F]
 rw[lv.run (d:=(jw n,t)) ⟨(MB _ _).u,ht⟩,iH.run (d:=k) hk]
 simp only[ab,bE,iH.F,bE,lv.F]
 rw[gQ.run (d:=(wh [jw n,t],jw k,m)) ⟨(Jv _).u,(MB _ _).u,hm⟩]
 simp only[ab,bE,gQ.F]
 rw[eU.run (d:=(k,tz (wh [jw n,t]) (jw k) m)) ⟨hk,(FH _ _ _).u⟩]
 simp only[ab,bE,eU.F,hc]
 rw[lY.run (d:=(n,CV (tz (wh [jw n,t]) (jw k) m) k)) ⟨hn,(Jl _ _).u⟩]
 rfl
theorem jE.run:jE.RS:=rE [.d tu,.d tu,.d tB,.d tu] jE
def jE.sg:=jE.fS jE.ok
abbrev iU.D:=Int×Bs
abbrev iU.Y:=Sg
def iU.aU:iU.D->Prop:=λ(k,m)=>je k/\Sm m
def iU.F:iU.D->iU.Y:=λ(k,m)=>pa k m
def iU:Fs Tryz.prog iU.aU bE iU.F:=fK 235 Tryz.f235 (λ(kv,m)=>([.d tu kv,.d tH m],[])) (λx=>⟨.d zy x,[],[]⟩) [some tu,some tH] [kY.sg,iQ.sg,fO.sg,dI.sg,jE.sg]
theorem iU.eq{R:Type}(kv m)(k:K1 R):iU.A (kv,m) k=
  av (kY.call kv) λx1=>
  aJ ((!x1)) (
   k (iU.out (0,(0,())))) (
   av (iQ.call kv) λx2=>
   aJ (decide (0=0/\(0+x2.1)<=(List.length x2.2))) (
   av (fO.call ((⟨#[110,111,110,99,101]⟩:ByteArray),[(cut x2.2 0 x2.1),(cut m 0 32)])) λx3=>
   av (dI.call x3) λx4=>
   av (jE.call (kv,x4,m,1)) λx5=>
   k (iU.out x5)) none):=by kernel_rfl
theorem iU.ok:iU.Ok:=by
 rintro⟨k,m⟩ ⟨hk,hm⟩
 have hk:je k:=hk
 have hm:Sm m:=hm
 rw[iU.eq,kY.run (d:=k) trivial]
 simp only[ab,bE,kY.F,bE,iU.F,pa]
 by_cases h:k < 2305843009213688669/\k≠0
 ·have CF:fO.aU ((⟨#[110,111,110,99,101]⟩:ByteArray),[lO k,m]):=G7 (by decide) (by rw[cF];omega) (by rw[hm.1];omega)
  rw[aP h,if_pos h,iQ.run (d:=k) hk]
  simp only[cq,ah,ab,bE,iQ.F,cF,aO,ay,and_self,decide_true,ae]
  rw[fi (cF _),fi hm.1,fO.run CF]
  simp only[ab,bE,fO.F]
  rw[dI.run (d:=tag (bC (⟨#[110,111,110,99,101]⟩:ByteArray)) [lO k,m]) (Cm _ _)]
  simp only[ab,bE,dI.F]
  have q:=Bg (tag (bC (⟨#[110,111,110,99,101]⟩:ByteArray)) [lO k,m])
  rw[jE.run (d:=(k,uZ (tag (bC (⟨#[110,111,110,99,101]⟩:ByteArray)) [lO k,m]),m,1)) ⟨hk,⟨by omega,by omega⟩,hm,by omega,by omega⟩]
  rfl
 ·rw[bf h,if_neg h];rfl
theorem iU.run:iU.RS:=rE [.d tu,.d tB] iU
def iU.sg:=iU.fS iU.ok
abbrev ba.L0.D:=Int×Bs×gT×Int×(Int×Unit)×Int×Nat×(Int×Unit)×Bs×(List Sg)
def ba.L0.st:ba.L0.D->AS:=λ(q9,gO,lb,i,n10,n12,BM,sm,n13,Mm)=>⟨([.undef,.d ti q9,.undef,.d tU gO,.undef,.ed iL lb]++bj 4 ([.ptr (.new 10 0) 0 [] 0,.undef,.ptr (.new 12 0) 0 [] 0,.ptr (.new 13 0) 0 [] 0,.d ti i]++bj 73 [])),[],(cg 10 ([[.obj 0 false (.pr (.df) (.pr (.df) (.d (.pair ti .unit) n10)))],[],[.obj 0 false (.pr (.d ti n12) (.pr (.cP (.new 77 0) 0 [] 0 0 BM) (.d (.pair tu .unit) sm)))],[.obj 0 false (.d tH n13)]]++cg 63 ([[.obj 0 false (.vec 135 zy Mm)]]++cg 10 [])))⟩
abbrev ba.L0.Y0:=(Int×Unit)
abbrev ba.L0.X0:=(Int×Unit)
def ba.L0.dE:ba.L0.X0->Exit×AS:=λx=>(.ret,⟨(bj 10 ([.ptr (.new 10 0) 0 [] 0,.d ti (1:Int)]++bj 76 [])),[],(cg 10 ([[.obj 0 false (.pr (.df) (.pr (.df) (.d (.pair ti .unit) x)))]]++cg 77 []))⟩)
abbrev ba.L0.Y1:=Az×(List Sg)
abbrev ba.L0.X1:=(Int×gT×(Int×Unit))×(Az×(List Sg))
def ba.L0.fQ:ba.L0.X1->Exit×AS:=λx=>(.exit 0,⟨([.undef,.d ti x.1.1,.undef,.undef,.undef,.ed iL x.1.2.1]++bj 4 ([.ptr (.new 10 0) 0 [] 0,.undef,.ptr (.new 12 0) 0 [] 0]++bj 75 [])),[],(cg 10 ([[.obj 0 false (.pr (.df) (.pr (.df) (.d (.pair ti .unit) x.1.2.2)))],[],[.obj 0 false (.d EZ x.2.1)]]++cg 64 ([[.obj 0 true (.vec 135 zy x.2.2)]]++cg 10 [])))⟩)
abbrev ba.L0.X:=(ba.L0.X0)⊕(ba.L0.X1)
abbrev ba.L0.Y:=(ba.L0.Y0)⊕(ba.L0.Y1)
def ba.L0.out:ba.L0.X->Out (Exit×AS):=λx=> .br x.isLeft (.get x.getLeft? λa=> .ok (ba.L0.dE a)) (.get x.getRight? λb=> .ok (ba.L0.fQ b))
def ba.L0.add:ba.L0.D->ba.L0.Y->ba.L0.X:=λ(q9,gO,lb,i,n10,n12,BM,sm,n13,Mm) y=>match y with | .inl y=> .inl y | .inr z=> .inr (((q9,lb,n10),z))
abbrev ba.D:=gT×Int×Int×Bs×Int
abbrev ba.Y:=gT×Int
def ba.L0.aU:ba.L0.D->Prop:=λ(_,l,_,i,_,_,L,_,id,r)=>l.length<=1000/\(∀x∈l,je x)/\Sm id/\∃k:Nat,k<=l.length/\i=k/\L=r.length/\r.length<=1000+k
def ba.L0.F:ba.L0.D->ba.L0.Y:=λ(_,l,_,i,_,br,_,sc,id,r)=>if(l.drop i.toNat).any lI=true then .inl ((0:Int),()) else .inr ((br,(r++(l.drop i.toNat).map (λk=>pa k id),sc)),r++(l.drop i.toNat).map (λk=>pa k id))
def ba.aU:ba.D->Prop:=λ(t,_,_,ks,_)=>yL t/\(∀x∈ks,je x)/\ks.length<=1000000000
def ba.F:ba.D->ba.Y:=λ(t,i,br,ks,sc)=>mn t i br ks sc
def ba.L0.E:=eO.hZ ba.L0.st ba.L0.aU ba.L0.add ba.L0.F ba.L0.out
def ba.L0.call:ba.L0.D->Option ba.L0.X:=jH ba.L0.E ba.L0.st
def ba:Fs Tryz.prog ba.aU bE ba.F:=fK 174 Tryz.f174 (λ(t,inv,branch,keys,secret)=>([.d iL t,.d ti inv,.d ti branch,.d tU keys,.d tu secret],[])) (λx=>⟨.cons (.d iL x.1) (.cons (.d ti x.2) (.nil)),[],[]⟩) [some iL,some ti,some ti,some tU,some tu] [ag.sg,kX.sg,iU.sg,aW.sg] {loops:=oM [(6,{bm:=[1,3,5,10,12,13,14],sites:=[10,12,13,77],owns:=[⟨12,[.snd,.fst],77,48⟩]})],outs:=oL [(6,{bm:=[1,5,10,12],sites:=[10,12,77],Ek:=[⟨12,[.snd,.fst],(.slice zy)⟩]},{bm:=[10,11],sites:=[10]})],iA:=pq [(6,ba.L0.E)],res:=[some iL,none]}
def ba.L0.R:= @gL Tryz.prog (lN ba.G) ba.an 0 Tryz.f174 0 _ ba.L0.st
abbrev ba.L0.Ok:=nh Tryz.prog (lN ba.G) ba.an 0 Tryz.f174 0 ba.L0.st ba.L0.aU ba.L0.add ba.L0.F ba.L0.out
theorem ba.L0.run:mq ba.L0.call ba.L0.aU ba.L0.add ba.L0.F:=oo (oa [.d ti,.d tU,.d iL,.d ti,.d (.pair ti .unit),.d ti,.n,.d (.pair tu .unit),.d tB,.d (.slice zy)] λ_=>by kernel_rfl)
theorem ba.L0.cM:nM @ba.L0.R ba.L0.st ba.L0.aU ba.L0.add ba.L0.F ba.L0.out ba.L0.Ok:=oF
theorem ba.L0.step{R:Type}(q9:Int)(gO:Bs)(lb:gT)(i:Int)(n10:(Int×Unit))(n12:Int)(BM:Nat)(sm:(Int×Unit))(n13:Bs)(Mm:(List Sg))(kn:AS->Option R)(kx:Exit->AS->Option R):ba.L0.R (q9,gO,lb,i,n10,n12,BM,sm,n13,Mm) kn kx=
  aJ ((ik i (((List.length gO):Nat):Int))) (
   aJ (eY i (((List.length gO):Nat):Int)) (
   aJ ((wy (nth tu gO (Int.toNat i)) (0:Int))) (
    kx (ba.L0.dE ((0:Int),())).1 (ba.L0.dE ((0:Int),())).2) (
    aJ (eY i (((List.length gO):Nat):Int)) (
    aJ ((qQ (nth tu gO (Int.toNat i)) (2305843009213688669:Int))) (
     kx (ba.L0.dE ((0:Int),())).1 (ba.L0.dE ((0:Int),())).2) (
     aJ (eY i (((List.length gO):Nat):Int)) (
     av (iU.call ((nth tu gO (Int.toNat i)),n13)) λx1=>
     aJ (decide (BM<=(List.length Mm))) (
     aJ (dG (BM+1) 16) (
     kn (ba.L0.st (q9,gO,lb,(bt .i64 i (1:Int)),n10,n12,(BM+1),sm,n13,((List.take BM Mm)++ [x1])))) none) none) none)) none)) none) (
   aJ (decide (0=0/\(0+BM)<=(List.length Mm))) (
   kx (ba.L0.fQ ((q9,lb,n10),((n12,((cut Mm 0 BM),sm)),Mm))).1 (ba.L0.fQ ((q9,lb,n10),((n12,((cut Mm 0 BM),sm)),Mm))).2) none):=by kernel_rfl
theorem ba.eq{R:Type}(t inv branch keys secret)(k:K1 R):ba.A (t,inv,branch,keys,secret) k=
  av (ag.call t) λx1=>
  aJ ((!x1)) (
   k (ba.out ((([]:List gz),(([]:List j7),(0,()))),1))) (
   aJ ((ik inv 0)) (
    k (ba.out ((([]:List gz),(([]:List j7),(0,()))),1))) (
    aJ ((qQ inv (t.1.length:Int))) (
     k (ba.out ((([]:List gz),(([]:List j7),(0,()))),1))) (
     aJ ((ik branch 0)) (
      k (ba.out ((([]:List gz),(([]:List j7),(0,()))),1))) (
      aJ ((nc branch 3)) (
       k (ba.out ((([]:List gz),(([]:List j7),(0,()))),1))) (
       aJ ((nc (keys.length:Int) 12)) (
        k (ba.out ((([]:List gz),(([]:List j7),(0,()))),1))) (
        av (kX.call t) λx2=>
        av (ba.L0.call (inv,keys,t,0,(0,()),branch,0,(secret,()),x2,([]:List Sg))) λx5=>
        aJ (x5.isLeft) (
         av (x5.getLeft?) λa6=>
         k (ba.out ((([]:List gz),(([]:List j7),a6)),1))) (
         av (x5.getRight?) λb7=>
         av (aW.call b7.1.2.1) λx8=>
         aJ (eY b7.1.1 ((x8.1:Nat):Int)) (
         aJ (decide ((0+(Int.toNat b7.1.1)) < (List.length x8.2.2.2.1))) (
         aJ (decide ((((0+(Int.toNat b7.1.1))*36)+33)=((0+((Int.toNat b7.1.1)*36))+33))) (
         aJ (decide ((0+(Int.toNat b7.1.1)) < (List.length x8.2.2.2.1))) (
         aJ (decide (0=0/\(0+x8.1)<=(List.length (List.set x8.2.2.2.1 (0+(Int.toNat b7.1.1)) ((nth gX x8.2.2.2.1 (0+(Int.toNat b7.1.1))).1,(b7.2.1,(nth gX x8.2.2.2.1 (0+(Int.toNat b7.1.1))).2.2)))))) (
         aJ (decide (0=0/\(0+x8.2.1)<=(List.length x8.2.2.2.2))) (
         k (ba.out (((cut (List.set x8.2.2.2.1 (0+(Int.toNat b7.1.1)) ((nth gX x8.2.2.2.1 (0+(Int.toNat b7.1.1))).1,(b7.2.1,(nth gX x8.2.2.2.1 (0+(Int.toNat b7.1.1))).2.2))) 0 x8.1),((cut x8.2.2.2.2 0 x8.2.1),x8.2.2.1)),0))) none) none) none) none) none) none))))))):=by kernel_rfl
theorem ba.L0.ok:ba.L0.Ok:=by
 refine ba.L0.cM (λ(_,l,_,i,_,_,_,_,_,_)=>l.length - i.toNat) ?_
 rintro⟨i0,l,t,i,z,br,L,sc,id,r⟩ ⟨hlen,hu,hm,k,hk,rfl,rfl,hr⟩
 have hlen:l.length<=1000:=hlen
 have hk:k<=l.length:=hk
 have hr:r.length<=1000+k:=hr
 by_cases h:k < l.length
 ·have n1:nth tu l k=l[k]:=dg (t:=tu) h
  have hd:List.drop k l=l[k]::List.drop (k+1) l:=aq h
  have xv:=hu _ (bw h)
  generalize (l[k]:Int)=x at n1 hd xv
  have ib:eY (k:Int) (l.length:Int)=true:=bp (by omega) (by omega)
  have step:∀ {R:Type} (kn:AS->Option R) (kx:Exit->AS->Option R),ba.L0.R (i0,l,t,(k:Int),z,br,r.length,sc,id,r) kn kx=aJ (lI x) (kx (ba.L0.dE ((0:Int),())).1 (ba.L0.dE ((0:Int),())).2) (kn (ba.L0.st (i0,l,t,((k+1:Nat):Int),z,br,r.length+1,sc,id,r++ [pa x id]))):=by
   intro R kn kx
   rw[ba.L0.step,bh (by omega),ae]
   simp only[ib,ae,aa,n1]
   by_cases h0:x=0
   ·have eb:lI x=true:=by unfold lI;exact decide_eq_true (λe=>e.2 h0)
    rw[iw h0,ae,eb,ae]
   ·rw[gl h0,ah]
    by_cases h1:x < 2305843009213688669
    ·have eb:lI x=false:=by unfold lI;exact decide_eq_false (λe=>e ⟨h1,h0⟩)
     rw[dQ (by omega),ah,eb,ah,iU.run (d:=(x,id)) ⟨xv,hm⟩]
     simp only[ab,bE,iU.F]
     rw[aP (ay _),ae,dU (by omega) (by omega),ae,N.pk (by omega),bY]
    ·have eb:lI x=true:=by unfold lI;exact decide_eq_true (λe=>h1 e.1)
     rw[eQ (by omega),ae,eb,ae]
  cases hb:lI x with
  |true=>
   right
   refine⟨ba.L0.dE ((0:Int),()),?_,λkn kx=>by rw[step,hb,ae]⟩
   simp only[ba.L0.add,ba.L0.F,aa,hd,l7,hb,Bool.true_or,if_true]
   rfl
  |false=>
   left
   refine⟨(i0,l,t,((k+1:Nat):Int),z,br,r.length+1,sc,id,r++ [pa x id]),⟨hlen,hu,hm,k+1,by omega,rfl,by rw[aj];rfl,by rw[aj];show r.length+1<=_;omega⟩,by simp only[aa];omega,?_,λkn kx=>by rw[step,hb,ah]⟩
   simp only[ba.L0.add,ba.L0.F,aa,hd,l7,hb,pQ,bR,bk,dy]
 ·right
  obtain rfl:k=l.length:=by omega
  refine⟨ba.L0.fQ ((i0,t,z),((br,(r,sc)),r)),?_,λkn kx=> ?_⟩
  ·simp only[ba.L0.add,ba.L0.F,aa,aQ,fT,cH,List.any_nil,bJ,if_false]
   rfl
  ·rw[ba.L0.step,aR (by omega),ah,aP ⟨rfl,by omega⟩,ae,fi rfl]
theorem Lw{t:gT}(nj:lf t=true):Og t:=by
 obtain⟨⟨_,a2,a3,_⟩,b1,b2⟩:=tt nj
 refine⟨⟨by omega,λx hx=> ?_⟩,by omega,λx hx=> ?_⟩
 ·have:=Bv (sa _ _ b1 x hx)
  omega
 ·have:=EF (pH _ _ b2 x hx).2
  exact⟨by omega,λb hb=>by have:=this.2 b hb;omega⟩
theorem ba.ok:ba.Ok:=by
 rintro⟨t,i,br,ks,sc⟩ ⟨hv,hu,hl⟩
 have hv:yL t:=hv
 have hl:ks.length<=1000000000:=hl
 rw[ba.eq,ag.run (d:=t) hv.1]
 simp only[ab,bE,ag.F,bE,ba.F,vy,qU]
 rcases fL (lf t) with nj | nj
 rotate_left
 ·simp only[nj];rfl
 obtain⟨⟨_,a2,a3,_⟩,b1,b2⟩:=tt nj
 simp only[nj,cq,ah,bO]
 by_cases h1:i < 0
 ·rw[bh h1,ae,bf (by omega)];rfl
 rw[aR h1,ah]
 by_cases h2:i>=(t.1.length:Int)
 ·rw[eQ h2,ae,bf (by omega)];rfl
 rw[dQ h2,ah]
 by_cases h3:br < 0
 ·rw[bh h3,ae,bf (by omega)];rfl
 rw[aR h3,ah]
 by_cases h4:br > 3
 ·rw[cX h4,ae,bf (by omega)];rfl
 rw[cj h4,ah]
 by_cases h5:ks.length > 12
 ·rw[cX (by omega),ae,bf (by omega)];rfl
 rw[cj (by omega),ah,aP (p:=0<=i/\i < (t.1.length:Int)/\0<=br/\br < 4/\ks.length<=12) (by omega),kX.run (d:=t) hv]
 simp only[ab,bE,kX.F]
 rw[ba.L0.run (d:=(i,ks,t,0,((0:Int),()),br,0,(sc,()),C5 t,[])) ⟨by show ks.length<=_;omega,hu,MQ,0,aV _,rfl,rfl,aV _⟩]
 simp only[ab,ba.L0.add,ba.L0.F,bH,aI,aS]
 rcases fL (ks.any lI) with hb | hb
 ·simp only[hb,if_true];rfl
 ·obtain⟨k,rfl⟩:∃k:Nat,i=k:=⟨i.toNat,by omega⟩
  have hk:k < t.1.length:=by omega
  have U5:(t.1.set k ((nth gX t.1 k).1,((br,(ks.map (λk=>pa k (C5 t)),(sc,()))),(nth gX t.1 k).2.2))).length=t.1.length:=j8
  simp only[hb,bJ,if_false,gg,fe,ah,ab,dX,Bool.and_self,if_true]
  rw[aW.run (d:=t) (Lw nj)]
  simp only[ab,bE,aW.F,aa,aO]
  rw[bp (by omega) (by omega),ae,aP hk,ae,aP trivial,ae,ae,U5,aP ⟨trivial,ay _⟩,ae,aP ⟨trivial,ay _⟩,ae,fi U5,fi rfl]
  rfl
theorem ba.run:ba.RS:=rE [.d iL,.d ti,.d ti,.d tU,.d tu] ba
def ba.sg:=ba.fS ba.ok 1 ⟨.hZ ba.L0.ok,trivial⟩
def mT:List Int:=[152,45,158,62,185,150,245,89,230,51,244,209,148,222,243,118,29,144,159,90,59,100,125,26,133,31,234,214,124,50,201,209]
theorem s3:pa 3 mT=(2066670005889522986,1913675330412042729,()):=by decide+kernel
theorem s5:pa 5 mT=(1601457595092860225,1871270319440231866,()):=by decide+kernel
theorem u0:je 0:=⟨dT 0,by decide⟩
theorem NP{ks:List Int}(h:Db ks):Hh (jV ks):=λb hb=>by
 have hb:b∈ [(ks,(0:Int),(0:Int),(0:Int),())]:=hb
 rw[ck]at hb
 subst hb
 exact⟨h,u0⟩
theorem SV:y7 0=true:=rfl
theorem Ni(ks:List Int)(a d:Int)(h:ks.length<=12):qM (ks,a,d,0,())=(ks.all tw && (y7 a && y7 d)):=by
 have e:qM (ks,a,d,0,())=(decide (ks.length<=12) && (ks.all tw && (y7 a && (y7 d && true)))):=rfl
 rw[e,aP h,bO,l6]
theorem Me(ks:List Int)(h:ks.length<=12):nC (jV ks)=ks.all tw:=by
 have e:nC (jV ks)=((qM (ks,0,0,0,()) && true) && true):=rfl
 rw[e,Ni _ _ _ h,SV,l6,l6,l6,l6]
end Go.Ab
end
