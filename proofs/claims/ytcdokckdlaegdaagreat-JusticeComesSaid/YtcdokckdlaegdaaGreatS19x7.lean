/-
  Made short by a program of mine (wip/tools/mini.py).
-/
import Derived.Test.YtcdokckdlaegdaaGreatS19x6
set_option linter.unusedVariables false
set_option linter.unusedSimpArgs false
set_option maxRecDepth 100000
set_option synthInstance.maxSize 5000
noncomputable section
namespace Go.Ab
open Go.Proofs
abbrev iI.L0.D:=Bs×Bs×Int×Int
def iI.L0.st:iI.L0.D->AS:=λ(Je,xT,t12,t13)=>⟨([.d tU Je,.d tU xT]++bG 10 ([.d ti t12,.d ti t13]++bG 12 [])),[],(List.replicate 26 [])⟩
abbrev iI.L0.Y0:=Unit
abbrev iI.L0.X0:=Unit
def iI.L0.bY:iI.L0.X0->Exit×AS:=λx=>(.ret,⟨(bG 4 ([.d .bool false]++bG 21 [])),[],(List.replicate 26 [])⟩)
abbrev iI.L0.Y1:=Unit
abbrev iI.L0.X1:=Unit
def iI.L0.ko:iI.L0.X1->Exit×AS:=λx=>(.exit 0,⟨(bG 26 []),[],(List.replicate 26 [])⟩)
abbrev iI.L0.X:=(iI.L0.X0)⊕(iI.L0.X1)
abbrev iI.L0.Y:=(iI.L0.Y0)⊕(iI.L0.Y1)
def iI.L0.out:iI.L0.X->Out (Exit×AS):=λx=> .br x.isLeft (.get x.getLeft? λa=> .ok (iI.L0.bY a)) (.get x.getRight? λb=> .ok (iI.L0.ko b))
def iI.L0.add:iI.L0.D->iI.L0.Y->iI.L0.X:=λ(Je,xT,t12,t13) y=>match y with | .inl y=> .inl y | .inr z=> .inr (z)
abbrev iI.D:=Bs×Bs
def iI.st:iI.D->SA:=λ(s1,s2)=>([.d tU s1,.d tU s2],[])
abbrev iI.Y:=Bool
abbrev iI.X:=Bool
def iI.out:iI.X->aX:=λx=>⟨.d .bool x,[],[]⟩
def iI.add:iI.D->iI.Y->iI.X:=λ(s1,s2) y=>y
def iI.L0.az:iI.L0.D->Prop:=λ(a,b,m,i)=>a.length<=1000000000/\a.length=b.length/\m=a.length/\∃k:Nat,k<=a.length/\i=k
def iI.L0.F:iI.L0.D->iI.L0.Y:=λ(a,b,m,i)=>if a.drop i.toNat=b.drop i.toNat then .inr () else .inl ()
def iI.az:iI.D->Prop:=λ(a,b)=>a.length<=1000000000
def iI.F:iI.D->iI.Y:=λ(a,b)=>decide (a=b)
def iI.G:fD:=gr (P:=Tryz.prog) []
def iI.L0.E:=cU.dp iI.L0.st iI.L0.az iI.L0.add iI.L0.F iI.L0.out
def iI.L0.call:iI.L0.D->Option iI.L0.X:=eI iI.L0.E iI.L0.st
def iI.an:fR:= {loops:=om [(4,{bO:=[0,1,12,13]})],outs:=oh [(4,{},{bO:=[4]})],jo:=pb [(4,iI.L0.E)]}
def iI.A:= @dm Tryz.prog iI.G iI.an 0 Tryz.f59 _ iI.st
abbrev iI.Ok:=dn @iI.A iI.az iI.add iI.F iI.out
def iI.L0.R:= @dr Tryz.prog iI.G iI.an 0 Tryz.f59 0 _ iI.L0.st
abbrev iI.L0.Ok:=gz Tryz.prog iI.G iI.an 0 Tryz.f59 0 iI.L0.st iI.L0.az iI.L0.add iI.L0.F iI.L0.out
theorem iI.L0.run:b8 iI.L0.call iI.L0.az iI.L0.add iI.L0.F:=gR (gJ [.d tU,.d tU,.d ti,.d ti] λ_=>by kernel_rfl)
theorem iI.L0.aI:rV @iI.L0.R iI.L0.st iI.L0.az iI.L0.add iI.L0.F iI.L0.out iI.L0.Ok:=sy
theorem iI.L0.step{R:Type}(Je:Bs)(xT:Bs)(t12:Int)(t13:Int)(kn:AS->Option R)(kx:Exit->AS->Option R):iI.L0.R (Je,xT,t12,t13) kn kx=
  aJ ((jM t13 t12)) (
   aJ (fB t13 (((List.length Je):Nat):Int)) (
   aJ (fB t13 (((List.length xT):Nat):Int)) (
   aJ ((tc (nth tu Je (Int.toNat t13)) (nth tu xT (Int.toNat t13)))) (
    kx (iI.L0.bY ()).1 (iI.L0.bY ()).2) (
    kn (iI.L0.st (Je,xT,t12,(bV .i64 t13 (1:Int)))))) none) none) (
   kx (iI.L0.ko ()).1 (iI.L0.ko ()).2):=by kernel_rfl
theorem iI.eq{R:Type}(s1:Bs)(s2:Bs)(k:aX->Option R):iI.A (s1,s2) k=
  aJ ((tc (((List.length s1):Nat):Int) (((List.length s2):Nat):Int))) (
   k (iI.out false)) (
   ah (iI.L0.call (s1,s2,(((List.length s1):Nat):Int),(0:Int))) λx1=>
   aJ (x1.isLeft) (
    ah (x1.getLeft?) λa2=>
    k (iI.out false)) (
    ah (x1.getRight?) λb3=>
    k (iI.out true))):=by kernel_rfl
theorem iI.L0.ok:iI.L0.Ok:=by
 refine iI.L0.aI (λ(a,b,m,i)=>a.length - i.toNat) ?_
 rintro⟨a,b,m,i⟩ ⟨hl,K4,rfl,k,hk,rfl⟩
 have hl:a.length<=1000000000:=hl
 have K4:a.length=b.length:=K4
 have hk:k<=a.length:=hk
 by_cases h:k < a.length
 ·have h2:k < b.length:=by omega
  have n1:nth (.int .u64) a k=a[k]:=dQ (t:=(.int .u64)) h
  have n2:nth (.int .u64) b k=b[k]:=dQ (t:=(.int .u64)) h2
  have hd:(a.drop k=b.drop k)=(a[k]=b[k]/\a.drop (k+1)=b.drop (k+1)):=by rw[av h,av h2,gl]
  have step:∀ {R:Type} (kn:AS->Option R) (kx:Exit->AS->Option R),iI.L0.R (a,b,(a.length:Int),(k:Int)) kn kx=if a[k]=b[k] then kn (iI.L0.st (a,b,(a.length:Int),((k+1:Nat):Int))) else kx (iI.L0.bY ()).1 (iI.L0.bY ()).2:=by
   intro R kn kx
   rw[iI.L0.step,bI (by omega),bF (by omega) (by omega),bF (by omega) (by omega),aa,n1,n2,N.pF (by omega)]
   simp only[ae]
   by_cases hx:a[k]=b[k]
   ·rw[gZ hx,if_pos hx];rfl
   ·rw[jE hx,if_neg hx];rfl
  by_cases hx:a[k]=b[k]
  ·left
   refine⟨(a,b,(a.length:Int),((k+1:Nat):Int)),⟨hl,K4,rfl,k+1,by omega,rfl⟩,by simp only[aa];omega,?_,λkn kx=> ?_⟩
   ·simp only[iI.L0.add,iI.L0.F,aa,hd,hx,true_and]
   ·rw[step,if_pos hx]
  ·right
   refine⟨iI.L0.bY (),?_,λkn kx=> ?_⟩
   ·simp only[iI.L0.add,iI.L0.F,aa,hd,hx,false_and,if_false]
    rfl
   ·rw[step,if_neg hx]
 ·right
  obtain rfl:k=a.length:=by omega
  refine⟨iI.L0.ko (),?_,λkn kx=> ?_⟩
  ·simp only[iI.L0.add,iI.L0.F,aa,bB]
   rw[K4,bB,if_pos rfl]
   rfl
  ·rw[iI.L0.step,bp (by omega),ai]
theorem iI.ok:iI.Ok:=by
 rintro⟨a,b⟩ hl
 have hl:a.length<=1000000000:=hl
 rw[iI.eq]
 simp only[iI.add,iI.F]
 by_cases h:a.length=b.length
 ·rw[gZ (by omega),ai,iI.L0.run (d:=(a,b,(a.length:Int),0)) ⟨hl,h,rfl,0,bm _,rfl⟩]
  simp only[ab,iI.L0.add,iI.L0.F,bH,aW]
  by_cases hx:a=b
  ·rw[if_pos hx,aM hx];rfl
  ·rw[if_neg hx,cq hx];rfl
 ·rw[jE (by omega),cq (λx=>h (by rw[x]))];rfl
def iI.E:=Entry.dp [some tU,some tU] iI.st iI.az iI.add iI.F iI.out
def iI.call:iI.D->Option iI.X:=bX iI.E iI.st
theorem iI.run:b8 iI.call iI.az iI.add iI.F:=dv (du [.d tU,.d tU] λ_=>by kernel_rfl)
def iI.sg:SG Tryz.prog:=⟨59,aP,iI.E,.fn 1 (by kernel_rfl) iI.ok (And.intro (.dp iI.L0.ok (by kernel_rfl)) trivial)⟩
abbrev fg.D:=ov×ov
def fg.st:fg.D->SA:=λ(x,yv)=>([.d mC x,.d mC yv],[])
abbrev fg.Y:=Bool
abbrev fg.X:=Bool
def fg.out:fg.X->aX:=λx=>⟨.d .bool x,[],[]⟩
def fg.add:fg.D->fg.Y->fg.X:=λ(x,yv) y=>y
def fg.az:fg.D->Prop:=λ(x,z)=>x.1.length<=1000000000
def fg.F:fg.D->fg.Y:=λ(x,z)=>decide (x=z)
def fg.G:fD:=gr (P:=Tryz.prog) [iI.sg]
def fg.an:fR:= {}
def fg.A:= @dm Tryz.prog fg.G fg.an 0 Tryz.f58 _ fg.st
abbrev fg.Ok:=dn @fg.A fg.az fg.add fg.F fg.out
theorem fg.eq{R:Type}(x:ov)(yv:ov)(k:aX->Option R):fg.A (x,yv) k=
  ah (iI.call (x.1,yv.1)) λx1=>
  aJ (x1) (
   aJ ((mV x.2.1 yv.2.1)) (
    aJ ((mV x.2.2.1 yv.2.2.1)) (
     k (fg.out (mV x.2.2.2.1 yv.2.2.2.1))) (
     k (fg.out false))) (
    k (fg.out false))) (
   k (fg.out false)):=by kernel_rfl
theorem fg.ok:fg.Ok:=by
 rintro⟨⟨k1,a1,d1,s1,u1⟩,⟨k2,a2,d2,s2,u2⟩⟩ h
 have h:k1.length<=1000000000:=h
 rw[fg.eq,iI.run (d:=(k1,k2)) h]
 simp only[ab,iI.add,iI.F,fg.add,fg.F]
 by_cases e1:k1=k2
 ·by_cases e2:a1=a2
  ·by_cases e3:d1=d2
   ·by_cases e4:s1=s2
    ·rw[aM e1,fA e2,fA e3,fA e4,aM (by rw[e1,e2,e3,e4])];rfl
    ·rw[aM e1,fA e2,fA e3,fJ e4,cq (by rintro⟨⟩;exact e4 rfl)];rfl
   ·rw[aM e1,fA e2,fJ e3,cq (by rintro⟨⟩;exact e3 rfl)];rfl
  ·rw[aM e1,fJ e2,cq (by rintro⟨⟩;exact e2 rfl)];rfl
 ·rw[cq e1,cq (by rintro⟨⟩;exact e1 rfl)];rfl
def fg.E:=Entry.dp [some mC,some mC] fg.st fg.az fg.add fg.F fg.out
def fg.call:fg.D->Option fg.X:=bX fg.E fg.st
theorem fg.run:b8 fg.call fg.az fg.add fg.F:=dv (du [.d mC,.d mC] λ_=>by kernel_rfl)
def fg.sg:SG Tryz.prog:=⟨58,aP,fg.E,.fn 0 (by kernel_rfl) fg.ok trivial⟩
def QK(l:Lk):Prop:=l.1.length<=1000000000/\∀b∈l.1,b.1.length<=1000000000
abbrev dP.L0.D:=(List ov)×(List ov)×Int×Int
def dP.L0.st:dP.L0.D->AS:=λ(xT,t15,t16,t17)=>⟨([.undef,.d (.slice mC) xT,.fn 58 (.nil)]++bG 12 ([.d (.slice mC) t15,.d ti t16,.d ti t17]++bG 14 [])),[],(List.replicate 32 [])⟩
abbrev dP.L0.Y0:=Unit
abbrev dP.L0.X0:=Unit
def dP.L0.bY:dP.L0.X0->Exit×AS:=λx=>(.ret,⟨(bG 6 ([.d .bool false]++bG 25 [])),[],(List.replicate 32 [])⟩)
abbrev dP.L0.Y1:=Unit
abbrev dP.L0.X1:=Unit
def dP.L0.ko:dP.L0.X1->Exit×AS:=λx=>(.exit 0,⟨(bG 32 []),[],(List.replicate 32 [])⟩)
abbrev dP.L0.X:=(dP.L0.X0)⊕(dP.L0.X1)
abbrev dP.L0.Y:=(dP.L0.Y0)⊕(dP.L0.Y1)
def dP.L0.out:dP.L0.X->Out (Exit×AS):=λx=> .br x.isLeft (.get x.getLeft? λa=> .ok (dP.L0.bY a)) (.get x.getRight? λb=> .ok (dP.L0.ko b))
def dP.L0.add:dP.L0.D->dP.L0.Y->dP.L0.X:=λ(xT,t15,t16,t17) y=>match y with | .inl y=> .inl y | .inr z=> .inr (z)
abbrev dP.D:=(List ov)×(List ov)
def dP.st:dP.D->SA:=λ(s1,s2)=>([.d (.slice mC) s1,.d (.slice mC) s2,.fn 58 (.nil)],[])
abbrev dP.Y:=Bool
abbrev dP.X:=Bool
def dP.out:dP.X->aX:=λx=>⟨.d .bool x,[],[]⟩
def dP.add:dP.D->dP.Y->dP.X:=λ(s1,s2) y=>y
def dP.L0.az:dP.L0.D->Prop:=λ(b,a,m,i)=>(a.length<=1000000000/\∀x∈a,x.1.length<=1000000000)/\a.length=b.length/\m=a.length/\∃k:Nat,k<=a.length/\i=k
def dP.L0.F:dP.L0.D->dP.L0.Y:=λ(b,a,m,i)=>if a.drop i.toNat=b.drop i.toNat then .inr () else .inl ()
def dP.az:dP.D->Prop:=λ(a,b)=>a.length<=1000000000/\∀x∈a,x.1.length<=1000000000
def dP.F:dP.D->dP.Y:=λ(a,b)=>decide (a=b)
def dP.G:fD:=gr (P:=Tryz.prog) [fg.sg]
def dP.L0.E:=cU.dp dP.L0.st dP.L0.az dP.L0.add dP.L0.F dP.L0.out
def dP.L0.call:dP.L0.D->Option dP.L0.X:=eI dP.L0.E dP.L0.st
def dP.an:fR:= {loops:=om [(4,{bO:=[1,2,15,16,17]})],outs:=oh [(4,{},{bO:=[6]})],jo:=pb [(4,dP.L0.E)]}
def dP.A:= @dm Tryz.prog dP.G dP.an 0 Tryz.f57 _ dP.st
abbrev dP.Ok:=dn @dP.A dP.az dP.add dP.F dP.out
def dP.L0.R:= @dr Tryz.prog dP.G dP.an 0 Tryz.f57 0 _ dP.L0.st
abbrev dP.L0.Ok:=gz Tryz.prog dP.G dP.an 0 Tryz.f57 0 dP.L0.st dP.L0.az dP.L0.add dP.L0.F dP.L0.out
theorem dP.L0.run:b8 dP.L0.call dP.L0.az dP.L0.add dP.L0.F:=gR (gJ [.d (.slice mC),.d (.slice mC),.d ti,.d ti] λ_=>by kernel_rfl)
theorem dP.L0.aI:rV @dP.L0.R dP.L0.st dP.L0.az dP.L0.add dP.L0.F dP.L0.out dP.L0.Ok:=sy
theorem dP.L0.step{R:Type}(xT:(List ov))(t15:(List ov))(t16:Int)(t17:Int)(kn:AS->Option R)(kx:Exit->AS->Option R):dP.L0.R (xT,t15,t16,t17) kn kx=
  aJ ((jM t17 t16)) (
   aJ (fB t17 (((List.length t15):Nat):Int)) (
   aJ (fB t17 (((List.length xT):Nat):Int)) (
   ah (fg.call ((nth mC t15 (Int.toNat t17)),(nth mC xT (Int.toNat t17)))) λx1=>
   aJ ((!x1)) (
    kx (dP.L0.bY ()).1 (dP.L0.bY ()).2) (
    kn (dP.L0.st (xT,t15,t16,(bV .i64 t17 (1:Int)))))) none) none) (
   kx (dP.L0.ko ()).1 (dP.L0.ko ()).2):=by kernel_rfl
theorem dP.eq{R:Type}(s1:(List ov))(s2:(List ov))(k:aX->Option R):dP.A (s1,s2) k=
  aJ ((tc (((List.length s1):Nat):Int) (((List.length s2):Nat):Int))) (
   k (dP.out false)) (
   ah (dP.L0.call (s2,s1,(((List.length s1):Nat):Int),(0:Int))) λx2=>
   aJ (x2.isLeft) (
    ah (x2.getLeft?) λa3=>
    k (dP.out false)) (
    ah (x2.getRight?) λb4=>
    k (dP.out true))):=by kernel_rfl
theorem dP.L0.ok:dP.L0.Ok:=by
 refine dP.L0.aI (λ(b,a,m,i)=>a.length - i.toNat) ?_
 rintro⟨b,a,m,i⟩ ⟨⟨hl,he⟩,K4,rfl,k,hk,rfl⟩
 have hl:a.length<=1000000000:=hl
 have K4:a.length=b.length:=K4
 have hk:k<=a.length:=hk
 by_cases h:k < a.length
 ·have h2:k < b.length:=by omega
  have n1:nth (.pair (.slice (.int .u64)) (.pair (.int .i64) (.pair (.int .i64) (.pair (.int .u64) .unit)))) a k=a[k]:=dQ (t:=(.pair (.slice (.int .u64)) (.pair (.int .i64) (.pair (.int .i64) (.pair (.int .u64) .unit))))) h
  have n2:nth (.pair (.slice (.int .u64)) (.pair (.int .i64) (.pair (.int .i64) (.pair (.int .u64) .unit)))) b k=b[k]:=dQ (t:=(.pair (.slice (.int .u64)) (.pair (.int .i64) (.pair (.int .i64) (.pair (.int .u64) .unit))))) h2
  have hd:(a.drop k=b.drop k)=(a[k]=b[k]/\a.drop (k+1)=b.drop (k+1)):=by rw[av h,av h2,gl]
  have step:∀ {R:Type} (kn:AS->Option R) (kx:Exit->AS->Option R),dP.L0.R (b,a,(a.length:Int),(k:Int)) kn kx=if a[k]=b[k] then kn (dP.L0.st (b,a,(a.length:Int),((k+1:Nat):Int))) else kx (dP.L0.bY ()).1 (dP.L0.bY ()).2:=by
   intro R kn kx
   rw[dP.L0.step,bI (by omega),bF (by omega) (by omega),bF (by omega) (by omega),aa,n1,n2,N.pF (by omega),fg.run (d:=(a[k],b[k])) (he _ (List.getElem_mem h))]
   simp only[ae,ab,fg.add,fg.F]
   by_cases hx:a[k]=b[k]
   ·rw[aM hx,if_pos hx];rfl
   ·rw[cq hx,if_neg hx];rfl
  by_cases hx:a[k]=b[k]
  ·left
   refine⟨(b,a,(a.length:Int),((k+1:Nat):Int)),⟨⟨hl,he⟩,K4,rfl,k+1,by omega,rfl⟩,by simp only[aa];omega,?_,λkn kx=> ?_⟩
   ·simp only[dP.L0.add,dP.L0.F,aa,hd,hx,true_and]
   ·rw[step,if_pos hx]
  ·right
   refine⟨dP.L0.bY (),?_,λkn kx=> ?_⟩
   ·simp only[dP.L0.add,dP.L0.F,aa,hd,hx,false_and,if_false]
    rfl
   ·rw[step,if_neg hx]
 ·right
  obtain rfl:k=a.length:=by omega
  refine⟨dP.L0.ko (),?_,λkn kx=> ?_⟩
  ·simp only[dP.L0.add,dP.L0.F,aa,bB]
   rw[K4,bB,if_pos rfl]
   rfl
  ·rw[dP.L0.step,bp (by omega),ai]
theorem dP.ok:dP.Ok:=by
 rintro⟨a,b⟩ hl
 have Vs:a.length<=1000000000:=hl.1
 rw[dP.eq]
 simp only[dP.add,dP.F]
 by_cases h:a.length=b.length
 ·rw[gZ (by omega),ai,dP.L0.run (d:=(b,a,(a.length:Int),0)) ⟨hl,h,rfl,0,bm _,rfl⟩]
  simp only[ab,dP.L0.add,dP.L0.F,bH,aW]
  by_cases hx:a=b
  ·rw[if_pos hx,aM hx];rfl
  ·rw[if_neg hx,cq hx];rfl
 ·rw[jE (by omega),cq (λx=>h (by rw[x]))];rfl
def dP.E:=Entry.dp [some (.slice mC),some (.slice mC),none] dP.st dP.az dP.add dP.F dP.out
def dP.call:dP.D->Option dP.X:=bX dP.E dP.st
theorem dP.run:b8 dP.call dP.az dP.add dP.F:=dv (du [.d (.slice mC),.d (.slice mC)] λ_=>by kernel_rfl)
def dP.sg:SG Tryz.prog:=⟨57,aP,dP.E,.fn 1 (by kernel_rfl) dP.ok (And.intro (.dp dP.L0.ok (by kernel_rfl)) trivial)⟩
abbrev iq.D:=Lk×Lk
def iq.st:iq.D->SA:=λ(a,b)=>([.d qS a,.d qS b],[])
abbrev iq.Y:=Bool
abbrev iq.X:=Bool
def iq.out:iq.X->aX:=λx=>⟨.d .bool x,[],[]⟩
def iq.add:iq.D->iq.Y->iq.X:=λ(a,b) y=>y
def iq.az:iq.D->Prop:=λ(a,b)=>QK a
def iq.F:iq.D->iq.Y:=λ(a,b)=>decide (a.1=b.1)
def iq.G:fD:=gr (P:=Tryz.prog) [dP.sg]
def iq.an:fR:= {}
def iq.A:= @dm Tryz.prog iq.G iq.an 0 Tryz.f24 _ iq.st
abbrev iq.Ok:=dn @iq.A iq.az iq.add iq.F iq.out
theorem iq.eq{R:Type}(a:Lk)(b:Lk)(k:aX->Option R):iq.A (a,b) k=
 ah (dP.call (a.1,b.1)) λx1=>
 k (iq.out x1):=by kernel_rfl
theorem iq.ok:iq.Ok:=by
 rintro⟨a,b⟩ h
 rw[iq.eq,dP.run (d:=(a.1,b.1)) h]
 rfl
def iq.E:=Entry.dp [some qS,some qS] iq.st iq.az iq.add iq.F iq.out
def iq.call:iq.D->Option iq.X:=bX iq.E iq.st
theorem iq.run:b8 iq.call iq.az iq.add iq.F:=dv (du [.d qS,.d qS] λ_=>by kernel_rfl)
def iq.sg:SG Tryz.prog:=⟨24,aP,iq.E,.fn 0 (by kernel_rfl) iq.ok trivial⟩
noncomputable section
theorem Ng{ch:iP}{s:jk}{me per rev pay per2 rev2 pay2 n:Int}(fI:mX ch)(hs:wB ch s)(hm:me=0\/me=1):jP (wS (de ch s (1 - me) per) rev pay) n=jP (wS (de ch s (1 - me) per2) rev2 pay2) n:=by
 have h1:=wT (own:=1 - me) (per:=per) (rev:=rev) (pay:=pay) fI hs (by omega)
 have h2:=wT (own:=1 - me) (per:=per2) (rev:=rev2) (pay:=pay2) fI hs (by omega)
 rw[l8,l8,h1.1,h1.2,h2.1,h2.2]
theorem O1{ch:iP}{s:jk}{me per rev pay n:Int}(fI:mX ch)(hs:wB ch s)(hm:me=0\/me=1)(hn:0<=n/\n<=1000):yx ch me s n=imax 0 (jP (wS (de ch s (1 - me) per) rev pay) n):=by
 have L7:nw ch s (1 - me) 4=(de ch s (1 - me) 4,0):=by
  unfold nw
  rw[aM (show 1 - me=0\/1 - me=1 by omega),Fu,if_pos (show(true && true)=true from rfl),if_pos (ru.2 hs)]
 unfold yx
 rw[kr (by omega) (by omega),kr hn.1 hn.2,if_pos (show(true && true)=true from rfl),L7,if_pos rfl]
 exact congrArg (imax 0) (Ng fI hs hm)
theorem Ll{ch:iP}{s:jk}{me per rev pay n:Int}(fI:mX ch)(hs:wB ch s)(hm:me=0\/me=1)(hn:0<=n):jP (wS (de ch s (1 - me) per) rev pay) n<=1125899906842624:=by
 have ho:1 - me=0\/1 - me=1:=by omega
 have h1:=wT (per:=per) (rev:=rev) (pay:=pay) fI hs ho
 have r0:=ui hs ho
 have r1:=ui hs (n:=1 - (1 - me)) (by omega)
 have rs:=Aa fI s ho
 have ht:=hs.Uj
 have ha:=fI.EY
 have H9:=uX _ hs.a
 have hf:=vM s.2.2.2.1 (ja s.2.2.1).length
 have e0:∀x:Int,0<=x->R2 x<=x:=λx hx=>by unfold R2;split <;> omega
 have q0:=e0 _ r0
 have q1:=e0 _ r1
 have hw:0<=n*(18+18*((wS (de ch s (1 - me) per) rev pay).length:Int)):=pS hn (by omega)
 rw[l8,h1.2]
 omega
theorem RI{p:yf}{me:Int}(hm:me=0\/me=1):∃kit,nth rU [oD (nth tH p.1 0),oD (nth tH p.1 1)] me.toNat=kit/\EU kit/\nm (so p) me=uw kit/\(0 < kit.2.1/\kit.2.1 < 2305843009213688669)/\0<=kit.2.2.2.2.1:=by
 rcases hm with rfl | rfl
 ·exact⟨oD (nth tH p.1 0),rfl,vW _,rfl,lX _,nU (lX _).1⟩
 ·exact⟨oD (nth tH p.1 1),rfl,vW _,rfl,lX _,nU (lX _).1⟩
theorem Lh{ch:iP}{s:jk}{kit:pE}{me n:Int}{secret:List Int}{to:Lk}(hs:wB ch s)(hm:me=0\/me=1)(hn:0<=n/\n<=1000)(sY:lj to=true)(hb:nm ch me=uw kit):
  kV ch kit me s secret to n=(wS (de ch s (1 - me) (l5 secret)) (sm kit.2.2.2.2.1 secret) kit.2.1,0):=by
 have Vx:CB ch kit me to n=true:=by
  unfold CB
  rw[kr (by omega) (by omega),kr hn.1 hn.2,sY,hb,Ms]
  rfl
 unfold kV
 rw[if_pos Vx,Nr hs (by omega)]
 rfl
abbrev dA.wY.X:=Bool×Int×Int×Int×Int×Int×Lk×je
def dA.wY.st:dA.wY.X->AS:=λ(head,n,gain,mU,f,g,Yw,OA)=>⟨(bG 9 ([.d .bool head,.undef,.d ti n,.undef,.undef,.undef,.ptr (.new 15 0) 0 [] 0,.undef,.undef,.undef,.ptr (.new 19 0) 0 [] 0,.undef,.d ti gain,.undef,.d ti mU,.d ti f,.d ti g]++bG 134 [])),[],(dh 15 ([[.obj 0 false (.d qS Yw)],[],[],[],[.obj 0 false (.d lS OA)]]++dh 140 []))⟩
def dA.wY.J:BE:=BE.of {bO:=[9,11,15,19,21,23,24,25],sites:=[15,19]} dA.wY.st
def dA.wY.fin:dA.wY.X->Option dA.wY.X:=λx=>(dA.wY.J).SJ .normal (dA.wY.st x)
theorem dA.wY.Q9(x:dA.wY.X):dA.wY.fin x=some x:=BE.RT (gJ [.d .bool,.d ti,.d ti,.d ti,.d ti,.d ti,.d qS,.d lS] λ_=>by kernel_rfl) x
abbrev dA.D:=yf×Int×Int×Int
def dA.st:dA.D->SA:=λ(p,side,bQ,height)=>([.d Kp p,.d tb side,.d tb bQ,.d (.int .u16) height],[])
abbrev dA.Y:=Bool
abbrev dA.X:=Bool
def dA.out:dA.X->aX:=λx=>⟨.d .bool x,[],[]⟩
def dA.add:dA.D->dA.Y->dA.X:=λ(p,side,bQ,height) y=>y
def dA.az:dA.D->Prop:=λ(p,side,bQ,height)=>LY p/\Sm p.2.2.2.2.2.2.2.1/\(0<=side/\side < 256)/\(0<=bQ/\bQ < 256)/\0<=height/\height < 65536
def dA.F:dA.D->dA.Y:=λ_=>true
def dA.G:fD:=gr (P:=Tryz.prog) [dq.sg,aN.sg,jG.sg,dU.sg,fk.sg,fF.sg,tid.sg,aA.sg,aK.sg,bE.sg,bu.sg,iq.sg]
def dA.an:fR:= {Qh:=pb [(18,dA.wY.J)]}
def dA.A:= @dm Tryz.prog dA.G dA.an 0 Tryz.f6 _ dA.st
abbrev dA.Ok:=dn @dA.A dA.az dA.add dA.F dA.out
theorem dA.eq{R:Type}(p:yf)(side:Int)(bQ:Int)(height:Int)(k:aX->Option R):dA.A (p,side,bQ,height) k=
  ah (dq.call ()) λx4=>
  ah (aN.call p) λx8=>
  aJ (fB (fa .i64 (iN side (2:Int))) (2:Int)) (
  aJ (decide ((Int.toNat (fa .i64 (iN side (2:Int)))) < (List.length x8.1.2.2.1))) (
  aJ (decide ((33+(1+(((Int.toNat (fa .i64 (iN side (2:Int))))*5)+1)))=((34+((Int.toNat (fa .i64 (iN side (2:Int))))*5))+1))) (
  ah (jG.call (nth qo x8.1.2.2.1 (Int.toNat (fa .i64 (iN side (2:Int))))).2.1) λDk=>
  ah (dU.call (p,(fa .i64 (iN side (2:Int))))) λKx=>
  aJ (fB (fa .i64 (iN side (2:Int))) (2:Int)) (
  aJ (decide ((Int.toNat (fa .i64 (iN side (2:Int)))) < (List.length x8.2.1))) (
  aJ (decide ((((Int.toNat (fa .i64 (iN side (2:Int))))*37)+0)=(0+((Int.toNat (fa .i64 (iN side (2:Int))))*37)))) (
  ah (fk.call (x8.1,(nth rU x8.2.1 (Int.toNat (fa .i64 (iN side (2:Int))))),(fa .i64 (iN side (2:Int))),x8.2.2,p.2.2.2.2.2.2.2.1,Dk,(fa .i64 (iN bQ (61:Int))))) λJu=>
  ah (fF.call (x8.1,(fa .i64 (iN side (2:Int))),x8.2.2,(fa .i64 (iN bQ (61:Int))))) λD1=>
  aJ ((tc Ju.2 (0:Int))) (
   aJ (x4) (
    aJ ((mV Ju.2 (8:Int))) (
     aJ ((mV D1 (0:Int))) (
      k (dA.out true)) (
      k (dA.out (mV Ju.2 (1:Int))))) (
     k (dA.out (mV Ju.2 (1:Int))))) (
    k (dA.out false))) (
   ah (tid.call Kx.1.1) λMf=>
   ah (tid.call Ju.1) λUO=>
   ah (aA.call [Mf,UO]) λWz=>
   aJ ((!Wz)) (
    k (dA.out x4)) (
    aJ ((!Kx.2.1)) (
     k (dA.out false)) (
     ah (aK.call (Ju.1,(bV .i64 (1:Int) (fa .i64 height)),Kx.2.2.1,Kx.2.2.2.1,Kx.2.2.2.2)) λOE=>
     ah (
      ah (bE.call (Ju.1,(bV .i64 (1:Int) (fa .i64 height)),OE.2.2.1,OE.2.2.2.1,OE.2.2.2.2)) λMg=>
      aJ (Mg.isLeft) (
       ah (Mg.getLeft?) λWA=>
       dA.wY.fin (x4,(fa .i64 (iN bQ (61:Int))),D1,OE.1,OE.2.1,WA.1,Dk,Ju.1)) (
       ah (Mg.getRight?) λWB=>
       dA.wY.fin (x4,(fa .i64 (iN bQ (61:Int))),D1,OE.1,OE.2.1,WB.1,Dk,Ju.1))) λIg=>
     aJ (Ig.1) (
      aJ ((mV Ig.2.2.2.2.1 (0:Int))) (
       aJ ((mV Ig.2.2.2.2.2.1 (0:Int))) (
        ah (bu.call Ig.2.2.2.2.2.2.2) λWC=>
        aJ ((mV Ig.2.2.2.1 (gY .i64 Ig.2.1 WC))) (
         aJ ((mV (((List.length Ig.2.2.2.2.2.2.2.2.1):Nat):Int) (1:Int))) (
          aJ (fB (0:Int) (((List.length Ig.2.2.2.2.2.2.2.2.1):Nat):Int)) (
          aJ ((mV (nth lH Ig.2.2.2.2.2.2.2.2.1 0).1 Ig.2.2.1)) (
           aJ (fB (0:Int) (((List.length Ig.2.2.2.2.2.2.2.2.1):Nat):Int)) (
           ah (iq.call ((nth lH Ig.2.2.2.2.2.2.2.2.1 0).2.1,Ig.2.2.2.2.2.2.1)) λWD=>
           aJ (WD) (
            k (dA.out (qu Ig.2.2.1 (1:Int)))) (
            k (dA.out false))) none) (
           k (dA.out false))) none) (
          k (dA.out false))) (
         k (dA.out false))) (
        k (dA.out false))) (
       k (dA.out false))) (
      k (dA.out false)))))) none) none) none) none) none) none:=by kernel_rfl
theorem dA.ok:dA.Ok:=by
 rintro⟨p,side,bQ,height⟩ ⟨hp,Ba,VP,hr,hh⟩
 have hp:LY p:=hp
 have Ba:Sm p.2.2.2.2.2.2.2.1:=Ba
 have VP:0<=side/\side < 256:=VP
 have hr:0<=bQ/\bQ < 256:=hr
 have hh:0<=height/\height < 65536:=hh
 have fI:=Gs hp
 have hu:=Oa p
 have hs:=Ai hp
 have hm:side%2=0\/side%2=1:=by omega
 have hn:0<=bQ%61/\bQ%61 < 61:=by omega
 have c1:dq.call ()=some true:=dq.run (d:=()) trivial
 have TF:tf p=[oD (nth tH p.1 0),oD (nth tH p.1 1)]:=rfl
 have Su:(nm (so p) 0).1=fy (oD (nth tH p.1 0)).1:=rfl
 have yi:(nm (so p) 1).1=fy (oD (nth tH p.1 1)).1:=rfl
 have p0:0 < (oD (nth tH p.1 0)).1/\(oD (nth tH p.1 0)).1 < 2305843009213688669:=lX _
 have p1:0 < (oD (nth tH p.1 1)).1/\(oD (nth tH p.1 1)).1 < 2305843009213688669:=lX _
 rw[dA.eq,c1,ab,aN.c hp,ab]
 rw[lh VP.1,lh hr.1,o8 (x:=side%2) (by omega) (by omega),o8 (x:=bQ%61) (by omega) (by omega),o8 (x:=height) (by omega) (by omega)]
 generalize bQ%61=n at hn
 generalize side%2=me at hm
 obtain⟨kit,Vq,WY,O7,YZ,XS⟩:=RI (p:=p) hm
 have Pc:(so p).2.2.1.length=2:=rfl
 have L4:(tf p).length=2:=rfl
 have c2:jG.call (nth qo (so p).2.2.1 me.toNat).2.1=some (sX [(nm (so p) me).2.1]):=jG.run (d:=(nth qo (so p).2.2.1 me.toNat).2.1) trivial
 have cw:=dU.run (d:=(p,me)) ⟨hp,Ba,hm⟩
 simp only[dU.add,dU.F]at cw
 rw[bF (by omega) (by omega),ae]
 rw[aM (show me.toNat < (so p).2.2.1.length by omega),ae,aM (show 33+(1+(me.toNat*5+1))=34+me.toNat*5+1 by omega),ae,c2,ab,cw,ab,ae]
 rw[aM (show me.toNat < (tf p).length by omega),ae,aM (show me.toNat*37+0=0+me.toNat*37 by omega),ae,TF,Vq]
 have sY:uq (sX [(nm (so p) me).2.1]):=Bp (fI.ba hm).2.1.1
 have TR:lj (sX [(nm (so p) me).2.1])=true:=Cu (tV (fI.ba hm).2.1.p D2 D2 (.inl rfl))
 have SE:iy (l5 p.2.2.2.2.2.2.2.1):=uz _
 have TP:iq.call (sX [(nm (so p) me).2.1],sX [(nm (so p) me).2.1])=some true:=by
  rw[iq.run (d:=(sX [(nm (so p) me).2.1],sX [(nm (so p) me).2.1])) ⟨by show 1<=1000000000;decide,λb hb=>by
   rw[aU.1 (show b∈ [([(nm (so p) me).2.1],((0:Int),((0:Int),((0:Int),()))))] from hb)]
   show 1<=1000000000
   decide⟩]
  exact congrArg some (decide_eq_true rfl)
 have X4:fy kit.2.1=(nm (so p) me).2.1:=by rw[O7];rfl
 have X8:fy (sm kit.2.2.2.2.1 p.2.2.2.2.2.2.2.1)=uU (nm (so p) me).2.2.2.2.1 (l5 p.2.2.2.2.2.2.2.1):=by rw[NV XS,O7];rfl
 generalize sX [(nm (so p) me).2.1]=to at*
 rw[fk.c fI WY hu Ba sY,ab,fF.c fI hu,ab]
 have hJ:vd (so p) kit me (HO p) p.2.2.2.2.2.2.2.1 to n=mc (wS (de (so p) (HO p) (1 - me) (l5 p.2.2.2.2.2.2.2.1)) (sm kit.2.2.2.2.1 p.2.2.2.2.2.2.2.1) kit.2.1) to n:=by
  unfold vd
  rw[Lh hs hm ⟨hn.1,by omega⟩ TR O7]
  rfl
 rw[hJ]
 have Yb:=NU kit.2.2.2.2.1 p.2.2.2.2.2.2.2.1
 generalize sm kit.2.2.2.2.1 p.2.2.2.2.2.2.2.1=rev at*
 generalize l5 p.2.2.2.2.2.2.2.1=per at*
 generalize oD (nth tH p.1 0)=k0 at*
 generalize oD (nth tH p.1 1)=k1 at*
 generalize so p=ch at*
 generalize HO p=s at*
 have hg:=Hr (c:=de ch s (1 - me) per) (rev:=rev) (pay:=kit.2.1) Yb WY.2.1
 have UB:=I2 (de ch s (1 - me) per) rev kit.2.1
 have TA:=O1 (per:=per) (rev:=rev) (pay:=kit.2.1) (n:=n) fI hs hm ⟨hn.1,by omega⟩
 have Ru:=Ll (per:=per) (rev:=rev) (pay:=kit.2.1) (n:=n) fI hs hm hn.1
 have X2:=λ(t:je) (mU:Int) (a:At)=>NB (t:=t) (a:=a) (mU:=mU) (per:=per) (rev:=rev) (pay:=kit.2.1) fI hs hm X4 X8
 rw[TA]
 have ho:1 - me=0\/1 - me=1:=by omega
 have kA:=tX (per:=per) fI hs ho
 have Uv:=(sq fI hu hs ho SE).1
 generalize wS (de ch s (1 - me) per) rev kit.2.1=L at*
 have Va:=LP (l:=L) (to:=to) (bQ:=n)
 have U8:=λ(t:je) (h:Int) (a:At)=>Jn (l:=L) (to:=to) (bQ:=n) (t:=t) (h:=h) (a:=a) hg sY TR UB.1 UB.2 hn.1 Ru
 generalize mc L to n=J at*
 obtain⟨t,e⟩:=J
 by_cases he:e=0
 rotate_left
 ·rw[jE he,ae,ae]
  rcases Va he with⟨h8,mw⟩ | h1
  ·have h8:e=8:=h8
   have:imax 0 (jP L n)=0:=by unfold imax;split <;> omega
   rw[fA h8,ae,fA this,ae]
   rfl
  ·have h1:e=1:=h1
   rw[fJ (show ¬e=8 by omega),ai,fA h1]
   rfl
 subst he
 obtain⟨q1,q2,q3,q4,q5,q6⟩:=U8 t (1+height) (nk (nM k0 k1 (de ch s (1 - me) per).1) 1 (pX ch)) rfl
 have ct:tid.call t=some (oJ t):=tid.run (d:=t) q3
 have cc:tid.call (de ch s (1 - me) per).1=some (oJ (de ch s (1 - me) per).1):=tid.run (d:=(de ch s (1 - me) per).1) Uv
 rw[gZ rfl,ai,cc,ab,ct,ab]
 have ca:aA.call [oJ (de ch s (1 - me) per).1,oJ t]=some (BK [oJ (de ch s (1 - me) per).1,oJ t]):=aA.run (d:=[oJ (de ch s (1 - me) per).1,oJ t]) (by show 2<=1000;decide)
 rw[ca,ab]
 cases XA:BK [oJ (de ch s (1 - me) per).1,oJ t]
 ·rw[gm,ae]
  rfl
 rw[bZ,ai]
 obtain⟨z1,z2⟩:=KH XA
 have Pk:=z1 _ bh
 have Aw:=z1 _ (bj _ bh)
 have zH:oJ (de ch s (1 - me) per).1≠oJ t:=(iX.1 z2).1 _ bh
 have W8:=H0 (k0:=k0) (k1:=k1) fI hu hs ho SE p0 p1 Su yi Pk
 have WN:=OQ W8
 obtain⟨f1,f2,f3,f4⟩:=yw (k0:=k0) (k1:=k1) kA Uv
 have P3:=WN.UZ (E4 fI) f2
 have MW:=q6 ⟨by omega,by omega⟩ (X2 _ _ _ WN f4 rfl) (λo hm'=>HZ fI hu hs ho SE _ (λe=>zH e.symm) Aw hm')
 have hw:Ot ch (nM k0 k1 (de ch s (1 - me) per).1)=(true,(1,(nk (nM k0 k1 (de ch s (1 - me) per).1) 1 (pX ch),[stepOf (nM k0 k1 (de ch s (1 - me) per).1) (pX ch)]))):=by
  unfold Ot
  rw[if_pos W8]
 rw[hw]
 generalize nk (nM k0 k1 (de ch s (1 - me) per).1) 1 (pX ch)=a at*
 generalize stepOf (nM k0 k1 (de ch s (1 - me) per).1) (pX ch)=st
 simp only[bZ,ai]
 rw[ff (x:=1) (by omega) (by omega)]
 rw[aK.run (d:=(t,1+height,1,a,[st])) ⟨q3,P3⟩]
 simp only[ab,aK.add,aK.F]
 rw[bE.run (d:=(t,1+height,1,a,[st])) ⟨q3,P3,aE _,by show 1<=1000000;decide⟩]
 simp only[ab,bE.add,bE.F]
 rw[if_neg (by rw[MW];exact λx=>x rfl)]
 simp only[jB,ai,iD,ab,dA.wY.Q9,MW]
 have hl:=hg.1
 have Y4:=q5.2.1
 have ctw:bu.call t=some (rO t):=bu.run (d:=t) q3
 have hmul:=yJ (r:=n) (w:=rO t) (a:=60) (b:=1170) hn.1 (by omega) (by omega) (by omega)
 have Ce:t.2.1=[(jP L n,(to,()))]:=by rw[q4]
 have hi:imax 0 (jP L n)=jP L n:=by unfold imax;split <;> omega
 rw[ae,fA rfl,ae,ae,ctw,ab,na (by omega) (by omega),fA rfl,ae,Ce,hi]
 rw[fA (by rfl),ae,bF (by omega) (by show(0:Int) < ((1:Nat):Int);decide),ae]
 rw[show nth lH [(jP L n,(to,()))] 0=(jP L n,(to,())) from rfl]
 rw[fA rfl,ae,TP,ab,ae,la (by omega)]
 rfl
def dA.E:=Entry.dp [some Kp,some tb,some tb,some (.int .u16)] dA.st dA.az dA.add dA.F dA.out
def dA.call:dA.D->Option dA.X:=bX dA.E dA.st
theorem dA.run:b8 dA.call dA.az dA.add dA.F:=dv (du [.d Kp,.d tb,.d tb,.d (.int .u16)] λ_=>by kernel_rfl)
def dA.sg:SG Tryz.prog:=⟨6,aP,dA.E,.fn 0 (by kernel_rfl) dA.ok trivial⟩
end
end Go.Ab
end
