/-
  Made short by a program of mine (wip/tools/mini.py).
-/
import Derived.Test.YtlpebgkekjfhaaaGreatS25x5
set_option linter.unusedVariables false
set_option linter.unusedSimpArgs false
set_option maxRecDepth 100000
set_option synthInstance.maxSize 5000
noncomputable section
namespace Go.Ab
open Go.Proofs
theorem OZ{R:Type}{c:Bool}{x y r:Option R}(h:c=true)(h2:x=r):aJ c x y=r:=by rw[h];exact h2
theorem uH{X R:Type}{x:Option X}{a:X}{f:X->Option R}{r:Option R}(h:x=some a)(h2:f a=r):av x f=r:=by rw[h];exact h2
def oC(n a u:Int):eK:=((List.replicate 32 0,(n,())),((a,(jV [jw (n+2)],())),(0,(0,(0,(u,()))))))
abbrev ko.D:=Int×Int×Int
abbrev ko.Y:=eK
def ko.aU:ko.D->Prop:=λ(n,_,_)=>0<=n/\n<=100
def ko.F:ko.D->ko.Y:=λ(n,a,u)=>oC n a u
def ko:Fs Tryz.prog ko.aU bE ko.F:=fK 97 Tryz.f97 (λ(n,amount,untilv)=>([.d ti n,.d ti amount,.d ti untilv],[])) (λx=>⟨.d ei x,[],[]⟩) [some ti,some ti,some ti] [jL.sg,oe.sg]
theorem ko.eq{R:Type}(n amount untilv)(k:K1 R):ko.A (n,amount,untilv) k=
 av (jL.call (dP .u64 (bt .i64 n 2))) λx1=>
 av (oe.call x1) λx2=>
 k (ko.out (((List.replicate 32 0),(n,())),((amount,(x2,())),(0,(0,(0,(untilv,()))))))):=by kernel_rfl
theorem ko.ok:ko.Ok:=by
 rintro⟨n,a,u⟩ ⟨h0,h1⟩
 have h0:0<=n:=h0
 have h1:n<=100:=h1
 have e:dP .u64 (bt .i64 n 2)=n+2:=by rw[eC (by omega) (by omega),tg];omega
 rw[ko.eq,e,jL.run (d:=n+2) ⟨by omega,by omega⟩]
 simp only[ab,bE,jL.F]
 rw[oe.run (d:=jw (n+2)) trivial]
 rfl
theorem ko.run:ko.RS:=rE [.d ti,.d ti,.d ti] ko
def ko.sg:=ko.fS ko.ok
abbrev cC.L0.D:=(List eK)×Int
def cC.L0.st:cC.L0.D->AS:=λ(mw,i)=>⟨([.d (.slice ei) mw,.undef,.undef,.d ti i]++bj 22 []),[],(List.replicate 26 [])⟩
abbrev cC.L0.Y0:=Unit
abbrev cC.L0.X0:=Unit
def cC.L0.dE:cC.L0.X0->Exit×AS:=λx=>(.ret,⟨([.undef,.undef,.d .bool false]++bj 23 []),[],(List.replicate 26 [])⟩)
abbrev cC.L0.Y1:=Unit
abbrev cC.L0.X1:=(List eK)
def cC.L0.fQ:cC.L0.X1->Exit×AS:=λx=>(.exit 0,⟨([.d (.slice ei) x]++bj 25 []),[],(List.replicate 26 [])⟩)
abbrev cC.L0.X:=(cC.L0.X0)⊕(cC.L0.X1)
abbrev cC.L0.Y:=(cC.L0.Y0)⊕(cC.L0.Y1)
def cC.L0.out:cC.L0.X->Out (Exit×AS):=λx=> .br x.isLeft (.get x.getLeft? λa=> .ok (cC.L0.dE a)) (.get x.getRight? λb=> .ok (cC.L0.fQ b))
def cC.L0.add:cC.L0.D->cC.L0.Y->cC.L0.X:=λ(mw,i) y=>match y with | .inl y=> .inl y | .inr z=> .inr (mw)
abbrev cC.D:=(List eK)
abbrev cC.Y:=Bool
def Cn(x:eK):Bool:=xm ([],([x.2.1],((0:Int),())))
def JW(l:List eK):Bool:=(l.take 80).all Cn && decide (l.length<=70)
theorem Pz{l:List eK}(h:JW l=true):l.length<=70/\∀x∈l,SD x.2.1.2.1:=by
 unfold JW at h
 rw[ak,decide_eq_true_eq]at h
 obtain⟨h1,h2⟩:=h
 rw[bz (by omega)]at h1
 refine⟨h2,λx hx=> ?_⟩
 have:=dw.1 h1 x hx
 unfold Cn xm nE at this
 simp only[ff,List.all_nil,ak,decide_eq_true_eq,dw]at this
 refine⟨by omega,λb hb=> ?_⟩
 have h3:=this.2.2.1.2 b hb
 unfold pZ at h3
 have h3:=of_decide_eq_true h3
 omega
def cC.L0.aU:cC.L0.D->Prop:=λ(l,i)=>∃k:Nat,k<=l.length/\k<=80/\i=k
def cC.L0.F:cC.L0.D->cC.L0.Y:=λ(l,i)=>if((l.take 80).drop i.toNat).all Cn=true then .inr () else .inl ()
def cC.aU:cC.D->Prop:=λ_=>True
def cC.F:cC.D->cC.Y:=λl=>JW l
def cC.L0.E:=eO.hZ cC.L0.st cC.L0.aU cC.L0.add cC.L0.F cC.L0.out
def cC.L0.call:cC.L0.D->Option cC.L0.X:=jH cC.L0.E cC.L0.st
def cC:Fs Tryz.prog cC.aU bE cC.F:=fK 43 Tryz.f43 (λl=>([.d (.slice ei) l],[])) (λx=>⟨.d .bool x,[],[]⟩) [some (.slice ei)] [ai.sg] {loops:=oM [(2,{bm:=[0,3]})],outs:=oL [(2,{bm:=[0]},{bm:=[2]})],iA:=pq [(2,cC.L0.E)]}
def cC.L0.R:= @gL Tryz.prog (lN cC.G) cC.an 0 Tryz.f43 0 _ cC.L0.st
abbrev cC.L0.Ok:=nh Tryz.prog (lN cC.G) cC.an 0 Tryz.f43 0 cC.L0.st cC.L0.aU cC.L0.add cC.L0.F cC.L0.out
theorem cC.L0.run:mq cC.L0.call cC.L0.aU cC.L0.add cC.L0.F:=oo (oa [.d (.slice ei),.d ti] λ_=>by kernel_rfl)
theorem cC.L0.cM:nM @cC.L0.R cC.L0.st cC.L0.aU cC.L0.add cC.L0.F cC.L0.out cC.L0.Ok:=oF
theorem cC.L0.step{R:Type}(mw:(List eK))(i:Int)(kn:AS->Option R)(kx:Exit->AS->Option R):cC.L0.R (mw,i) kn kx=
  aJ ((ik i (((List.length mw):Nat):Int))) (
   aJ ((ik i (80:Int))) (
    aJ (eY i (((List.length mw):Nat):Int)) (
    av (ai.call (([]:List gz),([(nth ei mw (Int.toNat i)).2.1],((0:Int),())))) λx1=>
    aJ ((!x1)) (
     kx (cC.L0.dE ()).1 (cC.L0.dE ()).2) (
     kn (cC.L0.st (mw,(bt .i64 i (1:Int)))))) none) (
    kx (cC.L0.fQ mw).1 (cC.L0.fQ mw).2)) (
   kx (cC.L0.fQ mw).1 (cC.L0.fQ mw).2):=by kernel_rfl
theorem cC.eq{R:Type}(l)(k:K1 R):cC.A l k=
  av (cC.L0.call (l,0)) λx2=>
  aJ (x2.isLeft) (
   av (x2.getLeft?) λa3=>
   k (cC.out false)) (
   av (x2.getRight?) λb4=>
   k (cC.out (zS (b4.length:Int) 70))):=by kernel_rfl
theorem cC.L0.ok:cC.L0.Ok:=by
 refine cC.L0.cM (λ(l,i)=>80 - i.toNat) ?_
 rintro⟨l,i⟩ ⟨k,hk,xv,rfl⟩
 have hk:k<=l.length:=hk
 have xv:k<=80:=xv
 have stop:(l.length<=k\/80<=k)->cC.L0.F (l,(k:Int))= .inr ():=λh=>by
  have e:(l.take 80).drop k=[]:=List.drop_eq_nil_of_le (by rw[cU];omega)
  simp only[cC.L0.F,aa,e]
  rfl
 by_cases h:k < l.length
 ·by_cases h8:k < 80
  ·have n1:nth ei l k=l[k]:=dg (t:=ei) h
   have hd:(l.take 80).drop k=l[k]::(l.take 80).drop (k+1):=by
    have:=aq (l:=l.take 80) (i:=k) (by rw[cU];omega)
    rwa[List.getElem_take]at this
   have cs:=ai.run (d:=(([]:List gz),([l[k].2.1],((0:Int),())))) trivial
   cases hs:Cn l[k]with
   |false=>
    right
    refine⟨cC.L0.dE (),?_,λkn kx=> ?_⟩
    ·simp only[cC.L0.add,cC.L0.F,aa,hd,ff,hs,dF,bJ,if_false]
     rfl
    ·rw[cC.L0.step,bh (by omega),ae,bh (by omega),ae,bp (by omega) (by omega),ae,aa,n1,cs]
     simp only[ab,bE,ai.F]
     rw[show xm ([],[l[k].2.1],0,())=false from hs,dX,ae]
   |true=>
    left
    refine⟨(l,((k+1:Nat):Int)),⟨k+1,by omega,by omega,rfl⟩,by simp only[aa];omega,?_,λkn kx=> ?_⟩
    ·simp only[cC.L0.add,cC.L0.F,aa,hd,ff,hs,bO]
    ·rw[cC.L0.step,bh (by omega),ae,bh (by omega),ae,bp (by omega) (by omega),ae,aa,n1,cs]
     simp only[ab,bE,ai.F]
     rw[show xm ([],[l[k].2.1],0,())=true from hs,cq,ah,N.pk (by omega)]
  ·right
   refine⟨cC.L0.fQ l,?_,λkn kx=> ?_⟩
   ·show(cC.L0.out (cC.L0.add (l,(k:Int)) (cC.L0.F (l,(k:Int))))).eval=_
    rw[stop (.inr (by omega))]
    rfl
   ·rw[cC.L0.step,bh (by omega),ae,aR (by omega),ah]
 ·right
  refine⟨cC.L0.fQ l,?_,λkn kx=> ?_⟩
  ·show(cC.L0.out (cC.L0.add (l,(k:Int)) (cC.L0.F (l,(k:Int))))).eval=_
   rw[stop (.inl (by omega))]
   rfl
  ·rw[cC.L0.step,aR (by omega),ah]
theorem cC.ok:cC.Ok:=by
 intro l _
 have z1:((0:Int)).toNat=0:=rfl
 rw[cC.eq,cC.L0.run (d:=(l,0)) ⟨0,aV _,aV _,rfl⟩]
 simp only[ab,cC.L0.F,z1,aI,bE,cC.F,JW]
 cases(l.take 80).all Cn with
 |false=>rfl
 |true=>
  rw[bO]
  by_cases h:l.length<=70
  ·rw[aP h]
   refine congrArg (λb=>some (cC.out b)) ?_
   exact ix (by show((l.length:Nat):Int)<=70;omega)
  ·rw[bf h]
   refine congrArg (λb=>some (cC.out b)) ?_
   exact ga (by show ¬((l.length:Nat):Int)<=70;omega)
theorem cC.run:cC.RS:=rE [.d (.slice ei)] cC
def cC.sg:=cC.fS cC.ok 1 ⟨.hZ cC.L0.ok,trivial⟩
def DA:List eK:=[oC 3 1000 0,oC 1 500 50,oC 2 35 0,oC 5 700 0,oC 4 300 30]
def uI:rj:=(2,(1,(4,())))
theorem KV:∀x∈List.replicate 32 (0:Int),0<=x/\x < 256:=λx hx=>by rw[(List.mem_replicate.1 hx).2];exact⟨by decide,by decide⟩
theorem Kv(n a u:Int)(hu:u<=100):E9 (oC n a u):=⟨⟨cJ,KV⟩,⟨by show 1<=_;decide,λb hb=>by
 rw[ck.1 (show b∈ [([jw (n+2)],(0,(0,(0,()))))] from hb)]
 show 1<=_
 decide⟩,by show u<=_;omega⟩
theorem Qj(n a u:Int):KW (oC n a u):=⟨⟨cJ,KV⟩,dT 0,by show(0:Int) < 18446744073709551616;decide⟩
theorem Ma:∀x∈DA,E9 x:=λx hx=>by
 unfold DA at hx
 simp only[dd,jO,or_false]at hx
 rcases hx with rfl | rfl | rfl | rfl | rfl
 ·exact Kv _ _ _ (by decide)
 ·exact Kv _ _ _ (by decide)
 ·exact Kv _ _ _ (by decide)
 ·exact Kv _ _ _ (by decide)
 ·exact Kv _ _ _ (by decide)
theorem No:rT (oC 1 500 50) (oC 4 300 30)=1:=by
 unfold rT uT
 rfl
theorem Nn:CM (oC 5 700 0) (oC 3 1000 0)=1:=by
 unfold CM
 rw[oR ⟨cJ,KV⟩ ⟨cJ,KV⟩]
 decide
theorem I0:fh DA uI 10=[oC 4 300 30,oC 1 500 50]:=by
 have e:DA.filter (tD uI 10)=[oC 1 500 50,oC 4 300 30]:=by kernel_rfl
 have hq:∀x∈ [oC 1 500 50,oC 4 300 30],Fg x:=λx hx=>by
  simp only[dd,jO,or_false]at hx
  rcases hx with rfl | rfl <;> exact⟨cJ,KV⟩
 unfold fh
 rw[e]
 refine(xn yU hq (λx hx y hy h1 h2=> ?_) ⟨List.Perm.swap ..,?_⟩).symm
 ·have:=zJ (hq x hx) (hq y hy) h1 h2
  simp only[dd,jO,or_false]at hx hy
  rcases hx with rfl | rfl <;> rcases hy with rfl | rfl
  ·rfl
  ·cases congrArg (λo:lF=>o.2.1) this
  ·cases congrArg (λo:lF=>o.2.1) this
  ·rfl
 ·refine jT.2 ⟨λy hy=> ?_,List.pairwise_singleton _ _⟩
  rw[ck.1 hy,No]
  decide
theorem ME:kq DA uI 10=[oC 3 1000 0,oC 5 700 0]:=by
 have e:DA.filter (tK uI 10)=[oC 3 1000 0,oC 5 700 0]:=by kernel_rfl
 have hq:∀x∈ [oC 3 1000 0,oC 5 700 0],Fg x:=λx hx=>by
  simp only[dd,jO,or_false]at hx
  rcases hx with rfl | rfl <;> exact⟨cJ,KV⟩
 unfold kq
 rw[e]
 refine(xn A1 hq (λx hx y hy h1 h2=> ?_) ⟨mA _,?_⟩).symm
 ·have:x.1=y.1:=A6 (hq x hx) (hq y hy) h1 h2
  simp only[dd,jO,or_false]at hx hy
  rcases hx with rfl | rfl <;> rcases hy with rfl | rfl
  ·rfl
  ·cases congrArg (λo:lF=>o.2.1) this
  ·cases congrArg (λo:lF=>o.2.1) this
  ·rfl
 ·refine jT.2 ⟨λy hy=> ?_,List.pairwise_singleton _ _⟩
  rw[ck.1 hy,Nn]
  decide
def PA:jz:=([oC 4 300 30],(36,(300,(30,()))))
def pC(m:Int):jz:=([oC 1 500 50],(36,(m,(50,()))))
def Bi:jz:=([oC 3 1000 0,oC 5 700 0],(54,(54,(0,()))))
def PB:jz:=([oC 4 300 30],(36,(54,(30,()))))
theorem NX:yh DA 800 uI 10=([PA,pC 446,Bi],0):=by
 have e:mH DA 800 uI 10=true:=by kernel_rfl
 unfold yh oD nP
 rw[if_pos e,I0,ME]
 exact(by kernel_rfl:(lu 2 (nw 800 ([oC 4 300 30,oC 1 500 50].map kJ++(jq [oC 3 1000 0,oC 5 700 0]).map gC)).1 (nw 800 ([oC 4 300 30,oC 1 500 50].map kJ++(jq [oC 3 1000 0,oC 5 700 0]).map gC)).2,(0:Int))=([PA,pC 446,Bi],0))
theorem NY:yh DA 90 uI 10=([PB,pC 36],0):=by
 have e:mH DA 90 uI 10=true:=by kernel_rfl
 unfold yh oD nP
 rw[if_pos e,I0,ME]
 exact(by kernel_rfl:(lu 2 (nw 90 ([oC 4 300 30,oC 1 500 50].map kJ++(jq [oC 3 1000 0,oC 5 700 0]).map gC)).1 (nw 90 ([oC 4 300 30,oC 1 500 50].map kJ++(jq [oC 3 1000 0,oC 5 700 0]).map gC)).2,(0:Int))=([PB,pC 36],0))
theorem NZ:yh (DA++ [oC 3 1000 0]) 90 uI 10=([],1):=by
 unfold yh
 rw[if_neg]
 intro h
 unfold mH at h
 simp only[ak]at h
 have:=((xk _).1 h.2.2.2).2.1
 exact absurd this (by unfold DA;simp[oC])
theorem Sk(P:Int)(hP:tw P=true)(hu:je P)(iE:Int)(h0:0<=iE)(h1:iE<=500):∃t:gT,tj [oC 1 500 50] [3] (jV [P]) iE=(t,0)/\t.1.length=1/\t.2.1.length=1:=by
 have hl:nC (jV [P])=true:=by
  rw[Me [P] (by show 1<=12;decide)]
  simp only[ff,List.all_nil,hP,l6]
 have hg:qY 0 [] [oC 1 500 50] [3]=some (500,[xN (oC 1 500 50)]):=by kernel_rfl
 have nj:lf ([xN (oC 1 500 50)],([(500 - iE,(jV [P],()))],((0:Int),())))=true:=by
  have e1:uG [] [xN (oC 1 500 50)]=true:=by kernel_rfl
  unfold lf zA
  show(decide (1<=1/\1<=64/\1<=64/\(0:Int)<=0) && (uG [] [xN (oC 1 500 50)] && (((jr 0 && (jr (500 - iE) && decide (0+(500 - iE)<=1125899906842624))) && nC (jV [P])) && true)))=true
  have e2:jr (500 - iE)=true:=aP ⟨by omega,by omega⟩
  rw[e1,hl,e2,aP (p:=0+(500 - iE)<=1125899906842624) (by omega)]
  rfl
 have hs:qU ([xN (oC 1 500 50)],([(500 - iE,(jV [P],()))],((0:Int),()))) 0 0 [3]=true:=by
  unfold qU
  rw[nj,aP ⟨by decide,by show(0:Int) < ((1:Nat):Int);decide,by decide,by decide,by show 1<=12;decide⟩]
  rfl
 have hv:mn ([xN (oC 1 500 50)],([(500 - iE,(jV [P],()))],((0:Int),()))) ((0:Nat):Int) 0 [3] 0=(xl ([xN (oC 1 500 50)],([(500 - iE,(jV [P],()))],((0:Int),()))) 0 (Ax ([xN (oC 1 500 50)],([(500 - iE,(jV [P],()))],((0:Int),()))) 0 [3] 0),0):=by
  rw[show((0:Nat):Int)=0 from rfl,vy,if_pos hs]
  rfl
 refine⟨xl ([xN (oC 1 500 50)],([(500 - iE,(jV [P],()))],((0:Int),()))) 0 (Ax ([xN (oC 1 500 50)],([(500 - iE,(jV [P],()))],((0:Int),()))) 0 [3] 0),?_,by rw[MJ];rfl,rfl⟩
 unfold tj
 rw[if_pos ⟨by show 1<=1;decide,by show 1<=64;decide,rfl,hl⟩,hg]
 show(if iE < 0\/iE > 500 then(Ff,8) else match mJ ([xN (oC 1 500 50)],([(500 - iE,(jV [P],()))],((0:Int),()))) 0 [oC 1 500 50] [3]with | .inl t=>(t,0) | .inr e=>(Ff,e))=_
 have es:mJ ([xN (oC 1 500 50)],([(500 - iE,(jV [P],()))],((0:Int),()))) 0 [oC 1 500 50] [3]= .inl (xl ([xN (oC 1 500 50)],([(500 - iE,(jV [P],()))],((0:Int),()))) 0 (Ax ([xN (oC 1 500 50)],([(500 - iE,(jV [P],()))],((0:Int),()))) 0 [3] 0)):=by
  rw[mJ,show(oC 1 500 50).2.2.1=0 from rfl,show(oC 1 500 50).2.2.2.1=0 from rfl,hv,if_pos rfl]
  rfl
 rw[if_neg (by omega),es]
theorem P8:tw 4=true:=by decide+kernel
def xr(P iE:Int):gT:=(tj [oC 1 500 50] [3] (jV [P]) iE).1
theorem E1{P:Int}(hP:tw P=true)(hu:je P){iE:Int}(h0:0<=iE)(h1:iE<=500):tj [oC 1 500 50] [3] (jV [P]) iE=(xr P iE,0)/\(xr P iE).1.length=1/\(xr P iE).2.1.length=1:=by
 obtain⟨t,h2,h3,h4⟩:=Sk P hP hu iE h0 h1
 have e:xr P iE=t:=by
  unfold xr
  rw[h2]
 rw[e]
 exact⟨h2,h3,h4⟩
def QX:List jz×Int:=([PA,pC 446,Bi],0)
def QY:List jz×Int:=([PB,pC 36],0)
def QZ:List jz×Int:=([],1)
def QV:gT×Int×Int:=(xr 4 36,36,0)
def QW:gT×Int×Int:=(xr 4 446,446,0)
def Sq:gT×Int×Int:=(Ff,0,4)
def Sr:gT×Int×Int:=(Ff,0,13)
open Classical in
def kH{X:Type}(x0 x:X):Option Unit:=if x=x0 then some () else none
theorem qv{X:Type}{x0:X}(x:X)(z:Unit)(h:kH x0 x=some z):x=(λ_:Unit=>x0) z:=by
 unfold kH at h
 split at h
 ·assumption
 ·cases h
theorem sU{X:Type}(x0:X):po (kH x0) (some x0)=some ():=by
 unfold po kH
 exact if_pos rfl
def H7(n:Int)(m:Bool):List az->Bool:=λvs=>match vs with | [.d _ _,.d (.int _) k,_,_]=>decide ((k:Int)=n) && !m | [.cP ..,.d (.int _) k,_,_]=>decide ((k:Int)=n) && m | _=>false
def ED(h o:Int):List az->Bool:=λvs=>match vs with | [_,_,_,.d (.int _) k,_,.d (.int _) j]=>decide ((k:Int)=h) && decide ((j:Int)=o) | _=>false
def KL:Int:=20
def Ti.E:Entry:=Entry.half [some (.slice ei),some ti,some p9,some ti] (X:=aH.Y) (Z:=Unit) aH.E.run aH.E.out (λ_=>QX) (kH QX)
def Ti.sg:SG Tryz.prog:=⟨44,(H7 800 false),Ti.E,qc.of (mo.half qv (aH.sg.h.1 (by rfl))) (by rfl)⟩
def Tj.E:Entry:=Entry.half [some (.slice ei),some ti,some p9,some ti] (X:=aH.Y) (Z:=Unit) aH.E.run aH.E.out (λ_=>QY) (kH QY)
def Tj.sg:SG Tryz.prog:=⟨44,(H7 90 false),Tj.E,qc.of (mo.half qv (aH.sg.h.1 (by rfl))) (by rfl)⟩
def Tk.E:Entry:=Entry.half [some (.slice ei),some ti,some p9,some ti] (X:=aH.Y) (Z:=Unit) aH.E.run aH.E.out (λ_=>QZ) (kH QZ)
def Tk.sg:SG Tryz.prog:=⟨44,(H7 90 true),Tk.E,qc.of (mo.half qv (aH.sg.h.1 (by rfl))) (by rfl)⟩
def Te.E:Entry:=Entry.half [some oq,some tU,some mK,some ti,some p9,some ti] (X:=ez.Y) (Z:=Unit) ez.E.run ez.E.out (λ_=>QV) (kH QV)
def Te.sg:SG Tryz.prog:=⟨50,(ED (10) 0),Te.E,qc.of (mo.half qv (ez.sg.h.1 (by rfl))) (by rfl)⟩
def Tf.E:Entry:=Entry.half [some oq,some tU,some mK,some ti,some p9,some ti] (X:=ez.Y) (Z:=Unit) ez.E.run ez.E.out (λ_=>QW) (kH QW)
def Tf.sg:SG Tryz.prog:=⟨50,(ED (30) 36),Tf.E,qc.of (mo.half qv (ez.sg.h.1 (by rfl))) (by rfl)⟩
def Tg.E:Entry:=Entry.half [some oq,some tU,some mK,some ti,some p9,some ti] (X:=ez.Y) (Z:=Unit) ez.E.run ez.E.out (λ_=>Sq) (kH Sq)
def Tg.sg:SG Tryz.prog:=⟨50,(ED (30) 446),Tg.E,qc.of (mo.half qv (ez.sg.h.1 (by rfl))) (by rfl)⟩
def Th.E:Entry:=Entry.half [some oq,some tU,some mK,some ti,some p9,some ti] (X:=ez.Y) (Z:=Unit) ez.E.run ez.E.out (λ_=>Sr) (kH Sr)
def Th.sg:SG Tryz.prog:=⟨50,(ED (60) 36),Th.E,qc.of (mo.half qv (ez.sg.h.1 (by rfl))) (by rfl)⟩
def Tl.E:Entry:=Entry.half [some p9] (X:=iF.Y) (Z:=Unit) iF.E.run iF.E.out (λ_=>KL) (kH KL)
def Tl.sg:SG Tryz.prog:=⟨57,vH,Tl.E,qc.of (mo.half qv (iF.sg.h.1 (by rfl))) (by rfl)⟩
abbrev gu.D:=Unit
abbrev gu.Y:=Bool
def gu.aU:gu.D->Prop:=λ_=>True
def gu.F:gu.D->gu.Y:=λ_=>true
def gu:Fs Tryz.prog gu.aU bE gu.F:=fK 42 Tryz.f42 (λ_=>([],[])) (λx=>⟨.d .bool x,[],[]⟩) [] [ko.sg,Ti.sg,Tj.sg,Tk.sg,Tl.sg,oe.sg,Te.sg,Tf.sg,Tg.sg,Th.sg,cD.sg] {bU:=[44]}
theorem gu.eq{R:Type}(d)(k:K1 R):gu.A d k=
  av (ko.call (3,1000,0)) λHn=>
  av (ko.call (1,500,50)) λJB=>
  av (ko.call (2,35,0)) λNa=>
  av (ko.call (5,700,0)) λQ0=>
  av (ko.call (4,300,30)) λS6=>
  av (po (kH QX) (aH.call ([Hn,JB,Na,Q0,S6],800,(2,(1,(4,()))),10))) λUL=>
  av (po (kH QY) (aH.call ([Hn,JB,Na,Q0,S6],90,(2,(1,(4,()))),10))) λVk=>
  av (po (kH QZ) (aH.call ([Hn,JB,Na,Q0,S6,Hn],90,(2,(1,(4,()))),10))) λWD=>
  av (po (kH KL) (iF.call (2,(1,(4,()))))) λWE=>
  av (oe.call 4) λWn=>
  av (po (kH QV) (ez.call (([(((List.replicate 32 0),(1,())),((500,((jV [jw (1+2)]),())),(0,(0,(0,(50,()))))))],(36,(446,(50,())))),[3],Wn,10,(2,(1,(4,()))),0))) λWG=>
  av (oe.call 4) λWo=>
  av (po (kH QW) (ez.call (([(((List.replicate 32 0),(1,())),((500,((jV [jw (1+2)]),())),(0,(0,(0,(50,()))))))],(36,(446,(50,())))),[3],Wo,30,(2,(1,(4,()))),36))) λWH=>
  av (oe.call 4) λWp=>
  av (po (kH Sq) (ez.call (([(((List.replicate 32 0),(1,())),((500,((jV [jw (1+2)]),())),(0,(0,(0,(50,()))))))],(36,(446,(50,())))),[3],Wp,30,(2,(1,(4,()))),446))) λWI=>
  av (oe.call 4) λWq=>
  av (po (kH Sr) (ez.call (([(((List.replicate 32 0),(3,())),((1000,((jV [jw (3+2)]),())),(0,(0,(0,(0,())))))),(((List.replicate 32 0),(5,())),((700,((jV [jw (5+2)]),())),(0,(0,(0,(0,()))))))],(54,(54,(0,())))),[5,7],Wq,60,(2,(1,(4,()))),36))) λWJ=>
  aJ ((wy (QV.1.1.length:Int) 1)) (
   aJ ((wy (QW.1.2.1.length:Int) 1)) (
    av (cD.call [Hn,JB,Na,Q0,S6]) λWr=>
    k (gu.out (wy Wr 108))) (
    k (gu.out false))) (
   k (gu.out false)):=by kernel_rfl
theorem Qg{P:Int}(hp:tw P=true)(hu:je P):ez.call (pC 446,[3],jV [P],10,uI,0)=some (xr P 36,36,0)/\ez.call (pC 446,[3],jV [P],30,uI,36)=some (xr P 446,446,0)/\ez.call (pC 446,[3],jV [P],30,uI,446)=some (Ff,0,4)/\ez.call (Bi,[5,7],jV [P],60,uI,36)=some (Ff,0,13):=by
 obtain⟨ht,_⟩:=E1 (iE:=36) hp hu (by decide) (by decide)
 obtain⟨ht',_⟩:=E1 (iE:=446) hp hu (by decide) (by decide)
 have gb:Nb (pC 446):=⟨⟨by show(0:Int)<=36;decide,by show(36:Int)<=446;decide,by show(446:Int)<=1125899906842624;decide⟩,by show(0:Int)<=50;decide,by show(50:Int)<=9223372036854775807;decide⟩
 have gc:Nb Bi:=⟨⟨by show(0:Int)<=54;decide,by show(54:Int)<=54;decide,by show(54:Int)<=1125899906842624;decide⟩,by show(0:Int)<=0;decide,by show(0:Int)<=9223372036854775807;decide⟩
 have lp:Fh (jV [P]):=⟨NP (λk hk=>by rw[ck.1 hk];exact hu),by show 1<=9223372036854775807;decide⟩
 have k3:∀k∈([3]:List Int),je k:=λk hk=>by rw[ck.1 hk];exact⟨by decide,by decide⟩
 have xb:∀m,∀x∈(pC m).1,KW x:=λm x hx=>by rw[ck.1 (show x∈ [oC 1 500 50] from hx)];exact Qj _ _ _
 have f1:qO (pC 446) 10 uI=36:=by kernel_rfl
 have f2:qO (pC 446) 30 uI=446:=by kernel_rfl
 have n1:ez.call (pC 446,[3],jV [P],10,uI,0)=some (xr P 36,36,0):=by
  rw[ez.run (d:=(pC 446,[3],jV [P],10,uI,0)) ⟨gb,⟨by decide,by decide⟩,xb _,k3,lp,by show 1<=1000000;decide,by show 1<=1000000000;decide,by show(0:Int)<=_;decide⟩]
  refine congrArg some ?_
  show rh (pC 446) [3] (jV [P]) 10 uI 0=_
  unfold rh
  rw[f1,if_neg (λe=>absurd e.1 (by decide)),if_neg (show ¬(0:Int) > 0 by decide),if_neg (show ¬(36:Int) > (pC 446).2.2.1 from(by show ¬(36:Int) > 446;decide)),show tj (pC 446).1 [3] (jV [P]) 36=(xr P 36,0) from ht,if_neg (λe=>e rfl)]
 have n2:ez.call (pC 446,[3],jV [P],30,uI,36)=some (xr P 446,446,0):=by
  rw[ez.run (d:=(pC 446,[3],jV [P],30,uI,36)) ⟨gb,⟨by decide,by decide⟩,xb _,k3,lp,by show 1<=1000000;decide,by show 1<=1000000000;decide,by show(36:Int)<=_;decide⟩]
  refine congrArg some ?_
  show rh (pC 446) [3] (jV [P]) 30 uI 36=_
  unfold rh
  rw[f2,if_neg (λe=>absurd e.2 (by decide)),if_pos (show(36:Int) > 0 by decide),show imax 446 (36+sI (pC 446).1)=446 by kernel_rfl,if_neg (show ¬(446:Int) > (pC 446).2.2.1 from(by show ¬(446:Int) > 446;decide)),show tj (pC 446).1 [3] (jV [P]) 446=(xr P 446,0) from ht',if_neg (λe=>e rfl)]
 have n3:ez.call (pC 446,[3],jV [P],30,uI,446)=some (Ff,0,4):=by
  rw[ez.run (d:=(pC 446,[3],jV [P],30,uI,446)) ⟨gb,⟨by decide,by decide⟩,xb _,k3,lp,by show 1<=1000000;decide,by show 1<=1000000000;decide,by show(446:Int)<=_;decide⟩]
  refine congrArg some ?_
  show rh (pC 446) [3] (jV [P]) 30 uI 446=_
  unfold rh
  rw[f2,if_pos ⟨by decide,by decide⟩]
 have n4:ez.call (Bi,[5,7],jV [P],60,uI,36)=some (Ff,0,13):=by
  rw[ez.run (d:=(Bi,[5,7],jV [P],60,uI,36)) ⟨gc,⟨by decide,by decide⟩,λx hx=>by
   rcases dd.1 (show x∈ [oC 3 1000 0,oC 5 700 0] from hx) with rfl | hx
   ·exact Qj _ _ _
   ·rw[ck.1 hx];exact Qj _ _ _,λk hk=>by
   rcases dd.1 hk with rfl | hk
   ·exact⟨by decide,by decide⟩
   ·rw[ck.1 hk];exact⟨by decide,by decide⟩,lp,by show 2<=1000000;decide,by show 2<=1000000000;decide,by show(36:Int)<=_;decide⟩]
  refine congrArg some ?_
  show rh Bi [5,7] (jV [P]) 60 uI 36=_
  have f3:qO Bi 60 uI=54:=by kernel_rfl
  unfold rh
  rw[f3,if_neg (λe=>absurd e.2 (by decide)),if_pos (show(36:Int) > 0 by decide),show imax 54 (36+sI Bi.1)=90 by kernel_rfl,if_pos (show(90:Int) > Bi.2.2.1 from(by show(90:Int) > 54;decide))]
 exact⟨n1,n2,n3,n4⟩
theorem gu.ok:gu.Ok:=by
 rintro⟨⟩ _
 have u4:je 4:=⟨by decide,by decide⟩
 obtain⟨n1,n2,n3,n4⟩:=Qg P8 u4
 obtain⟨_,t1,_⟩:=E1 (iE:=36) P8 u4 (by decide) (by decide)
 obtain⟨_,_,t2⟩:=E1 (iE:=446) P8 u4 (by decide) (by decide)
 have cl:oe.call 4=some (jV [4]):=oe.run (d:=4) trivial
 have c1:∀n a u:Int,0<=n->n<=100->ko.call (n,a,u)=some (oC n a u):=λn a u h0 h1=>ko.run (d:=(n,a,u)) ⟨h0,h1⟩
 have p1:aH.call (DA,800,uI,10)=some QX:=(aH.run (d:=(DA,800,uI,10)) Ma).trans (congrArg some NX)
 have p2:aH.call (DA,90,uI,10)=some QY:=(aH.run (d:=(DA,90,uI,10)) Ma).trans (congrArg some NY)
 have p3:aH.call (DA++ [oC 3 1000 0],90,uI,10)=some QZ:=(aH.run (d:=(DA++ [oC 3 1000 0],90,uI,10)) (λx hx=>by
  rcases bP.1 hx with hx | hx
  ·exact Ma x hx
  ·rw[ck.1 hx];exact Kv _ _ _ (by decide))).trans (congrArg some NZ)
 have cs:iF.call uI=some KL:=(iF.run (d:=uI) trivial).trans (by rfl)
 have w1:cD.call DA=some 108:=(cD.run (d:=DA) (by show 5<=1000000000;decide)).trans (by kernel_rfl)
 rw[gu.eq]
 refine uH (c1 3 1000 0 (by decide) (by decide)) ?_
 refine uH (c1 1 500 50 (by decide) (by decide)) ?_
 refine uH (c1 2 35 0 (by decide) (by decide)) ?_
 refine uH (c1 5 700 0 (by decide) (by decide)) ?_
 refine uH (c1 4 300 30 (by decide) (by decide)) ?_
 refine uH ((congrArg (po (kH QX)) p1).trans (sU QX)) ?_
 refine uH ((congrArg (po (kH QY)) p2).trans (sU QY)) ?_
 refine uH ((congrArg (po (kH QZ)) p3).trans (sU QZ)) ?_
 refine uH ((congrArg (po (kH KL)) cs).trans (sU KL)) ?_
 refine uH cl ?_
 refine uH ((congrArg (po (kH QV)) n1).trans (sU QV)) ?_
 refine uH cl ?_
 refine uH ((congrArg (po (kH QW)) n2).trans (sU QW)) ?_
 refine uH cl ?_
 refine uH ((congrArg (po (kH Sq)) n3).trans (sU Sq)) ?_
 refine uH cl ?_
 refine uH ((congrArg (po (kH Sr)) n4).trans (sU Sr)) ?_
 refine OZ (iw (by show(((xr 4 36).1.length:Nat):Int)=1;rw[t1];rfl)) ?_
 refine OZ (iw (by show(((xr 4 446).2.1.length:Nat):Int)=1;rw[t2];rfl)) ?_
 refine uH w1 ?_
 rfl
theorem gu.run:gu.RS:=rE [] gu
def gu.sg:=gu.fS gu.ok
end Go.Ab
namespace Go.Ab
open Go.Proofs
def pn:Int->List jz->List jz
 |_,[]=> []
 |b,g::l=>Am g (nD b g)::pn (b - nD b g) l
theorem DF:∀(A B:List jz) (b:Int),lu A.length b (A++B)=pn b A++B
 |[],B,b=>rfl
 |g::A,B,b=>by
  rw[aD,iS,lu,DF A,pn,iS]
theorem Gu:∀(n:Nat) (b:Int) (l:List jz),l.length<=n->lu n b l=pn b l
 |n,b,[],_=>by cases n <;> rfl
 | 0,b,g::l,h=>by cases h
 |n+1,b,g::l,h=>by rw[lu,pn,Gu n _ l (Nat.le_of_succ_le_succ h)]
def oH(l:List jz):Int:=(l.map (·.2.1)).sum
theorem Mh:oH []=0:=rfl
theorem oA(g:jz)(l:List jz):oH (g::l)=g.2.1+oH l:=by unfold oH;rw[bR,List.sum_cons]
theorem zW(l l':List jz):oH (l++l')=oH l+oH l':=by unfold oH;rw[iD,List.sum_append]
theorem sj:∀ {l:List jz},(∀g∈l,0<=g.2.1)->0<=oH l
 |[],_=>dT 0
 |a::l,h=>by
  have h1:=h a aN
  have h2:=sj (l:=l) λx hx=>h x (aL _ hx)
  rw[oA]
  omega
theorem BG:∀ {l:List jz} {g:jz},(∀g∈l,0<=g.2.1)->g∈l->g.2.1<=oH l
 |[],_,_,h=>by cases h
 |a::l,g,h0,h=>by
  have h1:=h0 a aN
  have h2:0<=oH l:=sj λx hx=>h0 x (aL _ hx)
  rw[oA]
  rcases dd.1 h with rfl | h
  ·omega
  ·have:=BG (λx hx=>h0 x (aL _ hx)) h
   omega
theorem Dl:∀(l:List jz) (b:Int),(∀g∈l,0<=g.2.1)->0<=b->∃K R,l=K++R/\(nw b l).2=K/\(nw b l).1+oH K=b/\0<=(nw b l).1/\∀g R',R=g::R'->(nw b l).1 < g.2.1
 |[],b,_,hb=>⟨[],[],rfl,rfl,by show b+0=b;omega,hb,λg R' h=>by cases h⟩
 |g::l,b,h,hb=>by
  unfold nw
  by_cases hc:g.2.1 > b
  ·rw[if_pos hc]
   refine⟨[],g::l,rfl,rfl,by show b+0=b;omega,hb,λg' R' e=> ?_⟩
   rw[<-(List.cons.inj e).1]
   show b < g.2.1
   omega
  ·rw[if_neg hc]
   have h0:=h g aN
   obtain⟨K,R,e1,e2,e3,e4,e5⟩:=Dl l (b - g.2.1) (λx hx=>h x (aL _ hx)) (by omega)
   refine⟨g::K,R,by rw[e1];rfl,by rw[<-e2],?_,e4,e5⟩
   rw[oA]
   show(nw (b - g.2.1) l).1+(g.2.1+oH K)=b
   omega
theorem wN{α:Type}:∀(n:Nat) (l:List α),l.length<=n->(jq l).flatten=l
 | 0,l,h=>by
  obtain rfl:=bo (Nat.le_zero.1 h)
  rfl
 |n+1,l,h=>by
  by_cases h0:0 < l.length
  ·rw[uS h0,iq,wN n (l.drop 8) (by rw[dx];omega),dL]
  ·obtain rfl:=bo (by omega:l.length=0)
   rfl
section
variable {l:List eK} {b:rj} {h:Int}
theorem KD(hx:∀x∈l,E9 x){x:eK}(hm:x∈kq l b h):x∈l/\lT h x=true/\kW b h x=false:=by
 obtain⟨h1,h2⟩:=eW.1 ((vY hx).1.mem_iff.1 hm)
 unfold tK at h2
 rw[ak,bX]at h2
 exact⟨h1,h2⟩
theorem Dg(hx:∀x∈l,E9 x){c:List eK}(hc:c∈jq (kq l b h)){x:eK}(hm:x∈c):x∈l/\lT h x=true/\kW b h x=false:=by
 refine KD (b:=b) hx ?_
 have:=wN _ (kq l b h) (ay _)
 rw[<-this]
 exact List.mem_flatten.2 ⟨c,hc,hm⟩
theorem B7{bu:Int}(h0:0<=bu):∃(A A2:List eK) (B B2:List (List eK)) (b':Int),fh l b h=A++A2/\jq (kq l b h)=B++B2/\oD l bu b h=pn b' (A.map kJ)++B.map gC/\(B=[]\/A2=[])/\0<=b'/\b'+oH (A.map kJ)+oH (B.map gC)=bu/\
  (∀x A3,A2=x::A3->b' < sI [x])/\(A2=[]->∀c B3,B2=c::B3->b' < sI c):=by
 obtain⟨K,R,e1,e2,e3,e4,e5⟩:=Dl (nP l b h) bu (λg hg=>Fo hg) h0
 unfold oD
 rw[e2]
 generalize (nw bu (nP l b h)).1=b' at e3 e4 e5
 unfold nP at e1
 rcases List.append_eq_append_iff.1 e1 with⟨a',h1,h2⟩ | ⟨c',h1,h2⟩
 ·obtain⟨B,B2,h3,h4,h5⟩:=List.map_eq_append_iff.1 h2
  subst h4
  refine⟨fh l b h,[],B,B2,b',by simp,h3,?_,.inr rfl,e4,?_,λx A3 e=>(by cases e),λ_ c B3 e=> ?_⟩
  ·rw[h1,show(fh l b h).length=((fh l b h).map kJ).length by rw[cR],DF]
  ·rw[h1,zW]at e3
   omega
  ·subst e
   exact e5 (gC c) (B3.map gC) h5.symm
 ·obtain⟨A,A2,h3,h4,h5⟩:=List.map_eq_append_iff.1 h1
  subst h4
  refine⟨A,A2,[],jq (kq l b h),b',h3,rfl,?_,.inl rfl,e4,?_,λx A3 e=> ?_,λe c B3 e'=> ?_⟩
  ·rw[Gu _ _ _ (by rw[cR,h3,aj];omega),fT,cH]
  ·rw[fT,Mh]
   omega
  ·subst e
   exact e5 (kJ x) (A3.map kJ++(jq (kq l b h)).map gC) (by rw[h2,<-h5];rfl)
  ·subst e
   have h5:c'=[]:=h5.symm
   rw[h5,aS,e']at h2
   exact e5 (gC c) (B3.map gC) h2
end
theorem y4:∀(A:List eK) (b:Int),(∀x∈A,O2 (kJ x))->0<=b->b<=1125899906842624->∀g∈pn b (A.map kJ),∃x∈A,∃m,0<=m/\m<=b/\m<=x.2.1.1 - sI [x]/\g=Am (kJ x) m
 |[],_,_,_,_,g,hg=>by cases hg
 |x::A,b,hx,h0,h1,g,hg=>by
  have hm:=EK (hx x aN) ⟨h0,h1⟩
  rcases dd.1 (show g∈Am (kJ x) (nD b (kJ x))::pn (b - nD b (kJ x)) (A.map kJ) from hg) with rfl | hg
  ·exact⟨x,aN,_,hm.1,hm.2.1,hm.2.2,rfl⟩
  ·obtain⟨y,hy,m,m1,m2,m3,m4⟩:=y4 A _ (λy hy=>hx y (aL _ hy)) (by omega) (by omega) g hg
   exact⟨y,aL _ hy,m,m1,by omega,m3,m4⟩
theorem MT{c:List eK}(hc:∀x∈c,0<=x.2.2.2.2.2.1/\x.2.2.2.2.2.1<=9223372036854775807):∀u:Int,0<=u->u<=9223372036854775807->0<=c.foldl IJ u/\c.foldl IJ u<=9223372036854775807:=by
 induction c with
 |nil=>exact λu h0 h1=>⟨h0,h1⟩
 |cons x c ih=>
  intro u h0 h1
  have:=hc x aN
  rw[cZ]
  refine ih (λy hy=>hc y (aL _ hy)) _ ?_ ?_ <;> (unfold IJ;split <;> omega)
theorem Gf{h:Int}{x:eK}(h1:1<=h)(hk:lT h x=true):0<=x.2.2.2.2.2.1:=by
 unfold lT at hk
 rw[ak]at hk
 rcases BA hk.1 with e | e <;> omega
theorem B6{l:List eK}{bu:Int}{b:rj}{h:Int}(e:mH l bu b h=true):(0<=bu/\bu<=1125899906842624)/\kB b=true/\(1<=h/\h<=1048576)/\l.length<=64/\(l.map (·.1)).Nodup/\∀x∈l,0<=x.2.1.1/\x.2.1.1<=1099511627776:=by
 unfold mH at e
 simp only[ak,decide_eq_true_eq]at e
 exact⟨e.1,e.2.1,e.2.2.1,(xk l).1 e.2.2.2⟩
theorem Mx{l:List eK}{bu:Int}{b:rj}{h:Int}(hx:∀x∈l,E9 x)(nj:mH l bu b h=true):∀g∈oD l bu b h,Nb g:=by
 obtain⟨hb,_,hh,_,_,ha⟩:=B6 nj
 obtain⟨A,A2,B,B2,b',s1,s2,s3,_,s5,s6,_,_⟩:=B7 (l:=l) (b:=b) (h:=h) hb.1
 have hA:∀x∈A,x∈l/\lT h x=true/\kW b h x=true:=λx hm=>wY hx (by rw[s1];exact jc _ hm)
 have hB:∀c∈B,∀x∈c,x∈l/\lT h x=true/\kW b h x=false:=λc hc x hm=>Dg hx (by rw[s2];exact jc _ hc) hm
 have pA:∀g∈A.map kJ,0<=g.2.1:=λg hg=>by obtain⟨x,_,rfl⟩:=dD.1 hg;exact(ot [x]).1
 have pB:∀g∈B.map gC,0<=g.2.1:=λg hg=>by obtain⟨c,_,rfl⟩:=dD.1 hg;exact(ot c).1
 have qA:=sj pA
 have qB:=sj pB
 intro g hg
 rw[s3]at hg
 rcases bP.1 hg with hg | hg
 ·obtain⟨x,hm,m,m1,m2,m3,rfl⟩:=y4 A b' (λx hm=>B0 (ha x (hA x hm).1) (hA x hm).2.1) s5 (by omega) g hg
  have h1:=BG pA (gB (f:=kJ) hm)
  have h1:sI [x]<=oH (A.map kJ):=h1
  have h2:=(ot [x]).1
  have h3:=MT (c:=[x]) (λy hy=>by rw[ck.1 hy];exact⟨Gf hh.1 (hA x hm).2.1,(hx x (hA x hm).1).2.2⟩) 0 (dT 0) (by decide)
  exact⟨⟨h2,by show sI [x]<=sI [x]+m;omega,by show sI [x]+m<=_;omega⟩,h3.1,h3.2⟩
 ·obtain⟨c,hm,rfl⟩:=dD.1 hg
  have h1:=BG pB (gB (f:=gC) hm)
  have h1:sI c<=oH (B.map gC):=h1
  have h2:=(ot c).1
  have h3:=MT (c:=c) (λy hy=>⟨Gf hh.1 (hB c hm y hy).2.1,(hx y (hB c hm y hy).1).2.2⟩) 0 (dT 0) (by decide)
  exact⟨⟨h2,dT _,by show sI c<=_;omega⟩,h3.1,h3.2⟩
def Sz(x:eK):Prop:=KW x/\Hh x.2.1.2.1/\x.2.2.2.2.2.1<=9223372036854775807
theorem Pf{l:List eK}(hr:∀x∈l,Sz x)(hf:JW l=true):∀x∈l,E9 x:=λx hx=>⟨(hr x hx).1.1,(Pz hf).2 x hx,(hr x hx).2.2⟩
theorem KA{l:List eK}{bu:Int}{b:rj}{h:Int}(hx:∀x∈l,E9 x)(hl:l.length<=64):(oD l bu b h).length<=1000:=by
 have h1:=(tC (b:=b) (h:=h) hx).1.length_eq
 have h2:=(vY (b:=b) (h:=h) hx).1.length_eq
 have h3:=(tQ _ (kq l b h) (ay _)).1
 have h4:=j3 (tD b h) l
 have h5:=j3 (tK b h) l
 have h6:(nw bu (nP l b h)).2.length<=(nP l b h).length:=by
  have:∀(L:List jz) (c:Int),(nw c L).2.length<=L.length:=by
   intro L
   induction L with
   |nil=>exact λc=>ay _
   |cons g L ih=>
    intro c
    unfold nw
    split
    ·exact aV _
    ·show((nw (c - g.2.1) L).2).length+1<=L.length+1
     have:=ih (c - g.2.1)
     omega
  exact this _ _
 unfold oD
 rw[zi]
 unfold nP at h6
 rw[aj,cR,cR]at h6
 unfold nP
 omega
end Go.Ab
namespace Go.Ab
open Go.Proofs
abbrev dN.D:=rj
abbrev dN.Y:=Bool
def dN.aU:dN.D->Prop:=λ_=>True
def dN.F:dN.D->dN.Y:=λb=>kB b
def dN:Fs Tryz.prog dN.aU bE dN.F:=fK 117 Tryz.f117 (λb=>([.d p9 b],[])) (λx=>⟨.d .bool x,[],[]⟩) [some p9]
theorem dN.eq{R:Type}(b)(k:K1 R):dN.A b k=
  aJ ((qQ b.1 0)) (
   aJ ((zS b.1 1000)) (
    aJ ((qQ b.2.1 0)) (
     aJ ((zS b.2.1 1000)) (
      aJ ((qQ b.2.2.1 1)) (
       k (dN.out (zS b.2.2.1 1000))) (
       k (dN.out false))) (
      k (dN.out false))) (
     k (dN.out false))) (
    k (dN.out false))) (
   k (dN.out false)):=by kernel_rfl
theorem dN.ok:dN.Ok:=by
 intro b _
 have e:kB b=decide ((0<=b.1/\b.1<=1000)/\(0<=b.2.1/\b.2.1<=1000)/\1<=b.2.2.1/\b.2.2.1<=1000):=by
  unfold kB sQ imax
  refine decide_eq_decide.2 ⟨λh=> ?_,λh=> ?_⟩
  ·split at h <;> split at h <;> split at h <;> omega
  ·split <;> split <;> split <;> omega
 rw[dN.eq]
 simp only[bE,dN.F,e]
 by_cases a1:0<=b.1
 ·rw[eQ a1,ae]
  by_cases a2:b.1<=1000
  ·rw[ix a2,ae]
   by_cases a3:0<=b.2.1
   ·rw[eQ a3,ae]
    by_cases a4:b.2.1<=1000
    ·rw[ix a4,ae]
     by_cases a5:1<=b.2.2.1
     ·rw[eQ a5,ae]
      by_cases a6:b.2.2.1<=1000
      ·rw[ix a6,decide_eq_true ⟨⟨a1,a2⟩,⟨a3,a4⟩,a5,a6⟩]
      ·rw[ga a6,decide_eq_false (λe=>a6 e.2.2.2)]
     ·rw[dQ a5,ah,decide_eq_false (λe=>a5 e.2.2.1)]
    ·rw[ga a4,ah,decide_eq_false (λe=>a4 e.2.1.2)]
   ·rw[dQ a3,ah,decide_eq_false (λe=>a3 e.2.1.1)]
  ·rw[ga a2,ah,decide_eq_false (λe=>a2 e.1.2)]
 ·rw[dQ a1,ah,decide_eq_false (λe=>a1 e.1.1)]
theorem dN.run:dN.RS:=rE [.d p9] dN
def dN.sg:=dN.fS dN.ok
abbrev fu.D:=rj
abbrev fu.Y:=Int
def fu.aU:fu.D->Prop:=λ_=>True
def fu.F:fu.D->fu.Y:=λb=>zm b
def fu:Fs Tryz.prog fu.aU bE fu.F:=fK 176 Tryz.f176 (λb=>([.d p9 b],[])) (λx=>⟨.d ti x,[],[]⟩) [some p9] [dN.sg]
theorem fu.eq{R:Type}(b)(k:K1 R):fu.A b k=
  av (dN.call b) λx1=>
  aJ (x1) (
   k (fu.out (bt .i64 (bt .i64 (bt .i64 b.2.2.1 b.1) b.2.1) 1))) (
   k (fu.out 0)):=by kernel_rfl
theorem fu.ok:fu.Ok:=by
 intro b _
 rw[fu.eq,dN.run (d:=b) trivial]
 simp only[ab,bE,dN.F,bE,fu.F,zm]
 cases h:kB b with
 |false=>rfl
 |true=>
  obtain⟨⟨h1,h2⟩,⟨h3,h4⟩,h5,h6⟩:=vo h
  rw[ae,eC (x:=b.2.2.1) (by omega) (by omega),eC (x:=b.2.2.1+b.1) (by omega) (by omega),eC (by omega) (by omega)]
  rfl
theorem fu.run:fu.RS:=rE [.d p9] fu
def fu.sg:=fu.fS fu.ok
abbrev gm.D:=rj
abbrev gm.Y:=Int
def gm.aU:gm.D->Prop:=λ_=>True
def gm.F:gm.D->gm.Y:=λb=>jo b
def gm:Fs Tryz.prog gm.aU bE gm.F:=fK 118 Tryz.f118 (λb=>([.d p9 b],[])) (λx=>⟨.d ti x,[],[]⟩) [some p9] [dN.sg,fu.sg]
theorem gm.eq{R:Type}(b)(k:K1 R):gm.A b k=
  av (dN.call b) λx1=>
  aJ (x1) (
   av (fu.call b) λx2=>
   k (gm.out (bt .i64 x2 12))) (
   k (gm.out 0)):=by kernel_rfl
theorem gm.ok:gm.Ok:=by
 intro b _
 rw[gm.eq,dN.run (d:=b) trivial]
 simp only[ab,bE,dN.F,bE,gm.F,jo]
 cases h:kB b with
 |false=>rfl
 |true=>
  obtain⟨⟨h1,h2⟩,⟨h3,h4⟩,h5,h6⟩:=vo h
  rw[ae,fu.run (d:=b) trivial]
  simp only[ab,bE,fu.F,zm,h,if_true]
  rw[eC (by omega) (by omega)]
theorem gm.run:gm.RS:=rE [.d p9] gm
def gm.sg:=gm.fS gm.ok
abbrev eT.L0.D:=(List eK)×Int×Int
abbrev eT.L0.Y:=Int
abbrev eT.D:=(List eK)
abbrev eT.Y:=Int
def eT.L0.aU:eT.L0.D->Prop:=λ(l,n,i)=>(l).length<=1000000000/\∃k:Nat,k<=(l).length/\i=k/\(0<=n)/\(n<=18+22*(k:Int))
def eT.L0.F:eT.L0.D->eT.L0.Y:=λ(l,n,i)=>(List.drop (Int.toNat i) l).foldl E6 n
def eT.aU:eT.D->Prop:=λl=>l.length<=1000000000
def eT.F:eT.D->eT.Y:=λl=>sI l
def eT.L0:Ls eT.L0.aU bE eT.L0.F:=pG (λ(mw,n,i)=>⟨([.d (.slice ei) mw,.undef,.undef,.d ti n,.d ti i]++bj 20 []),[],(List.replicate 25 [])⟩) (λx=>(.exit 0,⟨([.undef,.undef,.undef,.d ti x]++bj 21 []),[],(List.replicate 25 [])⟩))
def eT:Fs Tryz.prog eT.aU bE eT.F:=fK 47 Tryz.f47 (λl=>([.d (.slice ei) l],[])) (λx=>⟨.d ti x,[],[]⟩) [some (.slice ei)] [] {loops:=oM [(5,{bm:=[0,3,4]})],outs:=oL [(5,{bm:=[3]},{bm:=[2]})],iA:=pq [(5,eT.L0.E)]}
theorem eT.L0.run:eT.L0.RS:=rL [.d (.slice ei),.d ti,.d ti] eT.L0
theorem eT.L0.step{R:Type}(mw n i)(kn:K2 R)(kx:K3 R):eT.R 0 eT.L0 (mw,n,i) kn kx=
  aJ ((ik i (mw.length:Int))) (
   aJ (eY i (mw.length:Int)) (
   aJ ((sR (nth ei mw (Int.toNat i)).2.2.2.1 0)) (
    kn (eT.L0.st (mw,(bt .i64 (bt .i64 n 18) 4),(bt .i64 i 1)))) (
    kn (eT.L0.st (mw,(bt .i64 n 18),(bt .i64 i 1))))) none) (
   eT.L0.go kx n):=by kernel_rfl
theorem eT.eq{R:Type}(l)(k:K1 R):eT.A l k=
  aJ ((wy (l.length:Int) 0)) (
   k (eT.out 0)) (
   av (eT.L0.call (l,18,0)) λx1=>
   k (eT.out x1)):=by kernel_rfl
theorem eT.L0.ok:(eT.lE 0 eT.L0):=by
 refine(eT.mr 0 eT.L0) (λ(l,n,i)=>(l).length - Int.toNat i) ?_
 rintro⟨l,n,i⟩ ⟨hlen,k,hk,rfl,h1,h2⟩
 have hlen:(l).length<=1000000000:=hlen
 have hk:k<=(l).length:=hk
 have h1:0<=n:=h1
 have h2:n<=18+22*(k:Int):=h2
 by_cases h:k < (l).length
 ·left
  have n1:nth ei l k=l[k]:=dg (t:=ei) h
  have hd:List.drop k l=l[k]::List.drop (k+1) l:=aq h
  refine⟨(l,(E6 n l[k]),((k+1:Nat):Int)),⟨hlen,k+1,by omega,rfl,by have:=(zC [l[k]] n).1;simp only[cZ,gK,aD,aZ]at this;omega,by have:=(zC [l[k]] n).2;simp only[cZ,gK,aD,aZ]at this;omega⟩,by simp only[aa];omega,?_,λkn kx=> ?_⟩
  ·simp only[bE,eT.L0.F,aa,hd,cZ]
  ·rw[eT.L0.step,bh (by omega),bp (by omega) (by omega),aa,n1]
   simp only[ae]
   rw[N.pk (by omega),eC (x:=n) (by omega) (by omega),eC (x:=n+18) (by omega) (by omega)]
   unfold E6
   by_cases hs:l[k].2.2.2.1=0
   ·rw[cS hs,ah,if_neg (λe=>e hs)]
   ·rw[eI hs,ae,if_pos hs]
 ·right
  obtain rfl:k=(l).length:=by omega
  intro R kn kx
  rw[eT.L0.step,aR (by omega),ah]
  simp only[bE,eT.L0.F,aa,aQ,gK]
theorem eT.ok:eT.Ok:=by
 intro l (h:l.length<=1000000000)
 have z1:((0:Int)).toNat=0:=rfl
 rw[eT.eq]
 simp only[bE,eT.F,sI]
 by_cases h0:l.length=0
 ·rw[iw (by omega),ae,if_pos h0]
 ·rw[gl (by omega),ah,if_neg h0,eT.L0.run (d:=(l,18,0)) ⟨h,0,aV _,rfl,by decide,by decide⟩]
  simp only[ab,bE,eT.L0.F,z1,aI]
theorem eT.run:eT.RS:=rE [.d (.slice ei)] eT
def eT.sg:=eT.fS eT.ok 1 ⟨.hZ eT.L0.ok,trivial⟩
theorem Rc(a b:lF):Ty.beq jk a b=true↔a=b:=⟨beq_eq jk a b rfl,λh=>by rw[h];exact beq_refl jk b rfl⟩
def uE(l:List eK):Int:=(l.map (·.2.1.1)).sum
def y5(l:List jz):Int:=(l.map (·.2.2.1)).sum
def w5(l:List jz):List eK:=l.flatMap (·.1)
def KB(b:rj)(h:Int)(g:jz):Bool:=g.1.any (kW b h)
theorem rJ(x:eK)(l:List eK):uE (x::l)=x.2.1.1+uE l:=by unfold uE;rw[bR,List.sum_cons]
theorem vO(g:jz)(l:List jz):y5 (g::l)=g.2.2.1+y5 l:=by unfold y5;rw[bR,List.sum_cons]
theorem F2(l l':List jz):y5 (l++l')=y5 l+y5 l':=by unfold y5;rw[iD,List.sum_append]
theorem vM(g:jz)(l:List jz):w5 (g::l)=g.1++w5 l:=by unfold w5;rw[List.flatMap_cons]
theorem zN(l l':List jz):w5 (l++l')=w5 l++w5 l':=by unfold w5;rw[List.flatMap_append]
theorem A8:∀ {l:List eK},(∀x∈l,0<=x.2.1.1/\x.2.1.1<=1099511627776)->0<=uE l/\uE l<=1099511627776*(l.length:Int)
 |[],_=>⟨dT 0,dT 0⟩
 |x::l,h=>by
  have h1:=h x aN
  have h2:=A8 (l:=l) λy hy=>h y (aL _ hy)
  rw[rJ,aD]
  omega
theorem F4:∀ {l:List jz},(∀g∈l,0<=g.2.2.1)->0<=y5 l
 |[],_=>dT 0
 |a::l,h=>by
  have h1:=h a aN
  have h2:=F4 (l:=l) λx hx=>h x (aL _ hx)
  rw[vO]
  omega
theorem Jz:∀(c:List eK) (n:Int),(∀x∈c,sI [x]<=x.2.1.1)->c.foldl E6 n+18*(c.length:Int)<=n+uE c
 |[],n,_=>by show n+18*((0:Nat):Int)<=n+0;omega
 |x::c,n,h=>by
  have h1:E6 18 x<=x.2.1.1:=h x aN
  have h2:=Jz c (E6 n x) λy hy=>h y (aL _ hy)
  have h3:E6 n x=n+E6 18 x - 18:=by unfold E6;split <;> omega
  rw[cZ,rJ,aD]
  omega
theorem Ob{c:List eK}(h0:1<=c.length)(h:∀x∈c,sI [x]<=x.2.1.1):sI c<=uE c:=by
 have:=Jz c 18 h
 unfold sI
 rw[if_neg (by omega)]
 omega
theorem NM{h:Int}{x:eK}(e:lT h x=true):yN x h=true/\sI [x]<=x.2.1.1:=by
 unfold lT at e
 rw[ak,bX]at e
 have:=of_decide_eq_false e.2
 exact⟨e.1,by omega⟩
theorem It{R:jz->jz->Prop}:∀ {L:List jz},(∀g∈L,∀g'∈L,R g g')->L.Pairwise R
 |[],_=> .nil
 |a::L,h=> .cons (λg hg=>h a aN g (aL _ hg)) (It λg hg g' hg'=>h g (aL _ hg) g' (aL _ hg'))
theorem Dt:∀(A:List eK) (b:Int),w5 (pn b (A.map kJ))=A
 |[],b=>rfl
 |x::A,b=>by rw[bR,pn,vM,Dt A];rfl
theorem I5:∀(L:List jz) (b:Int),oH (pn b L)=oH L
 |[],b=>rfl
 |g::L,b=>by rw[pn,oA,oA,I5 L];rfl
theorem I4:∀(A:List eK) (b:Int),(∀x∈A,O2 (kJ x))->0<=b->b<=1125899906842624->y5 (pn b (A.map kJ))<=oH (A.map kJ)+b
 |[],b,_,h0,_=>by show(0:Int)<=0+b;omega
 |x::A,b,hx,h0,h1=>by
  have hm:=EK (hx x aN) ⟨h0,h1⟩
  have ih:=I4 A (b - nD b (kJ x)) (λy hy=>hx y (aL _ hy)) (by omega) (by omega)
  rw[bR,pn,vO,oA]
  show sI [x]+nD b (kJ x)+_<=sI [x]+_+b
  omega
theorem F3:∀B:List (List eK),y5 (B.map gC)=oH (B.map gC)
 |[]=>rfl
 |c::B=>by rw[bR,vO,oA,F3 B];rfl
theorem FZ:∀B:List (List eK),w5 (B.map gC)=B.flatten
 |[]=>rfl
 |c::B=>by rw[bR,vM,FZ B];rfl
def IP(l:List eK)(b:rj)(h:Int)(g:jz):Prop:=(1<=g.1.length/\g.1.length<=8)/\g.2.1=sI g.1/\g.2.1<=g.2.2.1/\g.2.2.1<=uE g.1/\(∀x∈g.1,x∈l/\lT h x=true)/\(KB b h g=true->g.1.length=1)/\(KB b h g=false->g.2.2.1=g.2.1)
section
variable {l:List eK} {b:rj} {h:Int}
theorem KS(hx:∀x∈l,E9 x)(hn:(l.map (·.1)).Nodup):((fh l b h++kq l b h).map (·.1)).Nodup:=by
 have hp:(fh l b h++kq l b h).Perm (l.filter (tD b h)++l.filter (tK b h)):=(tC hx).1.append (vY hx).1
 have e1:l.filter (tD b h)=(l.filter (lT h)).filter (kW b h):=by
  rw[nN]
  exact List.filter_congr λx _=>Bool.and_comm _ _
 have e2:l.filter (tK b h)=(l.filter (lT h)).filter (λx=> !kW b h x):=by
  rw[nN]
  exact List.filter_congr λx _=>Bool.and_comm _ _
 rw[e1,e2]at hp
 exact((hp.trans (List.filter_append_perm _ _)).map (·.1)).nodup_iff.2 (hn.sublist (List.filter_sublist.map _))
theorem JX(hx:∀x∈l,E9 x){x:eK}(h1:x∈l)(h2:lT h x=true)(h3:kW b h x=true):x∈fh l b h:=by
 refine(tC hx).1.mem_iff.2 (eW.2 ⟨h1,?_⟩)
 unfold tD
 rw[h2,h3]
 rfl
theorem MF(hx:∀x∈l,E9 x){x:eK}(h1:x∈l)(h2:lT h x=true)(h3:kW b h x=false):x∈kq l b h:=by
 refine(vY hx).1.mem_iff.2 (eW.2 ⟨h1,?_⟩)
 unfold tK
 rw[h2,h3]
 rfl
theorem Is{bu:Int}(hx:∀x∈l,E9 x)(nj:mH l bu b h=true):(∀g∈oD l bu b h,IP l b h g)/\(oD l bu b h).Pairwise (λg g'=>KB b h g'=true->KB b h g=true)/\((w5 (oD l bu b h)).map (·.1)).Nodup/\(w5 (oD l bu b h)).length<=128/\y5 (oD l bu b h)<=bu/\0<=oH (oD l bu b h)/\oH (oD l bu b h)<=bu/\∀x∈l,lT h x=true->x.1 ∉ (w5 (oD l bu b h)).map (·.1)->bu - oH (oD l bu b h) < 194:=by
 obtain⟨hb,_,hh,hl,hn,ha⟩:=B6 nj
 have U4:(fh l b h).length<=64:=by
  rw[(tC hx).1.length_eq]
  exact Nat.le_trans (j3 _ _) hl
 have Jb:(kq l b h).length<=64:=by
  rw[(vY hx).1.length_eq]
  exact Nat.le_trans (j3 _ _) hl
 have Jc:=KS (b:=b) (h:=h) hx hn
 have hc:=(tQ _ (kq l b h) (ay _)).2
 have SK:=wN _ (kq l b h) (ay _)
 have kF:=λ(x:eK) (hm:x∈fh l b h)=>wY hx hm
 have kR:=λ(c:List eK) (hm:c∈jq (kq l b h)) (x:eK) (h':x∈c)=>Dg hx hm h'
 obtain⟨A,A2,B,B2,b',s1,s2,s3,s4,s5,s6,s7,s8⟩:=B7 (l:=l) (b:=b) (h:=h) hb.1
 have fM:=λ(x:eK)=>JX (b:=b) (h:=h) hx (x:=x)
 have rM:=λ(x:eK)=>MF (b:=b) (h:=h) hx (x:=x)
 rw[<-SK]at Jb Jc rM
 rw[s1]at U4 Jc kF fM
 rw[s2]at Jb Jc hc kR rM
 rw[s3]
 have hA:∀x∈A,x∈l/\lT h x=true/\kW b h x=true:=λx hm=>kF x (jc _ hm)
 have hB:∀c∈B,∀x∈c,x∈l/\lT h x=true/\kW b h x=false:=λc hm x h'=>kR c (jc _ hm) x h'
 have gM:∀x∈A,O2 (kJ x):=λx hm=>B0 (ha x (hA x hm).1) (hA x hm).2.1
 have pA:∀g∈A.map kJ,0<=g.2.1:=λg hg=>by obtain⟨x,_,rfl⟩:=dD.1 hg;exact(ot [x]).1
 have pB:∀g∈B.map gC,0<=g.2.1:=λg hg=>by obtain⟨c,_,rfl⟩:=dD.1 hg;exact(ot c).1
 have qA:=sj pA
 have qB:=sj pB
 have tA:∀g∈pn b' (A.map kJ),KB b h g=true/\IP l b h g:=λg hg=>by
  obtain⟨x,hm,m,m1,m2,m3,rfl⟩:=y4 A b' gM s5 (by omega) g hg
  obtain⟨k1,k2,k3⟩:=hA x hm
  have hp:KB b h (Am (kJ x) m)=true:=by
   show(kW b h x || false)=true
   rw[k3];rfl
  have hs:uE [x]=x.2.1.1+0:=rJ x []
  refine⟨hp,⟨by show 1<=1;decide,by show 1<=8;decide⟩,rfl,by show sI [x]<=sI [x]+m;omega,by show sI [x]+m<=uE [x];omega,λy hy=> ?_,λ_=>rfl,λe=> ?_⟩
  ·rw[ck.1 (show y∈ [x] from hy)]
   exact⟨k1,k2⟩
  ·rw[hp]at e
   cases e
 have tB:∀g∈B.map gC,KB b h g=false/\IP l b h g:=λg hg=>by
  obtain⟨c,hm,rfl⟩:=dD.1 hg
  have hp:KB b h (gC c)=false:=by
   show c.any (kW b h)=false
   rw[jl]
   intro x h'
   rw[(hB c hm x h').2.2]
   decide
  have HX:=hc c (jc _ hm)
  refine⟨hp,HX,rfl,dT _,Ob HX.1 λx h'=>(NM (hB c hm x h').2.1).2,λx h'=>⟨(hB c hm x h').1,(hB c hm x h').2.1⟩,λe=> ?_,λ_=>rfl⟩
  rw[hp]at e
  cases e
 have eg:w5 (pn b' (A.map kJ)++B.map gC)=A++B.flatten:=by rw[zN,Dt,FZ]
 have el:oH (pn b' (A.map kJ)++B.map gC)=oH (A.map kJ)+oH (B.map gC):=by rw[zW,I5]
 have es:y5 (pn b' (A.map kJ)++B.map gC)<=oH (A.map kJ)+b'+oH (B.map gC):=by
  have:=I4 A b' gM s5 (by omega)
  rw[F2,F3]
  omega
 rw[eg,el]
 rw[List.flatten_append]at Jc Jb rM
 refine⟨λg hg=>(bP.1 hg).elim (λh'=>(tA g h').2) (λh'=>(tB g h').2),List.pairwise_append.2 ⟨It λg hg g' _ _=>(tA g hg).1,It λg _ g' hg' e=> ?_,λg hg g' _ _=>(tA g hg).1⟩,?_,?_,by omega,by omega,by omega,λx h1 h2 h3=> ?_⟩
 ·rw[(tB g' hg').1]at e
  cases e
 ·refine List.Nodup.sublist (List.Sublist.map _ ?_) Jc
  exact(List.sublist_append_left A A2).append (List.sublist_append_left B.flatten B2.flatten)
 ·rw[aj]at U4 Jb ⊢
  omega
 ·have n1:x ∉ A:=λe=>h3 (gB (jc _ e))
  have n2:x ∉ B.flatten:=λe=>h3 (gB (List.mem_append_right _ e))
  have d1:A2≠ []->b' < 194:=λe=>by
   match A2,e,s7 with
   |y::A3,_,s7=>
    have h4:=s7 y A3 rfl
    have h5:sI [y]<=18+22*((1:Nat):Int):=(ot [y]).2
    omega
  have d2:A2=[]->B2≠ []->b' < 194:=λe e'=>by
   match B2,e',s8,hc with
   |c::B3,_,s8,hc=>
    have h4:=s8 e c B3 rfl
    have h5:=(ot c).2
    have h6:=(hc c (List.mem_append_right _ aN)).2
    omega
  have d:b' < 194:=by
   cases hp:kW b h x with
   |true=>
    refine d1 λe=> ?_
    have:=fM x h1 h2 hp
    rw[e,cH]at this
    exact n1 this
   |false=>
    by_cases e:A2=[]
    ·refine d2 e λe'=> ?_
     have:=rM x h1 h2 hp
     rw[e',kP,cH]at this
     exact n2 this
    ·exact d1 e
  omega
end
def La(l:List eK)(b:rj)(h:Int)(G:List jz)(paid least:Int)(m:Nat)(calm:Bool)(seen:List eK):Prop:=(∀g∈G,IP l b h g)/\G.Pairwise (λg g'=>KB b h g'=true->KB b h g=true)/\(calm=true->∀g∈G,KB b h g=false)/\((seen++w5 G).map (·.1)).Nodup/\m=seen.length/\(seen++w5 G).length<=128/\(0<=paid/\paid+y5 G<=1125899906842624)/\(0<=least/\least+oH G<=1125899906842624)
theorem La.next{l:List eK}{b:rj}{h:Int}{g:jz}{G:List jz}{paid least:Int}{m:Nat}{calm:Bool}{seen:List eK}(hI:La l b h (g::G) paid least m calm seen):La l b h G (paid+g.2.2.1) (least+g.2.1) (m+g.1.length) (calm || !KB b h g) (seen++g.1)/\paid+g.2.2.1<=1125899906842624/\least+g.2.1<=1125899906842624:=by
 obtain⟨h1,h2,h3,h4,h5,h6,h7,h8⟩:=hI
 have g1:=h1 g aN
 have hw:∀g∈G,0<=g.2.1/\0<=g.2.2.1:=λg' hg'=>by
  obtain⟨_,k1,k2,_⟩:=h1 g' (aL _ hg')
  have:=(ot g'.1).1
  omega
 have w1:=sj λg hg=>(hw g hg).1
 have w2:=F4 λg hg=>(hw g hg).2
 have w3:=(ot g.1).1
 obtain⟨_,k1,k2,_⟩:=g1
 rw[vM,<-bk]at h4 h6
 rw[vO]at h7
 rw[oA]at h8
 refine⟨⟨λg' hg'=>h1 g' (aL _ hg'),(jT.1 h2).2,λe g' hg'=> ?_,h4,by rw[aj,h5],h6,⟨by omega,by omega⟩,⟨by omega,by omega⟩⟩,by omega,by omega⟩
 rw[gP,bX]at e
 rcases e with e | e
 ·exact h3 e g' (aL _ hg')
 ·cases hp:KB b h g' with
  |false=>rfl
  |true=>
   rw[(jT.1 h2).1 g' hg' hp]at e
   cases e
end Go.Ab
namespace Go.Ab
open Go.Proofs
section
variable {l:List eK} {b:rj} {h:Int}
end
end Go.Ab
namespace Go.Ab
open Go.Proofs
abbrev dZ.D:=Int
abbrev dZ.Y:=Bool
def dZ.aU:dZ.D->Prop:=λ_=>True
def dZ.F:dZ.D->dZ.Y:=λa=>jr a
def dZ:Fs Tryz.prog dZ.aU bE dZ.F:=fK 178 Tryz.f178 (λa=>([.d ti a],[])) (λx=>⟨.d .bool x,[],[]⟩) [some ti]
theorem dZ.eq{R:Type}(a)(k:K1 R):dZ.A a k=
  aJ ((qQ a 0)) (
   k (dZ.out (zS a 1125899906842624))) (
   k (dZ.out false)):=by kernel_rfl
theorem dZ.ok:dZ.Ok:=by
 intro a _
 rw[dZ.eq]
 simp only[bE,dZ.F,jr]
 by_cases h:0<=a
 ·rw[eQ h,ae]
  by_cases h2:a<=1125899906842624
  ·rw[ix h2,aP ⟨h,h2⟩]
  ·rw[ga h2,bf (λe=>h2 e.2)]
 ·rw[dQ h,ah,bf (λe=>h e.1)]
theorem dZ.run:dZ.RS:=rE [.d ti] dZ
def dZ.sg:=dZ.fS dZ.ok
theorem Q9{x:Int}(h:0<=x)(h2:x < 9223372036854775808):cW .and .i64 x 1=x%2:=by
 obtain⟨n,rfl⟩:∃n:Nat,x=n:=⟨x.toNat,by omega⟩
 have e:(BitVec.ofInt 64 (n:Int) &&& BitVec.ofInt 64 1).toNat=n%2:=by
  rw[BitVec.toNat_and]
  have a:(BitVec.ofInt 64 (n:Int)).toNat=n:=by rw[j9,lA];omega
  have b:(BitVec.ofInt 64 1).toNat=2^1 - 1:=by decide
  rw[a,b,iT]
 show IntKind.i64.wrap ((BitVec.ofInt 64 (n:Int) &&& BitVec.ofInt 64 1).toNat:Int)=_
 rw[e,qn (by omega) (by omega)];omega
theorem LZ(a:Int){j:Nat}(hj:j<=64):cr .i64 a (j:Int)=a / 2^j:=by
 unfold cr
 rw[aa,show min j IntKind.i64.bits=j from fp hj]
 exact il _ (lB (qe (by decide)))
theorem dm{M d q r:Int}(hd:0 < d)(h:q*d+r=M)(h0:0<=r)(h1:r < d):M / d=q/\M%d=r:=by
 subst h
 rw[Int.add_comm]
 exact⟨by rw[Int.add_mul_ediv_right _ _ (by omega),Int.ediv_eq_zero_of_lt h0 h1,lD],by rw[Int.add_mul_emod_self_right,ke h0 h1]⟩
theorem zL(M:Int){d:Int}(hd:0 < d):M / d*d+M%d=M/\0<=M%d/\M%d < d:=by
 have:=Int.mul_ediv_add_emod M d
 rw[lC]at this
 exact⟨this,iC _ (by omega),gS _ hd⟩
theorem DO{N d n:Int}(hd:0 < d):(2*N+n) / d=2*(N / d)+2*(N%d) / d+n / d+(2*(N%d)%d+n%d) / d/\(2*N+n)%d=(2*(N%d)%d+n%d)%d:=by
 obtain⟨a1,a2,a3⟩:=zL N hd
 obtain⟨b1,b2,b3⟩:=zL (2*(N%d)) hd
 obtain⟨c1,c2,c3⟩:=zL n hd
 obtain⟨e1,e2,e3⟩:=zL (2*(N%d)%d+n%d) hd
 refine dm hd ?_ e2 e3
 generalize N / d=q at*
 generalize N%d=r at*
 generalize 2*r / d=u at*
 generalize 2*r%d=v at*
 generalize n / d=s at*
 generalize n%d=t at*
 generalize (v+t) / d=w at*
 generalize (v+t)%d=z at*
 rw[ou,ou,ou,ku]
 omega
abbrev aT.L0.D:=Int×Int×Int×Int×Int×Int
def aT.L0.st:aT.L0.D->AS:=λ(mM,q,r,d,n,kv)=>⟨([.d ti mM]++bj 8 ([.d tu q,.d tu r,.d tu d,.d tu n,.d ti kv]++bj 60 [])),[],(List.replicate 74 [])⟩
abbrev aT.L0.Y0:=Unit
abbrev aT.L0.X0:=Unit
def aT.L0.dE:aT.L0.X0->Exit×AS:=λx=>(.ret,⟨(bj 6 ([.d ti (0:Int),.d ti (0:Int),.d .bool false]++bj 65 [])),[],(List.replicate 74 [])⟩)
abbrev aT.L0.Y1:=Int×Int
abbrev aT.L0.X1:=Int×Int
def aT.L0.fQ:aT.L0.X1->Exit×AS:=λx=>(.exit 0,⟨(bj 9 ([.d tu x.1,.d tu x.2]++bj 63 [])),[],(List.replicate 74 [])⟩)
abbrev aT.L0.X:=(aT.L0.X0)⊕(aT.L0.X1)
abbrev aT.L0.Y:=(aT.L0.Y0)⊕(aT.L0.Y1)
def aT.L0.out:aT.L0.X->Out (Exit×AS):=λx=> .br x.isLeft (.get x.getLeft? λa=> .ok (aT.L0.dE a)) (.get x.getRight? λb=> .ok (aT.L0.fQ b))
def aT.L0.add:aT.L0.D->aT.L0.Y->aT.L0.X:=λ(mM,q,r,d,n,kv) y=>match y with | .inl y=> .inl y | .inr z=> .inr (z)
abbrev aT.D:=Int×Int×Int
abbrev aT.Y:=Int×Int×Bool
def aT.L0.aU:aT.L0.D->Prop:=λ(a,q,r,d,n,kv)=>(0<=a/\a<=1125899906842624)/\(0<=n/\n<=d)/\(1<=d/\d<=10000)/\∃k:Nat,k<=51/\kv=(k:Int) - 1/\q=a / 2^k*n / d/\r=a / 2^k*n%d
def aT.L0.F:aT.L0.D->aT.L0.Y:=λ(a,_,_,d,n,_)=> .inr (a*n / d,a*n%d)
def aT.aU:aT.D->Prop:=λ(a,n,d)=>(0<=a/\a<=1125899906842624)/\(0<=n/\n<=d)/\1<=d/\d<=10000
def aT.F:aT.D->aT.Y:=λ(a,n,d)=>(a*n / d,a*n%d,true)
def aT.L0.E:=eO.hZ aT.L0.st aT.L0.aU aT.L0.add aT.L0.F aT.L0.out
def aT.L0.call:aT.L0.D->Option aT.L0.X:=jH aT.L0.E aT.L0.st
def aT:Fs Tryz.prog aT.aU bE aT.F:=fK 177 Tryz.f177 (λ(a,num,den)=>([.d ti a,.d ti num,.d ti den],[])) (λx=>⟨.cons (.d ti x.1) (.cons (.d ti x.2.1) (.cons (.d .bool x.2.2) (.nil))),[],[]⟩) [some ti,some ti,some ti] [dZ.sg] {loops:=oM [(8,{bm:=[0,9,10,11,12,13]})],outs:=oL [(8,{bm:=[9,10]},{bm:=[6,7,8]})],iA:=pq [(8,aT.L0.E)]}
def aT.L0.R:= @gL Tryz.prog (lN aT.G) aT.an 0 Tryz.f177 0 _ aT.L0.st
abbrev aT.L0.Ok:=nh Tryz.prog (lN aT.G) aT.an 0 Tryz.f177 0 aT.L0.st aT.L0.aU aT.L0.add aT.L0.F aT.L0.out
theorem aT.L0.run:mq aT.L0.call aT.L0.aU aT.L0.add aT.L0.F:=oo (oa [.d ti,.d tu,.d tu,.d tu,.d tu,.d ti] λ_=>by kernel_rfl)
theorem aT.L0.cM:nM @aT.L0.R aT.L0.st aT.L0.aU aT.L0.add aT.L0.F aT.L0.out aT.L0.Ok:=oF
theorem aT.L0.step{R:Type}(mM:Int)(q:Int)(r:Int)(d:Int)(n:Int)(kv:Int)(kn:AS->Option R)(kx:Exit->AS->Option R):aT.L0.R (mM,q,r,d,n,kv) kn kx=
  aJ ((qQ kv (0:Int))) (
   aJ (iK d) (
   aJ (iK d) (
   aJ (kA kv) (
   aJ ((wy (cW .and .i64 (cr .i64 mM kv) (1:Int)) (1:Int))) (
    aJ (iK d) (
    aJ (iK d) (
    aJ (iK d) (
    aJ (iK d) (
    aJ ((nc (bt .u64 (bt .u64 (bt .u64 (eR .u64 (2:Int) q) (jX .u64 (eR .u64 (2:Int) r) d)) (jX .u64 n d)) (jX .u64 (bt .u64 (gv (eR .u64 (2:Int) r) d) (gv n d)) d)) (1125899906842624:Int))) (
     kx (aT.L0.dE ()).1 (aT.L0.dE ()).2) (
     kn (aT.L0.st (mM,(bt .u64 (bt .u64 (bt .u64 (eR .u64 (2:Int) q) (jX .u64 (eR .u64 (2:Int) r) d)) (jX .u64 n d)) (jX .u64 (bt .u64 (gv (eR .u64 (2:Int) r) d) (gv n d)) d)),(gv (bt .u64 (gv (eR .u64 (2:Int) r) d) (gv n d)) d),d,n,(dp .i64 kv (1:Int)))))) none) none) none) none) (
    aJ (iK d) (
    aJ (iK d) (
    aJ ((nc (bt .u64 (bt .u64 (eR .u64 (2:Int) q) (jX .u64 (eR .u64 (2:Int) r) d)) (jX .u64 (gv (eR .u64 (2:Int) r) d) d)) (1125899906842624:Int))) (
     kx (aT.L0.dE ()).1 (aT.L0.dE ()).2) (
     kn (aT.L0.st (mM,(bt .u64 (bt .u64 (eR .u64 (2:Int) q) (jX .u64 (eR .u64 (2:Int) r) d)) (jX .u64 (gv (eR .u64 (2:Int) r) d) d)),(gv (gv (eR .u64 (2:Int) r) d) d),d,n,(dp .i64 kv (1:Int)))))) none) none)) none) none) none) (
   kx (aT.L0.fQ (q,r)).1 (aT.L0.fQ (q,r)).2):=by kernel_rfl
theorem aT.eq{R:Type}(a num den)(k:K1 R):aT.A (a,num,den) k=
  av (dZ.call a) λx1=>
  aJ ((!x1)) (
   k (aT.out (0,0,false))) (
   aJ ((ik num 0)) (
    k (aT.out (0,0,false))) (
    aJ ((ik den 1)) (
     k (aT.out (0,0,false))) (
     av (aT.L0.call (a,0,0,(dP .u64 den),(dP .u64 num),50)) λx2=>
     aJ (x2.isLeft) (
      av (x2.getLeft?) λa3=>
      k (aT.out (0,0,false))) (
      av (x2.getRight?) λb4=>
      k (aT.out ((dP .i64 b4.1),(dP .i64 b4.2),true)))))):=by kernel_rfl
theorem aT.L0.ok:aT.L0.Ok:=by
 refine aT.L0.cM (λ(_,_,_,_,_,kv)=>(kv+1).toNat) ?_
 rintro⟨a,q,r,d,n,kv⟩ ⟨ha,hn,hd,k,hk,rfl,rfl,rfl⟩
 have ha:0<=a/\a<=1125899906842624:=ha
 have hn:0<=n/\n<=d:=hn
 have hd:1<=d/\d<=10000:=hd
 have I7:0 < d:=by omega
 cases k with
 |zero=>
  right
  refine⟨aT.L0.fQ (a*n / d,a*n%d),rfl,λkn kx=> ?_⟩
  rw[aT.L0.step,dQ (by omega),ah,Int.pow_zero,Int.ediv_one]
 |succ j=>
  left
  have ej:(((j+1:Nat):Int) - 1)=(j:Int):=by omega
  have p0:(0:Int) < 2^j:=qe (by decide)
  have eA:a / 2^(j+1)=a / 2^j / 2:=by rw[Int.pow_succ,Int.ediv_ediv_of_nonneg (lB p0)]
  have b0:0<=a / 2^j:=fH ha.1 (lB p0)
  have b1:a / 2^j<=a:=Int.ediv_le_self _ ha.1
  have eb:wy (cW .and .i64 (cr .i64 a (j:Int)) 1) 1=decide (a / 2^j%2=1):=by
   rw[LZ a (by omega),Q9 b0 (by omega)]
   rfl
  obtain⟨B,hB⟩:∃B,a / 2^j=B:=⟨_,rfl⟩
  rw[ej,eA]
  rw[hB]at b0 b1 eb ⊢
  have hN:0<=B / 2*n:=jQ (by omega) hn.1
  have hT:0<=B*n:=jQ b0 hn.1
  have hT2:B*n / d<=B:=j2 I7 (gE hn.2 b0)
  have s:=zL (B / 2*n) I7
  have c0:0<=B / 2*n / d:=fH hN (by omega)
  have c1:B / 2*n / d<=B:=Int.le_trans (j2 I7 (gE hn.2 (by omega))) (show B / 2<=B by omega)
  have nz:iK d=true:=by unfold iK;simp;omega
  have nn:kA (j:Int)=true:=oB (by omega)
  have w1:∀x:Int,0<=x->x<=4000000000000000->dP .u64 x=x:=λx h0 h1=>by rw[tg];omega
  have wm:eR .u64 2 (B / 2*n / d)=2*(B / 2*n / d):=by rw[nH];omega
  have wr:eR .u64 2 (B / 2*n%d)=2*(B / 2*n%d):=by rw[nH];omega
  have dv:2*(B / 2)+B%2=B:=by omega
  have u0:=zL (2*(B / 2*n%d)) I7
  have u1:0<=2*(B / 2*n%d) / d:=fH (by omega) (by omega)
  have u2:2*(B / 2*n%d) / d<=2*(B / 2*n%d):=Int.ediv_le_self _ (by omega)
  have q1:jX .u64 (2*(B / 2*n%d)) d=2*(B / 2*n%d) / d:=sW (by omega) (by omega) (by omega)
  have q2:gv (2*(B / 2*n%d)) d=2*(B / 2*n%d)%d:=iy (by omega)
  have UR:j<=51:=by omega
  have e7:dp .i64 (j:Int) 1=(j:Int) - 1:=eE (by omega) (by omega)
  by_cases hb:B%2=1
  ·have st:=DO (N:=B / 2*n) (d:=d) (n:=n) I7
   have eN:2*(B / 2*n)+n=B*n:=by
    have:B*n=(2*(B / 2)+1)*n:=by congr 1;omega
    rw[this,ou,Int.one_mul,ku]
   rw[eN]at st
   obtain⟨st1,st2⟩:=st
   have v0:=zL n I7
   have v1:0<=n / d:=fH hn.1 (by omega)
   have q3:jX .u64 n d=n / d:=sW hn.1 (by omega) (by omega)
   have q4:gv n d=n%d:=iy hn.1
   have x0:0<=(2*(B / 2*n%d)%d+n%d) / d:=fH (by omega) (by omega)
   have a1:bt .u64 (2*(B / 2*n%d)%d) (n%d)=2*(B / 2*n%d)%d+n%d:=by rw[iJ];omega
   have q5:jX .u64 (2*(B / 2*n%d)%d+n%d) d=(2*(B / 2*n%d)%d+n%d) / d:=sW (by omega) (by omega) (by omega)
   have q6:gv (2*(B / 2*n%d)%d+n%d) d=(2*(B / 2*n%d)%d+n%d)%d:=iy (by omega)
   have a2:bt .u64 (2*(B / 2*n / d)) (2*(B / 2*n%d) / d)=2*(B / 2*n / d)+2*(B / 2*n%d) / d:=by rw[iJ];omega
   have a3:bt .u64 (2*(B / 2*n / d)+2*(B / 2*n%d) / d) (n / d)=2*(B / 2*n / d)+2*(B / 2*n%d) / d+n / d:=by rw[iJ];omega
   have a4:bt .u64 (2*(B / 2*n / d)+2*(B / 2*n%d) / d+n / d) ((2*(B / 2*n%d)%d+n%d) / d)=B*n / d:=by rw[iJ,st1];omega
   refine⟨(a,B*n / d,B*n%d,d,n,(j:Int) - 1),⟨ha,hn,hd,j,UR,rfl,?_,?_⟩,by show((j:Int) - 1+1).toNat < ((j:Int)+1).toNat;omega,rfl,λkn kx=> ?_⟩
   ·show B*n / d=_
    rw[hB]
   ·show B*n%d=_
    rw[hB]
   ·rw[aT.L0.step,eQ (by omega),ae]
    simp only[nz,nn,ae,eb,hb,decide_true,wm,wr,q1,q2,q3,q4,a1,a2,a3,a4,q5,q6,e7]
    rw[cj (by omega),ah,<-st2]
  ·have st:=DO (N:=B / 2*n) (d:=d) (n:=0) I7
   have eN:2*(B / 2*n)+0=B*n:=by
    have:B*n=2*(B / 2)*n:=by congr 1;omega
    rw[this,kb,ku]
   rw[eN,Int.zero_ediv,Int.zero_emod,kb,kb]at st
   obtain⟨st1,st2⟩:=st
   have x0:0<=2*(B / 2*n%d)%d / d:=fH (by omega) (by omega)
   have q5:jX .u64 (2*(B / 2*n%d)%d) d=2*(B / 2*n%d)%d / d:=sW (by omega) (by omega) (by omega)
   have q6:gv (2*(B / 2*n%d)%d) d=2*(B / 2*n%d)%d%d:=iy (by omega)
   have a2:bt .u64 (2*(B / 2*n / d)) (2*(B / 2*n%d) / d)=2*(B / 2*n / d)+2*(B / 2*n%d) / d:=by rw[iJ];omega
   have a4:bt .u64 (2*(B / 2*n / d)+2*(B / 2*n%d) / d) (2*(B / 2*n%d)%d / d)=B*n / d:=by rw[iJ,st1];omega
   refine⟨(a,B*n / d,B*n%d,d,n,(j:Int) - 1),⟨ha,hn,hd,j,UR,rfl,?_,?_⟩,by show((j:Int) - 1+1).toNat < ((j:Int)+1).toNat;omega,rfl,λkn kx=> ?_⟩
   ·show B*n / d=_
    rw[hB]
   ·show B*n%d=_
    rw[hB]
   ·rw[aT.L0.step,eQ (by omega),ae]
    simp only[nz,nn,ae,eb,decide_eq_false hb,ah,wm,wr,q1,q2,a2,a4,q5,q6,e7]
    rw[cj (by omega),ah,<-st2]
theorem aT.ok:aT.Ok:=by
 rintro⟨a,n,d⟩ ⟨ha,hn,hd⟩
 have ha:0<=a/\a<=1125899906842624:=ha
 have hn:0<=n/\n<=d:=hn
 have hd:1<=d/\d<=10000:=hd
 have I7:0 < d:=by omega
 have e0:jr a=true:=aP ha
 have c1:dP .u64 d=d:=by rw[tg];omega
 have c2:dP .u64 n=n:=by rw[tg];omega
 have z:a / 2^51=0:=Int.ediv_eq_zero_of_lt ha.1 (by omega)
 have b0:0<=a*n / d:=fH (jQ ha.1 hn.1) (by omega)
 have b1:a*n / d<=a:=j2 I7 (gE hn.2 ha.1)
 have b2:=zL (a*n) I7
 rw[aT.eq,dZ.run (d:=a) trivial]
 simp only[ab,bE,dZ.F,e0,cq,ah]
 rw[aR (by omega),ah,aR (by omega),ah,c1,c2,aT.L0.run (d:=(a,0,0,d,n,50)) ⟨ha,hn,hd,51,ay _,rfl,by rw[z,Int.zero_mul,Int.zero_ediv],by rw[z,Int.zero_mul,Int.zero_emod]⟩]
 simp only[ab,aT.L0.add,aT.L0.F,gg,fe,ah]
 rw[AH (by omega) (by omega),AH (by omega) (by omega)]
 rfl
theorem aT.run:aT.RS:=rE [.d ti,.d ti,.d ti] aT
def aT.sg:=aT.fS aT.ok 1 ⟨.hZ aT.L0.ok,trivial⟩
abbrev jn.D:=Int×Int×Int
abbrev jn.Y:=Int×Bool
def jn.aU:jn.D->Prop:=λ(a,n,d)=>(0<=a/\a<=1125899906842624)/\(0<=n/\n<=d)/\1<=d/\d<=10000
def jn.F:jn.D->jn.Y:=λ(a,n,d)=>(IK a n d,true)
def jn:Fs Tryz.prog jn.aU bE jn.F:=fK 119 Tryz.f119 (λ(a,num,den)=>([.d ti a,.d ti num,.d ti den],[])) (λx=>⟨.cons (.d ti x.1) (.cons (.d .bool x.2) (.nil)),[],[]⟩) [some ti,some ti,some ti] [aT.sg,dZ.sg]
theorem jn.eq{R:Type}(a num den)(k:K1 R):jn.A (a,num,den) k=
  av (aT.call (a,num,den)) λx1=>
  aJ (x1.2.2) (
   aJ ((nc x1.2.1 0)) (
    aJ ((!x1.2.2)) (
     k (jn.out (0,false))) (
     av (dZ.call (bt .i64 x1.1 1)) λx2=>
     aJ ((!x2)) (
      k (jn.out (0,false))) (
      k (jn.out ((bt .i64 x1.1 1),true))))) (
    aJ ((!x1.2.2)) (
     k (jn.out (0,false))) (
     av (dZ.call x1.1) λx3=>
     aJ ((!x3)) (
      k (jn.out (0,false))) (
      k (jn.out (x1.1,true)))))) (
   aJ ((!x1.2.2)) (
    k (jn.out (0,false))) (
    av (dZ.call x1.1) λx4=>
    aJ ((!x4)) (
     k (jn.out (0,false))) (
     k (jn.out (x1.1,true))))):=by kernel_rfl
theorem jn.ok:jn.Ok:=by
 rintro⟨a,n,d⟩ ⟨ha,hn,hd⟩
 have ha:0<=a/\a<=1125899906842624:=ha
 have hn:0<=n/\n<=d:=hn
 have hd:1<=d/\d<=10000:=hd
 obtain⟨u1,u2,_⟩:=Jy ha.1 hn.1 hn.2 hd.1
 rw[jn.eq,aT.run (d:=(a,n,d)) ⟨ha,hn,hd⟩]
 simp only[ab,bE,aT.F,bE,jn.F,ae,cq,ah]
 by_cases h:0 < a*n%d
 ·have e:IK a n d=a*n / d+1:=by unfold IK;rw[if_pos h]
  rw[cX h,ae,eC (by omega) (by omega),<-e,dZ.run (d:=IK a n d) trivial]
  simp only[ab,bE,dZ.F]
  rw[show jr (IK a n d)=true from aP ⟨u1,by omega⟩]
  rfl
 ·have e:IK a n d=a*n / d:=by unfold IK;rw[if_neg h]
  rw[cj h,ah,<-e,dZ.run (d:=IK a n d) trivial]
  simp only[ab,bE,dZ.F]
  rw[show jr (IK a n d)=true from aP ⟨u1,by omega⟩]
  rfl
theorem jn.run:jn.RS:=rE [.d ti,.d ti,.d ti] jn
def jn.sg:=jn.fS jn.ok
abbrev gq.D:=jz×Int×rj
abbrev gq.Y:=Int
def gq.aU:gq.D->Prop:=λ(g,h,_)=>Nb g/\0<=h/\h<=9223372036854775807
def gq.F:gq.D->gq.Y:=λ(g,h,b)=>qO g h b
def gq:Fs Tryz.prog gq.aU bE gq.F:=fK 53 Tryz.f53 (λ(g,atv,b)=>([.d oq g,.d ti atv,.d p9 b],[])) (λx=>⟨.d ti x,[],[]⟩) [some oq,some ti,some p9] [dN.sg,gm.sg,jn.sg]
theorem gq.eq{R:Type}(g atv b)(k:K1 R):gq.A (g,atv,b) k=
  av (dN.call b) λx1=>
  av (gm.call b) λx2=>
  aJ ((wy g.2.2.2.1 0)) (
   k (gq.out g.2.1)) (
   aJ ((!x1)) (
    k (gq.out g.2.1)) (
    aJ ((qQ (dp .i64 g.2.2.2.1 atv) (eR .i64 2 x2))) (
     k (gq.out g.2.1)) (
     aJ ((zS (dp .i64 g.2.2.2.1 atv) x2)) (
      k (gq.out g.2.2.1)) (
      av (jn.call ((dp .i64 g.2.2.1 g.2.1),(dp .i64 (eR .i64 2 x2) (dp .i64 g.2.2.2.1 atv)),x2)) λx3=>
      k (gq.out (bt .i64 g.2.1 x3.1)))))):=by kernel_rfl
theorem gq.ok:gq.Ok:=by
 rintro⟨g,h,b⟩ ⟨hg,h0,h1⟩
 have h0:0<=h:=h0
 have h1:h<=9223372036854775807:=h1
 have hs:=AU b
 obtain⟨⟨g1,g2,g3⟩,g4,g5⟩:=hg
 rw[gq.eq,dN.run (d:=b) trivial,gm.run (d:=b) trivial]
 simp only[ab,bE,dN.F,bE,gm.F,bE,gq.F,qO]
 by_cases a1:g.2.2.2.1=0
 ·rw[iw a1,ae,if_pos (.inl a1)]
 rw[gl a1,ah]
 cases hr:kB b with
 |false=>rw[if_pos (.inr (.inl rfl))];rfl
 |true=>
  have K5:=hs.2.2 hr
  rw[cq,ah,eE (x:=g.2.2.2.1) (by omega) (by omega),qo (by omega) (by omega)]
  by_cases a2:g.2.2.2.1 - h>=2*jo b
  ·rw[eQ a2,ae,if_pos (.inr (.inr a2))]
  ·rw[dQ a2,ah,if_neg (by rintro(e | e | e);exact a1 e;cases e;exact a2 e)]
   by_cases a3:g.2.2.2.1 - h<=jo b
   ·rw[ix a3,ae,if_pos a3]
   ·obtain⟨u1,u2,_⟩:=Jy (a:=g.2.2.1 - g.2.1) (n:=2*jo b - (g.2.2.2.1 - h)) (d:=jo b) (by omega) (by omega) (by omega) (by omega)
    rw[ga a3,ah,if_neg a3,eE (x:=g.2.2.1) (by omega) (by omega),eE (x:=2*jo b) (by omega) (by omega),jn.run (d:=(g.2.2.1 - g.2.1,2*jo b - (g.2.2.2.1 - h),jo b)) ⟨⟨by omega,by omega⟩,⟨by omega,by omega⟩,by omega,by omega⟩]
    simp only[ab,bE,jn.F]
    rw[eC (by omega) (by omega)]
theorem gq.run:gq.RS:=rE [.d oq,.d ti,.d p9] gq
def gq.sg:=gq.fS gq.ok
abbrev al.L0.D:=(List eK)×Bs×Int×Lk×Int×Int×(Int×Unit)×Nat×(Int×Unit)×(List gz)
def al.L0.st:al.L0.D->AS:=λ(mw,gO,qX,rI,sum,i,n8,ue,n10,n113)=>⟨([.d (.slice ei) mw,.d tU gO,.undef,.d ti qX,.undef,.undef,.ed mK rI,.undef,.ptr (.new 8 0) 0 [] 0,.undef,.ptr (.new 10 0) 0 [] 0,.d ti sum,.d ti i]++bj 152 []),[],(cg 8 ([[.obj 0 false (.pr (.df) (.pr (.df) (.d (.pair ti .unit) n8)))],[],[.obj 0 false (.pr (.cP (.new 113 0) 0 [] 0 0 ue) (.pr (.df) (.d (.pair ti .unit) n10)))]]++cg 102 ([[.obj 0 false (.vec 52 gX n113)]]++cg 51 [])))⟩
abbrev al.L0.Y0:=(Int×Unit)
abbrev al.L0.X0:=(Int×Unit)
def al.L0.dE:al.L0.X0->Exit×AS:=λx=>(.ret,⟨(bj 8 ([.ptr (.new 8 0) 0 [] 0,.d ti (1:Int)]++bj 155 [])),[],(cg 8 ([[.obj 0 false (.pr (.df) (.pr (.df) (.d (.pair ti .unit) x)))]]++cg 156 []))⟩)
abbrev al.L0.Y1:=(List eK)×Bs×Int×Lk×Int×(Int×Unit)×Nat×(Int×Unit)×(List gz)
abbrev al.L0.X1:=(List eK)×Bs×Int×Lk×Int×(Int×Unit)×Nat×(Int×Unit)×(List gz)
def al.L0.fQ:al.L0.X1->Exit×AS:=λx=>(.exit 0,⟨([.d (.slice ei) x.1,.d tU x.2.1,.undef,.d ti x.2.2.1,.undef,.undef,.ed mK x.2.2.2.1,.undef,.ptr (.new 8 0) 0 [] 0,.undef,.ptr (.new 10 0) 0 [] 0,.d ti x.2.2.2.2.1]++bj 153 []),[],(cg 8 ([[.obj 0 false (.pr (.df) (.pr (.df) (.d (.pair ti .unit) x.2.2.2.2.2.1)))],[],[.obj 0 false (.pr (.cP (.new 113 0) 0 [] 0 0 x.2.2.2.2.2.2.1) (.pr (.df) (.d (.pair ti .unit) x.2.2.2.2.2.2.2.1)))]]++cg 102 ([[.obj 0 false (.vec 52 gX x.2.2.2.2.2.2.2.2)]]++cg 51 [])))⟩)
abbrev al.L0.X:=(al.L0.X0)⊕(al.L0.X1)
abbrev al.L0.Y:=(al.L0.Y0)⊕(al.L0.Y1)
def al.L0.out:al.L0.X->Out (Exit×AS):=λx=> .br x.isLeft (.get x.getLeft? λa=> .ok (al.L0.dE a)) (.get x.getRight? λb=> .ok (al.L0.fQ b))
def al.L0.add:al.L0.D->al.L0.Y->al.L0.X:=λ(mw,gO,qX,rI,sum,i,n8,ue,n10,n113) y=>match y with | .inl y=> .inl y | .inr z=> .inr (z)
abbrev al.L1.D:=(List eK)×Bs×Int×Lk×Int×Int×Int×(Int×Unit)×Nat×(Int×Unit)×(List gz)
def al.L1.st:al.L1.D->AS:=λ(DB,u9,zM,Hc,Ak,fY,kv,vk,vh,re,vi)=>⟨([.d (.slice ei) DB,.d tU u9,.undef,.d ti zM,.undef,.undef,.ed mK Hc,.undef,.ptr (.new 8 0) 0 [] 0,.undef,.ptr (.new 10 0) 0 [] 0,.d ti Ak,.d ti fY,.undef,.d ti kv]++bj 150 []),[],(cg 8 ([[.obj 0 false (.pr (.df) (.pr (.df) (.d (.pair ti .unit) vk)))],[],[.obj 0 false (.pr (.cP (.new 113 0) 0 [] 0 0 vh) (.pr (.df) (.d (.pair ti .unit) re)))]]++cg 102 ([[.obj 0 false (.vec 52 gX vi)]]++cg 51 [])))⟩
abbrev al.L1.Y0:=(Int×Unit)
abbrev al.L1.X0:=(Int×Unit)
def al.L1.dE:al.L1.X0->Exit×AS:=λx=>(.ret,⟨(bj 8 ([.ptr (.new 8 0) 0 [] 0,.d ti (1:Int)]++bj 155 [])),[],(cg 8 ([[.obj 0 false (.pr (.df) (.pr (.df) (.d (.pair ti .unit) x)))]]++cg 156 []))⟩)
abbrev al.L1.Y1:=Unit
abbrev al.L1.X1:=(List eK)×Bs×Int×Lk×Int×Int×(Int×Unit)×Nat×(Int×Unit)×(List gz)
def al.L1.fQ:al.L1.X1->Exit×AS:=λx=>(.exit 2,⟨([.d (.slice ei) x.1,.d tU x.2.1,.undef,.d ti x.2.2.1,.undef,.undef,.ed mK x.2.2.2.1,.undef,.ptr (.new 8 0) 0 [] 0,.undef,.ptr (.new 10 0) 0 [] 0,.d ti x.2.2.2.2.1,.d ti x.2.2.2.2.2.1]++bj 152 []),[],(cg 8 ([[.obj 0 false (.pr (.df) (.pr (.df) (.d (.pair ti .unit) x.2.2.2.2.2.2.1)))],[],[.obj 0 false (.pr (.cP (.new 113 0) 0 [] 0 0 x.2.2.2.2.2.2.2.1) (.pr (.df) (.d (.pair ti .unit) x.2.2.2.2.2.2.2.2.1)))]]++cg 102 ([[.obj 0 false (.vec 52 gX x.2.2.2.2.2.2.2.2.2)]]++cg 51 [])))⟩)
abbrev al.L1.X:=(al.L1.X0)⊕(al.L1.X1)
abbrev al.L1.Y:=(al.L1.Y0)⊕(al.L1.Y1)
def al.L1.out:al.L1.X->Out (Exit×AS):=λx=> .br x.isLeft (.get x.getLeft? λa=> .ok (al.L1.dE a)) (.get x.getRight? λb=> .ok (al.L1.fQ b))
def al.L1.add:al.L1.D->al.L1.Y->al.L1.X:=λ(DB,u9,zM,Hc,Ak,fY,kv,vk,vh,re,vi) y=>match y with | .inl y=> .inl y | .inr z=> .inr ((DB,u9,zM,Hc,Ak,fY,vk,vh,re,vi))
abbrev al.L2.D:=(List eK)×Bs×Int×(Int×Unit)×gT
def al.L2.st:al.L2.D->AS:=λ(M6,w9,ph,Gz,BL)=>⟨([.d (.slice ei) M6,.d tU w9]++bj 6 ([.ptr (.new 8 0) 0 [] 0,.undef,.ptr (.new 10 0) 0 [] 0]++bj 4 ([.d ti ph]++bj 149 []))),[],(cg 8 ([[.obj 0 false (.pr (.df) (.pr (.df) (.d (.pair ti .unit) Gz)))],[],[.obj 0 false (.d iL BL)]]++cg 154 []))⟩
abbrev al.L2.Y0:=(Int×Unit)
abbrev al.L2.X0:=(Int×Unit)
def al.L2.dE:al.L2.X0->Exit×AS:=λx=>(.ret,⟨(bj 8 ([.ptr (.new 8 0) 0 [] 0,.d ti (1:Int)]++bj 155 [])),[],(cg 8 ([[.obj 0 false (.pr (.df) (.pr (.df) (.d (.pair ti .unit) x)))]]++cg 156 []))⟩)
abbrev al.L2.Y1:=gT
abbrev al.L2.X1:=((Int×Unit))×(gT)
def al.L2.fQ:al.L2.X1->Exit×AS:=λx=>(.exit 4,⟨(bj 8 ([.ptr (.new 8 0) 0 [] 0,.undef,.ptr (.new 10 0) 0 [] 0]++bj 154 [])),[],(cg 8 ([[.obj 0 false (.pr (.df) (.pr (.df) (.d (.pair ti .unit) x.1)))],[],[.obj 0 false (.d iL x.2)]]++cg 154 []))⟩)
abbrev al.L2.X:=(al.L2.X0)⊕(al.L2.X1)
abbrev al.L2.Y:=(al.L2.Y0)⊕(al.L2.Y1)
def al.L2.out:al.L2.X->Out (Exit×AS):=λx=> .br x.isLeft (.get x.getLeft? λa=> .ok (al.L2.dE a)) (.get x.getRight? λb=> .ok (al.L2.fQ b))
def al.L2.add:al.L2.D->al.L2.Y->al.L2.X:=λ(M6,w9,ph,Gz,BL) y=>match y with | .inl y=> .inl y | .inr z=> .inr ((Gz,z))
abbrev al.D:=(List eK)×Bs×Lk×Int
abbrev al.Y:=gT×Int
def K8(l:List eK):Prop:=∀x∈l,0<=x.2.1.1/\x.2.1.1<=1099511627776
theorem Rm{k:Int}:(decide (k≠0/\k < 2305843009213688669))= !lI k:=by
 unfold lI
 by_cases h:k < 2305843009213688669/\k≠0
 ·rw[decide_eq_true (⟨h.2,h.1⟩:k≠0/\k < 2305843009213688669),decide_eq_false (λe=>e h)];rfl
 ·rw[decide_eq_false (λe=>h ⟨e.2,e.1⟩),decide_eq_true h];rfl
theorem I1:∀(l:List eK) (ks:List Int) (s:Int) (ins:List gz),l.length=ks.length->0<=s->s+uE l<=1125899906842624->K8 l->(ins.map (·.1)++l.map (·.1)).Nodup->qY s ins l ks=if ks.any lI=true then none else some (s+uE l,ins++l.map xN)
 |[],[],s,ins,_,_,_,_,_=>by
  rw[qY]
  show some (s,ins)=some (s+0,ins++ [])
  rw[kb,cH]
  all_goals (intros;simp at*)
 |[],_::_,_,_,h,_,_,_,_=>by cases h
 |_::_,[],_,_,h,_,_,_,_=>by cases h
 |x::l,k::ks,s,ins,hl,h0,h1,ha,hn=>by
  have hx:=ha x aN
  have hp:=A8 (l:=l) λy hy=>ha y (aL _ hy)
  rw[rJ]at h1
  have hf:ins.any (oU x)=false:=by
   rw[jl]
   intro i hi e
   rw[mh]at hn
   exact hn.2.2 i.1 (gB hi) x.1 (by rw[bR];exact aN) ((HS x i).1 e)
  have PF:qh s x.2.1.1=true:=by
   unfold qh jr
   rw[decide_eq_true ⟨h0,by omega⟩,decide_eq_true ⟨hx.1,by omega⟩,decide_eq_true (by omega)]
   rfl
  have RU:Gs s ins x k= !lI k:=by
   unfold Gs
   rw[PF,hf,Rm]
   rfl
  rw[qY,RU,l7]
  cases hb:lI k with
  |true=>rfl
  |false=>
   have hn':((ins++ [xN x]).map (·.1)++l.map (·.1)).Nodup:=by
    rw[iD,bk]
    exact hn
   rw[dX,if_pos rfl,I1 l ks (s+x.2.1.1) (ins++ [xN x]) (Nat.succ.inj hl) (by omega) (by omega) (λy hy=>ha y (aL _ hy)) hn',pQ,rJ,bR,bk,dy,Int.add_assoc]
theorem Jt:∀(l:List eK) (ks:List Int) (t:gT) (i:Nat) {e:Int},mJ t i l ks= .inr e->e=1
 |[],_,t,i,e,h=>by rw[mJ]at h;cases h;all_goals (intros;simp at*)
 |x::l,[],t,i,e,h=>by rw[mJ]at h;cases h;all_goals (intros;simp at*)
 |x::l,k::ks,t,i,e,h=>by
  rw[mJ]at h
  split at h
  ·exact Jt l ks _ _ h
  ·rename_i h2
   cases h
   rw[vy]at h2 ⊢
   split at h2
   ·exact absurd rfl h2
   ·rename_i h3
    rw[if_neg h3]
theorem GS:∀(l:List eK) (ks:List Int) (t t':gT) (i:Nat),l.length=ks.length->yL t->(∀x∈l,je x.2.2.2.1)->(lf t=true\/l≠ [])->mJ t i l ks= .inl t'->lf t'=true
 |[],_,t,t',i,_,_,_,h0,h=>by
  rcases h0 with h0 | h0
  ·rw[mJ]at h
   ·cases h;exact h0
   all_goals (intros;simp at*)
  ·exact absurd rfl h0
 |_::_,[],_,_,_,h,_,_,_,_=>by cases h
 |x::l,k::ks,t,t',i,hl,hv,hs,_,h=>by
  rw[mJ]at h
  split at h
  ·rename_i h2
   obtain⟨v1,v2⟩:=ET hv (hs x aN) h2
   refine GS l ks _ t' (i+1) (Nat.succ.inj hl) v1 (λy hy=>hs y (aL _ hy)) (.inl ?_) h
   rw[vy,if_pos v2]
   exact(GV hv v2 (hs x aN)).1
  ·cases h
def al.L1.aU:al.L1.D->Prop:=λ(l,_,_,_,_,i,kv,_,_,_,_)=>l.length<=64/\(l.map (·.1)).Nodup/\∃j k:Nat,j < l.length/\k<=j/\i=j/\kv=k
def al.L1.F:al.L1.D->al.L1.Y:=λ_=> .inr ()
def al.L0.aU:al.L0.D->Prop:=λ(l,ks,_,_,s,i,_,m,_,ins)=>l.length<=64/\l.length=ks.length/\(l.map (·.1)).Nodup/\K8 l/\∃k:Nat,k<=l.length/\i=k/\m=ins.length/\ins.length<=k/\0<=s/\s<=1099511627776*(k:Int)
def al.L0.F:al.L0.D->al.L0.Y:=λ(l,ks,iE,to,s,i,z,m,n,ins)=>if(ks.drop i.toNat).any lI=true then .inl ((0:Int),()) else .inr (l,ks,iE,to,s+uE (l.drop i.toNat),z,m+(l.drop i.toNat).length,n,ins++(l.drop i.toNat).map xN)
def al.L2.aU:al.L2.D->Prop:=λ(l,ks,i,_,t)=>yL t/\(∀x∈l,je x.2.2.2.1)/\(∀k∈ks,je k)/\l.length<=64/\l.length=ks.length/\∃k:Nat,k<=l.length/\i=k
def al.L2.F:al.L2.D->al.L2.Y:=λ(l,ks,i,_,t)=>match mJ t i.toNat (l.drop i.toNat) (ks.drop i.toNat) with
 | .inl t=> .inr t
 | .inr _=> .inl ((0:Int),())
def al.aU:al.D->Prop:=λ(l,ks,to,_)=>(∀x∈l,KW x)/\(∀k∈ks,je k)/\Fh to/\l.length<=1000000000/\ks.length<=1000000000/\(l.map (·.1)).Nodup/\K8 l
def al.F:al.D->al.Y:=λ(l,ks,to,iE)=>tj l ks to iE
def al.L0.E:=eO.hZ al.L0.st al.L0.aU al.L0.add al.L0.F al.L0.out
def al.L0.call:al.L0.D->Option al.L0.X:=jH al.L0.E al.L0.st
def al.L1.E:=eO.hZ al.L1.st al.L1.aU al.L1.add al.L1.F al.L1.out
def al.L1.call:al.L1.D->Option al.L1.X:=jH al.L1.E al.L1.st
def al.L2.E:=eO.hZ al.L2.st al.L2.aU al.L2.add al.L2.F al.L2.out
def al.L2.call:al.L2.D->Option al.L2.X:=jH al.L2.E al.L2.st
def al:Fs Tryz.prog al.aU bE al.F:=fK 115 Tryz.f115 (λ(l,keys,to,iE)=>([.d (.slice ei) l,.d tU keys,.d mK to,.d ti iE],[])) (λx=>⟨.cons (.d iL x.1) (.cons (.d ti x.2) (.nil)),[],[]⟩) [some (.slice ei),some tU,some mK,some ti] [aM.sg,fX.sg,ba.sg] {loops:=oM [(6,{bm:=[0,1,3,6,8,10,11,12],sites:=[8,10,113],owns:=[⟨10,[.fst],113,38⟩]}),(12,{bm:=[0,1,3,6,8,10,11,12,14],sites:=[8,10,113]}),(24,{bm:=[0,1,8,10,15],sites:=[8,10],Ek:=[⟨10,[.arr],iL⟩]})],outs:=oL [(6,{bm:=[0,1,3,6,8,10,11],sites:=[8,10,113]},{bm:=[8,9],sites:=[8]}),(12,{bm:=[0,1,3,6,8,10,11,12],sites:=[8,10,113]},{bm:=[8,9],sites:=[8]}),(24,{bm:=[8,10],sites:=[8,10]},{bm:=[8,9],sites:=[8]})],iA:=pq [(6,al.L0.E),(12,al.L1.E),(24,al.L2.E)],res:=[some iL,none]}
def al.L0.R:= @gL Tryz.prog (lN al.G) al.an 0 Tryz.f115 0 _ al.L0.st
abbrev al.L0.Ok:=nh Tryz.prog (lN al.G) al.an 0 Tryz.f115 0 al.L0.st al.L0.aU al.L0.add al.L0.F al.L0.out
def al.L1.R:= @gL Tryz.prog (lN al.G) al.an 0 Tryz.f115 1 _ al.L1.st
abbrev al.L1.Ok:=nh Tryz.prog (lN al.G) al.an 0 Tryz.f115 1 al.L1.st al.L1.aU al.L1.add al.L1.F al.L1.out
def al.L2.R:= @gL Tryz.prog (lN al.G) al.an 0 Tryz.f115 2 _ al.L2.st
abbrev al.L2.Ok:=nh Tryz.prog (lN al.G) al.an 0 Tryz.f115 2 al.L2.st al.L2.aU al.L2.add al.L2.F al.L2.out
theorem al.L0.run:mq al.L0.call al.L0.aU al.L0.add al.L0.F:=oo (oa [.d (.slice ei),.d tU,.d ti,.d mK,.d ti,.d ti,.d (.pair ti .unit),.n,.d (.pair ti .unit),.d (.slice gX)] λ_=>by kernel_rfl)
theorem al.L0.cM:nM @al.L0.R al.L0.st al.L0.aU al.L0.add al.L0.F al.L0.out al.L0.Ok:=oF
theorem al.L0.step{R:Type}(mw:(List eK))(gO:Bs)(qX:Int)(rI:Lk)(sum:Int)(i:Int)(n8:(Int×Unit))(ue:Nat)(n10:(Int×Unit))(n113:(List gz))(kn:AS->Option R)(kx:Exit->AS->Option R):al.L0.R (mw,gO,qX,rI,sum,i,n8,ue,n10,n113) kn kx=
  aJ ((ik i (((List.length mw):Nat):Int))) (
   aJ (eY i (((List.length gO):Nat):Int)) (
   av (fX.call (nth tu gO (Int.toNat i))) λx1=>
   aJ ((!x1)) (
    kx (al.L0.dE ((0:Int),())).1 (al.L0.dE ((0:Int),())).2) (
    aJ (eY i (((List.length gO):Nat):Int)) (
    aJ ((wy (nth tu gO (Int.toNat i)) (0:Int))) (
     kx (al.L0.dE ((0:Int),())).1 (al.L0.dE ((0:Int),())).2) (
     aJ (eY i (((List.length mw):Nat):Int)) (
     aJ ((ik (nth ei mw (Int.toNat i)).2.1.1 (0:Int))) (
      kx (al.L0.dE ((0:Int),())).1 (al.L0.dE ((0:Int),())).2) (
      aJ (eY i (((List.length mw):Nat):Int)) (
      aJ ((nc (nth ei mw (Int.toNat i)).2.1.1 (1125899906842624:Int))) (
       kx (al.L0.dE ((0:Int),())).1 (al.L0.dE ((0:Int),())).2) (
       av (al.L1.call (mw,gO,qX,rI,sum,i,(0:Int),n8,ue,n10,n113)) λx2=>
       aJ (x2.isLeft) (
        av (x2.getLeft?) λa3=>
        kx (al.L0.dE a3).1 (al.L0.dE a3).2) (
        av (x2.getRight?) λb4=>
        aJ (eY b4.2.2.2.2.2.1 (((List.length b4.1):Nat):Int)) (
        aJ (eY b4.2.2.2.2.2.1 (((List.length b4.1):Nat):Int)) (
        aJ (decide (b4.2.2.2.2.2.2.2.1<=(List.length b4.2.2.2.2.2.2.2.2.2))) (
        aJ (dG (b4.2.2.2.2.2.2.2.1+1) 80) (
        kn (al.L0.st (b4.1,b4.2.1,b4.2.2.1,b4.2.2.2.1,(bt .i64 b4.2.2.2.2.1 (nth ei b4.1 (Int.toNat b4.2.2.2.2.2.1)).2.1.1),(bt .i64 b4.2.2.2.2.2.1 (1:Int)),b4.2.2.2.2.2.2.1,(b4.2.2.2.2.2.2.2.1+1),b4.2.2.2.2.2.2.2.2.1,((List.take b4.2.2.2.2.2.2.2.1 b4.2.2.2.2.2.2.2.2.2)++ [((nth ei b4.1 (Int.toNat b4.2.2.2.2.2.1)).1,(((0:Int),(([]:List Sg),((0:Int),()))),()))])))) none) none) none) none))) none)) none)) none)) none) (
   kx (al.L0.fQ (mw,gO,qX,rI,sum,n8,ue,n10,n113)).1 (al.L0.fQ (mw,gO,qX,rI,sum,n8,ue,n10,n113)).2):=by kernel_rfl
theorem al.L1.run:mq al.L1.call al.L1.aU al.L1.add al.L1.F:=oo (oa [.d (.slice ei),.d tU,.d ti,.d mK,.d ti,.d ti,.d ti,.d (.pair ti .unit),.n,.d (.pair ti .unit),.d (.slice gX)] λ_=>by kernel_rfl)
theorem al.L1.cM:nM @al.L1.R al.L1.st al.L1.aU al.L1.add al.L1.F al.L1.out al.L1.Ok:=oF
theorem al.L1.step{R:Type}(DB:(List eK))(u9:Bs)(zM:Int)(Hc:Lk)(Ak:Int)(fY:Int)(kv:Int)(vk:(Int×Unit))(vh:Nat)(re:(Int×Unit))(vi:(List gz))(kn:AS->Option R)(kx:Exit->AS->Option R):al.L1.R (DB,u9,zM,Hc,Ak,fY,kv,vk,vh,re,vi) kn kx=
  aJ ((ik kv fY)) (
   aJ (eY kv (((List.length DB):Nat):Int)) (
   aJ (eY fY (((List.length DB):Nat):Int)) (
   aJ ((Ty.beq jk (nth ei DB (Int.toNat kv)).1 (nth ei DB (Int.toNat fY)).1)) (
    kx (al.L1.dE ((0:Int),())).1 (al.L1.dE ((0:Int),())).2) (
    kn (al.L1.st (DB,u9,zM,Hc,Ak,fY,(bt .i64 kv (1:Int)),vk,vh,re,vi)))) none) none) (
   kx (al.L1.fQ (DB,u9,zM,Hc,Ak,fY,vk,vh,re,vi)).1 (al.L1.fQ (DB,u9,zM,Hc,Ak,fY,vk,vh,re,vi)).2):=by kernel_rfl
theorem al.L2.run:mq al.L2.call al.L2.aU al.L2.add al.L2.F:=oo (oa [.d (.slice ei),.d tU,.d ti,.d (.pair ti .unit),.d iL] λ_=>by kernel_rfl)
theorem al.L2.cM:nM @al.L2.R al.L2.st al.L2.aU al.L2.add al.L2.F al.L2.out al.L2.Ok:=oF
theorem al.L2.step{R:Type}(M6:(List eK))(w9:Bs)(ph:Int)(Gz:(Int×Unit))(BL:gT)(kn:AS->Option R)(kx:Exit->AS->Option R):al.L2.R (M6,w9,ph,Gz,BL) kn kx=
  aJ ((ik ph (((List.length M6):Nat):Int))) (
   aJ (eY ph (((List.length M6):Nat):Int)) (
   aJ (eY ph (((List.length w9):Nat):Int)) (
   aJ (eY ph (((List.length M6):Nat):Int)) (
   av (ba.call (BL,ph,(nth ei M6 (Int.toNat ph)).2.2.1,[(nth tu w9 (Int.toNat ph))],(nth ei M6 (Int.toNat ph)).2.2.2.1)) λx1=>
   aJ ((sR x1.2 (0:Int))) (
    kx (al.L2.dE ((0:Int),())).1 (al.L2.dE ((0:Int),())).2) (
    kn (al.L2.st (M6,w9,(bt .i64 ph (1:Int)),Gz,x1.1)))) none) none) none) (
   kx (al.L2.fQ (Gz,BL)).1 (al.L2.fQ (Gz,BL)).2):=by kernel_rfl
theorem al.eq{R:Type}(l keys to iE)(k:K1 R):al.A (l,keys,to,iE) k=
  aJ ((ik (l.length:Int) 1)) (
   k (al.out ((([]:List gz),(([]:List j7),(0,()))),1))) (
   aJ ((nc (l.length:Int) 64)) (
    k (al.out ((([]:List gz),(([]:List j7),(0,()))),1))) (
    aJ ((sR (l.length:Int) (keys.length:Int))) (
     k (al.out ((([]:List gz),(([]:List j7),(0,()))),1))) (
     av (aM.call to) λx1=>
     aJ ((!x1)) (
      k (al.out ((([]:List gz),(([]:List j7),(0,()))),1))) (
      av (al.L0.call (l,keys,iE,to,0,0,(0,()),0,(0,()),([]:List gz))) λC8=>
      aJ (C8.isLeft) (
       av (C8.getLeft?) λa11=>
       k (al.out ((([]:List gz),(([]:List j7),a11)),1))) (
       av (C8.getRight?) λb12=>
       aJ ((nc b12.2.2.2.2.1 1125899906842624)) (
        k (al.out ((([]:List gz),(([]:List j7),(0,()))),1))) (
        aJ ((ik b12.2.2.1 0)) (
         k (al.out ((([]:List gz),(([]:List j7),(0,()))),8))) (
         aJ ((nc b12.2.2.1 b12.2.2.2.2.1)) (
          k (al.out ((([]:List gz),(([]:List j7),(0,()))),8))) (
          aJ (decide (0=0/\(0+b12.2.2.2.2.2.2.1)<=(List.length b12.2.2.2.2.2.2.2.2))) (
          av (al.L2.call (b12.1,b12.2.1,0,b12.2.2.2.2.2.1,((cut b12.2.2.2.2.2.2.2.2 0 b12.2.2.2.2.2.2.1),([((dp .i64 b12.2.2.2.2.1 b12.2.2.1),(b12.2.2.2.1,()))],b12.2.2.2.2.2.2.2.1)))) λQy=>
          aJ (Qy.isLeft) (
           av (Qy.getLeft?) λa16=>
           k (al.out ((([]:List gz),(([]:List j7),a16)),1))) (
           av (Qy.getRight?) λb17=>
           k (al.out (b17.2,0)))) none)))))))):=by kernel_rfl
theorem al.L1.ok:al.L1.Ok:=by
 refine al.L1.cM (λ(_,_,_,_,_,i,kv,_,_,_,_)=>i.toNat - kv.toNat) ?_
 rintro⟨l,ks,iE,to,s,i,kv,z,m,n,ins⟩ ⟨hl,hn,j,k,hj,hk,rfl,rfl⟩
 have hl:l.length<=64:=hl
 have hj:j < l.length:=hj
 by_cases h:k < j
 ·left
  have SO:k < l.length:=by omega
  have n1:nth ei l k=l[k]:=dg (t:=ei) SO
  have n2:nth ei l j=l[j]:=dg (t:=ei) hj
  have jb:Ty.beq jk l[k].1 l[j].1=false:=by
   cases e:Ty.beq jk l[k].1 l[j].1 with
   |false=>rfl
   |true=>
    have e:=(Rc _ _).1 e
    have:=List.pairwise_iff_getElem.1 hn k j (by rw[cR];exact SO) (by rw[cR];exact hj) h
    exact absurd (by rw[List.getElem_map,List.getElem_map];exact e) this
  refine⟨(l,ks,iE,to,s,(j:Int),((k+1:Nat):Int),z,m,n,ins),⟨hl,hn,j,k+1,hj,h,rfl,rfl⟩,by simp only[aa];omega,rfl,λkn kx=> ?_⟩
  rw[al.L1.step,bh (by omega),ae,bp (by omega) (by omega),ae,bp (by omega) (by omega),ae,aa,aa,n1,n2,jb,ah,N.pk (by omega)]
 ·right
  obtain rfl:k=j:=by omega
  refine⟨al.L1.fQ (l,ks,iE,to,s,(k:Int),z,m,n,ins),rfl,λkn kx=> ?_⟩
  rw[al.L1.step,aR (by omega),ah]
theorem al.L0.ok:al.L0.Ok:=by
 refine al.L0.cM (λ(l,_,_,_,_,i,_,_,_,_)=>l.length - i.toNat) ?_
 rintro⟨l,ks,iE,to,s,i,z,m,n,ins⟩ ⟨hl,xv,hn,ha,k,hk,rfl,rfl,hi,s0,s1⟩
 have hl:l.length<=64:=hl
 have hk:k<=l.length:=hk
 have xv:l.length=ks.length:=xv
 have hi:ins.length<=k:=hi
 have s0:0<=s:=s0
 have s1:s<=1099511627776*(k:Int):=s1
 by_cases h:k < l.length
 ·have hq:k < ks.length:=by omega
  have n1:nth ei l k=l[k]:=dg (t:=ei) h
  have n2:nth tu ks k=ks[k]:=dg (t:=tu) hq
  have hd:l.drop k=l[k]::l.drop (k+1):=aq h
  have M1:ks.drop k=ks[k]::ks.drop (k+1):=aq hq
  have hx:=ha _ (bw h)
  have c1:=al.L1.run (d:=(l,ks,iE,to,s,(k:Int),0,z,ins.length,n,ins)) ⟨hl,hn,k,0,h,aV _,rfl,rfl⟩
  generalize l[k]=x at n1 hd hx
  generalize (ks[k]:Int)=q at n2 M1
  have hx:0<=x.2.1.1/\x.2.1.1<=1099511627776:=hx
  have step:∀ {R:Type} (kn:AS->Option R) (kx:Exit->AS->Option R),al.L0.R (l,ks,iE,to,s,(k:Int),z,ins.length,n,ins) kn kx=aJ (lI q) (kx (al.L0.dE ((0:Int),())).1 (al.L0.dE ((0:Int),())).2) (kn (al.L0.st (l,ks,iE,to,s+x.2.1.1,((k+1:Nat):Int),z,ins.length+1,n,ins++ [xN x]))):=by
   intro R kn kx
   rw[al.L0.step,bh (by omega),ae]
   simp only[bp (show(0:Int)<=(k:Int) by omega) (show(k:Int) < (ks.length:Int) by omega),bp (show(0:Int)<=(k:Int) by omega) (show(k:Int) < (l.length:Int) by omega),ae,aa,n1,n2]
   rw[fX.run (d:=q) trivial]
   simp only[ab,bE,fX.F]
   by_cases h1:q < 2305843009213688669
   ·rw[bh h1,cq,ah]
    by_cases h0:q=0
    ·have eb:lI q=true:=by unfold lI;exact decide_eq_true (λe=>e.2 h0)
     rw[iw h0,ae,eb,ae]
    ·have eb:lI q=false:=by unfold lI;exact decide_eq_false (λe=>e ⟨h1,h0⟩)
     rw[gl h0,ah,eb,ah,aR (by omega),ah,cj (by omega),ah,c1]
     simp only[ab,al.L1.add,al.L1.F,gg,fe,ah,aa,n1,bp (show(0:Int)<=(k:Int) by omega) (show(k:Int) < (l.length:Int) by omega),ae]
     rw[aP (ay _),ae,dU (by omega) (by omega),ae,eC (x:=s) (by omega) (by omega),N.pk (by omega),bY]
     rfl
   ·have eb:lI q=true:=by unfold lI;exact decide_eq_true (λe=>h1 e.1)
    rw[aR h1,dX,ae,eb,ae]
  cases hb:lI q with
  |true=>
   right
   refine⟨al.L0.dE ((0:Int),()),?_,λkn kx=>by rw[step,hb,ae]⟩
   simp only[al.L0.add,al.L0.F,aa,M1,l7,hb,Bool.true_or,if_true]
   rfl
  |false=>
   left
   refine⟨(l,ks,iE,to,s+x.2.1.1,((k+1:Nat):Int),z,ins.length+1,n,ins++ [xN x]),⟨hl,xv,hn,ha,k+1,h,rfl,by rw[aj];rfl,by rw[aj];show ins.length+1<=_;omega,by show 0<=s+x.2.1.1;omega,by show s+x.2.1.1<=_;omega⟩,by simp only[aa];omega,?_,λkn kx=>by rw[step,hb,ah]⟩
   simp only[al.L0.add,al.L0.F,aa,hd,M1,l7,hb,pQ,rJ,aD,bR,bk,dy,Int.add_assoc]
   rw[show ins.length+1+(l.drop (k+1)).length=ins.length+((l.drop (k+1)).length+1) by omega]
 ·right
  obtain rfl:k=l.length:=by omega
  have hz:ks.drop l.length=[]:=List.drop_eq_nil_of_le (by omega)
  refine⟨al.L0.fQ (l,ks,iE,to,s,z,ins.length,n,ins),?_,λkn kx=> ?_⟩
  ·simp only[al.L0.add,al.L0.F,aa,aQ,hz,List.any_nil,bJ,if_false,aZ,cK,fT,cH]
   rw[show s+uE []=s from kb _]
   rfl
  ·rw[al.L0.step,aR (by omega),ah]
theorem al.L2.ok:al.L2.Ok:=by
 refine al.L2.cM (λ(l,_,i,_,_)=>l.length - i.toNat) ?_
 rintro⟨l,ks,i,z,t⟩ ⟨hv,hx,hu,hl,xv,k,hk,rfl⟩
 have hl:l.length<=64:=hl
 have hk:k<=l.length:=hk
 have xv:l.length=ks.length:=xv
 by_cases h:k < l.length
 ·have hq:k < ks.length:=by omega
  have n1:nth ei l k=l[k]:=dg (t:=ei) h
  have n2:nth tu ks k=ks[k]:=dg (t:=tu) hq
  have hd:l.drop k=l[k]::l.drop (k+1):=aq h
  have M1:ks.drop k=ks[k]::ks.drop (k+1):=aq hq
  have hs:=hx _ (bw h)
  have c1:ba.call (t,(k:Int),l[k].2.2.1,[ks[k]],l[k].2.2.2.1)=some (mn t k l[k].2.2.1 [ks[k]] l[k].2.2.2.1):=ba.run (d:=(t,(k:Int),l[k].2.2.1,[ks[k]],l[k].2.2.2.1)) ⟨hv,λx hx=>by rw[ck.1 hx];exact hu _ (bw hq),by show 1<=1000000000;decide⟩
  have wx:(mn t k l[k].2.2.1 [ks[k]] l[k].2.2.2.1).2=0->yL (mn t k l[k].2.2.1 [ks[k]] l[k].2.2.2.1).1:=λhz=>(ET hv hs hz).1
  have e:mJ t k (l.drop k) (ks.drop k)=if(mn t k l[k].2.2.1 [ks[k]] l[k].2.2.2.1).2=0 then mJ (mn t k l[k].2.2.1 [ks[k]] l[k].2.2.2.1).1 (k+1) (l.drop (k+1)) (ks.drop (k+1)) else .inr (mn t k l[k].2.2.1 [ks[k]] l[k].2.2.2.1).2:=by rw[hd,M1,mJ]
  generalize mn t k l[k].2.2.1 [ks[k]] l[k].2.2.2.1=r at c1 wx e
  have step:∀ {R:Type} (kn:AS->Option R) (kx:Exit->AS->Option R),al.L2.R (l,ks,(k:Int),z,t) kn kx=aJ (sR r.2 0) (kx (al.L2.dE ((0:Int),())).1 (al.L2.dE ((0:Int),())).2) (kn (al.L2.st (l,ks,((k+1:Nat):Int),z,r.1))):=by
   intro R kn kx
   rw[al.L2.step,bh (by omega),ae]
   simp only[bp (show(0:Int)<=(k:Int) by omega) (show(k:Int) < (ks.length:Int) by omega),bp (show(0:Int)<=(k:Int) by omega) (show(k:Int) < (l.length:Int) by omega),ae,aa,n1,n2]
   rw[c1,ab,N.pk (by omega)]
  by_cases hz:r.2=0
  ·left
   refine⟨(l,ks,((k+1:Nat):Int),z,r.1),⟨wx hz,hx,hu,hl,xv,k+1,by omega,rfl⟩,by simp only[aa];omega,?_,λkn kx=> ?_⟩
   ·simp only[al.L2.add,al.L2.F,aa,e,if_pos hz]
   ·rw[step,cS hz,ah]
  ·right
   refine⟨al.L2.dE ((0:Int),()),?_,λkn kx=> ?_⟩
   ·simp only[al.L2.add,al.L2.F,aa,e,if_neg hz]
    rfl
   ·rw[step,eI hz,ae]
 ·right
  obtain rfl:k=l.length:=by omega
  refine⟨al.L2.fQ (z,t),?_,λkn kx=> ?_⟩
  ·simp only[al.L2.add,al.L2.F,aa,aQ]
   rfl
  ·rw[al.L2.step,aR (by omega),ah]
theorem al.ok:al.Ok:=by
 rintro⟨l,ks,to,iE⟩ ⟨hx,hu,uF,hl,hk,hn,ha⟩
 have hl:l.length<=1000000000:=hl
 have hk:ks.length<=1000000000:=hk
 rw[al.eq]
 simp only[bE,al.F,tj]
 by_cases a1:1<=l.length
 rotate_left
 ·rw[bh (by omega),ae,if_neg (λe=>a1 e.1)]
  rfl
 rw[aR (by omega),ah]
 by_cases a2:l.length<=64
 rotate_left
 ·rw[cX (by omega),ae,if_neg (λe=>a2 e.2.1)]
  rfl
 rw[cj (by omega),ah]
 by_cases a3:l.length=ks.length
 rotate_left
 ·rw[eI (by omega),ae,if_neg (λe=>a3 e.2.2.1)]
  rfl
 rw[cS (by omega),ah,aM.run (d:=to) uF.1]
 simp only[ab,bE,aM.F]
 cases a4:nC to with
 |false=>
  rw[if_neg (λe=>by cases e.2.2.2)]
  rfl
 |true=>
  have hc:=A8 ha
  have hg:=I1 l ks 0 [] a3 (dT 0) (by omega) ha hn
  rw[if_pos ⟨a1,a2,a3,rfl⟩,cq,ah,al.L0.run (d:=(l,ks,iE,to,0,0,((0:Int),()),0,((0:Int),()),[])) ⟨a2,a3,hn,ha,0,aV _,rfl,rfl,aV _,dT 0,dT 0⟩]
  simp only[ab,al.L0.add,al.L0.F,bH,aI,lD,aO,aS]
  rw[hg]
  cases hb:ks.any lI with
  |true=>rfl
  |false=>
   simp only[bJ,if_false,gg,fe,ah,ab,lD,aS]
   rw[cj (by omega),ah]
   by_cases b1:iE < 0
   ·rw[bh b1,ae,if_pos (.inl b1)]
    rfl
   rw[aR b1,ah]
   by_cases b2:iE > uE l
   ·rw[cX b2,ae,if_pos (.inr b2)]
    rfl
   rw[cj b2,ah,if_neg (λe=>e.elim b1 b2),aP ⟨trivial,by rw[cR];exact ay _⟩,ae,fi (cR _),eE (by omega) (by omega)]
   have hv:=LU (n:=uE l - iE) a2 hx uF
   rw[al.L2.run (d:=(l,ks,0,((0:Int),()),(l.map xN,([(uE l - iE,(to,()))],((0:Int),()))))) ⟨hv,λx hm=>(hx x hm).2,hu,a2,a3,0,aV _,rfl⟩]
   simp only[ab,al.L2.add,al.L2.F,bH,aI]
   cases hq:mJ (l.map xN,([(uE l - iE,(to,()))],((0:Int),()))) 0 l ks with
   |inl t=>rfl
   |inr e=>
    rw[Jt _ _ _ _ hq]
    rfl
theorem Ic{l:List eK}{ks:List Int}{to:Lk}{iE:Int}(hx:∀x∈l,KW x)(uF:Fh to):uK (tj l ks to iE).1:=by
 have z:uK Ff:=⟨⟨aV _,λx hx=>(by cases hx)⟩,aV _,λx hx=>(by cases hx)⟩
 unfold tj
 by_cases h:1<=l.length/\l.length<=64/\l.length=ks.length/\nC to=true
 ·rw[if_pos h]
  cases hg:qY 0 [] l ks with
  |none=>exact z
  |some r=>
   show uK (if iE < 0\/iE > r.1 then(Ff,(8:Int)) else _).1
   split
   ·exact z
   ·have hr:=(Ev l ks 0 [] h.2.2.1 (dT 0) (by decide) hg).2.2
    rw[aS]at hr
    cases hq:mJ (r.2,([(r.1 - iE,(to,()))],((0:Int),()))) 0 l ks with
    |inr e=>exact z
    |inl t=>
     refine ML (GS l ks _ t 0 h.2.2.1 (by rw[hr];exact LU h.2.1 hx uF) (λx hm=>(hx x hm).2) (.inr λe=> ?_) hq)
     rw[e]at h
     exact absurd h.1 (by decide)
 ·rw[if_neg h]
  exact z
theorem GB{g:jz}{ks:List Int}{to:Lk}{h:Int}{b:rj}{dB:Int}(hx:∀x∈g.1,KW x)(uF:Fh to):uK (rh g ks to h b dB).1:=by
 have z:uK Ff:=⟨⟨aV _,λx hx=>(by cases hx)⟩,aV _,λx hx=>(by cases hx)⟩
 unfold rh
 generalize (if dB > 0 then imax (qO g h b) (dB+sI g.1) else qO g h b)=q
 split
 ·exact z
 ·split
  ·exact z
  ·split
   ·exact z
   ·exact Ic hx uF
theorem al.run:al.RS:=rE [.d (.slice ei),.d tU,.d mK,.d ti] al
def al.sg:=al.fS al.ok 3 ⟨.hZ al.L0.ok,⟨.hZ al.L1.ok,⟨.hZ al.L2.ok,trivial⟩⟩⟩
abbrev eG.D:=jz×Bs×Lk×Int×rj×Int
abbrev eG.Y:=gT×Int×Int
def eG.aU:eG.D->Prop:=λ(g,ks,to,h,b,dB)=>(Nb g/\(0<=h/\h<=9223372036854775807)/\(∀x∈g.1,KW x)/\(∀k∈ks,je k)/\Fh to/\g.1.length<=1000000/\ks.length<=1000000000/\dB<=1125899906842624)/\(g.1.map (·.1)).Nodup/\K8 g.1
def eG.F:eG.D->eG.Y:=λ(g,ks,to,h,b,dB)=>rh g ks to h b dB
def eG:Fs Tryz.prog eG.aU bE eG.F:=fK 51 Tryz.f51 (λ(g,keys,to,atv,b,dB)=>([.d oq g,.d tU keys,.d mK to,.d ti atv,.d p9 b,.d ti dB],[])) (λx=>⟨.cons (.d iL x.1) (.cons (.d ti x.2.1) (.cons (.d ti x.2.2) (.nil))),[],[]⟩) [some oq,some tU,some mK,some ti,some p9,some ti] [gq.sg,eT.sg,al.sg] {res:=[some iL,none,none]}
theorem eG.eq{R:Type}(g keys to atv b dB)(k:K1 R):eG.A (g,keys,to,atv,b,dB) k=
  av (gq.call (g,atv,b)) λx1=>
  aJ ((nc dB 0)) (
   aJ ((zS x1 dB)) (
    k (eG.out ((([]:List gz),(([]:List j7),(0,()))),0,4))) (
    aJ ((nc dB 0)) (
     av (eT.call g.1) λx2=>
     aJ ((nc (imax x1 (bt .i64 dB x2)) g.2.2.1)) (
      k (eG.out ((([]:List gz),(([]:List j7),(0,()))),0,13))) (
      av (al.call (g.1,keys,to,(imax x1 (bt .i64 dB x2)))) λx3=>
      aJ ((sR x3.2 0)) (
       k (eG.out ((([]:List gz),(([]:List j7),(0,()))),0,x3.2))) (
       k (eG.out (x3.1,(imax x1 (bt .i64 dB x2)),0))))) (
     aJ ((nc x1 g.2.2.1)) (
      k (eG.out ((([]:List gz),(([]:List j7),(0,()))),0,13))) (
      av (al.call (g.1,keys,to,x1)) λx4=>
      aJ ((sR x4.2 0)) (
       k (eG.out ((([]:List gz),(([]:List j7),(0,()))),0,x4.2))) (
       k (eG.out (x4.1,x1,0))))))) (
   aJ ((nc dB 0)) (
    av (eT.call g.1) λx5=>
    aJ ((nc (imax x1 (bt .i64 dB x5)) g.2.2.1)) (
     k (eG.out ((([]:List gz),(([]:List j7),(0,()))),0,13))) (
     av (al.call (g.1,keys,to,(imax x1 (bt .i64 dB x5)))) λx6=>
     aJ ((sR x6.2 0)) (
      k (eG.out ((([]:List gz),(([]:List j7),(0,()))),0,x6.2))) (
      k (eG.out (x6.1,(imax x1 (bt .i64 dB x5)),0))))) (
    aJ ((nc x1 g.2.2.1)) (
     k (eG.out ((([]:List gz),(([]:List j7),(0,()))),0,13))) (
     av (al.call (g.1,keys,to,x1)) λx7=>
     aJ ((sR x7.2 0)) (
      k (eG.out ((([]:List gz),(([]:List j7),(0,()))),0,x7.2))) (
      k (eG.out (x7.1,x1,0)))))):=by kernel_rfl
theorem eG.ok:eG.Ok:=by
 rintro⟨g,ks,to,h,b,dB⟩ ⟨⟨hg,hh,hx,hu,uF,hl,hk,ho⟩,hn,ha⟩
 have hl:g.1.length<=1000000:=hl
 have ho:dB<=1125899906842624:=ho
 have hf:=HO (h:=h) (b:=b) hg
 have hw:=ot g.1
 obtain⟨⟨g1,g2,g3⟩,_⟩:=id hg
 have cm:∀iE:Int,al.call (g.1,ks,to,iE)=some (tj g.1 ks to iE):=λiE=>al.run (d:=(g.1,ks,to,iE)) ⟨hx,hu,uF,by show g.1.length<=_;omega,hk,hn,ha⟩
 rw[eG.eq,gq.run (d:=(g,h,b)) ⟨hg,hh.1,hh.2⟩]
 simp only[ab,bE,gq.F,bE,eG.F,rh]
 generalize qO g h b=f at hf
 by_cases a1:dB > 0
 ·simp only[cX a1,ae]
  by_cases a2:f<=dB
  ·rw[ix a2,ae,if_pos ⟨a1,a2⟩]
   rfl
  ·rw[ga a2,ah,if_neg (λe=>a2 e.2),eT.run (d:=g.1) (by show g.1.length<=_;omega)]
   simp only[ab,bE,eT.F,if_pos a1]
   rw[eC (x:=dB) (by omega) (by omega)]
   generalize imax f (dB+sI g.1)=q
   by_cases a3:q > g.2.2.1
   ·rw[cX a3,ae,if_pos a3]
    rfl
   ·rw[cj a3,ah,if_neg a3,cm q]
    simp only[ab]
    generalize tj g.1 ks to q=r
    by_cases a4:r.2=0
    ·rw[cS a4,ah,if_neg (λe=>e a4)]
    ·rw[eI a4,ae,if_pos a4]
     rfl
 ·simp only[cj a1,ah]
  rw[if_neg (λe=>a1 e.1),if_neg a1]
  by_cases a3:f > g.2.2.1
  ·rw[cX a3,ae,if_pos a3]
   rfl
  ·rw[cj a3,ah,if_neg a3,cm f]
   simp only[ab]
   generalize tj g.1 ks to f=r
   by_cases a4:r.2=0
   ·rw[cS a4,ah,if_neg (λe=>e a4)]
   ·rw[eI a4,ae,if_pos a4]
    rfl
theorem eG.run:eG.RS:=rE [.d oq,.d tU,.d mK,.d ti,.d p9,.d ti] eG
def eG.sg:=eG.fS eG.ok
abbrev bl.L0.D:=Int×Bs×Int×rj×Lk×Bool×(List jz)×Int
def bl.L0.st:bl.L0.D->AS:=λ(xA,gO,BZ,iI,rI,head,g,i)=>⟨(bj 4 ([.d ti xA,.d tU gO,.undef,.d ti BZ,.undef,.undef,.ed p9 iI,.undef,.undef,.undef,.ed mK rI,.undef,.undef,.d .bool head,.d (.slice oq) g,.undef,.d ti i]++bj 117 [])),[],(List.replicate 138 [])⟩
abbrev bl.L0.Y0:=Unit
abbrev bl.L0.X0:=Unit
def bl.L0.dE:bl.L0.X0->Exit×AS:=λx=>(.ret,⟨(bj 16 ([.d .bool false]++bj 121 [])),[],(List.replicate 138 [])⟩)
abbrev bl.L0.Y1:=Unit
abbrev bl.L0.X1:=Bool
def bl.L0.fQ:bl.L0.X1->Exit×AS:=λx=>(.exit 0,⟨(bj 17 ([.d .bool x]++bj 120 [])),[],(List.replicate 138 [])⟩)
abbrev bl.L0.X:=(bl.L0.X0)⊕(bl.L0.X1)
abbrev bl.L0.Y:=(bl.L0.Y0)⊕(bl.L0.Y1)
def bl.L0.out:bl.L0.X->Out (Exit×AS):=λx=> .br x.isLeft (.get x.getLeft? λa=> .ok (bl.L0.dE a)) (.get x.getRight? λb=> .ok (bl.L0.fQ b))
def bl.L0.add:bl.L0.D->bl.L0.Y->bl.L0.X:=λ(xA,gO,BZ,iI,rI,head,g,i) y=>match y with | .inl y=> .inl y | .inr z=> .inr (head)
abbrev bl.D:=(List eK)×Int×rj×Int×Int×Bs×Lk×Int
abbrev bl.Y:=Bool
def Oh(g:jz):Prop:=Nb g/\(∀x∈g.1,KW x)/\g.1.length<=8/\(g.1.map (·.1)).Nodup/\K8 g.1
def bl.L0.aU:bl.L0.D->Prop:=λ(at',ks,dB,b,to,_,G,i)=>(0<=at'/\at'<=1000000000)/\(∀k∈ks,je k)/\ks.length<=70/\dB<=1125899906842624/\Fh to/\(∀g∈G,Oh g)/\G.length<=1000/\∃k:Nat,k<=G.length/\i=k
def bl.L0.F:bl.L0.D->bl.L0.Y:=λ_=> .inr ()
def bl.aU:bl.D->Prop:=λ(l,_,_,_,_,ks,to,_)=>(∀x∈l,Sz x)/\(∀k∈ks,je k)/\Fh to
def bl.F:bl.D->bl.Y:=λ_=>true
def bl.L0.E:=eO.hZ bl.L0.st bl.L0.aU bl.L0.add bl.L0.F bl.L0.out
def bl.L0.call:bl.L0.D->Option bl.L0.X:=jH bl.L0.E bl.L0.st
def bl:Fs Tryz.prog bl.aU bE bl.F:=fK 10 Tryz.f10 (λ(l,budget,b,height,atv,keys,to,dB)=>([.d (.slice ei) l,.d ti budget,.d p9 b,.d ti height,.d ti atv,.d tU keys,.d mK to,.d ti dB],[])) (λx=>⟨.d .bool x,[],[]⟩) [some (.slice ei),some ti,some p9,some ti,some ti,some tU,some mK,some ti] [gu.sg,cC.sg,ai.sg,aH.sg,ez.sg,eG.sg,mQ.sg,gq.sg,aB.sg] {loops:=oM [(8,{bm:=[4,5,7,10,14,17,18,20]})],outs:=oL [(8,{bm:=[17]},{bm:=[16]})],iA:=pq [(8,bl.L0.E)]}
def bl.L0.R:= @gL Tryz.prog (lN bl.G) bl.an 0 Tryz.f10 0 _ bl.L0.st
abbrev bl.L0.Ok:=nh Tryz.prog (lN bl.G) bl.an 0 Tryz.f10 0 bl.L0.st bl.L0.aU bl.L0.add bl.L0.F bl.L0.out
theorem bl.L0.run:mq bl.L0.call bl.L0.aU bl.L0.add bl.L0.F:=oo (oa [.d ti,.d tU,.d ti,.d p9,.d mK,.d .bool,.d (.slice oq),.d ti] λ_=>by kernel_rfl)
theorem bl.L0.cM:nM @bl.L0.R bl.L0.st bl.L0.aU bl.L0.add bl.L0.F bl.L0.out bl.L0.Ok:=oF
theorem bl.L0.step{R:Type}(xA:Int)(gO:Bs)(BZ:Int)(iI:rj)(rI:Lk)(head:Bool)(g:(List jz))(i:Int)(kn:AS->Option R)(kx:Exit->AS->Option R):bl.L0.R (xA,gO,BZ,iI,rI,head,g,i) kn kx=
  aJ ((ik i (((List.length g):Nat):Int))) (
   aJ (eY i (((List.length g):Nat):Int)) (
   aJ (eY i (((List.length g):Nat):Int)) (
   av (ez.call ((nth oq g (Int.toNat i)),gO,rI,xA,iI,BZ)) λNa=>
   av (eG.call ((nth oq g (Int.toNat i)),gO,rI,xA,iI,BZ)) λUK=>
   aJ (eY i (((List.length g):Nat):Int)) (
   av (mQ.call ((nth oq g (Int.toNat i)),xA,iI)) λCI=>
   av (gq.call ((nth oq g (Int.toNat i)),xA,iI)) λQ1=>
   aJ ((sR CI Q1)) (
    kx (bl.L0.dE ()).1 (bl.L0.dE ()).2) (
    aJ ((sR Na.2.2 UK.2.2)) (
     kx (bl.L0.dE ()).1 (bl.L0.dE ()).2) (
     aJ ((sR Na.2.1 UK.2.1)) (
      kx (bl.L0.dE ()).1 (bl.L0.dE ()).2) (
      av (aB.call (Na.1,UK.1)) λVk=>
      aJ ((!Vk)) (
       kx (bl.L0.dE ()).1 (bl.L0.dE ()).2) (
       kn (bl.L0.st (xA,gO,BZ,iI,rI,head,g,(bt .i64 i (1:Int))))))))) none) none) none) (
   kx (bl.L0.fQ head).1 (bl.L0.fQ head).2):=by kernel_rfl
theorem bl.eq{R:Type}(l budget b height atv keys to dB)(k:K1 R):bl.A (l,budget,b,height,atv,keys,to,dB) k=
  av (gu.call ()) λx4=>
  av (cC.call l) λUJ=>
  aJ ((!UJ)) (
   k (bl.out x4)) (
   aJ ((nc (keys.length:Int) 70)) (
    k (bl.out x4)) (
    aJ ((ik atv 0)) (
     k (bl.out x4)) (
     aJ ((nc atv 1000000000)) (
      k (bl.out x4)) (
      aJ ((nc dB 1125899906842624)) (
       k (bl.out x4)) (
       av (ai.call (([]:List gz),([(0,(to,()))],(0,())))) λOd=>
       aJ ((!Od)) (
        k (bl.out x4)) (
        av (aH.call (l,budget,b,height)) λHn=>
        aJ ((sR Hn.2 0)) (
         aJ (x4) (
          k (bl.out (wy (Hn.1.length:Int) 0))) (
          k (bl.out false))) (
         av (bl.L0.call (atv,keys,dB,b,to,x4,Hn.1,0)) λUM=>
         aJ (UM.isLeft) (
          av (UM.getLeft?) λa49=>
          k (bl.out false)) (
          av (UM.getRight?) λb50=>
          k (bl.out b50))))))))):=by kernel_rfl
theorem bl.L0.ok:bl.L0.Ok:=by
 refine bl.L0.cM (λ(_,_,_,_,_,_,G,i)=>G.length - i.toNat) ?_
 rintro⟨at',ks,dB,b,to,hd,G,i⟩ ⟨hh,hu,QK,ho,uF,hG,hl,k,hk,rfl⟩
 have hh:0<=at'/\at'<=1000000000:=hh
 have QK:ks.length<=70:=QK
 have hl:G.length<=1000:=hl
 have hk:k<=G.length:=hk
 by_cases h:k < G.length
 ·left
  have n1:nth oq G k=G[k]:=dg (t:=oq) h
  obtain⟨g1,g2,g3,g4,g5⟩:=hG _ (bw h)
  generalize G[k]=g at n1 g1 g2 g3 g4 g5
  have hb:ez.aU (g,ks,to,at',b,dB):=⟨g1,⟨hh.1,by show at'<=_;omega⟩,g2,hu,uF,by show g.1.length<=_;omega,by show ks.length<=_;omega,ho⟩
  have c1:=ez.run hb
  have c2:=eG.run (d:=(g,ks,to,at',b,dB)) ⟨hb,g4,g5⟩
  have c3:=mQ.run (d:=(g,at',b)) ⟨g1,hh.1,by show at'<=_;omega⟩
  have c4:=gq.run (d:=(g,at',b)) ⟨g1,hh.1,by show at'<=_;omega⟩
  have c5:=aB.run (d:=((rh g ks to at' b dB).1,(rh g ks to at' b dB).1)) (GB g2 uF)
  refine⟨(at',ks,dB,b,to,hd,G,((k+1:Nat):Int)),⟨hh,hu,QK,ho,uF,hG,hl,k+1,h,rfl⟩,by simp only[aa];omega,rfl,λkn kx=> ?_⟩
  rw[bl.L0.step,bh (by omega),ae]
  simp only[bp (show(0:Int)<=(k:Int) by omega) (show(k:Int) < (G.length:Int) by omega),ae,aa,n1]
  rw[c1,ab,c2,ab]
  simp only[bE,ez.F,bE,eG.F]
  rw[c3,ab,c4,ab]
  simp only[bE,mQ.F,bE,gq.F]
  rw[cS rfl,ah,cS rfl,ah,cS rfl,ah,c5,ab]
  simp only[bE,aB.F]
  rw[aP trivial,cq,ah,N.pk (by omega)]
 ·right
  obtain rfl:k=G.length:=by omega
  refine⟨bl.L0.fQ hd,rfl,λkn kx=> ?_⟩
  rw[bl.L0.step,aR (by omega),ah]
theorem bl.ok:bl.Ok:=by
 rintro⟨l,bu,b,h,at',ks,to,dB⟩ ⟨hr,hu,uF⟩
 have hr:∀x∈l,Sz x:=hr
 rw[bl.eq,gu.run (d:=()) trivial]
 simp only[ab,bE,gu.F,bE,bl.F]
 rw[cC.run (d:=l) trivial]
 simp only[ab,bE,cC.F]
 cases hf:JW l with
 |false=>rfl
 |true=>
 have hx:=Pf hr hf
 rw[cq,ah]
 by_cases a1:ks.length > 70
 ·rw[cX (by omega),ae]
 rw[cj (by omega),ah]
 by_cases a2:at' < 0
 ·rw[bh a2,ae]
 rw[aR a2,ah]
 by_cases a3:at' > 1000000000
 ·rw[cX a3,ae]
 rw[cj a3,ah]
 by_cases a4:dB > 1125899906842624
 ·rw[cX a4,ae]
 rw[cj a4,ah,ai.run (d:=(([]:List gz),([((0:Int),(to,()))],((0:Int),())))) trivial]
 simp only[ab,bE,ai.F]
 cases xm (([]:List gz),([((0:Int),(to,()))],((0:Int),()))) with
 |false=>rfl
 |true=>
 rw[cq,ah,aH.run (d:=(l,bu,b,h)) hx]
 simp only[ab,bE,aH.F,yh]
 by_cases nj:mH l bu b h=true
 ·rw[if_pos nj,cS rfl,ah]
  obtain⟨_,_,_,k4,k5,k6⟩:=B6 nj
  have VG:=Mx hx nj
  obtain⟨p1,p2,p3,_⟩:=Is hx nj
  have hT:∀g∈oD l bu b h,Oh g:=λg hg=>by
   obtain⟨⟨_,q2⟩,_,_,_,q6,_⟩:=p1 g hg
   refine⟨VG g hg,λx hm=>(hr x (q6 x hm).1).1,q2,?_,λx hm=>k6 x (q6 x hm).1⟩
   obtain⟨s,t,e⟩:=List.append_of_mem hg
   rw[e,zN,vM,iD,iD]at p3
   exact(mh.1 (mh.1 p3).2.1).1
  rw[bl.L0.run (d:=(at',ks,dB,b,to,true,oD l bu b h,0)) ⟨⟨by show 0<=at';omega,by show at'<=_;omega⟩,hu,by show ks.length<=70;omega,by show dB<=_;omega,uF,hT,KA hx k4,0,aV _,rfl⟩]
  rfl
 ·rw[if_neg nj]
  rfl
theorem bl.run:bl.RS:=rE [.d (.slice ei),.d ti,.d p9,.d ti,.d ti,.d tU,.d mK,.d ti] bl
def bl.sg:=bl.fS bl.ok 1 ⟨.hZ bl.L0.ok,trivial⟩
end Go.Ab
end
