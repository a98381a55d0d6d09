/-
  Made short by a program of mine (wip/tools/mini.py).
-/
import Derived.Test.YtlehggcknedaeaaGreatDoorS30x4
set_option linter.unusedVariables false
set_option linter.unusedSimpArgs false
set_option maxRecDepth 100000
set_option synthInstance.maxSize 5000
open List renaming replicate->ai,set->df,length->ae,take->aT,drop->eI
open Int renaming toNat->ab
open Option renaming some->av,none->aF
open Bool renaming true->aS,false->bq
noncomputable section
variable {R:Type}
namespace Go.Ab
open Go.Proofs
abbrev aNy:Ty:=(.pair ti (.pair ti (.pair ti .unit)))
abbrev aMf:=(Int×(Int×(Int×Unit)))
abbrev gD:Ty:=(.pair ti (.pair ti (.pair ti (.pair tu (.pair ti .unit)))))
abbrev fM:=(Int×(Int×(Int×(Int×(Int×Unit)))))
abbrev oO:Ty:=(.pair ti (.pair ti (.pair ti aNy)))
abbrev az6:=(Int×(Int×(Int×aMf)))
abbrev kE:Ty:=(.pair ti (.pair (.arr 2 ti) (.pair (.slice gD) (.pair ti .unit))))
abbrev fZ:=(Int×((List Int)×((List fM)×(Int×Unit))))
abbrev oN:Ty:=(.pair tu (.pair tu (.pair tu (.pair tu (.pair tu (.pair tH .unit))))))
abbrev sj:=(Int×(Int×(Int×(Int×(Int×(Bs×Unit))))))
abbrev rQ:Ty:=(.pair tu (.pair tu (.pair tu NP)))
abbrev atu:=(Int×(Int×(Int×Sg)))
abbrev lg:Ty:=(.pair eD (.pair ti (.pair (.arr 2 rQ) (.pair (.arr 2 oO) (.pair ti .unit)))))
abbrev fu:=(fA×(Int×((List atu)×((List az6)×(Int×Unit)))))
abbrev abF:Ty:=(.pair ti (.pair gD .unit))
abbrev Jg:=(Int×(fM×Unit))
abbrev atq:Ty:=(.pair jC (.pair (.slice abF) .unit))
abbrev aos:=(gf×((List Jg)×Unit))
abbrev GB:Ty:=(.pair eD (.pair ti (.pair tu .unit)))
abbrev tW:=(fA×(Int×(Int×Unit)))
abbrev nE:Ty:=(.pair jE (.pair abF (.pair tH .unit)))
abbrev oT:=(jI×(Jg×(Bs×Unit)))
abbrev aAe:Ty:=(.pair tb (.pair (.int .u16) (.pair (.int .u16) (.pair tu .unit))))
abbrev amg:=(Int×(Int×(Int×(Int×Unit))))
abbrev agE:Ty:=(.pair (.arr 2 tH) (.pair (.int .u32) (.pair (.int .u32) (.pair tb (.pair tb (.pair (.slice aAe) (.pair (.int .u16) (.pair tH .unit))))))))
abbrev Jf:=((List Bs)×(Int×(Int×(Int×(Int×((List amg)×(Int×(Bs×Unit))))))))
def Bd(x lo hi:Int):Prop:=lo<=x/\x<=hi
def sr(n lo hi:Int):Bool:=decide (lo<=n) && decide (n<=hi)
theorem wb{n lo hi:Int}:sr n lo hi=aS↔lo<=n/\n<=hi:=by unfold sr;rw[au,aP,aP]
theorem iE{n lo hi:Int}(h:lo<=n)(h2:n<=hi):sr n lo hi=aS:=wb.2 ⟨h,h2⟩
theorem pn{n lo hi:Int}(h:¬(lo<=n/\n<=hi)):sr n lo hi=bq:=by
 cases e:sr n lo hi
 ·rfl
 ·exact absurd (wb.1 e) h
def V3(p:Int):Bool:=oQ p && yV p 1
def aty(p:Int):Prop:=eG p/\V3 p=aS
def aEH(b:atu):Prop:=aty b.1/\aty b.2.1/\aty b.2.2.1/\aty b.2.2.2.1/\aty b.2.2.2.2.1
def te(d:Int):az6:=(100,(200,(d,(16,(1,(1125899906842624,()))))))
def Gw(a:Int)(b0 b1:atu)(o:Int):fu:=((ai 32 0,(0,())),(a,([b0,b1],([te 5,te 6],(o,())))))
def l9(ch:fu):Prop:=∃a b0 b1 o,ch=Gw a b0 b1 o/\20000<=a/\a<=4294987295/\aEH b0/\aEH b1/\(o=0\/o=1)
def azZ(n:Int):Int:=if 0<=n/\n<=16 then 68+8*n else 0
def On(r n:Int):Int:=if 0<=r/\r<=1000 then r*azZ n else 0
theorem ab1(n:Int):0<=azZ n/\azZ n<=196:=by unfold azZ;split <;> omega
theorem KJ{r w a b:Int}(h0:0<=r)(h1:r<=a)(w0:0<=w)(w1:w<=b):0<=r*w/\r*w<=a*b:=⟨qv h0 w0,Int.mul_le_mul h1 w1 w0 ao⟩
theorem DY(r n:Int):0<=On r n/\On r n<=196000:=by
 unfold On;split
 ·next h=>
  have:=ab1 n;have:=KJ h.1 h.2 this.1 this.2;omega
 ·omega
def ab7(c:fM):Bool:=V3 c.2.2.2.1 && (sr c.1 0 1 && (sr c.2.1 1 1048576 && (sr c.2.2.1 1 1125899906842624 && sr c.2.2.2.2.1 1 1048576)))
structure aDJ(c:fM):Prop where
 pt:V3 c.2.2.2.1=aS
 side:0<=c.1/\c.1<=1
 id:1<=c.2.1/\c.2.1<=1048576
 U5:1<=c.2.2.1/\c.2.2.1<=1125899906842624
 exp:1<=c.2.2.2.2.1/\c.2.2.2.2.1<=1048576
theorem vB{c:fM}:ab7 c=aS↔aDJ c:=by unfold ab7;simp only[au,wb];exact⟨λh=>⟨h.1,h.2.1,h.2.2.1,h.2.2.2.1,h.2.2.2.2⟩,λh=>⟨h.pt,h.side,h.id,h.U5,h.exp⟩⟩
def L9(a b:fM):Bool:=decide (a.1 < b.1\/a.1=b.1/\a.2.1 < b.2.1)
def zG:Option fM->List fM->Bool
 |_,[]=>aS
 |none,c::l=>ab7 c && zG (av c) l
 |some p,c::l=>ab7 c && (L9 p c && zG (av c) l)
def KX(l:List fM)(k:Nat):Option fM:=if k=0 then aF else av (nth gD l (k - 1))
theorem Av:∀(o:Option fM) (l:List fM),zG o l=aS->∀c∈l,aDJ c
 |_,[],_,c,hc=>by cases hc
 |none,d::l,h,c,hc=>by
  simp only[zG,au]at h;rcases bI.1 hc with rfl | hc
  ·exact vB.1 h.1
  ·exact Av _ l h.2 c hc
 |some p,d::l,h,c,hc=>by
  simp only[zG,au]at h;rcases bI.1 hc with rfl | hc
  ·exact vB.1 h.1
  ·exact Av _ l h.2.2 c hc
theorem amy{l:List fM}{k:Nat}(h:k < l.length):zG (KX l k) (l.drop k)=(ab7 l[k] && ((decide (k=0) || L9 (nth gD l (k - 1)) l[k]) && zG (KX l (k+1)) (l.drop (k+1)))):=by
 have n1:nth gD l k=l[k]:=cK (t:=gD) h;have e2:KX l (k+1)=av l[k]:=by unfold KX;rw[if_neg ao,Nat.add_sub_cancel,n1]
 rw[e2,aD h];unfold KX;by_cases h0:k=0
 ·rw[if_pos h0,zG,aJ h0,Bool.true_or,bD]
 ·rw[if_neg h0,zG,bP h0,Bool.false_or]
def fx:List fM->Int
 |[]=>0
 |c::l=>c.2.2.1+fx l
def j6(to:Int)(l:List fM):List fM:=l.filter λc=>kK c.1 (1 - to)
def ab6(c:fM):Prop:=0<=c.2.2.1/\c.2.2.1<=1125899906842624
theorem amk:∀(l:List fM),(∀c∈l,ab6 c)->0<=fx l/\fx l<=1125899906842624*l.length
 |[],_=>⟨iT _,by simp[fx]⟩
 |c::l,h=>by
  have h1:=h c aM;have h2:=amk l λx hx=>h x (aN _ hx)
  unfold ab6 at h1;simp only[fx,aI];omega
theorem KO(to:Int)(l:List fM):(j6 to l).length<=l.length:=jy _ _
theorem Nf(to:Int)(c:fM)(l:List fM):j6 to (c::l)=if kK c.1 (1 - to)=aS then c::j6 to l else j6 to l:=by unfold j6;rw[eJ]
def IU(ch:fu)(s:fZ):Bool:=sr s.1 0 1048576 && (sr (nth ti s.2.1 0) 0 1125899906842624 && (sr (nth ti s.2.1 1) 0 1125899906842624 && (sr s.2.2.2.1 0 1000 && (decide (s.2.2.1.length<=16) && (zG aF s.2.2.1 && (decide (fx (j6 0 s.2.2.1)<=1125899906842624) && (decide (fx (j6 1 s.2.2.1)<=1125899906842624) && (kK (nth ti s.2.1 0+nth ti s.2.1 1+fx s.2.2.1) ch.2.1 && qS (nth ti s.2.1 ch.2.2.2.2.1.toNat) (On s.2.2.2.1 s.2.2.1.length+660)))))))))
def A5(s:fZ):Prop:=(∀c∈s.2.2.1,eG c.2.2.2.1)/\s.2.2.1.length<=1000/\s.2.1.length=2
def av5:(Int×Int×Int)->Prop:=λ_=>True
def av4:(Int×Int×Int)->Bool:=λ(n,lo,hi)=>sr n lo hi
def BR:Fs Tryz.prog av5 bk av4:=dV 105 Tryz.f105 (λ(n,low,high)=>([.d ti n,.d ti low,.d ti high],[])) (λx=>⟨.d .bool x,[],[]⟩) [av ti,av ti,av ti]
theorem aBI(n low high)(k:K1 R):BR.A (n,low,high) k=aG (qS n low) (k (BR.out (ab9 n high))) (k (BR.out bq)):=cq
theorem aBJ:BR.Ok:=by rintro⟨n,lo,hi⟩ _;rw[aBI];simp only[bk,av4,sr];have e:decide (lo<=n)=qS n lo:=rfl;rw[e];cases qS n lo <;> rfl
theorem av6:BR.RS:=rE [.d ti,.d ti,.d ti] BR
def Qo:=BR.dZ aBJ
theorem MK(n lo hi:Int):BR.call (n,lo,hi)=av (sr n lo hi):=av6 (d:=(n,lo,hi)) trivial
def av8:(Int×Int×Int)->Prop:=λ_=>True
def av7:(Int×Int×Int)->Bool:=λ(n,lo,hi)=>sr n lo hi
def Gv:Fs Tryz.prog av8 bk av7:=dV 53 Tryz.f53 (λ(n,low,high)=>([.d ti n,.d ti low,.d ti high],[])) (λx=>⟨.d .bool x,[],[]⟩) [av ti,av ti,av ti]
theorem aBK(n low high)(k:K1 R):Gv.A (n,low,high) k=aG (qS n low) (k (Gv.out (ab9 n high))) (k (Gv.out bq)):=cq
theorem aBL:Gv.Ok:=by rintro⟨n,lo,hi⟩ _;rw[aBK];simp only[bk,av7,sr];have e:decide (lo<=n)=qS n lo:=rfl;rw[e];cases qS n lo <;> rfl
theorem awa:Gv.RS:=rE [.d ti,.d ti,.d ti] Gv
def anb:=Gv.dZ aBL
theorem av9(n lo hi:Int):Gv.call (n,lo,hi)=av (sr n lo hi):=awa (d:=(n,lo,hi)) trivial
def aDq:(Int×Int×Int)->Prop:=λ_=>True
def aEy:(Int×Int×Int)->Bool:=λ(n,lo,hi)=>sr n lo hi
def aoc:Fs Tryz.prog aDq bk aEy:=dV 186 Tryz.f186 (λ(n,low,high)=>([.d ti n,.d ti low,.d ti high],[])) (λx=>⟨.d .bool x,[],[]⟩) [av ti,av ti,av ti]
theorem aGF(n low high)(k:K1 R):aoc.A (n,low,high) k=aG (ab9 low n) (k (aoc.out (ab9 n high))) (k (aoc.out bq)):=cq
theorem aGG:aoc.Ok:=by rintro⟨n,lo,hi⟩ _;rw[aGF];simp only[bk,aEy,sr];have e:decide (lo<=n)=ab9 lo n:=rfl;rw[e];cases ab9 lo n <;> rfl
theorem aDr:aoc.RS:=rE [.d ti,.d ti,.d ti] aoc
def aGH:=aoc.dZ aGG
theorem aI8(n lo hi:Int):aoc.call (n,lo,hi)=av (sr n lo hi):=aDr (d:=(n,lo,hi)) trivial
def aDE:Int->Prop:=λ_=>True
def azY:Int->Int:=λn=>azZ n
def aEA:Fs Tryz.prog aDE bk azY:=dV 157 Tryz.f157 (λconds=>([.d ti conds],[])) (λx=>⟨.d ti x,[],[]⟩) [av ti] [Qo]
theorem aGW(conds)(k:K1 R):aEA.A conds k=ak (BR.call (conds,0,16)) λx1=>aG (!x1) (k (aEA.out 0)) (k (aEA.out (bl .i64 36 (ed .i64 (bl .i64 4 conds) 8)))):=cq
theorem aGX:aEA.Ok:=by
 intro(n:Int) _;rw[aGW,MK];simp only[ah,bk,azY,azZ];by_cases h:0<=n/\n<=16
 ·rw[iE h.1 h.2,if_pos h,bm,al,show bl .i64 4 n=4+n from cQ ao ao,mi ao ao,cQ ao ao];rw[show(36+(4+n)*8:Int)=68+8*n by omega]
 ·rw[pn h,if_neg h];rfl
theorem aDF:aEA.RS:=rE [.d ti] aEA
def aGY:=aEA.dZ aGX
def apF:(Int×Int)->Prop:=λ_=>True
def ZJ:(Int×Int)->Int:=λ(r,n)=>On r n
def Oo:Fs Tryz.prog apF bk ZJ:=dV 109 Tryz.f109 (λ(bo,conds)=>([.d ti bo,.d ti conds],[])) (λx=>⟨.d ti x,[],[]⟩) [av ti,av ti] [Qo,aGY]
theorem ave(bo conds)(k:K1 R):Oo.A (bo,conds) k=ak (BR.call (bo,0,1000)) λx1=>aG (!x1) (k (Oo.out 0)) (ak (aEA.call conds) λx2=>k (Oo.out (ed .i64 bo x2))):=cq
theorem avf:Oo.Ok:=by
 rintro⟨r,n⟩ _;rw[ave,MK];simp only[ah,bk,ZJ,On];by_cases h:0<=r/\r<=1000
 ·have hw:=ab1 n;have hm:=KJ h.1 h.2 hw.1 hw.2;rw[iE h.1 h.2,if_pos h,bm,al,aDF (d:=n) trivial];simp only[ah,bk,azY];rw[mi ao ao]
 ·rw[pn h,if_neg h];rfl
theorem apG:Oo.RS:=rE [.d ti,.d ti] Oo
def avg:=Oo.dZ avf
def abJ:Int->Prop:=λ_=>True
def IZ:Int->Int:=λn=>azZ n
def rV:Fs Tryz.prog abJ bk IZ:=dV 168 Tryz.f168 (λconds=>([.d ti conds],[])) (λx=>⟨.d ti x,[],[]⟩) [av ti]
theorem agT(conds)(k:K1 R):rV.A conds k=aG (fG conds 0) (k (rV.out 0)) (aG (vh conds 16) (k (rV.out 0)) (k (rV.out (bl .i64 68 (ed .i64 8 conds))))):=cq
theorem agU:rV.Ok:=by
 intro(n:Int) _;rw[agT];simp only[bk,IZ,azZ];by_cases h:n < 0
 ·rw[aZ h,aj,if_neg ao]
 ·rw[aQ h,al];by_cases h2:n > 16
  ·rw[dw h2,aj,if_neg ao]
  ·rw[cJ h2,al,if_pos ⟨ao,ao⟩,mi ao ao,cQ ao ao]
theorem abK:rV.RS:=rE [.d ti] rV
def agV:=rV.dZ agU
def asN:(Int×Int)->Prop:=λ_=>True
def QH:(Int×Int)->Int:=λ(r,n)=>On r n
def Hv:Fs Tryz.prog asN bk QH:=dV 126 Tryz.f126 (λ(bo,conds)=>([.d ti bo,.d ti conds],[])) (λx=>⟨.d ti x,[],[]⟩) [av ti,av ti] [agV]
theorem azu(bo conds)(k:K1 R):Hv.A (bo,conds) k=aG (fG bo 0) (k (Hv.out 0)) (aG (vh bo 1000) (k (Hv.out 0)) (ak (rV.call conds) λx1=>k (Hv.out (ed .i64 bo x1)))):=cq
theorem azv:Hv.Ok:=by
 rintro⟨r,n⟩ _;rw[azu];simp only[bk,QH,On];by_cases h:r < 0
 ·rw[aZ h,aj,if_neg ao]
 ·rw[aQ h,al];by_cases h2:r > 1000
  ·rw[dw h2,aj,if_neg ao]
  ·have hw:=ab1 n;have hm:=KJ (r:=r) ao (show r<=1000 by omega) hw.1 hw.2;rw[cJ h2,al,if_pos ⟨ao,ao⟩,abK (d:=n) trivial];simp only[ah,bk,IZ];rw[mi ao ao]
theorem YK:Hv.RS:=rE [.d ti,.d ti] Hv
def agJ:=Hv.dZ azv
def agR:(az6×Int)->Prop:=λ_=>True
def asQ:(az6×Int)->Bool:=λ(t,n)=>qS n t.1
def rU:Fs Tryz.prog agR bk asQ:=dV 72 Tryz.f72 (λ(t,amount)=>([.d oO t,.d ti amount],[])) (λx=>⟨.d .bool x,[],[]⟩) [av oO,av ti]
theorem alO(t amount)(k:K1 R):rU.A (t,amount) k=k (rU.out (qS amount t.1)):=cq
theorem alP:rU.Ok:=by rintro⟨t,n⟩ _;rw[alO];rfl
theorem agS:rU.RS:=rE [.d oO,.d ti] rU
def UL:=rU.dZ alP
def aCM:az6->Prop:=λt=>t=te 5\/t=te 6
def aEt:az6->Bool:=λ_=>aS
def ato:Fs Tryz.prog aCM bk aEt:=dV 106 Tryz.f106 (λt=>([.d oO t],[])) (λx=>⟨.d .bool x,[],[]⟩) [av oO] [Qo]
theorem aGj(t)(k:K1 R):ato.A t k=ak (BR.call (t.1,0,65536)) λx1=>aG (x1) (ak (BR.call (t.2.1,t.1,1125899906842624)) λx2=>aG (x2) (ak (BR.call (t.2.2.1,1,4096)) λx3=>aG (x3) (ak (BR.call (t.2.2.2.1,0,16)) λx4=>aG (x4) (ak (BR.call (t.2.2.2.2.1,1,1125899906842624)) λx5=>aG (x5) (ak (BR.call (t.2.2.2.2.2.1,0,1125899906842624)) λx6=>k (ato.out x6)) (k (ato.out bq))) (k (ato.out bq))) (k (ato.out bq))) (k (ato.out bq))) (k (ato.out bq)):=cq
theorem aGk:ato.Ok:=by rintro t (rfl | rfl) <;> (rw[aGj];simp only[MK,ah];rfl)
theorem aCN:ato.RS:=rE [.d oO] ato
def aGl:=ato.dZ aGk
def agP:az6->Prop:=λt=>t=te 5\/t=te 6
def YL:az6->Bool:=λ_=>aS
def pA:Fs Tryz.prog agP bk YL:=dV 162 Tryz.f162 (λt=>([.d oO t],[])) (λx=>⟨.d .bool x,[],[]⟩) [av oO] [aGH]
theorem alL(t)(k:K1 R):pA.A t k=ak (aoc.call (t.1,0,65536)) λx1=>aG (x1) (ak (aoc.call (t.2.2.1,1,4096)) λx2=>aG (x2) (ak (aoc.call (t.2.2.2.1,0,16)) λx3=>aG (x3) (ak (aoc.call (t.2.1,t.1,1125899906842624)) λx4=>aG (x4) (ak (aoc.call (t.2.2.2.2.1,1,1125899906842624)) λx5=>aG (x5) (ak (aoc.call (t.2.2.2.2.2.1,0,1125899906842624)) λx6=>k (pA.out x6)) (k (pA.out bq))) (k (pA.out bq))) (k (pA.out bq))) (k (pA.out bq))) (k (pA.out bq)):=cq
theorem alM:pA.Ok:=by rintro t (rfl | rfl) <;> (rw[alL];simp only[aI8,ah];rfl)
theorem agQ:pA.RS:=rE [.d oO] pA
def alN:=pA.dZ alM
def arf:Int->Prop:=λp=>eG p
def aaZ:Int->Bool:=λp=>V3 p
def AV:Fs Tryz.prog arf bk aaZ:=dV 107 Tryz.f107 (λp=>([.d tu p],[])) (λx=>⟨.d .bool x,[],[]⟩) [av tu] [II]
theorem axJ(p)(k:K1 R):AV.A p k=ak (rp.call p) λx1=>aG (x1) (k (AV.out (yV p 1))) (k (AV.out bq)):=cq
theorem axK:AV.Ok:=by intro p hp;rw[axJ,EK (d:=p) hp];simp only[ah,bk,AY,bk,aaZ,V3];cases oQ p <;> rfl
theorem arh:AV.RS:=rE [.d tu] AV
def axL:=AV.dZ axK
theorem KR{p:Int}(h:aty p):AV.call p=av aS:=by rw[arh (d:=p) h.1];simp only[bk,aaZ,h.2]
abbrev xv:=fu×Int
def qd:xv->AS:=λ(fS,i)=>⟨([bX,.dN lg fS,bX,.d ti i]++aW 67 []),[],(ai 71 [])⟩
def fy:Unit->Exit×AS:=λx=>(.ret,⟨([bX,bX,.d ti (1:Int)]++aW 68 []),[],(ai 71 [])⟩)
def vW:fu->Exit×AS:=λx=>(.exit 0,⟨([bX,.dN lg x]++aW 69 []),[],(ai 71 [])⟩)
abbrev H6:=(Unit)⊕(fu)
abbrev RV:=(Unit)⊕(Unit)
def BK:H6->Out (Exit×AS):=λx=> .br x.isLeft (.get x.getLeft? λa=> .ok (fy a)) (.get x.getRight? λb=> .ok (vW b))
def qO:xv->RV->H6:=λ(fS,i) y=>match y with | .inl y=> .inl y | .inr z=> .inr (fS)
def vV:xv->Prop:=λ(ch,i)=>l9 ch/\∃k:Nat,k<=2/\i=k
def xw:xv->RV:=λ_=> .inr ()
def apL:fu->Prop:=λch=>l9 ch
def amX:fu->Int:=λ_=>0
def RT:=eb.fH qd vV qO xw BK
def GY:xv->Option H6:=kD RT qd
def vf:Fs Tryz.prog apL bk amX:=dV 52 Tryz.f52 (λch=>([.d lg ch],[])) (λx=>⟨.d ti x,[],[]⟩) [av lg] [Qo,aGl,axL] {loops:=mM [(4,{aX:=[1,3]}),(11,{aX:=[1,3,5,6],sites:=[4,9,15,21,47,57]})],outs:=mL [(4,{aX:=[1]},{aX:=[2]}),(11,{aX:=[1,3],sites:=[4,9,15,21,47,57]},{aX:=[2],sites:=[4,9,15,21,47,57]})],fo:=oR [(4,RT)]} 6
def RU:= @gk Tryz.prog (oP vf.G) vf.an 6 Tryz.f52 0 _ qd
abbrev Ot:=qq Tryz.prog (oP vf.G) vf.an 6 Tryz.f52 0 qd vV qO xw BK
theorem ZP:mR GY vV qO xw:=sV (sJ [.d lg,.d ti] λ_=>cq)
theorem J0:uR @RU qd vV qO xw BK Ot:=vA
theorem GZ(fS i)(kn:K2 R)(kx:K3 R):RU (fS,i) kn kx=aG (fG i (2:Int)) (aG (dr i (2:Int)) (aG (dr i (2:Int)) (ak (ato.call (nth oO fS.2.2.2.1 (ab i))) λx1=>aG (!x1) (kx (fy ()).1 (fy ()).2) (ak (AV.call (nth rQ fS.2.2.1 (ab i)).1) λx2=>aG (!x2) (kx (fy ()).1 (fy ()).2) (ak (AV.call (nth rQ fS.2.2.1 (ab i)).2.1) λx3=>aG (!x3) (kx (fy ()).1 (fy ()).2) (ak (AV.call (nth rQ fS.2.2.1 (ab i)).2.2.1) λx4=>aG (!x4) (kx (fy ()).1 (fy ()).2) (ak (AV.call (nth rQ fS.2.2.1 (ab i)).2.2.2.1) λx5=>aG (!x5) (kx (fy ()).1 (fy ()).2) (ak (AV.call (nth rQ fS.2.2.1 (ab i)).2.2.2.2.1) λx6=>aG (!x6) (kx (fy ()).1 (fy ()).2) (kn (qd (fS,(bl .i64 i (1:Int))))))))))) aF) aF) (kx (vW fS).1 (vW fS).2):=cq
theorem avl(ch)(k:K1 R):vf.A ch k=ak (BR.call (ch.2.1,1,1125899906842624)) λx1=>aG (!x1) (k (vf.out 1)) (ak (BR.call (ch.1.2.1,0,63)) λx2=>aG (!x2) (k (vf.out 1)) (ak (BR.call (ch.2.2.2.2.1,0,1)) λx3=>aG (!x3) (k (vf.out 1)) (ak (GY (ch,0)) λMc=>aG Mc.isLeft (ak Mc.getLeft? λa11=>k (vf.out 1)) (ak Mc.getRight? λb12=>aG (vh (bl .i64 (nth oO b12.2.2.2.1 0).2.1 (nth oO b12.2.2.2.1 1).2.1) b12.2.1) (k (vf.out 10)) (k (vf.out 0)))))):=cq
theorem adz:Ot:=by
 refine J0 (λ(_,i)=>(2 - i).toNat) ?_
 rintro⟨ch,i⟩ ⟨⟨a,b0,b1,o,rfl,ha,aHX,g0,g1,ho⟩,k,hk,rfl⟩;have hk:k<=2:=hk;have hg:l9 (Gw a b0 b1 o):=⟨a,b0,b1,o,rfl,ha,aHX,g0,g1,ho⟩;by_cases h:k < 2
 ·left;refine⟨(Gw a b0 b1 o,((k+1:Nat):Int)),⟨hg,k+1,ao,rfl⟩,by show(2 - ((k+1:Nat):Int)).toNat < (2 - (k:Int)).toNat;omega,rfl,λkn kx=> ?_⟩;have ht:nth oO [te 5,te 6] k=te 5\/nth oO [te 5,te 6] k=te 6:=by
   obtain rfl | rfl:k=0\/k=1:=ao
   ·exact .inl rfl
   ·exact .inr rfl
  have hb:aEH (nth rQ [b0,b1] k):=by
   obtain rfl | rfl:k=0\/k=1:=ao
   ·exact g0
   ·exact g1
  rw[GZ,aZ ao,aj,aV ao ao,aj,aj,aa];simp only[Gw];rw[aCN (d:=nth oO [te 5,te 6] k) ht];simp only[ah,bk,aEt,bm,al];rw[KR hb.1];simp only[ah,bm,al];rw[KR hb.2.1];simp only[ah,bm,al];rw[KR hb.2.2.1];simp only[ah,bm,al];rw[KR hb.2.2.2.1];simp only[ah,bm,al];rw[KR hb.2.2.2.2];simp only[ah,bm,al];rw[N.qt ao]
 ·right;obtain rfl:k=2:=ao;refine⟨vW (Gw a b0 b1 o),rfl,λkn kx=> ?_⟩;rw[GZ,aQ ao,al]
theorem avm:vf.Ok:=by rintro ch hg;obtain⟨a,b0,b1,o,rfl,ha,aHX,g0,g1,ho⟩:=id hg;rw[avl,MK,MK,MK];simp only[Gw,ah];rw[iE ao ao,iE ao ao,iE ao ao];simp only[bm,al];have:=ZP (d:=(Gw a b0 b1 o,0)) ⟨hg,0,ao,rfl⟩;simp only[Gw]at this;rw[this];simp only[ah,qO,xw,fk,al,ej];rw[show(bl .i64 (nth oO [te 5,te 6] 0).2.1 (nth oO [te 5,te 6] 1).2.1)=400 from rfl,cJ ao,al];rfl
theorem apM:vf.RS:=rE [.d lg] vf
def avn:=vf.dZ avm 2 ⟨.fH adz,⟨.none cq,trivial⟩⟩
def azA:Int->Prop:=λp=>eG p
def azz:Int->Bool:=λp=> !V3 p
def agO:Fs Tryz.prog azA bk azz:=dV 187 Tryz.f187 (λp=>([.d tu p],[])) (λx=>⟨.d .bool x,[],[]⟩) [av tu] [wY]
theorem aDn(p)(k:K1 R):agO.A p k=aG (kK p 1) (k (agO.out aS)) (ak (oJ.call p) λx1=>k (agO.out (!x1))):=cq
theorem aDo:agO.Ok:=by
 intro p hp;rw[aDn];simp only[bk,azz,V3];by_cases h:p=1
 ·rw[dU h,aj,ez h,jl];rfl
 ·rw[dF h,al,nw (d:=p) hp,gH h,iS];rfl
theorem azB:agO.RS:=rE [.d tu] agO
def aDp:=agO.dZ aDo
abbrev Fl:=Bs×Int×Int
def s9:Fl->AS:=λ(cU,t7,t8)=>⟨([.d tU cU,.fn 187 (.nil)]++aW 5 ([.d ti t7,.d ti t8]++aW 10 [])),[],(ai 19 [])⟩
def s8:Int->Exit×AS:=λx=>(.ret,⟨(aW 4 ([.d ti x]++aW 14 [])),[],(ai 19 [])⟩)
def CJ:Unit->Exit×AS:=λx=>(.exit 0,⟨(aW 19 []),[],(ai 19 [])⟩)
abbrev UQ:=(Int)⊕(Unit)
abbrev ag4:=(Int)⊕(Unit)
def I1:UQ->Out (Exit×AS):=λx=> .br x.isLeft (.get x.getLeft? λa=> .ok (s8 a)) (.get x.getRight? λb=> .ok (CJ b))
def nG:Fl->ag4->UQ:=λ(cU,t7,t8) y=>match y with | .inl y=> .inl y | .inr z=> .inr (z)
def CI:Fl->Prop:=λ(l,n,i)=>(∀x∈l,eG x)/\l.length<=1000000000/\n=l.length/\∃k:Nat,k<=l.length/\i=k
def uL:Fl->ag4:=λ(l,n,i)=>zR (λp=> !V3 p) (l.drop i.toNat) i
def aDv:Bs->Prop:=λl=>(∀x∈l,eG x)/\l.length<=1000000000
def azH:Bs->Int:=λl=>Vt (λp=> !V3 p) l
def ag3:=eb.fH s9 CI nG uL I1
def PC:Fl->Option UQ:=kD ag3 s9
def atr:Fs Tryz.prog aDv bk azH:=dV 171 Tryz.f171 (λsv=>([.d tU sv,.fn 187 (.nil)],[])) (λx=>⟨.d ti x,[],[]⟩) [av tU,aF] [aDp] {loops:=mM [(2,{aX:=[0,1,7,8]})],outs:=mL [(2,{},{aX:=[4]})],fo:=oR [(2,ag3)]}
def UP:= @gk Tryz.prog (oP atr.G) atr.an 0 Tryz.f171 0 _ s9
abbrev YM:=qq Tryz.prog (oP atr.G) atr.an 0 Tryz.f171 0 s9 CI nG uL I1
theorem alS:mR PC CI nG uL:=sV (sJ [.d tU,.d ti,.d ti] λ_=>cq)
theorem P4:uR @UP s9 CI nG uL I1 YM:=vA
theorem PD(cU t7 t8)(kn:K2 R)(kx:K3 R):UP (cU,t7,t8) kn kx=aG (fG t8 t7) (aG (dr t8 (((ae cU):Nat):Int)) (ak (agO.call (nth tu cU (ab t8))) λx1=>aG (x1) (kx (s8 t8).1 (s8 t8).2) (kn (s9 (cU,t7,(bl .i64 t8 (1:Int)))))) aF) (kx (CJ ()).1 (CJ ()).2):=cq
theorem aGO(sv)(k:K1 R):atr.A sv k=ak (PC (sv,(sv.length:Int),0)) λx2=>aG x2.isLeft (ak x2.getLeft? λa3=>k (atr.out a3)) (ak x2.getRight? λb4=>k (atr.out (-1))):=cq
theorem asV:YM:=by
 refine P4 (λ(l,n,i)=>l.length - i.toNat) ?_
 rintro⟨l,n,i⟩ ⟨hl,hb,rfl,k,hk,rfl⟩;have hb:l.length<=1000000000:=hb;have hk:k<=l.length:=hk;by_cases h:k < l.length
 ·have hx:=hl _ (List.getElem_mem h);have n1:nth tu l k=l[k]:=cK (t:=tu) h;have hd:zR (λp=> !V3 p) (l.drop k) k=if(λp=> !V3 p) l[k] then .inl (k:Int) else zR (λp=> !V3 p) (l.drop (k+1)) ((k+1:Nat):Int):=by rw[aD h];rfl
  have step:∀ {R:Type} (kn:AS->Option R) (kx:Exit->AS->Option R),UP (l,(l.length:Int),(k:Int)) kn kx=aG ((λp=> !V3 p) l[k]) (kx (s8 (k:Int)).1 (s8 (k:Int)).2) (kn (s9 (l,(l.length:Int),((k+1:Nat):Int)))):=by intro R kn kx;rw[PD,aZ ao,aV ao ao,aa,n1,azB (d:=l[k]) hx,N.qt ao];rfl
  cases hp:(λp=> !V3 p) l[k]
  ·left;refine⟨(l,l.length,((k+1:Nat):Int)),⟨hl,hb,rfl,k+1,ao,rfl⟩,by simp only[aa];omega,?_,λkn kx=> ?_⟩
   ·simp only[nG,uL,aa,hd,hp,bJ,bz]
   ·rw[step,hp,al]
  ·right;refine⟨s8 (k:Int),?_,λkn kx=> ?_⟩
   ·simp only[nG,uL,aa,hd,hp,bG];rfl
   ·rw[step,hp,aj]
 ·right;obtain rfl:k=l.length:=ao;refine⟨CJ (),?_,λkn kx=> ?_⟩
  ·simp only[nG,uL,aa,bj];rfl
  ·rw[PD,aQ ao,al]
theorem aGP:atr.Ok:=by rintro l ⟨hl,hb⟩;rw[aGO,alS (d:=(l,l.length,0)) ⟨hl,hb,rfl,0,ao,rfl⟩];simp only[ah,nG,uL,bg,aL,bk,azH,Vt];cases zR (λp=> !V3 p) l 0 <;> rfl
theorem aDw:atr.RS:=rE [.d tU] atr
def aGQ:=atr.dZ aGP 1 ⟨.fH asV,trivial⟩
def aDt:Bs->Prop:=λl=>(∀x∈l,eG x)/\l.length<=1000000000
def aEz:Bs->Bool:=λl=>l.any (λp=> !V3 p)
def aGK:Fs Tryz.prog aDt bk aEz:=dV 131 Tryz.f131 (λsv=>([.d tU sv,.fn 187 (.nil)],[])) (λx=>⟨.d .bool x,[],[]⟩) [av tU,aF] [aGQ]
theorem aGL(sv)(k:K1 R):aGK.A sv k=ak (atr.call sv) λx1=>k (aGK.out (qS x1 0)):=cq
theorem aGM:aGK.Ok:=by rintro l ⟨hl,hb⟩;rw[aGL,aDw (d:=l) ⟨hl,hb⟩];simp only[ah,bk,azH,Kh];rfl
theorem aDu:aGK.RS:=rE [.d tU] aGK
def aGN:=aGK.dZ aGM
def abH:atu->Prop:=λb=>aEH b
def UK:atu->Bool:=λ_=>aS
def yo:Fs Tryz.prog abH bk UK:=dV 163 Tryz.f163 (λb=>([.d rQ b],[])) (λx=>⟨.d .bool x,[],[]⟩) [av rQ] [aGN]
theorem agL(b)(k:K1 R):yo.A b k=ak (aGK.call [b.1,b.2.1,b.2.2.1,b.2.2.2.1,b.2.2.2.2.1]) λx1=>k (yo.out (!x1)):=cq
theorem agM:yo.Ok:=by
 intro b hb;rw[agL,aDu (d:=[b.1,b.2.1,b.2.2.1,b.2.2.2.1,b.2.2.2.2.1]) ⟨λx hx=> ?_,by show 5<=_;decide⟩]
 ·simp only[ah,bk,aEz,mm,List.any_nil,hb.1.2,hb.2.1.2,hb.2.2.1.2,hb.2.2.2.1.2,hb.2.2.2.2.2];rfl
 ·simp only[bI,List.mem_nil_iff,or_false]at hx;rcases hx with rfl | rfl | rfl | rfl | rfl
  ·exact hb.1.1
  ·exact hb.2.1.1
  ·exact hb.2.2.1.1
  ·exact hb.2.2.2.1.1
  ·exact hb.2.2.2.2.1
theorem abI:yo.RS:=rE [.d rQ] yo
def agN:=yo.dZ agM
abbrev ym:=fu×(List az6)×Int
def qp:ym->AS:=λ(fS,t34,t35)=>⟨([bX,.dN lg fS]++aW 32 ([.d (.arr 2 oO) t34,.d ti t35]++aW 35 [])),[],(ai 71 [])⟩
def rT:Unit->Exit×AS:=λx=>(.ret,⟨([bX,bX,.d ti (1:Int)]++aW 68 []),[],(ai 71 [])⟩)
def wO:fu->Exit×AS:=λx=>(.exit 0,⟨([bX,.dN lg x]++aW 69 []),[],(ai 71 [])⟩)
abbrev IY:=(Unit)⊕(fu)
abbrev UJ:=(Unit)⊕(Unit)
def CE:IY->Out (Exit×AS):=λx=> .br x.isLeft (.get x.getLeft? λa=> .ok (rT a)) (.get x.getRight? λb=> .ok (wO b))
def rS:ym->UJ->IY:=λ(fS,t34,t35) y=>match y with | .inl y=> .inl y | .inr z=> .inr (fS)
def wN:ym->Prop:=λ(ch,l,i)=>l9 ch/\l=[te 5,te 6]/\∃k:Nat,k<=2/\i=k
def yn:ym->UJ:=λ_=> .inr ()
def asO:fu->Prop:=λch=>l9 ch
def aob:fu->Int:=λ_=>0
def UH:=eb.fH qp wN rS yn CE
def Hw:ym->Option IY:=kD UH qp
def rR:Fs Tryz.prog asO bk aob:=dV 117 Tryz.f117 (λch=>([.d lg ch],[])) (λx=>⟨.d ti x,[],[]⟩) [av lg] [alN,agN,anF] {loops:=mM [(4,{aX:=[1,34,35]})],outs:=mL [(4,{aX:=[1]},{aX:=[2]})],fo:=oR [(4,UH)]}
def UI:= @gk Tryz.prog (oP rR.G) rR.an 0 Tryz.f117 0 _ qp
abbrev PA:=qq Tryz.prog (oP rR.G) rR.an 0 Tryz.f117 0 qp wN rS yn CE
theorem abG:mR Hw wN rS yn:=sV (sJ [.d lg,.d (.slice oO),.d ti] λ_=>cq)
theorem LW:uR @UI qp wN rS yn CE PA:=vA
theorem Hx(fS t34 t35)(kn:K2 R)(kx:K3 R):UI (fS,t34,t35) kn kx=aG (fG t35 (2:Int)) (aG (dr t35 (2:Int)) (ak (pA.call (nth oO t34 (ab t35))) λx1=>aG (!x1) (kx (rT ()).1 (rT ()).2) (aG (dr t35 (2:Int)) (ak (yo.call (nth rQ fS.2.2.1 (ab t35))) λx2=>aG (!x2) (kx (rT ()).1 (rT ()).2) (kn (qp (fS,t34,(bl .i64 t35 (1:Int)))))) aF)) aF) (kx (wO fS).1 (wO fS).2):=cq
theorem azw(ch)(k:K1 R):rR.A ch k=aG (fG ch.2.1 1) (k (rR.out 1)) (aG (vh ch.2.1 1125899906842624) (k (rR.out 1)) (aG (fG ch.1.2.1 0) (k (rR.out 1)) (aG (qS ch.1.2.1 64) (k (rR.out 1)) (aG (yV (cn .andNot .i64 ch.2.2.2.2.1 1) 0) (k (rR.out 1)) (ak (Hw (ch,ch.2.2.2.1,0)) λx3=>aG x3.isLeft (ak x3.getLeft? λa4=>k (rR.out 1)) (ak x3.getRight? λb5=>ak (Tb.call ((nth oO b5.2.2.2.1 0).2.1,(nth oO b5.2.2.2.1 1).2.1)) λx6=>aG (!x6.2) (k (rR.out 10)) (aG (vh x6.1 b5.2.1) (k (rR.out 10)) (k (rR.out 0))))))))):=cq
theorem agK:PA:=by
 refine LW (λ(_,_,i)=>(2 - i).toNat) ?_
 rintro⟨ch,l,i⟩ ⟨⟨a,b0,b1,o,rfl,ha,aHX,g0,g1,ho⟩,rfl,k,hk,rfl⟩;have hk:k<=2:=hk;have hg:l9 (Gw a b0 b1 o):=⟨a,b0,b1,o,rfl,ha,aHX,g0,g1,ho⟩;by_cases h:k < 2
 ·left;refine⟨(Gw a b0 b1 o,[te 5,te 6],((k+1:Nat):Int)),⟨hg,rfl,k+1,ao,rfl⟩,by show(2 - ((k+1:Nat):Int)).toNat < (2 - (k:Int)).toNat;omega,rfl,λkn kx=> ?_⟩;have ht:nth oO [te 5,te 6] k=te 5\/nth oO [te 5,te 6] k=te 6:=by
   obtain rfl | rfl:k=0\/k=1:=ao
   ·exact .inl rfl
   ·exact .inr rfl
  have hb:aEH (nth rQ [b0,b1] k):=by
   obtain rfl | rfl:k=0\/k=1:=ao
   ·exact g0
   ·exact g1
  rw[Hx,aZ ao,aj,aV ao ao,aj,aa];rw[agQ (d:=nth oO [te 5,te 6] k) ht];simp only[ah,bk,YL,bm,al,aj];simp only[Gw];rw[abI (d:=nth rQ [b0,b1] k) hb];simp only[ah,bk,UK,bm,al];rw[N.qt ao]
 ·right;obtain rfl:k=2:=ao;refine⟨wO (Gw a b0 b1 o),rfl,λkn kx=> ?_⟩;rw[Hx,aQ ao,al]
theorem aAo{o:Int}(h:o=0\/o=1):yV (cn .andNot .i64 o 1) 0=bq:=by
 rcases h with rfl | rfl
 ·decide
 ·decide
theorem azx:rR.Ok:=by rintro ch hg;obtain⟨a,b0,b1,o,rfl,ha,aHX,g0,g1,ho⟩:=id hg;have hl:=abG (d:=(Gw a b0 b1 o,[te 5,te 6],0)) ⟨hg,rfl,0,ao,rfl⟩;rw[azw];simp only[Gw]at hl;simp only[Gw,ah];rw[aQ ao,al,cJ ao,al,aQ ao,al,eL ao,al,aAo ho,al,hl];simp only[ah,rS,yn,fk,al,ej];rw[ae1 (d:=((nth oO [te 5,te 6] 0).2.1,(nth oO [te 5,te 6] 1).2.1)) trivial];simp only[ah,bk,aaQ];rw[show(bif As (nth oO [te 5,te 6] 0).2.1 (nth oO [te 5,te 6] 1).2.1 then(nth oO [te 5,te 6] 0).2.1+(nth oO [te 5,te 6] 1).2.1 else 0)=400 from rfl,show As (nth oO [te 5,te 6] 0).2.1 (nth oO [te 5,te 6] 1).2.1=aS from rfl,bm,al,cJ ao,al];rfl
theorem asP:rR.RS:=rE [.d lg] rR
def azy:=rR.dZ azx 1 ⟨.fH agK,trivial⟩
def ais:fM->Prop:=λc=>eG c.2.2.2.1
def JZ:fM->Bool:=λc=>ab7 c
def sH:Fs Tryz.prog ais bk JZ:=dV 54 Tryz.f54 (λc=>([.d gD c],[])) (λx=>⟨.d .bool x,[],[]⟩) [av gD] [II,anb]
theorem apI(c)(k:K1 R):sH.A c k=ak (rp.call c.2.2.2.1) λx1=>aG (x1) (aG (yV c.2.2.2.1 1) (ak (Gv.call (c.1,0,1)) λx2=>aG (x2) (ak (Gv.call (c.2.1,1,1048576)) λx3=>aG (x3) (ak (Gv.call (c.2.2.1,1,1125899906842624)) λx4=>aG (x4) (ak (Gv.call (c.2.2.2.2.1,1,1048576)) λx5=>k (sH.out x5)) (k (sH.out bq))) (k (sH.out bq))) (k (sH.out bq))) (k (sH.out bq))) (k (sH.out bq)):=cq
theorem apJ:sH.Ok:=by intro c hc;rw[apI,EK (d:=c.2.2.2.1) hc];simp only[ah,av9,bk,AY,bk,JZ,ab7,V3];cases oQ c.2.2.2.1 <;> cases yV c.2.2.2.1 1 <;> cases sr c.1 0 1 <;> cases sr c.2.1 1 1048576 <;> cases sr c.2.2.1 1 1125899906842624 <;> rfl
theorem RR:sH.RS:=rE [.d gD] sH
def Xw:=sH.dZ apJ
def ack:(fM×fM)->Prop:=λ_=>True
def WT:(fM×fM)->Bool:=λ(a,b)=>L9 a b
def qB:Fs Tryz.prog ack bk WT:=dV 55 Tryz.f55 (λ(a,b)=>([.d gD a,.d gD b],[])) (λx=>⟨.d .bool x,[],[]⟩) [av gD,av gD]
theorem ahz(a b)(k:K1 R):qB.A (a,b) k=aG (fG a.1 b.1) (k (qB.out aS)) (aG (kK a.1 b.1) (k (qB.out (fG a.2.1 b.2.1))) (k (qB.out bq))):=cq
theorem ahA:qB.Ok:=by
 rintro⟨a,b⟩ _;rw[ahz];simp only[bk,WT,L9];by_cases h:a.1 < b.1
 ·rw[aZ h,aj,aJ (.inl h)]
 ·rw[aQ h,al];by_cases h2:a.1=b.1
  ·rw[dU h2,aj];by_cases h3:a.2.1 < b.2.1
   ·rw[aZ h3,aJ (.inr ⟨h2,h3⟩)]
   ·rw[aQ h3,bP (by rintro(x | x);exact h x;exact h3 x.2)]
  ·rw[dF h2,al,bP (by rintro(x | x);exact h x;exact h2 x.1)]
theorem acm:qB.RS:=rE [.d gD,.d gD] qB
def QQ:=qB.dZ ahA
theorem Mf(a b:fM):qB.call (a,b)=av (L9 a b):=acm (d:=(a,b)) trivial
def aia:(fu×fZ)->Prop:=λ_=>True
def Ro:(fu×fZ)->Int:=λ(_,s)=>On s.2.2.2.1 s.2.2.1.length+660
def DT:Fs Tryz.prog aia bk Ro:=dV 58 Tryz.f58 (λ(ch,sv)=>([.d lg ch,.d kE sv],[])) (λx=>⟨.d ti x,[],[]⟩) [av lg,av kE] [avg]
theorem apf(ch sv)(k:K1 R):DT.A (ch,sv) k=ak (Oo.call (sv.2.2.2.1,(sv.2.2.1.length:Int))) λx1=>k (DT.out (bl .i64 x1 660)):=cq
theorem apg:DT.Ok:=by rintro⟨ch,s⟩ _;rw[apf,apG (d:=(s.2.2.2.1,(s.2.2.1.length:Int))) trivial];simp only[ah,bk,ZJ,bk,Ro];have:=DY s.2.2.2.1 s.2.2.1.length;rw[cQ ao ao]
theorem Rp:DT.RS:=rE [.d lg,.d kE] DT
def Xg:=DT.dZ apg
def ak5:(fu×fZ)->Prop:=λ_=>True
def af7:(fu×fZ)->Int:=λ(_,s)=>On s.2.2.2.1 s.2.2.1.length+660
def IP:Fs Tryz.prog ak5 bk af7:=dV 123 Tryz.f123 (λ(ch,sv)=>([.d lg ch,.d kE sv],[])) (λx=>⟨.d ti x,[],[]⟩) [av lg,av kE] [agJ]
theorem aso(ch sv)(k:K1 R):IP.A (ch,sv) k=ak (Hv.call (sv.2.2.2.1,(sv.2.2.1.length:Int))) λx1=>k (IP.out (bl .i64 x1 660)):=cq
theorem asp:IP.Ok:=by rintro⟨ch,s⟩ _;rw[aso,YK (d:=(s.2.2.2.1,(s.2.2.1.length:Int))) trivial];simp only[ah,bk,QH,bk,af7];have:=DY s.2.2.2.1 s.2.2.1.length;rw[cQ ao ao]
theorem ak6:IP.RS:=rE [.d lg,.d kE] IP
def asq:=IP.dZ asp
theorem Qz{to:Int}(h:to=0\/to=1):bA .i64 1 to=1 - to:=dL ao ao
abbrev Ti:=Int×fZ×Int×Int×Int
def aaW:Ti->Prop:=λ(to,sv,n,sum,i)=>(to=0\/to=1)/\(∀c∈sv.2.2.1,ab6 c)/\sv.2.2.1.length<=1000/\∃k:Nat,k<=sv.2.2.1.length/\i=k/\(0<=n/\n<=k)/\0<=sum/\sum<=1125899906842624*k
def xN:Ti->(Int×Int):=λ(to,sv,n,sum,i)=>(n+(j6 to (sv.2.2.1.drop i.toNat)).length,sum+fx (j6 to (sv.2.2.1.drop i.toNat)))
def ard:(fZ×Int)->Prop:=λ(s,to)=>(to=0\/to=1)/\(∀c∈s.2.2.1,ab6 c)/\s.2.2.1.length<=1000
def KN:(fZ×Int)->(Int×Int):=λ(s,to)=>(((j6 to s.2.2.1).length:Nat),fx (j6 to s.2.2.1))
def o8:Ls aaW bk xN:=oa (λ(so,cU,n,sum,i)=>⟨([bX,.d ti so,.dN kE cU,bX,bX,bX,.d ti n,.d ti sum,.d ti i]++aW 28 []),[],(ai 37 [])⟩) (λx=>(.exit 0,⟨(aW 6 ([.d ti x.1,.d ti x.2]++aW 29 [])),[],(ai 37 [])⟩))
def C5:Fs Tryz.prog ard bk KN:=dV 56 Tryz.f56 (λ(sv,to)=>([.d kE sv,.d ti to],[])) (λx=>⟨.cons (.d ti x.1) (.cons (.d ti x.2) (.nil)),[],[]⟩) [av kE,av ti] [] {loops:=mM [(4,{aX:=[1,2,6,7,8]})],outs:=mL [(4,{aX:=[6,7]},{aX:=[4,5]})],fo:=oR [(4,o8.E)]}
theorem aaX:o8.RS:=rL [.d ti,.d kE,.d ti,.d ti,.d ti] o8
theorem zZ(so cU n sum i)(kn:K2 R)(kx:K3 R):C5.R 0 o8 (so,cU,n,sum,i) kn kx=aG (fG i (cU.2.2.1.length:Int)) (aG (dr i (cU.2.2.1.length:Int)) (aG (kK (nth gD cU.2.2.1 (ab i)).1 (bA .i64 1 so)) (aG (dr i (cU.2.2.1.length:Int)) (kn (o8.st (so,cU,(bl .i64 n 1),(bl .i64 sum (nth gD cU.2.2.1 (ab i)).2.2.1),(bl .i64 i 1)))) aF) (kn (o8.st (so,cU,n,sum,(bl .i64 i 1))))) aF) (o8.go kx (n,sum)):=cq
theorem axD(sv to)(k:K1 R):C5.A (sv,to) k=ak (o8.call (to,sv,0,0,0)) λx1=>k (C5.out (x1.1,x1.2)):=cq
theorem afa:(C5.jx 0 o8):=by
 refine(C5.ky 0 o8) (λ(to,sv,n,sum,i)=>sv.2.2.1.length - i.toNat) ?_
 rintro⟨to,sv,n,sum,i⟩ ⟨yE,hc,hl,k,hk,rfl,hn,ath,A7⟩;have hk:k<=sv.2.2.1.length:=hk;have hl:sv.2.2.1.length<=1000:=hl;have yE:to=0\/to=1:=yE;have hn:0<=n/\n<=k:=hn;have ath:0<=sum:=ath;have A7:sum<=1125899906842624*k:=A7;by_cases h:k < sv.2.2.1.length
 ·left;have hx:0<=sv.2.2.1[k].2.2.1/\sv.2.2.1[k].2.2.1<=1125899906842624:=hc _ (List.getElem_mem h);have n1:nth gD sv.2.2.1 k=sv.2.2.1[k]:=cK (t:=gD) h;have hd:=Nf to sv.2.2.1[k] (sv.2.2.1.drop (k+1));rw[<-aD h]at hd;by_cases hq:sv.2.2.1[k].1=1 - to
  ·refine⟨(to,sv,n+1,sum+sv.2.2.1[k].2.2.1,((k+1:Nat):Int)),⟨yE,hc,hl,k+1,ao,rfl,ao,ao,ao⟩,by simp only[aa];omega,?_,λkn kx=> ?_⟩
   ·rw[dU hq,if_pos rfl]at hd;simp only[bk,xN,aa,hd,aI,fx];rw[show n+1+((j6 to (sv.2.2.1.drop (k+1))).length:Int)=n+(((j6 to (sv.2.2.1.drop (k+1))).length+1:Nat):Int) by omega,th]
   ·rw[zZ,aZ ao,aV ao ao,aa,n1,Qz yE,dU hq,N.qt ao,cQ ao ao,cQ ao ao];simp only[aj]
  ·refine⟨(to,sv,n,sum,((k+1:Nat):Int)),⟨yE,hc,hl,k+1,ao,rfl,ao,ao,ao⟩,by simp only[aa];omega,?_,λkn kx=> ?_⟩
   ·rw[dF hq,if_neg (by simp)]at hd;simp only[bk,xN,aa,hd]
   ·rw[zZ,aZ ao,aV ao ao,aa,n1,Qz yE,dF hq,N.qt ao];simp only[aj,al]
 ·right;obtain rfl:k=sv.2.2.1.length:=ao;intro R kn kx;rw[zZ,aQ ao,al];simp only[bk,xN,aa,bj,j6,List.filter_nil,aU,fx,lD];rw[show(n+((0:Nat):Int))=n by omega]
theorem axE:C5.Ok:=by rintro⟨s,to⟩ ⟨yE,hc,hl⟩;rw[axD,aaX (d:=(to,s,0,0,0)) ⟨yE,hc,hl,0,aO _,rfl,⟨fg,fg⟩,fg,fg⟩];simp only[ah,bk,xN,bg,aL,qw,bk,KN]
theorem Nd:C5.RS:=rE [.d kE,.d ti] C5
def afb:=C5.dZ axE 1 ⟨.fH afa,trivial⟩
abbrev T7:=Int×Int×Int×(List fM)×Int×Int
def abn:T7->Prop:=λ(to,n,sum,l,m,i)=>(to=0\/to=1)/\(∀c∈l,ab6 c)/\l.length<=1000/\m=l.length/\∃k:Nat,k<=l.length/\i=k/\(0<=n/\n<=k)/\0<=sum/\sum<=1125899906842624*k
def yc:T7->(Int×Int):=λ(to,n,sum,l,m,i)=>(n+(j6 to (l.drop i.toNat)).length,sum+fx (j6 to (l.drop i.toNat)))
def asu:(fZ×Int)->Prop:=λ(s,to)=>(to=0\/to=1)/\(∀c∈s.2.2.1,ab6 c)/\s.2.2.1.length<=1000
def QD:(fZ×Int)->(Int×Int):=λ(s,to)=>(((j6 to s.2.2.1).length:Nat),fx (j6 to s.2.2.1))
def pf:Ls abn bk yc:=oa (λ(so,n,sum,t11,t12,t13)=>⟨([bX,.d ti so]++aW 4 ([.d ti n,.d ti sum,bX,bX,bX,.d (.slice gD) t11,.d ti t12,.d ti t13]++aW 17 [])),[],(ai 31 [])⟩) (λx=>(.exit 0,⟨(aW 6 ([.d ti x.1,.d ti x.2]++aW 23 [])),[],(ai 31 [])⟩))
def Hs:Fs Tryz.prog asu bk QD:=dV 121 Tryz.f121 (λ(sv,to)=>([.d kE sv,.d ti to],[])) (λx=>⟨.cons (.d ti x.1) (.cons (.d ti x.2) (.nil)),[],[]⟩) [av kE,av ti] [] {loops:=mM [(3,{aX:=[1,6,7,11,12,13]})],outs:=mL [(3,{aX:=[6,7]},{aX:=[4,5]})],fo:=oR [(3,pf.E)]}
theorem abo:pf.RS:=rL [.d ti,.d ti,.d ti,.d (.slice gD),.d ti,.d ti] pf
theorem Ai(so n sum t11 t12 t13)(kn:K2 R)(kx:K3 R):Hs.R 0 pf (so,n,sum,t11,t12,t13) kn kx=aG (fG t13 t12) (aG (dr t13 (t11.length:Int)) (aG (kK (nth gD t11 (ab t13)).1 (bA .i64 1 so)) (kn (pf.st (so,(bl .i64 n 1),(bl .i64 sum (nth gD t11 (ab t13)).2.2.1),t11,t12,(bl .i64 t13 1)))) (kn (pf.st (so,n,sum,t11,t12,(bl .i64 t13 1))))) aF) (pf.go kx (n,sum)):=cq
theorem ayT(sv to)(k:K1 R):Hs.A (sv,to) k=ak (pf.call (to,0,0,sv.2.2.1,(sv.2.2.1.length:Int),0)) λx1=>k (Hs.out (x1.1,x1.2)):=cq
theorem af8:(Hs.jx 0 pf):=by
 refine(Hs.ky 0 pf) (λ(to,n,sum,l,m,i)=>l.length - i.toNat) ?_
 rintro⟨to,n,sum,l,m,i⟩ ⟨yE,hc,hl,rfl,k,hk,rfl,hn,ath,A7⟩;have hk:k<=l.length:=hk;have hl:l.length<=1000:=hl;have yE:to=0\/to=1:=yE;have hn:0<=n/\n<=k:=hn;have ath:0<=sum:=ath;have A7:sum<=1125899906842624*k:=A7;by_cases h:k < l.length
 ·left;have hx:0<=l[k].2.2.1/\l[k].2.2.1<=1125899906842624:=hc _ (List.getElem_mem h);have n1:nth gD l k=l[k]:=cK (t:=gD) h;have hd:=Nf to l[k] (l.drop (k+1));rw[<-aD h]at hd;by_cases hq:l[k].1=1 - to
  ·refine⟨(to,n+1,sum+l[k].2.2.1,l,(l.length:Int),((k+1:Nat):Int)),⟨yE,hc,hl,rfl,k+1,ao,rfl,ao,ao,ao⟩,by simp only[aa];omega,?_,λkn kx=> ?_⟩
   ·rw[dU hq,if_pos rfl]at hd;simp only[bk,yc,aa,hd,aI,fx];rw[show n+1+((j6 to (l.drop (k+1))).length:Int)=n+(((j6 to (l.drop (k+1))).length+1:Nat):Int) by omega,th]
   ·rw[Ai,aZ ao,aV ao ao,aa,n1,Qz yE,dU hq,N.qt ao,cQ ao ao,cQ ao ao];simp only[aj]
  ·refine⟨(to,n,sum,l,(l.length:Int),((k+1:Nat):Int)),⟨yE,hc,hl,rfl,k+1,ao,rfl,ao,ao,ao⟩,by simp only[aa];omega,?_,λkn kx=> ?_⟩
   ·rw[dF hq,if_neg (by simp)]at hd;simp only[bk,yc,aa,hd]
   ·rw[Ai,aZ ao,aV ao ao,aa,n1,Qz yE,dF hq,N.qt ao];simp only[aj,al]
 ·right;obtain rfl:k=l.length:=ao;intro R kn kx;rw[Ai,aQ ao,al];simp only[bk,yc,aa,bj,j6,List.filter_nil,aU,fx,lD];rw[show(n+((0:Nat):Int))=n by omega]
theorem ayU:Hs.Ok:=by rintro⟨s,to⟩ ⟨yE,hc,hl⟩;rw[ayT,abo (d:=(to,0,0,s.2.2.1,(s.2.2.1.length:Int),0)) ⟨yE,hc,hl,rfl,0,aO _,rfl,⟨fg,fg⟩,fg,fg⟩];simp only[ah,bk,yc,bg,aL,qw,bk,QD]
theorem Yy:Hs.RS:=rE [.d kE,.d ti] Hs
def ayV:=Hs.dZ ayU 1 ⟨.fH af8,trivial⟩
def abP:(fZ×Int×Int)->Prop:=λ(sv,sum,i)=>(∀c∈sv.2.2.1,ab6 c)/\sv.2.2.1.length<=1000/\∃k:Nat,k<=sv.2.2.1.length/\i=k/\0<=sum/\sum<=2251799813685248+1125899906842624*k
def CH:(fZ×Int×Int)->Int:=λ(sv,sum,i)=>sum+fx (sv.2.2.1.drop i.toNat)
def asT:fZ->Prop:=λs=>(∀c∈s.2.2.1,ab6 c)/\s.2.2.1.length<=1000/\Bd (nth ti s.2.1 0) 0 1125899906842624/\Bd (nth ti s.2.1 1) 0 1125899906842624
def abO:fZ->Int:=λs=>nth ti s.2.1 0+nth ti s.2.1 1+fx s.2.2.1
def rX:Ls abP bk CH:=oa (λ(cU,sum,i)=>⟨([bX,.dN kE cU,bX,.d ti sum,.d ti i]++aW 23 []),[],(ai 28 [])⟩) (λx=>(.exit 0,⟨([bX,bX,bX,.d ti x]++aW 24 []),[],(ai 28 [])⟩))
def Hz:Fs Tryz.prog asT bk abO:=dV 57 Tryz.f57 (λsv=>([.d kE sv],[])) (λx=>⟨.d ti x,[],[]⟩) [av kE] [] {loops:=mM [(3,{aX:=[1,3,4]})],outs:=mL [(3,{aX:=[3]},{aX:=[2]})],fo:=oR [(3,rX.E)]}
theorem abQ:rX.RS:=rL [.d kE,.d ti,.d ti] rX
theorem HA(cU sum i)(kn:K2 R)(kx:K3 R):Hz.R 0 rX (cU,sum,i) kn kx=aG (fG i (cU.2.2.1.length:Int)) (aG (dr i (cU.2.2.1.length:Int)) (kn (rX.st (cU,(bl .i64 sum (nth gD cU.2.2.1 (ab i)).2.2.1),(bl .i64 i 1)))) aF) (rX.go kx sum):=cq
theorem azE(sv)(k:K1 R):Hz.A sv k=ak (rX.call (sv,(bl .i64 (nth ti sv.2.1 0) (nth ti sv.2.1 1)),0)) λx1=>k (Hz.out x1):=cq
theorem ag2:(Hz.jx 0 rX):=by
 refine(Hz.ky 0 rX) (λ(sv,sum,i)=>sv.2.2.1.length - i.toNat) ?_
 rintro⟨sv,sum,i⟩ ⟨hc,hl,k,hk,rfl,ath,A7⟩;have hk:k<=sv.2.2.1.length:=hk;have hl:sv.2.2.1.length<=1000:=hl;have ath:0<=sum:=ath;have A7:sum<=2251799813685248+1125899906842624*k:=A7;by_cases h:k < sv.2.2.1.length
 ·left;have hx:0<=sv.2.2.1[k].2.2.1/\sv.2.2.1[k].2.2.1<=1125899906842624:=hc _ (List.getElem_mem h);have n1:nth gD sv.2.2.1 k=sv.2.2.1[k]:=cK (t:=gD) h;refine⟨(sv,sum+sv.2.2.1[k].2.2.1,((k+1:Nat):Int)),⟨hc,hl,k+1,ao,rfl,ao,ao⟩,by simp only[aa];omega,?_,λkn kx=> ?_⟩
  ·simp only[bk,CH,aa];rw[aD h,fx,th]
  ·rw[HA,aZ ao,aV ao ao,aa,n1,N.qt ao,cQ ao ao];simp only[aj]
 ·right;obtain rfl:k=sv.2.2.1.length:=ao;intro R kn kx;rw[HA,aQ ao,al];simp only[bk,CH,aa,bj,fx,lD]
theorem azF:Hz.Ok:=by rintro s ⟨hc,hl,h0,h1⟩;have aMk:=h0.1;have aMl:=h0.2;have aFh:=h1.1;have aHU:=h1.2;rw[azE,cQ ao ao,abQ (d:=(s,nth ti s.2.1 0+nth ti s.2.1 1,0)) ⟨hc,hl,0,aO _,rfl,ao,ao⟩];simp only[ah,bk,CH,bg,aL,bk,abO]
theorem asU:Hz.RS:=rE [.d kE] Hz
def azG:=Hz.dZ azF 1 ⟨.fH ag2,trivial⟩
abbrev LF:=Int×(List fM)×Int×Int
def Ua:LF->Prop:=λ(sum,l,m,i)=>(∀c∈l,ab6 c)/\l.length<=1000/\m=l.length/\∃k:Nat,k<=l.length/\i=k/\0<=sum/\sum<=2251799813685248+1125899906842624*k
def wK:LF->Int:=λ(sum,l,m,i)=>sum+fx (l.drop i.toNat)
def agb:fZ->Prop:=λs=>(∀c∈s.2.2.1,ab6 c)/\s.2.2.1.length<=1000/\Bd (nth ti s.2.1 0) 0 1125899906842624/\Bd (nth ti s.2.1 1) 0 1125899906842624
def NJ:fZ->Int:=λs=>nth ti s.2.1 0+nth ti s.2.1 1+fx s.2.2.1
def lX:Ls Ua bk wK:=oa (λ(sum,t14,t15,t16)=>⟨([bX,bX,bX,.d ti sum]++aW 10 ([.d (.slice gD) t14,.d ti t15,.d ti t16]++aW 9 [])),[],(ai 26 [])⟩) (λx=>(.exit 0,⟨([bX,bX,bX,.d ti x]++aW 22 []),[],(ai 26 [])⟩))
def tJ:Fs Tryz.prog agb bk NJ:=dV 122 Tryz.f122 (λsv=>([.d kE sv],[])) (λx=>⟨.d ti x,[],[]⟩) [av kE] [] {loops:=mM [(3,{aX:=[3,14,15,16]})],outs:=mL [(3,{aX:=[3]},{aX:=[2]})],fo:=oR [(3,lX.E)]}
theorem Ub:lX.RS:=rL [.d ti,.d (.slice gD),.d ti,.d ti] lX
theorem Dn(sum t14 t15 t16)(kn:K2 R)(kx:K3 R):tJ.R 0 lX (sum,t14,t15,t16) kn kx=aG (fG t16 t15) (aG (dr t16 (t14.length:Int)) (kn (lX.st ((bl .i64 sum (nth gD t14 (ab t16)).2.2.1),t14,t15,(bl .i64 t16 1)))) aF) (lX.go kx sum):=cq
theorem alc(sv)(k:K1 R):tJ.A sv k=ak (lX.call ((bl .i64 (nth ti sv.2.1 0) (nth ti sv.2.1 1)),sv.2.2.1,(sv.2.2.1.length:Int),0)) λx1=>k (tJ.out x1):=cq
theorem Wq:(tJ.jx 0 lX):=by
 refine(tJ.ky 0 lX) (λ(sum,l,m,i)=>l.length - i.toNat) ?_
 rintro⟨sum,l,m,i⟩ ⟨hc,hl,rfl,k,hk,rfl,ath,A7⟩;have hk:k<=l.length:=hk;have hl:l.length<=1000:=hl;have ath:0<=sum:=ath;have A7:sum<=2251799813685248+1125899906842624*k:=A7;by_cases h:k < l.length
 ·left;have hx:0<=l[k].2.2.1/\l[k].2.2.1<=1125899906842624:=hc _ (List.getElem_mem h);have n1:nth gD l k=l[k]:=cK (t:=gD) h;refine⟨(sum+l[k].2.2.1,l,(l.length:Int),((k+1:Nat):Int)),⟨hc,hl,rfl,k+1,ao,rfl,ao,ao⟩,by simp only[aa];omega,?_,λkn kx=> ?_⟩
  ·simp only[bk,wK,aa];rw[aD h,fx,th]
  ·rw[Dn,aZ ao,aV ao ao,aa,n1,N.qt ao,cQ ao ao];simp only[aj]
 ·right;obtain rfl:k=l.length:=ao;intro R kn kx;rw[Dn,aQ ao,al];simp only[bk,wK,aa,bj,fx,lD]
theorem ald:tJ.Ok:=by rintro s ⟨hc,hl,h0,h1⟩;have aMk:=h0.1;have aMl:=h0.2;have aFh:=h1.1;have aHU:=h1.2;rw[alc,cQ ao ao,Ub (d:=(nth ti s.2.1 0+nth ti s.2.1 1,s.2.2.1,(s.2.2.1.length:Int),0)) ⟨hc,hl,rfl,0,aO _,rfl,ao,ao⟩];simp only[ah,bk,wK,bg,aL,bk,NJ]
theorem agc:tJ.RS:=rE [.d kE] tJ
def ale:=tJ.dZ ald 1 ⟨.fH Wq,trivial⟩
abbrev ali:=Int×Int×Int
def agk:ali->Bool->((Int×Int)×(Bool)):=λ(n,o0,o1) y=>((o0,o1),y)
def ayX:ali->Prop:=λ_=>True
def ayW:ali->Bool:=λ(n,lo,hi)=> !sr n lo hi
def abr:Fs Tryz.prog ayX agk ayW:=dV 165 Tryz.f165 (λ(n,o0,o1)=>([.d ti n,.ptr (.cl 0) 0 [] 0,.ptr (.cl 1) 0 [] 0],[.obj 0 bq (.d ti o0),.obj 0 bq (.d ti o1)])) (λx=>⟨.d .bool x.2,[.obj 0 bq (.d ti x.1.1),.obj 0 bq (.d ti x.1.2)],[]⟩) [av ti,aF,aF]
theorem aC6(n o0 o1)(k:K1 R):abr.A (n,o0,o1) k=aG (fG n o0) (k (abr.out ((o0,o1),aS))) (k (abr.out ((o0,o1),(vh n o1)))):=cq
theorem aC7:abr.Ok:=by
 rintro⟨n,lo,hi⟩ _;rw[aC6];simp only[agk,ayW];by_cases h:n < lo
 ·rw[aZ h,aj,pn ao];rfl
 ·rw[aQ h,al];by_cases h2:n > hi
  ·rw[dw h2,pn ao];rfl
  ·rw[cJ h2,iE ao ao];rfl
theorem ayY:abr.RS:=rE [.d ti,.d ti,.d ti] abr
def aC8:=abr.dZ aC7
abbrev AF:=(List Int)×Int×Int×Int×Int
def pP:AF->AS:=λ(cU,t7,t8,gz,oc)=>⟨([.d (.slice ti) cU,.fn 165 (.cons (.ptr (.cl 0) 0 [] 0) (.cons (.ptr (.cl 1) 0 [] 0) (.nil)))]++aW 5 ([.d ti t7,.d ti t8]++aW 10 [])),[ub (.d ti gz),ub (.d ti oc)],(ai 19 [])⟩
def qf:(Int×Int×Int)->Exit×AS:=λ(a,b,c)=>(.ret,⟨(aW 4 ([.d ti a]++aW 14 [])),[ub (.d ti b),ub (.d ti c)],(ai 19 [])⟩)
def yU:(Int×Int)->Exit×AS:=λx=>(.exit 0,⟨(aW 19 []),[ub (.d ti x.1),ub (.d ti x.2)],(ai 19 [])⟩)
abbrev MI:=((Int×Int×Int))⊕((Int×Int))
abbrev XM:=((Int×Int×Int))⊕((Int×Int))
def D9:MI->Out (Exit×AS):=λx=> .br x.isLeft (.get x.getLeft? λa=> .ok (qf a)) (.get x.getRight? λb=> .ok (yU b))
def lp:AF->XM->MI:=λ(cU,t7,t8,gz,oc) y=>match y with | .inl y=> .inl y | .inr z=> .inr (z)
abbrev av1:=(List Int)×Int×Int
def yT:AF->Prop:=λ(l,n,i,lo,hi)=>l.length<=1000000000/\n=l.length/\∃k:Nat,k<=l.length/\i=k
def qe:AF->XM:=λ(l,n,i,lo,hi)=>match zR (λx=> !sr x lo hi) (l.drop i.toNat) i with | .inl j=> .inl (j,lo,hi) | .inr _=> .inr (lo,hi)
def av2:av1->Prop:=λ(l,_,_)=>l.length<=1000000000
def aiQ:av1->(Int×Int×Int):=λ(l,lo,hi)=>(Vt (λx=> !sr x lo hi) l,lo,hi)
def XL:=eb.fH pP yT lp qe D9
def Ki:AF->Option MI:=kD XL pP
def PX:Fs Tryz.prog av2 bk aiQ:=dV 188 Tryz.f188 (λ(sv,o0,o1)=>([.d (.slice ti) sv,.fn 165 (.cons (.ptr (.cl 0) 0 [] 0) (.cons (.ptr (.cl 1) 0 [] 0) (.nil)))],[.obj 0 bq (.d ti o0),.obj 0 bq (.d ti o1)])) (λx=>⟨.d ti x.1,[.obj 0 bq (.d ti x.2.1),.obj 0 bq (.d ti x.2.2)],[]⟩) [av (.slice ti),aF] [aC8] {loops:=mM [(2,{aX:=[0,1,7,8]})],outs:=mL [(2,{},{aX:=[4]})],fo:=oR [(2,XL)]}
def MH:= @gk Tryz.prog (oP PX.G) PX.an 0 Tryz.f188 0 _ pP
abbrev Si:=qq Tryz.prog (oP PX.G) PX.an 0 Tryz.f188 0 pP yT lp qe D9
theorem adZ:mR Ki yT lp qe:=sV (sJ [.d (.slice ti),.d ti,.d ti,.d ti,.d ti] λ_=>cq)
theorem MJ:uR @MH pP yT lp qe D9 Si:=vA
theorem Kj(cU t7 t8 gz oc)(kn:K2 R)(kx:K3 R):MH (cU,t7,t8,gz,oc) kn kx=aG (fG t8 t7) (aG (dr t8 (((ae cU):Nat):Int)) (ak (abr.call ((nth ti cU (ab t8)),gz,oc)) λx1=>aG (x1.2) (kx (qf (t8,x1.1.1,x1.1.2)).1 (qf (t8,x1.1.1,x1.1.2)).2) (kn (pP (cU,t7,(bl .i64 t8 (1:Int)),x1.1.1,x1.1.2)))) aF) (kx (yU (gz,oc)).1 (yU (gz,oc)).2):=cq
theorem aBF(sv o0 o1)(k:K1 R):PX.A (sv,o0,o1) k=ak (Ki (sv,(sv.length:Int),0,o0,o1)) λx2=>aG x2.isLeft (ak x2.getLeft? λa3=>k (PX.out (a3.1,a3.2.1,a3.2.2))) (ak x2.getRight? λb4=>k (PX.out ((-1),b4.1,b4.2))):=cq
theorem aGw(n lo hi:Int):abr.call (n,lo,hi)=av ((lo,hi),!sr n lo hi):=ayY (d:=(n,lo,hi)) trivial
theorem aiR:Si:=by
 refine MJ (λ(l,n,i,lo,hi)=>l.length - i.toNat) ?_
 rintro⟨l,n,i,lo,hi⟩ ⟨hl,rfl,k,hk,rfl⟩;have hl:l.length<=1000000000:=hl;have hk:k<=l.length:=hk;by_cases h:k < l.length
 ·have n1:nth ti l k=l[k]:=cK (t:=ti) h;have hd:zR (λx=> !sr x lo hi) (l.drop k) k=if(!sr l[k] lo hi)=aS then .inl (k:Int) else zR (λx=> !sr x lo hi) (l.drop (k+1)) ((k+1:Nat):Int):=by rw[aD h];rfl
  have step:∀ {R:Type} (kn:AS->Option R) (kx:Exit->AS->Option R),MH (l,(l.length:Int),(k:Int),lo,hi) kn kx=aG (!sr l[k] lo hi) (kx (qf ((k:Int),lo,hi)).1 (qf ((k:Int),lo,hi)).2) (kn (pP (l,(l.length:Int),((k+1:Nat):Int),lo,hi))):=by intro R kn kx;rw[Kj,aZ ao,aV ao ao,aa,n1,aGw,N.qt ao];rfl
  cases hp:sr l[k] lo hi
  ·right;refine⟨qf ((k:Int),lo,hi),?_,λkn kx=> ?_⟩
   ·simp only[lp,qe,aa,hd,hp,dy,bG];rfl
   ·rw[step,hp,dy,aj]
  ·left;refine⟨(l,l.length,((k+1:Nat):Int),lo,hi),⟨hl,rfl,k+1,ao,rfl⟩,by simp only[aa];omega,?_,λkn kx=> ?_⟩
   ·simp only[lp,qe,aa,hd,hp,bm,bJ,bz]
   ·rw[step,hp,bm,al]
 ·right;obtain rfl:k=l.length:=ao;refine⟨yU (lo,hi),?_,λkn kx=> ?_⟩
  ·simp only[lp,qe,aa,bj];rfl
  ·rw[Kj,aQ ao,al]
theorem aBG:PX.Ok:=by rintro⟨l,lo,hi⟩ hl;rw[aBF,adZ (d:=(l,l.length,0,lo,hi)) ⟨hl,rfl,0,aO _,rfl⟩];simp only[ah,lp,qe,bg,aL,bk,aiQ,Vt];cases zR (λx=> !sr x lo hi) l 0 <;> rfl
theorem av3:PX.RS:=rE [.d (.slice ti),.d ti,.d ti] PX
def aBH:=PX.dZ aBG 1 ⟨.fH aiR,trivial⟩
abbrev avY:=(List Int)×Int×Int
def avZ:avY->Prop:=λ(l,_,_)=>l.length<=1000000000
def aiN:avY->(Bool×Int×Int):=λ(l,lo,hi)=>(l.any λx=> !sr x lo hi,lo,hi)
def aiM:Fs Tryz.prog avZ bk aiN:=dV 164 Tryz.f164 (λ(sv,o0,o1)=>([.d (.slice ti) sv,.fn 165 (.cons (.ptr (.cl 0) 0 [] 0) (.cons (.ptr (.cl 1) 0 [] 0) (.nil)))],[.obj 0 bq (.d ti o0),.obj 0 bq (.d ti o1)])) (λx=>⟨.d .bool x.1,[.obj 0 bq (.d ti x.2.1),.obj 0 bq (.d ti x.2.2)],[]⟩) [av (.slice ti),aF] [aBH]
theorem aBB(sv o0 o1)(k:K1 R):aiM.A (sv,o0,o1) k=ak (PX.call (sv,o0,o1)) λx1=>k (aiM.out ((qS x1.1 0),x1.2.1,x1.2.2)):=cq
theorem aBC:aiM.Ok:=by rintro⟨l,lo,hi⟩ hl;rw[aBB,av3 (d:=(l,lo,hi)) hl];simp only[ah,bk,aiQ,Kh,bk,aiN]
theorem av0:aiM.RS:=rE [.d (.slice ti),.d ti,.d ti] aiM
def aBD:=aiM.dZ aBC
abbrev Uc:=Int×Int×(List Int)
def abq:Uc->Prop:=λ(_,_,l)=>l.length<=1000000000
def Cy:Uc->Bool:=λ(lo,hi,l)=>l.all λx=>sr x lo hi
def jt:Fs Tryz.prog abq bk Cy:=dV 118 Tryz.f118 (λ(low,high,l)=>([.d ti low,.d ti high,.d (.slice ti) l],[])) (λx=>⟨.d .bool x,[],[]⟩) [av ti,av ti,av (.slice ti)] [aBD] {bH:=[3,4]}
theorem agf(low high l)(k:K1 R):jt.A (low,high,l) k=ak (aiM.call (l,low,high)) λx1=>k (jt.out (!x1.1)):=cq
theorem agh:jt.Ok:=by rintro⟨lo,hi,l⟩ hl;rw[agf,av0 (d:=(l,lo,hi)) hl];simp only[ah,bk,aiN,bk,Cy];rw[List.not_any_eq_all_not];simp only[Bool.not_not]
theorem LG:jt.RS:=rE [.d ti,.d ti,.d (.slice ti)] jt
def Pw:=jt.dZ agh
theorem Pv(lo hi x:Int):jt.call (lo,hi,[x])=av (sr x lo hi):=by rw[LG (d:=(lo,hi,[x])) (by show 1<=_;decide)];simp only[bk,Cy,gS,nM,iS]
theorem agd(lo hi x y:Int):jt.call (lo,hi,[x,y])=av (sr x lo hi && sr y lo hi):=by rw[LG (d:=(lo,hi,[x,y])) (by show 2<=_;decide)];simp only[bk,Cy,gS,nM,iS]
def ak7:fM->Prop:=λc=>eG c.2.2.2.1
def T6:fM->Bool:=λc=>ab7 c
def u6:Fs Tryz.prog ak7 bk T6:=dV 119 Tryz.f119 (λc=>([.d gD c],[])) (λx=>⟨.d .bool x,[],[]⟩) [av gD] [Pw,wY]
theorem asr(c)(k:K1 R):u6.A c k=ak (jt.call (0,1,[c.1])) λx1=>aG (x1) (ak (jt.call (1,1048576,[c.2.1])) λx2=>aG (x2) (ak (jt.call (1,1125899906842624,[c.2.2.1])) λx3=>aG (x3) (ak (jt.call (1,1048576,[c.2.2.2.2.1])) λx4=>aG (x4) (ak (oJ.call c.2.2.2.1) λx5=>aG (x5) (k (u6.out (yV c.2.2.2.1 1))) (k (u6.out bq))) (k (u6.out bq))) (k (u6.out bq))) (k (u6.out bq))) (k (u6.out bq)):=cq
theorem ass:u6.Ok:=by intro c hc;rw[asr,nw (d:=c.2.2.2.1) hc];simp only[ah,Pv,bk,AX,bk,T6,ab7,V3];cases oQ c.2.2.2.1 <;> cases yV c.2.2.2.1 1 <;> cases sr c.1 0 1 <;> cases sr c.2.1 1 1048576 <;> cases sr c.2.2.1 1 1125899906842624 <;> cases sr c.2.2.2.2.1 1 1048576 <;> rfl
theorem ak8:u6.RS:=rE [.d gD] u6
def ast:=u6.dZ ass
theorem aEK(x y u v:Int):axI [Gr x y,Gr u v]=if decide (x < y\/x=y/\u < v)=aS then -1 else if x=y/\u=v then 0 else 1:=by
 by_cases h1:x < y
 ·simp[axI,Gr,h1]
 ·by_cases h2:x=y
  ·by_cases h3:u < v
   ·simp[axI,Gr,h2,h3]
   ·by_cases h4:u=v
    ·simp[axI,Gr,h2,h4]
    ·have h5:v < u:=ao;simp[axI,Gr,h2,h3,h4,h5]
  ·have h5:y < x:=ao;simp[axI,Gr,h1,h2,h5]
def akW:(fM×fM)->Prop:=λ_=>True
def TX:(fM×fM)->Int:=λ(a,b)=>if L9 a b=aS then -1 else if a.1=b.1/\a.2.1=b.2.1 then 0 else 1
def E2:Fs Tryz.prog akW bk TX:=dV 120 Tryz.f120 (λ(a,b)=>([.d gD a,.d gD b],[])) (λx=>⟨.d ti x,[],[]⟩) [av gD,av gD] [am9,aut]
theorem asd(a b)(k:K1 R):E2.A (a,b) k=ak (Dy.call (a.1,b.1)) λx1=>ak (Dy.call (a.2.1,b.2.1)) λx2=>ak (apd.call [x1,x2]) λx3=>k (E2.out x3):=cq
theorem asf:E2.Ok:=by rintro⟨a,b⟩ _;rw[asd,Sf (d:=(a.1,b.1)) trivial];simp only[ah,bk,Z9];rw[Sf (d:=(a.2.1,b.2.1)) trivial];simp only[ah,bk,Z9];rw[amD (d:=[Gr a.1 b.1,Gr a.2.1 b.2.1]) (by show 2<=_;decide)];simp only[ah,bk,aus,bk,TX,L9];rw[aEK];rfl
theorem akX:E2.RS:=rE [.d gD,.d gD] E2
def asg:=E2.dZ asf
theorem ase(a b:fM):∃n,E2.call (a,b)=av n/\qS n 0= !L9 a b:=by
 refine⟨_,akX (d:=(a,b)) trivial,?_⟩;simp only[bk,TX];cases L9 a b
 ·simp only[bJ,bz];split <;> rfl
 ·rfl
theorem azt(d:Int):(te d).2.2.2.1=16:=rfl
theorem aI7(d:Int):(te d).2.2.2.2.2.1=1125899906842624:=rfl
theorem aLr(d:Int):(te d).2.2.2.2.1=1:=rfl
theorem aNz(d:Int):(te d).2.1=200:=rfl
theorem aLq(d:Int):(te d).2.2.1=d:=rfl
theorem l9.t0{ch:fu}(h:l9 ch):nth oO ch.2.2.2.1 0=te 5:=by obtain⟨a,b0,b1,o,rfl,_⟩:=h;rfl
theorem l9.t1{ch:fu}(h:l9 ch):nth oO ch.2.2.2.1 1=te 6:=by obtain⟨a,b0,b1,o,rfl,_⟩:=h;rfl
theorem l9.t{ch:fu}(h:l9 ch){n:Int}(hn:n=0\/n=1):∃d,nth oO ch.2.2.2.1 n.toNat=te d/\(d=5\/d=6):=by
 rcases hn with rfl | rfl
 ·exact⟨5,h.t0,.inl rfl⟩
 ·exact⟨6,h.t1,.inr rfl⟩
theorem l9.op{ch:fu}(h:l9 ch):ch.2.2.2.2.1=0\/ch.2.2.2.2.1=1:=by obtain⟨a,b0,b1,o,rfl,_,_,_,_,ho⟩:=h;exact ho
theorem l9.U5{ch:fu}(h:l9 ch):20000<=ch.2.1/\ch.2.1<=4294987295:=by obtain⟨a,b0,b1,o,rfl,h1,h2,_⟩:=h;exact⟨h1,h2⟩
theorem aDJ.a{c:fM}(h:aDJ c):ab6 c:=⟨by have:=h.U5.1;omega,h.U5.2⟩
theorem abC{n:Int}(h:0<=n/\n<=1):bA .i64 1 n=1 - n:=dL ao ao
abbrev rr:=fu×fZ×Int
def iZ:rr->AS:=λ(fS,cU,i)=>⟨([bX,bX,.dN lg fS,.dN kE cU,bX,.d ti i]++aW 135 []),[],(ai 141 [])⟩
def eT:Unit->Exit×AS:=λx=>(.ret,⟨(aW 4 ([.d .bool bq]++aW 136 [])),[],(ai 141 [])⟩)
def rz:(fu×fZ)->Exit×AS:=λx=>(.exit 0,⟨([bX,bX,.dN lg x.1,.dN kE x.2]++aW 137 []),[],(ai 141 [])⟩)
abbrev Cp:=(Unit)⊕((fu×fZ))
abbrev Le:=(Unit)⊕(Unit)
def xV:Cp->Out (Exit×AS):=λx=> .br x.isLeft (.get x.getLeft? λa=> .ok (eT a)) (.get x.getRight? λb=> .ok (rz b))
def ik:rr->Le->Cp:=λ(fS,cU,i) y=>match y with | .inl y=> .inl y | .inr z=> .inr ((fS,cU))
def ru:rr->Prop:=λ(ch,sv,i)=>l9 ch/\A5 sv/\∃k:Nat,k<=sv.2.2.1.length/\i=k
def j8:rr->Le:=λ(ch,sv,i)=>if zG (KX sv.2.2.1 i.toNat) (sv.2.2.1.drop i.toNat)=aS then .inr () else .inl ()
def afK:(fu×fZ)->Prop:=λ(ch,s)=>l9 ch/\A5 s
def Gb:(fu×fZ)->Bool:=λ(ch,s)=>IU ch s
def Ld:=eb.fH iZ ru ik j8 xV
def Db:rr->Option Cp:=kD Ld iZ
def gb:Fs Tryz.prog afK bk Gb:=dV 25 Tryz.f25 (λ(ch,sv)=>([.d lg ch,.d kE sv],[])) (λx=>⟨.d .bool x,[],[]⟩) [av lg,av kE] [avn,anb,Xw,QQ,afb,azG,Xg] {loops:=mM [(4,{aX:=[2,3,5]}),(10,{aX:=[2,3,7],sites:=[11,16,23,30,36,57,75,106,126,138]})],outs:=mL [(4,{aX:=[2,3]},{aX:=[4]}),(10,{aX:=[2,3],sites:=[11,16,23,30,36,57,75,106,126,138]},{aX:=[4],sites:=[11,16,23,30,36,57,75,106,126,138]})],fo:=oR [(4,Ld)]} 3
def Co:= @gk Tryz.prog (oP gb.G) gb.an 3 Tryz.f25 0 _ iZ
abbrev Hl:=qq Tryz.prog (oP gb.G) gb.an 3 Tryz.f25 0 iZ ru ik j8 xV
theorem TJ:mR Db ru ik j8:=sV (sJ [.d lg,.d kE,.d ti] λ_=>cq)
theorem Gy:uR @Co iZ ru ik j8 xV Hl:=vA
theorem Dc(fS cU i)(kn:K2 R)(kx:K3 R):Co (fS,cU,i) kn kx=aG (fG i (((ae cU.2.2.1):Nat):Int)) (aG (dr i (((ae cU.2.2.1):Nat):Int)) (ak (sH.call (nth gD cU.2.2.1 (ab i))) λx1=>aG (!x1) (kx (eT ()).1 (eT ()).2) (aG (vh i (0:Int)) (aG (dr (bA .i64 i (1:Int)) (((ae cU.2.2.1):Nat):Int)) (aG (dr i (((ae cU.2.2.1):Nat):Int)) (ak (qB.call ((nth gD cU.2.2.1 (ab (bA .i64 i (1:Int)))),(nth gD cU.2.2.1 (ab i)))) λx2=>aG (!x2) (kx (eT ()).1 (eT ()).2) (aG (dr i (((ae cU.2.2.1):Nat):Int)) (aG (dr i (((ae cU.2.2.1):Nat):Int)) (aG (dr (bA .i64 (1:Int) (nth gD cU.2.2.1 (ab i)).1) (2:Int)) (aG (fG (nth gD cU.2.2.1 (ab i)).2.2.1 (nth oO fS.2.2.2.1 (ab (bA .i64 (1:Int) (nth gD cU.2.2.1 (ab i)).1))).2.2.2.2.1) (kx (eT ()).1 (eT ()).2) (kn (iZ (fS,cU,(bl .i64 i (1:Int)))))) aF) aF) aF)) aF) aF) (aG (dr i (((ae cU.2.2.1):Nat):Int)) (aG (dr i (((ae cU.2.2.1):Nat):Int)) (aG (dr (bA .i64 (1:Int) (nth gD cU.2.2.1 (ab i)).1) (2:Int)) (aG (fG (nth gD cU.2.2.1 (ab i)).2.2.1 (nth oO fS.2.2.2.1 (ab (bA .i64 (1:Int) (nth gD cU.2.2.1 (ab i)).1))).2.2.2.2.1) (kx (eT ()).1 (eT ()).2) (kn (iZ (fS,cU,(bl .i64 i (1:Int)))))) aF) aF) aF))) aF) (kx (rz (fS,cU)).1 (rz (fS,cU)).2):=cq
theorem akI(ch sv)(k:K1 R):gb.A (ch,sv) k=ak (vf.call ch) λx1=>aG (yV x1 0) (k (gb.out bq)) (ak (Gv.call (sv.1,0,1048576)) λx2=>aG (!x2) (k (gb.out bq)) (ak (Gv.call ((nth ti sv.2.1 0),0,1125899906842624)) λx3=>aG (!x3) (k (gb.out bq)) (ak (Gv.call ((nth ti sv.2.1 1),0,1125899906842624)) λx4=>aG (!x4) (k (gb.out bq)) (ak (Gv.call (sv.2.2.2.1,0,1000)) λx5=>aG (!x5) (k (gb.out bq)) (aG (vh (sv.2.2.1.length:Int) 16) (k (gb.out bq)) (ak (Db (ch,sv,0)) λx8=>aG x8.isLeft (ak x8.getLeft? λa9=>k (gb.out bq)) (ak x8.getRight? λb10=>ak (C5.call (b10.2,0)) λQK=>aG (vh QK.1 (nth oO b10.1.2.2.2.1 0).2.2.2.1) (k (gb.out bq)) (aG (vh QK.2 (nth oO b10.1.2.2.2.1 0).2.2.2.2.2.1) (k (gb.out bq)) (ak (C5.call (b10.2,1)) λQL=>aG (vh QL.1 (nth oO b10.1.2.2.2.1 1).2.2.2.1) (k (gb.out bq)) (aG (vh QL.2 (nth oO b10.1.2.2.2.1 1).2.2.2.2.2.1) (k (gb.out bq)) (ak (Hz.call b10.2) λaDH=>aG (kK aDH b10.1.2.1) (aG (dr b10.1.2.2.2.2.1 2) (ak (DT.call (b10.1,b10.2)) λaJd=>k (gb.out (qS (nth ti b10.2.2.1 (ab b10.1.2.2.2.2.1)) aJd))) aF) (k (gb.out bq))))))))))))):=cq
theorem Wg:Hl:=by
 refine Gy (λ(ch,sv,i)=>sv.2.2.1.length - i.toNat) ?_
 rintro⟨ch,sv,i⟩ ⟨dx,hu,k,hk,rfl⟩;have hu:A5 sv:=hu;have hl:sv.2.2.1.length<=1000:=hu.2.1;have hk:k<=sv.2.2.1.length:=hk;by_cases h:k < sv.2.2.1.length
 ·have hd:=amy h;have step:∀ {R:Type} (kn:AS->Option R) (kx:Exit->AS->Option R),Co (ch,sv,(k:Int)) kn kx=aG (ab7 sv.2.2.1[k] && (decide (k=0) || L9 (nth gD sv.2.2.1 (k - 1)) sv.2.2.1[k])) (kn (iZ (ch,sv,((k+1:Nat):Int)))) (kx (eT ()).1 (eT ()).2):=by
   intro R kn kx;have n1:nth gD sv.2.2.1 k=sv.2.2.1[k]:=cK (t:=gD) h;have hx:eG sv.2.2.1[k].2.2.2.1:=hu.1 _ (List.getElem_mem h);rw[Dc,aZ ao,aV ao ao,aa,n1,RR (d:=sv.2.2.1[k]) hx,N.qt ao];simp only[aj,ah,bk,JZ];cases hb:ab7 sv.2.2.1[k]
   ·rfl
   ·have g:=vB.1 hb;have i2:dr (1 - sv.2.2.1[k].1) 2=aS:=aV (by have:=g.side;omega) (by have:=g.side;omega);obtain⟨d,aBd,_⟩:=dx.t (n:=1 - sv.2.2.1[k].1) (by have:=g.side;omega);rw[bm,al,abC g.side,aBd,aLr,aQ (by have:=g.U5.1;omega),i2];simp only[aj,al];by_cases h0:k=0
    ·subst h0;rw[cJ ao,al,aJ rfl];rfl
    ·rw[dw ao,aj,N.aJL ao ao,aV ao ao,aj,aa,Mf,ah,bP h0];cases L9 (nth gD sv.2.2.1 (k - 1)) sv.2.2.1[k] <;> rfl
  cases hp:(ab7 sv.2.2.1[k] && (decide (k=0) || L9 (nth gD sv.2.2.1 (k - 1)) sv.2.2.1[k]))
  ·right;refine⟨eT (),?_,λkn kx=> ?_⟩
   ·rw[<-Bool.and_assoc,hp,dC]at hd;simp only[ik,j8,aa,hd,bJ,bz];rfl
   ·rw[step,hp,al]
  ·left;refine⟨(ch,sv,((k+1:Nat):Int)),⟨dx,hu,k+1,ao,rfl⟩,by simp only[aa];omega,?_,λkn kx=> ?_⟩
   ·rw[<-Bool.and_assoc,hp,bD]at hd;simp only[ik,j8,aa,hd]
   ·rw[step,hp,aj]
 ·right;obtain rfl:k=sv.2.2.1.length:=ao;refine⟨rz (ch,sv),?_,λkn kx=> ?_⟩
  ·simp only[ik,j8,aa,bj,zG,bG];rfl
  ·rw[Dc,aQ ao,al]
theorem akJ:gb.Ok:=by
 rintro⟨ch,s⟩ ⟨dx,hu⟩;have dx:l9 ch:=dx;rw[akI,apM (d:=ch) dx];simp only[ah,bk,amX,av9];rw[ez rfl,al];simp only[bk,Gb,IU];cases h1:sr s.1 0 1048576
 ·rfl
 cases h2:sr (nth ti s.2.1 0) 0 1125899906842624
 ·rfl
 cases h3:sr (nth ti s.2.1 1) 0 1125899906842624
 ·rfl
 cases h4:sr s.2.2.2.1 0 1000
 ·rfl
 simp only[bm,al,bD];by_cases h5:s.2.2.1.length<=16;rotate_left
 ·rw[dw ao,aj,bP h5];rfl
 rw[cJ ao,al,aJ h5,bD,TJ (d:=(ch,s,0)) ⟨dx,hu,0,aO _,rfl⟩];simp only[ah,ik,j8,bg,aL];rw[show KX s.2.2.1 0=aF from rfl];cases h6:zG aF s.2.2.1
 ·simp only[bJ,bz,mS,aj,kS,ah,dC]
 have hA:∀c∈s.2.2.1,ab6 c:=λc hc=>(Av _ _ h6 c hc).a
 simp only[bG,fk,al,ej,ah,bD];rw[Nd (d:=(s,0)) ⟨.inl rfl,hA,by have:s.2.2.1.length<=16:=h5;show s.2.2.1.length<=1000;omega⟩];simp only[ah,bk,KN];have o0:=KO 0 s.2.2.1;have o1:=KO 1 s.2.2.1;rw[dx.t0,azt,aI7,cJ ao,al];by_cases h7:fx (j6 0 s.2.2.1)<=1125899906842624;rotate_left
 ·rw[dw ao,aj,bP h7];rfl
 rw[cJ ao,al,aJ h7,bD,Nd (d:=(s,1)) ⟨.inr rfl,hA,by have:s.2.2.1.length<=16:=h5;show s.2.2.1.length<=1000;omega⟩];simp only[ah,bk,KN];rw[dx.t1,azt,aI7,cJ ao,al];by_cases h8:fx (j6 1 s.2.2.1)<=1125899906842624;rotate_left
 ·rw[dw ao,aj,bP h8];rfl
 rw[cJ ao,al,aJ h8,bD,asU (d:=s) ⟨hA,by have:s.2.2.1.length<=16:=h5;show s.2.2.1.length<=1000;omega,wb.1 h2,wb.1 h3⟩];simp only[ah,bk,abO];cases kK (nth ti s.2.1 0+nth ti s.2.1 1+fx s.2.2.1) ch.2.1
 ·rfl
 have ho:=dx.op;rw[aj,aV ao ao,aj,Rp (d:=(ch,s)) trivial];rfl
theorem Pj:gb.RS:=rE [.d lg,.d kE] gb
def TK:=gb.dZ akJ 2 ⟨.fH Wg,⟨.none cq,trivial⟩⟩
abbrev rB:=fu×fZ×(List fM)×Int×Int
def jb:rB->AS:=λ(fS,cU,t46,t47,t48)=>⟨([bX,bX,.dN lg fS,.dN kE cU]++aW 42 ([.d (.slice gD) t46,.d ti t47,.d ti t48]++aW 74 [])),[],(ai 123 [])⟩
def fK:Unit->Exit×AS:=λx=>(.ret,⟨(aW 4 ([.d .bool bq]++aW 118 [])),[],(ai 123 [])⟩)
def rD:(fu×fZ)->Exit×AS:=λx=>(.exit 0,⟨([bX,bX,.dN lg x.1,.dN kE x.2]++aW 119 []),[],(ai 123 [])⟩)
abbrev Cw:=(Unit)⊕((fu×fZ))
abbrev LB:=(Unit)⊕(Unit)
def yd:Cw->Out (Exit×AS):=λx=> .br x.isLeft (.get x.getLeft? λa=> .ok (fK a)) (.get x.getRight? λb=> .ok (rD b))
def il:rB->LB->Cw:=λ(fS,cU,t46,t47,t48) y=>match y with | .inl y=> .inl y | .inr z=> .inr ((fS,cU))
abbrev rF:=fu×fZ×(List az6)×Int
def jc:rF->AS:=λ(acN,abE,t85,t86)=>⟨([bX,bX,.dN lg acN,.dN kE abE]++aW 81 ([.d (.arr 2 oO) t85,.d ti t86]++aW 36 [])),[],(ai 123 [])⟩
def fm:Unit->Exit×AS:=λx=>(.ret,⟨(aW 4 ([.d .bool bq]++aW 118 [])),[],(ai 123 [])⟩)
def rH:(fu×fZ)->Exit×AS:=λx=>(.exit 2,⟨([bX,bX,.dN lg x.1,.dN kE x.2]++aW 119 []),[],(ai 123 [])⟩)
abbrev Cx:=(Unit)⊕((fu×fZ))
abbrev LD:=(Unit)⊕(Unit)
def ye:Cx->Out (Exit×AS):=λx=> .br x.isLeft (.get x.getLeft? λa=> .ok (fm a)) (.get x.getRight? λb=> .ok (rH b))
def fL:rF->LD->Cx:=λ(acN,abE,t85,t86) y=>match y with | .inl y=> .inl y | .inr z=> .inr ((acN,abE))
def rG:rF->Prop:=λ(ch,s,l,i)=>l9 ch/\(∀c∈s.2.2.1,ab6 c)/\s.2.2.1.length<=16/\l=ch.2.2.2.1/\(i=0\/i=1\/i=2)
def gV:rF->LD:=λ(ch,s,l,i)=>if(decide (i<=0->fx (j6 0 s.2.2.1)<=1125899906842624) && decide (i<=1->fx (j6 1 s.2.2.1)<=1125899906842624))=aS then .inr () else .inl ()
def rC:rB->Prop:=λ(ch,sv,l,m,i)=>l9 ch/\A5 sv/\l=sv.2.2.1/\m=sv.2.2.1.length/\∃k:Nat,k<=sv.2.2.1.length/\i=k
def j9:rB->LB:=λ(ch,sv,l,m,i)=>if zG (KX sv.2.2.1 i.toNat) (sv.2.2.1.drop i.toNat)=aS then .inr () else .inl ()
def af9:(fu×fZ)->Prop:=λ(ch,s)=>l9 ch/\A5 s
def NI:(fu×fZ)->Bool:=λ(ch,s)=>IU ch s
def LA:=eb.fH jb rC il j9 yd
def Dk:rB->Option Cw:=kD LA jb
def LC:=eb.fH jc rG fL gV ye
def Dm:rF->Option Cx:=kD LC jc
def gu:Fs Tryz.prog af9 bk NI:=dV 66 Tryz.f66 (λ(ch,sv)=>([.d lg ch,.d kE sv],[])) (λx=>⟨.d .bool x,[],[]⟩) [av lg,av kE] [azy,Pw,ast,asg,ayV,ale,asq] {loops:=mM [(4,{aX:=[2,3,46,47,48]}),(10,{aX:=[2,3,85,86]})],outs:=mL [(4,{aX:=[2,3]},{aX:=[4]}),(10,{aX:=[2,3]},{aX:=[4]})],fo:=oR [(4,LA),(10,LC)]}
def Cv:= @gk Tryz.prog (oP gu.G) gu.an 0 Tryz.f66 0 _ jb
abbrev Ht:=qq Tryz.prog (oP gu.G) gu.an 0 Tryz.f66 0 jb rC il j9 yd
def wJ:= @gk Tryz.prog (oP gu.G) gu.an 0 Tryz.f66 1 _ jc
abbrev Hu:=qq Tryz.prog (oP gu.G) gu.an 0 Tryz.f66 1 jc rG fL gV ye
theorem T8:mR Dk rC il j9:=sV (sJ [.d lg,.d kE,.d (.slice gD),.d ti,.d ti] λ_=>cq)
theorem Gz:uR @Cv jb rC il j9 yd Ht:=vA
theorem Dl(fS cU t46 t47 t48)(kn:K2 R)(kx:K3 R):Cv (fS,cU,t46,t47,t48) kn kx=aG (fG t48 t47) (aG (dr t48 (((ae t46):Nat):Int)) (ak (u6.call (nth gD t46 (ab t48))) λx1=>aG (!x1) (kx (fK ()).1 (fK ()).2) (aG (dr (bA .i64 (1:Int) (nth gD t46 (ab t48)).1) (2:Int)) (aG (fG (nth gD t46 (ab t48)).2.2.1 (nth oO fS.2.2.2.1 (ab (bA .i64 (1:Int) (nth gD t46 (ab t48)).1))).2.2.2.2.1) (kx (fK ()).1 (fK ()).2) (aG (vh t48 (0:Int)) (aG (dr (bA .i64 t48 (1:Int)) (((ae cU.2.2.1):Nat):Int)) (ak (E2.call ((nth gD cU.2.2.1 (ab (bA .i64 t48 (1:Int)))),(nth gD t46 (ab t48)))) λx2=>aG (qS x2 (0:Int)) (kx (fK ()).1 (fK ()).2) (kn (jb (fS,cU,t46,t47,(bl .i64 t48 (1:Int)))))) aF) (kn (jb (fS,cU,t46,t47,(bl .i64 t48 (1:Int))))))) aF)) aF) (kx (rD (fS,cU)).1 (rD (fS,cU)).2):=cq
theorem T9:mR Dm rG fL gV:=sV (sJ [.d lg,.d kE,.d (.slice oO),.d ti] λ_=>cq)
theorem GA:uR @wJ jc rG fL gV ye Hu:=vA
theorem u7(acN abE t85 t86)(kn:K2 R)(kx:K3 R):wJ (acN,abE,t85,t86) kn kx=aG (fG t86 (2:Int)) (aG (dr t86 (2:Int)) (ak (Hs.call (abE,t86)) λx1=>aG (vh x1.1 (nth oO t85 (ab t86)).2.2.2.1) (kx (fm ()).1 (fm ()).2) (aG (vh x1.2 (nth oO t85 (ab t86)).2.2.2.2.2.1) (kx (fm ()).1 (fm ()).2) (kn (jc (acN,abE,t85,(bl .i64 t86 (1:Int))))))) aF) (kx (rH (acN,abE)).1 (rH (acN,abE)).2):=cq
theorem ak9(ch sv)(k:K1 R):gu.A (ch,sv) k=ak (rR.call ch) λx1=>aG (yV x1 0) (k (gu.out bq)) (ak (jt.call (0,1048576,[sv.1])) λx2=>aG (!x2) (k (gu.out bq)) (ak (jt.call (0,1125899906842624,[(nth ti sv.2.1 0),(nth ti sv.2.1 1)])) λx3=>aG (!x3) (k (gu.out bq)) (ak (jt.call (0,1000,[sv.2.2.2.1])) λx4=>aG (!x4) (k (gu.out bq)) (aG (vh (sv.2.2.1.length:Int) 16) (k (gu.out bq)) (ak (Dk (ch,sv,sv.2.2.1,(sv.2.2.1.length:Int),0)) λx7=>aG x7.isLeft (ak x7.getLeft? λa8=>k (gu.out bq)) (ak x7.getRight? λb9=>ak (Dm (b9.1,b9.2,b9.1.2.2.2.1,0)) λQK=>aG QK.isLeft (ak QK.getLeft? λa12=>k (gu.out bq)) (ak QK.getRight? λb13=>ak (tJ.call b13.2) λaJd=>aG (kK aJd b13.1.2.1) (aG (dr b13.1.2.2.2.2.1 2) (ak (IP.call (b13.1,b13.2)) λaEB=>k (gu.out (qS (nth ti b13.2.2.1 (ab b13.1.2.2.2.2.1)) aEB))) aF) (k (gu.out bq))))))))):=cq
theorem Wo:Ht:=by
 refine Gz (λ(ch,sv,l,m,i)=>sv.2.2.1.length - i.toNat) ?_
 rintro⟨ch,sv,l,m,i⟩ ⟨dx,hu,rfl,rfl,k,hk,rfl⟩;have hu:A5 sv:=hu;have hl:sv.2.2.1.length<=1000:=hu.2.1;have hk:k<=sv.2.2.1.length:=hk;by_cases h:k < sv.2.2.1.length
 ·have hd:=amy h;have step:∀ {R:Type} (kn:AS->Option R) (kx:Exit->AS->Option R),Cv (ch,sv,sv.2.2.1,(sv.2.2.1.length:Int),(k:Int)) kn kx=aG (ab7 sv.2.2.1[k] && (decide (k=0) || L9 (nth gD sv.2.2.1 (k - 1)) sv.2.2.1[k])) (kn (jb (ch,sv,sv.2.2.1,(sv.2.2.1.length:Int),((k+1:Nat):Int)))) (kx (fK ()).1 (fK ()).2):=by
   intro R kn kx;have n1:nth gD sv.2.2.1 k=sv.2.2.1[k]:=cK (t:=gD) h;have hx:eG sv.2.2.1[k].2.2.2.1:=hu.1 _ (List.getElem_mem h);obtain⟨an,ac,ag⟩:=ase (nth gD sv.2.2.1 (k - 1)) sv.2.2.1[k];rw[Dl,aZ ao,aV ao ao,aa,n1,ak8 (d:=sv.2.2.1[k]) hx,N.qt ao];simp only[aj,ah,bk,T6];cases hb:ab7 sv.2.2.1[k]
   ·rfl
   ·have g:=vB.1 hb;have i2:dr (1 - sv.2.2.1[k].1) 2=aS:=aV (by have:=g.side;omega) (by have:=g.side;omega);obtain⟨d,aBd,_⟩:=dx.t (n:=1 - sv.2.2.1[k].1) (by have:=g.side;omega);rw[bm,al,abC g.side,aBd,aLr,aQ (by have:=g.U5.1;omega),i2];simp only[aj,al];by_cases h0:k=0
    ·subst h0;rw[cJ ao,al,aJ rfl];rfl
    ·rw[dw ao,aj,N.aJL ao ao,aV ao ao,aj,aa,ac,ah,ag,bP h0];cases L9 (nth gD sv.2.2.1 (k - 1)) sv.2.2.1[k] <;> rfl
  cases hp:(ab7 sv.2.2.1[k] && (decide (k=0) || L9 (nth gD sv.2.2.1 (k - 1)) sv.2.2.1[k]))
  ·right;refine⟨fK (),?_,λkn kx=> ?_⟩
   ·rw[<-Bool.and_assoc,hp,dC]at hd;simp only[il,j9,aa,hd,bJ,bz];rfl
   ·rw[step,hp,al]
  ·left;refine⟨(ch,sv,sv.2.2.1,(sv.2.2.1.length:Int),((k+1:Nat):Int)),⟨dx,hu,rfl,rfl,k+1,ao,rfl⟩,by simp only[aa];omega,?_,λkn kx=> ?_⟩
   ·rw[<-Bool.and_assoc,hp,bD]at hd;simp only[il,j9,aa,hd]
   ·rw[step,hp,aj]
 ·right;obtain rfl:k=sv.2.2.1.length:=ao;refine⟨rD (ch,sv),?_,λkn kx=> ?_⟩
  ·simp only[il,j9,aa,bj,zG,bG];rfl
  ·rw[Dl,aQ ao,al]
theorem Wp:Hu:=by
 refine GA (λ(_,_,_,i)=>(2 - i).toNat) ?_
 rintro⟨ch,s,l,i⟩ ⟨dx,hA,hl,rfl,hi⟩;have dx:l9 ch:=dx;have hl:s.2.2.1.length<=16:=hl;have o0:=KO 0 s.2.2.1;have o1:=KO 1 s.2.2.1;rcases hi with rfl | rfl | rfl
 ·have step:∀ {R:Type} (kn:AS->Option R) (kx:Exit->AS->Option R),wJ (ch,s,ch.2.2.2.1,0) kn kx=aG (decide (fx (j6 0 s.2.2.1)<=1125899906842624)) (kn (jc (ch,s,ch.2.2.2.1,1))) (kx (fm ()).1 (fm ()).2):=by
   intro R kn kx;rw[u7,aZ ao,aV ao ao,Yy (d:=(s,0)) ⟨.inl rfl,hA,by show s.2.2.1.length<=1000;omega⟩];simp only[aj,ah,bk,QD];rw[show nth oO ch.2.2.2.1 (ab 0)=te 5 from dx.t0,azt,aI7,cJ ao,al];by_cases h:fx (j6 0 s.2.2.1)<=1125899906842624
   ·rw[cJ ao,aJ h];rfl
   ·rw[dw ao,bP h];rfl
  by_cases h:fx (j6 0 s.2.2.1)<=1125899906842624
  ·left;refine⟨(ch,s,ch.2.2.2.1,1),⟨dx,hA,hl,rfl,.inr (.inl rfl)⟩,by show(2 - (1:Int)).toNat < (2 - (0:Int)).toNat;decide,?_,λkn kx=> ?_⟩
   ·simp only[fL,gV];simp[h]
   ·rw[step,aJ h,aj]
  ·right;refine⟨fm (),?_,λkn kx=> ?_⟩
   ·simp only[fL,gV];simp[h];rfl
   ·rw[step,bP h,al]
 ·have step:∀ {R:Type} (kn:AS->Option R) (kx:Exit->AS->Option R),wJ (ch,s,ch.2.2.2.1,1) kn kx=aG (decide (fx (j6 1 s.2.2.1)<=1125899906842624)) (kn (jc (ch,s,ch.2.2.2.1,2))) (kx (fm ()).1 (fm ()).2):=by
   intro R kn kx;rw[u7,aZ ao,aV ao ao,Yy (d:=(s,1)) ⟨.inr rfl,hA,by show s.2.2.1.length<=1000;omega⟩];simp only[aj,ah,bk,QD];rw[show nth oO ch.2.2.2.1 (ab 1)=te 6 from dx.t1,azt,aI7,cJ ao,al];by_cases h:fx (j6 1 s.2.2.1)<=1125899906842624
   ·rw[cJ ao,aJ h];rfl
   ·rw[dw ao,bP h];rfl
  by_cases h:fx (j6 1 s.2.2.1)<=1125899906842624
  ·left;refine⟨(ch,s,ch.2.2.2.1,2),⟨dx,hA,hl,rfl,.inr (.inr rfl)⟩,by show(2 - (2:Int)).toNat < (2 - (1:Int)).toNat;decide,?_,λkn kx=> ?_⟩
   ·simp only[fL,gV];simp[h]
   ·rw[step,aJ h,aj]
  ·right;refine⟨fm (),?_,λkn kx=> ?_⟩
   ·simp only[fL,gV];simp[h];rfl
   ·rw[step,bP h,al]
 ·right;refine⟨rH (ch,s),?_,λkn kx=> ?_⟩
  ·simp only[fL,gV];simp;rfl
  ·rw[u7,aQ ao,al]
theorem ala:gu.Ok:=by
 rintro⟨ch,s⟩ ⟨dx,hu⟩;have dx:l9 ch:=dx;rw[ak9,asP (d:=ch) dx];simp only[ah,bk,aob,Pv,agd];rw[ez rfl,al];simp only[bk,NI,IU];cases h1:sr s.1 0 1048576
 ·rfl
 cases h2:sr (nth ti s.2.1 0) 0 1125899906842624
 ·rfl
 cases h3:sr (nth ti s.2.1 1) 0 1125899906842624
 ·rfl
 cases h4:sr s.2.2.2.1 0 1000
 ·rfl
 simp only[bm,al,bD];by_cases h5:s.2.2.1.length<=16;rotate_left
 ·rw[dw ao,aj,bP h5];rfl
 rw[cJ ao,al,aJ h5,bD,T8 (d:=(ch,s,s.2.2.1,(s.2.2.1.length:Int),0)) ⟨dx,hu,rfl,rfl,0,aO _,rfl⟩];simp only[ah,il,j9,bg,aL];rw[show KX s.2.2.1 0=aF from rfl];cases h6:zG aF s.2.2.1
 ·simp only[bJ,bz,mS,aj,kS,ah,dC]
 have hA:∀c∈s.2.2.1,ab6 c:=λc hc=>(Av _ _ h6 c hc).a
 simp only[bG,fk,al,ej,ah,bD];rw[T9 (d:=(ch,s,ch.2.2.2.1,0)) ⟨dx,hA,h5,rfl,.inl rfl⟩];simp only[ah,fL,gV];by_cases h7:fx (j6 0 s.2.2.1)<=1125899906842624;rotate_left
 ·rw[bP (λx=>h7 (x ao)),bP h7];rfl
 by_cases h8:fx (j6 1 s.2.2.1)<=1125899906842624;rotate_left
 ·rw[bP (p:=(0:Int)<=1->_) (λx=>h8 (x ao)),bP h8,jl,dC,jl];rfl
 rw[aJ (λ_=>h7),aJ (p:=(0:Int)<=1->_) (λ_=>h8),aJ h7,aJ h8,bD,bD,bD,if_pos rfl];simp only[fk,al,ej,ah];rw[agc (d:=s) ⟨hA,by have:s.2.2.1.length<=16:=h5;show s.2.2.1.length<=1000;omega,wb.1 h2,wb.1 h3⟩];simp only[ah,bk,NJ];cases kK (nth ti s.2.1 0+nth ti s.2.1 1+fx s.2.2.1) ch.2.1
 ·rfl
 have ho:=dx.op;rw[aj,aV ao ao,aj,ak6 (d:=(ch,s)) trivial];rfl
theorem aga:gu.RS:=rE [.d lg,.d kE] gu
def alb:=gu.dZ ala 2 ⟨.fH Wo,⟨.fH Wp,trivial⟩⟩
abbrev rh:=Int×Int×fZ×Int
def iY:rh->AS:=λ(BM,aiP,cU,i)=>⟨([bX,.d ti BM,.d ti aiP,.dN kE cU,bX,bX,bX,.d ti i]++aW 26 []),[],(ai 34 [])⟩
def kX:Int->Exit×AS:=λx=>(.ret,⟨(aW 6 ([.d ti x]++aW 27 [])),[],(ai 34 [])⟩)
def rj:Unit->Exit×AS:=λx=>(.exit 0,⟨(aW 34 []),[],(ai 34 [])⟩)
abbrev Ce:=(Int)⊕(Unit)
abbrev KW:=(Int)⊕(Unit)
def xP:Ce->Out (Exit×AS):=λx=> .br x.isLeft (.get x.getLeft? λa=> .ok (kX a)) (.get x.getRight? λb=> .ok (rj b))
def ij:rh->KW->Ce:=λ(BM,aiP,cU,i) y=>match y with | .inl y=> .inl y | .inr z=> .inr (z)
def anl(a i:Int):fM->Bool:=λc=>kK c.1 a && kK c.2.1 i
def ri:rh->Prop:=λ(_,_,s,i)=>s.2.2.1.length<=1000/\∃k:Nat,k<=s.2.2.1.length/\i=k
def j7:rh->KW:=λ(a,b,s,i)=>zR (anl a b) (s.2.2.1.drop i.toNat) i
def afo:(fZ×Int×Int)->Prop:=λ(s,_,_)=>s.2.2.1.length<=1000
def Nj:(fZ×Int×Int)->Int:=λ(s,a,b)=>Vt (anl a b) s.2.2.1
def KV:=eb.fH iY ri ij j7 xP
def C6:rh->Option Ce:=kD KV iY
def pv:Fs Tryz.prog afo bk Nj:=dV 60 Tryz.f60 (λ(sv,fromv,id)=>([.d kE sv,.d ti fromv,.d ti id],[])) (λx=>⟨.d ti x,[],[]⟩) [av kE,av ti,av ti] [] {loops:=mM [(2,{aX:=[1,2,3,7]})],outs:=mL [(2,{},{aX:=[6]})],fo:=oR [(2,KV)]}
def Cd:= @gk Tryz.prog (oP pv.G) pv.an 0 Tryz.f60 0 _ iY
abbrev Hh:=qq Tryz.prog (oP pv.G) pv.an 0 Tryz.f60 0 iY ri ij j7 xP
theorem Tp:mR C6 ri ij j7:=sV (sJ [.d ti,.d ti,.d kE,.d ti] λ_=>cq)
theorem Gx:uR @Cd iY ri ij j7 xP Hh:=vA
theorem C7(BM aiP cU i)(kn:K2 R)(kx:K3 R):Cd (BM,aiP,cU,i) kn kx=aG (fG i (((ae cU.2.2.1):Nat):Int)) (aG (dr i (((ae cU.2.2.1):Nat):Int)) (aG (kK (nth gD cU.2.2.1 (ab i)).1 BM) (aG (dr i (((ae cU.2.2.1):Nat):Int)) (aG (kK (nth gD cU.2.2.1 (ab i)).2.1 aiP) (kx (kX i).1 (kX i).2) (kn (iY (BM,aiP,cU,(bl .i64 i (1:Int)))))) aF) (kn (iY (BM,aiP,cU,(bl .i64 i (1:Int)))))) aF) (kx (rj ()).1 (rj ()).2):=cq
theorem aj7(sv fromv id)(k:K1 R):pv.A (sv,fromv,id) k=ak (C6 (fromv,id,sv,0)) λx1=>aG x1.isLeft (ak x1.getLeft? λa2=>k (pv.out a2)) (ak x1.getRight? λb3=>k (pv.out (-1))):=cq
theorem VY:Hh:=by
 refine Gx (λ(_,_,s,i)=>s.2.2.1.length - i.toNat) ?_
 rintro⟨a,b,s,i⟩ ⟨hl,k,hk,rfl⟩;have hl:s.2.2.1.length<=1000:=hl;have hk:k<=s.2.2.1.length:=hk;by_cases h:k < s.2.2.1.length
 ·have n1:nth gD s.2.2.1 k=s.2.2.1[k]:=cK (t:=gD) h;have hd:zR (anl a b) (s.2.2.1.drop k) k=if anl a b s.2.2.1[k]=aS then .inl (k:Int) else zR (anl a b) (s.2.2.1.drop (k+1)) ((k+1:Nat):Int):=by rw[aD h];rfl
  have step:∀ {R:Type} (kn:AS->Option R) (kx:Exit->AS->Option R),Cd (a,b,s,(k:Int)) kn kx=aG (anl a b s.2.2.1[k]) (kx (kX (k:Int)).1 (kX (k:Int)).2) (kn (iY (a,b,s,((k+1:Nat):Int)))):=by intro R kn kx;rw[C7,aZ ao,aV ao ao,aa,n1,N.qt ao];simp only[aj,anl];cases kK s.2.2.1[k].1 a <;> rfl
  cases hp:anl a b s.2.2.1[k]
  ·left;refine⟨(a,b,s,((k+1:Nat):Int)),⟨hl,k+1,ao,rfl⟩,by simp only[aa];omega,?_,λkn kx=> ?_⟩
   ·simp only[ij,j7,aa,hd,hp,bJ,bz]
   ·rw[step,hp,al]
  ·right;refine⟨kX (k:Int),?_,λkn kx=> ?_⟩
   ·simp only[ij,j7,aa,hd,hp,bG];rfl
   ·rw[step,hp,aj]
 ·right;obtain rfl:k=s.2.2.1.length:=ao;refine⟨rj (),?_,λkn kx=> ?_⟩
  ·simp only[ij,j7,aa,bj];rfl
  ·rw[C7,aQ ao,al]
theorem aj8:pv.Ok:=by rintro⟨s,a,b⟩ hl;rw[aj7,Tp (d:=(a,b,s,0)) ⟨hl,0,aO _,rfl⟩];simp only[ah,ij,j7,bg,aL,bk,Nj,Vt];cases zR (anl a b) s.2.2.1 0 <;> rfl
theorem afp:pv.RS:=rE [.d kE,.d ti,.d ti] pv
def aj9:=pv.dZ aj8 1 ⟨.fH VY,trivial⟩
abbrev FF:=fZ×fM×Bool×Int×Int×(List Int)×(Int×Unit)×Int×(List Int)×Nat×(Int×Unit)×(List fM)
abbrev PK:=Bool×Nat×(List fM)
def pg:FF->PK->((fM×Int×(List Int)×(Int×Unit)×Int×(List Int)×(Int×Unit))×(Bool×Nat×(List fM))):=λ(cU,Gq,done,i,n4,lf,wy,n5,B8,VP,aaP,atm) y=>((Gq,n4,lf,wy,n5,B8,aaP),y)
def Ik:Bool->fM->List fM->List fM
 |_,_,[]=> []
 |d,c,x::l=>if(!d && L9 c x)=aS then c::x::Ik aS c l else x::Ik d c l
def PY:Bool->fM->List fM->Bool
 |d,_,[]=>d
 |d,c,x::l=>if(!d && L9 c x)=aS then PY aS c l else PY d c l
def Ih(c:fM)(l:List fM):List fM:=Ik bq c l++(if PY bq c l=aS then [] else [c])
theorem MQ:∀(c:fM) (l:List fM),Ik aS c l=l/\PY aS c l=aS
 |c,[]=>⟨rfl,rfl⟩
 |c,x::l=>by have:=MQ c l;simp only[Ik,PY,bm,dC,bJ,bz,this.1,this.2,jM]
theorem FX(c x:fM)(l:List fM):Ih c (x::l)=if L9 c x=aS then c::x::l else x::Ih c l:=by
 unfold Ih;simp only[Ik,PY,dy,bD];split
 ·rw[(MQ c l).1,(MQ c l).2];simp
 ·rfl
def jv(s:fZ)(c:fM):fZ:=(s.1,(s.2.1.set c.1.toNat (nth ti s.2.1 c.1.toNat - c.2.2.1),(Ih c s.2.2.1,s.2.2.2)))
def WL:FF->Prop:=λ(s,c,done,i,z1,z2,z3,a1,a2,L,a3,row)=>s.2.2.1.length<=1000/\∃k:Nat,k<=s.2.2.1.length/\i=k/\L=row.length/\row.length<=2*k
def uP:FF->PK:=λ(s,c,done,i,z1,z2,z3,a1,a2,L,a3,row)=>(PY done c (s.2.2.1.drop i.toNat),(row++Ik done c (s.2.2.1.drop i.toNat)).length,row++Ik done c (s.2.2.1.drop i.toNat))
def al6:(fZ×fM)->Prop:=λ(s,c)=>s.2.2.1.length<=1000/\s.2.1.length=2/\(0<=c.1/\c.1<=1)/\Bd (nth ti s.2.1 c.1.toNat) 0 1125899906842624/\0<=c.2.2.1/\c.2.2.1<=1125899906842624
def U2:(fZ×fM)->fZ:=λ(s,c)=>jv s c
def kY:Ls WL pg uP:=oa (λ(cU,Gq,done,i,n4,lf,wy,n5,B8,VP,aaP,atm)=>⟨([bX,bX,.dN kE cU,.dN gD Gq,fc 4,fc 5,.d .bool done,.d ti i]++aW 57 []),[],(bR 4 ([di (.pr (.d ti n4) (.pr (.d (.arr 2 ti) lf) (.pr (.cX) (.d (.pair ti .unit) wy)))),di (.pr (.d ti n5) (.pr (.d (.arr 2 ti) B8) (.pr (kZ 32 VP) (.d (.pair ti .unit) aaP))))]++bR 26 ([di (.vec 103 gD atm)]++bR 32 [])))⟩) (λx=>(.exit 0,⟨([bX,bX,bX,.dN gD x.1.1,fc 4,fc 5,.d .bool x.2.1]++aW 58 []),[],(bR 4 ([di (.pr (.d ti x.1.2.1) (.pr (.d (.arr 2 ti) x.1.2.2.1) (.pr (.cX) (.d (.pair ti .unit) x.1.2.2.2.1)))),di (.pr (.d ti x.1.2.2.2.2.1) (.pr (.d (.arr 2 ti) x.1.2.2.2.2.2.1) (.pr (kZ 32 x.2.2.1) (.d (.pair ti .unit) x.1.2.2.2.2.2.2))))]++bR 26 ([di (.vec 103 gD x.2.2.2)]++bR 32 [])))⟩))
def yw:Fs Tryz.prog al6 bk U2:=dV 61 Tryz.f61 (λ(sv,c)=>([.d kE sv,.d gD c],[])) (λx=>⟨.d kE x,[],[]⟩) [av kE,av gD] [QQ] {loops:=mM [(5,{aX:=[2,3,4,5,6,7],sites:=[4,5,32],owns:=[⟨5,[.snd,.snd,.fst],32,48⟩]})],outs:=mL [(5,{aX:=[3,4,5,6],sites:=[4,5,32]},{aX:=[4]})],fo:=oR [(5,kY.E)],res:=[av kE]}
theorem WM:kY.RS:=rL [.d kE,.d gD,.d .bool,.d ti,.d ti,.d (.slice ti),.d (.pair ti .unit),.d ti,.d (.slice ti),.n,.d (.pair ti .unit),.d (.slice gD)] kY
theorem yx(cU Gq done i n4 lf wy n5 B8 VP aaP atm)(kn:K2 R)(kx:K3 R):yw.R 0 kY (cU,Gq,done,i,n4,lf,wy,n5,B8,VP,aaP,atm) kn kx=aG (fG i (cU.2.2.1.length:Int)) (aG (!done) (aG (dr i (cU.2.2.1.length:Int)) (ak (qB.call (Gq,(nth gD cU.2.2.1 (ab i)))) λx1=>aG (x1) (aG (decide (VP<=(ae atm))) (aG (db (VP+1) 40) (aG (dr i (cU.2.2.1.length:Int)) (aG (decide ((VP+1)<=(ae ((aT VP atm)++ [Gq])))) (aG (db ((VP+1)+1) 40) (kn (kY.st (cU,Gq,aS,(bl .i64 i 1),n4,lf,wy,n5,B8,((VP+1)+1),aaP,((aT (VP+1) ((aT VP atm)++ [Gq]))++ [(nth gD cU.2.2.1 (ab i))])))) aF) aF) aF) aF) aF) (aG (dr i (cU.2.2.1.length:Int)) (aG (decide (VP<=(ae atm))) (aG (db (VP+1) 40) (kn (kY.st (cU,Gq,done,(bl .i64 i 1),n4,lf,wy,n5,B8,(VP+1),aaP,((aT VP atm)++ [(nth gD cU.2.2.1 (ab i))])))) aF) aF) aF)) aF) (aG (dr i (cU.2.2.1.length:Int)) (aG (decide (VP<=(ae atm))) (aG (db (VP+1) 40) (kn (kY.st (cU,Gq,done,(bl .i64 i 1),n4,lf,wy,n5,B8,(VP+1),aaP,((aT VP atm)++ [(nth gD cU.2.2.1 (ab i))])))) aF) aF) aF)) (kY.go kx ((Gq,n4,lf,wy,n5,B8,aaP),(done,VP,atm))):=cq
theorem as7(sv c)(k:K1 R):yw.A (sv,c) k=ak (kY.call (sv,c,bq,0,0,(ai 2 0),(0,()),sv.1,sv.2.1,0,sv.2.2.2,([]:List fM))) λx3=>aG (!x3.2.1) (aG (decide (x3.2.2.1<=(ae x3.2.2.2))) (aG (db (x3.2.2.1+1) 40) (aG (dr x3.1.1.1 2) (aG (decide ((ab x3.1.1.1) < (ae x3.1.2.2.2.2.2.1))) (aG (decide ((1+(((ab x3.1.1.1)*1)+0))=(1+((ab x3.1.1.1)*1)))) (aG (dr x3.1.1.1 2) (aG (decide ((ab x3.1.1.1) < (ae x3.1.2.2.2.2.2.1))) (aG (decide ((1+(((ab x3.1.1.1)*1)+0))=(1+((ab x3.1.1.1)*1)))) (aG (decide ((ab x3.1.1.1) < (ae x3.1.2.2.2.2.2.1))) (aG (decide (0=0/\(0+(x3.2.2.1+1))<=(ae ((aT x3.2.2.1 x3.2.2.2)++ [x3.1.1])))) (k (yw.out (x3.1.2.2.2.2.1,((df x3.1.2.2.2.2.2.1 (ab x3.1.1.1) (bA .i64 (nth ti x3.1.2.2.2.2.2.1 (ab x3.1.1.1)) x3.1.1.2.2.1)),((cut ((aT x3.2.2.1 x3.2.2.2)++ [x3.1.1]) 0 (x3.2.2.1+1)),x3.1.2.2.2.2.2.2))))) aF) aF) aF) aF) aF) aF) aF) aF) aF) aF) (aG (dr x3.1.1.1 2) (aG (decide ((ab x3.1.1.1) < (ae x3.1.2.2.2.2.2.1))) (aG (decide ((1+(((ab x3.1.1.1)*1)+0))=(1+((ab x3.1.1.1)*1)))) (aG (dr x3.1.1.1 2) (aG (decide ((ab x3.1.1.1) < (ae x3.1.2.2.2.2.2.1))) (aG (decide ((1+(((ab x3.1.1.1)*1)+0))=(1+((ab x3.1.1.1)*1)))) (aG (decide ((ab x3.1.1.1) < (ae x3.1.2.2.2.2.2.1))) (aG (decide (0=0/\(0+x3.2.2.1)<=(ae x3.2.2.2))) (k (yw.out (x3.1.2.2.2.2.1,((df x3.1.2.2.2.2.2.1 (ab x3.1.1.1) (bA .i64 (nth ti x3.1.2.2.2.2.2.1 (ab x3.1.1.1)) x3.1.1.2.2.1)),((cut x3.2.2.2 0 x3.2.2.1),x3.1.2.2.2.2.2.2))))) aF) aF) aF) aF) aF) aF) aF) aF):=cq
theorem ab2:(yw.jx 0 kY):=by
 refine(yw.ky 0 kY) (λ(s,c,done,i,_)=>s.2.2.1.length - i.toNat) ?_
 rintro⟨s,c,done,i,z1,z2,z3,a1,a2,L,a3,row⟩ ⟨hl,k,hk,rfl,rfl,hr⟩;have hl:s.2.2.1.length<=1000:=hl;have hk:k<=s.2.2.1.length:=hk;have hr:row.length<=2*k:=hr;by_cases h:k < s.2.2.1.length
 ·left;have n1:nth gD s.2.2.1 k=s.2.2.1[k]:=cK (t:=gD) h;have hd:s.2.2.1.drop k=s.2.2.1[k]::s.2.2.1.drop (k+1):=aD h;have e1:∀x:fM,(row++ [x]).length=row.length+1:=λx=>by rw[aq];rfl
  have e2:∀x y:fM,(row++ [x]++ [y]).length=row.length+1+1:=λx y=>by rw[aq,aq];rfl
  by_cases hq:(!done && L9 c s.2.2.1[k])=aS
  ·refine⟨(s,c,aS,((k+1:Nat):Int),z1,z2,z3,a1,a2,row.length+1+1,a3,row++ [c]++ [s.2.2.1[k]]),⟨hl,k+1,ao,rfl,(e2 _ _).symm,by show(row++ [c]++ [s.2.2.1[k]]).length<=_;rw[e2];omega⟩,by simp only[aa];omega,?_,λkn kx=> ?_⟩
   ·simp only[pg,uP,aa,hd,Ik,PY,hq,bG,bh,fT,aR]
   ·rw[yx,aZ ao,aa,n1,N.qt ao];obtain⟨q1,q2⟩:=mO.1 hq;rw[q1,aj,aj,aV ao ao,aj,Mf,ah,q2,aj,aJ (aC _),aj,dR ao ao,aj,aj,bK];rw[aJ (by rw[e1];exact aC _),aj,dR ao ao,aj,bu (by rw[e1];exact aC _)]
  ·refine⟨(s,c,done,((k+1:Nat):Int),z1,z2,z3,a1,a2,row.length+1,a3,row++ [s.2.2.1[k]]),⟨hl,k+1,ao,rfl,(e1 _).symm,by show(row++ [s.2.2.1[k]]).length<=_;rw[e1];omega⟩,by simp only[aa];omega,?_,λkn kx=> ?_⟩
   ·simp only[pg,uP,aa,hd,Ik,PY,hq,bJ,bz,bh,dp]
   ·rw[yx,aZ ao,aa,n1,N.qt ao];rw[aj,aV ao ao,Mf,aJ (aC _),dR ao ao,bK];simp only[aj,ah];cases done
    ·have q:L9 c s.2.2.1[k]=bq:=by
      cases e:L9 c s.2.2.1[k]
      ·rfl
      ·rw[e]at hq;exact absurd rfl hq
     rw[q];rfl
    ·rfl
 ·right;obtain rfl:k=s.2.2.1.length:=ao;intro R kn kx;rw[yx,aQ ao,al];simp only[pg,uP,aa,bj,Ik,PY,bW]
theorem as8:yw.Ok:=by
 rintro⟨s,c⟩ ⟨hl,h2,hc,ha,hb⟩;have hl:s.2.2.1.length<=1000:=hl;have h2:s.2.1.length=2:=h2;have hc:0<=c.1/\c.1<=1:=hc;have aN0:=ha.1;have aN1:=ha.2;have hb:0<=c.2.2.1/\c.2.2.1<=1125899906842624:=hb;rw[as7,WM (d:=(s,c,bq,0,0,ai 2 0,(0,()),s.1,s.2.1,0,s.2.2.2,[])) ⟨hl,0,aO _,rfl,rfl,aO _⟩];simp only[ah,pg,uP,bg,aL,aR,bk,U2,jv];have hT:(Ik bq c s.2.2.1).length<=2*s.2.2.1.length:=by
  have:∀(d:Bool) (l:List fM),(Ik d c l).length<=2*l.length:=by
   intro d l
   induction l generalizing d with
   |nil=>exact aC _
   |cons x l ih=>
    rw[Ik];split
    ·have:=ih aS;simp only[aI];omega
    ·have:=ih d;simp only[aI];omega
  exact this bq _
 have i1:dr c.1 2=aS:=aV hc.1 ao;have i2:c.1.toNat < s.2.1.length:=ao;have i3:1+(c.1.toNat*1+0)=1+c.1.toNat*1:=ao;rw[dL ao ao];simp only[i1,aJ i2,aJ i3,aj,bK,Nat.zero_add,Ih];cases PY bq c s.2.2.1
 ·rw[dy,aj,aJ (aC _),aj,dR ao ao,aj,aJ ⟨trivial,by rw[aq];exact aC _⟩,aj,fb (by rw[aq];rfl)];rfl
 ·rw[bm,al,aJ ⟨trivial,aC _⟩,aj,fb rfl];rw[if_pos rfl,bW]
theorem al7:yw.RS:=rE [.d kE,.d gD] yw
def as9:=yw.dZ as8 1 ⟨.fH ab2,trivial⟩
def az3:fZ:=((0:Int),((ai 2 (0:Int)),(([]:List fM),((0:Int),()))))
def aEe(ch:fu)(t:fZ)(c:fM):Int:=nth ti t.2.1 c.1.toNat - (if c.1=ch.2.2.2.2.1 then On t.2.2.2.1 t.2.2.1.length+660 else 0)
def PL(ch:fu)(s:fZ)(c:fM):fZ×Int:=if(IU ch s && ab7 c)=aS then if s.2.2.1.any (anl c.1 c.2.1)=aS then(az3,4) else if s.2.2.1.length=16 then(az3,3) else if fx (j6 (1 - c.1) s.2.2.1)+c.2.2.1 > 1125899906842624 then(az3,6) else if nth ti (jv s c).2.1 c.1.toNat < 0 then(az3,8) else if nth ti (jv s c).2.1 ch.2.2.2.2.1.toNat < On (jv s c).2.2.2.1 (jv s c).2.2.1.length+660 then(az3,8) else if aEe ch (jv s c) c < 200 then(az3,10) else(jv s c,0) else(az3,1)
def aou:(fu×fZ×fM)->Prop:=λ(ch,s,c)=>l9 ch/\A5 s/\eG c.2.2.2.1
def Y1:(fu×fZ×fM)->(fZ×Int):=λ(ch,s,c)=>PL ch s c
def qA:Fs Tryz.prog aou bk Y1:=dV 28 Tryz.f28 (λ(ch,sv,c)=>([.d lg ch,.d kE sv,.d gD c],[])) (λx=>⟨.cons (.d kE x.1) (.cons (.d ti x.2) (.nil)),[],[]⟩) [av lg,av kE,av gD] [TK,Xw,aj9,afb,as9,Xg] {res:=[av kE,aF]}
theorem atB(ch sv c)(k:K1 R):qA.A (ch,sv,c) k=ak (gb.call (ch,sv)) λx1=>ak (sH.call c) λx2=>aG (!x1) (k (qA.out ((0,((ai 2 0),(([]:List fM),(0,())))),1))) (aG (!x2) (k (qA.out ((0,((ai 2 0),(([]:List fM),(0,())))),1))) (ak (pv.call (sv,c.1,c.2.1)) λx3=>aG (qS x3 0) (k (qA.out ((0,((ai 2 0),(([]:List fM),(0,())))),4))) (aG (dr (bA .i64 1 c.1) 2) (ak (C5.call (sv,(bA .i64 1 c.1))) λx4=>aG (fG c.2.2.1 (nth oO ch.2.2.2.1 (ab (bA .i64 1 c.1))).2.2.2.2.1) (k (qA.out ((0,((ai 2 0),(([]:List fM),(0,())))),9))) (aG (kK (sv.2.2.1.length:Int) 16) (k (qA.out ((0,((ai 2 0),(([]:List fM),(0,())))),3))) (aG (qS x4.1 (nth oO ch.2.2.2.1 (ab (bA .i64 1 c.1))).2.2.2.1) (k (qA.out ((0,((ai 2 0),(([]:List fM),(0,())))),3))) (aG (vh (bl .i64 x4.2 c.2.2.1) (nth oO ch.2.2.2.1 (ab (bA .i64 1 c.1))).2.2.2.2.2.1) (k (qA.out ((0,((ai 2 0),(([]:List fM),(0,())))),6))) (ak (yw.call (sv,c)) λx5=>ak (DT.call (ch,x5)) λx6=>aG (dr c.1 2) (aG (decide ((ab c.1) < (ae x5.2.1))) (aG (decide ((1+(((ab c.1)*1)+0))=(1+((ab c.1)*1)))) (aG (fG (nth ti x5.2.1 (ab c.1)) 0) (k (qA.out ((0,((ai 2 0),(([]:List fM),(0,())))),8))) (aG (dr ch.2.2.2.2.1 2) (aG (decide ((ab ch.2.2.2.2.1) < (ae x5.2.1))) (aG (decide ((1+(((ab ch.2.2.2.2.1)*1)+0))=(1+((ab ch.2.2.2.2.1)*1)))) (aG (fG (nth ti x5.2.1 (ab ch.2.2.2.2.1)) x6) (k (qA.out ((0,((ai 2 0),(([]:List fM),(0,())))),8))) (aG (dr c.1 2) (aG (decide ((ab c.1) < (ae x5.2.1))) (aG (decide ((1+(((ab c.1)*1)+0))=(1+((ab c.1)*1)))) (aG (kK c.1 ch.2.2.2.2.1) (aG (fG (bA .i64 (nth ti x5.2.1 (ab c.1)) x6) (nth oO ch.2.2.2.1 (ab (bA .i64 1 c.1))).2.1) (k (qA.out ((0,((ai 2 0),(([]:List fM),(0,())))),10))) (k (qA.out (x5,0)))) (aG (fG (nth ti x5.2.1 (ab c.1)) (nth oO ch.2.2.2.1 (ab (bA .i64 1 c.1))).2.1) (k (qA.out ((0,((ai 2 0),(([]:List fM),(0,())))),10))) (k (qA.out (x5,0))))) aF) aF) aF)) aF) aF) aF)) aF) aF) aF))))) aF))):=cq
structure Gk(ch:fu)(s:fZ):Prop where
 no:0<=s.1/\s.1<=1048576
 h0:Bd (nth ti s.2.1 0) 0 1125899906842624
 h1:Bd (nth ti s.2.1 1) 0 1125899906842624
 bo:0<=s.2.2.2.1/\s.2.2.2.1<=1000
 len:s.2.2.1.length<=16
 pZ:zG aF s.2.2.1=aS
 o0:fx (j6 0 s.2.2.1)<=1125899906842624
 o1:fx (j6 1 s.2.2.1)<=1125899906842624
 aHs: @Eq Int (nth ti s.2.1 0+nth ti s.2.1 1+fx s.2.2.1) ch.2.1
 cost: @GE.ge Int _ (nth ti s.2.1 ch.2.2.2.2.1.toNat) (On s.2.2.2.1 s.2.2.1.length+660)
theorem yh{ch:fu}{s:fZ}:IU ch s=aS↔Gk ch s:=by unfold IU kK qS;simp only[au,wb,aP,dk];exact⟨λ⟨a,b,c,d,e,f,g,h,i,j⟩=>⟨a,b,c,d,e,f,g,h,i,j⟩,λh=>⟨h.no,h.h0,h.h1,h.bo,h.len,h.pZ,h.o0,h.o1,h.aHs,h.cost⟩⟩
theorem Gk.avD{ch:fu}{s:fZ}(h:Gk ch s){n:Int}(hn:n=0\/n=1):Bd (nth ti s.2.1 n.toNat) 0 1125899906842624:=by
 rcases hn with rfl | rfl
 ·exact h.h0
 ·exact h.h1
theorem Gk.a{ch:fu}{s:fZ}(h:Gk ch s):∀c∈s.2.2.1,ab6 c:=λc hc=>(Av _ _ h.pZ c hc).a
theorem Gk.off{ch:fu}{s:fZ}(h:Gk ch s){n:Int}(hn:n=0\/n=1):0<=fx (j6 n s.2.2.1)/\fx (j6 n s.2.2.1)<=1125899906842624:=by
 refine⟨(amk _ λc hc=>h.a c ((fp.1 hc).1)).1,?_⟩;rcases hn with rfl | rfl
 ·exact h.o0
 ·exact h.o1
theorem Sn:∀(c:fM) (l:List fM),(Ih c l).length=l.length+1
 |c,[]=>rfl
 |c,x::l=>by
  rw[FX];split
  ·rfl
  ·rw[aI,Sn c l];rfl
theorem ae6{l:List Int}(h:l.length=2)(a b v:Int)(ha:a=0\/a=1)(hb:b=0\/b=1):nth ti (l.set a.toNat v) b.toNat=if a=b then v else nth ti l b.toNat:=by
 match l,h with
 |[x,y],_=>
  rcases ha with rfl | rfl <;> rcases hb with rfl | rfl <;> rfl
theorem ayZ{n:Int}(h:0<=n/\n<=1):n=0\/n=1:=ao
theorem atC:qA.Ok:=by
 rintro⟨ch,s,c⟩ ⟨dx,hu,hc⟩;have dx:l9 ch:=dx;have hu:A5 s:=hu;rw[atB,Pj (d:=(ch,s)) ⟨dx,hu⟩];simp only[ah,bk,Gb];rw[RR (d:=c) hc];simp only[ah,bk,JZ,bk,Y1,PL];cases e1:IU ch s
 ·rfl
 cases e2:ab7 c
 ·rfl
 have hs:=yh.1 e1;have g:=vB.1 e2;have gs:=ayZ g.side;have hlen:=hs.len;simp only[bm,al,kc,bG];rw[afp (d:=(s,c.1,c.2.1)) hu.2.1];simp only[ah,bk,Nj,Kh];cases e3:s.2.2.1.any (anl c.1 c.2.1);rotate_left
 ·rfl
 have gs':1 - c.1=0\/1 - c.1=1:=ao;obtain⟨d,hd,_⟩:=dx.t gs';simp only[al,bJ,bz];rw[abC g.side,aV ao ao,aj,Nd (d:=(s,1 - c.1)) ⟨gs',hs.a,hu.2.1⟩];simp only[ah,bk,KN];rw[hd,aLr,azt,aI7,aNz,aQ (by have:=g.U5;omega),al];by_cases e4:s.2.2.1.length=16
 ·rw[dU ao,aj,if_pos e4];rfl
 have ho:=KO (1 - c.1) s.2.2.1;have aJC:=hs.off gs';have ga:=g.U5;rw[dF ao,al,if_neg e4,eL ao,al,cQ ao ao];by_cases e5:fx (j6 (1 - c.1) s.2.2.1)+c.2.2.1 > 1125899906842624
 ·rw[dw e5,aj,if_pos e5];rfl
 have hv:=hs.avD gs;have aD6:=hv.1;have aFI:=hv.2;rw[cJ e5,al,if_neg e5,al7 (d:=(s,c)) ⟨hu.2.1,hu.2.2,g.side,hv,g.a.1,g.a.2⟩];simp only[ah,bk,U2];rw[Rp (d:=(ch,jv s c)) trivial];simp only[ah,bk,Ro];have l2:(jv s c).2.1.length=2:=by show(df _ _ _).length=2;rw[cD];exact hu.2.2
 have cZ:=dx.op;have i1:dr c.1 2=aS:=aV g.side.1 ao;have i2:c.1.toNat < (jv s c).2.1.length:=by rw[l2];omega
 have i3:1+(c.1.toNat*1+0)=1+c.1.toNat*1:=ao;have j1:dr ch.2.2.2.2.1 2=aS:=aV ao ao;have j2:ch.2.2.2.2.1.toNat < (jv s c).2.1.length:=by rw[l2];omega
 have j3:1+(ch.2.2.2.2.1.toNat*1+0)=1+ch.2.2.2.2.1.toNat*1:=ao;simp only[i1,aJ i2,aJ i3,j1,aJ j2,aJ j3,aj];by_cases e6:nth ti (jv s c).2.1 c.1.toNat < 0
 ·rw[aZ e6,aj,if_pos e6];rfl
 rw[aQ e6,al,if_neg e6];by_cases e7:nth ti (jv s c).2.1 ch.2.2.2.2.1.toNat < On (jv s c).2.2.2.1 (jv s c).2.2.1.length+660
 ·rw[aZ e7,aj,if_pos e7];rfl
 have hf:=DY (jv s c).2.2.2.1 (jv s c).2.2.1.length;have hw: @Eq Int (nth ti (jv s c).2.1 c.1.toNat) (nth ti s.2.1 c.1.toNat - c.2.2.1):=by show nth ti (df _ _ _) _=_;rw[ae6 hu.2.2 _ _ _ gs gs,if_pos rfl]
 rw[aQ e7,al,if_neg e7];unfold aEe;by_cases e8:c.1=ch.2.2.2.2.1
 ·rw[dU e8,aj,dL ao ao,if_pos e8];by_cases e9:nth ti (jv s c).2.1 c.1.toNat - (On (jv s c).2.2.2.1 (jv s c).2.2.1.length+660) < 200
  ·rw[aZ e9,aj,if_pos e9];rfl
  ·rw[aQ e9,al,if_neg e9]
 ·rw[dF e8,al,if_neg e8,nL];by_cases e9:nth ti (jv s c).2.1 c.1.toNat < 200
  ·rw[aZ e9,aj,if_pos e9];rfl
  ·rw[aQ e9,al,if_neg e9]
theorem aov:qA.RS:=rE [.d lg,.d kE,.d gD] qA
def atD:=qA.dZ atC
section
abbrev Pd:=Bs×Nat×Int×(List Int)
def Wa:Pd->Prop:=λ(h,m,i,l)=>h.length=32/\m=l.length/\∃k:Nat,k<=32/\i=k/\l.length<=100000000+k
def zh:Pd->(Nat×(List Int)):=λ(h,m,i,l)=>((l++h.drop i.toNat).length,l++h.drop i.toNat)
def akx:(Bs×Bs)->Prop:=λ(b,h)=>b.length<=90000000/\h.length=32
def Tx:(Bs×Bs)->Bs:=λ(b,h)=>b++h
def oh:Ls Wa bk zh:=oa (λ(Ap,outL,i,n7)=>⟨([bX,bX,bX,.dN tH Ap,bX,kZ 7 outL,.d ti i]++aW 14 []),[],(bR 7 ([di (.vec 5 tb n7)]++bR 13 []))⟩) (λx=>(.exit 0,⟨(aW 5 ([kZ 7 x.1]++aW 15 [])),[],(bR 7 ([di (.vec 5 tb x.2)]++bR 13 []))⟩))
def Ad:Fs Tryz.prog akx bk Tx:=dV 103 Tryz.f103 (λ(b,h)=>([.d tB b,.d tH h],[])) (λx=>⟨.d tB x,[],[]⟩) [av tB,av tH] [] {bH:=[7],loops:=mM [(3,{aX:=[3,5,6],sites:=[7],owns:=[⟨5,[],7,132⟩]})],outs:=mL [(3,{aX:=[5],sites:=[7]},{aX:=[4]})],fo:=oR [(3,oh.E)],res:=[av tB]}
theorem Wb:oh.RS:=rL [.d tH,.n,.d ti,.d tB] oh
theorem EL(Ap outL i n7)(kn:K2 R)(kx:K3 R):Ad.R 0 oh (Ap,outL,i,n7) kn kx=aG (fG i 32) (aG (dr i 32) (aG (decide (outL<=(ae n7))) (aG (db (outL+1) 1) (kn (oh.st (Ap,(outL+1),(bl .i64 i 1),((aT outL n7)++ [(nth tb Ap (ab i))])))) aF) aF) aF) (oh.go kx (outL,n7)):=cq
theorem arS(b h)(k:K1 R):Ad.A (b,h) k=aG (db (0+(ae b)) 1) (ak (oh.call (h,(0+(ae b)),0,((aT 0 (ai 0 0))++b))) λx1=>aG (decide (0=0/\(0+x1.1)<=(ae x1.2))) (k (Ad.out (cut x1.2 0 x1.1))) aF) aF:=cq
theorem aa8:(Ad.jx 0 oh):=by
 refine(Ad.ky 0 oh) (λ(_,_,i,_)=>(32 - i).toNat) ?_
 rintro⟨h,m,i,l⟩ ⟨aFj,rfl,k,hk,rfl,hl⟩;have aFj:h.length=32:=aFj;have hl:l.length<=100000000+k:=hl;by_cases iI:k < 32
 ·left;have n1:nth tb h k=h[k]:=cK (t:=tb) ao;have el:(l++ [h[k]]).length=l.length+1:=by rw[aq];rfl
  refine⟨(h,l.length+1,((k+1:Nat):Int),l++ [h[k]]),⟨aFj,el.symm,k+1,ao,rfl,by show(l++ [h[k]]).length<=_;omega⟩,by show(32 - ((k+1:Nat):Int)).toNat < (32 - (k:Int)).toNat;omega,?_,λkn kx=> ?_⟩
  ·simp only[bk,zh,aa];rw[aD (show k < h.length by omega),bh,dp]
  ·rw[EL,aZ ao,aj,aV ao ao,aj,aJ (aC _),aj,dR ao ao,aj,N.qt ao,aa,n1,bK]
 ·right;obtain rfl:k=32:=ao;intro T kn kx;rw[EL,aQ ao,al];simp only[bk,zh,aa];rw[eh ao,bW]
theorem arT:Ad.Ok:=by rintro⟨b,h⟩ ⟨hb,aFj⟩;have hb:b.length<=90000000:=hb;have aFj:h.length=32:=aFj;rw[arS];simp only[Nat.zero_add,fJ,aR];rw[dR ao ao,aj,Wb (d:=(h,b.length,0,b)) ⟨aFj,rfl,0,ao,rfl,ao⟩];simp only[ah,bk,zh,bg,aL,aC,jM,cP,aj,fb,bk,Tx]
theorem aky:Ad.RS:=rE [.d tB,.d tB] Ad
def arU:=Ad.dZ arT 1 ⟨.fH aa8,trivial⟩
noncomputable section
def aIR:ByteArray:=⟨#[107,105,116]⟩
theorem afk:∃f:List Int->Int->List Int,∀s n,f s n=Ux aIR [s,[n]]:=⟨_,λ_ _=>rfl⟩
def o9:List Int->Int->List Int:=Classical.choose afk
theorem AW(s:List Int)(n:Int):o9 s n=Ux aIR [s,[n]]:=mA afk s n
theorem afl(s:List Int)(n:Int):Sm (o9 s n):=by rw[AW];exact Um _ _
def nV(seed:List Int):sj:=(iw (o9 seed 1),(iw (o9 seed 2),(iw (o9 seed 3),(iw (o9 seed 4),(iw (o9 seed 5),(o9 seed 6,()))))))
def Bi(k:sj):atu:=(dv k.1,(dv k.2.1,(dv k.2.2.1,(dv k.2.2.2.1,(dv k.2.2.2.2.1,())))))
def YU(k:sj):Prop:=eG k.1/\eG k.2.1/\eG k.2.2.1/\eG k.2.2.2.1/\eG k.2.2.2.2.1
theorem D5(h:List Int):eG (iw h):=by have:=jV h;exact⟨ao,ao⟩
theorem Ee(s:List Int):YU (nV s):=⟨D5 _,D5 _,D5 _,D5 _,D5 _⟩
theorem acz{k:Int}(h0:0 < k)(h1:k < 2305843009213688669):aty (dv k):=by refine⟨Bj k,?_⟩;unfold V3;rw[Eb,bD];exact gH (λe=>aDQ (n:=k.toNat) ao ao (by rw[<-yH k ao];exact e))
theorem D4(h:List Int):aty (dv (iw h)):=acz (jV h).1 (jV h).2
theorem amo(s:List Int):aEH (Bi (nV s)):=⟨D4 _,D4 _,D4 _,D4 _,D4 _⟩
def ajY:(Bs×Int)->Prop:=λ(s,_)=>s.length=32
def afj:(Bs×Int)->Bs:=λ(s,n)=>o9 s n
def sP:Fs Tryz.prog ajY bk afj:=dV 50 Tryz.f50 (λ(seed,n)=>([.d tH seed,.d tb n],[])) (λx=>⟨.d tH x,[],[]⟩) [av tH,av tb] [arU,aCV]
theorem ari(seed n)(k:K1 R):sP.A (seed,n) k=ak (Ad.call ((ai 0 0),seed)) λx1=>ak (Wj.call ((⟨#[107,105,116]⟩:ByteArray),[x1,[n]])) λx2=>k (sP.out x2):=cq
theorem arj:sP.Ok:=by rintro⟨s,n⟩ hs;have hs:s.length=32:=hs;rw[ari,aky (d:=(ai 0 0,s)) ⟨fg,hs⟩];simp only[ah,bk,Tx];rw[show(ai 0 (0:Int)++s)=s from rfl,ayA (d:=((⟨#[107,105,116]⟩:ByteArray),[s,[n]])) (Uy fg ao (by show 1<=_;decide))];simp only[ah,bk,ayy,bk,afj,AW];rfl
theorem ajZ:sP.RS:=rE [.d tB,.d tb] sP
def ark:=sP.dZ arj
def aqv:Bs->Prop:=λs=>s.length=32
def aat:Bs->sj:=λs=>nV s
def OH:Fs Tryz.prog aqv bk aat:=dV 23 Tryz.f23 (λseed=>([.d tH seed],[])) (λx=>⟨.d oN x,[],[]⟩) [av tH] [ark,arL]
theorem awB(seed)(k:K1 R):OH.A seed k=ak (sP.call (seed,1)) λx1=>ak (pV.call x1) λx2=>ak (sP.call (seed,2)) λx3=>ak (pV.call x3) λx4=>ak (sP.call (seed,3)) λx5=>ak (pV.call x5) λx6=>ak (sP.call (seed,4)) λx7=>ak (pV.call x7) λx8=>ak (sP.call (seed,5)) λx9=>ak (pV.call x9) λMc=>ak (sP.call (seed,6)) λQK=>k (OH.out (x2,(x4,(x6,(x8,(Mc,(QK,()))))))):=cq
theorem awC:OH.Ok:=by
 intro s hs;have q:∀n,sP.call (s,n)=av (o9 s n):=λn=>ajZ (d:=(s,n)) hs
 have r:∀n,pV.call (o9 s n)=av (iw (o9 s n)):=λn=>aki (d:=o9 s n) (afl s n)
 rw[awB];simp only[q,r,ah];rfl
theorem XT:OH.RS:=rE [.d tB] OH
def awD:=OH.dZ awC
def aoE:sj->Prop:=λk=>YU k
def amn:sj->atu:=λk=>Bi k
def QW:Fs Tryz.prog aoE bk amn:=dV 24 Tryz.f24 (λkv=>([.d oN kv],[])) (λx=>⟨.d rQ x,[],[]⟩) [av oN] [arO]
theorem atF(kv)(k:K1 R):QW.A kv k=ak (xS.call kv.1) λx1=>ak (xS.call kv.2.1) λx2=>ak (xS.call kv.2.2.1) λx3=>ak (xS.call kv.2.2.2.1) λx4=>ak (xS.call kv.2.2.2.2.1) λx5=>k (QW.out (x1,(x2,(x3,(x4,(x5,())))))):=cq
theorem atG:QW.Ok:=by rintro k ⟨h1,h2,h3,h4,h5⟩;rw[atF,xT (d:=k.1) h1];simp only[ah,bk,EJ];rw[xT (d:=k.2.1) h2];simp only[ah,bk,EJ];rw[xT (d:=k.2.2.1) h3];simp only[ah,bk,EJ];rw[xT (d:=k.2.2.2.1) h4];simp only[ah,bk,EJ];rw[xT (d:=k.2.2.2.2.1) h5];rfl
theorem aoF:QW.RS:=rE [.d oN] QW
def atH:=QW.dZ atG
def abl(o:amg):Int:=1+o.2.2.2.1%2305843009213688668
theorem aC0{o:amg}:0 < abl o/\abl o < 2305843009213688669:=by unfold abl;omega
def asm:amg->Prop:=λo=>eG o.2.2.2.1
def anY:amg->Int:=λo=>abl o
def T0:Fs Tryz.prog asm bk anY:=dV 27 Tryz.f27 (λo=>([.d aAe o],[])) (λx=>⟨.d tu x,[],[]⟩) [av aAe]
theorem ayJ(o)(k:K1 R):T0.A o k=k (T0.out (bl .u64 1 (eA o.2.2.2.1 2305843009213688668))):=cq
theorem ayK:T0.Ok:=by
 intro o ho;have:=ho.1;rw[ayJ,gU ho.1];have e:bl .u64 1 (o.2.2.2.1%2305843009213688668)=abl o:=by unfold abl;rw[mG,fE ao ao]
 rw[e];rfl
theorem asn:T0.RS:=rE [.d aAe] T0
def ayL:=T0.dZ ayK
abbrev Ep:=Jf×Int×fu×(List sj)×Int×(List Int)×(Int×Unit)×(List sj)×fu
def tw:Ep->fu->((Jf×fu×(List sj)×Int×(List Int)×(Int×Unit)×(List sj))×(fu)):=λ(aGe,i,n2,n3,n4,lf,wy,n5,n6) y=>((aGe,n2,n3,n4,lf,wy,n5),y)
abbrev Es:=Jf×Int×fu×(List sj)×Int×(List Int)×(Int×Unit)×(List sj)×fu×fZ
def tx:Es->fZ->((fu×(List sj)×Int×(List Int)×(Int×Unit)×(List sj)×fu)×(fZ)):=λ(atn,iA,jG,aaL,aaM,aaN,aaO,B8,uo,n8) y=>((jG,aaL,aaM,aaN,aaO,B8,uo),y)
def aJU(o:amg):Prop:=(0<=o.1/\o.1 < 256)/\(0<=o.2.1/\o.2.1 < 65536)/\(0<=o.2.2.1/\o.2.2.1 < 65536)/\eG o.2.2.2.1
structure amh(p:Jf):Prop where
 len:p.1.length=2
 s0:(nth tH p.1 0).length=32
 s1:(nth tH p.1 1).length=32
 U5:0<=p.2.1/\p.2.1 < 4294967296
 own:0<=p.2.2.1/\p.2.2.1 < 4294967296
 bo:0<=p.2.2.2.1/\p.2.2.2.1 < 256
 op:0<=p.2.2.2.2.1/\p.2.2.2.2.1 < 256
 aGb:∀o∈p.2.2.2.2.2.1,aJU o
 room:p.2.2.2.2.2.1.length<=9223372036854775807
 no:0<=p.2.2.2.2.2.2.1/\p.2.2.2.2.2.2.1 < 65536
def ajV(i:Nat)(o:amg):fM:=(o.1%2,((i:Int)+1,(1+o.2.1,(dv (abl o),(1+o.2.2.1,())))))
def Ff(ch:fu)(s:fZ)(i:Nat)(o:amg):fZ:=if(PL ch s (ajV i o)).2=0 then(PL ch s (ajV i o)).1 else s
def uk(ch:fu):fZ->Nat->List amg->fZ
 |s,_,[]=>s
 |s,i,o::l=>if i < 20 then uk ch (Ff ch s i o) (i+1) l else s
def o5(p:Jf):List sj:=[nV (nth tH p.1 0),nV (nth tH p.1 1)]
def yA(p:Jf):fu:=Gw (20000+p.2.1) (Bi (nV (nth tH p.1 0))) (Bi (nV (nth tH p.1 1))) (p.2.2.2.2.1%2)
def C1(p:Jf):List Int:=[p.2.2.1%(20000+p.2.1+1),20000+p.2.1 - p.2.2.1%(20000+p.2.1+1)]
def akS(p:Jf)(l:List Int):fZ:=(p.2.2.2.2.2.2.1,(l,(([]:List fM),(p.2.2.2.1%8,()))))
def akT(p:Jf):fZ:=if IU (yA p) (akS p (C1 p))=aS then akS p (C1 p) else akS p (((C1 p).set (p.2.2.2.2.1%2).toNat (20000+p.2.1)).set (1 - p.2.2.2.2.1%2).toNat 0)
def QF(p:Jf):fZ:=uk (yA p) (akT p) 0 p.2.2.2.2.2.1
theorem acM{p:Jf}(h:amh p):l9 (yA p):=by have:=h.U5;have:=h.op;exact⟨_,_,_,_,rfl,ao,ao,amo _,amo _,ao⟩
theorem Kk:∀(c:fM) (l:List fM) (x:fM),x∈Ih c l↔x=c\/x∈l
 |c,[],x=>by simp[Ih,Ik,PY]
 |c,y::l,x=>by
  rw[FX];split
  ·simp
  ·rw[bI,Kk c l x,bI];constructor
   ·rintro(h | h | h) <;> simp[h]
   ·rintro(h | h | h) <;> simp[h]
theorem Y2{ch:fu}{s:fZ}{c:fM}(h:(PL ch s c).2=0):(PL ch s c).1=jv s c/\Gk ch s/\aDJ c/\s.2.2.1.any (anl c.1 c.2.1)=bq/\s.2.2.1.length≠16/\
  fx (j6 (1 - c.1) s.2.2.1)+c.2.2.1<=1125899906842624/\0<=nth ti (jv s c).2.1 c.1.toNat/\On (jv s c).2.2.2.1 (jv s c).2.2.1.length+660<=nth ti (jv s c).2.1 ch.2.2.2.2.1.toNat:=by
 unfold PL at h ⊢;split at h
 ·next e=>
  rw[if_pos e];split at h
  ·exact absurd h fg
  ·next e1=>
   rw[if_neg e1];split at h
   ·exact absurd h fg
   ·next e2=>
    rw[if_neg e2];split at h
    ·exact absurd h fg
    ·next e3=>
     rw[if_neg e3];split at h
     ·exact absurd h fg
     ·next e4=>
      rw[if_neg e4];split at h
      ·exact absurd h fg
      ·next e5=>
       rw[if_neg e5];split at h
       ·exact absurd h fg
       ·next e6=>
        rw[if_neg e6];have e':=mO.1 e;exact⟨rfl,yh.1 e'.1,vB.1 e'.2,by simpa using e1,e2,ao,Int.not_lt.1 e4,Int.not_lt.1 e5⟩
 ·exact absurd h fg
theorem alA{ch:fu}{s:fZ}{i:Nat}{o:amg}(h:A5 s):A5 (Ff ch s i o):=by
 unfold Ff;split
 ·next e=>
  obtain⟨e1,hs,_⟩:=Y2 e;rw[e1];refine⟨λc hc=> ?_,?_,?_⟩
  ·have hc:c∈Ih (ajV i o) s.2.2.1:=hc;rcases(Kk _ _ _).1 hc with rfl | hc
   ·exact Bj _
   ·exact h.1 c hc
  ·show(Ih _ _).length<=1000;rw[Sn];have:=hs.len;omega
  ·show(df _ _ _).length=2;rw[cD];exact h.2.2
 ·exact h
theorem axm{ch:fu}:∀(l:List amg) (s:fZ) (i:Nat),A5 s->A5 (uk ch s i l)
 |[],_,_,h=>h
 |o::l,s,i,h=>by
  rw[uk];split
  ·exact axm l _ _ (alA h)
  ·exact h
theorem ayD(p:Jf)(l:List Int)(h:l.length=2):A5 (akS p l):=⟨λc hc=>(by cases hc),aO _,h⟩
theorem anW(p:Jf):A5 (akT p):=by
 unfold akT;split
 ·exact ayD p _ rfl
 ·exact ayD p _ (by rw[cD,cD];rfl)
theorem azh(p:Jf):A5 (QF p):=axm _ _ _ (anW p)
def Pu(i:Nat)(ks:List sj)(ch:fu):fu:=(ch.1,(ch.2.1,(ch.2.2.1.set i (Bi (nth oN ks i)),(ch.2.2.2.1.set i (te (5+i)),ch.2.2.2.2))))
def VF:Ep->Prop:=λ(p,i,z1,z2,z3,z4,z5,ks,ch)=>ks.length=2/\(∀k∈ks,YU k)/\ch.2.2.1.length=2/\ch.2.2.2.1.length=2/\(i=0\/i=1\/i=2)
def y7:Ep->fu:=λ(p,i,z1,z2,z3,z4,z5,ks,ch)=>if i=0 then Pu 1 ks (Pu 0 ks ch) else if i=1 then Pu 1 ks ch else ch
def VH:Es->Prop:=λ(p,i,z1,z2,z3,z4,z5,ks,ch,s)=>l9 ch/\A5 s/\(∀o∈p.2.2.2.2.2.1,aJU o)/\p.2.2.2.2.2.1.length<=9223372036854775807/\∃k:Nat,k<=p.2.2.2.2.2.1.length/\i=k
def y8:Es->fZ:=λ(p,i,z1,z2,z3,z4,z5,ks,ch,s)=>uk ch s i.toNat (p.2.2.2.2.2.1.drop i.toNat)
def ajB:Jf->Prop:=λp=>amh p
def KC:Jf->(fu×(List sj)×fZ):=λp=>(yA p,o5 p,QF p)
def jJ:Ls VF tw y7:=oa (λ(aGe,i,n2,n3,n4,lf,wy,n5,n6)=>⟨([bX,.dN agE aGe,fc 2,fc 3,fc 4,fc 5,fc 6,.d ti i]++aW 130 []),[],([[],[],di (.d lg n2),di (.d (.arr 2 oN) n3),di (.pr (.d ti n4) (.pr (.d (.arr 2 ti) lf) (.pr (.cX) (.d (.pair ti .unit) wy)))),di (.d (.arr 2 oN) n5),di (.d lg n6)]++bR 131 [])⟩) (λx=>(.exit 0,⟨([bX,.dN agE x.1.1,fc 2,fc 3,fc 4,fc 5,fc 6]++aW 131 []),[],([[],[],di (.d lg x.1.2.1),di (.d (.arr 2 oN) x.1.2.2.1),di (.pr (.d ti x.1.2.2.2.1) (.pr (.d (.arr 2 ti) x.1.2.2.2.2.1) (.pr (.cX) (.d (.pair ti .unit) x.1.2.2.2.2.2.1)))),di (.d (.arr 2 oN) x.1.2.2.2.2.2.2),di (.d lg x.2)]++bR 131 [])⟩))
def jj:Ls VH tx y8:=oa (λ(atn,iA,jG,aaL,aaM,aaN,aaO,B8,uo,n8)=>⟨([bX,.dN agE atn,fc 2,fc 3,fc 4,fc 5,fc 6,bX,fc 8,bX,.d ti iA]++aW 127 []),[],([[],[],di (.d lg jG),di (.d (.arr 2 oN) aaL),di (.pr (.d ti aaM) (.pr (.d (.arr 2 ti) aaN) (.pr (.cX) (.d (.pair ti .unit) aaO)))),di (.d (.arr 2 oN) B8),di (.d lg uo),[],di (.d kE n8)]++bR 129 [])⟩) (λx=>(.exit 2,⟨([bX,bX,fc 2,fc 3,fc 4,fc 5,fc 6,bX,fc 8]++aW 129 []),[],([[],[],di (.d lg x.1.1),di (.d (.arr 2 oN) x.1.2.1),di (.pr (.d ti x.1.2.2.1) (.pr (.d (.arr 2 ti) x.1.2.2.2.1) (.pr (.cX) (.d (.pair ti .unit) x.1.2.2.2.2.1)))),di (.d (.arr 2 oN) x.1.2.2.2.2.2.1),di (.d lg x.1.2.2.2.2.2.2),[],di (.d kE x.2)]++bR 129 [])⟩))
def lU:Fs Tryz.prog ajB bk KC:=dV 5 Tryz.f5 (λp=>([.d agE p],[])) (λx=>⟨.cons (.d lg x.1) (.cons (.d (.arr 2 oN) x.2.1) (.cons (.d kE x.2.2) (.nil))),[],[]⟩) [av agE] [awD,atH,TK,ayL,uv,atD] {loops:=mM [(4,{aX:=[1,2,3,4,5,6,7],sites:=[2,3,4,5,6]}),(16,{aX:=[1,2,3,4,5,6,8,10],sites:=[2,3,4,5,6,8],Vp:=[⟨8,[.arr],kE⟩]})],outs:=mL [(4,{aX:=[1,2,3,4,5,6],sites:=[2,3,4,5,6]},{aX:=[2,3,4]}),(16,{aX:=[2,3,4,5,6,8],sites:=[2,3,4,5,6,8]},{aX:=[2,3,4]})],fo:=oR [(4,jJ.E),(16,jj.E)]}
theorem VG:jJ.RS:=rL [.d agE,.d ti,.d lg,.d (.slice oN),.d ti,.d (.slice ti),.d (.pair ti .unit),.d (.slice oN),.d lg] jJ
theorem Er(aGe i n2 n3 n4 lf wy n5 n6)(kn:K2 R)(kx:K3 R):lU.R 0 jJ (aGe,i,n2,n3,n4,lf,wy,n5,n6) kn kx=aG (fG i 2) (aG (dr i 2) (aG (decide ((ab i) < (ae n5))) (aG (decide ((((ab i)*37)+0)=(0+((ab i)*37)))) (ak (QW.call (nth oN n5 (ab i))) λx1=>aG (dr i 2) (aG (decide ((ab i) < (ae n6.2.2.1))) (aG (decide ((33+(1+(((ab i)*5)+0)))=(34+((ab i)*5)))) (aG (decide ((ab i) < (ae n6.2.2.1))) (aG (dr i 2) (aG (decide ((ab i) < (ae n6.2.2.2.1))) (aG (decide ((33+(1+(10+(((ab i)*6)+0))))=(44+((ab i)*6)))) (aG (decide ((ab i) < (ae n6.2.2.2.1))) (kn (jJ.st (aGe,(bl .i64 i 1),n2,n3,n4,lf,wy,n5,(n6.1,(n6.2.1,((df n6.2.2.1 (ab i) x1),((df n6.2.2.2.1 (ab i) (100,(200,((bl .i64 5 i),(16,(1,(1125899906842624,()))))))),n6.2.2.2.2))))))) aF) aF) aF) aF) aF) aF) aF) aF) aF) aF) aF) (jJ.go kx ((aGe,n2,n3,n4,lf,wy,n5),n6)):=cq
theorem VI:jj.RS:=rL [.d agE,.d ti,.d lg,.d (.slice oN),.d ti,.d (.slice ti),.d (.pair ti .unit),.d (.slice oN),.d lg,.d kE] jj
theorem xF(atn iA jG aaL aaM aaN aaO B8 uo n8)(kn:K2 R)(kx:K3 R):lU.R 1 jj (atn,iA,jG,aaL,aaM,aaN,aaO,B8,uo,n8) kn kx=aG (fG iA (atn.2.2.2.2.2.1.length:Int)) (aG (fG iA 20) (aG (dr iA (atn.2.2.2.2.2.1.length:Int)) (ak (T0.call (nth aAe atn.2.2.2.2.2.1 (ab iA))) λx1=>ak (qk.call x1) λx2=>ak (qA.call (uo,n8,((dd .i64 (eA (nth aAe atn.2.2.2.2.2.1 (ab iA)).1 2)),((bl .i64 iA 1),((bl .i64 1 (dd .i64 (nth aAe atn.2.2.2.2.2.1 (ab iA)).2.1)),(x2,((bl .i64 1 (dd .i64 (nth aAe atn.2.2.2.2.2.1 (ab iA)).2.2.1)),()))))))) λx3=>aG (kK x3.2 0) (kn (jj.st (atn,(bl .i64 iA 1),jG,aaL,aaM,aaN,aaO,B8,uo,x3.1))) (kn (jj.st (atn,(bl .i64 iA 1),jG,aaL,aaM,aaN,aaO,B8,uo,n8)))) aF) (jj.go kx ((jG,aaL,aaM,aaN,aaO,B8,uo),n8))) (jj.go kx ((jG,aaL,aaM,aaN,aaO,B8,uo),n8)):=cq
theorem aqU(p)(k:K1 R):lU.A p k=ak (OH.call (nth tH p.1 0)) λx1=>ak (OH.call (nth tH p.1 1)) λx2=>ak (jJ.call (p,0,(((ai 32 0),(0,())),(0,((ai 2 (0,(0,(0,(0,(0,())))))),((ai 2 (0,(0,(0,(0,(0,(0,()))))))),(0,()))))),(ai 2 (0,(0,(0,(0,(0,((ai 32 0),()))))))),0,(ai 2 0),(0,()),[x1,x2],(((ai 32 0),(0,())),((bl .i64 20000 (dd .i64 p.2.1)),((ai 2 (0,(0,(0,(0,(0,())))))),((ai 2 (0,(0,(0,(0,(0,(0,()))))))),((dd .i64 (eA p.2.2.2.2.1 2)),()))))))) λx4=>aG (jB (bl .i64 x4.2.2.1 1)) (ak (gb.call (x4.2,((dd .i64 x4.1.1.2.2.2.2.2.2.1),([(eA (dd .i64 x4.1.1.2.2.1) (bl .i64 x4.2.2.1 1)),(bA .i64 x4.2.2.1 (eA (dd .i64 x4.1.1.2.2.1) (bl .i64 x4.2.2.1 1)))],(([]:List fM),((dd .i64 (eA x4.1.1.2.2.2.1 8)),())))))) λx5=>aG (!x5) (aG (dr x4.2.2.2.2.2.1 2) (aG (decide ((ab x4.2.2.2.2.2.1) < 2)) (aG (decide ((1+(((ab x4.2.2.2.2.2.1)*1)+0))=(1+((ab x4.2.2.2.2.2.1)*1)))) (aG (decide ((ab x4.2.2.2.2.2.1) < 2)) (aG (dr (bA .i64 1 x4.2.2.2.2.2.1) 2) (aG (decide ((ab (bA .i64 1 x4.2.2.2.2.2.1)) < (ae (df [(eA (dd .i64 x4.1.1.2.2.1) (bl .i64 x4.2.2.1 1)),(bA .i64 x4.2.2.1 (eA (dd .i64 x4.1.1.2.2.1) (bl .i64 x4.2.2.1 1)))] (ab x4.2.2.2.2.2.1) x4.2.2.1)))) (aG (decide ((1+(((ab (bA .i64 1 x4.2.2.2.2.2.1))*1)+0))=(1+((ab (bA .i64 1 x4.2.2.2.2.2.1))*1)))) (aG (decide ((ab (bA .i64 1 x4.2.2.2.2.2.1)) < (ae (df [(eA (dd .i64 x4.1.1.2.2.1) (bl .i64 x4.2.2.1 1)),(bA .i64 x4.2.2.1 (eA (dd .i64 x4.1.1.2.2.1) (bl .i64 x4.2.2.1 1)))] (ab x4.2.2.2.2.2.1) x4.2.2.1)))) (ak (jj.call (x4.1.1,0,x4.1.2.1,x4.1.2.2.1,x4.1.2.2.2.1,x4.1.2.2.2.2.1,x4.1.2.2.2.2.2.1,x4.1.2.2.2.2.2.2,x4.2,((dd .i64 x4.1.1.2.2.2.2.2.2.1),((df (df [(eA (dd .i64 x4.1.1.2.2.1) (bl .i64 x4.2.2.1 1)),(bA .i64 x4.2.2.1 (eA (dd .i64 x4.1.1.2.2.1) (bl .i64 x4.2.2.1 1)))] (ab x4.2.2.2.2.2.1) x4.2.2.1) (ab (bA .i64 1 x4.2.2.2.2.2.1)) 0),(([]:List fM),((dd .i64 (eA x4.1.1.2.2.2.1 8)),())))))) λQL=>k (lU.out (QL.1.2.2.2.2.2.2,QL.1.2.2.2.2.2.1,QL.2))) aF) aF) aF) aF) aF) aF) aF) aF) (ak (jj.call (x4.1.1,0,x4.1.2.1,x4.1.2.2.1,x4.1.2.2.2.1,x4.1.2.2.2.2.1,x4.1.2.2.2.2.2.1,x4.1.2.2.2.2.2.2,x4.2,((dd .i64 x4.1.1.2.2.2.2.2.2.1),([(eA (dd .i64 x4.1.1.2.2.1) (bl .i64 x4.2.2.1 1)),(bA .i64 x4.2.2.1 (eA (dd .i64 x4.1.1.2.2.1) (bl .i64 x4.2.2.1 1)))],(([]:List fM),((dd .i64 (eA x4.1.1.2.2.2.1 8)),())))))) λaDH=>k (lU.out (aDH.1.2.2.2.2.2.2,aDH.1.2.2.2.2.2.1,aDH.2)))) aF:=cq
theorem C4{p:Jf}{z1:fu}{z2:List sj}{z3:Int}{z4:List Int}{z5:Int×Unit}{ks:List sj}{ch:fu}(k:Nat)(hk:k < 2)(h1:ks.length=2)(h2:∀k∈ks,YU k)(h3:ch.2.2.1.length=2)(h4:ch.2.2.2.1.length=2)
  {R:Type} (kn:AS->Option R) (kx:Exit->AS->Option R):(lU.R 0 jJ) (p,(k:Int),z1,z2,z3,z4,z5,ks,ch) kn kx=kn (jJ.st (p,((k+1:Nat):Int),z1,z2,z3,z4,z5,ks,Pu k ks ch)):=by
 have hm:YU (nth oN ks k):=by rw[cK (t:=oN) (by omega:k < ks.length)];exact h2 _ (List.getElem_mem _)
 have i1:k < ks.length:=ao;have i3:k < ch.2.2.1.length:=ao;have i5:k < ch.2.2.2.1.length:=ao;rw[Er,aZ ao,aV ao ao,aa];rw[aJ i1,aJ (show k*37+0=0+k*37 by omega),aJ i3,aJ (show 33+(1+(k*5+0))=34+k*5 by omega),aJ i5,aJ (show 33+(1+(10+(k*6+0)))=44+k*6 by omega),N.qt ao,aoF (d:=nth oN ks k) hm];simp only[aj,ah,bk,amn];rw[cQ ao ao];rfl
theorem Gf{k:Nat}{ks:List sj}{ch:fu}(h3:ch.2.2.1.length=2)(h4:ch.2.2.2.1.length=2):(Pu k ks ch).2.2.1.length=2/\(Pu k ks ch).2.2.2.1.length=2:=
 ⟨by show(df _ _ _).length=2;rw[cD];exact h3,by show(df _ _ _).length=2;rw[cD];exact h4⟩
theorem aaE:(lU.jx 0 jJ):=by
 refine(lU.ky 0 jJ) (λ(_,i,_)=>(2 - i).toNat) ?_
 rintro⟨p,i,z1,z2,z3,z4,z5,ks,ch⟩ ⟨h1,h2,h3,h4,hi⟩;rcases hi with rfl | rfl | rfl
 ·left;refine⟨(p,1,z1,z2,z3,z4,z5,ks,Pu 0 ks ch),⟨h1,h2,(Gf h3 h4).1,(Gf h3 h4).2,.inr (.inl rfl)⟩,by show(2 - (1:Int)).toNat < (2 - (0:Int)).toNat;decide,?_,λkn kx=>C4 0 ao h1 h2 h3 h4 kn kx⟩;simp only[tw,y7];rfl
 ·left;refine⟨(p,2,z1,z2,z3,z4,z5,ks,Pu 1 ks ch),⟨h1,h2,(Gf h3 h4).1,(Gf h3 h4).2,.inr (.inr rfl)⟩,by show(2 - (2:Int)).toNat < (2 - (1:Int)).toNat;decide,?_,λkn kx=>C4 1 ao h1 h2 h3 h4 kn kx⟩;simp only[tw,y7];rfl
 ·right;intro R kn kx;rw[Er,aQ ao,al];simp only[tw,y7];rfl
theorem aaF:(lU.jx 1 jj):=by
 refine(lU.ky 1 jj) (λ(p,i,_)=>p.2.2.2.2.2.1.length - i.toNat) ?_
 rintro⟨p,i,z1,z2,z3,z4,z5,ks,ch,s⟩ ⟨dx,hu,ho,hl,k,hk,rfl⟩;have hk:k<=p.2.2.2.2.2.1.length:=hk;have hl:p.2.2.2.2.2.1.length<=9223372036854775807:=hl;have ho:∀o∈p.2.2.2.2.2.1,aJU o:=ho;by_cases h:k < p.2.2.2.2.2.1.length
 ·have n1:nth aAe p.2.2.2.2.2.1 k=p.2.2.2.2.2.1[k]:=cK (t:=aAe) h;have hd:p.2.2.2.2.2.1.drop k=p.2.2.2.2.2.1[k]::p.2.2.2.2.2.1.drop (k+1):=aD h;by_cases aBa:k < 20
  ·left;obtain⟨g1,g2,g3,g4⟩:=ho _ (List.getElem_mem h);refine⟨(p,((k+1:Nat):Int),z1,z2,z3,z4,z5,ks,ch,Ff ch s k p.2.2.2.2.2.1[k]),⟨dx,alA hu,ho,hl,k+1,ao,rfl⟩,by simp only[aa];omega,?_,λkn kx=> ?_⟩
   ·simp only[tx,y8,aa,hd,uk,aBa,bG]
   ·rw[xF,aZ ao,aj,aZ ao,aj,aV ao ao,aj,aa,n1,asn (d:=p.2.2.2.2.2.1[k]) g4];simp only[ah,bk,anY];have:=aC0 (o:=p.2.2.2.2.2.1[k]);rw[wX (d:=abl p.2.2.2.2.2.1[k]) ⟨ao,ao⟩];simp only[ah,bk,KT];rw[gU g1.1,pk ao ao,pk ao ao,pk ao ao,N.qt ao,cQ ao ao,cQ ao ao];rw[show(p.2.2.2.2.2.1[k].1%2,(((k+1:Nat):Int),(1+p.2.2.2.2.2.1[k].2.1,(dv (abl p.2.2.2.2.2.1[k]),(1+p.2.2.2.2.2.1[k].2.2.1,())))))=ajV k p.2.2.2.2.2.1[k] from rfl];rw[aov (d:=(ch,s,ajV k p.2.2.2.2.2.1[k])) ⟨dx,hu,Bj _⟩];simp only[ah,bk,Y1,Ff];by_cases e:(PL ch s (ajV k p.2.2.2.2.2.1[k])).2=0
    ·rw[dU e,aj,if_pos e]
    ·rw[dF e,al,if_neg e]
  ·right;intro R kn kx;rw[xF,aZ ao,aj,aQ ao,al];simp only[tx,y8,aa,hd,uk,aBa,bz]
 ·right;obtain rfl:k=p.2.2.2.2.2.1.length:=ao;intro R kn kx;rw[xF,aQ ao,al];simp only[tx,y8,aa,bj,uk]
theorem aqV:lU.Ok:=by
 rintro p hp;have hp:amh p:=hp;have ha:=hp.U5;have hw:=hp.own;have ho:=hp.op;have hr:=hp.bo;have hn:=hp.no;have dx:=acM hp
 have l1:∀(z1:fu) (z2:List sj) (z3:Int) (z4:List Int) (z5:Int×Unit) (s:fZ),A5 s->
   jj.call (p,0,z1,z2,z3,z4,z5,o5 p,yA p,s)=av ((z1,z2,z3,z4,z5,o5 p,yA p),uk (yA p) s 0 p.2.2.2.2.2.1):=λz1 z2 z3 z4 z5 s hs=>
  VI (d:=(p,0,z1,z2,z3,z4,z5,o5 p,yA p,s)) ⟨dx,hs,hp.aGb,hp.room,0,aO _,rfl⟩
 have l0:∀(z1:fu) (z2:List sj) (z3:Int) (z4:List Int) (z5:Int×Unit),jJ.call (p,0,z1,z2,z3,z4,z5,o5 p,((ai 32 0,(0,())),(20000+p.2.1,(ai 2 ((0:Int),((0:Int),((0:Int),((0:Int),((0:Int),()))))),(ai 2 ((0:Int),((0:Int),((0:Int),((0:Int),((0:Int),((0:Int),())))))),(p.2.2.2.2.1%2,()))))))=av ((p,z1,z2,z3,z4,z5,o5 p),yA p):=λz1 z2 z3 z4 z5=>
  VG (d:=(p,0,z1,z2,z3,z4,z5,o5 p,((ai 32 0,(0,())),(20000+p.2.1,(ai 2 ((0:Int),((0:Int),((0:Int),((0:Int),((0:Int),()))))),(ai 2 ((0:Int),((0:Int),((0:Int),((0:Int),((0:Int),((0:Int),())))))),(p.2.2.2.2.1%2,()))))))) ⟨rfl,λk hk=>by
   rcases bI.1 hk with rfl | hk
   ·exact Ee _
   ·rw[List.mem_singleton]at hk;subst hk;exact Ee _,rfl,rfl,.inl rfl⟩
 rw[aqU,XT (d:=nth tH p.1 0) hp.s0];simp only[ah,bk,aat];rw[XT (d:=nth tH p.1 1) hp.s1];simp only[ah,bk,aat];rw[gU ho.1,pk (x:=p.2.1) ao ao,pk (x:=p.2.2.2.2.1%2) ao ao,cQ (x:=20000) ao ao];refine(cf (λz=>ak z _) (l0 _ _ _ _ _)).trans ?_
 have e1:(yA p).2.1=20000+p.2.1:=rfl;have e2:(yA p).2.2.2.2.1=p.2.2.2.2.1%2:=rfl;have hm:0<=p.2.2.1%(20000+p.2.1+1)/\p.2.2.1%(20000+p.2.1+1) < 20000+p.2.1+1:=⟨gC _ ao,fQ _ ao⟩;simp only[ah,e1,e2];rw[cQ (x:=20000+p.2.1) ao ao,gU hr.1,pk (x:=p.2.2.1) ao ao,gU hw.1,pk (x:=p.2.2.2.2.2.2.1) ao ao,pk (x:=p.2.2.2.1%8) ao ao,dL (x:=20000+p.2.1) ao ao,dL (x:=1) ao ao];rw[show jB (20000+p.2.1+1)=aS by unfold jB;rw[bP ao];rfl,aj];rw[show((p.2.2.2.2.2.2.1,([p.2.2.1%(20000+p.2.1+1),20000+p.2.1 - p.2.2.1%(20000+p.2.1+1)],(([]:List fM),(p.2.2.2.1%8,())))):fZ)=akS p (C1 p) from rfl];rw[Pj (d:=(yA p,akS p (C1 p))) ⟨dx,ayD p _ rfl⟩];simp only[ah,bk,Gb];rw[show [p.2.2.1%(20000+p.2.1+1),20000+p.2.1 - p.2.2.1%(20000+p.2.1+1)]=C1 p from rfl];cases gK:IU (yA p) (akS p (C1 p))
 ·have e3:akT p=akS p (((C1 p).set (p.2.2.2.2.1%2).toNat (20000+p.2.1)).set (1 - p.2.2.2.2.1%2).toNat 0):=by unfold akT;rw[gK];rfl
  have i1:dr (p.2.2.2.2.1%2) 2=aS:=aV ao ao;have i2:(p.2.2.2.2.1%2).toNat < 2:=ao;have i3:1+((p.2.2.2.2.1%2).toNat*1+0)=1+(p.2.2.2.2.1%2).toNat*1:=ao;have j1:dr (1 - p.2.2.2.2.1%2) 2=aS:=aV ao ao;have j2:(1 - p.2.2.2.2.1%2).toNat < ((C1 p).set (p.2.2.2.2.1%2).toNat (20000+p.2.1)).length:=by rw[cD];show _ < 2;omega
  have j3:1+((1 - p.2.2.2.2.1%2).toNat*1+0)=1+(1 - p.2.2.2.2.1%2).toNat*1:=ao;rw[dy];simp only[i1,aJ i2,aJ i3,j1,aJ j2,aJ j3,aj];have lm:=λz1 z2 z3 z4 z5=>l1 z1 z2 z3 z4 z5 (akT p) (anW p)
  rw[e3]at lm;refine(cf (λz=>ak z _) (lm _ _ _ _ _)).trans ?_
  simp only[ah,bk,KC,QF,e3]
 ·have e3:akT p=akS p (C1 p):=by unfold akT;rw[gK];rfl
  rw[bm,al];have lm:=λz1 z2 z3 z4 z5=>l1 z1 z2 z3 z4 z5 (akT p) (anW p)
  rw[e3]at lm;refine(cf (λz=>ak z _) (lm _ _ _ _ _)).trans ?_
  simp only[ah,bk,KC,QF,e3]
theorem ajC:lU.RS:=rE [.d agE] lU
def M9:=lU.dZ aqV 2 ⟨.fH aaE,⟨.fH aaF,trivial⟩⟩
end
end
section
noncomputable section
def aCs:ByteArray:=⟨#[109,105,120]⟩
def AR:ByteArray:=⟨#[114,101,118,111,107,101]⟩
theorem amT:∃f:ByteArray->Int->Int->Int,∀n a b,f n a b=iw (Ux n [kH a,kH b]):=⟨_,λ_ _ _=>rfl⟩
def zO:ByteArray->Int->Int->Int:=Classical.choose amT
theorem FN(n:ByteArray)(a b:Int):zO n a b=iw (Ux n [kH a,kH b]):=mA amT n a b
def js(s:List Int):Int:=dv (iw s)
def Eu(b p:Int):Int:=CA [b,dv (zO aCs p b)]
def Cl(b p:Int):Int:=CA [oM b (zO AR b p),oM p (zO AR p b)]
def wB(b:Int)(s:List Int):Int:=QP (KK b (zO AR (dv b) (js s))) (KK (iw s) (zO AR (js s) (dv b)))
theorem RP(n:ByteArray)(a b:Int):eG (zO n a b):=by rw[FN];exact D5 _
def ai8:Int->Prop:=λ_=>True
def aer:Int->Bs:=λn=>kH n
def Iq:Fs Tryz.prog ai8 bk aer:=dV 167 Tryz.f167 (λp=>([.d tu p],[])) (λx=>⟨.d tB x,[],[]⟩) [av tu] [] {loops:=mM [(3,{aX:=[0,3,5],sites:=[3]})],outs:=mL [(3,{aX:=[3],sites:=[3]},{aX:=[2],sites:=[3]})],res:=[av tB]} 12
theorem aqs(p)(k:K1 R):Iq.A p k=k (Iq.out [(dd .u8 (bM .u64 p 56)),(dd .u8 (bM .u64 p 48)),(dd .u8 (bM .u64 p 40)),(dd .u8 (bM .u64 p 32)),(dd .u8 (bM .u64 p 24)),(dd .u8 (bM .u64 p 16)),(dd .u8 (bM .u64 p 8)),(dd .u8 (bM .u64 p 0))]):=cq
theorem aqt:Iq.Ok:=by intro n _;rw[aqs,Q0];rfl
theorem ai9:Iq.RS:=rE [.d tu] Iq
def aqu:=Iq.dZ aqt 1 ⟨.none cq,trivial⟩
abbrev BW:=ByteArray×Nat×Bs×Int×Int×(List Bs)
def qW:BW->(Nat×(List Bs))->((ByteArray)×(Nat×(List Bs))):=λ(IA,partsL,t8,t9,t10,oS) y=>(IA,y)
def SB:BW->Prop:=λ(name,L,ps,m,i,row)=>(ps).length<=1000000/\∃k:Nat,k<=(ps).length/\i=k/\m=(ps).length/\L=(row).length/\(row).length<=1000000+k
def wk:BW->(Nat×(List Bs)):=λ(name,L,ps,m,i,row)=>(L+(eI (ab i) ps).length,row++(eI (ab i) ps).map kH)
def aes:(ByteArray×Bs)->Prop:=λ(name,ps)=>name.size<=100/\ps.length=2
def XR:(ByteArray×Bs)->Int:=λ(name,ps)=>zO name (nth tu ps 0) (nth tu ps 1)
def lQ:Ls SB qW wk:=oa (λ(IA,partsL,t8,t9,t10,oS)=>⟨([.d .str IA]++aW 4 ([kZ 18 partsL,bX,bX,.d tU t8,.d ti t9,.d ti t10]++aW 13 [])),[],(bR 18 ([di (.vec 132 tB oS)]++bR 5 []))⟩) (λx=>(.exit 0,⟨([.d .str x.1]++aW 4 ([kZ 18 x.2.1]++aW 18 [])),[],(bR 18 ([di (.vec 132 tB x.2.2)]++bR 5 []))⟩))
def jX:Fs Tryz.prog aes bk XR:=dV 125 Tryz.f125 (λ(name,points)=>([.d .str name,.d tU points],[])) (λx=>⟨.d tu x,[],[]⟩) [av .str,av tU] [aqu,Ke,DZ] {loops:=mM [(3,{aX:=[0,5,8,9,10],sites:=[18],owns:=[⟨5,[],18,208⟩]})],outs:=mL [(3,{aX:=[0,5],sites:=[18]},{aX:=[4]})],fo:=oR [(3,lQ.E)]}
theorem SC:lQ.RS:=rL [.d .str,.n,.d tU,.d ti,.d ti,.d (.slice tB)] lQ
theorem C3(IA partsL t8 t9 t10 oS)(kn:K2 R)(kx:K3 R):jX.R 0 lQ (IA,partsL,t8,t9,t10,oS) kn kx=aG (fG t10 t9) (aG (dr t10 (t8.length:Int)) (ak (Iq.call (nth tu t8 (ab t10))) λx1=>aG (decide (partsL<=(ae oS))) (aG (db (partsL+1) 24) (kn (lQ.st (IA,(partsL+1),t8,t9,(bl .i64 t10 1),((aT partsL oS)++ [x1])))) aF) aF) aF) (lQ.go kx (IA,(partsL,oS))):=cq
theorem ajb(name points)(k:K1 R):jX.A (name,points) k=ak (lQ.call (name,0,points,(points.length:Int),0,([]:List Bs))) λx3=>aG (decide (0=0/\(0+x3.2.1)<=(ae x3.2.2))) (ak (Kb.call (x3.1,(cut x3.2.2 0 x3.2.1))) λx4=>ak (xt.call x4) λx5=>k (jX.out x5)) aF:=cq
theorem Vw:(jX.jx 0 lQ):=by
 refine(jX.ky 0 lQ) (λ(name,L,ps,m,i,row)=>(ps).length - ab i) ?_
 rintro⟨name,L,ps,m,i,row⟩ ⟨hlen,k,hk,rfl,rfl,rfl,lb⟩;have hlen:(ps).length<=1000000:=hlen;have hk:k<=(ps).length:=hk;have lb:(row).length<=1000000+k:=lb;by_cases h:k < (ps).length
 ·left;have n1:nth tu ps k=ps[k]:=cK (t:=tu) h;have hd:eI k ps=ps[k]::eI (k+1) ps:=aD h;refine⟨(name,(row).length+1,ps,((ps).length:Int),((k+1:Nat):Int),row++ [kH ps[k]]),⟨hlen,k+1,ao,rfl,rfl,by rw[aq];rfl,by rw[aq];show(row).length+1<=_;omega⟩,by simp only[aa];omega,?_,λkn kx=> ?_⟩
  ·simp only[qW,wk,aa,hd,bE,aI,bh,dp];rw[show ∀a c:Nat,a+1+c=a+(c+1) from λa c=>ao]
  ·rw[C3,aZ ao,aV (show(0:Int)<=(k:Int) by omega) ao,aa,n1];simp only[aj];rw[ai9 (d:=ps[k]) trivial];simp only[ah,bk,aer];rw[aJ (aC _),dR ao ao,N.qt ao,bK];rfl
 ·right;obtain rfl:k=(ps).length:=ao;intro R kn kx;rw[C3,aQ ao,al];simp only[qW,wk,aa,bj,fv,bW,aU,cz]
theorem ajc:jX.Ok:=by
 rintro⟨name,ps⟩ ⟨hn,h2⟩;have h2:ps.length=2:=h2
 match ps,h2 with
 |[a,b],_=>
  rw[ajb,SC (d:=(name,0,[a,b],(([a,b].length:Nat):Int),0,[])) ⟨by show 2<=_;decide,0,aO _,rfl,rfl,rfl,aO _⟩];simp only[ah,qW,wk,bg,aL,aR,Nat.zero_add,bE,fv,aI,aU];rw[aJ ⟨trivial,fg⟩,aj,show cut [kH a,kH b] 0 (1+1)=[kH a,kH b] from fb (l:=[kH a,kH b]) (n:=1+1) rfl,D8 (d:=(name,[kH a,kH b])) (Uy hn (by rw[cF];omega) (by rw[cF];omega))];simp only[ah,bk,Sd];rw[FO (d:=tag (bw name) [kH a,kH b]) (Um _ _)];simp only[ah,bk,Qe,bk,XR,FN,Ux];rfl
theorem aet:jX.RS:=rE [.d .str,.d tU] jX
def Ir:=jX.dZ ajc 1 ⟨.fH Vw,trivial⟩
theorem XS{n:ByteArray}(h:n.size<=100)(a b:Int):jX.call (n,[a,b])=av (zO n a b):=aet (d:=(n,[a,b])) ⟨h,rfl⟩
theorem zb{k:Int}(h:eG k):qk.call k=av (dv k):=wX (d:=k) h
theorem axQ{a b:Int}(h:eG a)(h2:eG b):VU.call (a,b)=av (CA [a,b]):=aff (d:=(a,b)) ⟨h,h2⟩
theorem afu{a b:Int}(h:eG a)(h2:eG b):xQ.call (a,b)=av (oM a b):=IE (d:=(a,b)) ⟨h,h2⟩
theorem avq{a b:Int}(h:eG a)(h2:eG b):Vs.call (a,b)=av (KK a b):=adA (d:=(a,b)) ⟨h,h2⟩
theorem aFc{a b:Int}(h:eG a)(h2:eG b):ZI.call (a,b)=av (QP a b):=adv (d:=(a,b)) ⟨h,h2⟩
theorem amV{s:List Int}(h:Sm s):xt.call s=av (iw s):=FO (d:=s) h
theorem aFT(a b:Int):jX.call ((⟨#[109,105,120]⟩:ByteArray),[a,b])=av (zO aCs a b):=XS (n:=aCs) fg a b
theorem aas(a b:Int):jX.call ((⟨#[114,101,118,111,107,101]⟩:ByteArray),[a,b])=av (zO AR a b):=XS (n:=AR) fg a b
theorem afX(a b:Int):eG (oM a b):=(Ye _ _).u
def aep:sj->Prop:=λk=>YU k
def aqr:sj->atu:=λk=>Bi k
def yZ:Fs Tryz.prog aep bk aqr:=dV 87 Tryz.f87 (λkv=>([.d oN kv],[])) (λx=>⟨.d rQ x,[],[]⟩) [av oN] [uv]
theorem ai5(kv)(k:K1 R):yZ.A kv k=ak (qk.call kv.1) λx1=>ak (qk.call kv.2.1) λx2=>ak (qk.call kv.2.2.1) λx3=>ak (qk.call kv.2.2.2.1) λx4=>ak (qk.call kv.2.2.2.2.1) λx5=>k (yZ.out (x1,(x2,(x3,(x4,(x5,())))))):=cq
theorem ai6:yZ.Ok:=by rintro k ⟨h1,h2,h3,h4,h5⟩;rw[ai5,zb h1,ah,zb h2,ah,zb h3,ah,zb h4,ah,zb h5,ah];rfl
theorem aeq:yZ.RS:=rE [.d oN] yZ
def ai7:=yZ.dZ ai6
def ajg:Bs->Prop:=λs=>Sm s
def awJ:Bs->Int:=λs=>js s
def uW:Fs Tryz.prog ajg bk awJ:=dV 17 Tryz.f17 (λsecret=>([.d tH secret],[])) (λx=>⟨.d tu x,[],[]⟩) [av tH] [DZ,uv]
theorem aqw(secret)(k:K1 R):uW.A secret k=ak (xt.call secret) λx1=>ak (qk.call x1) λx2=>k (uW.out x2):=cq
theorem aqx:uW.Ok:=by intro s hs;rw[aqw,amV hs,ah,zb (D5 s),ah];rfl
theorem ajh:uW.RS:=rE [.d tB] uW
def AL:=uW.dZ aqx
theorem Ef{s:List Int}(h:Sm s):uW.call s=av (js s):=ajh (d:=s) h
def awE:(Int×Int)->Prop:=λ(b,_)=>eG b
def aje:(Int×Int)->Int:=λ(b,p)=>Eu b p
def MW:Fs Tryz.prog awE bk aje:=dV 68 Tryz.f68 (λ(base,per)=>([.d tu base,.d tu per],[])) (λx=>⟨.d tu x,[],[]⟩) [av tu,av tu] [Ir,uv,aa0]
theorem aB1(base per)(k:K1 R):MW.A (base,per) k=ak (jX.call ((⟨#[109,105,120]⟩:ByteArray),[per,base])) λx1=>ak (qk.call x1) λx2=>ak (VU.call (base,x2)) λx3=>k (MW.out x3):=cq
theorem aB2:MW.Ok:=by
 rintro⟨b,p⟩ hb;rw[aB1,aFT,ah,zb (RP aCs p b),ah,axQ hb (Bj _),ah];have ea:∀ {D Y:Type} (d:D) (y:Y),bk d y=y:=λ_ _=>rfl
 have eF:aje (b,p)=Eu b p:=rfl;rw[ea,eF];unfold Eu;rfl
theorem awF:MW.RS:=rE [.d tu,.d tu] MW
def aB3:=MW.dZ aB2
def aew:(Int×Int)->Prop:=λ(b,p)=>eG b/\eG p
def MX:(Int×Int)->Int:=λ(b,p)=>Cl b p
def wm:Fs Tryz.prog aew bk MX:=dV 67 Tryz.f67 (λ(base,per)=>([.d tu base,.d tu per],[])) (λx=>⟨.d tu x,[],[]⟩) [av tu,av tu] [Ir,Nl,aa0]
theorem aji(base per)(k:K1 R):wm.A (base,per) k=ak (jX.call ((⟨#[114,101,118,111,107,101]⟩:ByteArray),[base,per])) λx1=>ak (xQ.call (base,x1)) λx2=>ak (jX.call ((⟨#[114,101,118,111,107,101]⟩:ByteArray),[per,base])) λx3=>ak (xQ.call (per,x3)) λx4=>ak (VU.call (x2,x4)) λx5=>k (wm.out x5):=cq
theorem ajj:wm.Ok:=by
 rintro⟨b,p⟩ ⟨hb,hp⟩;have hb:eG b:=hb;have hp:eG p:=hp;have e1:=aas b p;have e2:=aas p b;have u1:=RP AR b p;have u2:=RP AR p b;have ea:∀ {D Y:Type} (d:D) (y:Y),bk d y=y:=λ_ _=>rfl
 have eF:MX (b,p)=Cl b p:=rfl;rw[ea,eF];unfold Cl;generalize zO AR b p=x at e1 u1;generalize zO AR p b=y at e2 u2;have q1:=afu hb u1;have q2:=afu hp u2;have q3:=axQ (afX b x) (afX p y);generalize oM b x=v at q1 q3;generalize oM p y=w at q2 q3;generalize CA [v,w]=z at q3;rw[aji,e1,ah,q1,ah,e2,ah,q2,ah,q3,ah]
theorem aex:wm.RS:=rE [.d tu,.d tu] wm
def ajk:=wm.dZ ajj
def aey:(Int×Bs)->Prop:=λ(b,s)=>eG b/\Sm s
def MY:(Int×Bs)->Int:=λ(b,s)=>wB b s
def y1:Fs Tryz.prog aey bk MY:=dV 88 Tryz.f88 (λ(base,secret)=>([.d tu base,.d tH secret],[])) (λx=>⟨.d tu x,[],[]⟩) [av tu,av tH] [uv,AL,Ir,amY,DZ,amU]
theorem ajl(base secret)(k:K1 R):y1.A (base,secret) k=ak (qk.call base) λx1=>ak (uW.call secret) λx2=>ak (jX.call ((⟨#[114,101,118,111,107,101]⟩:ByteArray),[x1,x2])) λx3=>ak (Vs.call (base,x3)) λx4=>ak (xt.call secret) λx5=>ak (jX.call ((⟨#[114,101,118,111,107,101]⟩:ByteArray),[x2,x1])) λx6=>ak (Vs.call (x5,x6)) λx7=>ak (ZI.call (x4,x7)) λx8=>k (y1.out x8):=cq
theorem ajm:y1.Ok:=by
 rintro⟨b,s⟩ ⟨hb,hs⟩;rw[ajl,zb hb,ah,Ef hs,ah,aas,ah,avq hb (RP AR _ _),ah,amV hs,ah,aas,ah,avq (D5 s) (RP AR _ _),ah,aFc (KL _ _).u (KL _ _).u,ah];have ea:∀ {D Y:Type} (d:D) (y:Y),bk d y=y:=λ_ _=>rfl
 have eF:MY (b,s)=wB b s:=rfl;rw[ea,eF];unfold wB;rfl
theorem aez:y1.RS:=rE [.d tu,.d tB] y1
def ajn:=y1.dZ ajm
theorem ajf{b:Int}(h:eG b)(p:Int):MW.call (b,p)=av (Eu b p):=by
 have ea:∀ {D Y:Type} (d:D) (y:Y),bk d y=y:=λ_ _=>rfl
 have eF:aje (b,p)=Eu b p:=rfl;rw[awF (d:=(b,p)) h,ea,eF]
theorem aqy{b p:Int}(h:eG b)(h2:eG p):wm.call (b,p)=av (Cl b p):=by
 have ea:∀ {D Y:Type} (d:D) (y:Y),bk d y=y:=λ_ _=>rfl
 have eF:MX (b,p)=Cl b p:=rfl;rw[aex (d:=(b,p)) ⟨h,h2⟩,ea,eF]
theorem aqz{b:Int}{s:List Int}(h:eG b)(h2:Sm s):y1.call (b,s)=av (wB b s):=by
 have ea:∀ {D Y:Type} (d:D) (y:Y),bk d y=y:=λ_ _=>rfl
 have eF:MY (b,s)=wB b s:=rfl;rw[aez (d:=(b,s)) ⟨h,h2⟩,ea,eF]
def apt:Int->Prop:=λ_=>True
def Zv:Int->Bool:=λn=>decide (n=0\/n=1)
def Oi:Fs Tryz.prog apt bk Zv:=dV 64 Tryz.f64 (λn=>([.d ti n],[])) (λx=>⟨.d .bool x,[],[]⟩) [av ti]
theorem auQ(n)(k:K1 R):Oi.A n k=aG (kK n 0) (k (Oi.out aS)) (k (Oi.out (kK n 1))):=cq
theorem auR:Oi.Ok:=by
 intro(n:Int) _;rw[auQ];simp only[bk,Zv];by_cases h:n=0
 ·rw[dU h,aj,aJ (.inl h)]
 ·rw[dF h,al];by_cases h2:n=1
  ·rw[dU h2,aJ (.inr h2)]
  ·rw[dF h2,bP (by rintro(x | x);exact h x;exact h2 x)]
theorem apu:Oi.RS:=rE [.d ti] Oi
def auS:=Oi.dZ auR
abbrev Oh:=Int×fu×Nat×(List fM)×Int×Int×(List fM)
def abp(n:Int):Bool:=qS n 100
def eN(l:List fM):List fM:=l.filter λc=>abp c.2.2.1
theorem E7(c:fM)(l:List fM):eN (c::l)=if abp c.2.2.1=aS then c::eN l else eN l:=by unfold eN;rw[eJ]
def Vm:Oh->Prop:=λ(own,ch,L,l,m,i,row)=>l9 ch/\(own=0\/own=1)/\l.length<=1000/\m=l.length/\L=row.length/\∃k:Nat,k<=l.length/\i=k/\row.length<=k
def ua:Oh->(Nat×(List fM)):=λ(own,ch,L,l,m,i,row)=>((row++eN (l.drop i.toNat)).length,row++eN (l.drop i.toNat))
def aif:(fu×fZ×Int)->Prop:=λ(ch,s,own)=>l9 ch/\(own=0\/own=1)/\s.2.2.1.length<=1000
def JP:(fu×fZ×Int)->(List fM):=λ(_,s,_)=>eN s.2.2.1
def mn:Ls Vm bk ua:=oa (λ(uu,fS,outL,t11,t12,t13,aF5)=>⟨([bX,bX,.d ti uu,.dN lg fS,bX,bX,bX,kZ 27 outL,bX,bX,bX,.d (.slice gD) t11,.d ti t12,.d ti t13]++aW 16 []),[],(bR 27 [di (.vec 103 gD aF5),[],[]])⟩) (λx=>(.exit 0,⟨(aW 7 ([kZ 27 x.1]++aW 22 [])),[],(bR 27 [di (.vec 103 gD x.2),[],[]])⟩))
def pL:Fs Tryz.prog aif bk JP:=dV 75 Tryz.f75 (λ(ch,sv,own)=>([.d lg ch,.d kE sv,.d ti own],[])) (λx=>⟨.d (.slice gD) x,[],[]⟩) [av lg,av kE,av ti] [UL] {loops:=mM [(3,{aX:=[2,3,7,11,12,13],sites:=[27],owns:=[⟨7,[],27,48⟩]})],outs:=mL [(3,{aX:=[7],sites:=[27]},{aX:=[6]})],fo:=oR [(3,mn.E)],res:=[av (.slice gD)]}
theorem Vn:mn.RS:=rL [.d ti,.d lg,.n,.d (.slice gD),.d ti,.d ti,.d (.slice gD)] mn
theorem xn(uu fS outL t11 t12 t13 aF5)(kn:K2 R)(kx:K3 R):pL.R 0 mn (uu,fS,outL,t11,t12,t13,aF5) kn kx=aG (fG t13 t12) (aG (dr t13 (t11.length:Int)) (aG (dr uu 2) (ak (rU.call ((nth oO fS.2.2.2.1 (ab uu)),(nth gD t11 (ab t13)).2.2.1)) λx1=>aG (x1) (aG (decide (outL<=(ae aF5))) (aG (db (outL+1) 40) (kn (mn.st (uu,fS,(outL+1),t11,t12,(bl .i64 t13 1),((aT outL aF5)++ [(nth gD t11 (ab t13))])))) aF) aF) (kn (mn.st (uu,fS,outL,t11,t12,(bl .i64 t13 1),aF5)))) aF) aF) (mn.go kx (outL,aF5)):=cq
theorem apr(ch sv own)(k:K1 R):pL.A (ch,sv,own) k=ak (mn.call (own,ch,0,sv.2.2.1,(sv.2.2.1.length:Int),0,([]:List fM))) λx3=>aG (decide (0=0/\(0+x3.1)<=(ae x3.2))) (k (pL.out (cut x3.2 0 x3.1))) aF:=cq
theorem l9.shown{ch:fu}(h:l9 ch){own:Int}(ho:own=0\/own=1)(n:Int):rU.call (nth oO ch.2.2.2.1 own.toNat,n)=av (abp n):=by obtain⟨d,hd,_⟩:=h.t ho;rw[hd,agS (d:=(te d,n)) trivial];rfl
theorem Zu:(pL.jx 0 mn):=by
 refine(pL.ky 0 mn) (λ(_,_,_,l,_,i,_)=>l.length - i.toNat) ?_
 rintro⟨own,ch,L,l,m,i,row⟩ ⟨dx,ho,hl,rfl,rfl,k,hk,rfl,hr⟩;have hk:k<=l.length:=hk;have hl:l.length<=1000:=hl;have hr:row.length<=k:=hr;have ho:own=0\/own=1:=ho;have dx:l9 ch:=dx;by_cases h:k < l.length
 ·left;have n1:nth gD l k=l[k]:=cK (t:=gD) h;have hd:eN (l.drop k)=if abp l[k].2.2.1=aS then l[k]::eN (l.drop (k+1)) else eN (l.drop (k+1)):=by rw[aD h,E7]
  have e1:(row++ [l[k]]).length=row.length+1:=by rw[aq];rfl
  cases hs:abp l[k].2.2.1
  ·refine⟨(own,ch,row.length,l,(l.length:Int),((k+1:Nat):Int),row),⟨dx,ho,hl,rfl,rfl,k+1,ao,rfl,by show row.length<=_;omega⟩,by simp only[aa];omega,?_,λkn kx=> ?_⟩
   ·rw[hs,if_neg (by simp)]at hd;simp only[bk,ua,aa,hd]
   ·rw[xn,aZ ao,aV ao ao,aV ao ao,aa,n1,dx.shown ho,hs,N.qt ao];rfl
  ·refine⟨(own,ch,row.length+1,l,(l.length:Int),((k+1:Nat):Int),row++ [l[k]]),⟨dx,ho,hl,rfl,e1.symm,k+1,ao,rfl,by show(row++ [l[k]]).length<=_;omega⟩,by simp only[aa];omega,?_,λkn kx=> ?_⟩
   ·rw[hs,if_pos rfl]at hd;simp only[bk,ua,aa,hd,bh,dp]
   ·rw[xn,aZ ao,aV ao ao,aV ao ao,aa,n1,dx.shown ho,hs,N.qt ao,aJ (aC _),dR ao ao,bK];rfl
 ·right;obtain rfl:k=l.length:=ao;intro R kn kx;rw[xn,aQ ao,al];simp only[bk,ua,aa,bj,eN,List.filter_nil,bW]
theorem aps:pL.Ok:=by rintro⟨ch,s,own⟩ ⟨dx,ho,hl⟩;rw[apr,Vn (d:=(own,ch,0,s.2.2.1,(s.2.2.1.length:Int),0,[])) ⟨dx,ho,hl,rfl,rfl,0,aO _,rfl,aO _⟩];simp only[ah,bk,ua,bg,aL,aR,bk,JP];rw[aJ ⟨trivial,ao⟩,aj,fb ao]
theorem RE:pL.RS:=rE [.d lg,.d kE,.d ti] pL
def Xm:=pL.dZ aps 1 ⟨.fH Zu,trivial⟩
def fX(ch:fu)(s:fZ)(f:Int):Int:=nth ti s.2.1 f.toNat - (if f=ch.2.2.2.2.1 then On s.2.2.2.1 (eN s.2.2.1).length+660 else 0)
abbrev amI:=fu×fZ×Int×Int
def apn:amI->Prop:=λ(ch,s,own,of)=>l9 ch/\Gk ch s/\(own=0\/own=1)/\(of=0\/of=1)
def amJ:amI->Int:=λ(ch,s,_,of)=>fX ch s of
def CZ:Fs Tryz.prog apn bk amJ:=dV 71 Tryz.f71 (λ(ch,sv,own,of)=>([.d lg ch,.d kE sv,.d ti own,.d ti of],[])) (λx=>⟨.d ti x,[],[]⟩) [av lg,av kE,av ti,av ti] [Xm,agJ]
theorem auG(ch sv own of)(k:K1 R):CZ.A (ch,sv,own,of) k=aG (dr of 2) (aG (kK of ch.2.2.2.2.1) (ak (pL.call (ch,sv,own)) λx1=>ak (Hv.call (sv.2.2.2.1,(x1.length:Int))) λx2=>k (CZ.out (bA .i64 (nth ti sv.2.1 (ab of)) (bl .i64 x2 660)))) (k (CZ.out (nth ti sv.2.1 (ab of))))) aF:=cq
theorem auH:CZ.Ok:=by
 rintro⟨ch,s,own,of⟩ ⟨dx,hs,ho,hf⟩;have dx:l9 ch:=dx;have hs:Gk ch s:=hs;have hf:of=0\/of=1:=hf;have hl:=hs.len;have hv:=hs.avD hf;have aD6:=hv.1;have aFI:=hv.2;have aN4:=DY s.2.2.2.1 (eN s.2.2.1).length;rw[auG,aV ao ao,aj];simp only[bk,amJ,fX];by_cases h:of=ch.2.2.2.2.1
 ·rw[dU h,aj,RE (d:=(ch,s,own)) ⟨dx,ho,by show s.2.2.1.length<=1000;omega⟩];simp only[ah,bk,JP];rw[YK (d:=(s.2.2.2.1,((eN s.2.2.1).length:Int))) trivial];simp only[ah,bk,QH];rw[cQ ao ao,dL ao ao,if_pos h]
 ·rw[dF h,al,if_neg h,nL]
theorem Xj:CZ.RS:=rE [.d lg,.d kE,.d ti,.d ti] CZ
def auI:=CZ.dZ auH
end
end
def aup(a b:oT):Int:=axI [Gr a.1.1 b.1.1,ah5 (cut a.2.2.1 0 32) (cut b.2.2.1 0 32),Gr a.2.1.1 b.2.1.1,Gr a.2.1.2.1.1 b.2.1.2.1.1,Gr a.2.1.2.1.2.1 b.2.1.2.1.2.1]
def aun:(oT×oT)->Prop:=λ_=>True
def aET:(oT×oT)->Int:=λ(a,b)=>aup a b
def ac0:Fs Tryz.prog aun bk aET:=dV 77 Tryz.f77 (λ(a,b)=>([.d nE a,.d nE b],[])) (λx=>⟨.d ti x,[],[]⟩) [av nE,av nE] [am9,aAs,aut]
theorem aAC(a b)(k:K1 R):ac0.A (a,b) k=ak (Dy.call (a.1.1,b.1.1)) λx1=>ak (ahI.call ((cut a.2.2.1 0 32),(cut b.2.2.1 0 32))) λx2=>ak (Dy.call (a.2.1.1,b.2.1.1)) λx3=>ak (Dy.call (a.2.1.2.1.1,b.2.1.2.1.1)) λx4=>ak (Dy.call (a.2.1.2.1.2.1,b.2.1.2.1.2.1)) λx5=>ak (apd.call [x1,x2,x3,x4,x5]) λx6=>k (ac0.out x6):=cq
theorem aAD:ac0.Ok:=by
 rintro⟨a,b⟩ _;have ci:∀x y:Int,Dy.call (x,y)=av (Gr x y):=λx y=>Sf (d:=(x,y)) trivial
 rw[aAC,atK (d:=(cut a.2.2.1 0 32,cut b.2.2.1 0 32)) trivial];simp only[ci,ah,bk,atI];rw[amD (by show 5<=_;decide)];rfl
theorem auo:ac0.RS:=rE [.d nE,.d nE] ac0
def aAE:=ac0.dZ aAD
abbrev XO:=Nat×Int×Int×Int×(List oT)
abbrev MP:=Nat×Int×Int×Int×Int×(List oT)
def yW:MP->(List oT)->((Nat×Int×Int×Int)×((List oT))):=λ(iN,aAn,Y7,iA,j,nv) y=>((iN,aAn,Y7,iA),y)
abbrev awd:=Nat×Int×Int×(List oT)
def atW:Nat->List oT->List oT
 | 0,l=>l
 |j+1,l=>if aup (nth nE l (j+1)) (nth nE l j) < 0 then atW j ((l.set (j+1) (nth nE l j)).set j (nth nE l (j+1))) else l
def ad3:Nat->Nat->List oT->List oT
 | 0,_,l=>l
 |m+1,i,l=>ad3 m (i+1) (atW i l)
def jD(l:List oT):List oT:=ad3 (l.length - 1) 1 l
theorem Q3:∀(j:Nat) (l:List oT),j < l.length->(atW j l).Perm l
 | 0,l,_=>fI _
 |j+1,l,h=>by
  rw[atW];split
  ·have n1:nth nE l (j+1)=l[j+1]:=cK (t:=nE) h;have n2:nth nE l j=l[j]:=cK (t:=nE) ao;refine(Q3 j _ (by rw[cD,cD];omega)).trans ?_
   rw[n1,n2];exact List.set_set_perm h ao
  ·exact fI _
theorem XN:∀(m i:Nat) (l:List oT),i+m<=l.length->(ad3 m i l).Perm l
 | 0,_,_,_=>fI _
 |m+1,i,l,h=>by rw[ad3];have hb:=Q3 i l ao;exact(XN m (i+1) _ (by rw[hb.length_eq];omega)).trans hb
theorem lZ(l:List oT):(jD l).Perm l:=by
 unfold jD;by_cases h:l.length=0
 ·have:l=[]:=bV h;subst this;exact fI _
 ·exact XN _ _ _ ao
def ad7:MP->Prop:=λ(n,a,b,i,j,l)=>n=l.length/\l.length<=1000/\a=0/\∃k:Nat,k < l.length/\j=k
def FY:MP->(List oT):=λ(n,a,b,i,j,l)=>atW j.toNat l
def ad6:XO->Prop:=λ(n,a,b,i,l)=>n=l.length/\l.length<=1000/\((a=0/\b=l.length/\∃k:Nat,i=k)\/i>=b)
def AH:XO->(List oT):=λ(n,a,b,i,l)=>ad3 (b - i).toNat i.toNat l
def awe:awd->Prop:=λ(n,a,b,l)=>n=l.length/\l.length<=1000/\((a=0/\b=l.length)\/(a=b/\0 < a/\a<=1000))
def MO:awd->(List oT):=λ(n,a,b,l)=>if a=0 then jD l else l
def we:Ls ad6 bk AH:=oa (λ(nS,DD,qs,i,gz)=>⟨([.dj (.cl 0) 0 [] 0 0 nS,.d ti DD,.d ti qs,.fn 77 (.nil)]++aW 4 ([.d ti i]++aW 44 [])),di (.vec 174 nE gz),(ai 53 [])⟩) (λx=>(.exit 0,⟨(aW 53 []),di (.vec 174 nE x),(ai 53 [])⟩))
def mH:Ls ad7 yW FY:=oa (λ(iN,aAn,Y7,iA,j,nv)=>⟨([.dj (.cl 0) 0 [] 0 0 iN,.d ti aAn,.d ti Y7,.fn 77 (.nil)]++aW 4 ([.d ti iA,.d ti j]++aW 43 [])),di (.vec 174 nE nv),(ai 53 [])⟩) (λx=>(.exit 2,⟨([.dj (.cl 0) 0 [] 0 0 x.1.1,.d ti x.1.2.1,.d ti x.1.2.2.1,.fn 77 (.nil)]++aW 4 ([.d ti x.1.2.2.2]++aW 44 [])),di (.vec 174 nE x.2),(ai 53 [])⟩))
def Ij:Fs Tryz.prog awe bk MO:=dV 169 Tryz.f169 (λ(dataL,a,b,o0)=>([.dj (.cl 0) 0 [] 0 0 dataL,.d ti a,.d ti b,.fn 77 (.nil)],[.obj 0 bq (.vec 174 nE o0)])) (λx=>⟨.nil,[.obj 0 bq (.vec 174 nE x)],[]⟩) [aF,av ti,av ti,aF] [aAE] {loops:=mM [(1,{aX:=[0,1,2,3,8]}),(4,{aX:=[0,1,2,3,8,9]})],outs:=mL [(1,{},{}),(4,{aX:=[0,1,2,3,8]},{})],fo:=oR [(1,we.E),(4,mH.E)]}
theorem OB:we.RS:=rL [.n,.d ti,.d ti,.d ti,.d (.slice nE)] we
theorem Kl(nS DD qs i gz)(kn:K2 R)(kx:K3 R):Ij.R 0 we (nS,DD,qs,i,gz) kn kx=aG (fG i qs) (ak (mH.call (nS,DD,qs,i,i,gz)) λx1=>kn (we.st (x1.1.1,x1.1.2.1,x1.1.2.2.1,(bl .i64 x1.1.2.2.2 1),x1.2))) (we.go kx gz):=cq
theorem ad8:mH.RS:=rL [.n,.d ti,.d ti,.d ti,.d ti,.d (.slice nE)] mH
theorem Km(iN aAn Y7 iA j nv)(kn:K2 R)(kx:K3 R):Ij.R 1 mH (iN,aAn,Y7,iA,j,nv) kn kx=aG (vh j aAn) (aG (dr j ((iN:Nat):Int)) (aG (decide ((0+(ab j)) < (ae nv))) (aG (decide ((((0+(ab j))*40)+0)=(0+((ab j)*40)))) (aG (dr (bA .i64 j 1) ((iN:Nat):Int)) (aG (decide ((0+(ab (bA .i64 j 1))) < (ae nv))) (aG (decide ((((0+(ab (bA .i64 j 1)))*40)+0)=(0+((ab (bA .i64 j 1))*40)))) (ak (ac0.call ((nth nE nv (0+(ab j))),(nth nE nv (0+(ab (bA .i64 j 1)))))) λx1=>aG (fG x1 0) (aG (dr (bA .i64 j 1) ((iN:Nat):Int)) (aG (decide ((0+(ab (bA .i64 j 1))) < (ae nv))) (aG (decide ((((0+(ab (bA .i64 j 1)))*40)+0)=(0+((ab (bA .i64 j 1))*40)))) (aG (dr j ((iN:Nat):Int)) (aG (decide ((0+(ab j)) < (ae nv))) (aG (decide ((((0+(ab j))*40)+0)=(0+((ab j)*40)))) (aG (dr j ((iN:Nat):Int)) (aG (decide ((0+(ab j)) < (ae nv))) (aG (decide ((((0+(ab j))*40)+0)=(0+((ab j)*40)))) (aG (decide ((0+(ab j)) < (ae nv))) (aG (dr (bA .i64 j 1) ((iN:Nat):Int)) (aG (decide ((0+(ab (bA .i64 j 1))) < (ae (df nv (0+(ab j)) (nth nE nv (0+(ab (bA .i64 j 1)))))))) (aG (decide ((((0+(ab (bA .i64 j 1)))*40)+0)=(0+((ab (bA .i64 j 1))*40)))) (aG (decide ((0+(ab (bA .i64 j 1))) < (ae (df nv (0+(ab j)) (nth nE nv (0+(ab (bA .i64 j 1)))))))) (kn (mH.st (iN,aAn,Y7,iA,(bA .i64 j 1),(df (df nv (0+(ab j)) (nth nE nv (0+(ab (bA .i64 j 1))))) (0+(ab (bA .i64 j 1))) (nth nE nv (0+(ab j))))))) aF) aF) aF) aF) aF) aF) aF) aF) aF) aF) aF) aF) aF) aF) (mH.go kx ((iN,aAn,Y7,iA),nv))) aF) aF) aF) aF) aF) aF) (mH.go kx ((iN,aAn,Y7,iA),nv)):=cq
theorem aBQ(dataL a b o0)(k:K1 R):Ij.A (dataL,a,b,o0) k=ak (we.call (dataL,a,b,(bl .i64 a 1),o0)) λx3=>k (Ij.out x3):=cq
theorem aiU:(Ij.jx 1 mH):=by
 refine(Ij.ky 1 mH) (λ(n,a,b,i,j,l)=>j.toNat) ?_
 rintro⟨n,a,b,i,j,l⟩ ⟨rfl,hl,rfl,k,hk,rfl⟩;have hk:k < l.length:=hk;have hl:l.length<=1000:=hl;cases k with
 |zero=>
  right;intro R kn kx;rw[Km,cJ ao,al];rfl
 |succ k=>
  have e:bA .i64 ((k+1:Nat):Int) 1=(k:Int):=by rw[dL ao ao];omega
  have e1:((l.set (k+1) (nth nE l k)).length)=l.length:=cD;have c1:ac0.call (nth nE l (k+1),nth nE l k)=av (aup (nth nE l (k+1)) (nth nE l k)):=auo (d:=(nth nE l (k+1),nth nE l k)) trivial;have step:∀ {R:Type} (kn:AS->Option R) (kx:Exit->AS->Option R),(Ij.R 1 mH) (l.length,0,b,i,((k+1:Nat):Int),l) kn kx=aG (decide (aup (nth nE l (k+1)) (nth nE l k) < 0)) (kn (mH.st (l.length,0,b,i,(k:Int),(l.set (k+1) (nth nE l k)).set k (nth nE l (k+1))))) (kx (mH.ex ((l.length,0,b,i),l)).1 (mH.ex ((l.length,0,b,i),l)).2):=by intro R kn kx;rw[Km,e,aa,aa];simp only[Nat.zero_add];rw[e1,c1,dw ao,aV ao ao,aV (i:=(k:Int)) ao ao,aJ hk,aJ (show k < l.length by omega),aJ (show(k+1)*40+0=(k+1)*40 from rfl),aJ (show k*40+0=k*40 from rfl)];simp only[aj,ah];rfl
  by_cases hc:aup (nth nE l (k+1)) (nth nE l k) < 0
  ·left;refine⟨(l.length,0,b,i,(k:Int),(l.set (k+1) (nth nE l k)).set k (nth nE l (k+1))),⟨by rw[cD,cD],by show(df _ _ _).length<=1000;rw[cD,cD];exact hl,rfl,k,by show k < (df _ _ _).length;rw[cD,cD];omega,rfl⟩,by simp only[aa];omega,?_,λkn kx=> ?_⟩
   ·simp only[yW,FY,aa];rw[atW,if_pos hc]
   ·rw[step,aJ hc,aj]
  ·right;intro R kn kx;rw[step,bP hc,al];simp only[yW,FY,aa];rw[atW,if_neg hc]
theorem aiT:(Ij.jx 0 we):=by
 refine(Ij.ky 0 we) (λ(n,a,b,i,l)=>(b - i).toNat) ?_
 rintro⟨n,a,b,i,l⟩ ⟨rfl,hl,h⟩;have hl:l.length<=1000:=hl;by_cases hi:i < b
 ·left;rcases h with⟨rfl,rfl,k,rfl⟩ | h
  ·have hk:k < l.length:=ao;have hp:=Q3 k l hk;have FQ:(atW k l).length=l.length:=hp.length_eq;refine⟨(l.length,0,(l.length:Int),((k+1:Nat):Int),atW k l),⟨FQ.symm,by show(atW k l).length<=_;rw[FQ];exact hl,.inl ⟨rfl,by show(l.length:Int)=((atW k l).length:Int);rw[FQ],k+1,rfl⟩⟩,by show((l.length:Int) - ((k+1:Nat):Int)).toNat < ((l.length:Int) - (k:Int)).toNat;omega,?_,λkn kx=> ?_⟩
   ·simp only[bk,AH,aa];rw[show((l.length:Int) - (k:Int)).toNat=((l.length:Int) - ((k+1:Nat):Int)).toNat+1 by omega,ad3]
   ·rw[Kl,aZ hi,aj,ad8 (d:=(l.length,0,(l.length:Int),(k:Int),(k:Int),l)) ⟨rfl,hl,rfl,k,hk,rfl⟩];simp only[ah,yW,FY,aa];rw[N.qt ao]
  ·exact absurd hi (by show ¬i < b;omega)
 ·right;intro R kn kx;rw[Kl,aQ hi,al];simp only[bk,AH];rw[show(b - i).toNat=0 by omega,ad3]
theorem aBR:Ij.Ok:=by
 rintro⟨n,a,b,l⟩ ⟨rfl,hl,h⟩;have hl:l.length<=1000:=hl;rw[aBQ];rcases h with⟨rfl,rfl⟩ | ⟨rfl,h0,h1⟩
 ·rw[show bl .i64 0 1=1 from rfl,OB (d:=(l.length,0,(l.length:Int),1,l)) ⟨rfl,hl,.inl ⟨rfl,rfl,1,rfl⟩⟩];simp only[ah,bk,AH,bk,MO,bG,jD];rw[show((l.length:Int) - 1).toNat=l.length - 1 by omega];rfl
 ·have h1:a<=1000:=h1;have h0:0 < a:=h0;rw[cQ ao ao,OB (d:=(l.length,a,a,a+1,l)) ⟨rfl,hl,.inr (by show a+1>=a;omega)⟩];simp only[ah,bk,AH,bk,MO];rw[show(a - (a+1)).toNat=0 by omega,ad3,if_neg ao]
theorem Sq:Ij.RS:=rE [.n,.d ti,.d ti,.d (.slice nE)] Ij
def aBS:=Ij.dZ aBR 2 ⟨.fH aiT,⟨.fH aiU,trivial⟩⟩
abbrev IV:=Nat×Int×Int×Int×Int×(List oT)
abbrev Up:=Int×(List oT)
def rN:IV->Up->((Nat×Int×Int)×(Int×(List oT))):=λ(nS,He,blockSize,a,b,gz) y=>((nS,He,blockSize),y)
abbrev Uq:=Nat×Int×Int×(List oT)
abbrev IW:=Nat×Int×Int×Int×Int×(List oT)
def abA:IW->Unit->(Nat×Int×Int×Int×(List oT)):=λ(Zz,aK9,blockSize_3,DD,qs,Th) y=>(Zz,aK9,blockSize_3,DD,Th)
abbrev an7:=Nat×Int×(List oT)
def abw:IV->Prop:=λ(m,n,z,a,b,l)=>m=l.length/\n=l.length/\z=20/\l.length<=20/\((a=0/\b=20)\/(a=20/\b=40))
def yi:IV->Up:=λ(m,n,z,a,b,l)=>if a=0/\n=20 then(20,jD l) else(a,l)
def aby:Uq->Prop:=λ(m,n,z,l)=>n<=z
def alx:Uq->(List oT):=λ(m,n,z,l)=>l
def abz:IW->Prop:=λ_=>False
def aly:IW->Unit:=λ_=>()
def asF:an7->Prop:=λ(m,n,l)=>m=l.length/\n=l.length/\l.length<=20
def an8:an7->(List oT):=λ(m,n,l)=>jD l
def rM:Ls abw rN yi:=oa (λ(nS,He,blockSize,a,b,gz)=>⟨([.dj (.cl 0) 0 [] 0 0 nS,.d ti He,.fn 77 (.nil),bX,bX,bX,.d ti blockSize,.d ti a,.d ti b]++aW 54 []),di (.vec 174 nE gz),(ai 63 [])⟩) (λx=>(.exit 0,⟨([.dj (.cl 0) 0 [] 0 0 x.1.1,.d ti x.1.2.1,.fn 77 (.nil),bX,bX,bX,.d ti x.1.2.2,.d ti x.2.1]++aW 55 []),di (.vec 174 nE x.2.2),(ai 63 [])⟩))
def rO:Ls aby bk alx:=oa (λ(iN,aIU,blockSize_2,nv)=>⟨([.dj (.cl 0) 0 [] 0 0 iN,.d ti aIU,.fn 77 (.nil),bX,bX,bX,.d ti blockSize_2]++aW 56 []),di (.vec 174 nE nv),(ai 63 [])⟩) (λx=>(.exit 2,⟨(aW 63 []),di (.vec 174 nE x),(ai 63 [])⟩))
def Ur:Ls abz abA aly:=oa (λ(Zz,aK9,blockSize_3,DD,qs,Th)=>⟨([.dj (.cl 0) 0 [] 0 0 Zz,.d ti aK9,.fn 77 (.nil),bX,bX,bX,.d ti blockSize_3,.d ti DD,.d ti qs]++aW 54 []),di (.vec 174 nE Th),(ai 63 [])⟩) (λx=>(.exit 4,⟨([.dj (.cl 0) 0 [] 0 0 x.1,.d ti x.2.1,.fn 77 (.nil),bX,bX,bX,.d ti x.2.2.1,.d ti x.2.2.2.1]++aW 55 []),di (.vec 174 nE x.2.2.2.2),(ai 63 [])⟩))
def zx:Fs Tryz.prog asF bk an8:=dV 127 Tryz.f127 (λ(dataL,n,o0)=>([.dj (.cl 0) 0 [] 0 0 dataL,.d ti n,.fn 77 (.nil)],[.obj 0 bq (.vec 174 nE o0)])) (λx=>⟨.nil,[.obj 0 bq (.vec 174 nE x)],[]⟩) [aF,av ti,aF] [aBS] {loops:=mM [(2,{aX:=[0,1,2,6,7,8]}),(7,{aX:=[0,1,2,6]}),(9,{aX:=[0,1,2,6,7,8]})],outs:=mL [(2,{aX:=[0,1,2,6,7]},{}),(7,{},{}),(9,{aX:=[0,1,2,6,7]},{})],fo:=oR [(2,rM.E),(7,rO.E),(9,Ur.E)]}
theorem abx:rM.RS:=rL [.n,.d ti,.d ti,.d ti,.d ti,.d (.slice nE)] rM
theorem Al(nS He blockSize a b gz)(kn:K2 R)(kx:K3 R):zx.R 0 rM (nS,He,blockSize,a,b,gz) kn kx=aG (ab9 b He) (ak (Ij.call (nS,a,b,gz)) λx1=>kn (rM.st (nS,He,blockSize,b,(bl .i64 b blockSize),x1))) (rM.go kx ((nS,He,blockSize),(a,gz))):=cq
theorem LP:rO.RS:=rL [.n,.d ti,.d ti,.d (.slice nE)] rO
theorem Wt(iN aIU blockSize_2 nv)(kn:K2 R)(kx:K3 R):zx.R 1 rO (iN,aIU,blockSize_2,nv) kn kx=aG (fG blockSize_2 aIU) (ak (Ur.call (iN,aIU,blockSize_2,0,(ed .i64 2 blockSize_2),nv)) λx1=>aG (fG (bl .i64 x1.2.2.2.1 x1.2.2.1) x1.2.1) (aF) (kn (rO.st (x1.1,x1.2.1,(ed .i64 x1.2.2.1 2),x1.2.2.2.2)))) (rO.go kx nv):=cq
theorem azi(dataL n o0)(k:K1 R):zx.A (dataL,n,o0) k=ak (rM.call (dataL,n,20,0,20,o0)) λx2=>ak (Ij.call (x2.1.1,x2.2.1,x2.1.2.1,x2.2.2)) λx3=>ak (rO.call (x2.1.1,x2.1.2.1,x2.1.2.2,x3)) λx5=>k (zx.out x5):=cq
theorem agz:(zx.jx 2 Ur):=λd h=>h.elim
theorem agy:(zx.jx 1 rO):=by
 refine(zx.ky 1 rO) (λ_=>0) ?_
 rintro⟨m,n,z,l⟩ h;have h:n<=z:=h;right;intro R kn kx;rw[Wt,aQ ao,al];rfl
theorem agx:(zx.jx 0 rM):=by
 refine(zx.ky 0 rM) (λ(m,n,z,a,b,l)=>(40 - b).toNat) ?_
 rintro⟨m,n,z,a,b,l⟩ ⟨rfl,rfl,rfl,hl,h⟩;have hl:l.length<=20:=hl;rcases h with⟨rfl,rfl⟩ | ⟨rfl,rfl⟩
 ·by_cases aBa:l.length=20
  ·left;have hp:=(lZ l).length_eq;refine⟨((jD l).length,((jD l).length:Int),20,20,40,jD l),⟨rfl,rfl,rfl,by show(jD l).length<=20;omega,.inr ⟨rfl,rfl⟩⟩,by show(40 - (40:Int)).toNat < (40 - (20:Int)).toNat;decide,?_,λkn kx=> ?_⟩
   ·simp only[rN,yi];rw[if_neg (λh=>absurd h.1 fg),if_pos ⟨by trivial,ao⟩,hp]
   ·rw[Al,Ea ao,aj,Sq (d:=(l.length,0,20,l)) ⟨rfl,by show l.length<=1000;omega,.inl ⟨rfl,by show(20:Int)=(l.length:Int);omega⟩⟩];simp only[ah,bk,MO,bG];rw[show bl .i64 20 20=40 from rfl,hp]
  ·right;intro R kn kx;rw[Al,sI ao,al];simp only[rN,yi];rw[if_neg (λh=>aBa (by have:=h.2;omega))]
 ·right;intro R kn kx;rw[Al,sI ao,al];simp only[rN,yi];rw[if_neg (λh=>absurd h.1 fg)]
theorem azj:zx.Ok:=by
 rintro⟨m,n,l⟩ ⟨rfl,rfl,hl⟩;have hl:l.length<=20:=hl;have hp:=(lZ l).length_eq;rw[azi,abx (d:=(l.length,(l.length:Int),20,0,20,l)) ⟨rfl,rfl,rfl,hl,.inl ⟨rfl,rfl⟩⟩];simp only[ah,rN,yi,bk,an8];by_cases aBa:l.length=20
 ·rw[if_pos ⟨by trivial,ao⟩];rw[Sq (d:=(l.length,20,(l.length:Int),jD l)) ⟨by show l.length=(jD l).length;omega,by show(jD l).length<=1000;omega,.inr ⟨by show(20:Int)=(l.length:Int);omega,fg,fg⟩⟩];simp only[ah,bk,MO];rw[if_neg fg,LP (d:=(l.length,(l.length:Int),20,jD l)) (by show(l.length:Int)<=20;omega)];rfl
 ·rw[if_neg (λh=>aBa (by have:=h.2;omega))];rw[Sq (d:=(l.length,0,(l.length:Int),l)) ⟨rfl,by show l.length<=1000;omega,.inl ⟨rfl,rfl⟩⟩];simp only[ah,bk,MO,bG];rw[LP (d:=(l.length,(l.length:Int),20,jD l)) (by show(l.length:Int)<=20;omega)];rfl
theorem asG:zx.RS:=rE [.n,.d ti,.d (.slice nE)] zx
def azk:=zx.dZ azj 3 ⟨.fH agx,⟨.fH agy,⟨.fH agz,trivial⟩⟩⟩
abbrev ay7:=Nat×(List oT)
def ay9:ay7->Prop:=λ(m,l)=>m=l.length/\l.length<=20
def ay8:ay7->(List oT):=λ(m,l)=>jD l
def Un:Fs Tryz.prog ay9 bk ay8:=dV 76 Tryz.f76 (λ(xL,o0)=>([.dj (.cl 0) 0 [] 0 0 xL,.fn 77 (.nil)],[.obj 0 bq (.vec 174 nE o0)])) (λx=>⟨.nil,[.obj 0 bq (.vec 174 nE x)],[]⟩) [aF,aF] [azk]
theorem aDh(xL o0)(k:K1 R):Un.A (xL,o0) k=ak (zx.call (xL,((xL:Nat):Int),o0)) λx1=>k (Un.out x1):=cq
theorem aDi:Un.Ok:=by rintro⟨m,l⟩ ⟨rfl,hl⟩;rw[aDh,asG (d:=(l.length,(l.length:Int),l)) ⟨rfl,rfl,hl⟩];rfl
theorem aza:Un.RS:=rE [.n,.d (.slice nE)] Un
def aDj:=Un.dZ aDi
section
noncomputable section
def aAi:fM:=((0:Int),((0:Int),((0:Int),((0:Int),((0:Int),())))))
theorem aw1:∃f:Lk->List Int,∀l,f l=aJH l:=⟨_,λ_=>rfl⟩
def aK7:Lk->List Int:=Classical.choose aw1
theorem aFY(l:Lk):aK7 l=aJH l:=mA aw1 l
theorem axh{l:Lk}(h:Ba l):VE.call l=av (aK7 l):=by rw[axi (d:=l) h,aFY];simp only[bk,ajz]
def aca(n:Int)(l:Lk)(r:Jg):oT:=((n,(l,())),(r,(aK7 l,())))
abbrev oe:=(List oT)
def arF:(Int×Lk×Jg)->Prop:=λ(n,l,r)=>Ba l
def aCJ:(Int×Lk×Jg)->oe:=λ(n,l,r)=> [aca n l r]
def C8:Fs Tryz.prog arF bk aCJ:=dV 69 Tryz.f69 (λ(amount,l,role)=>([.d ti amount,.d yC l,.d abF role,.ptr (.cl 0) 0 [] 0],[.obj 0 bq (.cX)])) (λx=>⟨.nil,[.obj 0 bq (.dj (.new 0 0) 0 [] 0 0 1)],[.obj 0 bq (.vec 174 nE x)]⟩) [av ti,av yC,av abF,aF] [anC]
theorem ax0(amount l role)(k:K1 R):C8.A (amount,l,role) k=ak (VE.call l) λx1=>k (C8.out [((amount,(l,())),(role,(x1,())))]):=cq
theorem ax1:C8.Ok:=by rintro⟨n,l,r⟩ hl;rw[ax0,axh hl];rfl
theorem arG:C8.RS:=rE [.d ti,.d yC,.d abF] C8
def ax2:=C8.dZ ax1
abbrev anR:=Int×Lk×Jg×Nat×(List oT)
abbrev F9:=Nat×(List oT)
def arH:anR->Prop:=λ(n,l,r,m,row)=>Ba l/\m=row.length/\row.length<=1000
def aCK:anR->F9:=λ(n,l,r,m,row)=>(row.length+1,row++ [aca n l r])
def rk:Fs Tryz.prog arH bk aCK:=dV 69 Tryz.f69 (λ(amount,l,role,o0L,o1)=>([.d ti amount,.d yC l,.d abF role,.ptr (.cl 0) 0 [] 0],[.obj 0 bq (.dj (.cl 1) 0 [] 0 0 o0L),.obj 0 bq (.vec 174 nE o1)])) (λx=>⟨.nil,[.obj 0 bq (.dj (.cl 1) 1 [] 0 0 x.1),.obj 1 bq (.vec 174 nE x.2)],[]⟩) [av ti,av yC,av abF,aF] [anC]
theorem ax3(amount l role o0L o1)(k:K1 R):rk.A (amount,l,role,o0L,o1) k=ak (VE.call l) λx1=>aG (decide (o0L<=(ae o1))) (aG (db (o0L+1) 112) (k (rk.out ((o0L+1),((aT o0L o1)++ [((amount,(l,())),(role,(x1,())))])))) aF) aF:=cq
theorem ax4:rk.Ok:=by rintro⟨n,l,r,m,row⟩ ⟨hl,rfl,hr⟩;have hr:row.length<=1000:=hr;rw[ax3,axh hl,ah,aJ (aC _),aj,dR ao ao,aj,bK];rfl
theorem arI:rk.RS:=rE [.d ti,.d yC,.d abF,.n,.d (.slice nE)] rk
def ax5:=rk.dZ ax4
def put.E:Entry:=Entry.alt aGd [av ti,av yC,av abF,aF] (X:=oe) (Y:=F9) C8.E.run rk.E.run C8.E.out rk.E.out
def put.sg:SG Tryz.prog:=⟨69,Jk,put.E,Jd.of (si.alt (ax2.h.1 (by rfl)) (ax5.h.1 (by rfl))) (by rfl)⟩
theorem KZ{n:Int}{l:Lk}{r:Jg}(hl:Ba l):ahD (Y:=F9) (C8.call (n,l,r))=av ([aca n l r],default):=by rw[arG (d:=(n,l,r)) hl];rfl
theorem pa{n:Int}{l:Lk}{r:Jg}{m:Nat}{row:List oT}(hl:Ba l)(hm:m=row.length)(hr:row.length<=1000):Jj (X:=oe) (rk.call (n,l,r,m,row))=av (default,row.length+1,row++ [aca n l r]):=by rw[arI (d:=(n,l,r,m,row)) ⟨hl,hm,hr⟩];rfl
theorem M5{l:Lk}(h:∀b∈l.1,aG0 b)(h2:l.1.length<=100):Ba l:=⟨h,ao⟩
theorem Vg{p a d s:Int}(hp:eG p)(hs:eG s):aG0 ([p],(a,(d,(s,())))):=⟨λx hx=>by rw[List.mem_singleton.1 hx];exact hp,hs⟩
theorem CL:eG 0:=⟨fg,fg⟩
theorem aeK{a b d:Int}(ha:eG a)(hb:eG b):Ba (OI a b d):=M5 (λx hx=>by
 rcases bI.1 hx with rfl | hx
 ·exact Vg hb CL
 ·rw[List.mem_singleton.1 hx];exact Vg ha CL) (by show 2<=_;decide)
theorem Qr{a:Int}(ha:eG a):Ba (Dv [a]):=M5 (λx hx=>by rw[List.mem_singleton.1 hx];exact Vg ha CL) (by show 1<=_;decide)
theorem BX{a:Int}(ha:eG a):Ba (Bc a):=M5 (λx hx=>by
 rcases bI.1 hx with rfl | hx
 ·exact Vg ha CL
 ·rw[List.mem_singleton.1 hx];exact⟨λy hy=>(by cases hy),CL⟩) (by show 2<=_;decide)
def aEh(rev theirs mine wait:Int)(c:fM):Lk:=([([rev],((0:Int),((0:Int),((0:Int),())))),([theirs],((0:Int),((0:Int),(c.2.2.2.1,())))),([mine],(c.2.2.2.2.1,(wait,((0:Int),()))))],())
def aEi(rev theirs mine wait:Int)(c:fM):Lk:=([([rev],((0:Int),((0:Int),((0:Int),())))),([mine],((0:Int),(wait,(c.2.2.2.1,())))),([theirs],(c.2.2.2.2.1,((0:Int),((0:Int),()))))],())
theorem aEf{rev theirs mine wait:Int}{c:fM}(h1:eG rev)(h2:eG theirs)(h3:eG mine)(h4:eG c.2.2.2.1):Ba (aEh rev theirs mine wait c):=M5 (λx hx=>by
 rcases bI.1 hx with rfl | hx
 ·exact Vg h1 CL
 rcases bI.1 hx with rfl | hx
 ·exact Vg h2 h4
 ·rw[List.mem_singleton.1 hx];exact Vg h3 CL) (by show 3<=_;decide)
theorem aEg{rev theirs mine wait:Int}{c:fM}(h1:eG rev)(h2:eG theirs)(h3:eG mine)(h4:eG c.2.2.2.1):Ba (aEi rev theirs mine wait c):=M5 (λx hx=>by
 rcases bI.1 hx with rfl | hx
 ·exact Vg h1 CL
 rcases bI.1 hx with rfl | hx
 ·exact Vg h3 h4
 ·rw[List.mem_singleton.1 hx];exact Vg h2 CL) (by show 3<=_;decide)
def oC(own rev theirs mine wait:Int)(c:fM):oT:=if c.1=own then aca c.2.2.1 (aEh rev theirs mine wait c) ((5:Int),(c,())) else aca c.2.2.1 (aEi rev theirs mine wait c) ((6:Int),(c,()))
def nH(ch:fu)(n:Int):atu:=nth rQ ch.2.2.1 n.toNat
def HE(ch:fu)(n:Int):Int:=(nth oO ch.2.2.2.1 n.toNat).2.2.1
def pb(ch:fu)(s:fZ)(own per:Int):List oT:=(if abp (fX ch s own)=aS then [aca (fX ch s own) (OI (Eu (nH ch own).2.2.1 per) (Cl (nH ch (1 - own)).2.2.2.2.1 per) (HE ch (1 - own))) ((1:Int),(aAi,()))] else [])++((if abp (fX ch s (1 - own))=aS then [aca (fX ch s (1 - own)) (Dv [(nH ch (1 - own)).2.1]) ((2:Int),(aAi,()))] else [])++([aca 330 (Bc (nH ch own).1) ((3:Int),(aAi,())),aca 330 (Bc (nH ch (1 - own)).1) ((4:Int),(aAi,()))]++(eN s.2.2.1).map (oC own (Cl (nH ch (1 - own)).2.2.2.2.1 per) (Eu (nH ch (1 - own)).2.2.2.1 per) (Eu (nH ch own).2.2.2.1 per) (HE ch (1 - own)))))
def ofRow(ch:fu)(s:fZ)(own:Int)(l:List oT):aos:=(([(ch.1,(((0:Int),(([]:List Sg),((0:Int),()))),()))],(l.map (λm=>m.1),(2*s.1+own,()))),(l.map (λm=>m.2.1),()))
def bO(ch:fu)(s:fZ)(own per:Int):aos:=ofRow ch s own (jD (pb ch s own per))
def aLw:aos:=((([]:List kG),(([]:List jI),((0:Int),()))),(([]:List Jg),()))
def nr(ch:fu)(s:fZ)(own per:Int):aos×Int:=if(decide (own=0\/own=1) && oQ per)=aS then(if IU ch s=aS then(bO ch s own per,0) else(aLw,14)) else(aLw,1)
abbrev HJ:=Int×fu×fZ×Int×Int×Int×Int×(List fM)×Int×Int×(Int×Unit)×Nat×(List oT)
abbrev Rj:=Nat×(List oT)
def vC:HJ->Rj->((Int×fu×fZ×(Int×Unit))×(Nat×(List oT))):=λ(uu,fS,cU,wait,rev,mine,theirs,t139,t140,t141,n8,ajJ,aF7) y=>((uu,fS,cU,n8),y)
abbrev HK:=Nat×Int×Int×(Int×Unit)×(List kG)×Nat×(Int×Unit)×Nat×(List oT)×(List jI)×(List Jg)
abbrev Rk:=Nat×Nat×(List jI)×(List Jg)
def vD:HK->Rk->(((Int×Unit)×(List kG)×(Int×Unit))×(Nat×Nat×(List jI)×(List Jg))):=λ(YG,t201,t202,ajO,anD,aaK,Ta,B7,O2,ajK,ajL) y=>((ajO,anD,Ta),y)
abbrev amB:=fu×fZ×Int×Int
def Zg:HJ->Prop:=λ(own,ch,s,wait,rev,mine,theirs,l,m,i,z,L,row)=>(∀c∈l,eG c.2.2.2.1)/\(eG rev/\eG mine/\eG theirs)/\l.length<=16/\m=l.length/\L=row.length/\∃k:Nat,k<=l.length/\i=k/\row.length<=4+k
def Bq:HJ->Rj:=λ(own,ch,s,wait,rev,mine,theirs,l,m,i,z,L,row)=>((row++(l.drop i.toNat).map (oC own rev theirs mine wait)).length,row++(l.drop i.toNat).map (oC own rev theirs mine wait))
def Zi:HK->Prop:=λ(L,m,i,z,ins,lo,note,lr,row,outs,roles)=>L=row.length/\m=row.length/\lo=outs.length/\lr=roles.length/\row.length<=1000/\∃k:Nat,k<=row.length/\i=k/\outs.length<=k/\roles.length<=k
def Br:HK->Rk:=λ(L,m,i,z,ins,lo,note,lr,row,outs,roles)=>((outs++(row.drop i.toNat).map (λm=>m.1)).length,(roles++(row.drop i.toNat).map (λm=>m.2.1)).length,outs++(row.drop i.toNat).map (λm=>m.1),roles++(row.drop i.toNat).map (λm=>m.2.1))
def ao7:amB->Prop:=λ(ch,s,own,per)=>l9 ch/\A5 s/\eG per
def Zf:amB->(aos×Int):=λ(ch,s,own,per)=>nr ch s own per
def jR:Ls Zg vC Bq:=oa (λ(uu,fS,cU,wait,rev,mine,theirs,t139,t140,t141,n8,ajJ,aF7)=>⟨([bX,bX,.d ti uu,bX,.dN lg fS,.dN kE cU,bX,bX,fc 8,bX,bX,.d ti wait,.d tu rev,.d tu mine,.d tu theirs,fc 15,.fn 69 (.cons (fc 15) (.nil))]++aW 122 ([.d (.slice gD) t139,.d ti t140,.d ti t141]++aW 82 [])),[],(bR 8 ([di (.pr (.pr (.cX) (.pr (.cX) (.d (.pair ti .unit) n8))) (.pr (.cX) Ma))]++bR 6 ([di (kZ 96 ajJ)]++bR 80 ([di (.vec 174 nE aF7)]++bR 127 []))))⟩) (λx=>(.exit 1,⟨([bX,bX,.d ti x.1.1,bX,.dN lg x.1.2.1,.dN kE x.1.2.2.1,bX,bX,fc 8]++aW 6 ([fc 15]++aW 208 [])),[],(bR 8 ([di (.pr (.pr (.cX) (.pr (.cX) (.d (.pair ti .unit) x.1.2.2.2))) (.pr (.cX) Ma))]++bR 6 ([di (kZ 96 x.2.1)]++bR 80 ([di (.vec 174 nE x.2.2)]++bR 127 []))))⟩))
def kU:Ls Zi vD Br:=oa (λ(YG,t201,t202,ajO,anD,aaK,Ta,B7,O2,ajK,ajL)=>⟨(aW 8 ([fc 8]++aW 15 ([fc 24]++aW 175 ([kZ 96 YG,.d ti t201,.d ti t202]++aW 21 [])))),[],(bR 8 ([di (.pr (.pr (.cX) (.pr (.cX) (.d (.pair ti .unit) ajO))) (.pr (.cX) Ma))]++bR 15 ([di (.pr (.pr (.d (.slice iB) anD) (.pr (kZ 212 aaK) (.d (.pair ti .unit) Ta))) (.pr (kZ 220 B7) Ma))]++bR 71 ([di (.vec 174 nE O2)]++bR 115 ([di (.vec 94 jE ajK)]++bR 7 [di (.vec 171 abF ajL),[],[],[]])))))⟩) (λx=>(.exit 3,⟨(aW 8 ([fc 8]++aW 15 ([fc 24]++aW 199 []))),[],(bR 8 ([di (.pr (.pr (.cX) (.pr (.cX) (.d (.pair ti .unit) x.1.1))) (.pr (.cX) Ma))]++bR 15 ([di (.pr (.pr (.d (.slice iB) x.1.2.1) (.pr (kZ 212 x.2.1) (.d (.pair ti .unit) x.1.2.2))) (.pr (kZ 220 x.2.2.1) Ma))]++bR 187 ([di (.vec 94 jE x.2.2.2.1)]++bR 7 [di (.vec 171 abF x.2.2.2.2),[],[],[]]))))⟩))
def ma:Fs Tryz.prog ao7 bk Zf:=dV 32 Tryz.f32 (λ(ch,sv,own,per)=>([.d lg ch,.d kE sv,.d ti own,.d tu per],[])) (λx=>⟨.cons (.d atq x.1) (.cons (.d ti x.2) (.nil)),[],[]⟩) [av lg,av kE,av ti,av tu] [auS,wY,alb,ajk,aB3,auI,UL,aw7,put.sg,aay,ajr,Xm,aDj] {loops:=mM [(20,{aX:=[2,4,5,8,11,12,13,14,15,16,139,140,141],sites:=[8,15,96,117,126],owns:=[⟨15,[.arr],96,0⟩]}),(32,{aX:=[8,24,200,201,202],sites:=[8,24,96,212,220],owns:=[⟨24,[.fst,.snd,.fst],212,64⟩,⟨24,[.snd,.fst],220,67⟩]})],outs:=mL [(20,{aX:=[2,4,5,8,15],sites:=[8,15,96]},{aX:=[8,9]}),(32,{aX:=[8,24],sites:=[8,24,212,220]},{aX:=[8,9]})],fo:=oR [(20,jR.E),(32,kU.E)],res:=[av atq,aF]}
theorem Zh:jR.RS:=rL [.d ti,.d lg,.d kE,.d ti,.d tu,.d tu,.d tu,.d (.slice gD),.d ti,.d ti,.d (.pair ti .unit),.n,.d (.slice nE)] jR
theorem GJ(uu fS cU wait rev mine theirs t139 t140 t141 n8 ajJ aF7)(kn:K2 R)(kx:K3 R):ma.R 0 jR (uu,fS,cU,wait,rev,mine,theirs,t139,t140,t141,n8,ajJ,aF7) kn kx=aG (fG t141 t140) (aG (dr t141 (t139.length:Int)) (aG (kK (nth gD t139 (ab t141)).1 uu) (ak (Jj (X:=oe) (rk.call ((nth gD t139 (ab t141)).2.2.1,([([rev],(0,(0,(0,())))),([theirs],(0,(0,((nth gD t139 (ab t141)).2.2.2.1,())))),([mine],((nth gD t139 (ab t141)).2.2.2.2.1,(wait,(0,()))))],()),(5,((nth gD t139 (ab t141)),())),ajJ,aF7))) λx1=>kn (jR.st (uu,fS,cU,wait,rev,mine,theirs,t139,t140,(bl .i64 t141 1),n8,x1.2.1,x1.2.2))) (ak (Jj (X:=oe) (rk.call ((nth gD t139 (ab t141)).2.2.1,([([rev],(0,(0,(0,())))),([mine],(0,(wait,((nth gD t139 (ab t141)).2.2.2.1,())))),([theirs],((nth gD t139 (ab t141)).2.2.2.2.1,(0,(0,()))))],()),(6,((nth gD t139 (ab t141)),())),ajJ,aF7))) λx2=>kn (jR.st (uu,fS,cU,wait,rev,mine,theirs,t139,t140,(bl .i64 t141 1),n8,x2.2.1,x2.2.2)))) aF) (jR.go kx ((uu,fS,cU,n8),(ajJ,aF7))):=cq
theorem Zj:kU.RS:=rL [.n,.d ti,.d ti,.d (.pair ti .unit),.d (.slice iB),.n,.d (.pair ti .unit),.n,.d (.slice nE),.d (.slice jE),.d (.slice abF)] kU
theorem GK(YG t201 t202 ajO anD aaK Ta B7 O2 ajK ajL)(kn:K2 R)(kx:K3 R):ma.R 1 kU (YG,t201,t202,ajO,anD,aaK,Ta,B7,O2,ajK,ajL) kn kx=aG (fG t202 t201) (aG (dr t202 ((YG:Nat):Int)) (aG (decide ((0+(ab t202)) < (ae O2))) (aG (decide ((((0+(ab t202))*40)+0)=(0+((ab t202)*40)))) (aG (decide (aaK<=(ae ajK))) (aG (db (aaK+1) 32) (aG (decide (B7<=(ae ajL))) (aG (db (B7+1) 48) (kn (kU.st (YG,t201,(bl .i64 t202 1),ajO,anD,(aaK+1),Ta,(B7+1),O2,((aT aaK ajK)++ [(nth nE O2 (0+(ab t202))).1]),((aT B7 ajL)++ [(nth nE O2 (0+(ab t202))).2.1])))) aF) aF) aF) aF) aF) aF) aF) (kU.go kx ((ajO,anD,Ta),(aaK,B7,ajK,ajL))):=cq
theorem aul(ch sv own per)(k:K1 R):ma.A (ch,sv,own,per) k=ak (Oi.call own) λx1=>aG (!x1) (k (ma.out (((([]:List kG),(([]:List jI),(0,()))),(([]:List Jg),())),1))) (ak (oJ.call per) λx2=>aG (!x2) (k (ma.out (((([]:List kG),(([]:List jI),(0,()))),(([]:List Jg),())),1))) (ak (gu.call (ch,sv)) λx3=>aG (!x3) (k (ma.out (((([]:List kG),(([]:List jI),(0,()))),(([]:List Jg),())),14))) (aG (dr (bA .i64 1 own) 2) (aG (dr (bA .i64 1 own) 2) (ak (wm.call ((nth rQ ch.2.2.1 (ab (bA .i64 1 own))).2.2.2.2.1,per)) λx4=>aG (dr own 2) (ak (MW.call ((nth rQ ch.2.2.1 (ab own)).2.2.2.1,per)) λx5=>aG (dr (bA .i64 1 own) 2) (ak (MW.call ((nth rQ ch.2.2.1 (ab (bA .i64 1 own))).2.2.2.1,per)) λx6=>ak (CZ.call (ch,sv,own,own)) λx7=>aG (dr own 2) (ak (rU.call ((nth oO ch.2.2.2.1 (ab own)),x7)) λx8=>aG (x8) (aG (dr own 2) (ak (MW.call ((nth rQ ch.2.2.1 (ab own)).2.2.1,per)) λx9=>ak (ON.call (x9,x4,(nth oO ch.2.2.2.1 (ab (bA .i64 1 own))).2.2.1)) λMc=>ak (ahD (Y:=F9) (C8.call (x7,Mc,(1,((0,(0,(0,(0,(0,()))))),()))))) λQK=>ak (CZ.call (ch,sv,own,(bA .i64 1 own))) λQL=>aG (dr own 2) (ak (rU.call ((nth oO ch.2.2.2.1 (ab own)),QL)) λaDH=>aG (aDH) (aG (dr (bA .i64 1 own) 2) (ak (M6.call (nth rQ ch.2.2.1 (ab (bA .i64 1 own))).2.1) λaJd=>ak (Jj (X:=oe) (rk.call (QL,aJd,(2,((0,(0,(0,(0,(0,()))))),())),1,QK.1))) λaEB=>aG (dr own 2) (ak (lR.call (nth rQ ch.2.2.1 (ab own)).1) λaEC=>ak (Jj (X:=oe) (rk.call (330,aEC,(3,((0,(0,(0,(0,(0,()))))),())),aEB.2.1,aEB.2.2))) λaL7=>aG (dr (bA .i64 1 own) 2) (ak (lR.call (nth rQ ch.2.2.1 (ab (bA .i64 1 own))).1) λaNE=>ak (Jj (X:=oe) (rk.call (330,aNE,(4,((0,(0,(0,(0,(0,()))))),())),aL7.2.1,aL7.2.2))) λaL8=>ak (pL.call (ch,sv,own)) λaJe=>ak (jR.call (own,ch,sv,(nth oO ch.2.2.2.1 (ab (bA .i64 1 own))).2.2.1,x4,x5,x6,aJe,(aJe.length:Int),0,(0,()),aL8.2.1,aL8.2.2)) λahj=>ak (Un.call (ahj.2.1,ahj.2.2)) λaLv=>ak (kU.call (ahj.2.1,((ahj.2.1:Nat):Int),0,ahj.1.2.2.2,[(ahj.1.2.1.1,((0,(([]:List Sg),(0,()))),()))],0,((bl .i64 (ed .i64 2 ahj.1.2.2.1.1) ahj.1.1),()),0,aLv,([]:List jI),([]:List Jg))) λDA=>aG (decide (0=0/\(0+DA.2.1)<=(ae DA.2.2.2.1))) (aG (decide (0=0/\(0+DA.2.2.1)<=(ae DA.2.2.2.2))) (k (ma.out (((DA.1.2.1,((cut DA.2.2.2.1 0 DA.2.1),DA.1.2.2)),((cut DA.2.2.2.2 0 DA.2.2.1),())),0))) aF) aF) aF) aF) aF) (aG (dr own 2) (ak (lR.call (nth rQ ch.2.2.1 (ab own)).1) λaNF=>ak (Jj (X:=oe) (rk.call (330,aNF,(3,((0,(0,(0,(0,(0,()))))),())),1,QK.1))) λaHu=>aG (dr (bA .i64 1 own) 2) (ak (lR.call (nth rQ ch.2.2.1 (ab (bA .i64 1 own))).1) λaNG=>ak (Jj (X:=oe) (rk.call (330,aNG,(4,((0,(0,(0,(0,(0,()))))),())),aHu.2.1,aHu.2.2))) λab4=>ak (pL.call (ch,sv,own)) λaL9=>ak (jR.call (own,ch,sv,(nth oO ch.2.2.2.1 (ab (bA .i64 1 own))).2.2.1,x4,x5,x6,aL9,(aL9.length:Int),0,(0,()),ab4.2.1,ab4.2.2)) λaED=>ak (Un.call (aED.2.1,aED.2.2)) λaNH=>ak (kU.call (aED.2.1,((aED.2.1:Nat):Int),0,aED.1.2.2.2,[(aED.1.2.1.1,((0,(([]:List Sg),(0,()))),()))],0,((bl .i64 (ed .i64 2 aED.1.2.2.1.1) aED.1.1),()),0,aNH,([]:List jI),([]:List Jg))) λahv=>aG (decide (0=0/\(0+ahv.2.1)<=(ae ahv.2.2.2.1))) (aG (decide (0=0/\(0+ahv.2.2.1)<=(ae ahv.2.2.2.2))) (k (ma.out (((ahv.1.2.1,((cut ahv.2.2.2.1 0 ahv.2.1),ahv.1.2.2)),((cut ahv.2.2.2.2 0 ahv.2.2.1),())),0))) aF) aF) aF) aF)) aF) aF) (ak (CZ.call (ch,sv,own,(bA .i64 1 own))) λaMa=>aG (dr own 2) (ak (rU.call ((nth oO ch.2.2.2.1 (ab own)),aMa)) λaNI=>aG (aNI) (aG (dr (bA .i64 1 own) 2) (ak (M6.call (nth rQ ch.2.2.1 (ab (bA .i64 1 own))).2.1) λaNJ=>ak (ahD (Y:=F9) (C8.call (aMa,aNJ,(2,((0,(0,(0,(0,(0,()))))),()))))) λaJf=>aG (dr own 2) (ak (lR.call (nth rQ ch.2.2.1 (ab own)).1) λaNK=>ak (Jj (X:=oe) (rk.call (330,aNK,(3,((0,(0,(0,(0,(0,()))))),())),1,aJf.1))) λaMb=>aG (dr (bA .i64 1 own) 2) (ak (lR.call (nth rQ ch.2.2.1 (ab (bA .i64 1 own))).1) λaNM=>ak (Jj (X:=oe) (rk.call (330,aNM,(4,((0,(0,(0,(0,(0,()))))),())),aMb.2.1,aMb.2.2))) λaDI=>ak (pL.call (ch,sv,own)) λaMc=>ak (jR.call (own,ch,sv,(nth oO ch.2.2.2.1 (ab (bA .i64 1 own))).2.2.1,x4,x5,x6,aMc,(aMc.length:Int),0,(0,()),aDI.2.1,aDI.2.2)) λaEE=>ak (Un.call (aEE.2.1,aEE.2.2)) λaNO=>ak (kU.call (aEE.2.1,((aEE.2.1:Nat):Int),0,aEE.1.2.2.2,[(aEE.1.2.1.1,((0,(([]:List Sg),(0,()))),()))],0,((bl .i64 (ed .i64 2 aEE.1.2.2.1.1) aEE.1.1),()),0,aNO,([]:List jI),([]:List Jg))) λace=>aG (decide (0=0/\(0+ace.2.1)<=(ae ace.2.2.2.1))) (aG (decide (0=0/\(0+ace.2.2.1)<=(ae ace.2.2.2.2))) (k (ma.out (((ace.1.2.1,((cut ace.2.2.2.1 0 ace.2.1),ace.1.2.2)),((cut ace.2.2.2.2 0 ace.2.2.1),())),0))) aF) aF) aF) aF) aF) (aG (dr own 2) (ak (lR.call (nth rQ ch.2.2.1 (ab own)).1) λaNP=>ak (ahD (Y:=F9) (C8.call (330,aNP,(3,((0,(0,(0,(0,(0,()))))),()))))) λaNQ=>aG (dr (bA .i64 1 own) 2) (ak (lR.call (nth rQ ch.2.2.1 (ab (bA .i64 1 own))).1) λaNR=>ak (Jj (X:=oe) (rk.call (330,aNR,(4,((0,(0,(0,(0,(0,()))))),())),1,aNQ.1))) λaJg=>ak (pL.call (ch,sv,own)) λaMd=>ak (jR.call (own,ch,sv,(nth oO ch.2.2.2.1 (ab (bA .i64 1 own))).2.2.1,x4,x5,x6,aMd,(aMd.length:Int),0,(0,()),aJg.2.1,aJg.2.2)) λaEF=>ak (Un.call (aEF.2.1,aEF.2.2)) λaNS=>ak (kU.call (aEF.2.1,((aEF.2.1:Nat):Int),0,aEF.1.2.2.2,[(aEF.1.2.1.1,((0,(([]:List Sg),(0,()))),()))],0,((bl .i64 (ed .i64 2 aEF.1.2.2.1.1) aEF.1.1),()),0,aNS,([]:List jI),([]:List Jg))) λaAh=>aG (decide (0=0/\(0+aAh.2.1)<=(ae aAh.2.2.2.1))) (aG (decide (0=0/\(0+aAh.2.2.1)<=(ae aAh.2.2.2.2))) (k (ma.out (((aAh.1.2.1,((cut aAh.2.2.2.1 0 aAh.2.1),aAh.1.2.2)),((cut aAh.2.2.2.2 0 aAh.2.2.1),())),0))) aF) aF) aF) aF)) aF)) aF) aF) aF) aF) aF))):=cq
theorem acY:(ma.jx 0 jR):=by
 refine(ma.ky 0 jR) (λ(own,ch,s,wait,rev,mine,theirs,l,m,i,z,L,row)=>l.length - i.toNat) ?_
 rintro⟨own,ch,s,wait,rev,mine,theirs,l,m,i,z,L,row⟩ ⟨hc,⟨h1,h2,h3⟩,hl,rfl,rfl,k,hk,rfl,hr⟩;have hk:k<=l.length:=hk;have hl:l.length<=16:=hl;have hr:row.length<=4+k:=hr;have h1:eG rev:=h1;have h2:eG mine:=h2;have h3:eG theirs:=h3;by_cases h:k < l.length
 ·left;have n1:nth gD l k=l[k]:=cK (t:=gD) h;have hp:eG l[k].2.2.2.1:=hc _ (List.getElem_mem h);have hd:(l.drop k).map (oC own rev theirs mine wait)=oC own rev theirs mine wait l[k]::(l.drop (k+1)).map (oC own rev theirs mine wait):=by rw[aD h,bE]
  have e1:∀x:oT,(row++ [x]).length=row.length+1:=λx=>by rw[aq];rfl
  refine⟨(own,ch,s,wait,rev,mine,theirs,l,(l.length:Int),((k+1:Nat):Int),z,row.length+1,row++ [oC own rev theirs mine wait l[k]]),⟨hc,⟨h1,h2,h3⟩,hl,rfl,(e1 _).symm,k+1,ao,rfl,by show(row++ [_]).length<=_;rw[e1];omega⟩,by simp only[aa];omega,?_,λkn kx=> ?_⟩
  ·simp only[vC,Bq,aa,hd,bh,dp]
  ·rw[GJ,aZ ao,aV ao ao,aa,n1,N.qt ao];simp only[aj];unfold oC;by_cases ho:l[k].1=own
   ·rw[dU ho,aj,if_pos ho];refine(cf (λz=>ak z _) (pa (aEf h1 h3 h2 hp) rfl ao)).trans ?_
    rfl
   ·rw[dF ho,al,if_neg ho];refine(cf (λz=>ak z _) (pa (aEg h1 h3 h2 hp) rfl ao)).trans ?_
    rfl
 ·right;obtain rfl:k=l.length:=ao;intro R kn kx;rw[GJ,aQ ao,al];simp only[vC,Bq,aa,bj,fv,bW]
theorem acZ:(ma.jx 1 kU):=by
 refine(ma.ky 1 kU) (λ(L,m,i,z,ins,lo,note,lr,row,outs,roles)=>row.length - i.toNat) ?_
 rintro⟨L,m,i,z,ins,lo,note,lr,row,outs,roles⟩ ⟨rfl,rfl,rfl,rfl,hl,k,hk,rfl,ho,hr⟩;have hk:k<=row.length:=hk;have hl:row.length<=1000:=hl;have ho:outs.length<=k:=ho;have hr:roles.length<=k:=hr;by_cases h:k < row.length
 ·left;have n1:nth nE row k=row[k]:=cK (t:=nE) h;have hd:row.drop k=row[k]::row.drop (k+1):=aD h;have e1:(outs++ [row[k].1]).length=outs.length+1:=by rw[aq];rfl
  have e2:(roles++ [row[k].2.1]).length=roles.length+1:=by rw[aq];rfl
  refine⟨(row.length,(row.length:Int),((k+1:Nat):Int),z,ins,outs.length+1,note,roles.length+1,row,outs++ [row[k].1],roles++ [row[k].2.1]),⟨rfl,rfl,e1.symm,e2.symm,hl,k+1,ao,rfl,by show(outs++ [_]).length<=_;rw[e1];omega,by show(roles++ [_]).length<=_;rw[e2];omega⟩,by simp only[aa];omega,?_,λkn kx=> ?_⟩
  ·simp only[vD,Br,aa,hd,bE,bh,dp]
  ·rw[GK,aZ ao,aV ao ao,aa];simp only[Nat.zero_add];rw[n1,N.qt ao,aJ h,aJ (show k*40+0=k*40 from rfl),aJ (aC _),aJ (aC _),dR ao ao,dR ao ao,bK,bK];simp only[aj]
 ·right;obtain rfl:k=row.length:=ao;intro R kn kx;rw[GK,aQ ao,al];simp only[vD,Br,aa,bj,fv,bW]
theorem Bt{ch:fu}{s:fZ}{own wait rev mine theirs:Int}(dx:l9 ch)(hu:A5 s)(hs:Gk ch s)(ho:own=0\/own=1)(h1:eG rev)(h2:eG mine)(h3:eG theirs){RL:Nat}{R:List oT}(hL:RL=R.length)(hR:R.length<=4):
   (ak (pL.call (ch,s,own)) λaJe=>
    ak (jR.call (own,ch,s,wait,rev,mine,theirs,aJe,(((ae aJe):Nat):Int),(0:Int),((0:Int),()),RL,R)) λahj=>
    ak (Un.call (ahj.2.1,ahj.2.2)) λaLv=>
    ak (kU.call (ahj.2.1,((ahj.2.1:Nat):Int),(0:Int),ahj.1.2.2.2,[(ahj.1.2.1.1,(((0:Int),(([]:List Sg),((0:Int),()))),()))],0,((bl .i64 (ed .i64 (2:Int) ahj.1.2.2.1.1) ahj.1.1),()),0,aLv,([]:List jI),([]:List Jg))) λDA=>
    aG (decide (0=0/\(0+DA.2.1)<=(ae DA.2.2.2.1))) (
    aG (decide (0=0/\(0+DA.2.2.1)<=(ae DA.2.2.2.2))) (
    av (ma.out (((DA.1.2.1,((cut DA.2.2.2.1 0 DA.2.1),DA.1.2.2)),((cut DA.2.2.2.2 0 DA.2.2.1),())),(0:Int)))) aF) aF)=av (ma.out (ofRow ch s own (jD (R++(eN s.2.2.1).map (oC own rev theirs mine wait))),0)):=by
  subst hL;have hl:=hs.len;have Z5:(eN s.2.2.1).length<=16:=qz (jy _ _) hl;have aAa:=hs.no;rw[RE (d:=(ch,s,own)) ⟨dx,ho,by show s.2.2.1.length<=1000;omega⟩];simp only[ah,bk,JP];rw[Zh (d:=(own,ch,s,wait,rev,mine,theirs,eN s.2.2.1,((eN s.2.2.1).length:Int),0,(0,()),R.length,R)) ⟨λc hc=>hu.1 c ((fp.1 hc).1),⟨h1,h2,h3⟩,Z5,rfl,rfl,0,aO _,rfl,ao⟩];simp only[ah,vC,Bq,bg,aL];have hq:(R++(eN s.2.2.1).map (oC own rev theirs mine wait)).length<=20:=by rw[aq,bC];omega
  generalize R++(eN s.2.2.1).map (oC own rev theirs mine wait)=Q at hq;rw[aza (d:=(Q.length,Q)) ⟨rfl,hq⟩];simp only[ah,bk,ay8];have hp:=(lZ Q).length_eq;rw[mi ao ao,cQ ao ao];rw[Zj (d:=(Q.length,(Q.length:Int),0,(0,()),[(ch.1,(((0:Int),(([]:List Sg),((0:Int),()))),()))],0,(2*s.1+own,()),0,jD Q,[],[])) ⟨hp.symm,by show(Q.length:Int)=((jD Q).length:Int);rw[hp],rfl,rfl,by show(jD Q).length<=1000;omega,0,aO _,rfl,aC _,aC _⟩];simp only[ah,vD,Br,bg,aL,aR,Nat.zero_add];rw[aJ ⟨trivial,aC _⟩,aj,aJ ⟨trivial,aC _⟩,aj,fb rfl,fb rfl];rfl
theorem l9.ba{ch:fu}(h:l9 ch){n:Int}(hn:n=0\/n=1):aEH (nH ch n):=by
 obtain⟨a,b0,b1,o,rfl,_,_,h1,h2,_⟩:=h;rcases hn with rfl | rfl
 ·exact h1
 ·exact h2
theorem va(l:List Int):eG (CA l):=(an9 l).u
theorem aum:ma.Ok:=by
 rintro⟨ch,s,own,per⟩ ⟨dx,hu,hp⟩;have dx:l9 ch:=dx;have hu:A5 s:=hu;have hp:eG per:=hp;rw[aul,apu (d:=own) trivial];simp only[ah,bk,Zv,bk,Zf,nr, -eq_self];by_cases ho:own=0\/own=1;rotate_left
 ·rw[bP ho];rfl
 rw[aJ ho,bm,al,nw (d:=per) hp];simp only[ah,bk,AX, -eq_self];cases hq:oQ per
 ·rfl
 rw[bm,al,aga (d:=(ch,s)) ⟨dx,hu⟩];simp only[ah,bk,NI,kc,bG, -eq_self];cases gK:IU ch s
 ·rfl
 have hs:=yh.1 gK;have hp':1 - own=0\/1 - own=1:=ao;have b0:=dx.ba ho;have b1:=dx.ba hp';have i1:dr own 2=aS:=aV ao ao;have i2:dr (1 - own) 2=aS:=aV ao ao;have eB:∀n:Int,nth rQ ch.2.2.1 n.toNat=nH ch n:=λ_=>rfl
 have eW:∀n:Int,(nth oO ch.2.2.2.1 n.toNat).2.2.1=HE ch n:=λ_=>rfl
 have c1:wm.call ((nH ch (1 - own)).2.2.2.2.1,per)=av (Cl (nH ch (1 - own)).2.2.2.2.1 per):=aqy b1.2.2.2.2.1 hp;have c2:MW.call ((nH ch own).2.2.2.1,per)=av (Eu (nH ch own).2.2.2.1 per):=ajf b0.2.2.2.1.1 per;have c3:MW.call ((nH ch (1 - own)).2.2.2.1,per)=av (Eu (nH ch (1 - own)).2.2.2.1 per):=ajf b1.2.2.2.1.1 per;have c4:MW.call ((nH ch own).2.2.1,per)=av (Eu (nH ch own).2.2.1 per):=ajf b0.2.2.1.1 per;have c5:CZ.call (ch,s,own,own)=av (fX ch s own):=Xj (d:=(ch,s,own,own)) ⟨dx,hs,ho,ho⟩;have c6:CZ.call (ch,s,own,1 - own)=av (fX ch s (1 - own)):=Xj (d:=(ch,s,own,1 - own)) ⟨dx,hs,ho,hp'⟩;have c7:∀a b c:Int,ON.call (a,b,c)=av (OI a b c):=λa b c=>aqM (d:=(a,b,c)) trivial
 have c8:∀a:Int,M6.call a=av (Dv [a]):=λa=>SM (d:=a) trivial
 have c9:∀a:Int,lR.call a=av (Bc a):=λa=>aeF (d:=a) trivial
 have u1:eG (Cl (nH ch (1 - own)).2.2.2.2.1 per):=va _;have u2:eG (Eu (nH ch own).2.2.2.1 per):=va _;have u3:eG (Eu (nH ch (1 - own)).2.2.2.1 per):=va _;have k1:Ba (OI (Eu (nH ch own).2.2.1 per) (Cl (nH ch (1 - own)).2.2.2.2.1 per) (HE ch (1 - own))):=aeK (va _) u1;have k2:Ba (Dv [(nH ch (1 - own)).2.1]):=Qr b1.2.1.1;have k3:Ba (Bc (nH ch own).1):=BX b0.1.1;have k4:Ba (Bc (nH ch (1 - own)).1):=BX b1.1.1;have ahp:=λn=>dx.shown ho n
 rw[abC ao];simp only[eB,eW,i1,i2,aj,bm,al,c1,c2,c3,c4,c5,c6,c7,c8,c9,ahp,ah, -eq_self];unfold bO pb;cases hA:abp (fX ch s own) <;> cases hB:abp (fX ch s (1 - own))
 ·simp only[aj,al,bG,bJ,bz,aR, -eq_self];refine(cf (λz=>ak z _) (KZ k3)).trans ?_
  simp only[ah, -eq_self];refine(cf (λz=>ak z _) (pa k4 ?_ ?_)).trans ?_
  ·rfl
  ·exact bN rfl
  simp only[ah, -eq_self];exact Bt dx hu hs ho u1 u2 u3 rfl (bN rfl)
 ·simp only[aj,al,bG,bJ,bz,aR, -eq_self];refine(cf (λz=>ak z _) (KZ k2)).trans ?_
  simp only[ah, -eq_self];refine(cf (λz=>ak z _) (pa k3 ?_ ?_)).trans ?_
  ·rfl
  ·exact bN rfl
  simp only[ah, -eq_self];refine(cf (λz=>ak z _) (pa k4 ?_ ?_)).trans ?_
  ·rfl
  ·exact bN rfl
  simp only[ah, -eq_self];exact Bt dx hu hs ho u1 u2 u3 rfl (bN rfl)
 ·simp only[aj,al,bG,bJ,bz,aR, -eq_self];refine(cf (λz=>ak z _) (KZ k1)).trans ?_
  simp only[ah, -eq_self];refine(cf (λz=>ak z _) (pa k3 ?_ ?_)).trans ?_
  ·rfl
  ·exact bN rfl
  simp only[ah, -eq_self];refine(cf (λz=>ak z _) (pa k4 ?_ ?_)).trans ?_
  ·rfl
  ·exact bN rfl
  simp only[ah, -eq_self];exact Bt dx hu hs ho u1 u2 u3 rfl (bN rfl)
 ·simp only[aj,al,bG, -eq_self];refine(cf (λz=>ak z _) (KZ k1)).trans ?_
  simp only[ah, -eq_self];refine(cf (λz=>ak z _) (pa k2 ?_ ?_)).trans ?_
  ·rfl
  ·exact bN rfl
  simp only[ah, -eq_self];refine(cf (λz=>ak z _) (pa k3 ?_ ?_)).trans ?_
  ·rfl
  ·exact bN rfl
  simp only[ah, -eq_self];refine(cf (λz=>ak z _) (pa k4 ?_ ?_)).trans ?_
  ·rfl
  ·exact bN rfl
  simp only[ah, -eq_self];exact Bt dx hu hs ho u1 u2 u3 rfl (bN rfl)
theorem ao8:ma.RS:=rE [.d lg,.d kE,.d ti,.d tu] ma
def JC:=ma.dZ aum 2 ⟨.fH acY,⟨.fH acZ,trivial⟩⟩
end
end
section
noncomputable section
def Ds(rev pay:Int)(o:fA)(x:jI)(r:Jg):List tW:=if r.1=3\/r.1=4 then [] else [(o,(x.1,((if r.1=2 then pay else rev),())))]
def PB(rev pay:Int):List fA->List jI->List Jg->List tW
 |o::os,x::xs,r::rs=>Ds rev pay o x r++PB rev pay os xs rs
 |_,_,_=> []
def Hg(c:aos)(rev pay:Int):List tW:=PB rev pay (eu c.1) c.1.2.1 c.2.1
def PM:List tW->Int
 |[]=>0
 |x::l=>x.2.1+PM l
def iF(l:List tW)(bo:Int):Int:= -bo*(18+18*l.length)+PM l
structure aMh(x:tW):Prop where
 id:Sm x.1.1
 U5:0<=x.2.1/\x.2.1<=1125899906842624
 key:eG x.2.2.1
def QN(l:List tW):Prop:=l.length<=64/\∀x∈l,aMh x
theorem aoe(rev pay:Int):∀(a:List fA) (b:List jI) (c:List Jg),(PB rev pay a b c).length<=a.length
 |[],_,_=>aC _
 |_::_,[],_=>aO _
 |_::_,_::_,[]=>aO _
 |o::a,x::b,r::c=>by
  have:=aoe rev pay a b c;rw[PB,aq,aI];have h1:(Ds rev pay o x r).length<=1:=by unfold Ds;split <;> simp
  omega
theorem QI(rev pay:Int):∀(a:List fA) (b:List jI) (c:List Jg) (y:tW),y∈PB rev pay a b c->∃o∈a,∃x∈b,∃r∈c,¬(r.1=3\/r.1=4)/\y=(o,(x.1,((if r.1=2 then pay else rev),())))
 |[],_,_,_,h=>by simp[PB]at h
 |_::_,[],_,_,h=>by simp[PB]at h
 |_::_,_::_,[],_,h=>by simp[PB]at h
 |o::a,x::b,r::c,y,h=>by
  rw[PB,bt]at h;rcases h with h | h
  ·unfold Ds at h;split at h
   ·cases h
   ·next hr=>
    rw[List.mem_singleton]at h;exact⟨o,aM,x,aM,r,aM,hr,h⟩
  ·obtain⟨o',h1,x',h2,r',h3,h4⟩:=QI rev pay a b c y h;exact⟨o',aN _ h1,x',aN _ h2,r',aN _ h3,h4⟩
def aen:Int->Prop:=λn=>0<=n/\n<=1000
def aqq:Int->Int:=λn=>18+18*n
def yY:Fs Tryz.prog aen bk aqq:=dV 101 Tryz.f101 (λmany=>([.d ti many],[])) (λx=>⟨.d ti x,[],[]⟩) [av ti]
theorem ai2(many)(k:K1 R):yY.A many k=k (yY.out (bl .i64 (bl .i64 10 (ed .i64 18 many)) 8)):=cq
theorem ai3:yY.Ok:=by
 rintro(n:Int) ⟨h0,h1⟩;have h0:(0:Int)<=n:=h0;have h1:n<=(1000:Int):=h1;have e1:ed .i64 18 n=18*n:=mi ao ao;have e2:bl .i64 10 (18*n)=10+18*n:=cQ ao ao;have e3:bl .i64 (10+18*n) 8=18+18*n:=by rw[cQ ao ao];omega
 rw[ai2,e1,e2,e3];rfl
theorem aeo:yY.RS:=rE [.d ti] yY
def ai4:=yY.dZ ai3
abbrev aei:=Int×Int×aos×Nat×(List fA)×Int×Int×(List tW)
def aiZ:aei->Prop:=λ(rev,pay,c,L,os,m,i,row)=>os.length<=c.1.2.1.length/\c.1.2.1.length=c.2.1.length/\os.length<=1000/\m=os.length/\L=row.length/\∃k:Nat,k<=os.length/\i=k/\row.length<=k
def Ko:aei->(Nat×(List tW)):=λ(rev,pay,c,L,os,m,i,row)=>((row++PB rev pay (os.drop i.toNat) (c.1.2.1.drop i.toNat) (c.2.1.drop i.toNat)).length,row++PB rev pay (os.drop i.toNat) (c.1.2.1.drop i.toNat) (c.2.1.drop i.toNat))
def aBW:(aos×Int×Int)->Prop:=λ(c,_,_)=>A6 c.1/\c.1.2.1.length=c.2.1.length/\c.1.2.1.length<=1000
def awu:(aos×Int×Int)->(List tW):=λ(c,rev,pay)=>Hg c rev pay
def qU:Ls aiZ bk Ko:=oa (λ(EU,EA,Gq,outL,t13,t14,t15,anE)=>⟨([bX,.d tu EU,.d tu EA,.dN atq Gq,bX,bX,bX,kZ 46 outL]++aW 5 ([.d (.slice eD) t13,.d ti t14,.d ti t15]++aW 33 [])),[],(bR 46 [di (.vec 199 GB anE),[],[]])⟩) (λx=>(.exit 0,⟨(aW 7 ([kZ 46 x.1]++aW 41 [])),[],(bR 46 [di (.vec 199 GB x.2),[],[]])⟩))
def atk:Fs Tryz.prog aBW bk awu:=dV 48 Tryz.f48 (λ(c,rev,pay)=>([.d atq c,.d tu rev,.d tu pay],[])) (λx=>⟨.d (.slice GB) x,[],[]⟩) [av atq,av tu,av tu] [UN] {loops:=mM [(3,{aX:=[1,2,3,7,13,14,15],sites:=[46],owns:=[⟨7,[],46,124⟩]})],outs:=mL [(3,{aX:=[7],sites:=[46]},{aX:=[6]})],fo:=oR [(3,qU.E)],res:=[av (.slice GB)]}
theorem ai0:qU.RS:=rL [.d tu,.d tu,.d atq,.n,.d (.slice eD),.d ti,.d ti,.d (.slice GB)] qU
theorem OC(EU EA Gq outL t13 t14 t15 anE)(kn:K2 R)(kx:K3 R):atk.R 0 qU (EU,EA,Gq,outL,t13,t14,t15,anE) kn kx=aG (fG t15 t14) (aG (dr t15 (t13.length:Int)) (aG (dr t15 (Gq.1.2.1.length:Int)) (aG (dr t15 (Gq.2.1.length:Int)) (aG (kK (nth abF Gq.2.1 (ab t15)).1 3) (aG (kK (nth abF Gq.2.1 (ab t15)).1 3) (kn (qU.st (EU,EA,Gq,outL,t13,t14,(bl .i64 t15 1),anE))) (aG (kK (nth abF Gq.2.1 (ab t15)).1 2) (aG (decide (outL<=(ae anE))) (aG (db (outL+1) 56) (kn (qU.st (EU,EA,Gq,(outL+1),t13,t14,(bl .i64 t15 1),((aT outL anE)++ [((nth eD t13 (ab t15)),((nth jE Gq.1.2.1 (ab t15)).1,(EA,())))])))) aF) aF) (aG (decide (outL<=(ae anE))) (aG (db (outL+1) 56) (kn (qU.st (EU,EA,Gq,(outL+1),t13,t14,(bl .i64 t15 1),((aT outL anE)++ [((nth eD t13 (ab t15)),((nth jE Gq.1.2.1 (ab t15)).1,(EU,())))])))) aF) aF))) (aG (kK (nth abF Gq.2.1 (ab t15)).1 4) (kn (qU.st (EU,EA,Gq,outL,t13,t14,(bl .i64 t15 1),anE))) (aG (kK (nth abF Gq.2.1 (ab t15)).1 2) (aG (decide (outL<=(ae anE))) (aG (db (outL+1) 56) (kn (qU.st (EU,EA,Gq,(outL+1),t13,t14,(bl .i64 t15 1),((aT outL anE)++ [((nth eD t13 (ab t15)),((nth jE Gq.1.2.1 (ab t15)).1,(EA,())))])))) aF) aF) (aG (decide (outL<=(ae anE))) (aG (db (outL+1) 56) (kn (qU.st (EU,EA,Gq,(outL+1),t13,t14,(bl .i64 t15 1),((aT outL anE)++ [((nth eD t13 (ab t15)),((nth jE Gq.1.2.1 (ab t15)).1,(EU,())))])))) aF) aF)))) aF) aF) aF) (qU.go kx (outL,anE)):=cq
theorem aFQ(c rev pay)(k:K1 R):atk.A (c,rev,pay) k=ak (zy.call c.1) λx1=>ak (qU.call (rev,pay,c,0,x1,(x1.length:Int),0,([]:List tW))) λx2=>aG (decide (0=0/\(0+x2.1)<=(ae x2.2))) (k (atk.out (cut x2.2 0 x2.1))) aF:=cq
theorem aqm:(atk.jx 0 qU):=by
 refine(atk.ky 0 qU) (λ(rev,pay,c,L,os,m,i,row)=>os.length - i.toNat) ?_
 rintro⟨rev,pay,c,L,os,m,i,row⟩ ⟨ho,hr,hl,rfl,rfl,k,hk,rfl,lb⟩;have hk:k<=os.length:=hk;have ho:os.length<=c.1.2.1.length:=ho;have hr:c.1.2.1.length=c.2.1.length:=hr;have hl:os.length<=1000:=hl;have lb:row.length<=k:=lb;by_cases h:k < os.length
 ·left;have n1:nth eD os k=os[k]:=cK (t:=eD) h;have n2:nth jE c.1.2.1 k=c.1.2.1[k]:=cK (t:=jE) ao;have n3:nth abF c.2.1 k=c.2.1[k]:=cK (t:=abF) ao;have hd:PB rev pay (os.drop k) (c.1.2.1.drop k) (c.2.1.drop k)=Ds rev pay os[k] c.1.2.1[k] c.2.1[k]++PB rev pay (os.drop (k+1)) (c.1.2.1.drop (k+1)) (c.2.1.drop (k+1)):=by rw[aD h,aD (show k < c.1.2.1.length by omega),aD (show k < c.2.1.length by omega),PB]
  have e1:∀x:tW,(row++ [x]).length=row.length+1:=λx=>by rw[aq];rfl
  have key:∀(t:List tW),t.length<=1->(row++t).length<=k+1:=λt ht=>by rw[aq];omega
  refine⟨(rev,pay,c,(row++Ds rev pay os[k] c.1.2.1[k] c.2.1[k]).length,os,(os.length:Int),((k+1:Nat):Int),row++Ds rev pay os[k] c.1.2.1[k] c.2.1[k]),⟨ho,hr,hl,rfl,rfl,k+1,ao,rfl,key _ (by unfold Ds;split <;> simp)⟩,by simp only[aa];omega,?_,λkn kx=> ?_⟩
  ·simp only[bk,Ko,aa,hd,bh]
  ·rw[OC,aZ ao,aV ao ao,aV ao ao,aV ao ao,aa,n1,n2,n3,N.qt ao,aJ (aC _),dR ao ao,bK];simp only[aj];unfold Ds;by_cases h3:c.2.1[k].1=3
   ·rw[dU h3,if_pos (.inl h3),bW];rfl
   ·rw[dF h3,al];by_cases h4:c.2.1[k].1=4
    ·rw[dU h4,if_pos (.inr h4),bW];rfl
    ·rw[dF h4,al,if_neg (by rintro(x | x);exact h3 x;exact h4 x),e1];by_cases h2:c.2.1[k].1=2
     ·rw[dU h2,if_pos h2];rfl
     ·rw[dF h2,if_neg h2];rfl
 ·right;obtain rfl:k=os.length:=ao;intro R kn kx;rw[OC,aQ ao,al];simp only[bk,Ko,aa,bj,PB,bW]
theorem aeR(t:gf):(eu t).length<=t.2.1.length:=by
 unfold eu qi;split
 ·rw[bC,List.length_range'];exact aC _
 ·exact aO _
theorem aFR:atk.Ok:=by
 rintro⟨c,rev,pay⟩ ⟨hv,hr,hl⟩;have hl:c.1.2.1.length<=1000:=hl;have hm:=aeR c.1;have e:zy.call c.1=av (eu c.1):=NS (d:=c.1) hv;rw[aFQ,e,ah];have ea:∀ {D Y:Type} (d:D) (y:Y),bk d y=y:=λ_ _=>rfl
 have eF:awu (c,rev,pay)=Hg c rev pay:=rfl;rw[ea,eF];unfold Hg;generalize eu c.1=os at hm;rw[ai0 (d:=(rev,pay,c,0,os,(os.length:Int),0,[])) ⟨hm,hr,by show os.length<=1000;omega,rfl,rfl,0,aO _,rfl,aC _⟩];simp only[ah,bk,Ko,bg,aL,aR,Nat.zero_add];rw[aJ ⟨trivial,aC _⟩,aj,fb rfl]
theorem aBX:atk.RS:=rE [.d atq,.d tu,.d tu] atk
def awv:=atk.dZ aFR 1 ⟨.fH aqm,trivial⟩
abbrev Sw:=Int×(List tW)×Int×Int
abbrev anp:=(List tW)×Int
def aak:Sw->Prop:=λ(n,l,m,i)=>(∀x∈l,0<=x.2.1/\x.2.1<=1125899906842624)/\l.length<=64/\m=l.length/\∃k:Nat,k<=l.length/\i=k/\ -100000000<=n/\n<=1125899906842624*k
def BS:Sw->Int:=λ(n,l,m,i)=>n+PM (l.drop i.toNat)
def aqj:anp->Prop:=λ(l,bo)=>QN l/\0<=bo/\bo<=1000
def anq:anp->Int:=λ(l,bo)=>iF l bo
def qT:Ls aak bk BS:=oa (λ(n,t14,t15,t16)=>⟨(aW 5 ([.d ti n]++aW 8 ([.d (.slice GB) t14,.d ti t15,.d ti t16]++aW 9 []))),[],(ai 26 [])⟩) (λx=>(.exit 0,⟨(aW 5 ([.d ti x]++aW 20 [])),[],(ai 26 [])⟩))
def AJ:Fs Tryz.prog aqj bk anq:=dV 47 Tryz.f47 (λ(l,bo)=>([.d (.slice GB) l,.d ti bo],[])) (λx=>⟨.d ti x,[],[]⟩) [av (.slice GB),av ti] [ai4] {loops:=mM [(3,{aX:=[5,14,15,16]})],outs:=mL [(3,{aX:=[5]},{aX:=[4]})],fo:=oR [(3,qT.E)]}
theorem aal:qT.RS:=rL [.d ti,.d (.slice GB),.d ti,.d ti] qT
theorem G7(n t14 t15 t16)(kn:K2 R)(kx:K3 R):AJ.R 0 qT (n,t14,t15,t16) kn kx=aG (fG t16 t15) (aG (dr t16 (t14.length:Int)) (kn (qT.st ((bl .i64 n (nth GB t14 (ab t16)).2.1),t14,t15,(bl .i64 t16 1)))) aF) (qT.go kx n):=cq
theorem awq(l bo)(k:K1 R):AJ.A (l,bo) k=ak (yY.call (l.length:Int)) λx1=>ak (qT.call ((ed .i64 (aFN .i64 bo) x1),l,(l.length:Int),0)) λx2=>k (AJ.out x2):=cq
theorem aef:(AJ.jx 0 qT):=by
 refine(AJ.ky 0 qT) (λ(n,l,m,i)=>l.length - i.toNat) ?_
 rintro⟨n,l,m,i⟩ ⟨ha,hl,rfl,k,hk,rfl,h0,h1⟩;have hk:k<=l.length:=hk;have hl:l.length<=64:=hl;have h0: -100000000<=n:=h0;have h1:n<=1125899906842624*k:=h1;by_cases h:k < l.length
 ·left;have n1:nth GB l k=l[k]:=cK (t:=GB) h;have hx:0<=l[k].2.1/\l[k].2.1<=1125899906842624:=ha _ (List.getElem_mem h);refine⟨(n+l[k].2.1,l,(l.length:Int),((k+1:Nat):Int)),⟨ha,hl,rfl,k+1,ao,rfl,ao,ao⟩,by simp only[aa];omega,?_,λkn kx=> ?_⟩
  ·simp only[bk,BS,aa];rw[aD h,PM,th]
  ·rw[G7,aZ ao,aV ao ao,aa,n1,N.qt ao,cQ ao ao];simp only[aj]
 ·right;obtain rfl:k=l.length:=ao;intro R kn kx;rw[G7,aQ ao,al];simp only[bk,BS,aa,bj,PM,lD]
theorem awr:AJ.Ok:=by
 rintro⟨l,bo⟩ ⟨hg,h0,h1⟩;have h0:(0:Int)<=bo:=h0;have h1:bo<=(1000:Int):=h1;have hl:l.length<=64:=hg.1;have hm:=KJ (r:=bo) (w:=18+18*(l.length:Int)) (a:=1000) (b:=1170) h0 h1 ao ao;have e0:aFN .i64 bo= -bo:=by unfold aFN;rw[nh ao ao];omega
 have e1: -bo*(18+18*(l.length:Int))= -(bo*(18+18*(l.length:Int))):=Int.neg_mul _ _;have e4: -100000000<= -bo*(18+18*(l.length:Int)):=by rw[e1];omega
 have e5: -bo*(18+18*(l.length:Int))<=1125899906842624*((0:Nat):Int):=by rw[e1];omega
 have e2:ed .i64 (-bo) (18+18*(l.length:Int))= -bo*(18+18*(l.length:Int)):=mi (by rw[e1];omega) (by rw[e1];omega);have e3:yY.call ((l.length:Nat):Int)=av (18+18*(l.length:Int)):=aeo (d:=((l.length:Nat):Int)) ⟨by show(0:Int)<=((l.length:Nat):Int);omega,by show((l.length:Nat):Int)<=1000;omega⟩;rw[awq,e3,ah,e0,e2];rw[aal (d:=(-bo*(18+18*(l.length:Int)),l,(l.length:Int),0)) ⟨λx hx=>(hg.2 x hx).U5,hl,rfl,0,aO _,rfl,e4,e5⟩];simp only[ah,bk,BS,bg,aL,bk,anq,iF]
theorem XQ:AJ.RS:=rE [.d (.slice GB),.d ti] AJ
def aeg:=AJ.dZ awr 1 ⟨.fH aef,trivial⟩
abbrev awy:=Int×Int×gf×Int
def awz:awy->Prop:=λ(_,k,t,_)=>A6 t/\eG k
def aFS:awy->(Bool×gf×Int):=λ(i,k,t,_)=>(kK (qm t i 0 [k] 0).2 0,qm t i 0 [k] 0)
def aem:Fs Tryz.prog awz bk aFS:=dV 89 Tryz.f89 (λ(i,kv,o0,o1)=>([.d ti i,.d tu kv,.ptr (.cl 0) 0 [] 0,.ptr (.cl 1) 0 [] 0],[.obj 0 bq (.d jC o0),.obj 0 bq (.d ti o1)])) (λx=>⟨.d .bool x.1,[.obj 0 bq (.d jC x.2.1),.obj 0 bq (.d ti x.2.2)],[]⟩) [av ti,av tu,aF,aF] [azN] {Vp:=[⟨2,[.arr],jC⟩]}
theorem aBY(i kv o0 o1)(k:K1 R):aem.A (i,kv,o0,o1) k=ak (vl.call (o0,i,0,[kv],0)) λx1=>k (aem.out ((kK x1.2 0),x1.1,x1.2)):=cq
theorem aBZ:aem.Ok:=by rintro⟨i,k,t,e⟩ ⟨hv,hk⟩;rw[aBY,as4 (d:=(t,i,0,[k],0)) ⟨hv,λx hx=>by rw[List.mem_singleton]at hx;subst hx;exact hk,bN rfl⟩];rfl
theorem awA:aem.RS:=rE [.d ti,.d tu,.d jC,.d ti] aem
def aB0:=aem.dZ aBZ
abbrev Im:=(List tW)×Lk×Int×(List tW)×Int×Int×(Int×Unit)×Nat×(Int×Unit)×(List kG)
abbrev Sx:=Nat×(List kG)
def wh:Im->Sx->(((List tW)×Lk×Int×(Int×Unit)×(Int×Unit))×(Nat×(List kG))):=λ(Qq,so,n,t22,t23,t24,n6,X8,n9,aF6) y=>((Qq,so,n,n6,n9),y)
abbrev xC:=(List tW)×Int×Int×(Int×Unit)×gf×Int
def nm:xC->AS:=λ(t43,t44,t45,uo,sm,VM)=>⟨(aW 6 ([fc 6,bX,bX,fc 9,bX,bX,fc 12,.fn 89 (.cons (fc 9) (.cons (fc 12) (.nil)))]++aW 29 ([.d (.slice GB) t43,.d ti t44,.d ti t45]++aW 14 []))),[],(bR 6 ([di (.pr (.cX) (.pr (.cX) (.d (.pair ti .unit) uo))),[],[],di (.d jC sm),[],[],di (.d ti VM)]++bR 47 []))⟩
abbrev OE:=Int×(Int×Unit)
def nU:OE->Exit×AS:=λx=>(.ret,⟨(aW 6 ([fc 6,.d ti x.1]++aW 52 [])),[],(bR 6 ([di (.pr (.cX) (.pr (.cX) (.d (.pair ti .unit) x.2)))]++bR 53 []))⟩)
abbrev OF:=((Int×Unit))×(gf)
def wj:OF->Exit×AS:=λx=>(.exit 2,⟨(aW 6 ([fc 6,bX,bX,fc 9]++aW 50 [])),[],(bR 6 ([di (.pr (.cX) (.pr (.cX) (.d (.pair ti .unit) x.1))),[],[],di (.d jC x.2)]++bR 50 []))⟩)
abbrev Ip:=(OE)⊕(OF)
abbrev Sz:=((Int×(Int×Unit)))⊕(gf)
def BV:Ip->Out (Exit×AS):=λx=> .br x.isLeft (.get x.getLeft? λa=> .ok (nU a)) (.get x.getRight? λb=> .ok (wj b))
def jW:xC->Sz->Ip:=λ(t43,t44,t45,uo,sm,VM) y=>match y with | .inl y=> .inl y | .inr z=> .inr ((uo,z))
abbrev ans:=(List tW)×Lk×Int
def Sj(x:tW):kG:=(x.1,(((0:Int),(([]:List Sg),((0:Int),()))),()))
def aao:Im->Prop:=λ(l,to,n,ps,m,i,z,L,z2,row)=>(ps).length<=1000000/\∃k:Nat,k<=(ps).length/\i=k/\m=(ps).length/\L=(row).length/\(row).length<=1000000+k
def BU:Im->Sx:=λ(l,to,n,ps,m,i,z,L,z2,row)=>(L+(eI (ab i) ps).length,row++(eI (ab i) ps).map Sj)
def aEG:gf:=(([]:List kG),(([]:List jI),((0:Int),())))
def UY(l:List tW)(to:Lk)(n:Int):gf:=(l.map Sj,([(n,(to,()))],((0:Int),())))
def rI(t:gf):Nat->List tW->gf⊕Int
 |_,[]=> .inl t
 |i,x::l=>if(qm t i 0 [x.2.2.1] 0).2=0 then rI (qm t i 0 [x.2.2.1] 0).1 (i+1) l else .inr (qm t i 0 [x.2.2.1] 0).2
def kF(l:List tW)(to:Lk)(bo:Int):gf×Int:=
 if iF l bo < 1 then(aEG,8) else match rI (UY l to (iF l bo)) 0 l with | .inl t=>(t,0) | .inr e=>(aEG,e)
def wi:xC->Prop:=λ(l,m,i,z,t,e)=>A6 t/\(∀x∈l,eG x.2.2.1)/\l.length<=64/\m=l.length/\∃k:Nat,k<=l.length/\i=k
def nk:xC->Sz:=λ(l,m,i,z,t,e)=>match rI t i.toNat (l.drop i.toNat) with | .inl t=> .inr t | .inr e=> .inl (e,(0,()))
def aqn:ans->Prop:=λ(l,to,bo)=>QN l/\Ba to/\0<=bo/\bo<=1000
def aan:ans->(gf×Int):=λ(l,to,bo)=>kF l to bo
def qV:Ls aao wh BU:=oa (λ(Qq,so,n,t22,t23,t24,n6,X8,n9,aF6)=>⟨([.d (.slice GB) Qq,bX,bX,bX,.dN yC so,bX,fc 6,bX,.d ti n,fc 9]++aW 12 ([.d (.slice GB) t22,.d ti t23,.d ti t24]++aW 35 [])),[],(bR 6 ([di (.pr (.cX) (.pr (.cX) (.d (.pair ti .unit) n6))),[],[],di (.pr (kZ 34 X8) (.pr (.cX) (.d (.pair ti .unit) n9)))]++bR 24 ([di (.vec 139 iB aF6)]++bR 25 [])))⟩) (λx=>(.exit 0,⟨([.d (.slice GB) x.1.1,bX,bX,bX,.dN yC x.1.2.1,bX,fc 6,bX,.d ti x.1.2.2.1,fc 9]++aW 50 []),[],(bR 6 ([di (.pr (.cX) (.pr (.cX) (.d (.pair ti .unit) x.1.2.2.2.1))),[],[],di (.pr (kZ 34 x.2.1) (.pr (.cX) (.d (.pair ti .unit) x.1.2.2.2.2)))]++bR 24 ([di (.vec 139 iB x.2.2)]++bR 25 [])))⟩))
def Sy:=eb.fH nm wi jW nk BV
def G9:xC->Option Ip:=kD Sy nm
def sx:Fs Tryz.prog aqn bk aan:=dV 39 Tryz.f39 (λ(l,to,bo)=>([.d (.slice GB) l,.d yC to,.d ti bo],[])) (λx=>⟨.cons (.d jC x.1) (.cons (.d ti x.2) (.nil)),[],[]⟩) [av (.slice GB),av yC,av ti] [aeg,aB0] {loops:=mM [(6,{aX:=[0,4,6,8,9,22,23,24],sites:=[6,9,34],owns:=[⟨9,[.fst],34,63⟩]}),(14,{aX:=[6,9,12,13,43,44,45],sites:=[6,9,12],Vp:=[⟨9,[.arr],jC⟩]})],outs:=mL [(6,{aX:=[0,4,6,8,9],sites:=[6,9,34]},{aX:=[6,7]}),(14,{aX:=[6,9],sites:=[6,9]},{aX:=[6,7],sites:=[6]})],fo:=oR [(6,qV.E),(14,Sy)],res:=[av jC,aF]}
def Io:= @gk Tryz.prog (oP sx.G) sx.an 0 Tryz.f39 1 _ nm
abbrev OD:=qq Tryz.prog (oP sx.G) sx.an 0 Tryz.f39 1 nm wi jW nk BV
theorem aap:qV.RS:=rL [.d (.slice GB),.d yC,.d ti,.d (.slice GB),.d ti,.d ti,.d (.pair ti .unit),.n,.d (.pair ti .unit),.d (.slice iB)] qV
theorem G8(Qq so n t22 t23 t24 n6 X8 n9 aF6)(kn:K2 R)(kx:K3 R):sx.R 0 qV (Qq,so,n,t22,t23,t24,n6,X8,n9,aF6) kn kx=aG (fG t24 t23) (aG (dr t24 (t22.length:Int)) (aG (decide (X8<=(ae aF6))) (aG (db (X8+1) 80) (kn (qV.st (Qq,so,n,t22,t23,(bl .i64 t24 1),n6,(X8+1),n9,((aT X8 aF6)++ [((nth GB t22 (ab t24)).1,((0,(([]:List Sg),(0,()))),()))])))) aF) aF) aF) (qV.go kx ((Qq,so,n,n6,n9),(X8,aF6))):=cq
theorem aaq:mR G9 wi jW nk:=sV (sJ [.d (.slice GB),.d ti,.d ti,.d (.pair ti .unit),.d jC,.d ti] λ_=>cq)
theorem Kq:uR @Io nm wi jW nk BV OD:=vA
theorem Ha(t43 t44 t45 uo sm VM)(kn:K2 R)(kx:K3 R):Io (t43,t44,t45,uo,sm,VM) kn kx=aG (fG t45 t44) (aG (dr t45 (((ae t43):Nat):Int)) (ak (aem.call (t45,(nth GB t43 (ab t45)).2.2.1,sm,VM)) λx1=>aG (!x1.1) (kx (nU (x1.2.2,((0:Int),()))).1 (nU (x1.2.2,((0:Int),()))).2) (kn (nm (t43,t44,(bl .i64 t45 (1:Int)),uo,x1.2.1,x1.2.2)))) aF) (kx (wj (uo,sm)).1 (wj (uo,sm)).2):=cq
theorem aww(l to bo)(k:K1 R):sx.A (l,to,bo) k=ak (AJ.call (l,bo)) λx1=>aG (fG x1 1) (k (sx.out ((([]:List kG),(([]:List jI),(0,()))),8))) (ak (qV.call (l,to,x1,l,(l.length:Int),0,(0,()),0,(0,()),([]:List kG))) λx2=>aG (decide (0=0/\(0+x2.2.1)<=(ae x2.2.2))) (ak (G9 (x2.1.1,(x2.1.1.length:Int),0,x2.1.2.2.2.1,((cut x2.2.2 0 x2.2.1),([(x2.1.2.2.1,(x2.1.2.1,()))],x2.1.2.2.2.2)),0)) λx4=>aG x4.isLeft (ak x4.getLeft? λa5=>k (sx.out ((([]:List kG),(([]:List jI),a5.2)),a5.1))) (ak x4.getRight? λb6=>k (sx.out (b6.2,0)))) aF):=cq
theorem aej:(sx.jx 0 qV):=by
 refine(sx.ky 0 qV) (λ(l,to,n,ps,m,i,z,L,z2,row)=>(ps).length - ab i) ?_
 rintro⟨l,to,n,ps,m,i,z,L,z2,row⟩ ⟨hlen,k,hk,rfl,rfl,rfl,lb⟩;have hlen:(ps).length<=1000000:=hlen;have hk:k<=(ps).length:=hk;have lb:(row).length<=1000000+k:=lb;by_cases h:k < (ps).length
 ·left;have n1:nth GB ps k=ps[k]:=cK (t:=GB) h;have hd:eI k ps=ps[k]::eI (k+1) ps:=aD h;refine⟨(l,to,n,ps,((ps).length:Int),((k+1:Nat):Int),z,(row).length+1,z2,row++ [Sj ps[k]]),⟨hlen,k+1,ao,rfl,rfl,by rw[aq];rfl,by rw[aq];show(row).length+1<=_;omega⟩,by simp only[aa];omega,?_,λkn kx=> ?_⟩
  ·simp only[wh,BU,aa,hd,bE,aI,bh,dp];rw[show ∀a c:Nat,a+1+c=a+(c+1) from λa c=>ao]
  ·rw[G8,aZ ao,aV (show(0:Int)<=(k:Int) by omega) ao,aa,n1];simp only[aj];rw[aJ (aC _),dR ao ao,N.qt ao,bK];rfl
 ·right;obtain rfl:k=(ps).length:=ao;intro R kn kx;rw[G8,aQ ao,al];simp only[wh,BU,aa,bj,fv,bW,aU,cz]
theorem an2{t:gf}{i br sc:Int}{ks:List Int}(hv:A6 t)(hs:eG sc)(h:(qm t i br ks sc).2=0):A6 (qm t i br ks sc).1/\yf t i br ks=aS:=by
 rw[LH]at h ⊢;by_cases e:yf t i br ks=aS
 ·rw[if_pos e];exact⟨(Uf hv e hs).2.1,e⟩
 ·rw[if_neg e]at h;exact absurd h fg
theorem aek:OD:=by
 refine Kq (λ(l,m,i,z,t,e)=>l.length - i.toNat) ?_
 rintro⟨l,m,i,z,t,e⟩ ⟨hv,hu,hl,rfl,k,hk,rfl⟩;have hk:k<=l.length:=hk;have hl:l.length<=64:=hl;by_cases h:k < l.length
 ·have n1:nth GB l k=l[k]:=cK (t:=GB) h;have hx:eG l[k].2.2.1:=hu _ (List.getElem_mem h);have hd:rI t k (l.drop k)=if(qm t k 0 [l[k].2.2.1] 0).2=0 then rI (qm t k 0 [l[k].2.2.1] 0).1 (k+1) (l.drop (k+1)) else .inr (qm t k 0 [l[k].2.2.1] 0).2:=by rw[aD h,rI]
  have c1:aem.call ((k:Int),l[k].2.2.1,t,e)=av (kK (qm t k 0 [l[k].2.2.1] 0).2 0,qm t k 0 [l[k].2.2.1] 0):=awA (d:=((k:Int),l[k].2.2.1,t,e)) ⟨hv,hx⟩;have PW:(qm t k 0 [l[k].2.2.1] 0).2=0->A6 (qm t k 0 [l[k].2.2.1] 0).1:=λhz=>(an2 hv CL hz).1
  generalize qm t k 0 [l[k].2.2.1] 0=r at hd c1 PW;have step:∀ {R:Type} (kn:AS->Option R) (kx:Exit->AS->Option R),Io (l,(l.length:Int),(k:Int),z,t,e) kn kx=aG (!kK r.2 0) (kx (nU (r.2,((0:Int),()))).1 (nU (r.2,((0:Int),()))).2) (kn (nm (l,(l.length:Int),((k+1:Nat):Int),z,r.1,r.2))):=by intro R kn kx;rw[Ha,aZ ao,aj,aV ao ao,aj,aa,n1,c1,ah,N.qt ao]
  by_cases hz:r.2=0
  ·left;refine⟨(l,(l.length:Int),((k+1:Nat):Int),z,r.1,r.2),⟨PW hz,hu,hl,rfl,k+1,ao,rfl⟩,by simp only[aa];omega,?_,λkn kx=> ?_⟩
   ·simp only[jW,nk,aa,hd,if_pos hz]
   ·rw[step,dU hz,bm,al]
  ·right;refine⟨nU (r.2,((0:Int),())),?_,λkn kx=> ?_⟩
   ·simp only[jW,nk,aa,hd,if_neg hz];rfl
   ·rw[step,dF hz,dy,aj]
 ·right;obtain rfl:k=l.length:=ao;refine⟨wj (z,t),?_,λkn kx=> ?_⟩
  ·simp only[jW,nk,aa,bj,rI];rfl
  ·rw[Ha,aQ ao,al]
theorem al2{l:List tW}{to:Lk}{n:Int}(hg:QN l)(yE:Ba to):A6 (UY l to n):=by
 refine⟨⟨λo ho=> ?_,by show(l.map Sj).length<=_;rw[bC];have:=hg.1;omega,by show 1<=_;decide⟩,λx hx=> ?_,by show(0:Int)<=_;decide⟩
 ·have ho:o∈ [(n,(to,()))]:=ho;rw[List.mem_singleton]at ho;subst ho;exact yE
 ·obtain⟨y,hy,rfl⟩:=cT.1 (show x∈l.map Sj from hx);exact⟨(hg.2 y hy).id,⟨λs hs=>(by cases hs),CL⟩,aO _⟩
theorem awx:sx.Ok:=by
 rintro⟨l,to,bo⟩ ⟨hg,yE,h0,h1⟩;have hl:l.length<=64:=hg.1;have e0:AJ.call (l,bo)=av (iF l bo):=XQ (d:=(l,bo)) ⟨hg,h0,h1⟩;have hv:=al2 (n:=iF l bo) hg yE;have ea:∀ {D Y:Type} (d:D) (y:Y),bk d y=y:=λ_ _=>rfl
 have eF:aan (l,to,bo)=kF l to bo:=rfl;rw[aww,e0,ah,ea,eF];unfold kF;generalize iF l bo=n at hv;by_cases hn:n < 1
 ·rw[aZ hn,aj,if_pos hn];rfl
 rw[aQ hn,al,if_neg hn,aap (d:=(l,to,n,l,(l.length:Int),0,(0,()),0,(0,()),[])) ⟨by show l.length<=1000000;omega,0,aO _,rfl,rfl,rfl,aO _⟩];simp only[ah,wh,BU,bg,aL,aR,Nat.zero_add];rw[aJ ⟨trivial,by rw[bC];exact aC _⟩,aj,fb (bC ..)];have e1:=aaq (d:=(l,(l.length:Int),0,(0,()),UY l to n,0)) ⟨hv,λx hx=>(hg.2 x hx).key,hl,rfl,0,aO _,rfl⟩;unfold UY at e1 ⊢;rw[e1];simp only[ah,jW,nk,bg,aL];generalize rI _ 0 l=r;cases r with
 |inl t=>rfl
 |inr e=>rfl
theorem aqo:sx.RS:=rE [.d (.slice GB),.d yC,.d ti] sx
def ael:=sx.dZ awx 2 ⟨.fH aej,⟨.fH aek,trivial⟩⟩
end
end
section
noncomputable section
theorem Tj:∀(s:Int) (l:List jI),re s l=aS->∀o∈l,0<=o.1/\o.1<=1125899906842624
 |_,[],_,o,h=>by cases h
 |s,x::l,h,o,ho=>by
  rw[re,au,au]at h;rcases bI.1 ho with rfl | ho
  ·have:=h.1.1;unfold As zH at this;simp only[au,aP]at this;exact this.2.1
  ·exact Tj _ l h.2 o ho
theorem YP{t:gf}(h:gA t=aS):t.2.1.length<=64/\∀o∈t.2.1,0<=o.1/\o.1<=1125899906842624:=by unfold gA I6 at h;simp only[au,aP]at h;exact⟨h.1.2.2.1,Tj _ _ h.2.2⟩
theorem F3{id:List Int}{k n:Nat}{o:fA}(h:o∈qi id k n):o.1=id:=by unfold qi at h;obtain⟨i,_,rfl⟩:=cT.1 h;rfl
theorem ae9{c:aos}{rev pay:Int}(h1:eG rev)(h2:eG pay):QN (Hg c rev pay):=by
 unfold Hg;by_cases gK:gA c.1=aS
 ·obtain⟨hl,ha⟩:=YP gK;refine⟨qz (aoe ..) (qz (aeR _) hl),λy hy=> ?_⟩;obtain⟨o,ho,x,hx,r,hr,_,rfl⟩:=QI _ _ _ _ _ _ hy;refine⟨?_,ha x hx,?_⟩
  ·unfold eu at ho;rw[if_pos gK]at ho;show Sm o.1;rw[F3 ho];exact UX
  ·show eG (if r.1=2 then pay else rev);split
   ·exact h2
   ·exact h1
 ·have e:eu c.1=[]:=by unfold eu;rw[if_neg gK]
  rw[e];exact⟨aO _,λy hy=>by simp[PB]at hy⟩
theorem Gg{l:List oT}{x:oT}:x∈jD l↔x∈l:=(lZ l).mem_iff
theorem aCP{ch:fu}{s:fZ}{own per:Int}(dx:l9 ch)(hu:A5 s)(ho:own=0\/own=1)(hp:eG per):∀m∈pb ch s own per,Ba m.1.2.1:=by
 have hp':1 - own=0\/1 - own=1:=ao;have b0:=dx.ba ho;have b1:=dx.ba hp';intro m hm;unfold pb at hm;simp only[bt]at hm;rcases hm with hm | hm | hm | hm
 ·split at hm
  ·rw[List.mem_singleton]at hm;subst hm;exact aeK (va _) (va _)
  ·cases hm
 ·split at hm
  ·rw[List.mem_singleton]at hm;subst hm;exact Qr b1.2.1.1
  ·cases hm
 ·rcases bI.1 hm with rfl | hm
  ·exact BX b0.1.1
  ·rw[List.mem_singleton]at hm;subst hm;exact BX b1.1.1
 ·obtain⟨c,hc,rfl⟩:=cT.1 hm;have hq:=hu.1 c (fp.1 hc).1;unfold oC;split
  ·exact aEf (va _) (va _) (va _) hq
  ·exact aEg (va _) (va _) (va _) hq
theorem afM{ch:fu}{s:fZ}{own per:Int}(hl:s.2.2.1.length<=16):(pb ch s own per).length<=20:=by
 unfold pb;have h3:(eN s.2.2.1).length<=16:=qz (jy _ _) hl;simp only[aq,bC];have h1:(if abp (fX ch s own)=aS then [aca (fX ch s own) (OI (Eu (nH ch own).2.2.1 per) (Cl (nH ch (1 - own)).2.2.2.2.1 per) (HE ch (1 - own))) ((1:Int),(aAi,()))] else []).length<=1:=by split <;> simp
 have h2:(if abp (fX ch s (1 - own))=aS then [aca (fX ch s (1 - own)) (Dv [(nH ch (1 - own)).2.1]) ((2:Int),(aAi,()))] else []).length<=1:=by split <;> simp
 simp only[aI,aU];omega
theorem l9.aA4{ch:fu}(h:l9 ch):ch.1=(ai 32 0,(0,())):=by obtain⟨a,b0,b1,o,rfl,_⟩:=h;rfl
theorem aNx:Sm (ai 32 0):=⟨cv,λx hx=>by rw[(pG.1 hx).2];exact⟨fg,fg⟩⟩
theorem wT{ch:fu}{s:fZ}{own per:Int}(dx:l9 ch)(hu:A5 s)(hs:Gk ch s)(ho:own=0\/own=1)(hp:eG per):A6 (bO ch s own per).1/\(bO ch s own per).1.2.1.length=(bO ch s own per).2.1.length/\(bO ch s own per).1.2.1.length<=20:=by
 have hl:=afM (ch:=ch) (own:=own) (per:=per) hs.len;have hk:=aCP dx hu ho hp;have aAa:=hs.no;have hle:=(lZ (pb ch s own per)).length_eq;unfold bO ofRow;refine⟨⟨⟨λo hm=> ?_,by show 1<=_;decide,by show(List.map _ _).length<=_;rw[bC];omega⟩,λx hx=> ?_,by show 2*s.1+own<=_;omega⟩,by show(List.map _ _).length=(List.map _ _).length;rw[bC,bC],by show(List.map _ _).length<=_;rw[bC];omega⟩
 ·obtain⟨m,hm',rfl⟩:=cT.1 hm;exact hk m (Gg.1 hm')
 ·have hx:x∈ [(ch.1,(((0:Int),(([]:List Sg),((0:Int),()))),()))]:=hx;rw[List.mem_singleton]at hx;subst hx;refine⟨?_,⟨λs hs=>(by cases hs),CL⟩,aO _⟩;show Sm ch.1.1;rw[dx.aA4];exact aNx
theorem aeS{ch:fu}{s:fZ}{own per:Int}(h:(nr ch s own per).2=0):(own=0\/own=1)/\oQ per=aS/\Gk ch s/\nr ch s own per=(bO ch s own per,0):=by
 unfold nr at h ⊢;split at h
 ·next e=>
  rw[au,aP]at e;split at h
  ·next e2=>exact⟨e.1,e.2,yh.1 e2,by rw[if_pos (by rw[au,aP];exact e),if_pos e2]⟩
  ·exact absurd h fg
 ·exact absurd h fg
theorem Qb{ch:fu}{s:fZ}{own per:Int}(dx:l9 ch)(hu:A5 s)(hp:eG per):ma.call (ch,s,own,per)=av (nr ch s own per):=by
 have ea:∀ {D Y:Type} (d:D) (y:Y),bk d y=y:=λ_ _=>rfl
 have eF:Zf (ch,s,own,per)=nr ch s own per:=rfl;rw[ao8 (d:=(ch,s,own,per)) ⟨dx,hu,hp⟩,ea,eF]
theorem aEd{c:aos}{rev pay:Int}(h:A6 c.1)(h2:c.1.2.1.length=c.2.1.length)(h3:c.1.2.1.length<=1000):atk.call (c,rev,pay)=av (Hg c rev pay):=by
 have ea:∀ {D Y:Type} (d:D) (y:Y),bk d y=y:=λ_ _=>rfl
 have eF:awu (c,rev,pay)=Hg c rev pay:=rfl;rw[aBX (d:=(c,rev,pay)) ⟨h,h2,h3⟩,ea,eF]
theorem aBV{l:List tW}{bo:Int}(h:QN l)(h0:0<=bo/\bo<=1000):AJ.call (l,bo)=av (iF l bo):=XQ (d:=(l,bo)) ⟨h,h0.1,h0.2⟩
theorem ant{l:List tW}{to:Lk}{bo:Int}(h:QN l)(ht:Ba to)(h0:0<=bo/\bo<=1000):sx.call (l,to,bo)=av (kF l to bo):=by
 have ea:∀ {D Y:Type} (d:D) (y:Y),bk d y=y:=λ_ _=>rfl
 have eF:aan (l,to,bo)=kF l to bo:=rfl;rw[aqo (d:=(l,to,bo)) ⟨h,ht,h0.1,h0.2⟩,ea,eF]
def SY(ch:fu)(kit:sj)(me:Int)(to:Lk)(bo:Int):Bool:=sr me 0 1 && (sr bo 0 1000 && (iP to && Ty.beq rQ (Bi kit) (nH ch me)))
def ix(ch:fu)(kit:sj)(me:Int)(cl:fZ)(secret:List Int)(to:Lk)(bo:Int):List tW×Int:=if SY ch kit me to bo=aS then(if(nr ch cl (1 - me) (js secret)).2=0 then(Hg (nr ch cl (1 - me) (js secret)).1 (wB kit.2.2.2.2.1 secret) kit.2.1,0) else([],(nr ch cl (1 - me) (js secret)).2)) else([],1)
theorem ayj(b:Int)(s:List Int):eG (wB b s):=(Ji _ _).u
theorem adC{ch:fu}{kit:sj}{me:Int}{cl:fZ}{secret:List Int}{to:Lk}{bo:Int}(hk:YU kit):QN (ix ch kit me cl secret to bo).1:=by
 unfold ix;split
 ·split
  ·exact ae9 (ayj _ _) hk.2.1
  ·exact⟨aO _,λy hy=>(by cases hy)⟩
 ·exact⟨aO _,λy hy=>(by cases hy)⟩
theorem RX{ch:fu}{kit:sj}{me:Int}{cl:fZ}{secret:List Int}{to:Lk}{bo:Int}(h:(ix ch kit me cl secret to bo).2=0):SY ch kit me to bo=aS/\(nr ch cl (1 - me) (js secret)).2=0/\(ix ch kit me cl secret to bo).1=Hg (nr ch cl (1 - me) (js secret)).1 (wB kit.2.2.2.2.1 secret) kit.2.1:=by
 unfold ix at h ⊢;split at h
 ·next e=>
  split at h
  ·next e2=>exact⟨e,e2,by rw[if_pos e,if_pos e2]⟩
  ·next e2=>exact absurd h e2
 ·exact absurd h fg
abbrev aed:=fu×sj×Int×fZ×Bs×Lk×Int
def aiX:aed->Prop:=λ(ch,kit,me,cl,secret,to,bo)=>l9 ch/\YU kit/\A5 cl/\Sm secret/\Ba to
def Sv:aed->((List tW)×Int):=λ(ch,kit,me,cl,secret,to,bo)=>ix ch kit me cl secret to bo
def oH:Fs Tryz.prog aiX bk Sv:=dV 38 Tryz.f38 (λ(ch,kit,me,cl,secret,to,bo)=>([.d lg ch,.d oN kit,.d ti me,.d kE cl,.d tH secret,.d yC to,.d ti bo],[])) (λx=>⟨.cons (.d (.slice GB) x.1) (.cons (.d ti x.2) (.nil)),[],[]⟩) [av lg,av oN,av ti,av kE,av tH,av yC,av ti] [wV,ai7,AL,JC,ajn,awv] {res:=[av (.slice GB),aF]}
theorem aqf(ch kit me cl secret to bo)(k:K1 R):oH.A (ch,kit,me,cl,secret,to,bo) k=aG (fG me 0) (k (oH.out (([]:List tW),1))) (aG (vh me 1) (k (oH.out (([]:List tW),1))) (aG (fG bo 0) (k (oH.out (([]:List tW),1))) (aG (vh bo 1000) (k (oH.out (([]:List tW),1))) (ak (lT.call to) λx1=>aG (!x1) (k (oH.out (([]:List tW),1))) (ak (yZ.call kit) λx2=>aG (dr me 2) (aG (!(Ty.beq rQ x2 (nth rQ ch.2.2.1 (ab me)))) (k (oH.out (([]:List tW),1))) (ak (uW.call secret) λx3=>ak (ma.call (ch,cl,(bA .i64 1 me),x3)) λx4=>aG (yV x4.2 0) (k (oH.out (([]:List tW),x4.2))) (ak (y1.call (kit.2.2.2.2.1,secret)) λx5=>ak (atk.call (x4.1,x5,kit.2.1)) λx6=>k (oH.out (x6,0))))) aF))))):=cq
theorem aqg:oH.Ok:=by
 rintro⟨ch,kit,me,cl,secret,to,bo⟩ ⟨dx,hk,hu,hs,ht⟩;have dx:l9 ch:=dx;have hk:YU kit:=hk;have hu:A5 cl:=hu;have hs:Sm secret:=hs;have ht:Ba to:=ht;have ea:∀ {D Y:Type} (d:D) (y:Y),bk d y=y:=λ_ _=>rfl
 have eF:Sv (ch,kit,me,cl,secret,to,bo)=ix ch kit me cl secret to bo:=rfl;rw[aqf,ea,eF];unfold ix SY;by_cases h1:me < 0
 ·rw[aZ h1,aj,pn ao];rfl
 by_cases h2:me > 1
 ·rw[aQ h1,al,dw h2,aj,pn ao];rfl
 have atf:me=0\/me=1:=ao;rw[aQ h1,al,cJ h2,al,iE ao ao,bD];by_cases h3:bo < 0
 ·rw[aZ h3,aj,pn ao];rfl
 by_cases h4:bo > 1000
 ·rw[aQ h3,al,dw h4,aj,pn ao];rfl
 rw[aQ h3,al,cJ h4,al,iE ao ao,bD];have c1:lT.call to=av (iP to):=sN (d:=to) ⟨ht.1,ht.2⟩;have c2:yZ.call kit=av (Bi kit):=aeq (d:=kit) hk;rw[c1,ah];cases h5:iP to
 ·rfl
 rw[bm,al,bD,c2,ah,aV ao ao,aj];rw[show nth rQ ch.2.2.1 (ab me)=nH ch me from rfl];cases h6:Ty.beq rQ (Bi kit) (nH ch me)
 ·rfl
 rw[bm,al,if_pos rfl,Ef hs,ah,abC ao];have hp:eG (js secret):=Bj _;have c3:=Qb (own:=1 - me) dx hu hp;have atg:=aeS (ch:=ch) (s:=cl) (own:=1 - me) (per:=js secret);generalize js secret=per at c3 atg hp;rw[c3,ah];by_cases h7:(nr ch cl (1 - me) per).2=0
 ·obtain⟨q1,q2,q3,q4⟩:=atg h7;have hv:=wT dx hu q3 q1 hp;rw[q4];rw[ez rfl,al,aqz hk.2.2.2.2 hs,ah,aEd hv.1 hv.2.1 (by have:=hv.2.2;omega),ah,if_pos rfl]
 ·rw[gH h7,aj,if_neg h7]
theorem aiY:oH.RS:=rE [.d lg,.d oN,.d ti,.d kE,.d tB,.d yC,.d ti] oH
def XP:=oH.dZ aqg
theorem aee{ch:fu}{kit:sj}{me:Int}{cl:fZ}{secret:List Int}{to:Lk}{bo:Int}(dx:l9 ch)(hk:YU kit)(hu:A5 cl)(hs:Sm secret)(ht:Ba to):oH.call (ch,kit,me,cl,secret,to,bo)=av (ix ch kit me cl secret to bo):=by
 have ea:∀ {D Y:Type} (d:D) (y:Y),bk d y=y:=λ_ _=>rfl
 have eF:Sv (ch,kit,me,cl,secret,to,bo)=ix ch kit me cl secret to bo:=rfl;rw[aiY (d:=(ch,kit,me,cl,secret,to,bo)) ⟨dx,hk,hu,hs,ht⟩,ea,eF]
def C2(ch:fu)(kit:sj)(me:Int)(cl:fZ)(secret:List Int)(to:Lk)(bo:Int):gf×Int:=if(ix ch kit me cl secret to bo).2=0 then kF (ix ch kit me cl secret to bo).1 to bo else(aEG,(ix ch kit me cl secret to bo).2)
def xq(to:Lk)(bo:Int):List tW->List gf
 |[]=> []
 |x::l=>(if(kF [x] to bo).2=0 then [(kF [x] to bo).1] else [])++xq to bo l
def Xq(ch:fu)(kit:sj)(me:Int)(cl:fZ)(secret:List Int)(to:Lk)(bo:Int):List gf×Int:=if(ix ch kit me cl secret to bo).2=0 then(xq to bo (ix ch kit me cl secret to bo).1,0) else([],(ix ch kit me cl secret to bo).2)
def R2(ch:fu)(me:Int)(cl:fZ)(bo:Int):Int:=if(sr me 0 1 && sr bo 0 1000)=aS then(if(nr ch cl (1 - me) 4).2=0 then imax 0 (iF (Hg (nr ch cl (1 - me) 4).1 0 0) bo) else 0) else 0
theorem X2{ch:fu}{kit:sj}{me:Int}{to:Lk}{bo:Int}(h:SY ch kit me to bo=aS):(0<=me/\me<=1)/\(0<=bo/\bo<=1000)/\iP to=aS/\Ty.beq rQ (Bi kit) (nH ch me)=aS:=by unfold SY at h;simp only[au,wb]at h;exact h
abbrev anr:=fu×sj×Int×fZ×Bs×Lk×Int
def aqk:anr->Prop:=λ(ch,kit,me,cl,secret,to,bo)=>l9 ch/\YU kit/\A5 cl/\Sm secret/\Ba to
def aam:anr->(gf×Int):=λ(ch,kit,me,cl,secret,to,bo)=>C2 ch kit me cl secret to bo
def o3:Fs Tryz.prog aqk bk aam:=dV 13 Tryz.f13 (λ(ch,kit,me,cl,secret,to,bo)=>([.d lg ch,.d oN kit,.d ti me,.d kE cl,.d tH secret,.d yC to,.d ti bo],[])) (λx=>⟨.cons (.d jC x.1) (.cons (.d ti x.2) (.nil)),[],[]⟩) [av lg,av oN,av ti,av kE,av tH,av yC,av ti] [XP,ael] {res:=[av jC,aF]}
theorem aws(ch kit me cl secret to bo)(k:K1 R):o3.A (ch,kit,me,cl,secret,to,bo) k=ak (oH.call (ch,kit,me,cl,secret,to,bo)) λx1=>aG (yV x1.2 0) (k (o3.out ((([]:List kG),(([]:List jI),(0,()))),x1.2))) (ak (sx.call (x1.1,to,bo)) λx2=>k (o3.out (x2.1,x2.2))):=cq
theorem awt:o3.Ok:=by
 rintro⟨ch,kit,me,cl,secret,to,bo⟩ ⟨dx,hk,hu,hs,ht⟩;have hk:YU kit:=hk;have ht:Ba to:=ht;have ea:∀ {D Y:Type} (d:D) (y:Y),bk d y=y:=λ_ _=>rfl
 have eF:aam (ch,kit,me,cl,secret,to,bo)=C2 ch kit me cl secret to bo:=rfl;rw[aws,ea,eF,aee dx hk hu hs ht,ah];unfold C2;have hg:=adC (ch:=ch) (me:=me) (cl:=cl) (secret:=secret) (to:=to) (bo:=bo) hk;have hm:=RX (ch:=ch) (kit:=kit) (me:=me) (cl:=cl) (secret:=secret) (to:=to) (bo:=bo);generalize ix ch kit me cl secret to bo=r at hg hm;by_cases h:r.2=0
 ·rw[ez h,al,if_pos h,ant hg ht (X2 (hm h).1).2.1,ah]
 ·rw[gH h,aj,if_neg h];rfl
theorem aql:o3.RS:=rE [.d lg,.d oN,.d ti,.d kE,.d tB,.d yC,.d ti] o3
def aeh:=o3.dZ awt
abbrev Su:=Int×Lk×(List tW)×Nat×Int×Int×(List gf)
abbrev ann:=fu×sj×Int×fZ×Bs×Lk×Int
def aqd:ann->Prop:=λ(ch,kit,me,cl,secret,to,bo)=>l9 ch/\YU kit/\A5 cl/\Sm secret/\Ba to
def aaf:ann->((List gf)×Int):=λ(ch,kit,me,cl,secret,to,bo)=>Xq ch kit me cl secret to bo
def aag:Su->Prop:=λ(bo,to,l,L,m,i,row)=>QN l/\Ba to/\(0<=bo/\bo<=1000)/\m=l.length/\L=row.length/\∃k:Nat,k<=l.length/\i=k/\row.length<=k
def xB:Su->(Nat×(List gf)):=λ(bo,to,l,L,m,i,row)=>((row++xq to bo (l.drop i.toNat)).length,row++xq to bo (l.drop i.toNat))
def oZ:Ls aag bk xB:=oa (λ(No,so,l,outL,t37,t38,ajN)=>⟨(aW 6 ([.d ti No]++aW 5 ([.dN yC so,bX,bX,bX,.d (.slice GB) l,bX,kZ 57 outL]++aW 18 ([.d ti t37,.d ti t38]++aW 21 [])))),[],(bR 57 [di (.vec 66 jC ajN),[],[]])⟩) (λx=>(.exit 0,⟨(aW 18 ([kZ 57 x.1]++aW 41 [])),[],(bR 57 [di (.vec 66 jC x.2),[],[]])⟩))
def AI:Fs Tryz.prog aqd bk aaf:=dV 20 Tryz.f20 (λ(ch,kit,me,cl,secret,to,bo)=>([.d lg ch,.d oN kit,.d ti me,.d kE cl,.d tH secret,.d yC to,.d ti bo],[])) (λx=>⟨.cons (.d (.slice jC) x.1) (.cons (.d ti x.2) (.nil)),[],[]⟩) [av lg,av oN,av ti,av kE,av tH,av yC,av ti] [XP,ael] {loops:=mM [(6,{aX:=[6,12,16,18,37,38],sites:=[57],owns:=[⟨18,[],57,90⟩]})],outs:=mL [(6,{aX:=[18],sites:=[57]},{aX:=[14,15]})],fo:=oR [(6,oZ.E)],res:=[av (.slice jC),aF]}
theorem aah:oZ.RS:=rL [.d ti,.d yC,.d (.slice GB),.n,.d ti,.d ti,.d (.slice jC)] oZ
theorem zT(No so l outL t37 t38 ajN)(kn:K2 R)(kx:K3 R):AI.R 0 oZ (No,so,l,outL,t37,t38,ajN) kn kx=aG (fG t38 t37) (aG (inc (bl .i64 t38 1) (l.length:Int)) (aG (inc t38 (((ab (bl .i64 t38 1)):Nat):Int)) (ak (sx.call ((cut l (ab t38) ((ab (bl .i64 t38 1)) - (ab t38))),so,No)) λx1=>aG (kK x1.2 0) (aG (decide (outL<=(ae ajN))) (aG (db (outL+1) 56) (kn (oZ.st (No,so,l,(outL+1),t37,(bl .i64 t38 1),((aT outL ajN)++ [x1.1])))) aF) aF) (kn (oZ.st (No,so,l,outL,t37,(bl .i64 t38 1),ajN)))) aF) aF) (oZ.go kx (outL,ajN)):=cq
theorem awk(ch kit me cl secret to bo)(k:K1 R):AI.A (ch,kit,me,cl,secret,to,bo) k=ak (oH.call (ch,kit,me,cl,secret,to,bo)) λx1=>aG (yV x1.2 0) (k (AI.out (([]:List gf),x1.2))) (ak (oZ.call (bo,to,x1.1,0,(x1.1.length:Int),0,([]:List gf))) λx4=>aG (decide (0=0/\(0+x4.1)<=(ae x4.2))) (k (AI.out ((cut x4.2 0 x4.1),0))) aF):=cq
theorem aAR{α:Type}{l:List α}{k:Nat}(h:k < l.length):cut l k (k+1 - k)=[l[k]]:=by rw[kP];unfold cut;rw[aD h];rfl
theorem aec:(AI.jx 0 oZ):=by
 refine(AI.ky 0 oZ) (λ(bo,to,l,L,m,i,row)=>l.length - i.toNat) ?_
 rintro⟨bo,to,l,L,m,i,row⟩ ⟨hg,ht,hr,rfl,rfl,k,hk,rfl,lb⟩;have hk:k<=l.length:=hk;have hl:l.length<=64:=hg.1;have lb:row.length<=k:=lb;by_cases h:k < l.length
 ·left;have hd:xq to bo (l.drop k)=(if(kF [l[k]] to bo).2=0 then [(kF [l[k]] to bo).1] else [])++xq to bo (l.drop (k+1)):=by rw[aD h,xq]
  have g1:QN [l[k]]:=⟨by show 1<=64;decide,λx hx=>by rw[List.mem_singleton]at hx;subst hx;exact hg.2 _ (List.getElem_mem h)⟩;have c1:=ant (to:=to) (bo:=bo) g1 ht hr;have e1:∀x:gf,(row++ [x]).length=row.length+1:=λx=>by rw[aq];rfl
  have ec:=aAR h;generalize kF [l[k]] to bo=r at hd c1;by_cases hz:r.2=0
  ·refine⟨(bo,to,l,row.length+1,(l.length:Int),((k+1:Nat):Int),row++ [r.1]),⟨hg,ht,hr,rfl,(e1 _).symm,k+1,ao,rfl,by show(row++ [r.1]).length<=_;rw[e1];omega⟩,by simp only[aa];omega,?_,λkn kx=> ?_⟩
   ·rw[if_pos hz]at hd;simp only[bk,xB,aa,hd,bh]
   ·rw[zT,aZ ao,N.qt ao,aa,aa,ec,c1,nj ao ao,nj ao ao,ah,dU hz,aJ (aC _),dR ao ao,bK];rfl
  ·refine⟨(bo,to,l,row.length,(l.length:Int),((k+1:Nat):Int),row),⟨hg,ht,hr,rfl,rfl,k+1,ao,rfl,by show row.length<=_;omega⟩,by simp only[aa];omega,?_,λkn kx=> ?_⟩
   ·rw[if_neg hz,aR]at hd;simp only[bk,xB,aa,hd]
   ·rw[zT,aZ ao,N.qt ao,aa,aa,ec,c1,nj ao ao,nj ao ao,ah,dF hz];rfl
 ·right;obtain rfl:k=l.length:=ao;intro R kn kx;rw[zT,aQ ao,al];simp only[bk,xB,aa,bj,xq,bW]
theorem awl:AI.Ok:=by
 rintro⟨ch,kit,me,cl,secret,to,bo⟩ ⟨dx,hk,hu,hs,ht⟩;have hk:YU kit:=hk;have ht:Ba to:=ht;have ea:∀ {D Y:Type} (d:D) (y:Y),bk d y=y:=λ_ _=>rfl
 have eF:aaf (ch,kit,me,cl,secret,to,bo)=Xq ch kit me cl secret to bo:=rfl;rw[awk,ea,eF,aee dx hk hu hs ht,ah];unfold Xq;have hg:=adC (ch:=ch) (me:=me) (cl:=cl) (secret:=secret) (to:=to) (bo:=bo) hk;have hm:=RX (ch:=ch) (kit:=kit) (me:=me) (cl:=cl) (secret:=secret) (to:=to) (bo:=bo);generalize ix ch kit me cl secret to bo=r at hg hm;by_cases h:r.2=0
 ·rw[ez h,al,if_pos h,aah (d:=(bo,to,r.1,0,(r.1.length:Int),0,[])) ⟨hg,ht,(X2 (hm h).1).2.1,rfl,rfl,0,aO _,rfl,aC _⟩];simp only[ah,bk,xB,bg,aL,aR,Nat.zero_add];rw[aJ ⟨trivial,aC _⟩,aj,fb rfl]
 ·rw[gH h,aj,if_neg h]
theorem aqe:AI.RS:=rE [.d lg,.d oN,.d ti,.d kE,.d tB,.d yC,.d ti] AI
def awm:=AI.dZ awl 1 ⟨.fH aec,trivial⟩
abbrev ano:=fu×Int×fZ×Int
def aqh:ano->Prop:=λ(ch,me,cl,bo)=>l9 ch/\A5 cl
def aai:ano->Int:=λ(ch,me,cl,bo)=>R2 ch me cl bo
def sw:Fs Tryz.prog aqh bk aai:=dV 22 Tryz.f22 (λ(ch,me,cl,bo)=>([.d lg ch,.d ti me,.d kE cl,.d ti bo],[])) (λx=>⟨.d ti x,[],[]⟩) [av lg,av ti,av kE,av ti] [JC,awv,aeg]
theorem awn(ch me cl bo)(k:K1 R):sw.A (ch,me,cl,bo) k=aG (fG me 0) (k (sw.out 0)) (aG (vh me 1) (k (sw.out 0)) (aG (fG bo 0) (k (sw.out 0)) (aG (vh bo 1000) (k (sw.out 0)) (ak (ma.call (ch,cl,(bA .i64 1 me),4)) λx1=>aG (yV x1.2 0) (k (sw.out 0)) (ak (atk.call (x1.1,0,0)) λx2=>ak (AJ.call (x2,bo)) λx3=>k (sw.out (imax 0 x3))))))):=cq
theorem awo:sw.Ok:=by
 rintro⟨ch,me,cl,bo⟩ ⟨dx,hu⟩;have dx:l9 ch:=dx;have hu:A5 cl:=hu;have ea:∀ {D Y:Type} (d:D) (y:Y),bk d y=y:=λ_ _=>rfl
 have eF:aai (ch,me,cl,bo)=R2 ch me cl bo:=rfl;rw[awn,ea,eF];unfold R2;by_cases h1:me < 0
 ·rw[aZ h1,aj,pn ao];rfl
 by_cases h2:me > 1
 ·rw[aQ h1,al,dw h2,aj,pn ao];rfl
 have atf:me=0\/me=1:=ao;rw[aQ h1,al,cJ h2,al,iE ao ao,bD];by_cases h3:bo < 0
 ·rw[aZ h3,aj,pn ao];rfl
 by_cases h4:bo > 1000
 ·rw[aQ h3,al,dw h4,aj,pn ao];rfl
 have hp:eG 4:=⟨fg,fg⟩;rw[aQ h3,al,cJ h4,al,iE ao ao,if_pos rfl,abC ao,Qb (own:=1 - me) dx hu hp,ah];have atg:=aeS (ch:=ch) (s:=cl) (own:=1 - me) (per:=4);by_cases h7:(nr ch cl (1 - me) 4).2=0
 ·obtain⟨q1,q2,q3,q4⟩:=atg h7;have hv:=wT dx hu q3 q1 hp;have hg:=ae9 (c:=bO ch cl (1 - me) 4) CL CL;rw[q4,ez rfl,al,aEd hv.1 hv.2.1 (by have:=hv.2.2;omega),ah,aBV hg ⟨ao,ao⟩,ah,if_pos rfl]
 ·rw[gH h7,aj,if_neg h7]
theorem aqi:sw.RS:=rE [.d lg,.d ti,.d kE,.d ti] sw
def awp:=sw.dZ awo
theorem BT{ch:fu}{kit:sj}{me:Int}{cl:fZ}{secret:List Int}{to:Lk}{bo:Int}(dx:l9 ch)(hk:YU kit)(hu:A5 cl)(hs:Sm secret)(ht:Ba to):o3.call (ch,kit,me,cl,secret,to,bo)=av (C2 ch kit me cl secret to bo):=by
 have ea:∀ {D Y:Type} (d:D) (y:Y),bk d y=y:=λ_ _=>rfl
 have eF:aam (ch,kit,me,cl,secret,to,bo)=C2 ch kit me cl secret to bo:=rfl;rw[aql (d:=(ch,kit,me,cl,secret,to,bo)) ⟨dx,hk,hu,hs,ht⟩,ea,eF]
theorem aBU{ch:fu}{kit:sj}{me:Int}{cl:fZ}{secret:List Int}{to:Lk}{bo:Int}(dx:l9 ch)(hk:YU kit)(hu:A5 cl)(hs:Sm secret)(ht:Ba to):AI.call (ch,kit,me,cl,secret,to,bo)=av (Xq ch kit me cl secret to bo):=by
 have ea:∀ {D Y:Type} (d:D) (y:Y),bk d y=y:=λ_ _=>rfl
 have eF:aaf (ch,kit,me,cl,secret,to,bo)=Xq ch kit me cl secret to bo:=rfl;rw[aqe (d:=(ch,kit,me,cl,secret,to,bo)) ⟨dx,hk,hu,hs,ht⟩,ea,eF]
theorem aaj{ch:fu}{me:Int}{cl:fZ}{bo:Int}(dx:l9 ch)(hu:A5 cl):sw.call (ch,me,cl,bo)=av (R2 ch me cl bo):=by
 have ea:∀ {D Y:Type} (d:D) (y:Y),bk d y=y:=λ_ _=>rfl
 have eF:aai (ch,me,cl,bo)=R2 ch me cl bo:=rfl;rw[aqi (d:=(ch,me,cl,bo)) ⟨dx,hu⟩,ea,eF]
end
end
section
noncomputable section
theorem afr(m:Int)(q:Nat)(a b:Int)(h1:a^q%m=1%m)(h2:b^q%m=1%m):(a*b%m)^q%m=1%m:=by rw[EF,Int.mul_pow,eY,h1,h2,<-eY,Int.one_mul]
theorem aBT{a b:Int}(ha:oQ a=aS)(hb:oQ b=aS):oQ (ld a b)=aS:=by
 refine awg (q9 a b) ?_
 have h1:=(MR ha).1;have h2:=(MR hb).1;rw[Pa _ _ fg]at h1 h2 ⊢;exact afr 4611686018427377339 _ a b h1 h2
theorem aea:∀(l:List Int) (o:Int),oQ o=aS->oQ (l.foldl (λo p=>ld o (tk p)) o)=aS
 |[],_,h=>h
 |p::l,o,h=>aea l _ (aBT h (awh p))
theorem yX(l:List Int):oQ (CA l)=aS:=aea l 1 FZ
theorem Au{p a d s:Int}(hp:oQ p=aS)(ha:0<=a/\a<=1048576)(hd:0<=d/\d<=1048576)(hs:s=0\/oQ s=aS):uU ([p],(a,(d,(s,()))))=aS:=by unfold uU MF;simp only[gS,nM,hp,iS,au,aP,gB];exact⟨bN rfl,trivial,ha,hd,hs⟩
theorem aty.p{p:Int}(h:aty p):oQ p=aS:=by have:=h.2;unfold V3 at this;exact(mO.1 this).1
theorem l9.wait{ch:fu}(h:l9 ch){n:Int}(hn:n=0\/n=1):0<=HE ch n/\HE ch n<=1048576:=by obtain⟨d,hd,h2⟩:=h.t hn;unfold HE;rw[hd,aLq];omega
theorem SL{a b:wS}(ha:uU a=aS)(hb:uU b=aS):iP ([a,b],())=aS:=by unfold iP;simp only[gS,nM,ha,hb,kc,bD];rfl
theorem aeJ{a b c:wS}(ha:uU a=aS)(hb:uU b=aS)(hc:uU c=aS):iP ([a,b,c],())=aS:=by unfold iP;simp only[gS,nM,ha,hb,hc,kc,bD];rfl
theorem SK{a:wS}(ha:uU a=aS):iP ([a],())=aS:=by unfold iP;simp only[gS,nM,ha,kc,bD];rfl
theorem WQ:(0:Int)<=0/\(0:Int)<=1048576:=fg
theorem anU{ch:fu}{s:fZ}{own per:Int}(dx:l9 ch)(hs:Gk ch s)(ho:own=0\/own=1):∀m∈pb ch s own per,iP m.1.2.1=aS:=by
 have hp':1 - own=0\/1 - own=1:=ao;have b0:=dx.ba ho;have b1:=dx.ba hp';have w:=dx.wait hp';intro m hm;unfold pb at hm;simp only[bt]at hm;rcases hm with hm | hm | hm | hm
 ·split at hm
  ·rw[List.mem_singleton]at hm;subst hm;exact SL (Au (yX _) WQ WQ (.inl rfl)) (Au (yX _) WQ w (.inl rfl))
  ·cases hm
 ·split at hm
  ·rw[List.mem_singleton]at hm;subst hm;exact SK (Au b1.2.1.p WQ WQ (.inl rfl))
  ·cases hm
 ·have aFi:uU ([],((0:Int),((16:Int),((0:Int),()))))=aS:=fg;rcases bI.1 hm with rfl | hm
  ·exact SL (Au b0.1.p WQ WQ (.inl rfl)) aFi
  ·rw[List.mem_singleton]at hm;subst hm;exact SL (Au b1.1.p WQ WQ (.inl rfl)) aFi
 ·obtain⟨c,hc,rfl⟩:=cT.1 hm;have g:=Av _ _ hs.pZ c (fp.1 hc).1;have aBq:oQ c.2.2.2.1=aS:=by have:=g.pt;unfold V3 at this;exact(mO.1 this).1
  have he:=g.exp;unfold oC;split
  ·exact aeJ (Au (yX _) WQ WQ (.inl rfl)) (Au (yX _) WQ WQ (.inr aBq)) (Au (yX _) ⟨ao,he.2⟩ w (.inl rfl))
  ·exact aeJ (Au (yX _) WQ WQ (.inl rfl)) (Au (yX _) WQ w (.inr aBq)) (Au (yX _) ⟨ao,he.2⟩ WQ (.inl rfl))
def sB:List oT->Int
 |[]=>0
 |m::l=>m.1.1+sB l
theorem iU:∀(a b:List oT),sB (a++b)=sB a+sB b
 |[],b=>by simp[sB]
 |m::a,b=>by rw[fT,sB,sB,iU a b];omega
theorem Mg{a b:List oT}(h:a.Perm b):sB a=sB b:=by
 induction h with
 |nil=>rfl
 |cons x _ ih=>rw[sB,sB,ih]
 |swap x y l=>simp only[sB];omega
 |trans _ _ h1 h2=>rw[h1,h2]
def ng(m:oT):Bool:= !decide (m.2.1.1=3\/m.2.1.1=4)
def ao9(l:List oT):Nat:=(l.filter ng).length
def aoy(l:List oT):Int:=sB (l.filter ng)
theorem apa{a b:List oT}(h:a.Perm b):ao9 a=ao9 b:=(h.filter ng).length_eq
theorem aoz{a b:List oT}(h:a.Perm b):aoy a=aoy b:=Mg (h.filter ng)
theorem agY(rev pay:Int):∀(l:List oT) (os:List fA),os.length=l.length->(PB rev pay os (l.map λm=>m.1) (l.map λm=>m.2.1)).length=ao9 l/\PM (PB rev pay os (l.map λm=>m.1) (l.map λm=>m.2.1))=aoy l
 |[],[],_=>⟨rfl,rfl⟩
 |[],_::_,h=>by cases h
 |_::_,[],h=>by cases h
 |m::l,o::os,h=>by
  have ih:=agY rev pay l os (by simpa using h);simp only[bE,PB];unfold ao9 aoy Ds at*;rw[eJ];by_cases hg:m.2.1.1=3\/m.2.1.1=4
  ·have:ng m=bq:=by unfold ng;rw[aJ hg];rfl
   rw[if_pos hg,this,if_neg (by simp),aR];exact ih
  ·have:ng m=aS:=by unfold ng;rw[bP hg];rfl
   rw[if_neg hg,this,if_pos rfl,dp,aI,aI,PM,sB,ih.1,ih.2];exact⟨rfl,rfl⟩
theorem sC(own rev theirs mine wait:Int):∀l:List fM,sB (l.map (oC own rev theirs mine wait))=fx l/\(l.map (oC own rev theirs mine wait)).filter ng=l.map (oC own rev theirs mine wait)
 |[]=>⟨rfl,rfl⟩
 |c::l=>by
  have ih:=sC own rev theirs mine wait l;have h1:(oC own rev theirs mine wait c).1.1=c.2.2.1/\ng (oC own rev theirs mine wait c)=aS:=by
   unfold oC;split
   ·exact⟨rfl,rfl⟩
   ·exact⟨rfl,rfl⟩
  rw[bE,sB,fx,ih.1,h1.1,eJ,h1.2,if_pos rfl,ih.2];exact⟨rfl,rfl⟩
def aC5(n:Int):Int:=if abp n=aS then n else 0
def aGt(n:Int):Nat:=if abp n=aS then 1 else 0
theorem ayt(ch:fu)(s:fZ)(own per:Int):ao9 (pb ch s own per)=aGt (fX ch s own)+(aGt (fX ch s (1 - own))+(eN s.2.2.1).length):=by
 unfold ao9 pb aGt;rw[gM,gM,gM,aq,aq,aq,(sC ..).2,bC];have e3:∀a b:oT,a.2.1.1=3->b.2.1.1=4->([a,b].filter ng).length=0:=λa b h1 h2=>by
  rw[eJ,eJ];have q1:ng a=bq:=by unfold ng;rw[aJ (.inl h1)];rfl
  have q2:ng b=bq:=by unfold ng;rw[aJ (.inr h2)];rfl
  rw[q1,q2];rfl
 rw[e3 _ _ rfl rfl,Nat.zero_add];cases abp (fX ch s own) <;> cases abp (fX ch s (1 - own)) <;> rfl
theorem ays(ch:fu)(s:fZ)(own per:Int):aoy (pb ch s own per)=aC5 (fX ch s own)+(aC5 (fX ch s (1 - own))+fx (eN s.2.2.1)):=by
 unfold aoy pb aC5;rw[gM,gM,gM,iU,iU,iU,(sC ..).2,(sC ..).1];have e3:∀a b:oT,a.2.1.1=3->b.2.1.1=4->sB ([a,b].filter ng)=0:=λa b h1 h2=>by
  rw[eJ,eJ];have q1:ng a=bq:=by unfold ng;rw[aJ (.inl h1)];rfl
  have q2:ng b=bq:=by unfold ng;rw[aJ (.inr h2)];rfl
  rw[q1,q2];rfl
 rw[e3 _ _ rfl rfl,qw];have e1:∀m:oT,ng m=aS->sB ([m].filter ng)=m.1.1:=λm h=>by rw[eJ,h,if_pos rfl];show m.1.1+0=_;omega
 have e0:sB (([]:List oT).filter ng)=0:=rfl;congr 1
 ·split
  ·exact e1 _ rfl
  ·exact e0
 ·congr 1;split
  ·exact e1 _ rfl
  ·exact e0
theorem avd{r:Int}{m n:Int}(h0:0<=m)(h1:m<=n)(h2:n<=16):On r m<=On r n:=by
 unfold On;split
 ·next h=>
  have e:azZ m<=azZ n:=by unfold azZ;rw[if_pos ⟨h0,ao⟩,if_pos ⟨ao,h2⟩];omega
  exact Int.mul_le_mul_of_nonneg_left e h.1
 ·exact iT _
theorem uE{ch:fu}{s:fZ}(hs:Gk ch s){n:Int}(hn:n=0\/n=1):0<=fX ch s n:=by
 have h0:=(hs.avD hn).1;have hl:=hs.len;have h3:(eN s.2.2.1).length<=s.2.2.1.length:=jy _ _;have hm:=avd (r:=s.2.2.2.1) (m:=((eN s.2.2.1).length:Int)) (n:=(s.2.2.1.length:Int)) ao ao ao;have hc:=hs.cost;unfold fX;split
 ·next e=>
  rw[<-e]at hc;omega
 ·omega
theorem Ga{ch:fu}(dx:l9 ch)(s:fZ){own:Int}(ho:own=0\/own=1): @Eq Int (fX ch s own+fX ch s (1 - own)) (nth ti s.2.1 0+nth ti s.2.1 1 - (On s.2.2.2.1 (eN s.2.2.1).length+660)):=by have cZ:=dx.op;unfold fX;rcases ho with rfl | rfl <;> rcases cZ with e | e <;> rw[e] <;> simp <;> omega
theorem Cz:∀(l:List fM),(∀c∈l,ab6 c)->0<=fx (eN l)/\fx (eN l)<=fx l
 |[],_=>⟨iT _,iT _⟩
 |c::l,h=>by
  have ih:=Cz l λx hx=>h x (aN _ hx)
  have hc:=h c aM;unfold ab6 at hc;rw[E7];split
  ·simp only[fx];omega
  ·simp only[fx];omega
theorem ayr{ch:fu}{s:fZ}{own per:Int}(dx:l9 ch)(hs:Gk ch s)(ho:own=0\/own=1):(∀m∈pb ch s own per,0<=m.1.1)/\sB (pb ch s own per)<=1125899906842624:=by
 have hp':1 - own=0\/1 - own=1:=ao;have r0:=uE hs ho;have r1:=uE hs hp';have rs:=Ga dx s ho;have ht:=hs.aHs;have ha:=dx.U5;have ahp:=Cz _ hs.a;have hf:=DY s.2.2.2.1 (eN s.2.2.1).length;refine⟨λm hm=> ?_,?_⟩
 ·unfold pb at hm;simp only[bt]at hm;rcases hm with hm | hm | hm | hm
  ·split at hm
   ·rw[List.mem_singleton]at hm;subst hm;exact r0
   ·cases hm
  ·split at hm
   ·rw[List.mem_singleton]at hm;subst hm;exact r1
   ·cases hm
  ·rcases bI.1 hm with rfl | hm
   ·show(0:Int)<=330;decide
   ·rw[List.mem_singleton]at hm;subst hm;show(0:Int)<=330;decide
  ·obtain⟨c,hc,rfl⟩:=cT.1 hm;have:=(hs.a c (fp.1 hc).1).1;unfold oC;split
   ·exact this
   ·exact this
 ·unfold pb;rw[iU,iU,iU,(sC ..).1];have e0:∀(b:Bool) (n:Int) (l:Lk) (r:Jg),0<=n->sB (if b=aS then [aca n l r] else [])<=n:=λb n l r hn=>by
   cases b
   ·exact hn
   ·show n+0<=n;omega
  have q0:=e0 (abp (fX ch s own)) (fX ch s own) (OI (Eu (nH ch own).2.2.1 per) (Cl (nH ch (1 - own)).2.2.2.2.1 per) (HE ch (1 - own))) ((1:Int),(aAi,())) r0;have q1:=e0 (abp (fX ch s (1 - own))) (fX ch s (1 - own)) (Dv [(nH ch (1 - own)).2.1]) ((2:Int),(aAi,())) r1;have q2:∀(a b:Lk) (x y:Jg),sB [aca 330 a x,aca 330 b y]=660:=λ_ _ _ _=>rfl
  rw[q2];omega
def abD:List jI->Int
 |[]=>0
 |o::l=>o.1+abD l
theorem Ng:∀(l:List jI) (s:Int),0<=s->(∀o∈l,0<=o.1/\iP o.2.1=aS)->s+abD l<=1125899906842624->re s l=aS
 |[],_,_,_,_=>rfl
 |o::l,s,h0,h,hs=>by
  have ho:=h o aM;have aD3:∀(l:List jI),(∀o∈l,0<=o.1/\iP o.2.1=aS)->0<=abD l:=by
   intro l
   induction l with
   |nil=>intro _;exact iT _
   |cons x l ih=>
    intro h;have h1:=(h x aM).1;have h2:=ih λy hy=>h y (aN _ hy)
    simp only[abD];omega
  have hl:=aD3 l λy hy=>h y (aN _ hy)
  simp only[abD]at hs;rw[re,ho.2,Ng l (s+o.1) ao (λy hy=>h y (aN _ hy)) ao];unfold As zH;rw[aJ ⟨h0,ao⟩,aJ ⟨ho.1,ao⟩,aJ ao];rfl
theorem Ut:∀l:List oT,abD (l.map λm=>m.1)=sB l
 |[]=>rfl
 |m::l=>by rw[bE,abD,sB,Ut l]
theorem Aw{ch:fu}{s:fZ}{own per:Int}(dx:l9 ch)(hs:Gk ch s)(ho:own=0\/own=1):gA (bO ch s own per).1=aS:=by
 have hl:=afM (ch:=ch) (own:=own) (per:=per) hs.len;have hk:=anU (per:=per) dx hs ho;have hr:=ayr (per:=per) dx hs ho;have hp:=lZ (pb ch s own per);have hle:=hp.length_eq;have aAa:=hs.no;unfold bO ofRow;unfold gA I6;have e1:zS [] [((ch.1,(((0:Int),(([]:List Sg),((0:Int),()))),())):kG)]=aS:=by rw[zS,zS,dx.aA4];rfl
 rw[e1,Ng _ 0 (iT _) (λo aD1=> ?_) ?_,aJ ⟨by show 1<=1;decide,by show 1<=64;decide,by show(List.map _ _).length<=64;rw[bC];omega,by show 0<=2*s.1+own;omega⟩]
 ·rfl
 rotate_left
 ·obtain⟨m,hm,rfl⟩:=cT.1 aD1;have hm:=Gg.1 hm;exact⟨hr.1 m hm,hk m hm⟩
 ·rw[Ut,Mg hp];omega
theorem Nc{ch:fu}{s:fZ}{own per rev pay:Int}(dx:l9 ch)(hs:Gk ch s)(ho:own=0\/own=1):(Hg (bO ch s own per) rev pay).length=aGt (fX ch s own)+(aGt (fX ch s (1 - own))+(eN s.2.2.1).length)/\
  PM (Hg (bO ch s own per) rev pay)=aC5 (fX ch s own)+(aC5 (fX ch s (1 - own))+fx (eN s.2.2.1)):=by
 have gK:=Aw (per:=per) dx hs ho;have hm:(eu (bO ch s own per).1).length=(jD (pb ch s own per)).length:=by unfold eu qi;rw[if_pos gK,bC,List.length_range'];show(List.map _ _).length=_;rw[bC]
 have e:=agY rev pay (jD (pb ch s own per)) _ hm;rw[apa (lZ _),aoz (lZ _),ayt,ays]at e;exact e
end
end
section
noncomputable section
theorem amj{a b:fM}:L9 a b=aS↔(a.1 < b.1\/a.1=b.1/\a.2.1 < b.2.1):=by unfold L9;rw[aP]
theorem WS{a b c:fM}(h1:L9 a b=aS)(h2:L9 b c=aS):L9 a c=aS:=by rw[amj]at*;omega
def aJi(a b:fM):Prop:=L9 a b=aS
theorem W4:∀(l:List fM) (p:fM),zG (av p) l=aS↔(∀x∈l,aDJ x)/\(p::l).Pairwise aJi
 |[],p=>⟨λ_=>⟨λx hx=>(by cases hx),List.pairwise_singleton _ _⟩,λ_=>rfl⟩
 |c::l,p=>by
  rw[zG,au,au,W4 l c,vB];constructor
  ·rintro⟨h1,h2,h3,h4⟩;refine⟨λx hx=> ?_,fj.2 ⟨λx hx=> ?_,h4⟩⟩
   ·rcases bI.1 hx with rfl | hx
    ·exact h1
    ·exact h3 x hx
   ·rcases bI.1 hx with rfl | hx
    ·exact h2
    ·exact WS h2 ((fj.1 h4).1 x hx)
  ·rintro⟨h1,h2⟩;have h3:=fj.1 h2;exact⟨h1 c aM,h3.1 c aM,λx hx=>h1 x (aN _ hx),h3.2⟩
theorem W3(l:List fM):zG aF l=aS↔(∀x∈l,aDJ x)/\l.Pairwise aJi:=by
 cases l with
 |nil=>exact⟨λ_=>⟨λx hx=>(by cases hx),List.Pairwise.nil⟩,λ_=>rfl⟩
 |cons c l=>
  rw[zG,au,W4 l c,vB];constructor
  ·rintro⟨h1,h2,h3⟩;refine⟨λx hx=> ?_,h3⟩;rcases bI.1 hx with rfl | hx
   ·exact h1
   ·exact h2 x hx
  ·rintro⟨h1,h2⟩;exact⟨h1 c aM,λx hx=>h1 x (aN _ hx),h2⟩
theorem MN:∀(c:fM) (l:List fM),(Ih c l).Perm (c::l)
 |c,[]=>fI _
 |c,x::l=>by
  rw[FX];split
  ·exact fI _
  ·exact((MN c l).cons x).trans (List.Perm.swap c x l)
theorem ani:∀(c:fM) (l:List fM),l.Pairwise aJi->l.any (anl c.1 c.2.1)=bq->(Ih c l).Pairwise aJi
 |c,[],_,_=>List.pairwise_singleton _ _
 |c,x::l,h,hn=>by
  rw[mm,Bool.or_eq_false_iff]at hn;have h':=fj.1 h;rw[FX];split
  ·next hc=>
   refine fj.2 ⟨λy hy=> ?_,h⟩;rcases bI.1 hy with rfl | hy
   ·exact hc
   ·exact WS hc (h'.1 y hy)
  ·next hc=>
   have hx:L9 x c=aS:=by
    have h1:=hn.1;unfold anl kK at h1;rw[amj]at*;by_cases e1:x.1=c.1
    ·have e2:¬x.2.1=c.2.1:=λe=>by rw[e1,e]at h1;simp at h1
     omega
    ·omega
   refine fj.2 ⟨λy hy=> ?_,ani c l h'.2 hn.2⟩;rcases(Kk c l y).1 hy with rfl | hy
   ·exact hx
   ·exact h'.1 y hy
theorem WU{a b:List fM}(h:a.Perm b):fx a=fx b:=by
 induction h with
 |nil=>rfl
 |cons x _ ih=>rw[fx,fx,ih]
 |swap x y l=>simp only[fx];omega
 |trans _ _ h1 h2=>rw[h1,h2]
theorem anK(n:Int)(c:fM)(l:List fM):fx (j6 n (Ih c l))=(if c.1=1 - n then c.2.2.1 else 0)+fx (j6 n l):=by
 have hp:(j6 n (Ih c l)).Perm (j6 n (c::l)):=(MN c l).filter _;rw[WU hp,Nf];by_cases h:c.1=1 - n
 ·rw[dU h,if_pos rfl,if_pos h,fx]
 ·rw[dF h,if_neg (by simp),if_neg h];omega
theorem uQ(s:fZ)(c:fM):(jv s c).2.2.1=Ih c s.2.2.1:=rfl
theorem I8{s:fZ}{c:fM}(h2:s.2.1.length=2)(hc:c.1=0\/c.1=1){n:Int}(hn:n=0\/n=1): @Eq Int (nth ti (jv s c).2.1 n.toNat) (nth ti s.2.1 n.toNat - (if c.1=n then c.2.2.1 else 0)):=by
 show nth ti (df _ _ _) _=_;rw[ae6 h2 _ _ _ hc hn];split
 ·next e=>rw[e]
 ·show _=(nth ti s.2.1 n.toNat:Int) - 0;exact(nL _).symm
theorem aow{ch:fu}{s:fZ}{c:fM}(dx:l9 ch)(hu:A5 s)(h:(PL ch s c).2=0):Gk ch (PL ch s c).1:=by
 obtain⟨e,hs,g,hn,aFi,XG,hh,aH8⟩:=Y2 h;rw[e];have gs:=ayZ g.side;have ga:=g.U5;have hlen:=hs.len;have w0:=I8 (s:=s) (c:=c) hu.2.2 gs (n:=0) (.inl rfl);have w1:=I8 (s:=s) (c:=c) hu.2.2 gs (n:=1) (.inr rfl);have wc:=I8 (s:=s) (c:=c) hu.2.2 gs gs;rw[if_pos rfl]at wc;have ck:=(W3 _).1 hs.pZ;have a0:=hs.h0.1;have a0':=hs.h0.2;have a1:=hs.h1.1;have a1':=hs.h1.2;have hh': @LE.le Int _ 0 (nth ti (jv s c).2.1 c.1.toNat):=hh;have o0:=anK 0 c s.2.2.1;have o1:=anK 1 c s.2.2.1;have q0:=hs.o0;have q1:=hs.o1;have ht:=hs.aHs;have e0:(ab 0)=0:=rfl;have e1:(ab 1)=1:=rfl;rw[e0]at w0;rw[e1]at w1;refine⟨hs.no,?_,?_,hs.bo,?_,?_,?_,?_,?_,?_⟩
 ·unfold Bd;rcases gs with gc | gc <;> rw[gc]at w0 hh' wc XG
  ·rw[if_pos rfl]at w0;rw[e0]at hh';exact⟨hh',by rw[w0];omega⟩
  ·rw[if_neg fg,nL]at w0;exact⟨by rw[w0];exact a0,by rw[w0];exact a0'⟩
 ·unfold Bd;rcases gs with gc | gc <;> rw[gc]at w1 hh' wc XG
  ·rw[if_neg fg,nL]at w1;exact⟨by rw[w1];exact a1,by rw[w1];exact a1'⟩
  ·rw[if_pos rfl]at w1;rw[e1]at hh';exact⟨hh',by rw[w1];omega⟩
 ·rw[uQ,Sn];omega
 ·rw[uQ,W3];refine⟨λx hx=> ?_,ani c _ ck.2 hn⟩;rcases(Kk c _ x).1 hx with rfl | hx
  ·exact g
  ·exact ck.1 x hx
 ·rw[uQ,o0];rcases gs with gc | gc <;> rw[gc]at XG ⊢
  ·rw[if_neg fg];omega
  ·rw[if_pos fg];rw[show(1:Int) - 1=0 from rfl]at XG;omega
 ·rw[uQ,o1];rcases gs with gc | gc <;> rw[gc]at XG ⊢
  ·rw[if_pos fg];rw[show(1:Int) - 0=1 from rfl]at XG;omega
  ·rw[if_neg fg];omega
 ·rw[uQ,WU (MN c _),fx,w0,w1];rcases gs with gc | gc <;> rw[gc]
  ·rw[if_pos rfl,if_neg fg];omega
  ·rw[if_neg fg,if_pos rfl];omega
 ·exact aH8
theorem SW{ch:fu}(dx:l9 ch):∀(l:List amg) (s:fZ) (i:Nat),A5 s->Gk ch s->Gk ch (uk ch s i l)
 |[],_,_,_,h=>h
 |o::l,s,i,hu,h=>by
  rw[uk];split
  ·refine SW dx l _ _ (alA hu) ?_
   unfold Ff;split
   ·next e=>exact aow dx hu e
   ·exact h
  ·exact h
theorem asc{p:Jf}(hp:amh p):Gk (yA p) (akT p):=by
 have ha:=hp.U5;have hr:=hp.bo;have hn:=hp.no;have ho:p.2.2.2.2.1%2=0\/p.2.2.2.2.1%2=1:=ao;unfold akT;split
 ·next e=>exact yh.1 e
 ·have hf:On (p.2.2.2.1%8) 0<=476:=by unfold On;rw[if_pos ⟨ao,ao⟩];show p.2.2.2.1%8*68<=476;omega
  have aN3:=DY (p.2.2.2.1%8) 0;have key:∀(x y:Int),0<=x->0<=y->x+y=20000+p.2.1->(@GE.ge Int _ (nth ti [x,y] (p.2.2.2.2.1%2).toNat) (On (p.2.2.2.1%8) 0+660))->Gk (yA p) (akS p [x,y]):=λx y hx hy Kf hc=>
   ⟨⟨by show 0<=p.2.2.2.2.2.2.1;omega,by show p.2.2.2.2.2.2.1<=_;omega⟩,⟨hx,by show x<=_;omega⟩,⟨hy,by show y<=_;omega⟩,⟨by show 0<=p.2.2.2.1%8;omega,by show p.2.2.2.1%8<=_;omega⟩,aO _,rfl,by show(0:Int)<=_;decide,by show(0:Int)<=_;decide,by show x+y+0=20000+p.2.1;omega,hc⟩
  rcases ho with e | e
  ·have:((C1 p).set (p.2.2.2.2.1%2).toNat (20000+p.2.1)).set (1 - p.2.2.2.2.1%2).toNat 0=[20000+p.2.1,0]:=by rw[e];rfl
   rw[this];refine key _ _ ao ao ao ?_
   rw[e];show 20000+p.2.1>=_;omega
  ·have:((C1 p).set (p.2.2.2.2.1%2).toNat (20000+p.2.1)).set (1 - p.2.2.2.2.1%2).toNat 0=[0,20000+p.2.1]:=by rw[e];rfl
   rw[this];refine key _ _ ao ao ao ?_
   rw[e];show 20000+p.2.1>=_;omega
theorem NN{p:Jf}(hp:amh p):Gk (yA p) (QF p):=SW (acM hp) _ _ _ (anW p) (asc hp)
end
end
section
noncomputable section
theorem amr(a b:fA):Ty.beq eD a b=aS↔a=b:=⟨beq_eq eD a b rfl,λh=>by rw[h];exact beq_refl eD b rfl⟩
theorem S7{x y:fA}{v:Bool}(h:¬y=x):∀l:List (fA×Bool),dq eD y (jq eD x v l)=dq eD y l
 |[]=>by rw[X5,fD,if_neg (λe=>h ((amr _ _).1 e)),AP]
 |p::l=>by
  rw[B6];split
  ·next e=>
   have e:=(amr _ _).1 e;rw[fD,fD,if_neg (λe=>h ((amr _ _).1 e)),if_neg (λe2=>h (((amr _ _).1 e2).trans e.symm))]
  ·rw[fD,fD,S7 h l]
theorem ank:∀(l:List kG) (m:List (fA×Bool)),(∀x∈l,ML x=aS/\dq eD x.1 m=aF)->(l.map λx=>x.1).Nodup->zS m l=aS
 |[],_,_,_=>rfl
 |x::l,m,h,hn=>by
  rw[bE,dn]at hn;have hx:=h x aM;have e:G0 m x=bq:=by unfold G0;rw[hx.2];rfl
  rw[zS,e,hx.1,ank l _ (λy hy=>⟨(h y (aN _ hy)).1,?_⟩) hn.2]
  ·rfl
  ·rw[S7 (λe=>hn.1 (by rw[<-e];exact List.mem_map_of_mem hy))];exact(h y (aN _ hy)).2
theorem aof(rev pay:Int):∀(a:List fA) (b:List jI) (c:List Jg),((PB rev pay a b c).map λx=>x.1).Sublist a
 |[],_,_=>List.Sublist.refl _
 |_::_,[],_=>List.nil_sublist _
 |_::_,_::_,[]=>List.nil_sublist _
 |o::a,x::b,r::c=>by
  have ih:=aof rev pay a b c;rw[PB,pj];unfold Ds;split
  ·exact ih.cons o
  ·exact ih.cons_cons o
theorem aeQ(id:List Int):∀(n k:Nat),(qi id k n).Nodup:=by intro n k;unfold qi;refine List.Pairwise.map _ (λa b h e=>h ?_) List.nodup_range';have:=cf (λo:fA=>o.2.1) e;exact Int.ofNat.inj this
theorem aCq{id:List Int}{k n:Nat}{o:fA}(h:o∈qi id k n):0<=o.2.1/\o.2.1 < k+n:=by unfold qi at h;obtain⟨i,hi,rfl⟩:=cT.1 h;have:=List.mem_range'.1 hi;obtain⟨j,hj,rfl⟩:=this;show(0:Int)<=((k+1*j:Nat):Int)/\((k+1*j:Nat):Int) < k+n;omega
theorem ajU(c:aos)(rev pay:Int):((Hg c rev pay).map λx=>x.1).Nodup/\∀x∈Hg c rev pay,0<=x.1.2.1/\x.1.2.1 < 64:=by
 unfold Hg;have hs:=aof rev pay (eu c.1) c.1.2.1 c.2.1;have hm:(eu c.1).Nodup/\∀o∈eu c.1,0<=o.2.1/\o.2.1 < 64:=by
  unfold eu;split
  ·next gK=>
   refine⟨aeQ _ _ _,λo ho=> ?_⟩;have:=aCq ho;have:=(YP gK).1;omega
  ·exact⟨gh,λo ho=>(by cases ho)⟩
 exact⟨hm.1.sublist hs,λx hx=>hm.2 _ (hs.subset (List.mem_map_of_mem hx))⟩
theorem aDz{l:List tW}{to:Lk}{n:Int}(h1:1<=l.length/\l.length<=64)(hn:(l.map λx=>x.1).Nodup)(hi:∀x∈l,0<=x.1.2.1/\x.1.2.1 < 64)(yE:iP to=aS)(h0:0<=n/\n<=1125899906842624):gA (UY l to n)=aS:=by
 unfold gA I6;have e1:zS [] (UY l to n).1=aS:=by show zS [] (l.map Sj)=aS;refine ank _ _ (λx hx=> ?_) (by rw[List.map_map];exact hn);obtain⟨y,hy,rfl⟩:=cT.1 hx;have:=hi y hy;refine⟨?_,rfl⟩;unfold ML;show(decide (0<=y.1.2.1/\y.1.2.1 < 64) && _)=aS;rw[aJ this];rfl
 have e2:re 0 (UY l to n).2.1=aS:=Ng _ 0 (iT _) (λo ho=>by
  have ho:o∈ [(n,(to,()))]:=ho;rw[List.mem_singleton]at ho;subst ho;exact⟨h0.1,yE⟩) (by show 0+(n+0)<=_;omega)
 rw[e1,e2,aJ ⟨by show 1<=(l.map Sj).length;rw[bC];exact h1.1,by show(l.map Sj).length<=64;rw[bC];exact h1.2,by show 1<=64;decide,by show(0:Int)<=0;decide⟩];rfl
def aHt(x:kG):Int:=10+8*x.2.1.2.1.length+(if x.2.1.2.2.1=0 then 0 else 4)
theorem asv{t:gf}{i:Nat}{k:Int}(gK:gA t=aS)(hi:i < t.1.length)(hk:0 < k/\k < 2305843009213688669):yf t i 0 [k]=aS:=by unfold yf;rw[gK,aJ ⟨ao,ao,fg,fg,bN rfl⟩];simp only[mm,List.any_nil,HG];rw[bP ao];rfl
theorem agm:∀(l:List tW) (t:gf) (i:Nat),gA t=aS->A6 t->i+l.length=t.1.length->(∀x∈l,0 < x.2.2.1/\x.2.2.1 < 2305843009213688669)->(∀(j:Nat) (h:j < t.1.length),j < i->aHt t.1[j]=18)->
  ∃t',rI t i l= .inl t'/\gA t'=aS/\A6 t'/\t'.2=t.2/\t'.1.length=t.1.length/\oA t'=oA t/\eo t'=eo t/\∀x∈t'.1,aHt x=18
 |[],t,i,gK,hv,hl,_,hw=>⟨t,rfl,gK,hv,rfl,rfl,rfl,rfl,λx hx=>by
   obtain⟨j,hj,rfl⟩:=List.getElem_of_mem hx;exact hw j hj (by simp at hl;omega)⟩
 |x::l,t,i,gK,hv,hl,hk,hw=>by
  have hi:i < t.1.length:=by rw[aI]at hl;omega
  have hs:=asv gK hi (hk x aM);have ha:=Uf (sc:=0) hv hs CL;rw[aa]at ha;have e:qm t i 0 [x.2.2.1] 0=(Ct t i (E8 t 0 [x.2.2.1] 0),0):=by rw[LH,if_pos hs,aa]
  obtain⟨t',h1,h2,h3,h4,h5,h6,h7,h8⟩:=agm l (Ct t i (E8 t 0 [x.2.2.1] 0)) (i+1) ha.1 ha.2.1 (by rw[T1];rw[aI]at hl;omega) (λy hy=>hk y (aN _ hy)) (λj hj aN6=>by
   have hj':j < t.1.length:=by rw[T1]at hj;exact hj
   have aME:j < (t.1.set i ((nth iB t.1 i).1,(E8 t 0 [x.2.2.1] 0,()))).length:=hj;show aHt ((t.1.set i ((nth iB t.1 i).1,(E8 t 0 [x.2.2.1] 0,())))[j]'aME)=18;rw[List.getElem_set];split
   ·rfl
   ·exact hw j hj' ao)
  refine⟨t',?_,h2,h3,h4,h5.trans (T1 ..),h6.trans ha.2.2.1,h7.trans ha.2.2.2.1,h8⟩;rw[rI,e,if_pos rfl];exact h1
theorem az0{t:gf}(h:gA t=aS)(hw:∀x∈t.1,aHt x=18):Ao t=10+8*t.2.1.length+18*t.1.length:=by
 unfold Ao;rw[if_pos h];have:∀(l:List kG) (n:Int),(∀x∈l,aHt x=18)->l.foldl FE n=n+18*l.length:=by
  intro l
  induction l with
  |nil=>intro n _;simp
  |cons x l ih=>
   intro n h;have hx:=h x aM;unfold aHt at hx;rw[dS,ih _ λy hy=>h y (aN _ hy),aI];unfold FE;omega
 exact this _ _ hw
theorem UA{l:List tW}{to:Lk}{bo:Int}(hg:QN l)(ht:Ba to)(yE:iP to=aS)(h1:1<=l.length)(hn:(l.map λx=>x.1).Nodup)(hi:∀x∈l,0<=x.1.2.1/\x.1.2.1 < 64)(hk:∀x∈l,0 < x.2.2.1/\x.2.2.1 < 2305843009213688669)
  (h0:1<=iF l bo) (hm:iF l bo<=1125899906842624):∃t,kF l to bo=(t,0)/\gA t=aS/\A6 t/\t.2=([(iF l bo,(to,()))],((0:Int),()))/\t.1.length=l.length/\Ao t=18+18*l.length/\eo t=l.map λx=>x.1:=by
 have gK:=aDz (n:=iF l bo) ⟨h1,hg.1⟩ hn hi yE ⟨ao,hm⟩;have hv:=al2 (n:=iF l bo) hg ht;obtain⟨t,e1,e2,e3,e4,e5,_,e7,e8⟩:=agm l _ 0 gK hv (by show 0+l.length=(l.map Sj).length;rw[bC,Nat.zero_add]) hk (λj _ h=>absurd h (Nat.not_lt_zero _));have el:t.1.length=l.length:=e5.trans (bC ..);refine⟨t,?_,e2,e3,e4,el,?_,?_⟩
 ·unfold kF;rw[if_neg ao,e1]
 ·have:=az0 e2 e8;rw[this,el,e4];show 10+8*((1:Nat):Int)+_=_;omega
 ·rw[e7];unfold eo;rw[if_pos gK];show(l.map Sj).map _=_;rw[List.map_map];rfl
theorem lI(l:List tW)(bo:Int):iF l bo=PM l - bo*(18+18*l.length):=by unfold iF;rw[Int.neg_mul];omega
end
end
section
noncomputable section
theorem KD{p:Jf}(h:amh p):lU.call p=av (yA p,o5 p,QF p):=by
 have ea:∀ {D Y:Type} (d:D) (y:Y),bk d y=y:=λ_ _=>rfl
 have eF:KC p=(yA p,o5 p,QF p):=rfl;rw[ajC (d:=p) h,ea,eF]
def aGr:List Int:=[(1:Int),(0:Int),(0:Int),(0:Int),(0:Int),(0:Int),(0:Int),(0:Int),(0:Int),(0:Int),(0:Int),(0:Int),(0:Int),(0:Int),(0:Int),(0:Int),(0:Int),(0:Int),(0:Int),(0:Int),(0:Int),(0:Int),(0:Int),(0:Int),(0:Int),(0:Int),(0:Int),(0:Int),(0:Int),(0:Int),(0:Int),(0:Int)]
def aEx:List Int:=[(2:Int),(0:Int),(0:Int),(0:Int),(0:Int),(0:Int),(0:Int),(0:Int),(0:Int),(0:Int),(0:Int),(0:Int),(0:Int),(0:Int),(0:Int),(0:Int),(0:Int),(0:Int),(0:Int),(0:Int),(0:Int),(0:Int),(0:Int),(0:Int),(0:Int),(0:Int),(0:Int),(0:Int),(0:Int),(0:Int),(0:Int),(0:Int)]
def Pt:List Int:=[(9:Int),(0:Int),(0:Int),(0:Int),(0:Int),(0:Int),(0:Int),(0:Int),(0:Int),(0:Int),(0:Int),(0:Int),(0:Int),(0:Int),(0:Int),(0:Int),(0:Int),(0:Int),(0:Int),(0:Int),(0:Int),(0:Int),(0:Int),(0:Int),(0:Int),(0:Int),(0:Int),(0:Int),(0:Int),(0:Int),(0:Int),(0:Int)]
def aJK:amg:=((0:Int),((999:Int),((49:Int),((6:Int),()))))
def axM:Jf:=([aGr,aEx],((0:Int),((20000:Int),((0:Int),((0:Int),([aJK],((3:Int),((ai 32 (0:Int)),()))))))))
theorem IM:Sm Pt:=⟨rfl,λx hx=>by
 have hx:x∈(9:Int)::ai 31 0:=hx;rcases bI.1 hx with rfl | hx
 ·exact⟨fg,fg⟩
 ·rw[(pG.1 hx).2];exact⟨fg,fg⟩⟩
theorem axN:amh axM:=⟨rfl,rfl,rfl,fg,fg,fg,fg,λo ho=>by
 have ho:o∈ [aJK]:=ho;rw[List.mem_singleton]at ho;subst ho;exact⟨fg,fg,fg,fg,fg⟩,fg,fg⟩
def Vv:sj:=nV aGr
def MT:sj:=nV aEx
def gT:fu:=yA axM
theorem aFV:o5 axM=[Vv,MT]:=rfl
theorem sF:l9 gT:=acM axN
theorem aNk:iw (o9 aGr 1)=2072101336324354433:=by rw[AW];decide+kernel
theorem aNl:iw (o9 aEx 1)=1305380350991396904:=by rw[AW];decide+kernel
theorem aNm:iw (o9 aGr 5)=1029399409459846816:=by rw[AW];decide+kernel
theorem aNn:iw (o9 aEx 5)=2186824319021734715:=by rw[AW];decide+kernel
theorem aL0:iw Pt=112257076531728385:=by decide+kernel
theorem aNi:dv 1029399409459846816=4015897993537805363:=by decide+kernel
theorem aNj:dv 2186824319021734715=2261880268583237820:=by decide+kernel
theorem aLZ:dv 112257076531728385=575350622446351864:=by decide+kernel
theorem aK5:dv 2072101336324354433=832337771889980084:=by decide+kernel
theorem aK6:dv 1305380350991396904=97770669543817673:=by decide+kernel
theorem aNo:zO AR 4015897993537805363 575350622446351864=1791329418814422355:=by rw[FN];decide+kernel
theorem aNp:zO AR 575350622446351864 4015897993537805363=292043013001268827:=by rw[FN];decide+kernel
theorem aNq:zO AR 2261880268583237820 575350622446351864=1740878991488293903:=by rw[FN];decide+kernel
theorem aNr:zO AR 575350622446351864 2261880268583237820=409497070282374302:=by rw[FN];decide+kernel
theorem aGm:0 < wB Vv.2.2.2.2.1 Pt:=by show 0 < wB (iw (o9 aGr 5)) Pt;unfold wB js;rw[aNm,aL0,aNi,aLZ,aNo,aNp];decide+kernel
theorem ayi:0 < wB MT.2.2.2.2.1 Pt:=by show 0 < wB (iw (o9 aEx 5)) Pt;unfold wB js;rw[aNn,aL0,aNj,aLZ,aNq,aNr];decide+kernel
theorem azU:Ty.beq rQ (Bi Vv) (nH gT 1)=bq:=by
 cases e:Ty.beq rQ (Bi Vv) (nH gT 1)
 ·rfl
 ·have h:=beq_eq rQ _ _ rfl e;have h1:dv (iw (o9 aGr 1))=dv (iw (o9 aEx 1)):=cf (λb:atu=>b.1) h;rw[aNk,aNl,aK5,aK6]at h1;exact absurd h1 fg
def aG5:fM:=((0:Int),((1:Int),((1000:Int),(dv 7,((50:Int),())))))
def Dh:fZ:=((3:Int),([(19000:Int),0],([aG5],((0:Int),()))))
theorem aNs:aty (dv 7):=acz fg fg
theorem aHF:aDJ aG5:=⟨aNs.2,fg,fg,fg,fg⟩
theorem aIW:ajV 0 aJK=aG5:=rfl
theorem aGC:QF axM=Dh:=by
 have e0:IU gT (akS axM [20000,0])=aS:=by rfl
 have e1:akT axM=akS axM [20000,0]:=by unfold akT;exact if_pos e0
 have e2:(IU gT (akS axM [20000,0]) && ab7 aG5)=aS:=by rw[e0,vB.2 aHF];rfl
 have e3:PL gT (akS axM [20000,0]) aG5=(Dh,0):=by unfold PL;rw[if_pos e2];rfl
 unfold QF;rw[e1];show uk gT (akS axM [20000,0]) 0 [aJK]=Dh;rw[uk,if_pos fg,uk];unfold Ff;rw[aIW,e3];rfl
theorem Lq:A5 Dh:=by rw[<-aGC];exact azh _
theorem aEw:Gk gT Dh:=by have:=NN axN;rw[aGC]at this;exact this
theorem QB:fX gT Dh 0=18340:=rfl
theorem QC:fX gT Dh 1=0:=rfl
theorem an1:eN Dh.2.2.1=[aG5]:=rfl
def yp:Lk:=Dv [(nH gT 1).2.1]
theorem Fk:Ba yp:=Qr (sF.ba (.inr rfl)).2.1.1
theorem abN:iP yp=aS:=SK (Au (sF.ba (.inr rfl)).2.1.p WQ WQ (.inl rfl))
theorem axo{own per:Int}(ho:own=0\/own=1)(hp:oQ per=aS):nr gT Dh own per=(bO gT Dh own per,0):=by unfold nr;rw[aJ ho,hp,if_pos (show(aS && aS)=aS from rfl),if_pos (yh.2 aEw)]
theorem aCy{own per rev pay:Int}(ho:own=0\/own=1):(Hg (bO gT Dh own per) rev pay).length=2/\PM (Hg (bO gT Dh own per) rev pay)=19340:=by
 have h:=Nc (own:=own) (per:=per) (rev:=rev) (pay:=pay) sF aEw ho;rw[an1]at h;rcases ho with rfl | rfl
 ·rw[QB,show(1:Int) - 0=1 from rfl,QC]at h;exact h
 ·rw[QC,show(1:Int) - 1=0 from rfl,QB]at h;exact h
theorem aHA{own per:Int}(ho:own=0\/own=1):∀m∈pb gT Dh own per,m.1.1=18340\/m.1.1=330\/m.1.1=1000:=by
 intro m hm;unfold pb at hm;simp only[bt]at hm;rcases hm with hm | hm | hm | hm
 ·split at hm
  ·next h=>
   rw[List.mem_singleton]at hm;subst hm;rcases ho with rfl | rfl
   ·left;exact QB
   ·rw[QC]at h;exact absurd h fg
  ·cases hm
 ·split at hm
  ·next h=>
   rw[List.mem_singleton]at hm;subst hm;rcases ho with rfl | rfl
   ·rw[show(1:Int) - 0=1 from rfl,QC]at h;exact absurd h fg
   ·left;exact QB
  ·cases hm
 ·rcases bI.1 hm with rfl | hm
  ·right;left;rfl
  ·rw[List.mem_singleton]at hm;subst hm;right;left;rfl
 ·rw[an1]at hm;obtain⟨c,hc,rfl⟩:=cT.1 hm;rw[List.mem_singleton]at hc;subst hc;right;right;unfold oC;split <;> rfl
theorem axA{own per rev pay:Int}(ho:own=0\/own=1):∀x∈Hg (bO gT Dh own per) rev pay,x.2.1=18340\/x.2.1=330\/x.2.1=1000:=by intro y hy;obtain⟨o,_,x,hx,r,_,_,rfl⟩:=QI _ _ _ _ _ _ hy;obtain⟨m,hm,rfl⟩:=cT.1 (show x∈(jD (pb gT Dh own per)).map (λm=>m.1) from hx);exact aHA ho m (Gg.1 hm)
theorem ae7{own per rev pay:Int}(hr:0 < rev/\rev < 2305843009213688669)(hp:0 < pay/\pay < 2305843009213688669):∀x∈Hg (bO gT Dh own per) rev pay,0 < x.2.2.1/\x.2.2.1 < 2305843009213688669:=by
 intro y hy;obtain⟨o,_,x,hx,r,_,_,rfl⟩:=QI _ _ _ _ _ _ hy;show 0 < (if r.1=2 then pay else rev)/\(if r.1=2 then pay else rev) < _;split
 ·exact hp
 ·exact hr
theorem azs{own per rev pay bo:Int}(ho:own=0\/own=1)(hr:0 < rev/\rev < 2305843009213688669)(hp:0 < pay/\pay < 2305843009213688669)(h2:bo=2):∃t,kF (Hg (bO gT Dh own per) rev pay) yp bo=(t,0)/\gA t=aS/\A6 t/\t.2=([(19232,(yp,()))],((0:Int),()))/\t.1.length=2/\Ao t=54:=by
 subst h2;have h:=aCy (own:=own) (per:=per) (rev:=rev) (pay:=pay) ho;have hg:=ae9 (c:=bO gT Dh own per) (rev:=rev) (pay:=pay) ⟨ao,ao⟩ ⟨ao,ao⟩;have hn:=ajU (bO gT Dh own per) rev pay;have hk:=ae7 (own:=own) (per:=per) hr hp;generalize Hg (bO gT Dh own per) rev pay=l at h hg hn hk;have hl:iF l 2=19232:=by rw[lI,h.1,h.2];decide
 obtain⟨t,q1,q2,q3,q4,q5,q6,_⟩:=UA (bo:=2) hg Fk abN ao hn.1 hn.2 hk (by rw[hl];decide) (by rw[hl];decide);rw[hl]at q4;exact⟨t,q1,q2,q3,q4,ao,by rw[q6,h.1];decide⟩
theorem aEY{own per rev pay:Int}(ho:own=0\/own=1)(hr:0 < rev/\rev < 2305843009213688669)(hp:0 < pay/\pay < 2305843009213688669):∃t:gf,xq yp 30 (Hg (bO gT Dh own per) rev pay)=[t]/\t.2=([(17260,(yp,()))],((0:Int),())):=by
 have h:=aCy (own:=own) (per:=per) (rev:=rev) (pay:=pay) ho;have hg:=ae9 (c:=bO gT Dh own per) (rev:=rev) (pay:=pay) ⟨ao,ao⟩ ⟨ao,ao⟩;have hn:=ajU (bO gT Dh own per) rev pay;have hk:=ae7 (own:=own) (per:=per) hr hp;have ha:=axA (per:=per) (rev:=rev) (pay:=pay) ho;generalize Hg (bO gT Dh own per) rev pay=l at h hg hn hk ha
 match l,h with
 |[x,y],h=>
  have xz:x.2.1+(y.2.1+0)=19340:=h.2;have ax:=ha x aM;have ay:=ha y (aN _ aM);have no:∀z:tW,z.2.1=1000->kF [z] yp 30=(aEG,8):=λz hz=>by
   have:iF [z] 30= -80:=by rw[lI];show z.2.1+0 - 30*(18+18*1)= -80;omega
   unfold kF;rw[this];rfl
  have yes:∀z:tW,z∈ [x,y]->z.2.1=18340->∃t,kF [z] yp 30=(t,0)/\t.2=([(17260,(yp,()))],((0:Int),())):=λz hm hz=>by
   have e:iF [z] 30=17260:=by rw[lI];show z.2.1+0 - 30*(18+18*1)=17260;omega
   have hs:∀w∈ [z],w∈ [x,y]:=λw hw=>by rw[List.mem_singleton]at hw;rw[hw];exact hm
   obtain⟨t,q1,q2,q3,q4,q5,q6,_⟩:=UA (l:=[z]) (bo:=30) ⟨by show 1<=64;decide,λw hw=>hg.2 w (hs w hw)⟩ Fk abN (aC _) (List.pairwise_singleton _ _) (λw hw=>hn.2 w (hs w hw)) (λw hw=>hk w (hs w hw)) (by rw[e];decide) (by rw[e];decide);rw[e]at q4;exact⟨t,q1,q4⟩
  have Kf:(x.2.1=18340/\y.2.1=1000)\/(x.2.1=1000/\y.2.1=18340):=ao;rcases Kf with⟨h1,h2⟩ | ⟨h1,h2⟩
  ·obtain⟨t,q1,q2⟩:=yes x aM h1;refine⟨t,?_,q2⟩;rw[xq,xq,xq,q1,no y h2];rfl
  ·obtain⟨t,q1,q2⟩:=yes y (aN _ aM) h2;refine⟨t,?_,q2⟩;rw[xq,xq,xq,q1,no x h1];rfl
theorem aIZ:oQ (js Pt)=aS:=Eb _
theorem aEk{kit:sj}{me bo:Int}(hm:me=0\/me=1)(hk:Ty.beq rQ (Bi kit) (nH gT me)=aS)(hr:0<=bo/\bo<=1000):SY gT kit me yp bo=aS:=by unfold SY;rw[iE ao ao,iE hr.1 hr.2,abN,hk];rfl
theorem amZ{kit:sj}{me bo:Int}(hm:me=0\/me=1)(hk:Ty.beq rQ (Bi kit) (nH gT me)=aS)(hr:0<=bo/\bo<=1000):ix gT kit me Dh Pt yp bo=(Hg (bO gT Dh (1 - me) (js Pt)) (wB kit.2.2.2.2.1 Pt) kit.2.1,0):=by unfold ix;rw[if_pos (aEk hm hk hr),axo ao aIZ];rfl
theorem ai1{kit:sj}{me bo:Int}(hm:me=0\/me=1)(hk:Ty.beq rQ (Bi kit) (nH gT me)=aS)(hr:0<=bo/\bo<=1000):C2 gT kit me Dh Pt yp bo=kF (Hg (bO gT Dh (1 - me) (js Pt)) (wB kit.2.2.2.2.1 Pt) kit.2.1) yp bo:=by unfold C2;rw[amZ hm hk hr];rfl
theorem ajd(s:List Int):(0 < (nV s).2.1/\(nV s).2.1 < 2305843009213688669):=jV _
theorem ayl(b:Int)(s:List Int):wB b s < 2305843009213688669:=(Ji _ _).2
theorem atM(b:atu):Ty.beq rQ b b=aS:=beq_refl rQ b rfl
theorem avA{bo:Int}(hr:0<=bo/\bo<=1000):R2 gT 1 Dh bo=imax 0 (19340 - bo*54):=by unfold R2;have h:=aCy (own:=1 - 1) (per:=4) (rev:=0) (pay:=0) (.inl rfl);rw[iE fg fg,iE hr.1 hr.2,if_pos (show(aS && aS)=aS from rfl),axo (own:=1 - 1) (.inl rfl) anm,if_pos rfl,lI,h.1,h.2];rfl
def agr:Unit->Prop:=λ_=>True
def asB:Unit->Bool:=λ_=>aS
def fO:Fs Tryz.prog agr bk asB:=dV 4 Tryz.f4 (λ_=>([],[])) (λx=>⟨.d .bool x,[],[]⟩) [] [M9,aay,aeh,awm,al1,awp]
theorem aln(d)(k:K1 R):fO.A d k=ak (lU.call ([[1,0,0,0,0,0,0,0,0,0,0,0,0,0,0,0,0,0,0,0,0,0,0,0,0,0,0,0,0,0,0,0],[2,0,0,0,0,0,0,0,0,0,0,0,0,0,0,0,0,0,0,0,0,0,0,0,0,0,0,0,0,0,0,0]],(0,(20000,(0,(0,([(0,(999,(49,(6,()))))],(3,((ai 32 0),()))))))))) λx1=>aG (decide (1 < (ae x1.1.2.2.1))) (ak (M6.call (nth rQ x1.1.2.2.1 1).2.1) λx2=>aG (decide (1 < (ae x1.2.1))) (ak (o3.call (x1.1,(nth oN x1.2.1 1),1,x1.2.2,[9,0,0,0,0,0,0,0,0,0,0,0,0,0,0,0,0,0,0,0,0,0,0,0,0,0,0,0,0,0,0,0],x2,2)) λx3=>aG (decide (1 < (ae x1.2.1))) (ak (AI.call (x1.1,(nth oN x1.2.1 1),1,x1.2.2,[9,0,0,0,0,0,0,0,0,0,0,0,0,0,0,0,0,0,0,0,0,0,0,0,0,0,0,0,0,0,0,0],x2,30)) λx4=>aG (decide (0 < (ae x1.2.1))) (ak (o3.call (x1.1,(nth oN x1.2.1 0),1,x1.2.2,[9,0,0,0,0,0,0,0,0,0,0,0,0,0,0,0,0,0,0,0,0,0,0,0,0,0,0,0,0,0,0,0],x2,2)) λx5=>aG (decide (1 < (ae x1.2.1))) (ak (o3.call (x1.1,(nth oN x1.2.1 1),1,(0,((ai 2 0),(([]:List fM),(0,())))),[9,0,0,0,0,0,0,0,0,0,0,0,0,0,0,0,0,0,0,0,0,0,0,0,0,0,0,0,0,0,0,0],x2,2)) λx6=>aG (decide (1 < (ae x1.2.1))) (ak (o3.call (x1.1,(nth oN x1.2.1 1),1,x1.2.2,[9,0,0,0,0,0,0,0,0,0,0,0,0,0,0,0,0,0,0,0,0,0,0,0,0,0,0,0,0,0,0,0],x2,1000)) λx7=>aG (decide (1 < (ae x1.2.1))) (ak (o3.call (x1.1,(nth oN x1.2.1 1),1,x1.2.2,[9,0,0,0,0,0,0,0,0,0,0,0,0,0,0,0,0,0,0,0,0,0,0,0,0,0,0,0,0,0,0,0],(([]:List wS),()),2)) λx8=>aG (decide (0 < (ae x1.2.1))) (ak (o3.call (x1.1,(nth oN x1.2.1 0),0,x1.2.2,[9,0,0,0,0,0,0,0,0,0,0,0,0,0,0,0,0,0,0,0,0,0,0,0,0,0,0,0,0,0,0,0],x2,2)) λx9=>aG (yV (x3.1.1.length:Int) 2) (k (fO.out bq)) (aG (yV (x3.1.2.1.length:Int) 1) (k (fO.out bq)) (aG (yV (x4.1.length:Int) 1) (k (fO.out bq)) (aG (yV (x9.1.1.length:Int) 2) (k (fO.out bq)) (aG (kK x3.2 0) (aG (kK x4.2 0) (aG (kK x5.2 1) (aG (kK x6.2 14) (aG (kK x7.2 8) (aG (kK x8.2 1) (aG (kK x9.2 0) (aG (dr 0 (x3.1.2.1.length:Int)) (aG (kK (nth jE x3.1.2.1 0).1 19232) (ak (pB.call x3.1) λMc=>aG (kK Mc 54) (aG (dr 0 (x4.1.length:Int)) (aG (kK (((ae (nth jC x4.1 0).2.1):Nat):Int) 1) (aG (dr 0 (x4.1.length:Int)) (aG (dr 0 (((ae (nth jC x4.1 0).2.1):Nat):Int)) (aG (kK (nth jE (nth jC x4.1 0).2.1 0).1 17260) (ak (sw.call (x1.1,1,x1.2.2,2)) λQK=>aG (kK QK 19232) (ak (sw.call (x1.1,1,x1.2.2,1000)) λQL=>aG (kK QL 0) (ak (sw.call (x1.1,2,x1.2.2,2)) λaDH=>k (fO.out (kK aDH 0))) (k (fO.out bq))) (k (fO.out bq))) (k (fO.out bq))) aF) aF) (k (fO.out bq))) aF) (k (fO.out bq))) (k (fO.out bq))) aF) (k (fO.out bq))) (k (fO.out bq))) (k (fO.out bq))) (k (fO.out bq))) (k (fO.out bq))) (k (fO.out bq))) (k (fO.out bq))))))) aF) aF) aF) aF) aF) aF) aF) aF:=cq
theorem alo:fO.Ok:=by
 rintro⟨⟩ _;have c1:=KD axN;rw[aFV,aGC]at c1;have c2:M6.call (nth rQ gT.2.2.1 1).2.1=av yp:=SM (d:=(nth rQ gT.2.2.1 1).2.1) trivial;have ku:YU MT:=Ee _;have ka:YU Vv:=Ee _;have hb:Ty.beq rQ (Bi MT) (nH gT 1)=aS:=atM _;have ha:Ty.beq rQ (Bi Vv) (nH gT 0)=aS:=atM _;obtain⟨t1,a1,a2,a3,a4,a5,a6⟩:=azs (own:=1 - 1) (per:=js Pt) (.inl rfl) ⟨ayi,ayl _ _⟩ (ajd aEx) rfl;obtain⟨t2,b1,b2⟩:=aEY (own:=1 - 1) (per:=js Pt) (.inl rfl) ⟨ayi,ayl _ _⟩ (ajd aEx);obtain⟨t3,d1,d2,d3,d4,d5,d6⟩:=azs (own:=1 - 0) (per:=js Pt) (.inr rfl) ⟨aGm,ayl _ _⟩ (ajd aGr) rfl;have c3:o3.call (gT,MT,1,Dh,Pt,yp,2)=av (t1,0):=by rw[BT sF ku Lq IM Fk,ai1 (.inr rfl) hb fg];exact cf av a1
 have c4:AI.call (gT,MT,1,Dh,Pt,yp,30)=av ([t2],0):=by rw[aBU sF ku Lq IM Fk];unfold Xq;rw[amZ (.inr rfl) hb fg];exact cf (λz=>av (z,(0:Int))) b1
 have c5:o3.call (gT,Vv,1,Dh,Pt,yp,2)=av (aEG,1):=by rw[BT sF ka Lq IM Fk];unfold C2 ix SY;rw[azU,jl,jl,jl];rfl
 have zu:A5 az3:=⟨λc hc=>(by cases hc),aO _,rfl⟩;have c6:o3.call (gT,MT,1,az3,Pt,yp,2)=av (aEG,14):=by
  have e:nr gT az3 (1 - 1) (js Pt)=(aLw,14):=by unfold nr;rw[aJ (.inl rfl),aIZ,if_pos (show(aS && aS)=aS from rfl),if_neg (by rw[show IU gT az3=bq from rfl];decide)]
  rw[BT sF ku zu IM Fk];unfold C2 ix;rw[if_pos (aEk (.inr rfl) hb fg),e];rfl
 have c7:o3.call (gT,MT,1,Dh,Pt,yp,1000)=av (aEG,8):=by rw[BT sF ku Lq IM Fk,ai1 (.inr rfl) hb fg];have h:=aCy (own:=1 - 1) (per:=js Pt) (rev:=wB MT.2.2.2.2.1 Pt) (pay:=MT.2.1) (.inl rfl);unfold kF;rw[lI,h.1,h.2];rfl
 have c8:o3.call (gT,MT,1,Dh,Pt,(([]:List wS),()),2)=av (aEG,1):=by rw[BT sF ku Lq IM ⟨λb hb=>(by cases hb),aO _⟩];unfold C2 ix SY;rw[show iP (([]:List wS),())=bq from rfl,dC,jl,jl];rfl
 have c9:o3.call (gT,Vv,0,Dh,Pt,yp,2)=av (t3,0):=by rw[BT sF ka Lq IM Fk,ai1 (.inl rfl) ha fg];exact cf av d1
 have c10:pB.call t1=av 54:=by rw[aha (d:=t1) a3];exact cf av a6
 have c11:sw.call (gT,1,Dh,2)=av 19232:=by rw[aaj sF Lq,avA fg];rfl
 have c12:sw.call (gT,1,Dh,1000)=av 0:=by rw[aaj sF Lq,avA fg];rfl
 have c13:sw.call (gT,2,Dh,2)=av 0:=by rw[aaj sF Lq];rfl
 rw[show yA axM=gT from rfl]at c1;have l1:t1.2.1=[(19232,(yp,()))]:=cf (λz:List jI×(Int×Unit)=>z.1) a4;have l2:t2.2.1=[(17260,(yp,()))]:=cf (λz:List jI×(Int×Unit)=>z.1) b2;rw[aln];refine(cf (λz=>ak z _) c1).trans ?_
 rw[ah,aJ (show 1 < gT.2.2.1.length from Nat.lt_succ_self 1),aj];refine(cf (λz=>ak z _) c2).trans ?_
 rw[ah,aJ (show 1 < ([Vv,MT]:List sj).length from Nat.lt_succ_self 1),aj];refine(cf (λz=>ak z _) c3).trans ?_
 rw[ah,aj];refine(cf (λz=>ak z _) c4).trans ?_
 rw[ah,aJ (show 0 < ([Vv,MT]:List sj).length from kQ 1),aj];refine(cf (λz=>ak z _) c5).trans ?_
 rw[ah,aj];refine(cf (λz=>ak z _) c6).trans ?_
 rw[ah,aj];refine(cf (λz=>ak z _) c7).trans ?_
 rw[ah,aj];refine(cf (λz=>ak z _) c8).trans ?_
 rw[ah,aj];refine(cf (λz=>ak z _) c9).trans ?_
 rw[ah];have n1:(nth jC [t2] 0).2.1=[(17260,(yp,()))]:=l2;simp only[a5,d5,l1,n1,aI,aU];rw[c10,c11,c12,c13];rfl
theorem ags:fO.RS:=rE [] fO
def alp:=fO.dZ alo
end
end
def aMg(o:fA):Prop:=o.1.length=32/\∀x∈o.1,0<=x/\x < 256
theorem Ex{β:Type}{kt:Ty}(hc:kt.comp=aS){x:kt.den}{v:β}:∀ {l:List (kt.den×β)},x ∉ l.map (·.1)->jq kt x v l=l++ [(x,v)]
 |[],_=>rfl
 |p::l,h=>by
  rw[B6];have h1:¬kt.beq x p.1=aS:=λe=>h (by rw[beq_eq kt _ _ hc e];simp)
  rw[if_neg h1,Ex hc λe=>h (by simp[e])];rfl
theorem kb:eD.comp=aS:=rfl
def Dw(l:List (fA×pF)):Int:=(l.map λp=>p.2.1.1).sum
theorem sD(p:fA×pF)(l:List (fA×pF)):Dw (p::l)=p.2.1.1+Dw l:=by simp[Dw]
theorem aco(l l':List (fA×pF)):Dw (l++l')=Dw l+Dw l':=by simp[Dw]
theorem aoA{l l':List (fA×pF)}(h:l.Perm l'):Dw l=Dw l':=by
 induction h with
 |nil=>rfl
 |cons x _ ih=>rw[sD,sD,ih]
 |swap x y l=>rw[sD,sD,sD,sD];omega
 |trans _ _ h1 h2=>rw[h1,h2]
abbrev Mo:=jI×Nat×Nat×Int×Int×Int×(List wS)
abbrev Xh:=(List wS)×(List wS)
def ada:Mo->Xh->((jI×Int)×((List wS)×(List wS))):=λ(aGa,lL,asJ,t11,t12,n2,n9) y=>((aGa,n2),y)
def aJS(l:Lk):Prop:=l.1.length<=1000/\∀b∈l.1,b.1.length<=1000000
def ac9:Mo->Prop:=λ(_,n,m,t,i,_,l)=>(l.length<=1000/\∀b∈l,b.1.length<=1000000)/\∃k:Nat,k<=l.length/\i=k/\n=l.length/\m=l.length/\t=l.length
def aph:Mo->Xh:=λ(_,_,_,_,_,_,l)=>(l,l)
def auu:jI->Prop:=λo=>aJS o.2.1
def aib:jI->jI:=λo=>o
def tl:Ls ac9 ada aph:=oa (λ(aGa,lL,asJ,t11,t12,n2,n9)=>⟨([bX,.dN jE aGa,fc 2,kZ 9 lL]++aW 6 ([kZ 9 asJ,.d ti t11,.d ti t12]++aW 17 [])),[],([[],[],di (.pr (.d ti n2) (.pr (.pr (.cX) Ma) Ma))]++bR 6 ([di (.vec 181 qo n9)]++bR 20 []))⟩) (λx=>(.exit 0,⟨([bX,.dN jE x.1.1,fc 2,.d (.slice qo) x.2.1]++aW 26 []),[],([[],[],di (.pr (.d ti x.1.2) (.pr (.pr (.cX) Ma) Ma))]++bR 6 ([[.obj 0 aS (.vec 181 qo x.2.2)]]++bR 20 []))⟩))
def PQ:Fs Tryz.prog auu bk aib:=dV 82 Tryz.f82 (λo=>([.d jE o],[])) (λx=>⟨.d jE x,[],[]⟩) [av jE] [Zc,F8] {loops:=mM [(3,{aX:=[1,2,3,10,11,12],sites:=[2,9]})],outs:=mL [(3,{aX:=[1,2,3],sites:=[2,9],data:=[(3,(.slice qo))]},{aX:=[2]})],fo:=oR [(3,tl.E)],res:=[av jE]}
theorem adb:tl.RS:=rL [.d jE,.n,.n,.d ti,.d ti,.d ti,.d (.slice qo)] tl
theorem JE(aGa lL asJ t11 t12 n2 n9)(kn:K2 R)(kx:K3 R):PQ.R 0 tl (aGa,lL,asJ,t11,t12,n2,n9) kn kx=aG (fG t12 t11) (aG (dr t12 ((asJ:Nat):Int)) (aG (decide ((0+(ab t12)) < (ae n9))) (aG (decide ((((0+(ab t12))*4)+0)=(0+((ab t12)*4)))) (ak (uX.call (nth qo n9 (0+(ab t12))).1) λx1=>aG (dr t12 ((lL:Nat):Int)) (aG (decide ((0+(ab t12)) < (ae n9))) (aG (decide ((((0+(ab t12))*4)+0)=((0+((ab t12)*4))+0))) (aG (decide ((0+(ab t12)) < (ae n9))) (kn (tl.st (aGa,lL,asJ,t11,(bl .i64 t12 1),n2,(df n9 (0+(ab t12)) (x1,(nth qo n9 (0+(ab t12))).2))))) aF) aF) aF) aF) aF) aF) aF) (aG (decide (0=0/\(0+lL)<=(ae n9))) (tl.go kx ((aGa,n2),((cut n9 0 lL),n9))) aF):=cq
theorem aAJ(o)(k:K1 R):PQ.A o k=ak (Rd.call o.2.1.1) λx1=>ak (tl.call (o,x1.1,x1.1,((x1.1:Nat):Int),0,0,x1.2)) λx3=>k (PQ.out (x3.1.1.1,((x3.2.1,()),()))):=cq
theorem aic:(PQ.jx 0 tl):=by
 refine(PQ.ky 0 tl) (λ(_,_,_,_,i,_,l)=>l.length - i.toNat) ?_
 rintro⟨o,n,m,t,i,u,l⟩ ⟨⟨hlen,hx⟩,k,hk,rfl,rfl,rfl,rfl⟩;have hlen:l.length<=1000:=hlen;have hk:k<=l.length:=hk;by_cases h:k < l.length
 ·left;have n1:nth qo l k=l[k]:=cK (t:=qo) h;have hs:l.set k l[k]=l:=dX h;have e:=hx _ (List.getElem_mem h);refine⟨(o,l.length,l.length,(l.length:Int),((k+1:Nat):Int),u,l),⟨⟨hlen,hx⟩,k+1,ao,rfl,rfl,rfl,rfl⟩,by simp only[aa];omega,rfl,λkn kx=> ?_⟩;rw[JE,aZ ao,aV ao ao];simp only[aa,Nat.zero_add,cz,aj,aJ h,cP,n1];rw[Cc (d:=l[k].1) e];simp only[ah,bk,EB];rw[N.qt ao];exact cf (λz=>kn (tl.st (_,_,_,_,_,_,z))) hs
 ·right;obtain rfl:k=l.length:=ao;intro R kn kx;rw[JE,aQ ao,al,aJ ao,aj,fb rfl];rfl
theorem aAK:PQ.Ok:=by rintro⟨a,⟨l,u⟩,v⟩ ⟨h1,h2⟩;have h1:l.length<=1000:=h1;rw[aAJ,Rf (d:=l) (by show l.length<=_;omega)];simp only[ah,bk,Re];rw[adb (d:=((a,(l,u),v),l.length,l.length,(l.length:Int),0,0,l)) ⟨⟨h1,h2⟩,0,aO _,rfl,rfl,rfl,rfl⟩];rfl
theorem ade:PQ.RS:=rE [.d jE] PQ
def amE:=PQ.dZ aAK 1 ⟨.fH aic,trivial⟩
abbrev xo:=Int×(List jI)×Int×Int×(List (fA×pF))
def na:xo->AS:=λ(sum,t13,t14,t15,U8)=>⟨([bX,bX,bX,fc 12,.d ti sum]++aW 8 ([.d (.slice jE) t13,.d ti t14,.d ti t15]++aW 35 [])),[],(bR 10 ([di (.mp eD Jc U8),[],di (.pr (.iy (.new 10 0) 0) (.pr (.cX) Ma))]++bR 38 []))⟩
def fa:Unit->Exit×AS:=λx=>(.ret,⟨([bX,bX,.ns]++aW 48 []),[],(ai 51 [])⟩)
abbrev Ol:=(List (fA×pF))
def vR:Ol->Exit×AS:=λx=>(.exit 0,⟨([bX,bX,bX,fc 12]++aW 47 []),[],(bR 10 ([di (.mp eD Jc x),[],di (.pr (.iy (.new 10 0) 0) (.pr (.cX) Ma))]++bR 38 []))⟩)
abbrev HU:=(Unit)⊕(Ol)
abbrev RG:=(Unit)⊕(((List (fA×pF))))
def BB:HU->Out (Exit×AS):=λx=> .br x.isLeft (.get x.getLeft? λa=> .ok (fa a)) (.get x.getRight? λb=> .ok (vR b))
def jT:xo->RG->HU:=λ(sum,t13,t14,t15,U8) y=>match y with | .inl y=> .inl y | .inr z=> .inr (z)
abbrev JQ:=(List jI)
def RI:JQ->SA:=λouts=>([.d (.slice jE) outs],[])
abbrev amS:=(Unit)⊕((List (fA×pF))×(List uS))
abbrev Zy:=(Unit)⊕((List (fA×pF))×(List uS))
def AA:Zy->iJ:=λx=>match x with | .inl x=>⟨.ns,[],[]⟩ | .inr x=>⟨fc 0,[],[ub (.pr (.iy (.new 0 1) 0) (.pr (.dj (.new 0 2) 0 [] 0 0 0) Ma)),ub (.mp eD Jc x.1),ub (.vec 194 uJ x.2)]⟩
def Az:JQ->amS->Zy:=λouts y=>match y with | .inl y=> .inl y | .inr y=> .inr y
def amC(k:Nat)(o:jI):fA×pF:=((ai 32 (0:Int),((k:Int),())),(o,((0:Int),())))
def IB(sum:Int)(o:jI):Bool:=iP o.2.1 && decide (0<=o.1/\o.1<=1125899906842624 - sum)
def aaR(sum:Int)(k:Nat):List jI->Option (List (fA×pF))
 |[]=>av []
 |o::l=>match IB sum o with | true=>(aaR (sum+o.1) (k+1) l).map (amC k o:: ·) | false=>aF
def aCw(outs:List jI):Option (List (fA×pF)):=if outs.length<=256 then aaR 0 0 outs else aF
def aHz(o:jI):Prop:=atb o.2.1/\o.2.1.1.length<=9223372036854775807/\o.1<=9223372036854775807
def vQ:xo->Prop:=λ(sum,outs,n,i,a)=>(∀o∈outs,aHz o)/\outs.length<=256/\0<=sum/\sum<=1125899906842624/\∃k:Nat,k<=outs.length/\i=k/\n=outs.length/\∀p∈a,p.1.2.1 < (k:Int)
def mZ:xo->RG:=λ(sum,outs,_,i,a)=>match aaR sum i.toNat (outs.drop i.toNat) with | none=> .inl () | some r=> .inr (a++r)
def Mq:JQ->Prop:=λouts=>∀o∈outs,aHz o
def JR:JQ->amS:=λouts=>match aCw outs with | none=> .inl () | some r=> .inr (r,[])
def Zw:sa:=oP (P:=Tryz.prog) [wV,amE]
def RF:=eb.fH na vQ jT mZ BB
def GU:xo->Option HU:=kD RF na
def RH:A4:= {bH:=[12],loops:=mM [(5,{aX:=[3,4,13,14,15],sites:=[10,12]})],outs:=mL [(5,{aX:=[3],sites:=[10,12]},{aX:=[2]})],fo:=oR [(5,RF)],owns:=[⟨2,[.snd,.fst],0,144⟩]}
def amQ:= @acf Tryz.prog Zw RH 0 Tryz.f33 _ RI
abbrev auW:=aAk @amQ Mq Az JR AA
def HT:= @gk Tryz.prog Zw RH 0 Tryz.f33 0 _ na
abbrev Oj:=qq Tryz.prog Zw RH 0 Tryz.f33 0 na vQ jT mZ BB
theorem Zx:mR GU vQ jT mZ:=sV (sJ [.d ti,.d (.slice jE),.d ti,.d ti,.d (.slice (.pair eD Jc))] λ_=>cq)
theorem JS:uR @HT na vQ jT mZ BB Oj:=vA
theorem GV(sum t13 t14 t15 U8)(kn:K2 R)(kx:K3 R):HT (sum,t13,t14,t15,U8) kn kx=aG (fG t15 t14) (aG (dr t15 (((ae t13):Nat):Int)) (ak (lT.call (nth jE t13 (ab t15)).2.1) λx1=>aG (!x1) (kx (fa ()).1 (fa ()).2) (aG (fG (nth jE t13 (ab t15)).1 (0:Int)) (kx (fa ()).1 (fa ()).2) (aG (vh (nth jE t13 (ab t15)).1 (bA .i64 (1125899906842624:Int) sum)) (kx (fa ()).1 (fa ()).2) (ak (PQ.call (nth jE t13 (ab t15))) λx2=>kn (na ((bl .i64 sum (nth jE t13 (ab t15)).1),t13,t14,(bl .i64 t15 (1:Int)),(jq eD ((ai 32 (0:Int)),(t15,())) (x2,((0:Int),())) U8))))))) aF) (kx (vR U8).1 (vR U8).2):=cq
theorem auX(outs)(k:K1 R):amQ outs k=aG (vh (((ae outs):Nat):Int) (256:Int)) (k (AA (.inl ()))) (ak (GU ((0:Int),outs,(((ae outs):Nat):Int),(0:Int),([]:List (fA×pF)))) λx3=>aG x3.isLeft (ak x3.getLeft? λa4=>k (AA (.inl ()))) (ak x3.getRight? λb5=>k (AA (.inr (b5,([]:List uS)))))):=cq
theorem adn:Oj:=by
 refine JS (λ(_,outs,_,i,_)=>outs.length - i.toNat) ?_
 rintro⟨sum,outs,n,i,a⟩ ⟨hg,hl,h0,h1,k,hk,rfl,rfl,hf⟩;have h0:0<=sum:=h0;have h1:sum<=1125899906842624:=h1;have hl:outs.length<=256:=hl;have hk:k<=outs.length:=hk;by_cases h:k < outs.length
 ·obtain⟨g1,g2,g3⟩:=hg _ (List.getElem_mem h);have n1:nth jE outs k=outs[k]:=cK (t:=jE) h;have hd:outs.drop k=outs[k]::outs.drop (k+1):=aD h
  have hs:∀ {R:Type} (kn:AS->Option R) (kx:Exit->AS->Option R),HT (sum,outs,(outs.length:Int),(k:Int),a) kn kx=
    aG (!(iP outs[k].2.1)) (kx (fa ()).1 (fa ()).2) (aG (fG outs[k].1 0) (kx (fa ()).1 (fa ()).2) (aG (vh outs[k].1 (1125899906842624 - sum)) (kx (fa ()).1 (fa ()).2)
     (ak (PQ.call outs[k]) λx2=>kn (na ((bl .i64 sum outs[k].1),outs,(outs.length:Int),(bl .i64 (k:Int) (1:Int)),(jq eD ((ai 32 (0:Int)),((k:Int),())) (x2,((0:Int),())) a)))))):=λkn kx=>by
   rw[GV,aZ ao,aj,aV ao ao,aj,aa,n1,sN (d:=outs[k].2.1) ⟨g1,g2⟩,dL ao ao];rfl
  by_cases gK:IB sum outs[k]=aS
  ·left;have hok':=gK;unfold IB at hok';simp only[au,aP]at hok';obtain⟨k1,k2,k3⟩:=hok';have avG:=M4 k1;refine⟨(sum+outs[k].1,outs,(outs.length:Int),((k+1:Nat):Int),a++ [amC k outs[k]]),⟨hg,hl,by show 0<=sum+outs[k].1;omega,by show sum+outs[k].1<=_;omega,k+1,ao,rfl,rfl,λp hp=> ?_⟩,by simp only[aa];omega,?_,λkn kx=> ?_⟩
   ·rcases bt.1 hp with hp | hp
    ·have:=hf p hp;omega
    ·rw[List.mem_singleton.1 hp];show(k:Int) < _;omega
   ·simp only[jT,mZ,aa,hd,aaR,gK];cases aaR (sum+outs[k].1) (k+1) (outs.drop (k+1)) with
    |none=>rfl
    |some r=>simp only[da,bh,dp]
   ·rw[hs,k1,bm,al,aQ ao,al,cJ ao,al,ade (d:=outs[k]) ⟨ao,λb hb=>by have:=avG.2 b hb;omega⟩];simp only[ah,bk,aib];rw[cQ ao ao,N.qt ao,Ex kb]
    ·rfl
    ·intro hm;obtain⟨p,hp,he⟩:=cT.1 hm;have:=hf p hp;have he:p.1=_:=he;rw[he]at this;have this:(k:Int) < k:=this;omega
  ·right;have aBp:IB sum outs[k]=bq:=by simpa using gK
   refine⟨fa (),?_,λkn kx=> ?_⟩;rotate_left
   ·rw[hs];unfold IB at aBp;cases k1:iP outs[k].2.1 with
    |false=>rw[dy,aj]
    |true=>
     rw[k1]at aBp;simp only[bD,decide_eq_false_iff_not]at aBp;rw[bm,al];by_cases k2:outs[k].1 < 0
     ·rw[aZ k2,aj]
     ·rw[aQ k2,al,dw ao,aj]
   ·simp only[jT,mZ,aa,hd,aaR,aBp];rfl
 ·right;obtain rfl:k=outs.length:=ao;refine⟨vR a,?_,λkn kx=> ?_⟩;rotate_left
  ·rw[GV,aQ ao,al]
  ·simp only[jT,mZ,aa,bj,aaR,bW];rfl
theorem auY:auW:=by
 intro outs hg;rw[auX];simp only[Az,JR,aCw];by_cases h:outs.length<=256
 ·rw[cJ ao,al,Zx (d:=(0,outs,(outs.length:Int),0,[])) ⟨hg,h,fg,fg,0,aO _,rfl,rfl,λp hp=>by cases hp⟩,if_pos h];simp only[ah,jT,mZ,bg,aL];cases aaR 0 0 outs with
  |none=>rfl
  |some r=>rfl
 ·rw[dw ao,aj,if_neg h]
def amR:=Entry.axq [av (.slice jE)] RI Mq Az JR AA
def HV:JQ->Option Zy:=amw amR RI
theorem apw:mR HV Mq Az JR:=aEv (aFO [.d (.slice jE)] λ_=>cq)
def auZ:SG Tryz.prog:=⟨33,Jk,amR,.of (.aLs (.fn 1 cq auY (And.intro (.fH adn cq) trivial))) (by rfl)⟩
def aJk(c:pF):Prop:=iP c.1.2.1=aS/\atb c.1.2.1/\0<=c.1.1/\c.1.1<=1125899906842624/\0<=c.2.1/\c.2.1<=1048576
def att(a:List (fA×pF)):Prop:=(a.map (·.1)).Nodup/\∀p∈a,aMg p.1/\aJk p.2
theorem att.get{a:List (fA×pF)}(h:att a){o:fA}{c:pF}(hg:dq eD o a=av c):aJk c:=(h.2 _ ((kW kb h.1).1 hg)).2
def az4:pF:=((0,(([],()),())),(0,()))
theorem aJk.own{c:pF}(h:aJk c):aJS c.1.2.1:=by have:=M4 h.1;exact⟨ao,λb hb=>by have:=this.2 b hb;omega⟩
abbrev xl:=Int×gf×Int×(List kG)×Int×Int×Nat×(List (fA×pF))×(List uS)×Bs
def mX:xl->AS:=λ(dh,Gi,mq,t35,t36,t37,o0L,oc,yG,n8)=>⟨([.ptr (.cl 0) 0 [] 0,bX,.d ti dh,bX,.dN jC Gi,bX,bX,bX,fc 8,.d ti mq]++aW 25 ([.d (.slice iB) t35,.d ti t36,.d ti t37]++aW 69 [])),[ub (.pr (.iy (.cl 1) 0) (.pr (.dj (.cl 2) 0 [] 0 0 o0L) Ma)),ub (.mp eD Jc oc),ub (.vec 194 uJ yG)],(bR 8 ([di (.d tH n8)]++bR 98 []))⟩
abbrev Oc:=(Nat×(List (fA×pF))×(List uS))×(Int)
def iM:Oc->Exit×AS:=λ((a,b,c),e)=>(.ret,⟨(aW 6 ([.d ti (0:Int),.d ti e]++aW 99 [])),[ub (.pr (.iy (.cl 1) 0) (.pr (.dj (.cl 2) 0 [] 0 0 a) Ma)),ub (.mp eD Jc b),ub (.vec 194 uJ c)],(ai 107 [])⟩)
abbrev Od:=(gf×Nat×(List (fA×pF))×(List uS))×(Int)
def vK:Od->Exit×AS:=λ((a,b,c,e),f)=>(.exit 0,⟨([.ptr (.cl 0) 0 [] 0,bX,bX,bX,.dN jC a]++aW 4 ([.d ti f]++aW 97 [])),[ub (.pr (.iy (.cl 1) 0) (.pr (.dj (.cl 2) 0 [] 0 0 b) Ma)),ub (.mp eD Jc c),ub (.vec 194 uJ e)],(ai 107 [])⟩)
abbrev HQ:=(Oc)⊕(Od)
abbrev RA:=(Int)⊕(Int)
def By:HQ->Out (Exit×AS):=λx=> .br x.isLeft (.get x.getLeft? λa=> .ok (iM a)) (.get x.getRight? λb=> .ok (vK b))
def iL:xl->RA->HQ:=λ(dh,Gi,mq,t35,t36,t37,o0L,oc,yG,n8) y=>match y with | .inl y=> .inl ((o0L,oc,yG),y) | .inr z=> .inr (((Gi,o0L,oc,yG),z))
abbrev xm:=gf×Int×(List fA)×Int×Int×Nat×(List (fA×pF))×(List uS)
def qb:xm->AS:=λ(QG,Oq,t75,t76,t77,qj,AT,AU)=>⟨([.ptr (.cl 0) 0 [] 0,bX,bX,bX,.dN jC QG]++aW 4 ([.d ti Oq]++aW 65 ([.d (.slice eD) t75,.d ti t76,.d ti t77]++aW 29 []))),[ub (.pr (.iy (.cl 1) 0) (.pr (.dj (.cl 2) 0 [] 0 0 qj) Ma)),ub (.mp eD Jc AT),ub (.vec 194 uJ AU)],(ai 107 [])⟩
abbrev Of:=Nat×(List (fA×pF))×(List uS)
def vN:Of->Exit×AS:=λ(a,b,c)=>(.ret,⟨(aW 6 ([.d ti (0:Int),.d ti (4:Int)]++aW 99 [])),[ub (.pr (.iy (.cl 1) 0) (.pr (.dj (.cl 2) 0 [] 0 0 a) Ma)),ub (.mp eD Jc b),ub (.vec 194 uJ c)],(ai 107 [])⟩)
abbrev Og:=gf×Int×Nat×(List (fA×pF))×(List uS)
def vO:Og->Exit×AS:=λ(a,b,c,e,f)=>(.exit 2,⟨(aW 4 ([.dN jC a]++aW 4 ([.d ti b]++aW 97 []))),[ub (.pr (.iy (.cl 1) 0) (.pr (.dj (.cl 2) 0 [] 0 0 c) Ma)),ub (.mp eD Jc e),ub (.vec 194 uJ f)],(ai 107 [])⟩)
abbrev HR:=(Of)⊕(Og)
abbrev RD:=(Unit)⊕(Unit)
def Bz:HR->Out (Exit×AS):=λx=> .br x.isLeft (.get x.getLeft? λa=> .ok (vN a)) (.get x.getRight? λb=> .ok (vO b))
def jS:xm->RD->HR:=λ(QG,Oq,t75,t76,t77,qj,AT,AU) y=>match y with | .inl y=> .inl (qj,AT,AU) | .inr z=> .inr ((QG,Oq,qj,AT,AU))
abbrev HS:=Int×(List jI)×Int×Int×Nat×(List (fA×pF))×(List uS)
def vP:HS->Int->((Nat×(List (fA×pF))×(List uS))×(Int)):=λ(Xt,t93,t94,t95,Tg,ajS,ajT) y=>((Tg,ajS,ajT),y)
abbrev amO:=gf×Int×Nat×(List (fA×pF))×(List uS)
def uV(h:Int)(id:List Int)(a:List (fA×pF)):List kG->Int->Int⊕Int
 |[],mq=> .inr mq
 |x::l,mq=>match dq eD x.1 a with
  |none=> .inl 5
  |some c=>if za c.1.2.1 x.2.1 id h (h - c.2.1)≠0 then .inl (za c.1.2.1 x.2.1 id h (h - c.2.1)) else uV h id a l (mq+c.1.1)
def po(a:List (fA×pF))(o:fA):Bool:=(dq eD o a).isSome
def km(l:List jI):Int:=(l.map (·.1)).sum
def mU(t:gf)(h:Int)(a:List (fA×pF)):Int×Int:=
 if gA t=aS/\1<=h/\h<=1048576 then
  match uV h (oA t) a t.1 0 with
  | .inl e=>(0,e)
  | .inr mq=>if(eu t).any (po a)=aS then(0,4) else if mq - km t.2.1 < 0 then(0,8) else(mq - km t.2.1,0)
 else(0,1)
def vJ:xl->Prop:=λ(h,_,mq,l,n,i,_,a,_,id)=>(0<=h/\h<=1048576)/\Sm id/\l.length<=64/\(∀x∈l,aLx x)/\att a/\∃k:Nat,k<=l.length/\i=k/\n=l.length/\0<=mq/\mq<=(k:Int)*1125899906842624
def lP:xl->RA:=λ(h,_,mq,l,_,i,_,a,_,id)=>uV h id a (l.drop i.toNat) mq
def vM:xm->Prop:=λ(_,_,l,n,i,_,_,_)=>l.length<=1000/\∃k:Nat,k<=l.length/\i=k/\n=l.length
def mY:xm->RD:=λ(_,_,l,_,i,_,a,_)=>if(l.drop i.toNat).any (po a)=aS then .inl () else .inr ()
def Zs:HS->Prop:=λ(mq,l,n,i,_,_,_)=>l.length<=64/\(∀o∈l,0<=o.1/\o.1<=1125899906842624)/\∃k:Nat,k<=l.length/\i=k/\n=l.length/\ -((k:Int)*1125899906842624)<=mq/\mq<=1000000000000000000
def BA:HS->Int:=λ(mq,l,_,i,_,_,_)=>mq - km (l.drop i.toNat)
def apq:amO->Prop:=λ(t,_,_,a,_)=>A6 t/\att a
def Qc:amO->(Int×Int×Nat×(List (fA×pF))×(List uS)):=λ(t,h,n,a,s)=>((mU t h a).1,(mU t h a).2,n,a,s)
def Rz:=eb.fH mX vJ iL lP By
def GP:xl->Option HQ:=kD Rz mX
def RB:=eb.fH qb vM jS mY Bz
def GQ:xm->Option HR:=kD RB qb
def qM:Ls Zs vP BA:=oa (λ(Xt,t93,t94,t95,Tg,ajS,ajT)=>⟨(aW 9 ([.d ti Xt]++aW 83 ([.d (.slice jE) t93,.d ti t94,.d ti t95]++aW 11 []))),[ub (.pr (.iy (.cl 1) 0) (.pr (.dj (.cl 2) 0 [] 0 0 Tg) Ma)),ub (.mp eD Jc ajS),ub (.vec 194 uJ ajT)],(ai 107 [])⟩) (λx=>(.exit 4,⟨(aW 9 ([.d ti x.2]++aW 97 [])),[ub (.pr (.iy (.cl 1) 0) (.pr (.dj (.cl 2) 0 [] 0 0 x.1.1) Ma)),ub (.mp eD Jc x.1.2.1),ub (.vec 194 uJ x.1.2.2)],(ai 107 [])⟩))
def mc:Fs Tryz.prog apq bk Qc:=dV 18 Tryz.f18 (λ(t,height,o0baL,o1,o2)=>([.ptr (.cl 0) 0 [] 0,.d jC t,.d ti height],[.obj 0 bq (.pr (.iy (.cl 1) 0) (.pr (.dj (.cl 2) 0 [] 0 0 o0baL) (.d .unit ()))),.obj 0 bq (.mp eD Jc o1),.obj 0 bq (.vec 194 uJ o2)])) (λx=>⟨.cons (.d ti x.1) (.cons (.d ti x.2.1) (.nil)),[.obj 0 bq (.pr (.iy (.cl 1) 0) (.pr (.dj (.cl 2) 0 [] 0 0 x.2.2.1) (.d .unit ()))),.obj 0 bq (.mp eD Jc x.2.2.2.1),.obj 0 bq (.vec 194 uJ x.2.2.2.2)],[]⟩) [aF,av jC,av ti] [w7,NR,axf,UN] {loops:=mM [(5,{aX:=[0,2,4,8,9,35,36,37],sites:=[8]}),(16,{aX:=[0,4,9,75,76,77]}),(23,{aX:=[9,93,94,95]})],outs:=mL [(5,{aX:=[0,4,9]},{aX:=[6,7]}),(16,{aX:=[4,9]},{aX:=[6,7]}),(23,{aX:=[9]},{aX:=[6,7]})],fo:=oR [(5,Rz),(16,RB),(23,qM.E)]}
def HP:= @gk Tryz.prog (oP mc.G) mc.an 0 Tryz.f18 0 _ mX
abbrev Ob:=qq Tryz.prog (oP mc.G) mc.an 0 Tryz.f18 0 mX vJ iL lP By
def RC:= @gk Tryz.prog (oP mc.G) mc.an 0 Tryz.f18 1 _ qb
abbrev Oe:=qq Tryz.prog (oP mc.G) mc.an 0 Tryz.f18 1 qb vM jS mY Bz
theorem Zq:mR GP vJ iL lP:=sV (sJ [.d ti,.d jC,.d ti,.d (.slice iB),.d ti,.d ti,.n,.d (.slice (.pair eD Jc)),.d (.slice uJ),.d tB] λ_=>cq)
theorem JN:uR @HP mX vJ iL lP By Ob:=vA
theorem zJ(dh Gi mq t35 t36 t37 o0L oc yG n8)(kn:K2 R)(kx:K3 R):HP (dh,Gi,mq,t35,t36,t37,o0L,oc,yG,n8) kn kx=aG (fG t37 t36) (aG (dr t37 (((ae t35):Nat):Int)) (aG (!(dq eD (nth iB t35 (ab t37)).1 oc).isSome) (kx (iM ((o0L,oc,yG),(5:Int))).1 (iM ((o0L,oc,yG),(5:Int))).2) (ak (lq.call (((dq eD (nth iB t35 (ab t37)).1 oc).getD (((0:Int),((([]:List wS),()),())),((0:Int),()))).1.2.1,(nth iB t35 (ab t37)).2.1,n8,dh,(bA .i64 dh ((dq eD (nth iB t35 (ab t37)).1 oc).getD (((0:Int),((([]:List wS),()),())),((0:Int),()))).2.1))) λx1=>aG (yV x1 (0:Int)) (kx (iM ((o0L,oc,yG),x1)).1 (iM ((o0L,oc,yG),x1)).2) (kn (mX (dh,Gi,(bl .i64 mq ((dq eD (nth iB t35 (ab t37)).1 oc).getD (((0:Int),((([]:List wS),()),())),((0:Int),()))).1.1),t35,t36,(bl .i64 t37 (1:Int)),o0L,oc,yG,n8))))) aF) (kx (vK ((Gi,o0L,oc,yG),mq)).1 (vK ((Gi,o0L,oc,yG),mq)).2):=cq
theorem Zr:mR GQ vM jS mY:=sV (sJ [.d jC,.d ti,.d (.slice eD),.d ti,.d ti,.n,.d (.slice (.pair eD Jc)),.d (.slice uJ)] λ_=>cq)
theorem JO:uR @RC qb vM jS mY Bz Oe:=vA
theorem zK(QG Oq t75 t76 t77 qj AT AU)(kn:K2 R)(kx:K3 R):RC (QG,Oq,t75,t76,t77,qj,AT,AU) kn kx=aG (fG t77 t76) (aG (dr t77 (((ae t75):Nat):Int)) (aG ((dq eD (nth eD t75 (ab t77)) AT).isSome) (kx (vN (qj,AT,AU)).1 (vN (qj,AT,AU)).2) (kn (qb (QG,Oq,t75,t76,(bl .i64 t77 (1:Int)),qj,AT,AU)))) aF) (kx (vO (QG,Oq,qj,AT,AU)).1 (vO (QG,Oq,qj,AT,AU)).2):=cq
theorem Zt:qM.RS:=rL [.d ti,.d (.slice jE),.d ti,.d ti,.n,.d (.slice (.pair eD Jc)),.d (.slice uJ)] qM
theorem GR(Xt t93 t94 t95 Tg ajS ajT)(kn:K2 R)(kx:K3 R):mc.R 2 qM (Xt,t93,t94,t95,Tg,ajS,ajT) kn kx=aG (fG t95 t94) (aG (dr t95 (t93.length:Int)) (kn (qM.st ((bA .i64 Xt (nth jE t93 (ab t95)).1),t93,t94,(bl .i64 t95 1),Tg,ajS,ajT))) aF) (qM.go kx ((Tg,ajS,ajT),Xt)):=cq
theorem auO(t height o0baL o1 o2)(k:K1 R):mc.A (t,height,o0baL,o1,o2) k=ak (iq.call t) λx1=>aG (!x1) (k (mc.out (0,1,o0baL,o1,o2))) (aG (fG height 1) (k (mc.out (0,1,o0baL,o1,o2))) (aG (vh height 1048576) (k (mc.out (0,1,o0baL,o1,o2))) (ak (tid.call t) λx2=>ak (GP (height,t,0,t.1,(t.1.length:Int),0,o0baL,o1,o2,x2)) λx4=>aG x4.isLeft (ak x4.getLeft? λa5=>k (mc.out (0,a5.2,a5.1.1,a5.1.2.1,a5.1.2.2))) (ak x4.getRight? λb6=>ak (zy.call b6.1.1) λx7=>ak (GQ (b6.1.1,b6.2,x7,(x7.length:Int),0,b6.1.2.1,b6.1.2.2.1,b6.1.2.2.2)) λx8=>aG x8.isLeft (ak x8.getLeft? λa9=>k (mc.out (0,4,a9.1,a9.2.1,a9.2.2))) (ak x8.getRight? λb10=>ak (qM.call (b10.2.1,b10.1.2.1,(b10.1.2.1.length:Int),0,b10.2.2.1,b10.2.2.2.1,b10.2.2.2.2)) λQK=>aG (fG QK.2 0) (k (mc.out (0,8,QK.1.1,QK.1.2.1,QK.1.2.2))) (k (mc.out (QK.2,0,QK.1.1,QK.1.2.1,QK.1.2.2)))))))):=cq
theorem adj:Ob:=by
 refine JN (λ(_,_,_,l,_,i,_,_,_,_)=>l.length - i.toNat) ?_
 rintro⟨h,t,mq,l,n,i,o,a,s,id⟩ ⟨⟨aKi,aKj⟩,cR,hl,hu,ha,k,hk,rfl,rfl,aIe,aIf⟩;have aKi:0<=h:=aKi;have aKj:h<=1048576:=aKj;have hl:l.length<=64:=hl;have aIe:0<=mq:=aIe;have aIf:mq<=(k:Int)*1125899906842624:=aIf;have hk:k<=l.length:=hk;by_cases iI:k < l.length
 ·have hx:=hu _ (List.getElem_mem iI);have n1:nth iB l k=l[k]:=cK (t:=iB) iI;have hd:l.drop k=l[k]::l.drop (k+1):=aD iI;cases hg:dq eD l[k].1 a with
  |none=>
   right;refine⟨iM ((o,a,s),5),?_,λkn kx=> ?_⟩;rotate_left
   ·rw[zJ,aZ ao,aj,aV ao ao,aj,aa,n1,hg];simp only[Option.isSome_none,dy,aj]
   ·simp only[iL,lP,aa,hd,uV,hg];rfl
  |some c=>
   have hc:=ha.get hg;obtain⟨c1,c2,c3,c4,c5,c6⟩:=hc
   have pO:∀ {R:Type} (kn:AS->Option R) (kx:Exit->AS->Option R),HP (h,t,mq,l,(l.length:Int),(k:Int),o,a,s,id) kn kx=
     aG (yV (za c.1.2.1 l[k].2.1 id h (h - c.2.1)) 0) (kx (iM ((o,a,s),za c.1.2.1 l[k].2.1 id h (h - c.2.1))).1 (iM ((o,a,s),za c.1.2.1 l[k].2.1 id h (h - c.2.1))).2)
      (kn (mX (h,t,mq+c.1.1,l,(l.length:Int),((k+1:Nat):Int),o,a,s,id))):=λkn kx=>by
    rw[zJ,aZ ao,aj,aV ao ao,aj,aa,n1,hg];simp only[Option.isSome_some,bm,al,dE];rw[dL ao ao,aqR (d:=(c.1.2.1,l[k].2.1,id,h,h - c.2.1)) ⟨c2,by have:=M4 c1;omega,hx.2.1,cR⟩];simp only[ah,bk,aaA];rw[cQ ao ao,N.qt ao]
   by_cases he:za c.1.2.1 l[k].2.1 id h (h - c.2.1)=0
   ·left;refine⟨(h,t,mq+c.1.1,l,(l.length:Int),((k+1:Nat):Int),o,a,s,id),⟨⟨aKi,aKj⟩,cR,hl,hu,ha,k+1,ao,rfl,rfl,by show 0<=mq+c.1.1;omega,by show mq+c.1.1<=_;omega⟩,by simp only[aa];omega,?_,λkn kx=> ?_⟩
    ·simp only[iL,lP,aa,hd,uV,hg,he,ne_eq,not_true_eq_false,bz]
    ·rw[pO,ez he,al]
   ·right;refine⟨iM ((o,a,s),za c.1.2.1 l[k].2.1 id h (h - c.2.1)),?_,λkn kx=> ?_⟩;rotate_left
    ·rw[pO,gH he,aj]
    ·simp only[iL,lP,aa,hd,uV,hg];rw[if_pos he];rfl
 ·right;obtain rfl:k=l.length:=ao;refine⟨vK ((t,o,a,s),mq),?_,λkn kx=> ?_⟩;rotate_left
  ·rw[zJ,aQ ao,al]
  ·simp only[iL,lP,aa,bj,uV];rfl
theorem adk:Oe:=by
 refine JO (λ(_,_,l,_,i,_,_,_)=>l.length - i.toNat) ?_
 rintro⟨t,mq,l,n,i,o,a,s⟩ ⟨hl,k,hk,rfl,rfl⟩;have hl:l.length<=1000:=hl;have hk:k<=l.length:=hk;by_cases iI:k < l.length
 ·have n1:nth eD l k=l[k]:=cK (t:=eD) iI;have hd:l.drop k=l[k]::l.drop (k+1):=aD iI;cases hg:(dq eD l[k] a).isSome with
  |true=>
   right;refine⟨vN (o,a,s),?_,λkn kx=> ?_⟩;rotate_left
   ·rw[zK,aZ ao,aj,aV ao ao,aj,aa,n1,hg,aj]
   ·simp only[jS,mY,aa,hd,mm,po,hg,Bool.true_or,bG];rfl
  |false=>
   left;refine⟨(t,mq,l,(l.length:Int),((k+1:Nat):Int),o,a,s),⟨hl,k+1,ao,rfl,rfl⟩,by simp only[aa];omega,?_,λkn kx=> ?_⟩
   ·simp only[jS,mY,aa,hd,mm,po,hg,Bool.false_or]
   ·rw[zK,aZ ao,aj,aV ao ao,aj,aa,n1,hg,al,N.qt ao]
 ·right;obtain rfl:k=l.length:=ao;refine⟨vO (t,mq,o,a,s),?_,λkn kx=> ?_⟩;rotate_left
  ·rw[zK,aQ ao,al]
  ·simp only[jS,mY,aa,bj,List.any_nil,bJ,bz];rfl
theorem adl:(mc.jx 2 qM):=by
 refine(mc.ky 2 qM) (λ(_,l,_,i,_,_,_)=>l.length - i.toNat) ?_
 rintro⟨mq,l,n,i,o,a,s⟩ ⟨hl,ho,k,hk,rfl,rfl,aIe,aIf⟩;have hl:l.length<=64:=hl;have hk:k<=l.length:=hk;have aIe: -((k:Int)*1125899906842624)<=mq:=aIe;have aIf:mq<=1000000000000000000:=aIf;by_cases iI:k < l.length
 ·left;have n1:nth jE l k=l[k]:=cK (t:=jE) iI;have hd:l.drop k=l[k]::l.drop (k+1):=aD iI;have hx:=ho _ (List.getElem_mem iI);refine⟨(mq - l[k].1,l,(l.length:Int),((k+1:Nat):Int),o,a,s),⟨hl,ho,k+1,ao,rfl,rfl,by show _<=mq - l[k].1;omega,by show mq - l[k].1<=_;omega⟩,by simp only[aa];omega,?_,λkn kx=> ?_⟩
  ·simp only[vP,BA,aa,hd,km,bE,List.sum_cons];rw[Int.sub_sub]
  ·rw[GR,aZ ao,aj,aV ao ao,aj,aa,n1,dL ao ao,N.qt ao]
 ·right;obtain rfl:k=l.length:=ao;intro R kn kx;rw[GR,aQ ao,al];simp only[vP,BA,aa,bj,km,fv,List.sum_nil,nL]
theorem wW{t:gf}(h:gA t=aS):(eu t).length=t.2.1.length:=by unfold eu;rw[if_pos h];simp[qi]
theorem So{h:Int}{id:List Int}{a:List (fA×pF)}(ha:att a):∀(l:List kG) (mq f:Int),uV h id a l mq= .inr f->mq<=f/\f<=mq+(l.length:Int)*1125899906842624
 |[],mq,f,e=>by simp only[uV,Sum.inr.injEq]at e;subst e;simp
 |x::l,mq,f,e=>by
  simp only[uV]at e;cases hg:dq eD x.1 a with
  |none=>rw[hg]at e;cases e
  |some c=>
   rw[hg]at e;simp only at e;split at e
   ·cases e
   ·have hc:=ha.get hg;have:=So ha l _ _ e;obtain⟨_,_,c3,c4,_⟩:=hc;rw[aI];omega
theorem auP:mc.Ok:=by
 rintro⟨t,h,n,a,s⟩ ⟨hv,ha⟩;have hv:A6 t:=hv;have ha:att a:=ha;rw[auO,td (d:=t) hv.1];simp only[ah,bk,uM,bk,Qc,mU];by_cases gK:gA t=aS
 ·rw[gK,bm,al];obtain⟨⟨_,a2,a3,_⟩,b1,b2⟩:=pY gK;by_cases h1:1<=h
  ·rw[aQ ao,al];by_cases h2:h<=1048576
   ·rw[cJ ao,al,if_pos ⟨rfl,h1,h2⟩,CF (d:=t) hv];simp only[ah,bk,agX];rw[Zq (d:=(h,t,0,t.1,(t.1.length:Int),0,n,a,s,oA t)) ⟨⟨by show 0<=h;omega,h2⟩,UX,a2,hv.2.1,ha,0,aO _,rfl,rfl,fg,fg⟩];simp only[ah,iL,lP,bg,aL];cases hi:uV h (oA t) a t.1 0 with
    |inl e=>
     simp only[mS,aj,kS,ah]
    |inr mq=>
     have hb:=So ha _ _ _ hi;simp only[fk,al,ej,ah];rw[NS (d:=t) hv];simp only[ah,bk,QJ];rw[Zr (d:=(t,mq,eu t,((eu t).length:Int),0,n,a,s)) ⟨by rw[wW gK];omega,0,aO _,rfl,rfl⟩];simp only[ah,jS,mY,bg,aL];by_cases hm:(eu t).any (po a)=aS
     ·rw[if_pos hm];simp only[mS,aj,kS,ah,bG,hm]
     ·rw[if_neg hm];simp only[fk,al,ej,ah];rw[Zt (d:=(mq,t.2.1,(t.2.1.length:Int),0,n,a,s)) ⟨a3,λo ho=>(pU _ _ b2 o ho).1,0,aO _,rfl,rfl,by show -((0:Int)*_)<=mq;omega,by show mq<=_;omega⟩];simp only[ah,vP,BA,bg,aL];rw[if_neg hm];by_cases hf:mq - km t.2.1 < 0
      ·rw[aZ hf,aj,if_pos hf]
      ·rw[aQ hf,al,if_neg hf]
   ·rw[dw ao,aj,if_neg (λe=>h2 e.2.2)]
  ·rw[aZ ao,aj,if_neg (λe=>h1 e.2.1)]
 ·have hok':gA t=bq:=by simpa using gK
  rw[hok',dy,aj,if_neg (λe=>by cases e.1)]
theorem Xl:mc.RS:=rE [.d jC,.d ti,.n,.d (.slice (.pair eD Jc)),.d (.slice uJ)] mc
def adm:=mc.dZ auP 3 ⟨.fH adj,⟨.fH adk,⟨.fH adl,trivial⟩⟩⟩
def PR(l:List fA)(a:List (fA×pF)):List (fA×pF):=l.foldl (λm o=>kV eD o m) a
abbrev xj:=Int×gf×(List fA)×Int×Int×Nat×(List (fA×pF))×(List uS)×Nat×((List fA)×Unit)×(List aAm)
def p9:xj->AS:=λ(dh,Gi,t28,t29,t30,o0L,oc,yG,X8,n9,aEn)=>⟨([.ptr (.cl 0) 0 [] 0,bX,.d ti dh,bX,.dN jC Gi]++aW 4 ([fc 9]++aW 18 ([.d (.slice eD) t28,.d ti t29,.d ti t30]++aW 54 []))),[ub (.pr (.iy (.cl 1) 0) (.pr (.dj (.cl 2) 0 [] 0 0 o0L) Ma)),ub (.mp eD Jc oc),ub (.vec 194 uJ yG)],(bR 9 ([di (.pr (kZ 45 X8) (.d (.pair (.slice eD) .unit) n9))]++bR 35 ([di (.vec 196 aGE aEn)]++bR 39 [])))⟩
abbrev yL:=(Int×gf×Nat×(List uS)×((List fA)×Unit))×((List (fA×pF))×Nat×(List aAm))
def vG:yL->Exit×AS:=λ((a,b,c,e,f),g,h,i)=>(.exit 0,⟨([.ptr (.cl 0) 0 [] 0,bX,.d ti a,bX,.dN jC b]++aW 4 ([fc 9]++aW 75 [])),[ub (.pr (.iy (.cl 1) 0) (.pr (.dj (.cl 2) 0 [] 0 0 c) Ma)),ub (.mp eD Jc g),ub (.vec 194 uJ e)],(bR 9 ([di (.pr (kZ 45 h) (.d (.pair (.slice eD) .unit) f))]++bR 35 ([di (.vec 196 aGE i)]++bR 39 [])))⟩)
def JK:yL->Out (Exit×AS):=λx=> .ok (vG x)
def lN:xj->((List (fA×pF))×Nat×(List aAm))->yL:=λ(dh,Gi,t28,t29,t30,o0L,oc,yG,X8,n9,aEn) y=>((dh,Gi,o0L,yG,n9),y)
abbrev xk:=Int×gf×(List fA)×Int×Int×Nat×(List (fA×pF))×(List uS)×Nat×((List fA)×Unit)×(List aAm)
def qa:xk->AS:=λ(AD,QG,t54,t55,t56,qj,AT,AU,O3,sm,O1)=>⟨([.ptr (.cl 0) 0 [] 0,bX,.d ti AD,bX,.dN jC QG]++aW 4 ([fc 9]++aW 44 ([.d (.slice eD) t54,.d ti t55,.d ti t56]++aW 28 []))),[ub (.pr (.iy (.cl 1) 0) (.pr (.dj (.cl 2) 0 [] 0 0 qj) Ma)),ub (.mp eD Jc AT),ub (.vec 194 uJ AU)],(bR 9 ([di (.pr (kZ 45 O3) (.d (.pair (.slice eD) .unit) sm))]++bR 35 ([di (.vec 196 aGE O1)]++bR 39 [])))⟩
abbrev yM:=(Nat×(List uS)×Nat×((List fA)×Unit)×(List aAm))×((List (fA×pF)))
def vI:yM->Exit×AS:=λ((a,b,c,e,f),g)=>(.exit 2,⟨([.ptr (.cl 0) 0 [] 0]++aW 8 ([fc 9]++aW 75 [])),[ub (.pr (.iy (.cl 1) 0) (.pr (.dj (.cl 2) 0 [] 0 0 a) Ma)),ub (.mp eD Jc g),ub (.vec 194 uJ b)],(bR 9 ([di (.pr (kZ 45 c) (.d (.pair (.slice eD) .unit) e))]++bR 35 ([di (.vec 196 aGE f)]++bR 39 [])))⟩)
def JM:yM->Out (Exit×AS):=λx=> .ok (vI x)
def lO:xk->((List (fA×pF)))->yM:=λ(AD,QG,t54,t55,t56,qj,AT,AU,O3,sm,O1) y=>((qj,AU,O3,sm,O1),y)
abbrev JG:=gf×Int×Nat×(List (fA×pF))×(List uS)
def Ry:JG->SA:=λ(t,height,o0baL,o1,o2)=>([.ptr (.cl 0) 0 [] 0,.d jC t,.d ti height],[ub (.pr (.iy (.cl 1) 0) (.pr (.dj (.cl 2) 0 [] 0 0 o0baL) Ma)),ub (.mp eD Jc o1),ub (.vec 194 uJ o2)])
abbrev amN:=(Int×Nat×(List (fA×pF))×(List uS))⊕(Int×Nat×(List (fA×pF))×(List uS))
abbrev Zp:=(Int×Nat×(List (fA×pF))×(List uS))⊕(Int×Nat×(List (fA×pF))×(List uS))
def FL:Zp->iJ:=λx=>match x with | .inl x=>⟨.d ti x.1,[ub (.pr (.iy (.cl 1) 0) (.pr (.dj (.cl 2) 0 [] 0 0 x.2.1) Ma)),ub (.mp eD Jc x.2.2.1),ub (.vec 194 uJ x.2.2.2)],[]⟩ | .inr x=>⟨.d ti x.1,[ub (.pr (.iy (.cl 1) 0) (.pr (.dj (.cl 2) 1 [] 0 0 x.2.1) Ma)),ub (.mp eD Jc x.2.2.1),.obj 1 bq (.vec 194 uJ x.2.2.2)],[]⟩
def Ay:JG->amN->Zp:=λ(t,height,o0baL,o1,o2) y=>match y with | .inl y=> .inl y | .inr y=> .inr y
def Ou(a:List (fA×pF)):List fA->List aAm
 |[]=> []
 |o::l=>(o,((dq eD o a).getD az4,()))::Ou (kV eD o a) l
def Me(h:Int):List fA->List jI->List (fA×pF)->List (fA×pF)
 |o::l,x::xs,a=>Me h l xs (jq eD o (x,(h,())) a)
 |_,_,a=>a
def stepOf(t:gf)(a:List (fA×pF)):uS:=(Ou a (eo t),(eu t,()))
def mB(t:gf)(h:Int)(a:List (fA×pF)):List (fA×pF):=Me h (eu t) t.2.1 (PR (eo t) a)
def vF:xj->Prop:=λ(_,_,l,n,i,_,_,_,gL,_,g)=>l.length<=1000/\∃k:Nat,k<=l.length/\i=k/\n=l.length/\gL=g.length/\g.length=k
def pJ:xj->((List (fA×pF))×Nat×(List aAm)):=λ(_,_,l,_,i,_,a,_,gL,_,g)=>(PR (l.drop i.toNat) a,gL+(l.drop i.toNat).length,g++Ou a (l.drop i.toNat))
def vH:xk->Prop:=λ(_,t,l,n,i,_,_,_,_,_,_)=>l.length<=1000/\l.length=t.2.1.length/\(∀o∈t.2.1,aJS o.2.1)/\∃k:Nat,k<=l.length/\i=k/\n=l.length
def pK:xk->((List (fA×pF))):=λ(h,t,l,_,i,_,a,_,_,_,_)=>Me h (l.drop i.toNat) (t.2.1.drop i.toNat) a
def Mp:JG->Prop:=λ(t,_,n,a,s)=>A6 t/\att a/\n<=s.length/\s.length<=1000000
def JH:JG->amN:=λ(t,h,n,a,s)=>if(mU t h a).2≠0 then .inl ((mU t h a).2,n,a,s) else .inr (0,n+1,mB t h a,s.take n++ [stepOf t a])
def JI:sa:=oP (P:=Tryz.prog) [adm,UN,alY,amE]
def Rt:=eb.fH p9 vF lN pJ JK
def GL:xj->Option yL:=kD Rt p9
def Rv:=eb.fH qa vH lO pK JM
def GN:xk->Option yM:=kD Rv qa
def DU:A4:= {loops:=mM [(6,{aX:=[0,2,4,9,28,29,30],sites:=[9,45],owns:=[⟨9,[.fst],45,192⟩]}),(12,{aX:=[0,2,4,9,54,55,56],sites:=[9,45]})],outs:=mL [(6,{aX:=[0,2,4,9],sites:=[9,45]},{aX:=[6]}),(12,{aX:=[0,9],sites:=[9,45]},{aX:=[6]})],fo:=oR [(6,Rt),(12,Rv)]}
def amL:= @acf Tryz.prog JI DU 0 Tryz.f37 _ Ry
abbrev auK:=aAk @amL Mp Ay JH FL
def Ru:= @gk Tryz.prog JI DU 0 Tryz.f37 0 _ p9
abbrev N9:=qq Tryz.prog JI DU 0 Tryz.f37 0 p9 vF lN pJ JK
def Rw:= @gk Tryz.prog JI DU 0 Tryz.f37 1 _ qa
abbrev Oa:=qq Tryz.prog JI DU 0 Tryz.f37 1 qa vH lO pK JM
theorem Zn:mR GL vF lN pJ:=sV (sJ [.d ti,.d jC,.d (.slice eD),.d ti,.d ti,.n,.d (.slice (.pair eD Jc)),.d (.slice uJ),.n,.d (.pair (.slice eD) .unit),.d (.slice aGE)] λ_=>cq)
theorem JJ:aAj @Ru p9 vF lN pJ vG N9:=aHE
theorem GM(dh Gi t28 t29 t30 o0L oc yG X8 n9 aEn)(kn:K2 R)(kx:K3 R):Ru (dh,Gi,t28,t29,t30,o0L,oc,yG,X8,n9,aEn) kn kx=aG (fG t30 t29) (aG (dr t30 (((ae t28):Nat):Int)) (aG (decide (X8<=(ae aEn))) (aG (db (X8+1) 80) (kn (p9 (dh,Gi,t28,t29,(bl .i64 t30 (1:Int)),o0L,(kV eD (nth eD t28 (ab t30)) oc),yG,(X8+1),n9,((aT X8 aEn)++ [((nth eD t28 (ab t30)),(((dq eD (nth eD t28 (ab t30)) oc).getD (((0:Int),((([]:List wS),()),())),((0:Int),()))),()))])))) aF) aF) aF) (kx (vG ((dh,Gi,o0L,yG,n9),(oc,X8,aEn))).1 (vG ((dh,Gi,o0L,yG,n9),(oc,X8,aEn))).2):=cq
theorem Zo:mR GN vH lO pK:=sV (sJ [.d ti,.d jC,.d (.slice eD),.d ti,.d ti,.n,.d (.slice (.pair eD Jc)),.d (.slice uJ),.n,.d (.pair (.slice eD) .unit),.d (.slice aGE)] λ_=>cq)
theorem JL:aAj @Rw qa vH lO pK vI Oa:=aHE
theorem GO(AD QG t54 t55 t56 qj AT AU O3 sm O1)(kn:K2 R)(kx:K3 R):Rw (AD,QG,t54,t55,t56,qj,AT,AU,O3,sm,O1) kn kx=aG (fG t56 t55) (aG (dr t56 (((ae t54):Nat):Int)) (aG (dr t56 (((ae QG.2.1):Nat):Int)) (ak (PQ.call (nth jE QG.2.1 (ab t56))) λx1=>kn (qa (AD,QG,t54,t55,(bl .i64 t56 (1:Int)),qj,(jq eD (nth eD t54 (ab t56)) (x1,(AD,())) AT),AU,O3,sm,O1))) aF) aF) (kx (vI ((qj,AU,O3,sm,O1),AT)).1 (vI ((qj,AU,O3,sm,O1),AT)).2):=cq
theorem auL(t height o0baL o1 o2)(k:K1 R):amL (t,height,o0baL,o1,o2) k=ak (mc.call (t,height,o0baL,o1,o2)) λx1=>aG (yV x1.2.1 (0:Int)) (k (FL (.inl (x1.2.1,x1.2.2.1,x1.2.2.2.1,x1.2.2.2.2)))) (ak (zy.call t) λx2=>ak (rZ.call t) λx3=>ak (GL (height,t,x3,(((ae x3):Nat):Int),(0:Int),x1.2.2.1,x1.2.2.2.1,x1.2.2.2.2,0,(x2,()),([]:List aAm))) λx4=>ak (GN (x4.1.1,x4.1.2.1,x4.1.2.2.2.2.1,(((ae x4.1.2.2.2.2.1):Nat):Int),(0:Int),x4.1.2.2.1,x4.2.1,x4.1.2.2.2.1,x4.2.2.1,x4.1.2.2.2.2,x4.2.2.2)) λx6=>aG (decide (0=0/\(0+x6.1.2.2.1)<=(ae x6.1.2.2.2.2))) (aG (decide (x6.1.1<=(ae x6.1.2.1))) (aG (db (x6.1.1+1) 48) (k (FL (.inr ((0:Int),(x6.1.1+1),x6.2,((aT x6.1.1 x6.1.2.1)++ [((cut x6.1.2.2.2.2 0 x6.1.2.2.1),x6.1.2.2.2.1)]))))) aF) aF) aF):=cq
theorem adh:N9:=by
 refine JJ (λ(_,_,l,_,i,_,_,_,_,_,_)=>l.length - i.toNat) ?_
 rintro⟨h,t,l,n,i,o,a,s,gL,u,g⟩ ⟨hl,k,hk,rfl,rfl,rfl,hg⟩;have hl:l.length<=1000:=hl;have hk:k<=l.length:=hk;have hg:g.length=k:=hg;by_cases iI:k < l.length
 ·left;have n1:nth eD l k=l[k]:=cK (t:=eD) iI;have hd:l.drop k=l[k]::l.drop (k+1):=aD iI;refine⟨(h,t,l,(l.length:Int),((k+1:Nat):Int),o,kV eD l[k] a,s,g.length+1,u,g++ [(l[k],((dq eD l[k] a).getD az4,()))]),⟨hl,k+1,ao,rfl,rfl,by simp,by simp[hg]⟩,by simp only[aa];omega,?_,λkn kx=> ?_⟩
  ·simp only[lN,pJ,aa,hd,PR,dS,Ou,bh,dp,aI];rw[show g.length+1+(l.drop (k+1)).length=g.length+((l.drop (k+1)).length+1) by omega]
  ·rw[GM,aZ ao,aj,aV ao ao,aj,aJ (aC _),aj,dR ao ao,aj,aa,n1,N.qt ao,bK];rfl
 ·right;obtain rfl:k=l.length:=ao;intro R kn kx;rw[GM,aQ ao,al];simp only[lN,pJ,aa,bj,PR,List.foldl_nil,Ou,bW,aU,cz]
theorem adi:Oa:=by
 refine JL (λ(_,_,l,_,i,_,_,_,_,_,_)=>l.length - i.toNat) ?_
 rintro⟨h,t,l,n,i,o,a,s,gL,u,g⟩ ⟨hl,he,hb,k,hk,rfl,rfl⟩;have hl:l.length<=1000:=hl;have he:l.length=t.2.1.length:=he;have hk:k<=l.length:=hk;by_cases iI:k < l.length
 ·left;have aFv:k < t.2.1.length:=ao;have n1:nth eD l k=l[k]:=cK (t:=eD) iI;have n2:nth jE t.2.1 k=t.2.1[k]:=cK (t:=jE) aFv;have hd:l.drop k=l[k]::l.drop (k+1):=aD iI;have aBd:t.2.1.drop k=t.2.1[k]::t.2.1.drop (k+1):=aD aFv;refine⟨(h,t,l,(l.length:Int),((k+1:Nat):Int),o,jq eD l[k] (t.2.1[k],(h,())) a,s,gL,u,g),⟨hl,he,hb,k+1,ao,rfl,rfl⟩,by simp only[aa];omega,?_,λkn kx=> ?_⟩
  ·simp only[lO,pK,aa,hd,aBd,Me]
  ·rw[GO,aZ ao,aj,aV ao ao,aj,aV ao ao,aj,aa,n1,n2,ade (d:=t.2.1[k]) (hb _ (List.getElem_mem aFv))];simp only[ah,bk,aib];rw[N.qt ao]
 ·right;obtain rfl:k=l.length:=ao;intro R kn kx;rw[GO,aQ ao,al];simp only[lO,pK,aa,bj,Me]
theorem W2{t:gf}{h:Int}{a:List (fA×pF)}(e:(mU t h a).2=0):gA t=aS/\1<=h/\h<=1048576/\∃mq,uV h (oA t) a t.1 0= .inr mq/\(eu t).any (po a)=bq/\0<=mq - km t.2.1/\mU t h a=(mq - km t.2.1,0):=by
 unfold mU at e ⊢;by_cases h0:gA t=aS/\1<=h/\h<=1048576
 ·rw[if_pos h0]at e;rw[if_pos h0];refine⟨h0.1,h0.2.1,h0.2.2,?_⟩;cases hi:uV h (oA t) a t.1 0 with
  |inl x=>
   exfalso;rw[hi]at e;simp only at e;subst e;have key:∀(l:List kG) (f:Int),uV h (oA t) a l f≠ .inl 0:=by
    intro l
    induction l with
    |nil=>intro f hf;cases hf
    |cons x l ih=>
     intro f hf;simp only[uV]at hf;cases hg:dq eD x.1 a with
     |none=>rw[hg]at hf;simp at hf
     |some c=>
      rw[hg]at hf;simp only at hf;split at hf
      ·rename_i gW;exact gW (by injection hf)
      ·exact ih _ hf
   exact key _ _ hi
  |inr mq=>
   rw[hi]at e;simp only at e ⊢;by_cases hm:(eu t).any (po a)=aS
   ·rw[if_pos hm]at e;cases e
   ·rw[if_neg hm]at e;rw[if_neg hm];by_cases hf:mq - km t.2.1 < 0
    ·rw[if_pos hf]at e;cases e
    ·rw[if_neg hf];exact⟨mq,rfl,by simpa using hm,ao,rfl⟩
 ·rw[if_neg h0]at e;cases e
theorem ad4{t:gf}(h:gA t=aS):(eo t).length=t.1.length:=by unfold eo;rw[if_pos h,bC]
theorem auM:auK:=by
 rintro⟨t,h,n,a,s⟩ ⟨hv,ha,hn,hs⟩;have hv:A6 t:=hv;have ha:att a:=ha;have hn:n<=s.length:=hn;have hs:s.length<=1000000:=hs;rw[auL,Xl (d:=(t,h,n,a,s)) ⟨hv,ha⟩];simp only[ah,bk,Qc,Ay,JH];by_cases he:(mU t h a).2=0
 ·rw[ez he,al,if_neg (λe=>e he)];obtain⟨gK,_,_,_⟩:=W2 he;obtain⟨⟨_,a2,a3,_⟩,b1,b2⟩:=pY gK;rw[NS (d:=t) hv];simp only[ah,bk,QJ];rw[ag8 (d:=t) hv.1];simp only[ah,bk,NT];rw[Zn (d:=(h,t,eo t,((eo t).length:Int),0,n,a,s,0,(eu t,()),[])) ⟨by rw[ad4 gK];omega,0,aO _,rfl,rfl,rfl,rfl⟩];simp only[ah,lN,pJ,bg,aL,aR,Nat.zero_add];rw[Zo (d:=(h,t,eu t,((eu t).length:Int),0,n,PR (eo t) a,s,(eo t).length,(eu t,()),Ou a (eo t))) ⟨by rw[wW gK];omega,wW gK,λo ho=>by
   have:=M4 (pU _ _ b2 o ho).2;exact⟨ao,λb hb=>by have:=this.2 b hb;omega⟩,0,aO _,rfl,rfl⟩]
  simp only[ah,lO,pK,bg,aL];have aJw:∀(l:List fA) (a:List (fA×pF)),(Ou a l).length=l.length:=by
   intro l
   induction l with
   |nil=>intro a;rfl
   |cons o l ih=>intro a;simp[Ou,ih]
  rw[aJ (by rw[aJw];exact⟨trivial,ao⟩),aj,aJ hn,aj,dR ao ao,aj,fb (aJw _ _)];rfl
 ·rw[gH he,aj,if_pos he]
def amM:=Entry.axq [aF,av jC,av ti] Ry Mp Ay JH FL
def Rx:JG->Option Zp:=amw amM Ry
theorem apo:mR Rx Mp Ay JH:=aEv (aFO [.d jC,.d ti,.n,.d (.slice (.pair eD Jc)),.d (.slice uJ)] λ_=>cq)
def auN:SG Tryz.prog:=⟨37,Jk,amM,.of (.aLs (.fn 2 cq auM (And.intro (.fH adh cq) (And.intro (.fH adi cq) trivial)))) (by rfl)⟩
section
section
variable {β:Type} {kt:Ty}
theorem Qg(hc:kt.comp=aS)(o o':kt.den)(v:β):∀l:List (kt.den×β),dq kt o (jq kt o' v l)=if kt.beq o o'=aS then av v else dq kt o l
 |[]=>by rw[X5,fD,AP]
 |p::l=>by
  rw[B6];by_cases h:kt.beq o' p.1=aS
  ·rw[if_pos h,fD,fD];have e:=beq_eq kt _ _ hc h;by_cases h2:kt.beq o o'=aS
   ·rw[if_pos h2,if_pos h2]
   ·rw[if_neg h2,if_neg h2,if_neg (by rw[<-e];exact h2)]
  ·rw[if_neg h,fD,fD,Qg hc o o' v l];by_cases h3:kt.beq o p.1=aS
   ·rw[if_pos h3,if_pos h3,if_neg];intro h4;apply h;rw[<-beq_eq kt _ _ hc h4];exact h3
   ·rw[if_neg h3,if_neg h3]
theorem am4(hc:kt.comp=aS)(o o':kt.den):∀ {l:List (kt.den×β)},(l.map (·.1)).Nodup->dq kt o (kV kt o' l)=if kt.beq o o'=aS then aF else dq kt o l
 |[],_=>by rw[aq2,AP];split <;> rfl
 |p::l,hn=>by
  rw[bE,dn]at hn;rw[Ix];by_cases h:kt.beq o' p.1=aS
  ·rw[if_pos h,fD];have e:=beq_eq kt _ _ hc h;by_cases h2:kt.beq o o'=aS
   ·rw[if_pos h2];have e2:=beq_eq kt _ _ hc h2;cases hg:dq kt o l with
    |none=>rfl
    |some v=>exact absurd (cT.2 ⟨_,(kW hc hn.2).1 hg,rfl⟩) (by rw[e2,e];exact hn.1)
   ·rw[if_neg h2,if_neg (by rw[<-e];exact h2)]
  ·rw[if_neg h,fD,fD,am4 hc o o' hn.2];by_cases h3:kt.beq o p.1=aS
   ·rw[if_pos h3,if_pos h3,if_neg];intro h4;apply h;rw[<-beq_eq kt _ _ hc h4];exact h3
   ·rw[if_neg h3,if_neg h3]
theorem get_none(hc:kt.comp=aS){o:kt.den}{l:List (kt.den×β)}(hn:(l.map (·.1)).Nodup):dq kt o l=aF↔o ∉ l.map (·.1):=by
 constructor
 ·intro h hm;obtain⟨p,hp,e⟩:=cT.1 hm;have e:p.1=o:=e;have:=(kW hc hn (x:=o) (v:=p.2)).2 (by rw[<-e];exact hp);rw[h]at this;cases this
 ·intro h;cases hg:dq kt o l with
  |none=>rfl
  |some v=>exact absurd (cT.2 ⟨_,(kW hc hn).1 hg,rfl⟩) h
theorem Hf{l:List (kt.den×β)}(hn:(l.map (·.1)).Nodup):l.Nodup:=by
 induction l with
 |nil=>exact gh
 |cons p l ih=>
  rw[bE,dn]at hn;exact dn.2 ⟨λh=>hn.1 (cT.2 ⟨p,h,rfl⟩),ih hn.2⟩
theorem afn(hc:kt.comp=aS){l l':List (kt.den×β)}(hn:(l.map (·.1)).Nodup)(hn':(l'.map (·.1)).Nodup)(h:∀o,dq kt o l=dq kt o l'):l.Perm l':=by rw[List.perm_ext_iff_of_nodup (Hf hn) (Hf hn')];rintro⟨o,v⟩;rw[<-kW hc hn,<-kW hc hn',h]
end
theorem Vf(a b:fA):(Ty.beq eD a b=aS)↔a=b:=⟨beq_eq eD a b rfl,λh=>by rw[h];exact beq_refl eD b rfl⟩
abbrev At:=List (fA×pF)
abbrev o4(a:At):List fA:=a.map (·.1)
theorem aFg(o o':fA)(v:pF)(a:At):dq eD o (jq eD o' v a)=if o=o' then av v else dq eD o a:=by
 rw[Qg kb];by_cases h:o=o'
 ·rw[if_pos ((Vf _ _).2 h),if_pos h]
 ·rw[if_neg (λe=>h ((Vf _ _).1 e)),if_neg h]
theorem aA6(o o':fA){a:At}(hn:(o4 a).Nodup):dq eD o (kV eD o' a)=if o=o' then aF else dq eD o a:=by
 rw[am4 kb _ _ hn];by_cases h:o=o'
 ·rw[if_pos ((Vf _ _).2 h),if_pos h]
 ·rw[if_neg (λe=>h ((Vf _ _).1 e)),if_neg h]
theorem R6{o:fA}{v:pF}{a:At}(hn:(o4 a).Nodup):(o4 (jq eD o v a)).Nodup:=O0 kb hn
theorem xx{o:fA}{a:At}(hn:(o4 a).Nodup):(o4 (kV eD o a)).Nodup:=Ew kb hn
theorem aHT{a a':At}(hn:(o4 a).Nodup)(hn':(o4 a').Nodup)(h:∀o,dq eD o a=dq eD o a'):a.Perm a':=afn kb hn hn' h
theorem alQ{o:fA}{c:pF}{a:At}(hn:(o4 a).Nodup)(hg:dq eD o a=av c):a.Perm ((o,c)::kV eD o a):=by
 refine aHT hn ?_ λx=> ?_
 ·show(o::o4 (kV eD o a)).Nodup;refine dn.2 ⟨?_,xx hn⟩;have:=(get_none kb (xx (o:=o) hn)).1 (by rw[aA6 o o hn,if_pos rfl]);exact this
 ·rw[fD,aA6 x o hn];by_cases h:x=o
  ·subst h;rw[if_pos ((Vf _ _).2 rfl),hg]
  ·rw[if_neg (λe=>h ((Vf _ _).1 e)),if_neg h]
theorem Mr(o:fA)(l:List fA)(a:At):PR (o::l) a=PR l (kV eD o a):=rfl
theorem HW:∀(l:List fA) {a:At},(o4 a).Nodup->(o4 (PR l a)).Nodup
 |[],_,h=>h
 |o::l,a,h=>by rw[Mr];exact HW l (xx h)
theorem am3(x:fA):∀(l:List fA) {a:At},(o4 a).Nodup->dq eD x (PR l a)=if x∈l then aF else dq eD x a
 |[],a,_=>by rw[if_neg (by simp)];rfl
 |o::l,a,h=>by
  rw[Mr,am3 x l (xx h),aA6 x o h];by_cases h1:x∈l
  ·rw[if_pos h1,if_pos (aN _ h1)]
  ·rw[if_neg h1];by_cases h2:x=o
   ·rw[if_pos h2,if_pos (by rw[h2];exact aM ..)]
   ·rw[if_neg h2,if_neg (by simp[h1,h2])]
theorem FG(h:Int)(o:fA)(l:List fA)(x:jI)(xs:List jI)(a:At):Me h (o::l) (x::xs) a=Me h l xs (jq eD o (x,(h,())) a):=rfl
theorem QO(h:Int):∀(l:List fA) (xs:List jI) {a:At},(o4 a).Nodup->(o4 (Me h l xs a)).Nodup
 |[],[],_,hn=>hn
 |[],_::_,_,hn=>hn
 |_::_,[],_,hn=>hn
 |o::l,x::xs,a,hn=>by rw[FG];exact QO h l xs (R6 hn)
theorem am2(h:Int)(x:fA):∀(l:List fA) (xs:List jI) (a:At),x ∉ l->dq eD x (Me h l xs a)=dq eD x a
 |[],[],_,_=>rfl
 |[],_::_,_,_=>rfl
 |_::_,[],_,_=>rfl
 |o::l,y::xs,a,hx=>by rw[FG,am2 h x l xs _ (λe=>hx (aN _ e)),aFg,if_neg (λe=>hx (by rw[e];exact aM ..))]
theorem adF(h:Int):∀(l:List fA) (xs:List jI) (a:At),l.Nodup->∀(k:Nat) (hk:k < l.length) (ahn:k < xs.length),dq eD l[k] (Me h l xs a)=av (xs[k],(h,()))
 |[],_,_,_,k,hk,_=>by simp at hk
 |_::_,[],_,_,k,_,hk=>by simp at hk
 |o::l,y::xs,a,hn,k,hk,ahn=>by
  rw[dn]at hn;rw[FG];cases k with
  |zero=>
   show dq eD o _=av (y,(h,()));rw[am2 h o l xs _ hn.1,aFg,if_pos rfl]
  |succ k=>
   simp only[List.getElem_cons_succ];exact adF h l xs _ hn.2 k (by simpa using hk) (by simpa using ahn)
def rP(a:At)(l:List fA):Int:=(l.map λo=>((dq eD o a).getD az4).1.1).sum
theorem adp:∀(l:List fA) {a:At},(o4 a).Nodup->l.Nodup->(∀o∈l,(dq eD o a).isSome=aS)->Dw (PR l a)=Dw a - rP a l/\(PR l a).length+l.length=a.length
 |[],a,_,_,_=>by simp[PR,rP]
 |o::l,a,hn,hl,ht=>by
  rw[dn]at hl;obtain⟨c,hc⟩:=cd.1 (ht o (aM ..));have hg:∀x∈l,dq eD x (kV eD o a)=dq eD x a:=λx hx=>by rw[aA6 x o hn,if_neg (λe=>hl.1 (by rw[<-e];exact hx))]
  obtain⟨h1,h2⟩:=adp l (xx (o:=o) hn) hl.2 λx hx=>by rw[hg x hx];exact ht x (aN _ hx)
  have hp:=alQ hn hc;have h3:=aoA hp;have h4:=hp.length_eq;have h5:rP (kV eD o a) l=rP a l:=by unfold rP;congr 1;exact gv λx hx=>by rw[hg x hx]
  rw[sD]at h3;rw[aI]at h4;rw[Mr,h1,h5,aI];have h6:rP a (o::l)=c.1.1+rP a l:=by simp[rP,hc]
  rw[h6];exact⟨by have h3:Dw a=c.1.1+Dw (kV eD o a):=h3;omega,ao⟩
theorem O4(x:jI)(xs:List jI):km (x::xs)=x.1+km xs:=by simp[km]
theorem aci(h:Int):∀(l:List fA) (xs:List jI) {a:At},(o4 a).Nodup->l.Nodup->l.length=xs.length->(∀o∈l,dq eD o a=aF)->Dw (Me h l xs a)=Dw a+km xs/\(Me h l xs a).length=a.length+l.length
 |[],[],a,_,_,_,_=>by simp[Me,km]
 |[],_::_,_,_,_,he,_=>by simp at he
 |_::_,[],_,_,_,he,_=>by simp at he
 |o::l,x::xs,a,hn,hl,he,ht=>by
  rw[dn]at hl;have h0:=(get_none kb hn).1 (ht o (aM ..));have e:jq eD o (x,(h,())) a=a++ [(o,(x,(h,())))]:=Ex kb h0;obtain⟨h1,h2⟩:=aci h l xs (R6 (o:=o) (v:=(x,(h,()))) hn) hl.2 (by simpa using he) λy hy=>by rw[aFg,if_neg (λe=>hl.1 (by rw[<-e];exact hy))];exact ht y (aN _ hy)
  rw[FG,h1,h2,e,aco,O4,aq];simp only[Dw,bE,fv,List.sum_cons,List.sum_nil,aI,aU];omega
theorem Sp:∀(l:List kG) (m:List (fA×Bool)),zS m l=aS->(l.map (·.1)).Nodup/\∀x∈l,dq eD x.1 m≠av aS
 |[],_,_=>⟨gh,λ_ h=>by cases h⟩
 |x::l,m,h=>by
  rw[zS,au,au]at h;obtain⟨⟨h1,_⟩,h2⟩:=h;obtain⟨h3,h4⟩:=Sp l _ h2;have hs:∀y∈l,dq eD y.1 (jq eD x.1 aS m)≠av aS:=h4;have gW:∀y∈l,y.1≠x.1:=λy hy e=>hs y hy (by rw[Qg kb,if_pos ((Vf _ _).2 e)])
  refine⟨?_,λy hy=> ?_⟩
  ·rw[bE,dn];refine⟨λhm=> ?_,h3⟩;obtain⟨y,hy,e⟩:=cT.1 hm;exact gW y hy e
  ·rcases bI.1 hy with rfl | hy
   ·intro e;unfold G0 at h1;rw[e]at h1;cases h1
   ·have:=hs y hy;rw[Qg kb,if_neg (λe=>gW y hy ((Vf _ _).1 e))]at this;exact this
theorem abv(t:gf):(eo t).Nodup:=by
 unfold eo;split
 ·rename_i h;exact(Sp _ _ (pY h).2.1).1
 ·exact gh
theorem SV(t:gf):(eu t).Nodup:=by
 unfold eu;split
 ·unfold qi;refine List.Pairwise.map _ (λa b gW e=> ?_) (List.nodup_range' (s:=0) (n:=t.2.1.length) (step:=1));have:(a:Int)=b:=cf (λo:fA=>o.2.1) e;exact gW ao
 ·exact gh
theorem Ii{h:Int}{id:List Int}{a:At}:∀(l:List kG) (f0 f:Int),uV h id a l f0= .inr f->(∀o∈l.map (·.1),(dq eD o a).isSome=aS)/\f=f0+rP a (l.map (·.1))
 |[],f0,f,e=>by simp only[uV,Sum.inr.injEq]at e;subst e;simp[rP]
 |x::l,f0,f,e=>by
  simp only[uV]at e;cases hg:dq eD x.1 a with
  |none=>rw[hg]at e;cases e
  |some c=>
   rw[hg]at e;simp only at e;split at e
   ·cases e
   ·obtain⟨h1,h2⟩:=Ii l _ _ e;refine⟨λo ho=> ?_,?_⟩
    ·rw[bE]at ho;rcases bI.1 ho with rfl | ho
     ·rw[hg];rfl
     ·exact h1 o ho
    ·rw[h2];simp only[rP,bE,List.sum_cons,hg,dE];omega
structure zE(t:gf)(h:Int)(a:At)(mq:Int):Prop where
 ok:gA t=aS
 h1:1<=h
 h2:h<=1048576
 ins:∃f,uV h (oA t) a t.1 0= .inr f/\mq=f - km t.2.1
 there:∀o∈eo t,(dq eD o a).isSome=aS
 made:∀o∈eu t,dq eD o a=aF
 aHM:mq=rP a (eo t) - km t.2.1
 pos:0<=mq
theorem aAF{t:gf}{h:Int}{a:At}(e:(mU t h a).2=0):zE t h a (mU t h a).1:=by
 obtain⟨gK,h1,h2,f,hi,hm,hp,hc⟩:=W2 e;obtain⟨i1,i2⟩:=Ii _ _ _ hi;have hs:eo t=t.1.map (·.1):=by unfold eo;rw[if_pos gK]
 rw[hc];refine⟨gK,h1,h2,⟨f,hi,rfl⟩,by rw[hs];exact i1,λo ho=> ?_,by rw[hs,i2];show 0+_ - _=_;omega,hp⟩;have:=fF.1 hm o ho;unfold po at this;cases hg:dq eD o a with
 |none=>rfl
 |some c=>rw[hg]at this;simp at this
section
variable {t:gf} {h mq:Int} {a:At}
theorem zE.aI6(hc:zE t h a mq)(ha:(o4 a).Nodup){o:fA}(ho:o∈eo t):dq eD o (mB t h a)=aF:=by
 have hm:o ∉ eu t:=λe=>by have:=hc.there o ho;rw[hc.made o e]at this;cases this
 unfold mB;rw[am2 h o _ _ _ hm,am3 o _ ha,if_pos ho]
theorem zE.new(hc:zE t h a mq){k:Nat}(hk:k < (eu t).length)(ahn:k < t.2.1.length):dq eD (eu t)[k] (mB t h a)=av (t.2.1[k],(h,())):=by unfold mB;exact adF h _ _ _ (SV t) k hk ahn
theorem Jq(ha:(o4 a).Nodup){o:fA}(h1:o ∉ eo t)(h2:o ∉ eu t):dq eD o (mB t h a)=dq eD o a:=by unfold mB;rw[am2 h o _ _ _ h2,am3 o _ ha,if_neg h1]
theorem Jp(ha:(o4 a).Nodup):(o4 (mB t h a)).Nodup:=QO h _ _ (HW _ ha)
theorem zE.sum(hc:zE t h a mq)(ha:(o4 a).Nodup):Dw (mB t h a)=Dw a - mq/\(mB t h a).length+t.1.length=a.length+t.2.1.length:=by
 obtain⟨d1,d2⟩:=adp (eo t) ha (abv t) hc.there;obtain⟨e1,e2⟩:=aci h (eu t) t.2.1 (HW (eo t) ha) (SV t) (wW hc.ok) λo ho=>by
  rw[am3 o _ ha];split
  ·rfl
  ·exact hc.made o ho
 have hf:=hc.aHM;have hl:=ad4 hc.ok;have hm:=wW hc.ok;unfold mB;rw[e1,e2,d1];exact⟨ao,ao⟩
theorem zE.aJ1(hc:zE t h a mq)(ha:att a)(hv:A6 t):att (mB t h a):=by
 refine⟨Jp ha.1,λp hp=> ?_⟩;have hg:=(kW kb (Jp (t:=t) (h:=h) ha.1) (x:=p.1) (v:=p.2)).2 hp;by_cases h2:p.1∈eu t
 ·obtain⟨k,hk,e⟩:=List.getElem_of_mem h2;have ahn:k < t.2.1.length:=by rw[<-wW hc.ok];exact hk
  rw[<-e,hc.new hk ahn]at hg;have hg:=(Option.some.inj hg).symm;have ho:=pU _ _ (pY hc.ok).2.2 _ (List.getElem_mem ahn);have hu:=hv.1.1 _ (List.getElem_mem ahn);have h1:=hc.h1;have h3:=hc.h2;refine⟨?_,?_⟩
  ·rw[<-e];have hm:eu t=qi (oA t) 0 t.2.1.length:=by unfold eu;rw[if_pos hc.ok]
   simp only[hm,qi,List.getElem_map];have:=(UX (t:=t));exact⟨this.1,λx hx=>this.2 x hx⟩
  ·rw[hg];exact⟨ho.2,hu.1,ho.1.1,ho.1.2,by show 0<=h;omega,h3⟩
 ·by_cases h1:p.1∈eo t
  ·rw[hc.aI6 ha.1 h1]at hg;cases hg
  ·rw[Jq ha.1 h1 h2]at hg;exact ha.2 p ((kW kb ha.1).1 hg)
end
end
end Go.Ab
end
