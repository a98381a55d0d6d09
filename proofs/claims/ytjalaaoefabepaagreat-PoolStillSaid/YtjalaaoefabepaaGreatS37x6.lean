/-
  Made short by a program of mine (wip/tools/mini.py).
-/
import Derived.Test.YtjalaaoefabepaaGreatS37x5
set_option linter.unusedVariables false
set_option linter.unusedSimpArgs false
set_option maxRecDepth 100000
set_option synthInstance.maxSize 5000
open List renaming replicate->ae,map->fX,set->dZ,take->aJ,drop->bt
open Int renaming toNat->ab
open Or renaming inr->ej,inl->jH
open Option renaming some->aj,none->aF
open Bool renaming true->aL,false->aS
noncomputable section
variable {R:Type}
namespace Go.Ab
open Go.Proofs
abbrev DR:Ty:=(.pair (.slice fo) (.pair (.eP fJ) (.pair ti .unit)))
abbrev ajJ:=((List gK)×((Bool×List gX)×(Int×Unit)))
abbrev L1:Ty:=(.pair (.slice fo) (.pair (.js 2) (.pair ti .unit)))
abbrev anF:=((List gK)×(Nat×(Int×Unit)))
def aTE(t:cR):ajJ:=(t.1,((aL,t.2.1),t.2.2))
theorem aHp(l:List pg):(fX (Ty.Ky gU) l:List pg)=l:=List.map_id l
abbrev Mh:=Int×Int×Int×(Int×Unit)×Nat×(Int×Unit)×gq×(List pg)
abbrev YV:=Nat×gq×(List pg)
def zp:Mh->YV->((Int×(Int×Unit)×(Int×Unit))×(Nat×gq×(List pg))):=λ(n,t20,t21,n2,alg,n4,aA6,aab) y=>((n,n2,n4),y)
abbrev z8:=Int×Int×Int×Int×(Int×Unit)×Nat×Nat×(Int×Unit)×gq×(List pg)×(List gX)
def oX:z8->AS:=λ(xZ,m,t37,t38,oJ,zK,tt,tw,Da,nu,apQ)=>⟨([bC,bC,dP 2,bC,dP 4,dP 5,.fn 103 (.cons (dP 5) (.nil)),.d ti xZ,.d ti m]++aQ 28 ([.d ti t37,.d ti t38]++aQ 93 [])),[],([[],[],cJ (.pr (.cT) (.pr (.cT) (.d (.pair ti .unit) oJ))),[],cJ (.pr (je 32 zK) (.pr (je 58 tt) (.d (.pair ti .unit) tw))),cJ (dP 16)]++bk 10 ([cJ (.d qk Da)]++bk 15 ([cJ (.vec 110 gU nu)]++bk 25 ([cJ (.vec 45 fJ apQ)]++bk 73 []))))⟩
def pO:(Int×Unit)->Exit×AS:=λx=>(.ret,⟨([bC,bC,dP 2,.d .bool aS]++aQ 128 []),[],([[],[],cJ (.pr (.cT) (.pr (.cT) (.d (.pair ti .unit) x)))]++bk 129 [])⟩)
abbrev UG:=(Int×Int×(Int×Unit)×Nat×(Int×Unit)×(List pg))×(Nat×gq×(List gX))
def zr:UG->Exit×AS:=λ((a,b,c,e,f,g),h,i,j)=>(.exit 2,⟨([bC,bC,dP 2,bC,dP 4,dP 5,.fn 103 (.cons (dP 5) (.nil)),.d ti a,.d ti b]++aQ 123 []),[],([[],[],cJ (.pr (.cT) (.pr (.cT) (.d (.pair ti .unit) c))),[],cJ (.pr (je 32 e) (.pr (je 58 h) (.d (.pair ti .unit) f))),cJ (dP 16)]++bk 10 ([cJ (.d qk i)]++bk 15 ([cJ (.vec 110 gU g)]++bk 25 ([cJ (.vec 45 fJ j)]++bk 73 []))))⟩)
abbrev Ml:=((Int×Unit))⊕(UG)
abbrev YX:=((Int×Unit))⊕((Nat×gq×(List gX)))
def F5:Ml->Out (Exit×AS):=λx=> .br x.isLeft (.get x.getLeft? λa=> .ok (pO a)) (.get x.getRight? λb=> .ok (zr b))
def kf:z8->YX->Ml:=λ(xZ,m,t37,t38,oJ,zK,tt,tw,Da,nu,apQ) y=>match y with | .inl y=> .inl y | .inr z=> .inr (((xZ,m,oJ,zK,tw,nu),z))
abbrev z9:=Int×Int×Int×Int×(Int×Unit)×Nat×Nat×(Int×Unit)×gq×(List pg)×(List gX)
def oY:z9->AS:=λ(auv,afI,t66,t67,uV,zL,Ew,D5,Db,cP,AR)=>⟨([bC,bC,dP 2,bC,dP 4,dP 5,.fn 103 (.cons (dP 5) (.nil)),.d ti auv,.d ti afI]++aQ 57 ([.d ti t66,.d ti t67]++aQ 64 [])),[],([[],[],cJ (.pr (.cT) (.pr (.cT) (.d (.pair ti .unit) uV))),[],cJ (.pr (je 32 zL) (.pr (je 58 Ew) (.d (.pair ti .unit) D5))),cJ (dP 16)]++bk 10 ([cJ (.d qk Db)]++bk 15 ([cJ (.vec 110 gU cP)]++bk 25 ([cJ (.vec 45 fJ AR)]++bk 73 []))))⟩
def pP:(Int×Unit)->Exit×AS:=λx=>(.ret,⟨([bC,bC,dP 2,.d .bool aS]++aQ 128 []),[],([[],[],cJ (.pr (.cT) (.pr (.cT) (.d (.pair ti .unit) x)))]++bk 129 [])⟩)
abbrev UI:=Int×Int×(Int×Unit)×Nat×((Bool×List gX)×(Int×Unit))×gq×(List pg)
def zt:UI->Exit×AS:=λ(a,b,c,e,f,g,h)=>(.exit 4,⟨([bC,bC,dP 2,bC,dP 4,dP 5,bC,.d ti a,.d ti b]++aQ 123 []),[],([[],[],cJ (.pr (.cT) (.pr (.cT) (.d (.pair ti .unit) c))),[],cJ (.pr (je 32 e) (.d (.pair (.eP fJ) (.pair ti .unit)) f)),cJ (dP 16)]++bk 10 ([cJ (.d qk g)]++bk 15 ([cJ (.vec 110 gU h)]++bk 25 ([[.dead]]++bk 73 []))))⟩)
abbrev Mp:=((Int×Unit))⊕(UI)
abbrev YZ:=((Int×Unit))⊕((Int×Int×(Int×Unit)×Nat×((Bool×List gX)×(Int×Unit))×gq×(List pg)))
def F6:Mp->Out (Exit×AS):=λx=> .br x.isLeft (.get x.getLeft? λa=> .ok (pP a)) (.get x.getRight? λb=> .ok (zt b))
def kg:z9->YZ->Mp:=λ(auv,afI,t66,t67,uV,zL,Ew,D5,Db,cP,AR) y=>match y with | .inl y=> .inl y | .inr z=> .inr (z)
abbrev Ms:=Int×Int×Int×Int×Int×Int×(Int×Unit)×Nat×Nat×(Int×Unit)×gq×(List pg)×cr×Int×Nat×(Int×Unit)×(List pg)×(List gX)×(List Sg)
abbrev Y0:=gq×(List pg)×(List Sg)
def zu:Ms->Y0->((Int×Int×Int×Int×(Int×Unit)×Nat×Nat×(Int×Unit)×(List gX))×(gq×(List pg)×(List Sg))):=λ(auw,auj,DQ,nE,t85,t86,Dc,De,Df,Qm,GG,GI,GJ,GK,Fq,GL,Dd,Dg,alh) y=>((auw,auj,DQ,nE,Dc,De,Df,Qm,Dg),y)
def ahj:Mh->Prop:=λ(n,m,i,u,L,v,r,l)=>qg r/\m<=64/\∃k:Nat,i=k/\k<=64/\L=l.length/\l.length=k
def E3:Mh->YV:=λ(n,m,i,u,L,v,r,l)=>(L+(m - i).toNat,(Ft (m - i).toNat r).2,l++(Ft (m - i).toNat r).1.map alp)
def zq:z8->Prop:=λ(n,m1,m,i,u,L,L2,v,r,l,os)=>qg r/\m<=64/\∃k:Nat,i=k/\k<=64/\L2=os.length/\os.length=k
def oh:z8->YX:=λ(n,m1,m,i,u,L,L2,v,r,l,os)=>match zM (m - i).toNat r with | none=> .inl (0,()) | some x=> .inr (L2+x.1.length,x.2,os++x.1)
def ahn:Ms->Prop:=λ(n,m1,mo,io,m,i,u,L,L2,v,r,la,op,br,Ls,sc,lb,os,sg)=>qg r/\m<=12/\∃k:Nat,i=k/\k<=12/\Ls=sg.length/\sg.length=k
def E4:Ms->Y0:=λ(n,m1,mo,io,m,i,u,L,L2,v,r,la,op,br,Ls,sc,lb,os,sg)=>((AD (m - i).toNat r).2,la++(op,(br,aj (sg++(AD (m - i).toNat r).1),sc),())::lb,sg++(AD (m - i).toNat r).1)
def zs:z9->Prop:=λ(n,m1,m,i,u,L,L2,v,r,l,os)=>qg r/\l.length<=64/\L2=os.length/\∃k:Nat,i=k/\k<=l.length/\m=l.length/\L=l.length/\∀x∈l.drop k,x=alp x.1
def om:z9->YZ:=λ(n,m1,m,i,u,L,L2,v,r,l,os)=>match xL ((l.drop i.toNat).map (·.1)) r with | none=> .inl (0,()) | some x=> .inr (n,m1,u,L,((aL,os),v),x.2,l.take i.toNat++x.1.map aRT)
def awL:Bs->Prop:=λb=>Bytes b/\b.length<=1000000000
def afc:Bs->(ajJ×Bool):=λb=>(aTE (Q0 b).1,(Q0 b).2)
def sS:Ls ahj zp E3:=te (λ(n,t20,t21,n2,alg,n4,aA6,aab)=>⟨([bC,bC,dP 2,bC,dP 4,dP 5,.fn 103 (.cons (dP 5) (.nil)),.d ti n]++aQ 12 ([.d ti t20,.d ti t21]++aQ 110 [])),[],([[],[],cJ (.pr (.cT) (.pr (.cT) (.d (.pair ti .unit) n2))),[],cJ (.pr (je 32 alg) (.pr (.cT) (.d (.pair ti .unit) n4))),cJ (dP 16)]++bk 10 ([cJ (.d qk aA6)]++bk 15 ([cJ (.vec 110 gU aab)]++bk 99 [])))⟩) (λx=>(.exit 0,⟨([bC,bC,dP 2,bC,dP 4,dP 5,.fn 103 (.cons (dP 5) (.nil)),.d ti x.1.1]++aQ 124 []),[],([[],[],cJ (.pr (.cT) (.pr (.cT) (.d (.pair ti .unit) x.1.2.1))),[],cJ (.pr (je 32 x.2.1) (.pr (.cT) (.d (.pair ti .unit) x.1.2.2))),cJ (dP 16)]++bk 10 ([cJ (.d qk x.2.2.1)]++bk 15 ([cJ (.vec 110 gU x.2.2.2)]++bk 99 [])))⟩))
def YW:=du.eW oX zq kf oh F5
def Mm:z8->Option Ml:=fP YW oX
def YY:=du.eW oY zs kg om F6
def Mq:z9->Option Mp:=fP YY oY
def sT:Ls ahn zu E4:=te (λ(auw,auj,DQ,nE,t85,t86,Dc,De,Df,Qm,GG,GI,GJ,GK,Fq,GL,Dd,Dg,alh)=>⟨([bC,bC,dP 2,bC,dP 4,dP 5,.fn 103 (.cons (dP 5) (.nil)),.d ti auw,.d ti auj]++aQ 4 ([.ptr (.new 32 0) 0 [.snd,.fst,.snd,.fst] ((0+((ab nE)*36))+33)]++aQ 52 ([.d ti DQ,.d ti nE]++aQ 17 ([.d ti t85,.d ti t86]++aQ 45 [])))),[],([[],[],cJ (.pr (.cT) (.pr (.cT) (.d (.pair ti .unit) Dc))),[],cJ (.pr (je 32 De) (.pr (je 58 Df) (.d (.pair ti .unit) Qm))),cJ (dP 16)]++bk 10 ([cJ (.d qk GG)]++bk 15 ([cJ (.bx 110 36 (.pr (.d (.arr (0+(ab nE)) gU) GI) (.pr (.pr (.d bX GJ) (.pr (.pr (.d ti GK) (.pr (je 99 Fq) (.d (.pair tu .unit) GL))) jL)) (.d (.arr (List.length Dd) gU) Dd))))]++bk 25 ([cJ (.vec 45 fJ Dg)]++bk 40 ([cJ (.vec 117 xn alh)]++bk 32 [])))))⟩) (λx=>(.exit 6,⟨([bC,bC,dP 2,bC,dP 4,dP 5,.fn 103 (.cons (dP 5) (.nil)),.d ti x.1.1,.d ti x.1.2.1]++aQ 4 ([.ptr (.new 32 0) 0 [.idx (0+(ab x.1.2.2.2.1)),.snd,.fst] ((0+((ab x.1.2.2.2.1)*36))+33)]++aQ 52 ([.d ti x.1.2.2.1,.d ti x.1.2.2.2.1]++aQ 64 []))),[],([[],[],cJ (.pr (.cT) (.pr (.cT) (.d (.pair ti .unit) x.1.2.2.2.2.1))),[],cJ (.pr (je 32 x.1.2.2.2.2.2.1) (.pr (je 58 x.1.2.2.2.2.2.2.1) (.d (.pair ti .unit) x.1.2.2.2.2.2.2.2.1))),cJ (dP 16)]++bk 10 ([cJ (.d qk x.2.1)]++bk 15 ([cJ (.vec 110 gU x.2.2.1)]++bk 25 ([cJ (.vec 45 fJ x.1.2.2.2.2.2.2.2.2)]++bk 40 ([[.obj 0 aL (.vec 117 xn x.2.2.2)]]++bk 32 [])))))⟩))
def iO:Fs Tryz.prog awL bz afc:=fu 66 Tryz.f66 (λb=>([.d tB b],[])) (λx=>⟨.cons (.d DR x.1) (.cons (.d .bool x.2) (.nil)),[],[]⟩) [aj tB] [aeo,asr,ars,T8,ai3,aps,amE,ayX,art,pQ] {bu:=[100031,100032,300127],loops:=oI [(6,{aV:=[2,4,5,6,7,20,21],sites:=[2,4,5,16,32],owns:=[⟨4,[.fst],32,100024⟩]}),(11,{aV:=[2,4,5,6,7,8,37,38],sites:=[2,4,5,16,32,58],owns:=[⟨4,[.snd,.fst],58,22⟩]}),(21,{aV:=[2,4,5,6,7,8,66,67],sites:=[2,4,5,16,32,58]}),(29,{aV:=[2,4,5,6,7,8,13,66,67,85,86],sites:=[2,4,5,16,32,58,99],owns:=[⟨13,[.snd,.fst],99,106⟩],aUx:=[13]})],outs:=oH [(6,{aV:=[2,4,5,6,7],sites:=[2,4,5,16,32]},{aV:=[2,3]}),(11,{aV:=[2,4,5,6,7,8],sites:=[2,4,5,16,32,58]},{aV:=[2,3],sites:=[2]}),(21,{aV:=[2,4,5,7,8],sites:=[2,4,5,16,32,58],aHE:=[(4,[.snd,.fst])]},{aV:=[2,3],sites:=[2]}),(29,{aV:=[2,4,5,6,7,8,13,66,67],sites:=[2,4,5,16,32,58,99],aVR:=[13]},{aV:=[2,3]})],fE:=pW [(6,sS.E),(11,YW),(21,YY),(29,sT.E)],res:=[aj DR,aF]}
def Mj:= @dV Tryz.prog (jB iO.G) iO.an 0 Tryz.f66 1 _ oX
abbrev UF:=jh Tryz.prog (jB iO.G) iO.an 0 Tryz.f66 1 oX zq kf oh F5
def Mo:= @dV Tryz.prog (jB iO.G) iO.an 0 Tryz.f66 2 _ oY
abbrev UH:=jh Tryz.prog (jB iO.G) iO.an 0 Tryz.f66 2 oY zs kg om F6
theorem ahk:sS.RS:=rL [.d ti,.d ti,.d ti,.d (.pair ti .unit),.n,.d (.pair ti .unit),.d qk,.d (.slice gU)] sS
theorem Mi(n t20 t21 n2 alg n4 aA6 aab)(kn:K2 R)(kx:K3 R):iO.R 0 sS (n,t20,t21,n2,alg,n4,aA6,aab) kn kx=aG (fL t21 t20) (al (YH.call aA6) λx7=>al (Az.call x7.2) λx8=>aG (decide (alg<=(List.length aab))) (aG (dd (alg+1) 80) (kn (sS.st (n,t20,(bA .i64 t21 1),n2,(alg+1),n4,x8.2,((aJ alg aab)++ [((x7.1,(x8.1,())),((0,(aF,(0,()))),()))])))) aF) aF) (sS.go kx ((n,n2,n4),(alg,aA6,aab))):=cf
theorem ahl:iy Mm zq kf oh:=kz (jC [.d ti,.d ti,.d ti,.d ti,.d (.pair ti .unit),.n,.n,.d (.pair ti .unit),.d qk,.d (.slice gU),.d (.slice fJ)] λ_=>cf)
theorem Q7:mY @Mj oX zq kf oh F5 UF:=nJ
theorem Mn(xZ m t37 t38 oJ zK tt tw Da nu apQ)(kn:K2 R)(kx:K3 R):Mj (xZ,m,t37,t38,oJ,zK,tt,tw,Da,nu,apQ) kn kx=aG (fL t38 t37) (al (Az.call Da) λpS=>al (Ix.call pS.2) λaRA=>al (AQ.call aRA.1) λJK=>aG (!JK.2) (kx (pO ((0:Int),())).1 (pO ((0:Int),())).2) (aG (decide (tt<=(List.length apQ))) (aG (dd (tt+1) 32) (kn (oX (xZ,m,t37,(bA .i64 t38 (1:Int)),oJ,zK,(tt+1),tw,aRA.2,nu,((aJ tt apQ)++ [(pS.1,(JK.1,()))])))) aF) aF)) (kx (zr ((xZ,m,oJ,zK,tw,nu),(tt,Da,apQ))).1 (zr ((xZ,m,oJ,zK,tw,nu),(tt,Da,apQ))).2):=cf
theorem ahm:iy Mq zs kg om:=kz (jC [.d ti,.d ti,.d ti,.d ti,.d (.pair ti .unit),.n,.n,.d (.pair ti .unit),.d qk,.d (.slice gU),.d (.slice fJ)] λ_=>cf)
theorem Q8:mY @Mo oY zs kg om F6 UH:=nJ
theorem Mr(auv afI t66 t67 uV zL Ew D5 Db cP AR)(kn:K2 R)(kx:K3 R):Mo (auv,afI,t66,t67,uV,zL,Ew,D5,Db,cP,AR) kn kx=aG (fL t67 t66) (aG (eE t67 ((zL:Nat):Int)) (al (Az.call Db) λpS=>aG (decide ((0+(ab t67)) < (List.length cP))) (aG (decide ((((0+(ab t67))*36)+33)=(((0+((ab t67)*36))+33)+0))) (aG (decide ((0+(ab t67)) < (List.length cP))) (al (Hg.call ((12:Int),pS.2)) λaD5=>aG (fL aD5.1 (0:Int)) (kx (pP ((0:Int),())).1 (pP ((0:Int),())).2) (aG (decide ((0+(ab t67)) < (List.length (dZ cP (0+(ab t67)) ((nth gU cP (0+(ab t67))).1,((pS.1,(nth gU cP (0+(ab t67))).2.1.2),(nth gU cP (0+(ab t67))).2.2)))))) (aG (Option.isNone (nth gU (dZ cP (0+(ab t67)) ((nth gU cP (0+(ab t67))).1,((pS.1,(nth gU cP (0+(ab t67))).2.1.2),(nth gU cP (0+(ab t67))).2.2))) (0+(ab t67))).2.1.2.1) (al (sT.call (auv,afI,t66,t67,aD5.1,(0:Int),uV,zL,Ew,D5,aD5.2,(aJ (0+(ab t67)) (dZ cP (0+(ab t67)) ((nth gU cP (0+(ab t67))).1,((pS.1,(nth gU cP (0+(ab t67))).2.1.2),(nth gU cP (0+(ab t67))).2.2)))),((nth gU (dZ cP (0+(ab t67)) ((nth gU cP (0+(ab t67))).1,((pS.1,(nth gU cP (0+(ab t67))).2.1.2),(nth gU cP (0+(ab t67))).2.2))) (0+(ab t67))).1.1,((nth gU (dZ cP (0+(ab t67)) ((nth gU cP (0+(ab t67))).1,((pS.1,(nth gU cP (0+(ab t67))).2.1.2),(nth gU cP (0+(ab t67))).2.2))) (0+(ab t67))).1.2.1,(nth gU (dZ cP (0+(ab t67)) ((nth gU cP (0+(ab t67))).1,((pS.1,(nth gU cP (0+(ab t67))).2.1.2),(nth gU cP (0+(ab t67))).2.2))) (0+(ab t67))).1.2.2)),(nth gU (dZ cP (0+(ab t67)) ((nth gU cP (0+(ab t67))).1,((pS.1,(nth gU cP (0+(ab t67))).2.1.2),(nth gU cP (0+(ab t67))).2.2))) (0+(ab t67))).2.1.1,0,((nth gU (dZ cP (0+(ab t67)) ((nth gU cP (0+(ab t67))).1,((pS.1,(nth gU cP (0+(ab t67))).2.1.2),(nth gU cP (0+(ab t67))).2.2))) (0+(ab t67))).2.1.2.2.1,(nth gU (dZ cP (0+(ab t67)) ((nth gU cP (0+(ab t67))).1,((pS.1,(nth gU cP (0+(ab t67))).2.1.2),(nth gU cP (0+(ab t67))).2.2))) (0+(ab t67))).2.1.2.2.2),(bt ((0+(ab t67))+1) (dZ cP (0+(ab t67)) ((nth gU cP (0+(ab t67))).1,((pS.1,(nth gU cP (0+(ab t67))).2.1.2),(nth gU cP (0+(ab t67))).2.2)))),AR,([]:List Sg))) λrv=>al (LI.call rv.2.1) λJK=>aG (decide ((0+(ab rv.1.2.2.2.1)) < (List.length rv.2.2.1))) (aG (decide ((((0+(ab rv.1.2.2.2.1))*36)+35)=(((0+((ab rv.1.2.2.2.1)*36))+33)+2))) (aG (decide ((0+(ab rv.1.2.2.2.1)) < (List.length rv.2.2.1))) (kn (oY (rv.1.1,rv.1.2.1,rv.1.2.2.1,(bA .i64 rv.1.2.2.2.1 (1:Int)),rv.1.2.2.2.2.1,rv.1.2.2.2.2.2.1,rv.1.2.2.2.2.2.2.1,rv.1.2.2.2.2.2.2.2.1,JK.2,(dZ rv.2.2.1 (0+(ab rv.1.2.2.2.1)) ((nth gU rv.2.2.1 (0+(ab rv.1.2.2.2.1))).1,(((nth gU rv.2.2.1 (0+(ab rv.1.2.2.2.1))).2.1.1,((nth gU rv.2.2.1 (0+(ab rv.1.2.2.2.1))).2.1.2.1,(JK.1,(nth gU rv.2.2.1 (0+(ab rv.1.2.2.2.1))).2.1.2.2.2))),(nth gU rv.2.2.1 (0+(ab rv.1.2.2.2.1))).2.2))),rv.1.2.2.2.2.2.2.2.2))) aF) aF) aF) aF) aF)) aF) aF) aF) aF) (aG (decide (Ew=(List.length AR))) (kx (zt (auv,afI,uV,zL,((aL,AR),D5),Db,cP)).1 (zt (auv,afI,uV,zL,((aL,AR),D5),Db,cP)).2) aF):=cf
theorem aho:sT.RS:=rL [.d ti,.d ti,.d ti,.d ti,.d ti,.d ti,.d (.pair ti .unit),.n,.n,.d (.pair ti .unit),.d qk,.d (.slice gU),.d bX,.d ti,.n,.d (.pair tu .unit),.d (.slice gU),.d (.slice fJ),.d (.slice xn)] sT
theorem Mt(auw auj DQ nE t85 t86 Dc De Df Qm GG GI GJ GK Fq GL Dd Dg alh)(kn:K2 R)(kx:K3 R):iO.R 3 sT (auw,auj,DQ,nE,t85,t86,Dc,De,Df,Qm,GG,GI,GJ,GK,Fq,GL,Dd,Dg,alh) kn kx=aG (fL t86 t85) (aG (decide ((((0+(ab nE))*36)+34)=(((0+((ab nE)*36))+33)+1))) (al (LI.call GG) λx7=>al (LI.call x7.2) λx8=>aG (decide (Fq<=(List.length alh))) (aG (dd (Fq+1) 16) (aG (decide ((((0+(ab nE))*36)+34)=(((0+((ab nE)*36))+33)+1))) (kn (sT.st (auw,auj,DQ,nE,t85,(bA .i64 t86 1),Dc,De,Df,Qm,x8.2,GI,GJ,GK,(Fq+1),GL,Dd,Dg,((aJ Fq alh)++ [(x7.1,(x8.1,()))])))) aF) aF) aF) aF) (aG (decide (0=0/\(0+Fq)<=(List.length alh))) (sT.go kx ((auw,auj,DQ,nE,Dc,De,Df,Qm,Dg),(GG,(GI++(GJ,((GK,((aj (cut alh 0 Fq)),GL)),()))::Dd),alh))) aF):=cf
theorem aDD(b)(k:K1 R):iO.A b k=al (T9.call b) λx4=>al (Hg.call (64,x4)) λx8=>al (sS.call (x8.1,x8.1,0,(0,()),0,(0,()),x8.2,([]:List pg))) λPk=>al (Hg.call (64,Pk.2.2.1)) λaas=>al (Mm (Pk.1.1,aas.1,aas.1,0,Pk.1.2.1,Pk.2.1,0,Pk.1.2.2,aas.2,Pk.2.2.2,([]:List gX))) λaRD=>aG aRD.isLeft (al aRD.getLeft? λa83=>k (iO.out ((([]:List gK),((aL,([]:List gX)),a83)),aS))) (al aRD.getRight? λb84=>al (Az.call b84.2.2.1) λaTM=>al (Mq (b84.1.1,b84.1.2.1,((b84.1.2.2.2.1:Nat):Int),0,b84.1.2.2.1,b84.1.2.2.2.1,b84.2.1,(aTM.1,b84.1.2.2.2.2.1.2),aTM.2,b84.1.2.2.2.2.2,b84.2.2.2)) λaw2=>aG aw2.isLeft (al aw2.getLeft? λa125=>k (iO.out ((([]:List gK),((aL,([]:List gX)),a125)),aS))) (al aw2.getRight? λb126=>aG (fL b126.1 0) (k (iO.out ((([]:List gK),((aL,([]:List gX)),(0,()))),aS))) (aG (fL b126.2.1 0) (k (iO.out ((([]:List gK),((aL,([]:List gX)),(0,()))),aS))) (al (arw.call b126.2.2.2.2.2.1) λaKK=>aG (!aKK.2) (k (iO.out ((([]:List gK),((aL,([]:List gX)),(0,()))),aS))) (al (YI.call aKK.1) λaRv=>aG (Af aRv.2 0) (k (iO.out ((([]:List gK),((aL,([]:List gX)),(0,()))),aS))) (aG (decide (0=0/\(0+b126.2.2.2.1)<=(List.length b126.2.2.2.2.2.2))) (al (ij.call ((aOu (.slice gU) (.slice fo) (cut (fX (Ty.Ky gU) b126.2.2.2.2.2.2) 0 b126.2.2.2.1)),(b126.2.2.2.2.1.1.2,(b126.2.2.2.2.1.2.1,b126.2.2.2.2.1.2.2)))) λaRw=>aG (!aRw) (k (iO.out ((([]:List gK),((aL,([]:List gX)),(0,()))),aS))) (aG (decide (0=0/\(0+b126.2.2.2.1)<=(List.length b126.2.2.2.2.2.2))) (k (iO.out (((aOu (.slice gU) (.slice fo) (cut b126.2.2.2.2.2.2 0 b126.2.2.2.1)),b126.2.2.2.2.1),aL))) aF)) aF)))))):=cf
theorem am1:(iO.kA 0 sS):=by
 refine(iO.nN 0 sS) (λ(n,m,i,u,L,v,r,l)=>(m - i).toNat) ?_
 rintro⟨n,m,i,u,L,v,r,l⟩ ⟨hr,hm,k,rfl,hk,rfl,Zn⟩;have hr:qg r:=hr;have hm:m<=64:=hm;have Zn:l.length=k:=Zn;by_cases h:(k:Int) < m
 ·left;have e1:(m - (k:Int)).toNat=(m - ((k+1:Nat):Int)).toNat+1:=au;have h1:=abv hr;refine⟨(n,m,((k+1:Nat):Int),u,l.length+1,v,(aK2 r).2,l++ [alp (aK2 r).1]),⟨(mV h1.1).1.1,hm,k+1,rfl,au,by rw[ai];rfl,by rw[ai];show l.length+1=_;omega⟩,by show(m - ((k+1:Nat):Int)).toNat < (m - (k:Int)).toNat;omega,?_,λkn kx=> ?_⟩
  ·simp only[zp,E3,e1,Ft,bM,aM,cS];rw[show ∀a c:Nat,a+1+c=a+(c+1) from λa c=>au]
  ·rw[Mi,aT h,ai7 (d:=r) hr.1];simp only[ak,ah,bz,amB];rw[kU (d:=(I7 r).2) h1.1.1];simp only[ah,bz,ra];rw[aI (aB _),dk au au,N.lh au,bK];rfl
 ·right;intro R kn kx;have e1:(m - (k:Int)).toNat=0:=au;rw[Mi,aP h,ao];simp only[zp,E3,e1,Ft,gW,bJ,de]
theorem am2:UF:=by
 refine Q7 (λ(n,m1,m,i,u,L,L2,v,r,l,os)=>(m - i).toNat) ?_
 rintro⟨n,m1,m,i,u,L,L2,v,r,l,os⟩ ⟨hr,hm,k,rfl,hk,rfl,Zn⟩;have hr:qg r:=hr;have hm:m<=64:=hm;have Zn:os.length=k:=Zn;by_cases h:(k:Int) < m
 ·have e1:(m - (k:Int)).toNat=(m - ((k+1:Nat):Int)).toNat+1:=au;have h1:=mV hr;have h2:=ZT h1.1.1;have step:∀ {R:Type} (kn:AS->Option R) (kx:Exit->AS->Option R),Mj (n,m1,m,(k:Int),u,L,os.length,v,r,l,os) kn kx=aG (!(EK (Fa (dh r).2).1).2) (kx (pO (0,())).1 (pO (0,())).2) (kn (oX (n,m1,m,((k+1:Nat):Int),u,L,os.length+1,v,(Qu r).2,l,os++ [(Qu r).1]))):=by intro R kn kx;rw[Mn,aT h,kU (d:=r) hr.1];simp only[ak,ah,bz,ra];rw[aeh (d:=(dh r).2) h1.1.1.1];simp only[ah,bz,TU];rw[aiv (d:=(Fa (dh r).2).1) ⟨h2.2.1,h2.2.2⟩];simp only[ah,bz,ak5];rw[aI (aB _),dk au au,N.lh au,bK];rfl
  cases hp:(EK (Fa (dh r).2).1).2
  ·right;refine⟨pO (0,()),?_,λkn kx=> ?_⟩
   ·simp only[kf,oh,e1,zM,hp,bw,bp];rfl
   ·rw[step,hp];rfl
  ·left;refine⟨(n,m1,m,((k+1:Nat):Int),u,L,os.length+1,v,(Qu r).2,l,os++ [(Qu r).1]),⟨h2.1.1,hm,k+1,rfl,au,by rw[ai];rfl,by rw[ai];show os.length+1=_;omega⟩,by show(m - ((k+1:Nat):Int)).toNat < (m - (k:Int)).toNat;omega,?_,λkn kx=> ?_⟩
   ·simp only[kf,oh,e1,zM,hp,bE];cases zM (m - ((k+1:Nat):Int)).toNat (Qu r).2 with
    |none=>rfl
    |some x=>
     simp only[aE,aM,cS];rw[show ∀a c:Nat,a+1+c=a+(c+1) from λa c=>au]
   ·rw[step,hp];rfl
 ·right;have e1:(m - (k:Int)).toNat=0:=au;refine⟨zr ((n,m1,u,L,v,l),(os.length,r,os)),?_,λkn kx=> ?_⟩
  ·simp only[kf,oh,e1,zM,bq,de,bJ];rfl
  ·rw[Mn,aP h,ao]
theorem am4:(iO.kA 3 sT):=by
 refine(iO.nN 3 sT) (λ(n,m1,mo,io,m,i,u,L,L2,v,r,la,op,br,Ls,sc,lb,os,sg)=>(m - i).toNat) ?_
 rintro⟨n,m1,mo,io,m,i,u,L,L2,v,r,la,op,br,Ls,sc,lb,os,sg⟩ ⟨hr,hm,k,rfl,hk,rfl,Zn⟩;have hr:qg r:=hr;have hm:m<=12:=hm;have Zn:sg.length=k:=Zn;by_cases h:(k:Int) < m
 ·left;have e1:(m - (k:Int)).toNat=(m - ((k+1:Nat):Int)).toNat+1:=au;have h1:=Cr hr;have h2:=Cr h1.1;refine⟨(n,m1,mo,io,m,((k+1:Nat):Int),u,L,L2,v,(aK3 r).2,la,op,br,sg.length+1,sc,lb,os,sg++ [(aK3 r).1]),⟨h2.1,hm,k+1,rfl,au,by rw[ai];rfl,by rw[ai];show sg.length+1=_;omega⟩,by show(m - ((k+1:Nat):Int)).toNat < (m - (k:Int)).toNat;omega,?_,λkn kx=> ?_⟩
  ·simp only[zu,E4,e1,AD,aM,cS]
  ·rw[Mt,aT h,aI au,zZ (d:=r) hr.1];simp only[ak,ah,bz,IC];rw[zZ (d:=(mP r).2) h1.1.1];simp only[ah,bz,IC];rw[aI (aB _),dk au au,N.lh au,bK];rfl
 ·right;intro R kn kx;have e1:(m - (k:Int)).toNat=0:=au;rw[Mt,aP h,ao];simp only[zu,E4,e1,AD,bJ,aU,aB,ji,cG,ak,eF]
theorem am3:UH:=by
 refine Q8 (λ(n,m1,m,i,u,L,L2,v,r,l,os)=>l.length - i.toNat) ?_
 rintro⟨n,m1,m,i,u,L,L2,v,r,l,os⟩ ⟨hr,hl,rfl,k,rfl,hk,rfl,rfl,hg⟩;have hr:qg r:=hr;have hl:l.length<=64:=hl;have hk:k<=l.length:=hk;by_cases h:k < l.length
 ·have n1:nth gU l k=l[k]:=cj (t:=gU) h;have hd:l.drop k=l[k]::l.drop (k+1):=aq h;have eK:l[k]=alp l[k].1:=hg _ (by rw[hd];exact aC);obtain⟨op,aGv⟩:∃op,l[k].1=op:=⟨_,rfl⟩;rw[aGv]at eK;have h1:=mV hr;have h2:=afB h1.1.1 12;have h3:=afA h1.1.1.1 (m:=12) eG;have hw:=anq hr;have hu:=Cr hw.1;have Gv:(l.take k).length=k:=by rw[dw];omega
  have step:∀ {R:Type} (kn:AS->Option R) (kx:Exit->AS->Option R),Mo (n,m1,(l.length:Int),(k:Int),u,l.length,os.length,v,r,l,os) kn kx=aG (fL (IV 12 (dh r).2).1 0) (kx (pP (0,())).1 (pP (0,())).2) (kn (oY (n,m1,(l.length:Int),((k+1:Nat):Int),u,l.length,os.length,v,(mP (lr r).2).2,l.take k++(op,((dh r).1,aj (lr r).1,(mP (lr r).2).1,()),())::l.drop (k+1),os))):=by
   intro R kn kx;rw[Mr,aT au,aZ au au,kU (d:=r) hr.1];have ns:∀y:pg,nth gU (l.set k y) k=y:=λy=>ayh (t:=gU) h
   have nm:∀(y:pg) (b:List pg),nth gU (l.take k++y::b) k=y:=λy b=>ayg (t:=gU) Gv
   simp only[ak,ah,bz,ra,aa,aU,de,n1,eK,aI h,cG];rw[CD (d:=(12,(dh r).2)) h1.1.1.1];simp only[ak,ah,bz,E6];refine congrArg (λz=>aG _ _ z) ?_
   simp only[tO,aI h,ak,alp,ns,ajy,ah3,uH];rw[aho (d:=(n,m1,(l.length:Int),(k:Int),(IV 12 (dh r).2).1,0,u,l.length,os.length,v,(IV 12 (dh r).2).2,l.take k,op,(dh r).1,0,(0,()),l.drop (k+1),os,[])) ⟨h2,h3.2,0,rfl,eG,rfl,rfl⟩];simp only[ah,zu,E4,jO,bm];rw[show AD (IV 12 (dh r).2).1.toNat (IV 12 (dh r).2).2=lr r from rfl,zZ (d:=(lr r).2) hw.1.1];simp only[ah,bz,IC,aa,nm,ay0 Gv,aI (show k < (l.take k++(op,((dh r).1,aj (lr r).1,0,()),())::l.drop (k+1)).length by rw[ai,aE];omega),fk,Nat.reduceAdd,cG,ak];rw[N.lh au]
  by_cases hp:(IV 12 (dh r).2).1 < 0
  ·right;refine⟨pP (0,()),?_,λkn kx=> ?_⟩
   ·simp only[kg,om,aa,hd,bM,xL,anr,if_pos hp];rfl
   ·rw[step,aT hp,ak]
  ·left;have afZ:(l.take k++(op,((dh r).1,aj (lr r).1,(mP (lr r).2).1,()),())::l.drop (k+1)).length=l.length:=by rw[ai,aE,gm];omega
   have aL6:(l.take k++(op,((dh r).1,aj (lr r).1,(mP (lr r).2).1,()),())::l.drop (k+1)).drop (k+1)=l.drop (k+1):=by rw[mZ,ph (by rw[ai];show(l.take k).length+1=_;omega)]
   have aOM:(l.take k++(op,((dh r).1,aj (lr r).1,(mP (lr r).2).1,()),())::l.drop (k+1)).take (k+1)=l.take k++ [(op,((dh r).1,aj (lr r).1,(mP (lr r).2).1,()),())]:=by rw[mZ,List.take_left' (by rw[ai];show(l.take k).length+1=_;omega)]
   refine⟨(n,m1,(l.length:Int),((k+1:Nat):Int),u,l.length,os.length,v,(mP (lr r).2).2,l.take k++(op,((dh r).1,aj (lr r).1,(mP (lr r).2).1,()),())::l.drop (k+1),os),⟨hu.1,by rw[afZ];exact hl,rfl,k+1,rfl,by rw[afZ];omega,by rw[afZ],by rw[afZ],by rw[aL6];exact λx hx=>hg x (by rw[hd];exact az _ hx)⟩,by simp only[aa,afZ];omega,?_,λkn kx=> ?_⟩
   ·simp only[kg,om,aa,aL6,aOM,hd,bM,xL,anr,if_neg hp,aGv];cases xL ((l.drop (k+1)).map (·.1)) (mP (lr r).2).2 with
    |none=>rfl
    |some x=>
     simp only[bM,aM,cS];rfl
   ·rw[step,aP hp,ao]
 ·right;obtain rfl:k=l.length:=au;refine⟨zt (n,m1,u,l.length,((aL,os),v),r,l),?_,λkn kx=> ?_⟩
  ·simp only[kg,om,aa,aH,gW,xL,bK,bJ];rfl
  ·rw[Mr,aP au,ao,aI rfl,ak]
theorem aDE:iO.Ok:=by
 rintro b ⟨hb,hl⟩;have hb:Bytes b:=hb;have hl:b.length<=1000000000:=hl;have k0:=ayU hb hl;have k1:=afB k0 64;have u1:=afA k0.1 (m:=64) eG;rw[aDD,Wl (d:=b) hl];simp only[ah,bz,aam,bz,afc,Q0];rw[CD (d:=(64,(b,aS,()))) k0.1];simp only[ah,bz,E6];generalize IV 64 (b,aS,())=n at*;have o2:=alw n.1.toNat k1;rw[ahk (d:=(n.1,n.1,0,(0,()),0,(0,()),n.2,[])) ⟨k1,u1.2,0,rfl,eG,rfl,rfl⟩];simp only[ah,zp,E3,jO,bm,aU];generalize Ft n.1.toNat n.2=ops at*;have k3:=afB o2.1.1 64;have u3:=afA o2.1.1.1 (m:=64) eG;rw[CD (d:=(64,ops.2)) o2.1.1.1];simp only[ah,bz,E6];generalize IV 64 ops.2=m at*;rw[ahl (d:=(n.1,m.1,m.1,0,(0,()),n.1.toNat,0,(0,()),m.2,ops.1.map alp,[])) ⟨k3,u3.2,0,rfl,eG,rfl,rfl⟩];simp only[ah,kf,oh,jO,bm,aU];cases hx:zM m.1.toNat m.2 with
 |none=>rfl
 |some x=>
  have o4:=acY _ k3 hx;have o5:=mV o4.1.1;have ol:(ops.1.map alp).length=n.1.toNat:=by rw[List.length_map];exact o2.2.1
  simp only[dN,cV,ao,ah];rw[kU (d:=x.2) o4.1.1.1];simp only[ah,bz,ra];rw[ahm (d:=(n.1,m.1,(n.1.toNat:Int),0,(0,()),n.1.toNat,x.1.length,((dh x.2).1,()),(dh x.2).2,ops.1.map alp,x.1)) ⟨o5.1.1,by rw[ol];omega,rfl,0,rfl,aK _,by rw[ol],by rw[ol],λz hz=>by
   rw[aO]at hz;obtain⟨o,_,rfl⟩:=eu.1 hz;rfl⟩]
  simp only[ah,kg,om,aW,aO,fe,bm,ax8,aya];cases hy:xL ops.1 (dh x.2).2 with
  |none=>rfl
  |some y=>
   have o6:=afD _ o5.1.1 hy;have yl:y.1.length=n.1.toNat:=by rw[<-o2.2.1,<-o6.2.1,List.length_map]
   have yl2:(y.1.map aRT).length=n.1.toNat:=by rw[List.length_map];exact yl
   simp only[dN,cV,ao,ah,axI];by_cases c1:n.1 < 0
   ·rw[aT c1,ak,if_pos (jH c1)];rfl
   rw[aP c1,ao];by_cases c2:m.1 < 0
   ·rw[aT c2,ak,if_pos (ej (jH c2))];rfl
   rw[aP c2,ao,arx (d:=y.2) trivial];simp only[ah,aen,avY,Bool.not_not];cases c3:y.2.2.1
   ·rw[ao,ai8 (d:=y.2) trivial];simp only[ah,Wg,amC];by_cases c4:0 < y.2.1.length
    ·rw[dj au,ak,if_pos (ej (ej (ej (jH c4))))];rfl
    ·rw[cw au,ao,aI ⟨by trivial,au⟩,aHp,eF yl2,aFJ,aKB];simp only[ak];rw[kX (d:=(y.1,x.1,(dh x.2).1,())) ⟨λo ho=>(o4.2.2 o ho).2.2,by show y.1.length<=_;omega,by show x.1.length<=_;have:=o4.2.1;omega⟩];simp only[ah,bz,nG];cases c5:gv (y.1,x.1,(dh x.2).1,())
     ·rw[if_pos (ej (ej (ej (ej (by trivial)))))];rfl
     ·rw[if_neg (by
       rintro(z | z | z | z | z)
       ·exact c1 z
       ·exact c2 z
       ·cases z
       ·exact c4 z
       ·cases z)]
      rfl
   ·rw[ak,if_pos (ej (ej (jH (by trivial))))];rfl
theorem awM:iO.RS:=rE [.d tB] iO
def aDF:=iO.fI aDE 4 ⟨.eW am1,⟨.eW am2,⟨.eW am3,⟨.eW am4,trivial⟩⟩⟩⟩
def au7:cR->Prop:=λt=>xx t/\gv t=aL
def adl:cR->ajJ:=λt=>aTE t
def QF:Fs Tryz.prog au7 bz adl:=fu 29 Tryz.f29 (λt=>([.d dz t],[])) (λx=>⟨.d DR x,[],[]⟩) [aj dz] [ajz,aDF] {res:=[aj DR]}
theorem aBO(t)(k:K1 R):QF.A t k=al (vc.call t) λx1=>al (iO.call x1) λx2=>k (QF.out x2.1):=cf
theorem aBP:QF.Ok:=by rintro t ⟨hv,gb⟩;have bl:=ajF hv;rw[aBO,aeZ (d:=t) hv];simp only[ah,bz,Ux];rw[awM (d:=aK4 t) ⟨bl.1,by have:=bl.2;omega⟩];simp only[ah,bz,afc,bz,adl];rw[aei hv gb]
theorem au8:QF.RS:=rE [.d dz] QF
def aBQ:=QF.fI aBP
abbrev QR:=Nat×(List bN)×Int×Int×(Int×((List bN)×Unit))×Nat×(List (cr×fj))×(List cI)×(List ajJ)
abbrev adH:=Nat×(List ajJ)
def B4:QR->adH->(((Int×((List bN)×Unit))×Nat×(List (cr×fj))×(List cI))×(Nat×(List ajJ))):=λ(outL,t9,t10,t11,o0,o1L,eZ,gJ,auq) y=>((o0,o1L,eZ,gJ),y)
abbrev ayP:=(Int×((List bN)×Unit))×Nat×(List (cr×fj))×(List cI)
def aD1(x:bN):ajJ:=aTE (Gd x)
def amc:QR->Prop:=λ(m,l,n,i,_,_,_,_,r)=>s5 l/\n=(l.length:Int)/\m=r.length/\∃k:Nat,k<=l.length/\i=k/\r.length=k
def Ij:QR->adH:=λ(m,l,_,i,_,_,_,_,r)=>(m+(l.drop i.toNat).length,r++(l.drop i.toNat).map aD1)
def aCh:ayP->Prop:=λ(p,_)=>s5 p.2.1
def amb:ayP->(Nat×(Int×((List bN)×Unit))×Nat×(List (cr×fj))×(List cI)×(List ajJ)):=λ(p,n,a,s)=>(p.2.1.length,p,n,a,s,p.2.1.map aD1)
def wM:Ls amc B4 Ij:=te (λ(outL,t9,t10,t11,o0,o1L,eZ,gJ,auq)=>⟨([bC,bC,bC,je 12 outL]++aQ 5 ([.d (.slice cd) t9,.d ti t10,.d ti t11]++aQ 13 [])),[cO (.pr (.ptr (.bW 1) 0 [] 0) (.d (.pair ti (.pair (.slice cd) .unit)) o0)),cO (.pr (.cK (.bW 2) 0) (.pr (.cg (.bW 3) 0 [] 0 0 o1L) jL)),cO (.mp bX fh eZ),cO (.vec 95 cv gJ)],(bk 12 ([cJ (.vec 26 DR auq)]++bk 12 []))⟩) (λx=>(.exit 0,⟨([bC,bC,bC,je 12 x.2.1]++aQ 21 []),[cO (.pr (.ptr (.bW 1) 0 [] 0) (.d (.pair ti (.pair (.slice cd) .unit)) x.1.1)),cO (.pr (.cK (.bW 2) 0) (.pr (.cg (.bW 3) 0 [] 0 0 x.1.2.1) jL)),cO (.mp bX fh x.1.2.2.1),cO (.vec 95 cv x.1.2.2.2)],(bk 12 ([cJ (.vec 26 DR x.2.2)]++bk 12 []))⟩))
def wK:Fs Tryz.prog aCh bz amb:=fu 10 Tryz.f10 (λ(o0b,o1baL,o2,o3)=>([.ptr (.bW 0) 0 [] 0],[.obj 0 aS (.pr (.ptr (.bW 1) 0 [] 0) (.d (.pair ti (.pair (.slice cd) .unit)) o0b)),.obj 0 aS (.pr (.cK (.bW 2) 0) (.pr (.cg (.bW 3) 0 [] 0 0 o1baL) (.d .unit ()))),.obj 0 aS (.mp bX fh o2),.obj 0 aS (.vec 95 cv o3)])) (λx=>⟨.cg (.new 0 0) 0 [] 0 0 x.1,[.obj 0 aS (.pr (.ptr (.bW 1) 0 [] 0) (.d (.pair ti (.pair (.slice cd) .unit)) x.2.1)),.obj 0 aS (.pr (.cK (.bW 2) 0) (.pr (.cg (.bW 3) 0 [] 0 0 x.2.2.1) (.d .unit ()))),.obj 0 aS (.mp bX fh x.2.2.2.1),.obj 0 aS (.vec 95 cv x.2.2.2.2.1)],[.obj 0 aS (.vec 26 DR x.2.2.2.2.2)]⟩) [aF] [aBQ] {loops:=oI [(3,{aV:=[3,9,10,11],sites:=[12],owns:=[⟨3,[],12,39⟩],aW8:=[((.new 12 0),DR)]})],outs:=oH [(3,{aV:=[3],sites:=[12]},{aV:=[2]})],fE:=pW [(3,wM.E)]}
theorem amd:wM.RS:=rL [.n,.d (.slice cd),.d ti,.d ti,.d (.pair ti (.pair (.slice cd) .unit)),.n,.d (.slice (.pair bX fh)),.d (.slice cv),.d (.slice DR)] wM
theorem OK(outL t9 t10 t11 o0 o1L eZ gJ auq)(kn:K2 R)(kx:K3 R):wK.R 0 wM (outL,t9,t10,t11,o0,o1L,eZ,gJ,auq) kn kx=aG (fL t11 t10) (aG (eE t11 (t9.length:Int)) (al ((nth cd t9 (ab t11))) λx1=>al (QF.call x1.2.1) λx2=>aG (decide (outL<=(List.length auq))) (aG (dd (outL+1) 56) (kn (wM.st ((outL+1),t9,t10,(bA .i64 t11 1),o0,o1L,eZ,gJ,((aJ outL auq)++ [x2])))) aF) aF) aF) (wM.go kx ((o0,o1L,eZ,gJ),(outL,auq))):=cf
theorem aIW(o0b o1baL o2 o3)(k:K1 R):wK.A (o0b,o1baL,o2,o3) k=al (wM.call (0,o0b.2.1,(o0b.2.1.length:Int),0,o0b,o1baL,o2,o3,([]:List ajJ))) λx3=>k (wK.out (x3.2.1,x3.1.1,x3.1.2.1,x3.1.2.2.1,x3.1.2.2.2,x3.2.2)):=cf
theorem aqQ:(wK.kA 0 wM):=by
 refine(wK.nN 0 wM) (λ(_,l,_,i,_)=>l.length - i.toNat) ?_
 rintro⟨m,l,n,i,p,c,a,s,r⟩ ⟨hr,rfl,rfl,k,hk,rfl,hm⟩;have hl:l.length<=90:=hr.1;have hk:k<=l.length:=hk;have hm:r.length=k:=hm;by_cases h:k < l.length
 ·left;have n1:nth cd l k=l[k]:=cj (t:=cd) h;have hd:l.drop k=l[k]::l.drop (k+1):=aq h;obtain⟨w,hw,hv,gb,_⟩:=hr.2 _ (aR h);refine⟨(r.length+1,l,(l.length:Int),((k+1:Nat):Int),p,c,a,s,r++ [aTE w.2.1]),⟨hr,rfl,by rw[ai];rfl,k+1,h,rfl,by rw[ai];show r.length+1=_;omega⟩,by simp only[aa];omega,?_,λkn kx=> ?_⟩
  ·have e:aD1 l[k]=aTE w.2.1:=by rw[hw];rfl
   simp only[B4,Ij,aa,hd,bM,e,aE,aM,cS];rw[show ∀a c:Nat,a+1+c=a+(c+1) from λa c=>au]
  ·rw[OK,aT au,ak,aZ au au,ak,aa,n1,hw,ah,au8 (d:=w.2.1) ⟨hv,gb⟩];simp only[ah,bz,adl];rw[aI (aB _),ak,dk au au,ak,N.lh au,bK]
 ·right;obtain rfl:k=l.length:=au;intro T kn kx;rw[OK,aP au,ao];simp only[B4,Ij,aa,aH,gW,bJ,bq,de]
theorem aIX:wK.Ok:=by rintro⟨p,n,a,s⟩ hr;rw[aIW,amd (d:=(0,p.2.1,(p.2.1.length:Int),0,p,n,a,s,[])) ⟨hr,rfl,rfl,0,aK _,rfl,rfl⟩];simp only[ah,B4,Ij,aW,aO,bm,aU,bz,amb]
theorem Nj:wK.RS:=rE [.d (.pair ti (.pair (.slice cd) .unit)),.n,.d (.slice (.pair bX fh)),.d (.slice cv)] wK
def aqR:=wK.fI aIX 1 ⟨.eW aqQ,trivial⟩
abbrev aId:=Bs×(Int×((List bN)×Unit))×Nat×(List (cr×fj))×(List cI)
abbrev aIf:=Int×Bool×(Int×((List bN)×Unit))×Nat×(List (cr×fj))×(List cI)
def aIe:aId->Prop:=λ(_,p,_)=>asP p.2.1/\p.2.1.length<=1000
def auZ:aId->aIf:=λ(id,p,n,a,s)=>(match lU id p.2.1 with | some x=>Zl x | none=>0,(lU id p.2.1).isSome,p,n,a,s)
def agr:Fs Tryz.prog aIe bz auZ:=fu 20 Tryz.f20 (λ(id,o0b,o1baL,o2,o3)=>([.ptr (.bW 0) 0 [] 0,.d tH id],[.obj 0 aS (.pr (.ptr (.bW 1) 0 [] 0) (.d (.pair ti (.pair (.slice cd) .unit)) o0b)),.obj 0 aS (.pr (.cK (.bW 2) 0) (.pr (.cg (.bW 3) 0 [] 0 0 o1baL) (.d .unit ()))),.obj 0 aS (.mp bX fh o2),.obj 0 aS (.vec 95 cv o3)])) (λx=>⟨.cons (.d ti x.1) (.cons (.d .bool x.2.1) (.nil)),[.obj 0 aS (.pr (.ptr (.bW 1) 0 [] 0) (.d (.pair ti (.pair (.slice cd) .unit)) x.2.2.1)),.obj 0 aS (.pr (.cK (.bW 2) 0) (.pr (.cg (.bW 3) 0 [] 0 0 x.2.2.2.1) (.d .unit ()))),.obj 0 aS (.mp bX fh x.2.2.2.2.1),.obj 0 aS (.vec 95 cv x.2.2.2.2.2)],[]⟩) [aF,aj tH] [aqq]
theorem aNa(id o0b o1baL o2 o3)(k:K1 R):agr.A (id,o0b,o1baL,o2,o3) k=al (QA (id,o0b,o1baL,o2,o3)) λx1=>aG x1.isLeft (al x1.getLeft? λasH=>aG (Option.isNone asH.1) (k (agr.out (0,aS,asH.2.1,asH.2.2.1,asH.2.2.2.1,asH.2.2.2.2))) (al (asH.1) λx2=>k (agr.out (x2.2.2.2.1,aL,asH.2.1,asH.2.2.1,asH.2.2.2.1,asH.2.2.2.2)))) (al x1.getRight? λaOf=>k (agr.out (0,aS,aOf.1,aOf.2.1,aOf.2.2.1,aOf.2.2.2))):=cf
theorem aNb:agr.Ok:=by
 rintro⟨id,p,n,a,s⟩ ⟨hs,hl⟩;rw[aNa,aiS (d:=(id,p,n,a,s)) ⟨hs,hl⟩];simp only[ah,CB,Nf,bz,auZ];cases h:lU id p.2.1 with
 |none=>rfl
 |some x=>
  have hx:x.isSome=aL:=hs _ (List.mem_of_find?_eq_some h);obtain⟨w,rfl⟩:=Option.isSome_iff_exists.1 hx;rfl
theorem aIg:agr.RS:=rE [.d tB,.d (.pair ti (.pair (.slice cd) .unit)),.n,.d (.slice (.pair bX fh)),.d (.slice cv)] agr
def aNc:=agr.fI aNb
theorem aEM(t:Ty)(x:t.den)(h:t.comp=aL):t.beq x x=aL:=beq_refl t x h
theorem axk(t:Ty)(hc:t.comp=aL)(x y:t.den) [Decidable (x=y)]:t.beq x y=decide (x=y):=by
 by_cases h:x=y
 ·subst h;rw[aI rfl,aEM t x hc]
 ·rw[aN h];cases hb:t.beq x y
  ·rfl
  ·exact absurd (beq_eq t x y hc hb) h
theorem aEN(x y:Sg):Ty.beq xn x y=decide (x=y):= @axk xn rfl x y (inferInstanceAs (Decidable (x=y)))
theorem aEL(x y:cr):Ty.beq bX x y=decide (x=y):= @axk bX rfl x y (inferInstanceAs (Decidable (x=y)))
abbrev He:=(List Sg)×(List Sg)×Int×Int
def u7:He->AS:=λ(DM,kW,t12,t13)=>⟨([.d (.slice xn) DM,.d (.slice xn) kW]++aQ 10 ([.d ti t12,.d ti t13]++aQ 12 [])),[],(ae 26 [])⟩
def vN:Unit->Exit×AS:=λx=>(.ret,⟨(aQ 4 ([.d .bool aS]++aQ 21 [])),[],(ae 26 [])⟩)
def EU:Unit->Exit×AS:=λx=>(.exit 0,⟨(aQ 26 []),[],(ae 26 [])⟩)
abbrev Wy:=(Unit)⊕(Unit)
abbrev ajo:=(Unit)⊕(Unit)
def LN:Wy->Out (Exit×AS):=λx=> .br x.isLeft (.get x.getLeft? λa=> .ok (vN a)) (.get x.getRight? λb=> .ok (EU b))
def oe:He->ajo->Wy:=λ(DM,kW,t12,t13) y=>match y with | .inl y=> .inl y | .inr z=> .inr (z)
abbrev aJQ:=(List Sg)×(List Sg)
def ET:He->Prop:=λ(a,b,m,i)=>a.length<=1000000000/\a.length=b.length/\m=a.length/\∃k:Nat,k<=a.length/\i=k
def vM:He->ajo:=λ(a,b,m,i)=>if a.drop i.toNat=b.drop i.toNat then .inr () else .inl ()
def aJR:aJQ->Prop:=λ(a,b)=>a.length<=1000000000
def awh:aJQ->Bool:=λ(a,b)=>decide (a=b)
def ajn:=du.eW u7 ET oe vM LN
def Um:He->Option Wy:=fP ajn u7
def Ww:Fs Tryz.prog aJR bz awh:=fu 46 Tryz.f46 (λ(s1,s2)=>([.d (.slice xn) s1,.d (.slice xn) s2],[])) (λx=>⟨.d .bool x,[],[]⟩) [aj (.slice xn),aj (.slice xn)] [] {loops:=oI [(4,{aV:=[0,1,12,13]})],outs:=oH [(4,{},{aV:=[4]})],fE:=pW [(4,ajn)]}
def Wx:= @dV Tryz.prog (jB Ww.G) Ww.an 0 Tryz.f46 0 _ u7
abbrev aeF:=jh Tryz.prog (jB Ww.G) Ww.an 0 Tryz.f46 0 u7 ET oe vM LN
theorem arS:iy Um ET oe vM:=kz (jC [.d (.slice xn),.d (.slice xn),.d ti,.d ti] λ_=>cf)
theorem Wz:mY @Wx u7 ET oe vM LN aeF:=nJ
theorem Un(DM kW t12 t13)(kn:K2 R)(kx:K3 R):Wx (DM,kW,t12,t13) kn kx=aG (fL t13 t12) (aG (eE t13 (((List.length DM):Nat):Int)) (aG (eE t13 (((List.length kW):Nat):Int)) (aG (!(Ty.beq xn (nth xn DM (ab t13)) (nth xn kW (ab t13)))) (kx (vN ()).1 (vN ()).2) (kn (u7 (DM,kW,t12,(bA .i64 t13 (1:Int)))))) aF) aF) (kx (EU ()).1 (EU ()).2):=cf
theorem aNP(s1 s2)(k:K1 R):Ww.A (s1,s2) k=aG (Cw (s1.length:Int) (s2.length:Int)) (k (Ww.out aS)) (al (Um (s1,s2,(s1.length:Int),0)) λx1=>aG x1.isLeft (al x1.getLeft? λa2=>k (Ww.out aS)) (al x1.getRight? λb3=>k (Ww.out aL))):=cf
theorem awi:aeF:=by
 refine Wz (λ(a,b,m,i)=>a.length - i.toNat) ?_
 rintro⟨a,b,m,i⟩ ⟨hl,vQ,rfl,k,hk,rfl⟩;have hl:a.length<=1000000000:=hl;have vQ:a.length=b.length:=vQ;have hk:k<=a.length:=hk;by_cases h:k < a.length
 ·have h2:k < b.length:=au;have n1:nth xn a k=a[k]:=cj (t:=xn) h;have n2:nth xn b k=b[k]:=cj (t:=xn) h2;have hd:(a.drop k=b.drop k)=(a[k]=b[k]/\a.drop (k+1)=b.drop (k+1)):=by rw[aq h,aq h2,ct]
  have step:∀ {R:Type} (kn:AS->Option R) (kx:Exit->AS->Option R),Wx (a,b,(a.length:Int),(k:Int)) kn kx=if a[k]=b[k] then kn (u7 (a,b,(a.length:Int),((k+1:Nat):Int))) else kx (vN ()).1 (vN ()).2:=by
   intro R kn kx;rw[Un,aT au,aZ au au,aZ au au,aa,n1,n2,N.lh au];simp only[ak];rw[aEN];by_cases hx:a[k]=b[k]
   ·rw[aI hx,if_pos hx];rfl
   ·rw[aN hx,if_neg hx];rfl
  by_cases hx:a[k]=b[k]
  ·left;refine⟨(a,b,(a.length:Int),((k+1:Nat):Int)),⟨hl,vQ,rfl,k+1,au,rfl⟩,by simp only[aa];omega,?_,λkn kx=> ?_⟩
   ·simp only[oe,vM,aa,hd,hx,iw]
   ·rw[step,if_pos hx]
  ·right;refine⟨vN (),?_,λkn kx=> ?_⟩
   ·simp only[oe,vM,aa,hd,hx,pB,bp];rfl
   ·rw[step,if_neg hx]
 ·right;obtain rfl:k=a.length:=au;refine⟨EU (),?_,λkn kx=> ?_⟩
  ·simp only[oe,vM,aa,aH];rw[vQ,aH,if_pos rfl];rfl
  ·rw[Un,aP au,ao]
theorem aNQ:Ww.Ok:=by
 rintro⟨a,b⟩ hl;rw[aNP];simp[awh];by_cases h:a.length=b.length
 ·rw[cz au,arS (d:=(a,b,(a.length:Int),0)) ⟨hl,h,rfl,0,aK _,rfl⟩];simp[oe,vM];by_cases hx:a=b
  all_goals simp_all
 ·rw[eA au,aN (λx=>h (by rw[x]))];rfl
theorem aJS:Ww.RS:=rE [.d (.slice xn),.d (.slice xn)] Ww
def aNR:=Ww.fI aNQ 1 ⟨.eW awi,trivial⟩
def awO:(gK×gK)->Prop:=λ(x,y)=>x.2.1.2.1.length<=1000000000
def afk:(gK×gK)->Bool:=λ(x,y)=>decide (x=y)
def F9:Fs Tryz.prog awO bz afk:=fu 45 Tryz.f45 (λ(x,yv)=>([.d fo x,.d fo yv],[])) (λx=>⟨.d .bool x,[],[]⟩) [aj fo,aj fo] [aNR]
theorem aDK(x yv)(k:K1 R):F9.A (x,yv) k=aG (Ty.beq bX x.1 yv.1) (aG (AP x.2.1.1 yv.2.1.1) (aG (AP x.2.1.2.2.1 yv.2.1.2.2.1) (al (Ww.call (x.2.1.2.1,yv.2.1.2.1)) λx1=>k (F9.out x1)) (k (F9.out aS))) (k (F9.out aS))) (k (F9.out aS)):=cf
theorem aDL:F9.Ok:=by
 rintro⟨⟨f1,⟨b1,s1,c1,u1⟩,v1⟩,⟨f2,⟨b2,s2,c2,u2⟩,v2⟩⟩ h;have h:s1.length<=1000000000:=h;rw[aDK,aJS (d:=(s1,s2)) h,aEL];simp only[ah,bz,awh,bz,afk];by_cases e1:f1=f2
 ·by_cases e2:b1=b2
  ·by_cases e3:c1=c2
   ·by_cases e4:s1=s2
    ·rw[aI e1,eU e2,eU e3,aI e4,aI (by rw[e1,e2,e3,e4])];rfl
    ·rw[aI e1,eU e2,eU e3,aN e4,aN (by rintro⟨⟩;exact e4 rfl)];rfl
   ·rw[aI e1,eU e2,fU e3,aN (p:=(f1,(b1,s1,c1,u1),v1)=(f2,(b2,s2,c2,u2),v2)) (by rintro⟨⟩;exact e3 rfl)];rfl
  ·rw[aI e1,fU e2,aN (p:=(f1,(b1,s1,c1,u1),v1)=(f2,(b2,s2,c2,u2),v2)) (by rintro⟨⟩;exact e2 rfl)];rfl
 ·rw[aN e1,aN (p:=(f1,(b1,s1,c1,u1),v1)=(f2,(b2,s2,c2,u2),v2)) (by rintro⟨⟩;exact e1 rfl)];rfl
theorem awP:F9.RS:=rE [.d fo,.d fo] F9
def aDM:=F9.fI aDL
def awQ:(pZ×pZ)->Prop:=λ(x,z)=>x.1.length<=1000000000
def afl:(pZ×pZ)->Bool:=λ(x,z)=>decide (x=z)
def Ga:Fs Tryz.prog awQ bz afl:=fu 47 Tryz.f47 (λ(x,yv)=>([.d iS x,.d iS yv],[])) (λx=>⟨.d .bool x,[],[]⟩) [aj iS,aj iS] [aQY]
theorem aDN(x yv)(k:K1 R):Ga.A (x,yv) k=aG (AP x.2.1 yv.2.1) (aG (AP x.2.2.1 yv.2.2.1) (aG (AP x.2.2.2.1 yv.2.2.2.1) (al (aBC.call (x.1,yv.1)) λx1=>k (Ga.out x1)) (k (Ga.out aS))) (k (Ga.out aS))) (k (Ga.out aS)):=cf
theorem aDO:Ga.Ok:=by
 rintro⟨⟨k1,a1,d1,s1,u1⟩,⟨k2,a2,d2,s2,u2⟩⟩ h;have h:k1.length<=1000000000:=h;rw[aDN,aM9 (d:=(k1,k2)) h];simp only[ah,bz,aIc,bz,afl];by_cases e1:k1=k2
 ·by_cases e2:a1=a2
  ·by_cases e3:d1=d2
   ·by_cases e4:s1=s2
    ·rw[aI e1,eU e2,eU e3,eU e4,aI (by rw[e1,e2,e3,e4])];rfl
    ·rw[eU e2,eU e3,fU e4,aN (p:=(k1,a1,d1,s1,u1)=(k2,a2,d2,s2,u2)) (by rintro⟨⟩;exact e4 rfl)];rfl
   ·rw[eU e2,fU e3,aN (p:=(k1,a1,d1,s1,u1)=(k2,a2,d2,s2,u2)) (by rintro⟨⟩;exact e3 rfl)];rfl
  ·rw[fU e2,aN (p:=(k1,a1,d1,s1,u1)=(k2,a2,d2,s2,u2)) (by rintro⟨⟩;exact e2 rfl)];rfl
 ·rw[aN e1,aN (p:=(k1,a1,d1,s1,u1)=(k2,a2,d2,s2,u2)) (by rintro⟨⟩;exact e1 rfl)];cases AP a1 a2 <;> cases AP d1 d2 <;> cases AP s1 s2 <;> rfl
theorem awR:Ga.RS:=rE [.d iS,.d iS] Ga
def aDP:=Ga.fI aDO
abbrev CM:=(List pZ)×(List pZ)×Int×Int
def qu:CM->AS:=λ(kW,t15,t16,t17)=>⟨([bC,.d (.slice iS) kW,.fn 47 (.nil)]++aQ 12 ([.d (.slice iS) t15,.d ti t16,.d ti t17]++aQ 14 [])),[],(ae 32 [])⟩
def rQ:Unit->Exit×AS:=λx=>(.ret,⟨(aQ 6 ([.d .bool aS]++aQ 25 [])),[],(ae 32 [])⟩)
def A3:Unit->Exit×AS:=λx=>(.exit 0,⟨(aQ 32 []),[],(ae 32 [])⟩)
abbrev Pv:=(Unit)⊕(Unit)
abbrev aaL:=(Unit)⊕(Unit)
def Hp:Pv->Out (Exit×AS):=λx=> .br x.isLeft (.get x.getLeft? λa=> .ok (rQ a)) (.get x.getRight? λb=> .ok (A3 b))
def lO:CM->aaL->Pv:=λ(kW,t15,t16,t17) y=>match y with | .inl y=> .inl y | .inr z=> .inr (z)
abbrev axr:=(List pZ)×(List pZ)
def A2:CM->Prop:=λ(b,a,m,i)=>(a.length<=1000000000/\∀x∈a,x.1.length<=1000000000)/\a.length=b.length/\m=a.length/\∃k:Nat,k<=a.length/\i=k
def qt:CM->aaL:=λ(b,a,m,i)=>if a.drop i.toNat=b.drop i.toNat then .inr () else .inl ()
def azB:axr->Prop:=λ(a,b)=>a.length<=1000000000/\∀x∈a,x.1.length<=1000000000
def ajV:axr->Bool:=λ(a,b)=>decide (a=b)
def aaK:=du.eW qu A2 lO qt Hp
def NP:CM->Option Pv:=fP aaK qu
def Gi:Fs Tryz.prog azB bz ajV:=fu 50 Tryz.f50 (λ(s1,s2)=>([.d (.slice iS) s1,.d (.slice iS) s2,.fn 47 (.nil)],[])) (λx=>⟨.d .bool x,[],[]⟩) [aj (.slice iS),aj (.slice iS),aF] [aDP] {loops:=oI [(4,{aV:=[1,2,15,16,17]})],outs:=oH [(4,{},{aV:=[6]})],fE:=pW [(4,aaK)]}
def Pu:= @dV Tryz.prog (jB Gi.G) Gi.an 0 Tryz.f50 0 _ qu
abbrev WS:=jh Tryz.prog (jB Gi.G) Gi.an 0 Tryz.f50 0 qu A2 lO qt Hp
theorem ajW:iy NP A2 lO qt:=kz (jC [.d (.slice iS),.d (.slice iS),.d ti,.d ti] λ_=>cf)
theorem RA:mY @Pu qu A2 lO qt Hp WS:=nJ
theorem NQ(kW t15 t16 t17)(kn:K2 R)(kx:K3 R):Pu (kW,t15,t16,t17) kn kx=aG (fL t17 t16) (aG (eE t17 (((List.length t15):Nat):Int)) (aG (eE t17 (((List.length kW):Nat):Int)) (al (Ga.call ((nth iS t15 (ab t17)),(nth iS kW (ab t17)))) λx1=>aG (!x1) (kx (rQ ()).1 (rQ ()).2) (kn (qu (kW,t15,t16,(bA .i64 t17 (1:Int)))))) aF) aF) (kx (A3 ()).1 (A3 ()).2):=cf
theorem aEX(s1 s2)(k:K1 R):Gi.A (s1,s2) k=aG (Cw (s1.length:Int) (s2.length:Int)) (k (Gi.out aS)) (al (NP (s2,s1,(s1.length:Int),0)) λx2=>aG x2.isLeft (al x2.getLeft? λa3=>k (Gi.out aS)) (al x2.getRight? λb4=>k (Gi.out aL))):=cf
theorem anZ:WS:=by
 refine RA (λ(b,a,m,i)=>a.length - i.toNat) ?_
 rintro⟨b,a,m,i⟩ ⟨⟨hl,he⟩,vQ,rfl,k,hk,rfl⟩;have hl:a.length<=1000000000:=hl;have vQ:a.length=b.length:=vQ;have hk:k<=a.length:=hk;by_cases h:k < a.length
 ·have h2:k < b.length:=au;have n1:nth iS a k=a[k]:=cj (t:=iS) h;have n2:nth iS b k=b[k]:=cj (t:=iS) h2;have hd:(a.drop k=b.drop k)=(a[k]=b[k]/\a.drop (k+1)=b.drop (k+1)):=by rw[aq h,aq h2,ct]
  have step:∀ {R:Type} (kn:AS->Option R) (kx:Exit->AS->Option R),Pu (b,a,(a.length:Int),(k:Int)) kn kx=if a[k]=b[k] then kn (qu (b,a,(a.length:Int),((k+1:Nat):Int))) else kx (rQ ()).1 (rQ ()).2:=by
   intro R kn kx;rw[NQ,aT au,aZ au au,aZ au au,aa,n1,n2,N.lh au,awR (d:=(a[k],b[k])) (he _ (aR h))];simp only[ak,ah,bz,afl];by_cases hx:a[k]=b[k]
   ·rw[aI hx,if_pos hx];rfl
   ·rw[aN hx,if_neg hx];rfl
  by_cases hx:a[k]=b[k]
  ·left;refine⟨(b,a,(a.length:Int),((k+1:Nat):Int)),⟨⟨hl,he⟩,vQ,rfl,k+1,au,rfl⟩,by simp only[aa];omega,?_,λkn kx=> ?_⟩
   ·simp only[lO,qt,aa,hd,hx,iw]
   ·rw[step,if_pos hx]
  ·right;refine⟨rQ (),?_,λkn kx=> ?_⟩
   ·simp only[lO,qt,aa,hd,hx,pB,bp];rfl
   ·rw[step,if_neg hx]
 ·right;obtain rfl:k=a.length:=au;refine⟨A3 (),?_,λkn kx=> ?_⟩
  ·simp only[lO,qt,aa,aH];rw[vQ,aH,if_pos rfl];rfl
  ·rw[NQ,aP au,ao]
theorem aEY:Gi.Ok:=by
 rintro⟨a,b⟩ hl;have aWK:a.length<=1000000000:=hl.1;rw[aEX];simp only[bz,ajV];by_cases h:a.length=b.length
 ·rw[cz au,ao,ajW (d:=(b,a,(a.length:Int),0)) ⟨hl,h,rfl,0,aK _,rfl⟩];simp only[ah,lO,qt,aW,aO];by_cases hx:a=b
  ·rw[if_pos hx,aI hx];rfl
  ·rw[if_neg hx,aN hx];rfl
 ·rw[eA au,aN (λx=>h (by rw[x]))];rfl
theorem azC:Gi.RS:=rE [.d (.slice iS),.d (.slice iS)] Gi
def aEZ:=Gi.fI aEY 1 ⟨.eW anZ,trivial⟩
def awS:(gX×gX)->Prop:=λ(x,y)=>x.2.1.1.length<=1000000000/\∀b∈x.2.1.1,b.1.length<=1000000000
def afm:(gX×gX)->Bool:=λ(x,y)=>decide (x=y)
def MC:Fs Tryz.prog awS bz afm:=fu 49 Tryz.f49 (λ(x,yv)=>([.d fJ x,.d fJ yv,.ptr (.bW 0) 0 [] 0],[.obj 0 aS (.fn 47 (.nil))])) (λx=>⟨.d .bool x,[.obj 0 aS (.fn 47 (.nil))],[]⟩) [aj fJ,aj fJ,aF] [aEZ]
theorem aDQ(x yv)(k:K1 R):MC.A (x,yv) k=aG (AP x.1 yv.1) (al (Gi.call (x.2.1.1,yv.2.1.1)) λx1=>k (MC.out x1)) (k (MC.out aS)):=cf
theorem aDR:MC.Ok:=by
 rintro⟨⟨n1,⟨b1,w1⟩,u1⟩,⟨n2,⟨b2,w2⟩,u2⟩⟩ h;rw[aDQ,azC (d:=(b1,b2)) h];simp only[ah,bz,ajV,bz,afm];by_cases e1:n1=n2
 ·by_cases e2:b1=b2
  ·rw[eU e1,aI e2,aI (by rw[e1,e2])];rfl
  ·rw[eU e1,aN e2,aN (by rintro⟨⟩;exact e2 rfl)];rfl
 ·rw[fU e1,aN (p:=(n1,(b1,w1),u1)=(n2,(b2,w2),u2)) (by rintro⟨⟩;exact e1 rfl)];rfl
theorem awT:MC.RS:=rE [.d fJ,.d fJ] MC
def aDS:=MC.fI aDR
abbrev Gy:=(List gK)×(List gK)×Int×Int
def uR:Gy->AS:=λ(kW,t15,t16,t17)=>⟨([bC,.d (.slice fo) kW,.fn 45 (.nil)]++aQ 12 ([.d (.slice fo) t15,.d ti t16,.d ti t17]++aQ 14 [])),[],(ae 32 [])⟩
def vo:Unit->Exit×AS:=λx=>(.ret,⟨(aQ 6 ([.d .bool aS]++aQ 25 [])),[],(ae 32 [])⟩)
def Eo:Unit->Exit×AS:=λx=>(.exit 0,⟨(aQ 32 []),[],(ae 32 [])⟩)
abbrev Vz:=(Unit)⊕(Unit)
abbrev aiq:=(Unit)⊕(Unit)
def Kd:Vz->Out (Exit×AS):=λx=> .br x.isLeft (.get x.getLeft? λa=> .ok (vo a)) (.get x.getRight? λb=> .ok (Eo b))
def nS:Gy->aiq->Vz:=λ(kW,t15,t16,t17) y=>match y with | .inl y=> .inl y | .inr z=> .inr (z)
abbrev aGJ:=(List gK)×(List gK)
def En:Gy->Prop:=λ(b,a,m,i)=>(a.length<=1000000000/\∀x∈a,x.2.1.2.1.length<=1000000000)/\a.length=b.length/\m=a.length/\∃k:Nat,k<=a.length/\i=k
def vn:Gy->aiq:=λ(b,a,m,i)=>if a.drop i.toNat=b.drop i.toNat then .inr () else .inl ()
def aGK:aGJ->Prop:=λ(a,b)=>a.length<=1000000000/\∀x∈a,x.2.1.2.1.length<=1000000000
def atZ:aGJ->Bool:=λ(a,b)=>decide (a=b)
def aip:=du.eW uR En nS vn Kd
def Sy:Gy->Option Vz:=fP aip uR
def Vx:Fs Tryz.prog aGK bz atZ:=fu 51 Tryz.f51 (λ(s1,s2)=>([.d (.slice fo) s1,.d (.slice fo) s2,.fn 45 (.nil)],[])) (λx=>⟨.d .bool x,[],[]⟩) [aj (.slice fo),aj (.slice fo),aF] [aDM] {loops:=oI [(4,{aV:=[1,2,15,16,17]})],outs:=oH [(4,{},{aV:=[6]})],fE:=pW [(4,aip)]}
def Vy:= @dV Tryz.prog (jB Vx.G) Vx.an 0 Tryz.f51 0 _ uR
abbrev abH:=jh Tryz.prog (jB Vx.G) Vx.an 0 Tryz.f51 0 uR En nS vn Kd
theorem ao6:iy Sy En nS vn:=kz (jC [.d (.slice fo),.d (.slice fo),.d ti,.d ti] λ_=>cf)
theorem VA:mY @Vy uR En nS vn Kd abH:=nJ
theorem Sz(kW t15 t16 t17)(kn:K2 R)(kx:K3 R):Vy (kW,t15,t16,t17) kn kx=aG (fL t17 t16) (aG (eE t17 (((List.length t15):Nat):Int)) (aG (eE t17 (((List.length kW):Nat):Int)) (al (F9.call ((nth fo t15 (ab t17)),(nth fo kW (ab t17)))) λx1=>aG (!x1) (kx (vo ()).1 (vo ()).2) (kn (uR (kW,t15,t16,(bA .i64 t17 (1:Int)))))) aF) aF) (kx (Eo ()).1 (Eo ()).2):=cf
theorem aMn(s1 s2)(k:K1 R):Vx.A (s1,s2) k=aG (Cw (s1.length:Int) (s2.length:Int)) (k (Vx.out aS)) (al (Sy (s2,s1,(s1.length:Int),0)) λx2=>aG x2.isLeft (al x2.getLeft? λa3=>k (Vx.out aS)) (al x2.getRight? λb4=>k (Vx.out aL))):=cf
theorem at0:abH:=by
 refine VA (λ(b,a,m,i)=>a.length - i.toNat) ?_
 rintro⟨b,a,m,i⟩ ⟨⟨hl,he⟩,vQ,rfl,k,hk,rfl⟩;have hl:a.length<=1000000000:=hl;have vQ:a.length=b.length:=vQ;have hk:k<=a.length:=hk;by_cases h:k < a.length
 ·have h2:k < b.length:=au;have n1:nth fo a k=a[k]:=cj (t:=fo) h;have n2:nth fo b k=b[k]:=cj (t:=fo) h2;have hd:(a.drop k=b.drop k)=(a[k]=b[k]/\a.drop (k+1)=b.drop (k+1)):=by rw[aq h,aq h2,ct]
  have step:∀ {R:Type} (kn:AS->Option R) (kx:Exit->AS->Option R),Vy (b,a,(a.length:Int),(k:Int)) kn kx=if a[k]=b[k] then kn (uR (b,a,(a.length:Int),((k+1:Nat):Int))) else kx (vo ()).1 (vo ()).2:=by
   intro R kn kx;rw[Sz,aT au,aZ au au,aZ au au,aa,n1,n2,N.lh au,awP (d:=(a[k],b[k])) (he _ (aR h))];simp only[ak,ah,bz,afk];by_cases hx:a[k]=b[k]
   ·rw[aI hx,if_pos hx];rfl
   ·rw[aN hx,if_neg hx];rfl
  by_cases hx:a[k]=b[k]
  ·left;refine⟨(b,a,(a.length:Int),((k+1:Nat):Int)),⟨⟨hl,he⟩,vQ,rfl,k+1,au,rfl⟩,by simp only[aa];omega,?_,λkn kx=> ?_⟩
   ·simp only[nS,vn,aa,hd,hx,iw]
   ·rw[step,if_pos hx]
  ·right;refine⟨vo (),?_,λkn kx=> ?_⟩
   ·simp only[nS,vn,aa,hd,hx,pB,bp];rfl
   ·rw[step,if_neg hx]
 ·right;obtain rfl:k=a.length:=au;refine⟨Eo (),?_,λkn kx=> ?_⟩
  ·simp only[nS,vn,aa,aH];rw[vQ,aH,if_pos rfl];rfl
  ·rw[Sz,aP au,ao]
theorem aMo:Vx.Ok:=by
 rintro⟨a,b⟩ hl;have aWK:a.length<=1000000000:=hl.1;rw[aMn];simp only[bz,atZ];by_cases h:a.length=b.length
 ·rw[cz au,ao,ao6 (d:=(b,a,(a.length:Int),0)) ⟨hl,h,rfl,0,aK _,rfl⟩];simp only[ah,nS,vn,aW,aO];by_cases hx:a=b
  ·rw[if_pos hx,aI hx];rfl
  ·rw[if_neg hx,aN hx];rfl
 ·rw[eA au,aN (λx=>h (by rw[x]))];rfl
theorem aGL:Vx.RS:=rE [.d (.slice fo),.d (.slice fo)] Vx
def aMp:=Vx.fI aMo 1 ⟨.eW at0,trivial⟩
abbrev Dl:=(List gX)×(List gX)×Int×Int
def qW:Dl->AS:=λ(kW,t15,t16,t17)=>⟨([bC,.d (.slice fJ) kW,.fn 49 (.cons (.ptr (.bW 0) 0 [] 0) (.nil))]++aQ 12 ([.d (.slice fJ) t15,.d ti t16,.d ti t17]++aQ 14 [])),cJ (.fn 47 (.nil)),(ae 32 [])⟩
def so:Unit->Exit×AS:=λx=>(.ret,⟨(aQ 6 ([.d .bool aS]++aQ 25 [])),cJ (.fn 47 (.nil)),(ae 32 [])⟩)
def BL:Unit->Exit×AS:=λx=>(.exit 0,⟨(aQ 32 []),cJ (.fn 47 (.nil)),(ae 32 [])⟩)
abbrev Qw:=(Unit)⊕(Unit)
abbrev acX:=(Unit)⊕(Unit)
def H7:Qw->Out (Exit×AS):=λx=> .br x.isLeft (.get x.getLeft? λa=> .ok (so a)) (.get x.getRight? λb=> .ok (BL b))
def l6:Dl->acX->Qw:=λ(kW,t15,t16,t17) y=>match y with | .inl y=> .inl y | .inr z=> .inr (z)
abbrev ayo:=(List gX)×(List gX)
def BK:Dl->Prop:=λ(b,a,m,i)=>(a.length<=1000000000/\∀x∈a,x.2.1.1.length<=1000000000/\∀b∈x.2.1.1,b.1.length<=1000000000)/\a.length=b.length/\m=a.length/\∃k:Nat,k<=a.length/\i=k
def qV:Dl->acX:=λ(b,a,m,i)=>if a.drop i.toNat=b.drop i.toNat then .inr () else .inl ()
def aBo:ayo->Prop:=λ(a,b)=>a.length<=1000000000/\∀x∈a,x.2.1.1.length<=1000000000/\∀b∈x.2.1.1,b.1.length<=1000000000
def aly:ayo->Bool:=λ(a,b)=>decide (a=b)
def acW:=du.eW qW BK l6 qV H7
def Oq:Dl->Option Qw:=fP acW qW
def GQ:Fs Tryz.prog aBo bz aly:=fu 52 Tryz.f52 (λ(s1,s2)=>([.d (.slice fJ) s1,.d (.slice fJ) s2,.fn 49 (.cons (.ptr (.bW 0) 0 [] 0) (.nil))],[.obj 0 aS (.fn 47 (.nil))])) (λx=>⟨.d .bool x,[.obj 0 aS (.fn 47 (.nil))],[]⟩) [aj (.slice fJ),aj (.slice fJ),aF] [aDS] {loops:=oI [(4,{aV:=[1,2,15,16,17]})],outs:=oH [(4,{},{aV:=[6]})],fE:=pW [(4,acW)]}
def Qv:= @dV Tryz.prog (jB GQ.G) GQ.an 0 Tryz.f52 0 _ qW
abbrev XR:=jh Tryz.prog (jB GQ.G) GQ.an 0 Tryz.f52 0 qW BK l6 qV H7
theorem alz:iy Oq BK l6 qV:=kz (jC [.d (.slice fJ),.d (.slice fJ),.d ti,.d ti] λ_=>cf)
theorem SY:mY @Qv qW BK l6 qV H7 XR:=nJ
theorem Ot(kW t15 t16 t17)(kn:K2 R)(kx:K3 R):Qv (kW,t15,t16,t17) kn kx=aG (fL t17 t16) (aG (eE t17 (((List.length t15):Nat):Int)) (aG (eE t17 (((List.length kW):Nat):Int)) (al (MC.call ((nth fJ t15 (ab t17)),(nth fJ kW (ab t17)))) λx1=>aG (!x1) (kx (so ()).1 (so ()).2) (kn (qW (kW,t15,t16,(bA .i64 t17 (1:Int)))))) aF) aF) (kx (BL ()).1 (BL ()).2):=cf
theorem aHV(s1 s2)(k:K1 R):GQ.A (s1,s2) k=aG (Cw (s1.length:Int) (s2.length:Int)) (k (GQ.out aS)) (al (Oq (s2,s1,(s1.length:Int),0)) λx2=>aG x2.isLeft (al x2.getLeft? λa3=>k (GQ.out aS)) (al x2.getRight? λb4=>k (GQ.out aL))):=cf
theorem ap9:XR:=by
 refine SY (λ(b,a,m,i)=>a.length - i.toNat) ?_
 rintro⟨b,a,m,i⟩ ⟨⟨hl,he⟩,vQ,rfl,k,hk,rfl⟩;have hl:a.length<=1000000000:=hl;have vQ:a.length=b.length:=vQ;have hk:k<=a.length:=hk;by_cases h:k < a.length
 ·have h2:k < b.length:=au;have n1:nth fJ a k=a[k]:=cj (t:=fJ) h;have n2:nth fJ b k=b[k]:=cj (t:=fJ) h2;have hd:(a.drop k=b.drop k)=(a[k]=b[k]/\a.drop (k+1)=b.drop (k+1)):=by rw[aq h,aq h2,ct]
  have step:∀ {R:Type} (kn:AS->Option R) (kx:Exit->AS->Option R),Qv (b,a,(a.length:Int),(k:Int)) kn kx=if a[k]=b[k] then kn (qW (b,a,(a.length:Int),((k+1:Nat):Int))) else kx (so ()).1 (so ()).2:=by
   intro R kn kx;rw[Ot,aT au,aZ au au,aZ au au,aa,n1,n2,N.lh au,awT (d:=(a[k],b[k])) (he _ (aR h))];simp only[ak,ah,bz,afm];by_cases hx:a[k]=b[k]
   ·rw[aI hx,if_pos hx];rfl
   ·rw[aN hx,if_neg hx];rfl
  by_cases hx:a[k]=b[k]
  ·left;refine⟨(b,a,(a.length:Int),((k+1:Nat):Int)),⟨⟨hl,he⟩,vQ,rfl,k+1,au,rfl⟩,by simp only[aa];omega,?_,λkn kx=> ?_⟩
   ·simp only[l6,qV,aa,hd,hx,iw]
   ·rw[step,if_pos hx]
  ·right;refine⟨so (),?_,λkn kx=> ?_⟩
   ·simp only[l6,qV,aa,hd,hx,pB,bp];rfl
   ·rw[step,if_neg hx]
 ·right;obtain rfl:k=a.length:=au;refine⟨BL (),?_,λkn kx=> ?_⟩
  ·simp only[l6,qV,aa,aH];rw[vQ,aH,if_pos rfl];rfl
  ·rw[Ot,aP au,ao]
theorem aHW:GQ.Ok:=by
 rintro⟨a,b⟩ hl;have aWK:a.length<=1000000000:=hl.1;rw[aHV];simp only[bz,aly];by_cases h:a.length=b.length
 ·rw[cz au,ao,alz (d:=(b,a,(a.length:Int),0)) ⟨hl,h,rfl,0,aK _,rfl⟩];simp only[ah,l6,qV,aW,aO];by_cases hx:a=b
  ·rw[if_pos hx,aI hx];rfl
  ·rw[if_neg hx,aN hx];rfl
 ·rw[eA au,aN (λx=>h (by rw[x]))];rfl
theorem aBp:GQ.RS:=rE [.d (.slice fJ),.d (.slice fJ)] GQ
def aHX:=GQ.fI aHW 1 ⟨.eW ap9,trivial⟩
def aDT:(cR×cR)->Prop:=λ(a,b)=>JM a
def ang:(cR×cR)->Bool:=λ(a,b)=>decide (a=b)
def E5:Fs Tryz.prog aDT bz ang:=fu 18 Tryz.f18 (λ(a,b)=>([.d dz a,.d dz b],[])) (λx=>⟨.d .bool x,[],[]⟩) [aj dz,aj dz] [aMp,aHX]
theorem aKk(a b)(k:K1 R):E5.A (a,b) k=aG (AP a.2.2.1 b.2.2.1) (al (Vx.call (a.1,b.1)) λx1=>aG (x1) (al (GQ.call (a.2.1,b.2.1)) λx2=>k (E5.out x2)) (k (E5.out aS))) (k (E5.out aS)):=cf
theorem aKl:E5.Ok:=by
 rintro⟨⟨i1,o1,n1,u1⟩,⟨i2,o2,n2,u2⟩⟩ h;have h:JM (i1,o1,n1,u1):=h;rw[aKk,aGL (d:=(i1,i2)) h.1,aBp (d:=(o1,o2)) h.2];simp only[ah,bz,atZ,bz,aly,bz,ang];by_cases e1:n1=n2
 ·by_cases e2:i1=i2
  ·by_cases e3:o1=o2
   ·rw[eU e1,aI e2,aI e3,aI (by rw[e1,e2,e3])];rfl
   ·rw[eU e1,aI e2,aN e3,aN (by rintro⟨⟩;exact e3 rfl)];rfl
  ·rw[eU e1,aN e2,aN (p:=(i1,o1,n1,u1)=(i2,o2,n2,u2)) (by rintro⟨⟩;exact e2 rfl)];rfl
 ·rw[fU e1,aN (p:=(i1,o1,n1,u1)=(i2,o2,n2,u2)) (by rintro⟨⟩;exact e1 rfl)];rfl
theorem aDU:E5.RS:=rE [.d dz,.d dz] E5
def aKm:=E5.fI aKl
def Cf(x:gK):Bool:=decide (x.2.1.2.1.length<=14)
def Ce(b:pZ):Bool:=decide (b.1.length<=14)
def xe(o:gX):Bool:=decide (o.2.1.1.length<=6) && o.2.1.1.all Ce
def amP(t:cR):Bool:=decide (t.1.length<=66/\t.2.1.length<=66) && (t.1.all Cf && t.2.1.all xe)
abbrev tG:=cR×Int
def kR:tG->AS:=λ(il,i)=>⟨([bC,.dx dz il,bC,.d ti i]++aQ 69 []),[],(ae 73 [])⟩
def lE:Unit->Exit×AS:=λx=>(.ret,⟨([bC,bC,.d .bool aS]++aQ 70 []),[],(ae 73 [])⟩)
def uh:cR->Exit×AS:=λx=>(.exit 0,⟨([bC,.dx dz x]++aQ 71 []),[],(ae 73 [])⟩)
abbrev FP:=(Unit)⊕(cR)
abbrev OY:=(Unit)⊕(Unit)
def Av:FP->Out (Exit×AS):=λx=> .br x.isLeft (.get x.getLeft? λa=> .ok (lE a)) (.get x.getRight? λb=> .ok (uh b))
def lD:tG->OY->FP:=λ(il,i) y=>match y with | .inl y=> .inl y | .inr z=> .inr (il)
abbrev tI:=cR×Int
def kS:tI->AS:=λ(qi,fK)=>⟨([bC,.dx dz qi,bC,bC,.d ti fK]++aQ 68 []),[],(ae 73 [])⟩
def iK:Unit->Exit×AS:=λx=>(.ret,⟨([bC,bC,.d .bool aS]++aQ 70 []),[],(ae 73 [])⟩)
def uj:Unit->Exit×AS:=λx=>(.exit 2,⟨(aQ 73 []),[],(ae 73 [])⟩)
abbrev FR:=(Unit)⊕(Unit)
abbrev O0:=(Unit)⊕(Unit)
def Aw:FR->Out (Exit×AS):=λx=> .br x.isLeft (.get x.getLeft? λa=> .ok (iK a)) (.get x.getRight? λb=> .ok (uj b))
def iJ:tI->O0->FR:=λ(qi,fK) y=>match y with | .inl y=> .inl y | .inr z=> .inr (z)
abbrev tJ:=cR×Int×Int
def kT:tJ->AS:=λ(NL,NB,kv)=>⟨([bC,.dx dz NL,bC,bC,.d ti NB,.d ti kv]++aQ 67 []),[],(ae 73 [])⟩
def lG:Unit->Exit×AS:=λx=>(.ret,⟨([bC,bC,.d .bool aS]++aQ 70 []),[],(ae 73 [])⟩)
def um:(cR×Int)->Exit×AS:=λx=>(.exit 4,⟨([bC,.dx dz x.1,bC,bC,.d ti x.2]++aQ 68 []),[],(ae 73 [])⟩)
abbrev FU:=(Unit)⊕((cR×Int))
abbrev O2:=(Unit)⊕(Unit)
def Ax:FU->Out (Exit×AS):=λx=> .br x.isLeft (.get x.getLeft? λa=> .ok (lG a)) (.get x.getRight? λb=> .ok (um b))
def lF:tJ->O2->FU:=λ(NL,NB,kv) y=>match y with | .inl y=> .inl y | .inr z=> .inr ((NL,NB))
def ug:tG->Prop:=λ(t,i)=>t.1.length<=1000000000/\∃k:Nat,k<=t.1.length/\i=k
def j6:tG->OY:=λ(t,i)=>if(bt (ab i) t.1).all Cf then .inr () else .inl ()
def uk:tJ->Prop:=λ(t,j,i)=>(nth fJ t.2.1 (ab j)).2.1.1.length<=1000000000/\∃k:Nat,k<=(nth fJ t.2.1 (ab j)).2.1.1.length/\i=k/\(0<=j/\j < (t.2.1.length:Int))
def j8:tJ->O2:=λ(t,j,i)=>if(bt (ab i) (nth fJ t.2.1 (ab j)).2.1.1).all Ce then .inr () else .inl ()
def ui:tI->Prop:=λ(t,i)=>t.2.1.length<=1000000000/\∃k:Nat,k<=t.2.1.length/\i=k
def j7:tI->O0:=λ(t,i)=>if(bt (ab i) t.2.1).all xe then .inr () else .inl ()
def amq:cR->Prop:=λ_=>True
def QV:cR->Bool:=λt=>amP t
def OX:=du.eW kR ug lD j6 Av
def G5:tG->Option FP:=fP OX kR
def OZ:=du.eW kS ui iJ j7 Aw
def G7:tI->Option FR:=fP OZ kS
def O1:=du.eW kT uk lF j8 Ax
def G9:tJ->Option FU:=fP O1 kT
def fZ:Fs Tryz.prog amq bz QV:=fu 24 Tryz.f24 (λt=>([.d dz t],[])) (λx=>⟨.d .bool x,[],[]⟩) [aj dz] [] {loops:=oI [(4,{aV:=[1,3]}),(9,{aV:=[1,4]}),(14,{aV:=[1,4,5]})],outs:=oH [(4,{aV:=[1]},{aV:=[2]}),(9,{},{aV:=[2]}),(14,{aV:=[1,4]},{aV:=[2]})],fE:=pW [(4,OX),(9,OZ),(14,O1)]}
def FO:= @dV Tryz.prog (jB fZ.G) fZ.an 0 Tryz.f24 0 _ kR
abbrev Lc:=jh Tryz.prog (jB fZ.G) fZ.an 0 Tryz.f24 0 kR ug lD j6 Av
def FQ:= @dV Tryz.prog (jB fZ.G) fZ.an 0 Tryz.f24 1 _ kS
abbrev Le:=jh Tryz.prog (jB fZ.G) fZ.an 0 Tryz.f24 1 kS ui iJ j7 Aw
def FT:= @dV Tryz.prog (jB fZ.G) fZ.an 0 Tryz.f24 2 _ kT
abbrev Lh:=jh Tryz.prog (jB fZ.G) fZ.an 0 Tryz.f24 2 kT uk lF j8 Ax
theorem ZF:iy G5 ug lD j6:=kz (jC [.d dz,.d ti] λ_=>cf)
theorem Ld:mY @FO kR ug lD j6 Av Lc:=nJ
theorem G6(il i)(kn:K2 R)(kx:K3 R):FO (il,i) kn kx=aG (fL i (((List.length il.1):Nat):Int)) (aG (eE i (((List.length il.1):Nat):Int)) (aG (Af (((List.length (nth fo il.1 (ab i)).2.1.2.1):Nat):Int) (14:Int)) (kx (lE ()).1 (lE ()).2) (kn (kR (il,(bA .i64 i (1:Int)))))) aF) (kx (uh il).1 (uh il).2):=cf
theorem ZG:iy G7 ui iJ j7:=kz (jC [.d dz,.d ti] λ_=>cf)
theorem Lg:mY @FQ kS ui iJ j7 Aw Le:=nJ
theorem G8(qi fK)(kn:K2 R)(kx:K3 R):FQ (qi,fK) kn kx=aG (fL fK (((List.length qi.2.1):Nat):Int)) (aG (eE fK (((List.length qi.2.1):Nat):Int)) (aG (Af (((List.length (nth fJ qi.2.1 (ab fK)).2.1.1):Nat):Int) (6:Int)) (kx (iK ()).1 (iK ()).2) (al (G9 (qi,fK,(0:Int))) λx1=>aG x1.isLeft (al x1.getLeft? λa2=>kx (iK ()).1 (iK ()).2) (al x1.getRight? λb3=>kn (kS (b3.1,(bA .i64 b3.2 (1:Int))))))) aF) (kx (uj ()).1 (uj ()).2):=cf
theorem ZH:iy G9 uk lF j8:=kz (jC [.d dz,.d ti,.d ti] λ_=>cf)
theorem Li:mY @FT kT uk lF j8 Ax Lh:=nJ
theorem Ha(NL NB kv)(kn:K2 R)(kx:K3 R):FT (NL,NB,kv) kn kx=aG (eE NB (((List.length NL.2.1):Nat):Int)) (aG (fL kv (((List.length (nth fJ NL.2.1 (ab NB)).2.1.1):Nat):Int)) (aG (eE NB (((List.length NL.2.1):Nat):Int)) (aG (eE kv (((List.length (nth fJ NL.2.1 (ab NB)).2.1.1):Nat):Int)) (aG (Af (((List.length (nth iS (nth fJ NL.2.1 (ab NB)).2.1.1 (ab kv)).1):Nat):Int) (14:Int)) (kx (lG ()).1 (lG ()).2) (kn (kT (NL,NB,(bA .i64 kv (1:Int)))))) aF) aF) (kx (um (NL,NB)).1 (um (NL,NB)).2)) aF:=cf
theorem aq9(t)(k:K1 R):fZ.A t k=aG (Af (t.1.length:Int) 66) (k (fZ.out aS)) (aG (Af (t.2.1.length:Int) 66) (k (fZ.out aS)) (al (G5 (t,0)) λx1=>aG x1.isLeft (al x1.getLeft? λa2=>k (fZ.out aS)) (al x1.getRight? λb3=>al (G7 (b3,0)) λx7=>aG x7.isLeft (al x7.getLeft? λa8=>k (fZ.out aS)) (al x7.getRight? λb9=>k (fZ.out aL))))):=cf
theorem adX:Lc:=by
 refine Ld (λ(t,i)=>t.1.length - ab i) ?_
 rintro⟨t,i⟩ ⟨hlen,k,hk,rfl⟩;by_cases h:k < t.1.length
 ·have n1:=cj (t:=fo) h;have hd:(bt k t.1).all Cf=(Cf t.1[k] && (bt (k+1) t.1).all Cf):=by grind [aq]
  have step:∀ {R:Type} (kn:AS->Option R) (kx:Exit->AS->Option R),FO (t,(k:Int)) kn kx=aG (Cf t.1[k]) (kn (kR (t,((k+1:Nat):Int)))) (kx (lE ()).1 (lE ()).2):=by intro R kn kx;rw[G6,aT au,aZ (show(0:Int)<=(k:Int) by omega) au,aa];rw[N.lh au];grind [Cf,cw,dj,aG]
  cases hp:Cf t.1[k]
  ·right;refine⟨lE (),?_,λkn kx=> ?_⟩
   ·simp[j6,aa,hd,hp,bp];rfl
   grind [aG]
  ·left;refine⟨(t,((k+1:Nat):Int)),⟨hlen,k+1,au,rfl⟩,by grind,?_,λkn kx=> ?_⟩
   all_goals grind [lD,j6,aG]
 ·right;obtain rfl:k=t.1.length:=au;refine⟨uh t,?_,λkn kx=> ?_⟩
  ·simp[j6,aa,aH];rfl
  grind [G6,aP,aG]
theorem adZ:Lh:=by
 refine Li (λ(t,j,i)=>(nth fJ t.2.1 (ab j)).2.1.1.length - ab i) ?_
 rintro⟨t,j,i⟩ ⟨hlen,k,hk,rfl,hj⟩;by_cases h:k < (nth fJ t.2.1 (ab j)).2.1.1.length
 ·have n1:=cj (t:=iS) h;have hd:(bt k (nth fJ t.2.1 (ab j)).2.1.1).all Ce=(Ce (nth fJ t.2.1 (ab j)).2.1.1[k] && (bt (k+1) (nth fJ t.2.1 (ab j)).2.1.1).all Ce):=by grind [aq]
  have step:∀ {R:Type} (kn:AS->Option R) (kx:Exit->AS->Option R),FT (t,j,(k:Int)) kn kx=aG (Ce (nth fJ t.2.1 (ab j)).2.1.1[k]) (kn (kT (t,j,((k+1:Nat):Int)))) (kx (lG ()).1 (lG ()).2):=by intro R kn kx;rw[Ha,aZ hj.1 hj.2,aT au,aZ (show(0:Int)<=(k:Int) by omega) au,aa];rw[N.lh au];grind [Ce,cw,dj,aG]
  cases hp:Ce (nth fJ t.2.1 (ab j)).2.1.1[k]
  ·right;refine⟨lG (),?_,λkn kx=> ?_⟩
   ·simp[j8,aa,hd,hp,bp];rfl
   grind [aG]
  ·left;refine⟨(t,j,((k+1:Nat):Int)),⟨hlen,k+1,au,rfl,hj⟩,by grind,?_,λkn kx=> ?_⟩
   all_goals grind [lF,j8,aG]
 ·right;obtain rfl:k=(nth fJ t.2.1 (ab j)).2.1.1.length:=au;refine⟨um (t,j),?_,λkn kx=> ?_⟩
  ·simp[j8,aa,aH];rfl
  grind [Ha,aZ,aP,aG]
theorem adY:Le:=by
 refine Lg (λ(t,i)=>t.2.1.length - ab i) ?_
 rintro⟨t,i⟩ ⟨hlen,k,hk,rfl⟩;have hlen:t.2.1.length<=1000000000:=hlen;have hk:k<=t.2.1.length:=hk;by_cases h:k < t.2.1.length
 ·have n1:nth fJ t.2.1 k=t.2.1[k]:=cj (t:=fJ) h;have hd:(bt k t.2.1).all xe=(xe t.2.1[k] && (bt (k+1) t.2.1).all xe):=by rw[aq h,eR]
  have step:∀ {R:Type} (kn:AS->Option R) (kx:Exit->AS->Option R),FQ (t,(k:Int)) kn kx=aG (xe t.2.1[k]) (kn (kS (t,((k+1:Nat):Int)))) (kx (iK ()).1 (iK ()).2):=by
   intro R kn kx;rw[G8,aT au,aZ (show(0:Int)<=(k:Int) by omega) au,aa,n1];simp only[ak];unfold xe;by_cases hs:t.2.1[k].2.1.1.length<=6
   ·rw[cw au,aI hs,ao,ZH (d:=(t,(k:Int),0)) ⟨by rw[aa,n1];show t.2.1[k].2.1.1.length<=_;omega,0,aK _,rfl,by show(0:Int)<=(k:Int);omega,by show(k:Int) < (t.2.1.length:Int);omega⟩];simp only[ah,lF,j8,aa,n1,aW,aO,bF];cases t.2.1[k].2.1.1.all Ce
    ·rfl
    ·simp only[bE,dN,cV,ao,ah,ak];rw[N.lh au]
   ·rw[dj au,aN hs];rfl
  cases hp:xe t.2.1[k]
  ·right;refine⟨iK (),?_,λkn kx=> ?_⟩
   ·simp only[iJ,j7,aa,hd,hp,dm,bw,bp];rfl
   ·rw[step,hp,ao]
  ·left;refine⟨(t,((k+1:Nat):Int)),⟨hlen,k+1,au,rfl⟩,by simp only[aa];omega,?_,λkn kx=> ?_⟩
   ·simp only[iJ,j7,aa,hd,hp,bF]
   ·rw[step,hp,ak]
 ·right;obtain rfl:k=t.2.1.length:=au;refine⟨uj (),?_,λkn kx=> ?_⟩
  ·simp only[iJ,j7,aa,aH];rfl
  ·rw[G8,aP au,ao]
theorem ara:fZ.Ok:=by
 intro t _;rw[aq9];simp only[bz,QV,amP];by_cases h1:t.1.length<=66
 ·by_cases h2:t.2.1.length<=66
  ·rw[cw au,cw au,ao,ao,aI ⟨h1,h2⟩,ZF (d:=(t,0)) ⟨by show t.1.length<=_;omega,0,aK _,rfl⟩];simp only[ah,lD,j6,aW,aO,bF];cases t.1.all Cf
   ·rfl
   ·simp only[bE,dN,cV,ao,ah,bF];rw[ZG (d:=(t,0)) ⟨by show t.2.1.length<=_;omega,0,aK _,rfl⟩];simp only[ah,iJ,j7,aW,aO];cases t.2.1.all xe <;> rfl
  ·rw[cw au,dj au,aN (λx=>h2 x.2)];rfl
 ·rw[dj au,aN (λx=>h1 x.1)];rfl
theorem amr:fZ.RS:=rE [.d dz] fZ
def arb:=fZ.fI ara 3 ⟨.eW adX,⟨.eW adY,⟨.eW adZ,trivial⟩⟩⟩
abbrev zT:=Pq×Pq×Int
def oP:zT->AS:=λ(qq,gY,i)=>⟨([bC,bC,.dx aeW qq,.dx aeW gY,bC,.d ti i]++aQ 39 []),[],(ae 45 [])⟩
def pJ:Unit->Exit×AS:=λx=>(.ret,⟨(aQ 4 ([.d .bool aS]++aQ 40 [])),[],(ae 45 [])⟩)
def y8:Unit->Exit×AS:=λx=>(.exit 0,⟨(aQ 45 []),[],(ae 45 [])⟩)
abbrev Ll:=(Unit)⊕(Unit)
abbrev Yt:=(Unit)⊕(Unit)
def FV:Ll->Out (Exit×AS):=λx=> .br x.isLeft (.get x.getLeft? λa=> .ok (pJ a)) (.get x.getRight? λb=> .ok (y8 b))
def j9:zT->Yt->Ll:=λ(qq,gY,i) y=>match y with | .inl y=> .inl y | .inr z=> .inr (z)
def y7:zT->Prop:=λ(a,b,i)=>a.2.1.length<=1000000000/\a.2.1.length=b.2.1.length/\∃k:Nat,k<=a.2.1.length/\i=k
def nZ:zT->Yt:=λ(a,b,i)=>if bt (ab i) a.2.1=bt (ab i) b.2.1 then .inr () else .inl ()
def avt:(Pq×Pq)->Prop:=λ(a,b)=>a.2.1.length<=1000000000
def ad1:(Pq×Pq)->Bool:=λ(a,b)=>decide (a=b)
def Ys:=du.eW oP y7 j9 nZ FV
def Lm:zT->Option Ll:=fP Ys oP
def u5:Fs Tryz.prog avt bz ad1:=fu 76 Tryz.f76 (λ(a,b)=>([.d aeW a,.d aeW b],[])) (λx=>⟨.d .bool x,[],[]⟩) [aj aeW,aj aeW] [] {loops:=oI [(4,{aV:=[2,3,5]})],outs:=oH [(4,{},{aV:=[4]})],fE:=pW [(4,Ys)]}
def Lj:= @dV Tryz.prog (jB u5.G) u5.an 0 Tryz.f76 0 _ oP
abbrev TR:=jh Tryz.prog (jB u5.G) u5.an 0 Tryz.f76 0 oP y7 j9 nZ FV
theorem agK:iy Lm y7 j9 nZ:=kz (jC [.d aeW,.d aeW,.d ti] λ_=>cf)
theorem QW:mY @Lj oP y7 j9 nZ FV TR:=nJ
theorem Ln(qq gY i)(kn:K2 R)(kx:K3 R):Lj (qq,gY,i) kn kx=aG (fL i (((List.length qq.2.1):Nat):Int)) (aG (eE i (((List.length qq.2.1):Nat):Int)) (aG (eE i (((List.length gY.2.1):Nat):Int)) (aG (!(Ty.beq xn (nth xn qq.2.1 (ab i)) (nth xn gY.2.1 (ab i)))) (kx (pJ ()).1 (pJ ()).2) (kn (oP (qq,gY,(bA .i64 i (1:Int)))))) aF) aF) (kx (y8 ()).1 (y8 ()).2):=cf
theorem aCm(a b)(k:K1 R):u5.A (a,b) k=aG (Cw a.1 b.1) (k (u5.out aS)) (aG (Cw a.2.2.1 b.2.2.1) (k (u5.out aS)) (aG (Cw (a.2.1.length:Int) (b.2.1.length:Int)) (k (u5.out aS)) (al (Lm (a,b,0)) λx1=>aG x1.isLeft (al x1.getLeft? λa2=>k (u5.out aS)) (al x1.getRight? λb3=>k (u5.out aL))))):=cf
theorem ams:TR:=by
 refine QW (λ(a,b,i)=>a.2.1.length - ab i) ?_
 rintro⟨a,b,i⟩ ⟨hlen,vQ,k,hk,rfl⟩;have hlen:a.2.1.length<=1000000000:=hlen;have vQ:a.2.1.length=b.2.1.length:=vQ;have hk:k<=a.2.1.length:=hk;by_cases h:k < a.2.1.length
 ·have h2:k < b.2.1.length:=au;have n1:nth xn a.2.1 k=a.2.1[k]:=cj (t:=xn) h;have n2:nth xn b.2.1 k=b.2.1[k]:=cj (t:=xn) h2;have hd:(bt k a.2.1=bt k b.2.1)=(a.2.1[k]=b.2.1[k]/\bt (k+1) a.2.1=bt (k+1) b.2.1):=by rw[aq h,aq h2,ct]
  have step:∀ {R:Type} (kn:AS->Option R) (kx:Exit->AS->Option R),Lj (a,b,(k:Int)) kn kx=if a.2.1[k]=b.2.1[k] then kn (oP (a,b,((k+1:Nat):Int))) else kx (pJ ()).1 (pJ ()).2:=by
   intro R kn kx;rw[Ln,aT au,aZ au au,aZ au au,aa,n1,n2];simp only[ak];rw[aEN,N.lh au];by_cases hx:a.2.1[k]=b.2.1[k]
   ·rw[aI hx,if_pos hx];rfl
   ·rw[aN hx,if_neg hx];rfl
  by_cases hx:a.2.1[k]=b.2.1[k]
  ·left;refine⟨(a,b,((k+1:Nat):Int)),⟨hlen,vQ,k+1,au,rfl⟩,by simp only[aa];omega,?_,λkn kx=> ?_⟩
   ·simp only[j9,nZ,aa,hd,hx,iw]
   ·rw[step,if_pos hx]
  ·right;refine⟨pJ (),?_,λkn kx=> ?_⟩
   ·simp only[j9,nZ,aa,hd,hx,pB,bp];rfl
   ·rw[step,if_neg hx]
 ·right;obtain rfl:k=a.2.1.length:=au;refine⟨y8 (),?_,λkn kx=> ?_⟩
  ·simp only[j9,nZ,aa,aH];rw[vQ,aH,if_pos rfl];rfl
  ·rw[Ln,aP au,ao]
theorem aCn:u5.Ok:=by
 rintro⟨⟨b1,s1,c1,u1⟩,⟨b2,s2,c2,u2⟩⟩ h;have h:s1.length<=1000000000:=h;rw[aCm];simp only[bz,ad1];by_cases e1:b1=b2
 ·by_cases e2:c1=c2
  ·by_cases e3:s1.length=s2.length
   ·rw[cz e1,cz e2,cz au,agK (d:=((b1,s1,c1,u1),(b2,s2,c2,u2),0)) ⟨h,e3,0,aK _,rfl⟩];simp only[ah,j9,nZ,aW,aO,ao];by_cases e4:s1=s2
    ·rw[if_pos e4,aI (by rw[e1,e2,e4])];rfl
    ·rw[if_neg e4,aN (by rintro⟨⟩;exact e4 rfl)];rfl
   ·rw[cz e1,cz e2,eA au,aN (by rintro⟨⟩;exact e3 rfl)];rfl
  ·rw[cz e1,eA e2,aN (by rintro⟨⟩;exact e2 rfl)];rfl
 ·rw[eA e1,aN (by rintro⟨⟩;exact e1 rfl)];rfl
theorem avu:u5.RS:=rE [.d aeW,.d aeW] u5
def aCo:=u5.fI aCn 1 ⟨.eW ams,trivial⟩
abbrev wO:=Lk×Lk×Int
def mB:wO->AS:=λ(qq,gY,i)=>⟨([bC,bC,.dx Ag qq,.dx Ag gY,bC,.d ti i]++aQ 73 []),[],(ae 79 [])⟩
def eQ:Unit->Exit×AS:=λx=>(.ret,⟨(aQ 4 ([.d .bool aS]++aQ 74 [])),[],(ae 79 [])⟩)
def wQ:Unit->Exit×AS:=λx=>(.exit 0,⟨(aQ 79 []),[],(ae 79 [])⟩)
abbrev Io:=(Unit)⊕(Unit)
abbrev TK:=(Unit)⊕(Unit)
def DF:Io->Out (Exit×AS):=λx=> .br x.isLeft (.get x.getLeft? λa=> .ok (eQ a)) (.get x.getRight? λb=> .ok (wQ b))
def jt:wO->TK->Io:=λ(qq,gY,i) y=>match y with | .inl y=> .inl y | .inr z=> .inr (z)
abbrev wR:=Lk×Lk×Int×Int×pZ×pZ
def mC:wR->AS:=λ(ajN,JF,fK,kv,n6,n7)=>⟨([bC,bC,.dx Ag ajN,.dx Ag JF,bC,.d ti fK,dP 6,dP 7,.d ti kv]++aQ 70 []),[],(bk 6 ([cJ (.d iS n6),cJ (.d iS n7)]++bk 71 []))⟩
def nC:Unit->Exit×AS:=λx=>(.ret,⟨(aQ 4 ([.d .bool aS]++aQ 74 [])),[],(ae 79 [])⟩)
def wT:(Lk×Lk×Int)->Exit×AS:=λ(a,b,c)=>(.exit 2,⟨([bC,bC,.dx Ag a,.dx Ag b,bC,.d ti c]++aQ 73 []),[],(ae 79 [])⟩)
abbrev Iq:=(Unit)⊕((Lk×Lk×Int))
abbrev TM:=(Unit)⊕(Unit)
def DG:Iq->Out (Exit×AS):=λx=> .br x.isLeft (.get x.getLeft? λa=> .ok (nC a)) (.get x.getRight? λb=> .ok (wT b))
def ju:wR->TM->Iq:=λ(ajN,JF,fK,kv,n6,n7) y=>match y with | .inl y=> .inl y | .inr z=> .inr ((ajN,JF,fK))
def wS:wR->Prop:=λ(a,b,j,i,x,y)=>x.1.length<=1000000000/\x.1.length=y.1.length/\∃k:Nat,k<=x.1.length/\i=k
def mi:wR->TM:=λ(a,b,j,i,x,y)=>if bt (ab i) x.1=bt (ab i) y.1 then .inr () else .inl ()
def wP:wO->Prop:=λ(a,b,i)=>a.1.length<=1000000000/\a.1.length=b.1.length/\(∀x∈a.1,x.1.length<=1000000000)/\∃k:Nat,k<=a.1.length/\i=k
def mh:wO->TK:=λ(a,b,i)=>if bt (ab i) a.1=bt (ab i) b.1 then .inr () else .inl ()
def aqZ:(Lk×Lk)->Prop:=λ(a,b)=>a.1.length<=1000000000/\∀x∈a.1,x.1.length<=1000000000
def V8:(Lk×Lk)->Bool:=λ(a,b)=>decide (a.1=b.1)
def TJ:=du.eW mB wP jt mh DF
def Jd:wO->Option Io:=fP TJ mB
def TL:=du.eW mC wS ju mi DG
def Jf:wR->Option Iq:=fP TL mC
def mg:Fs Tryz.prog aqZ bz V8:=fu 77 Tryz.f77 (λ(a,b)=>([.d Ag a,.d Ag b],[])) (λx=>⟨.d .bool x,[],[]⟩) [aj Ag,aj Ag] [] {loops:=oI [(4,{aV:=[2,3,5]}),(11,{aV:=[2,3,5,6,7,8],sites:=[6,7]})],outs:=oH [(4,{},{aV:=[4]}),(11,{aV:=[2,3,5]},{aV:=[4]})],fE:=pW [(4,TJ),(11,TL)]}
def Im:= @dV Tryz.prog (jB mg.G) mg.an 0 Tryz.f77 0 _ mB
abbrev ON:=jh Tryz.prog (jB mg.G) mg.an 0 Tryz.f77 0 mB wP jt mh DF
def Ip:= @dV Tryz.prog (jB mg.G) mg.an 0 Tryz.f77 1 _ mC
abbrev OO:=jh Tryz.prog (jB mg.G) mg.an 0 Tryz.f77 1 mC wS ju mi DG
theorem adN:iy Jd wP jt mh:=kz (jC [.d Ag,.d Ag,.d ti] λ_=>cf)
theorem ND:mY @Im mB wP jt mh DF ON:=nJ
theorem Je(qq gY i)(kn:K2 R)(kx:K3 R):Im (qq,gY,i) kn kx=aG (fL i (((List.length qq.1):Nat):Int)) (aG (eE i (((List.length qq.1):Nat):Int)) (aG (eE i (((List.length gY.1):Nat):Int)) (aG (Cw (nth iS qq.1 (ab i)).2.1 (nth iS gY.1 (ab i)).2.1) (kx (eQ ()).1 (eQ ()).2) (aG (Cw (nth iS qq.1 (ab i)).2.2.1 (nth iS gY.1 (ab i)).2.2.1) (kx (eQ ()).1 (eQ ()).2) (aG (Cw (nth iS qq.1 (ab i)).2.2.2.1 (nth iS gY.1 (ab i)).2.2.2.1) (kx (eQ ()).1 (eQ ()).2) (aG (Cw (((List.length (nth iS qq.1 (ab i)).1):Nat):Int) (((List.length (nth iS gY.1 (ab i)).1):Nat):Int)) (kx (eQ ()).1 (eQ ()).2) (al (Jf (qq,gY,i,(0:Int),(nth iS qq.1 (ab i)),(nth iS gY.1 (ab i)))) λx1=>aG x1.isLeft (al x1.getLeft? λa2=>kx (eQ ()).1 (eQ ()).2) (al x1.getRight? λb3=>kn (mB (b3.1,b3.2.1,(bA .i64 b3.2.2 (1:Int)))))))))) aF) aF) (kx (wQ ()).1 (wQ ()).2):=cf
theorem adO:iy Jf wS ju mi:=kz (jC [.d Ag,.d Ag,.d ti,.d ti,.d iS,.d iS] λ_=>cf)
theorem NF:mY @Ip mC wS ju mi DG OO:=nJ
theorem Jg(ajN JF fK kv n6 n7)(kn:K2 R)(kx:K3 R):Ip (ajN,JF,fK,kv,n6,n7) kn kx=aG (fL kv (((List.length n6.1):Nat):Int)) (aG (eE kv (((List.length n6.1):Nat):Int)) (aG (eE kv (((List.length n7.1):Nat):Int)) (aG (Cw (nth tu n6.1 (ab kv)) (nth tu n7.1 (ab kv))) (kx (nC ()).1 (nC ()).2) (kn (mC (ajN,JF,fK,(bA .i64 kv (1:Int)),n6,n7)))) aF) aF) (kx (wT (ajN,JF,fK)).1 (wT (ajN,JF,fK)).2):=cf
theorem avn(a b)(k:K1 R):mg.A (a,b) k=aG (Cw (a.1.length:Int) (b.1.length:Int)) (k (mg.out aS)) (al (Jd (a,b,0)) λx4=>aG x4.isLeft (al x4.getLeft? λa5=>k (mg.out aS)) (al x4.getRight? λb6=>k (mg.out aL))):=cf
theorem agH:OO:=by
 refine NF (λ(a,b,j,i,x,y)=>x.1.length - ab i) ?_
 rintro⟨a,b,j,i,x,y⟩ ⟨hlen,vQ,k,hk,rfl⟩;have hlen:x.1.length<=1000000000:=hlen;have vQ:x.1.length=y.1.length:=vQ;have hk:k<=x.1.length:=hk;by_cases h:k < x.1.length
 ·have h2:k < y.1.length:=au;have n1:nth tu x.1 k=x.1[k]:=cj (t:=tu) h;have n2:nth tu y.1 k=y.1[k]:=cj (t:=tu) h2;have hd:(bt k x.1=bt k y.1)=(x.1[k]=y.1[k]/\bt (k+1) x.1=bt (k+1) y.1):=by rw[aq h,aq h2,ct]
  have step:∀ {R:Type} (kn:AS->Option R) (kx:Exit->AS->Option R),Ip (a,b,j,(k:Int),x,y) kn kx=if x.1[k]=y.1[k] then kn (mC (a,b,j,((k+1:Nat):Int),x,y)) else kx (nC ()).1 (nC ()).2:=by
   intro R kn kx;rw[Jg,aT au,aZ au au,aZ au au,aa,n1,n2];simp only[ak];rw[N.lh au];by_cases hx:x.1[k]=y.1[k]
   ·rw[cz hx,if_pos hx];rfl
   ·rw[eA hx,if_neg hx];rfl
  by_cases hx:x.1[k]=y.1[k]
  ·left;refine⟨(a,b,j,((k+1:Nat):Int),x,y),⟨hlen,vQ,k+1,au,rfl⟩,by simp only[aa];omega,?_,λkn kx=> ?_⟩
   ·simp only[ju,mi,aa,hd,hx,iw]
   ·rw[step,if_pos hx]
  ·right;refine⟨nC (),?_,λkn kx=> ?_⟩
   ·simp only[ju,mi,aa,hd,hx,pB,bp];rfl
   ·rw[step,if_neg hx]
 ·right;obtain rfl:k=x.1.length:=au;refine⟨wT (a,b,j),?_,λkn kx=> ?_⟩
  ·simp only[ju,mi,aa,aH];rw[vQ,aH,if_pos rfl];rfl
  ·rw[Jg,aP au,ao]
theorem agG:ON:=by
 refine ND (λ(a,b,i)=>a.1.length - ab i) ?_
 rintro⟨a,b,i⟩ ⟨hlen,vQ,hs,k,hk,rfl⟩;have hlen:a.1.length<=1000000000:=hlen;have vQ:a.1.length=b.1.length:=vQ;have hk:k<=a.1.length:=hk;have hs:∀x∈a.1,x.1.length<=1000000000:=hs;by_cases h:k < a.1.length
 ·have h2:k < b.1.length:=au;have n1:nth iS a.1 k=a.1[k]:=cj (t:=iS) h;have n2:nth iS b.1 k=b.1[k]:=cj (t:=iS) h2;have hd:(bt k a.1=bt k b.1)=(a.1[k]=b.1[k]/\bt (k+1) a.1=bt (k+1) b.1):=by rw[aq h,aq h2,ct]
  have step:∀ {R:Type} (kn:AS->Option R) (kx:Exit->AS->Option R),Im (a,b,(k:Int)) kn kx=if a.1[k]=b.1[k] then kn (mB (a,b,((k+1:Nat):Int))) else kx (eQ ()).1 (eQ ()).2:=by
   intro R kn kx;rw[Je,aT au,aZ au au,aZ au au,aa,n1,n2];simp only[ak];have aT8:=hs _ (aR h);obtain⟨⟨k1,a1,d1,s1,u1⟩,e1⟩:∃x,a.1[k]=x:=⟨_,rfl⟩;obtain⟨⟨k2,a2,d2,s2,u2⟩,e2⟩:∃x,b.1[k]=x:=⟨_,rfl⟩;rw[e1]at aT8 ⊢;rw[e2];dsimp only;have aT8:k1.length<=1000000000:=aT8;by_cases q2:a1=a2
   ·by_cases q3:d1=d2
    ·by_cases q4:s1=s2
     ·by_cases q1:k1.length=k2.length
      ·rw[cz q2,cz q3,cz q4,cz au,adO (d:=(a,b,(k:Int),0,(k1,a1,d1,s1,u1),(k2,a2,d2,s2,u2))) ⟨aT8,q1,0,aK _,rfl⟩];simp only[ao,ah,ju,mi,aW,aO];by_cases q5:k1=k2
       ·rw[if_pos q5,if_pos (by rw[q5,q2,q3,q4])];simp only[dN,cV,ao,ah];rw[N.lh au]
       ·rw[if_neg q5,if_neg (by rintro⟨⟩;exact q5 rfl)];rfl
      ·rw[cz q2,cz q3,cz q4,eA au,if_neg (by rintro⟨⟩;exact q1 rfl)];rfl
     ·rw[cz q2,cz q3,eA q4,if_neg (by rintro⟨⟩;exact q4 rfl)];rfl
    ·rw[cz q2,eA q3,if_neg (by rintro⟨⟩;exact q3 rfl)];rfl
   ·rw[eA q2,if_neg (by rintro⟨⟩;exact q2 rfl)];rfl
  by_cases hx:a.1[k]=b.1[k]
  ·left;refine⟨(a,b,((k+1:Nat):Int)),⟨hlen,vQ,hs,k+1,au,rfl⟩,by simp only[aa];omega,?_,λkn kx=> ?_⟩
   ·simp only[jt,mh,aa,hd,hx,iw]
   ·rw[step,if_pos hx]
  ·right;refine⟨eQ (),?_,λkn kx=> ?_⟩
   ·simp only[jt,mh,aa,hd,hx,pB,bp];rfl
   ·rw[step,if_neg hx]
 ·right;obtain rfl:k=a.1.length:=au;refine⟨wQ (),?_,λkn kx=> ?_⟩
  ·simp only[jt,mh,aa,aH];rw[vQ,aH,if_pos rfl];rfl
  ·rw[Je,aP au,ao]
theorem avo:mg.Ok:=by
 rintro⟨a,b⟩ ⟨h,hs⟩;rw[avn];simp[V8];by_cases e3:a.1.length=b.1.length
 ·rw[cz au,adN (d:=(a,b,0)) ⟨h,e3,hs,0,aK _,rfl⟩];simp[jt,mh];by_cases e4:a.1=b.1
  all_goals simp_all
 ·rw[eA au,aN (λx=>e3 (by rw[x]))];rfl
theorem aq0:mg.RS:=rE [.d Ag,.d Ag] mg
def avp:=mg.fI avo 2 ⟨.eW agG,⟨.eW agH,trivial⟩⟩
abbrev wU:=cR×cR×Int
def mD:wU->AS:=λ(qq,gY,i)=>⟨([bC,bC,.dx dz qq,.dx dz gY,bC,.d ti i]++aQ 96 []),[],(ae 102 [])⟩
def jw:Unit->Exit×AS:=λx=>(.ret,⟨(aQ 4 ([.d .bool aS]++aQ 97 [])),[],(ae 102 [])⟩)
def wW:(cR×cR)->Exit×AS:=λx=>(.exit 0,⟨([bC,bC,.dx dz x.1,.dx dz x.2]++aQ 98 []),[],(ae 102 [])⟩)
abbrev Is:=(Unit)⊕((cR×cR))
abbrev TO:=(Unit)⊕(Unit)
def DH:Is->Out (Exit×AS):=λx=> .br x.isLeft (.get x.getLeft? λa=> .ok (jw a)) (.get x.getRight? λb=> .ok (wW b))
def jv:wU->TO->Is:=λ(qq,gY,i) y=>match y with | .inl y=> .inl y | .inr z=> .inr ((qq,gY))
abbrev wX:=cR×cR×Int
def mE:wX->AS:=λ(ajN,JF,fK)=>⟨([bC,bC,.dx dz ajN,.dx dz JF,bC,bC,.d ti fK]++aQ 95 []),[],(ae 102 [])⟩
def jy:Unit->Exit×AS:=λx=>(.ret,⟨(aQ 4 ([.d .bool aS]++aQ 97 [])),[],(ae 102 [])⟩)
def wZ:Unit->Exit×AS:=λx=>(.exit 2,⟨(aQ 102 []),[],(ae 102 [])⟩)
abbrev Iu:=(Unit)⊕(Unit)
abbrev TQ:=(Unit)⊕(Unit)
def DI:Iu->Out (Exit×AS):=λx=> .br x.isLeft (.get x.getLeft? λa=> .ok (jy a)) (.get x.getRight? λb=> .ok (wZ b))
def jx:wX->TQ->Iu:=λ(ajN,JF,fK) y=>match y with | .inl y=> .inl y | .inr z=> .inr (z)
def wV:wU->Prop:=λ(a,b,i)=>a.1.length<=1000000000/\a.1.length=b.1.length/\(∀x∈a.1,x.2.1.2.1.length<=1000000000)/\∃k:Nat,k<=a.1.length/\i=k
def mm:wU->TO:=λ(a,b,i)=>if bt (ab i) a.1=bt (ab i) b.1 then .inr () else .inl ()
def wY:wX->Prop:=λ(a,b,i)=>a.2.1.length<=1000000000/\a.2.1.length=b.2.1.length/\(∀x∈a.2.1,x.2.1.1.length<=1000000000/\∀b∈x.2.1.1,b.1.length<=1000000000)/\∃k:Nat,k<=a.2.1.length/\i=k
def mn:wX->TQ:=λ(a,b,i)=>if bt (ab i) a.2.1=bt (ab i) b.2.1 then .inr () else .inl ()
def aq7:(cR×cR)->Prop:=λ(a,b)=>JM a
def V9:(cR×cR)->Bool:=λ(a,b)=>decide (a=b)
def TN:=du.eW mD wV jv mm DH
def Jh:wU->Option Is:=fP TN mD
def TP:=du.eW mE wY jx mn DI
def Jj:wX->Option Iu:=fP TP mE
def jF:Fs Tryz.prog aq7 bz V9:=fu 38 Tryz.f38 (λ(a,b)=>([.d dz a,.d dz b],[])) (λx=>⟨.d .bool x,[],[]⟩) [aj dz,aj dz] [aCo,avp] {loops:=oI [(4,{aV:=[2,3,5]}),(9,{aV:=[2,3,6]})],outs:=oH [(4,{aV:=[2,3]},{aV:=[4]}),(9,{},{aV:=[4]})],fE:=pW [(4,TN),(9,TP)]}
def Ir:= @dV Tryz.prog (jB jF.G) jF.an 0 Tryz.f38 0 _ mD
abbrev OV:=jh Tryz.prog (jB jF.G) jF.an 0 Tryz.f38 0 mD wV jv mm DH
def It:= @dV Tryz.prog (jB jF.G) jF.an 0 Tryz.f38 1 _ mE
abbrev OW:=jh Tryz.prog (jB jF.G) jF.an 0 Tryz.f38 1 mE wY jx mn DI
theorem adV:iy Jh wV jv mm:=kz (jC [.d dz,.d dz,.d ti] λ_=>cf)
theorem NG:mY @Ir mD wV jv mm DH OV:=nJ
theorem Ji(qq gY i)(kn:K2 R)(kx:K3 R):Ir (qq,gY,i) kn kx=aG (fL i (((List.length qq.1):Nat):Int)) (aG (eE i (((List.length qq.1):Nat):Int)) (aG (eE i (((List.length gY.1):Nat):Int)) (aG (!(Ty.beq bX (nth fo qq.1 (ab i)).1 (nth fo gY.1 (ab i)).1)) (kx (jw ()).1 (jw ()).2) (aG (eE i (((List.length qq.1):Nat):Int)) (aG (eE i (((List.length gY.1):Nat):Int)) (al (u5.call ((nth fo qq.1 (ab i)).2.1,(nth fo gY.1 (ab i)).2.1)) λx1=>aG (!x1) (kx (jw ()).1 (jw ()).2) (kn (mD (qq,gY,(bA .i64 i (1:Int)))))) aF) aF)) aF) aF) (kx (wW (qq,gY)).1 (wW (qq,gY)).2):=cf
theorem adW:iy Jj wY jx mn:=kz (jC [.d dz,.d dz,.d ti] λ_=>cf)
theorem NH:mY @It mE wY jx mn DI OW:=nJ
theorem Jk(ajN JF fK)(kn:K2 R)(kx:K3 R):It (ajN,JF,fK) kn kx=aG (fL fK (((List.length ajN.2.1):Nat):Int)) (aG (eE fK (((List.length ajN.2.1):Nat):Int)) (aG (eE fK (((List.length JF.2.1):Nat):Int)) (aG (Cw (nth fJ ajN.2.1 (ab fK)).1 (nth fJ JF.2.1 (ab fK)).1) (kx (jy ()).1 (jy ()).2) (aG (eE fK (((List.length ajN.2.1):Nat):Int)) (aG (eE fK (((List.length JF.2.1):Nat):Int)) (al (mg.call ((nth fJ ajN.2.1 (ab fK)).2.1,(nth fJ JF.2.1 (ab fK)).2.1)) λx1=>aG (!x1) (kx (jy ()).1 (jy ()).2) (kn (mE (ajN,JF,(bA .i64 fK (1:Int)))))) aF) aF)) aF) aF) (kx (wZ ()).1 (wZ ()).2):=cf
theorem avq(a b)(k:K1 R):jF.A (a,b) k=aG (Cw a.2.2.1 b.2.2.1) (k (jF.out aS)) (aG (Cw (a.1.length:Int) (b.1.length:Int)) (k (jF.out aS)) (aG (Cw (a.2.1.length:Int) (b.2.1.length:Int)) (k (jF.out aS)) (al (Jh (a,b,0)) λx2=>aG x2.isLeft (al x2.getLeft? λa3=>k (jF.out aS)) (al x2.getRight? λb4=>al (Jj (b4.1,b4.2,0)) λx6=>aG x6.isLeft (al x6.getLeft? λa7=>k (jF.out aS)) (al x6.getRight? λb8=>k (jF.out aL)))))):=cf
theorem agI:OV:=by
 refine NG (λ(a,b,i)=>a.1.length - ab i) ?_
 rintro⟨a,b,i⟩ ⟨hlen,vQ,hs,k,hk,rfl⟩;have hlen:a.1.length<=1000000000:=hlen;have vQ:a.1.length=b.1.length:=vQ;have hk:k<=a.1.length:=hk;have hs:∀x∈a.1,x.2.1.2.1.length<=1000000000:=hs;by_cases h:k < a.1.length
 ·have h2:k < b.1.length:=au;have n1:nth fo a.1 k=a.1[k]:=cj (t:=fo) h;have n2:nth fo b.1 k=b.1[k]:=cj (t:=fo) h2;have hd:(bt k a.1=bt k b.1)=(a.1[k]=b.1[k]/\bt (k+1) a.1=bt (k+1) b.1):=by rw[aq h,aq h2,ct]
  have step:∀ {R:Type} (kn:AS->Option R) (kx:Exit->AS->Option R),Ir (a,b,(k:Int)) kn kx=if a.1[k]=b.1[k] then kn (mD (a,b,((k+1:Nat):Int))) else kx (jw ()).1 (jw ()).2:=by
   intro R kn kx;rw[Ji,aT au,aZ au au,aZ au au,aa,n1,n2];simp only[ak];have e:=hs _ (aR h);rw[aEL,N.lh au,avu (d:=(a.1[k].2.1,b.1[k].2.1)) e];simp only[ah,bz,ad1];obtain⟨⟨f1,w1,u1⟩,e1⟩:∃x,a.1[k]=x:=⟨_,rfl⟩;obtain⟨⟨f2,w2,u2⟩,e2⟩:∃x,b.1[k]=x:=⟨_,rfl⟩;rw[e1,e2];by_cases q1:f1=f2
   ·by_cases q2:w1=w2
    ·rw[aI q1,aI q2,if_pos (by rw[q1,q2])];rfl
    ·rw[aI q1,aN q2,if_neg (by rintro⟨⟩;exact q2 rfl)];rfl
   ·rw[aN q1,if_neg (by rintro⟨⟩;exact q1 rfl)];rfl
  by_cases hx:a.1[k]=b.1[k]
  ·left;refine⟨(a,b,((k+1:Nat):Int)),⟨hlen,vQ,hs,k+1,au,rfl⟩,by simp only[aa];omega,?_,λkn kx=> ?_⟩
   ·simp only[jv,mm,aa,hd,hx,iw]
   ·rw[step,if_pos hx]
  ·right;refine⟨jw (),?_,λkn kx=> ?_⟩
   ·simp only[jv,mm,aa,hd,hx,pB,bp];rfl
   ·rw[step,if_neg hx]
 ·right;obtain rfl:k=a.1.length:=au;refine⟨wW (a,b),?_,λkn kx=> ?_⟩
  ·simp only[jv,mm,aa,aH];rw[vQ,aH,if_pos rfl];rfl
  ·rw[Ji,aP au,ao]
theorem agJ:OW:=by
 refine NH (λ(a,b,i)=>a.2.1.length - ab i) ?_
 rintro⟨a,b,i⟩ ⟨hlen,vQ,hs,k,hk,rfl⟩;have hlen:a.2.1.length<=1000000000:=hlen;have vQ:a.2.1.length=b.2.1.length:=vQ;have hk:k<=a.2.1.length:=hk;have hs:∀x∈a.2.1,x.2.1.1.length<=1000000000/\∀b∈x.2.1.1,b.1.length<=1000000000:=hs;by_cases h:k < a.2.1.length
 ·have h2:k < b.2.1.length:=au;have n1:nth fJ a.2.1 k=a.2.1[k]:=cj (t:=fJ) h;have n2:nth fJ b.2.1 k=b.2.1[k]:=cj (t:=fJ) h2;have hd:(bt k a.2.1=bt k b.2.1)=(a.2.1[k]=b.2.1[k]/\bt (k+1) a.2.1=bt (k+1) b.2.1):=by rw[aq h,aq h2,ct]
  have step:∀ {R:Type} (kn:AS->Option R) (kx:Exit->AS->Option R),It (a,b,(k:Int)) kn kx=if a.2.1[k]=b.2.1[k] then kn (mE (a,b,((k+1:Nat):Int))) else kx (jy ()).1 (jy ()).2:=by
   intro R kn kx;rw[Jk,aT au,aZ au au,aZ au au,aa,n1,n2];simp only[ak];have e:=hs _ (aR h);rw[N.lh au,aq0 (d:=(a.2.1[k].2.1,b.2.1[k].2.1)) e];simp only[ah,bz,V8];obtain⟨⟨n1,⟨l1,v1⟩,u1⟩,e1⟩:∃x,a.2.1[k]=x:=⟨_,rfl⟩;obtain⟨⟨n2,⟨l2,v2⟩,u2⟩,e2⟩:∃x,b.2.1[k]=x:=⟨_,rfl⟩;rw[e1,e2];by_cases q1:n1=n2
   ·by_cases q2:l1=l2
    ·rw[cz q1,aI q2,if_pos (by rw[q1,q2])];rfl
    ·rw[cz q1,aN q2,if_neg (by rintro⟨⟩;exact q2 rfl)];rfl
   ·rw[eA q1,if_neg (by rintro⟨⟩;exact q1 rfl)];rfl
  by_cases hx:a.2.1[k]=b.2.1[k]
  ·left;refine⟨(a,b,((k+1:Nat):Int)),⟨hlen,vQ,hs,k+1,au,rfl⟩,by simp only[aa];omega,?_,λkn kx=> ?_⟩
   ·simp only[jx,mn,aa,hd,hx,iw]
   ·rw[step,if_pos hx]
  ·right;refine⟨jy (),?_,λkn kx=> ?_⟩
   ·simp only[jx,mn,aa,hd,hx,pB,bp];rfl
   ·rw[step,if_neg hx]
 ·right;obtain rfl:k=a.2.1.length:=au;refine⟨wZ (),?_,λkn kx=> ?_⟩
  ·simp only[jx,mn,aa,aH];rw[vQ,aH,if_pos rfl];rfl
  ·rw[Jk,aP au,ao]
theorem avr:jF.Ok:=by
 rintro⟨⟨i1,o1,n1,u1⟩,⟨i2,o2,n2,u2⟩⟩ h;have hi:=h.1.1;have ho:=h.2.1;rw[avq];simp only[V9];by_cases e1:n1=n2
 ·by_cases e2:i1.length=i2.length
  ·by_cases e3:o1.length=o2.length
   ·rw[cz e1,cz au,cz au,adV (d:=((i1,o1,n1,u1),(i2,o2,n2,u2),0)) ⟨hi,e2,h.1.2,0,aK _,rfl⟩];simp[jv,mm];by_cases e4:i1=i2
    ·rw[if_pos e4];simp;rw[adW (d:=((i1,o1,n1,u1),(i2,o2,n2,u2),0)) ⟨ho,e3,h.2.2,0,aK _,rfl⟩];simp[jx,mn];by_cases e5:o1=o2
     all_goals simp_all
    simp_all
   ·rw[cz e1,cz au,eA au,aN (by grind)];rfl
  ·rw[cz e1,eA au,aN (by grind)];rfl
 simp_all [eA]
theorem aq8:jF.RS:=rE [.d dz,.d dz] jF
def avs:=jF.fI avr 2 ⟨.eW agI,⟨.eW agJ,trivial⟩⟩
def w7:Int->SA:=λn=>([.d ti n],[])
def Nm:Bs->ja:=λx=>⟨.d tB x,[],[]⟩
def vG:Int->Bs->Bs:=λn y=>y
def Nl:Nat->Int->Prop
 | 0=>λ_=>False
 |dep+1=>λn=>0<=n/\n<=9223372036854775807/\n < 128^(dep+1)
def EI:Int->Bs:=λn=>gH n
theorem av0{n:Int}(h:n < 128):gH n=[n]:=by unfold gH;rw[gT,if_neg au];rfl
theorem aCZ{n:Int}(h:128<=n)(h2:n<=9223372036854775807):gH n=(n%128+128)::gH (n / 128):=by unfold gH;rw[aje h h2];rfl
theorem asv{n:Int}(h0:0<=n)(h:n < 256):dO .u8 n=n:=by rw[Vv,ix];omega
theorem ai1:∀d d',w7 d=w7 d'->d=d':=abI [.d ti] λ_=>cf
def TT(dep:Nat):Entry:=Entry.of [aj ti] w7 (Nl dep) (λd=>vG d (EI d)) Nm
def YA(dep:Nat):Int->Option Bs:=λd=>(TT dep).run (w7 d).1 (w7 d).2
theorem avM{dep:Nat}{d:Int}(h:Nl dep d):YA dep d=aj (vG d (EI d)):=Entry.wz ai1 h
def ayS(dep:Nat):pb:=ah9 136 qb (TT dep) (jB (P:=Tryz.prog) [])
def aeb:Ae:= {bu:=[8,13],res:=[aj tB]}
def ayQ(dep:Nat):= @Rl Tryz.prog (ayS dep) aeb 0 Tryz.f136 _ w7
theorem aJa(dep n)(k:K1 R):ayQ dep n k=aG (fL n (128:Int)) (k (Nm [(dO .u8 n)])) (al (YA dep (vS .i64 n (128:Int))) λx1=>aG (dd (1+(List.length x1)) 1) (aG (decide (0=0/\(0+(1+(List.length x1)))<=(List.length ([(bA .u8 (dO .u8 (nM n (128:Int))) (128:Int))]++x1)))) (k (Nm (cut ([(bA .u8 (dO .u8 (nM n (128:Int))) (128:Int))]++x1) 0 (1+(List.length x1))))) aF) aF):=cf
theorem aJb:∀(dep:Nat) (d:Int),Nl (dep+1) d->ayQ dep d aj=aj (Nm (vG d (EI d))):=by
 rintro dep (n:Int) ⟨h0,h1,h2⟩;have h0:0<=n:=h0;have h1:n<=9223372036854775807:=h1;have h2:n < 128^(dep+1):=h2;rw[aJa];simp only[vG,EI];by_cases h:n < 128
 ·rw[aT h,ak,av0 h,asv h0 au]
 ·obtain⟨m,rfl⟩:∃m:Nat,n=m:=⟨n.toNat,au⟩;cases dep with
  |zero=>exact absurd h2 h
  |succ dep=>
   have e:(128:Int)^(dep+1+1)=128^(dep+1)*128:=fO 128 (dep+1);have e1:vS .i64 (m:Int) (128:Int)=((m / 128:Nat):Int):=N.aVB au;have e2:nM (m:Int) (128:Int)=((m%128:Nat):Int):=N.aUd;have e3:bA .u8 (dO .u8 ((m%128:Nat):Int)) (128:Int)=(m:Int)%128+128:=by rw[asv au au];show IntKind.u8.wrap _=_;rw[wrap_u8,ix];omega
   have e4:((m / 128:Nat):Int)=(m:Int) / 128:=au;have hl:=kV ((m:Int) / 128);rw[aP h,ao,e1,e2,e3,e4,avM (dep:=dep+1) (d:=(m:Int) / 128) ⟨by show 0<=(m:Int) / 128;omega,by show(m:Int) / 128<=_;omega,by show(m:Int) / 128 < _;omega⟩];simp only[ah,vG,EI];rw[dk au au,aCZ au h1];have el:([(m:Int)%128+128]++gH ((m:Int) / 128)).length=1+(gH ((m:Int) / 128)).length:=by rw[ai];rfl
   rw[aI ⟨by trivial,by rw[el];omega⟩,eF el];rfl
def ayR:Entry:=TT 9
def QZ:Int->Option Bs:=NS ayR w7
theorem ai2{d:Int}(h:Nl 9 d):QZ d=aj (vG d (EI d)):=show(TT 9).run (w7 d).1 (w7 d).2=_ from Entry.wz ai1 h
theorem YB:∀dep,tg Tryz.prog 136 (TT dep)
 | 0=>tg.of (an:=aeb) (N:=0) (fn:=Tryz.f136) cf (show Sound _ aGj from Sound.nil _) cf cf cf (kA.fn 0 cf trivial) (λ_ h=>False.elim h)
 |dep+1=>tg.of (an:=aeb) (N:=0) (fn:=Tryz.f136) cf (show Sound _ (ayS dep) from Sound.cons (D6.of (YB dep) (by rfl)) (Sound.jB (P:=Tryz.prog) [])) cf cf cf (kA.fn 0 cf trivial) (aJb dep)
def ark:SG Tryz.prog:=⟨136,qb,ayR,.of (YB 9) (by rfl)⟩
def aCu:(Bs×Int)->Prop:=λ(b,n)=>b.length<=90000000/\n<=9223372036854775807
def zd:(Bs×Int)->Bs:=λ(b,n)=>dJ b n
def AU:Fs Tryz.prog aCu bz zd:=fu 97 Tryz.f97 (λ(b,n)=>([.d tB b,.d ti n],[])) (λx=>⟨.d tB x,[],[]⟩) [aj tB,aj ti] [ark] {bu:=[6],res:=[aj tB]}
theorem aI8(b n)(k:K1 R):AU.A (b,n) k=aG (dd (0+(List.length b)) 1) (aG (D4 n 0) (al (QZ n) λx1=>aG (decide ((0+(List.length b))<=(List.length ((aJ 0 (ae 0 0))++b)))) (aG (dd ((0+(List.length b))+(List.length x1)) 1) (aG (decide (0=0/\(0+((0+(List.length b))+(List.length x1)))<=(List.length ((aJ (0+(List.length b)) ((aJ 0 (ae 0 0))++b))++x1)))) (k (AU.out (cut ((aJ (0+(List.length b)) ((aJ 0 (ae 0 0))++b))++x1) 0 ((0+(List.length b))+(List.length x1))))) aF) aF) aF) (aG (decide (0=0/\(0+(0+(List.length b)))<=(List.length ((aJ 0 (ae 0 0))++b)))) (k (AU.out (cut ((aJ 0 (ae 0 0))++b) 0 (0+(List.length b))))) aF)) aF:=cf
theorem aI9:AU.Ok:=by
 rintro⟨b,n⟩ ⟨hb,hn⟩;have hb:b.length<=90000000:=hb;have hn:n<=9223372036854775807:=hn;have e0:(aJ 0 (ae 0 0):List Int)=[]:=rfl;rw[aI8];simp only[aU,e0,bm,bz,zd,dJ,aB,ji,cG,ak,eF,bK];rw[dk au au,ak];by_cases h:n>=0
 ·have hl:=kV n;rw[gA h,ak,if_neg au,ai2 (d:=n) ⟨h,hn,by have e:(128:Int)^(8+1)=9223372036854775808:=rfl;rw[e];show n < _;omega⟩];simp only[ah,vG,EI];rw[dk au au,aI ⟨by trivial,by rw[ai];omega⟩,eF (by rw[ai])];rfl
 ·rw[eD h,if_pos au];rfl
theorem sE:AU.RS:=rE [.d tB,.d ti] AU
def ari:=AU.fI aI9
abbrev Yz:=Int×Nat×Int×(List Int)
def agQ:Yz->Prop:=λ(n,m,i,l)=>m=l.length/\∃j:Nat,j<=8/\i=7 - (j:Int)/\l.length<=100000000+j
def EH:Yz->(Nat×(List Int)):=λ(n,m,i,l)=>(m+(i+1).toNat,l++(jA n).drop (7 - i).toNat)
def avL:(Bs×Int)->Prop:=λ(b,n)=>b.length<=90000000
def ad9:(Bs×Int)->Bs:=λ(b,n)=>b++jA n
def sG:Ls agQ bz EH:=te (λ(xZ,outL,i,n7)=>⟨([bC,.d tu xZ,bC,bC,bC,je 7 outL,.d ti i]++aQ 17 []),[],(bk 7 ([cJ (.vec 5 tb n7)]++bk 16 []))⟩) (λx=>(.exit 0,⟨(aQ 5 ([je 7 x.1]++aQ 18 [])),[],(bk 7 ([cJ (.vec 5 tb x.2)]++bk 16 []))⟩))
def DJ:Fs Tryz.prog avL bz ad9:=fu 137 Tryz.f137 (λ(b,n)=>([.d tB b,.d tu n],[])) (λx=>⟨.d tB x,[],[]⟩) [aj tB,aj tu] [] {bu:=[7],loops:=oI [(3,{aV:=[1,5,6],sites:=[7],owns:=[⟨5,[],7,113⟩]})],outs:=oH [(3,{aV:=[5],sites:=[7]},{aV:=[4]})],fE:=pW [(3,sG.E)],res:=[aj tB]}
theorem agR:sG.RS:=rL [.d tu,.n,.d ti,.d tB] sG
theorem Lv(xZ outL i n7)(kn:K2 R)(kx:K3 R):DJ.R 0 sG (xZ,outL,i,n7) kn kx=aG (D4 i 0) (aG (nv (dO .u64 (gB .i64 8 i))) (aG (decide (outL<=(List.length n7))) (aG (dd (outL+1) 1) (kn (sG.st (xZ,(outL+1),(dG .i64 i 1),((aJ outL n7)++ [(dO .u8 (cq .u64 xZ (dO .u64 (gB .i64 8 i))))])))) aF) aF) aF) (sG.go kx (outL,n7)):=cf
theorem aCE(b n)(k:K1 R):DJ.A (b,n) k=aG (dd (0+(List.length b)) 1) (al (sG.call (n,(0+(List.length b)),7,((aJ 0 (ae 0 0))++b))) λx1=>aG (decide (0=0/\(0+x1.1)<=(List.length x1.2))) (k (DJ.out (cut x1.2 0 x1.1))) aF) aF:=cf
theorem amv:(DJ.kA 0 sG):=by
 refine(DJ.nN 0 sG) (λ(n,m,i,l)=>(i+1).toNat) ?_
 rintro⟨n,m,i,l⟩ ⟨rfl,j,hj,rfl,hl⟩;have hl:l.length<=100000000+j:=hl;have e1:(7 - (7 - (j:Int))).toNat=j:=au;by_cases h:j < 8
 ·left;have e2:dG .i64 (7 - (j:Int)) 1=7 - ((j+1:Nat):Int):=by rw[gC au au];omega
  have e3:(7 - (7 - ((j+1:Nat):Int))).toNat=j+1:=au;have e4:gB .i64 8 (7 - (j:Int))=((56 - 8*j:Nat):Int):=by rw[Kb au au];omega
  have e5:dO .u64 ((56 - 8*j:Nat):Int)=((56 - 8*j:Nat):Int):=by rw[Sx,ix];omega
  refine⟨(n,l.length+1,7 - ((j+1:Nat):Int),l++ [n / 2^(56 - 8*j)%256]),⟨by rw[ai];rfl,j+1,au,rfl,by rw[ai];show l.length+1<=_;omega⟩,by simp only;omega,?_,λkn kx=> ?_⟩
  ·simp only[bz,EH,e1,e3,anU n j h,aM,cS];rw[show l.length+1+(7 - ((j+1:Nat):Int)+1).toNat=l.length+(7 - (j:Int)+1).toNat by omega]
  ·rw[Lv,gA au,e4,e5,vz au,afx n _ au,e2,aI (aB _),dk au au,bK];rfl
 ·right;obtain rfl:j=8:=au;intro R kn kx;rw[Lv,eD au,ao];simp only[bz,EH,e1];rw[fv (by rw[cl];omega),bJ];rfl
theorem aCF:DJ.Ok:=by
 rintro⟨b,n⟩ hb;have hb:b.length<=90000000:=hb;have e0:(aJ 0 (ae 0 0):List Int)=[]:=rfl;rw[aCE];simp only[aU,e0,bm];rw[dk au au,ak,agR (d:=(n,b.length,7,b)) ⟨rfl,0,au,rfl,au⟩];simp only[ah,bz,EH];rw[show(7 - (7:Int)).toNat=0 from rfl,show((7:Int)+1).toNat=8 from rfl,aO];have el:(b++jA n).length=b.length+8:=by rw[ai,cl]
 rw[aI ⟨by trivial,by rw[el];omega⟩,eF el];rfl
theorem aea:DJ.RS:=rE [.d tB,.d tu] DJ
def aCG:=DJ.fI aCF 1 ⟨.eW amv,trivial⟩
def ad5:(Int×Int×Int)->Prop:=λ(a,b,o)=>Pn a/\ow b/\Pn o
def Iv:(Int×Int×Int)->Int:=λ(a,b,o)=>(o+a*b)%4611686018427377339
def arh:(Int×Int)->Prop:=λ(a,b)=>Pn a/\ow b
def aCt:(Int×Int)->Int:=λ(a,b)=>qR a b
def mG:Ls ad5 bz Iv:=te (λ(qq,gY,outv)=>⟨([.d tu qq,.d tu gY,bC,bC,bC,.d tu outv]++aQ 16 []),[],(ae 22 [])⟩) (λx=>(.exit 0,⟨(aQ 5 ([.d tu x]++aQ 16 [])),[],(ae 22 [])⟩))
def uo:Fs Tryz.prog arh bz aCt:=fu 165 Tryz.f165 (λ(a,b)=>([.d tu a,.d tu b],[])) (λx=>⟨.d tu x,[],[]⟩) [aj tu,aj tu] [] {loops:=oI [(2,{aV:=[0,1,5]})],outs:=oH [(2,{aV:=[5]},{aV:=[4]})],fE:=pW [(2,mG.E)]}
theorem ad6:mG.RS:=rL [.d tu,.d tu,.d tu] mG
theorem Jm(qq gY outv)(kn:K2 R)(kx:K3 R):uo.R 0 mG (qq,gY,outv) kn kx=aG (Af gY 0) (aG (AP (nM gY 2) 1) (kn (mG.st ((nM (bA .u64 qq qq) 4611686018427377339),(vS .u64 gY 2),(nM (bA .u64 outv qq) 4611686018427377339)))) (kn (mG.st ((nM (bA .u64 qq qq) 4611686018427377339),(vS .u64 gY 2),outv)))) (mG.go kx outv):=cf
theorem avC(a b)(k:K1 R):uo.A (a,b) k=al (mG.call (a,b,0)) λx1=>k (uo.out x1):=cf
theorem aAr(o a b:Int)(m:Int):(o+a*b)%m=((if b%2=1 then(o+a)%m else o)+(a+a)%m*(b / 2))%m:=by
 have e:b=2*(b / 2)+b%2:=au;have hb:b%2=0\/b%2=1:=au;generalize b / 2=q at*;have l1:∀x y:Int,(x%m+(a+a)%m*y)%m=(x+(a+a)*y)%m:=λx y=>by rw[vU,hH _ (rz m),jN,hH _ (rz m),<-jN,<-vU]
 have l2:∀x y:Int,(x+(a+a)%m*y)%m=(x+(a+a)*y)%m:=λx y=>by rw[vU,jN,hH _ (rz m),<-jN,<-vU]
 rcases hb with h | h
 ·rw[if_neg au,l2];rw[h]at e;rw[e,Int.add_zero,Int.add_mul,<-th,vV a 2,Int.two_mul,Int.add_mul]
 ·rw[if_pos h,l1];rw[h]at e;rw[e,Int.mul_add,zA,<-th,vV a 2,Int.two_mul];congr 1;omega
theorem aOU{n:Int}(h:ow n):vS .u64 n 2=n / 2:=akT h.1 au h.2
theorem agN:(uo.kA 0 mG):=by
 refine(uo.nN 0 mG) (λ(a,b,o)=>b.toNat) ?_
 rintro⟨a,b,o⟩ ⟨ha,hb,ho⟩;have ha:Pn a:=ha;have hb:ow b:=hb;have ho:Pn o:=ho;obtain⟨a0,a1⟩:=ha;obtain⟨b0,b1⟩:=hb;obtain⟨o0,o1⟩:=ho;by_cases h:0 < b
 ·left;have e1:nM (bA .u64 a a) 4611686018427377339=(a+a)%4611686018427377339:=by
   have:bA .u64 a a=a+a:=by rw[wm];omega
   rw[this,yF au]
  have e2:nM (bA .u64 o a) 4611686018427377339=(o+a)%4611686018427377339:=by
   have:bA .u64 o a=o+a:=by rw[wm];omega
   rw[this,yF au]
  refine⟨((a+a)%4611686018427377339,b / 2,if b%2=1 then(o+a)%4611686018427377339 else o),⟨⟨au,au⟩,⟨au,au⟩,?_⟩,by simp only[];omega,?_,λkn kx=> ?_⟩
  ·show Pn (if b%2=1 then(o+a)%4611686018427377339 else o);split
   ·exact⟨au,au⟩
   ·exact⟨o0,o1⟩
  ·exact congrArg _ (aAr o a b 4611686018427377339).symm
  ·rw[Jm,dj h,e1,e2,aOU ⟨b0,b1⟩,yF b0];by_cases h1:b%2=1
   ·rw[eU h1,if_pos h1];rfl
   ·rw[fU h1,if_neg h1];rfl
 ·right;intro R kn kx;obtain rfl:b=0:=au;rw[Jm,cw au];simp only[ao,bz,Iv];rw[show(o+a*0)%4611686018427377339=o by omega]
theorem avD:uo.Ok:=by rintro⟨a,b⟩ ⟨ha,hb⟩;rw[avC,ad6 (d:=(a,b,0)) ⟨ha,hb,au,au⟩];simp only[ah,bz,Iv,Int.zero_add];rfl
theorem Yx:uo.RS:=rE [.d tu,.d tu] uo
def avE:=uo.fI avD 1 ⟨.eW agN,trivial⟩
def ad3:(Int×Int×Int)->Prop:=λ(a,n,o)=>Pn a/\ow n/\Pn o
def B5:(Int×Int×Int)->Int:=λ(a,n,o)=>anD 64 a n.toNat o
def ard:(Int×Int)->Prop:=λ(a,n)=>Pn a/\ow n
def aCs:(Int×Int)->Int:=λ(a,n)=>pw a n.toNat
def mF:Ls ad3 bz B5:=te (λ(qq,xZ,outv)=>⟨([.d tu qq,.d tu xZ,bC,bC,bC,.d tu outv]++aQ 14 []),[],(ae 20 [])⟩) (λx=>(.exit 0,⟨(aQ 5 ([.d tu x]++aQ 14 [])),[],(ae 20 [])⟩))
def zb:Fs Tryz.prog ard bz aCs:=fu 163 Tryz.f163 (λ(a,n)=>([.d tu a,.d tu n],[])) (λx=>⟨.d tu x,[],[]⟩) [aj tu,aj tu] [avE] {loops:=oI [(2,{aV:=[0,1,5]})],outs:=oH [(2,{aV:=[5]},{aV:=[4]})],fE:=pW [(2,mF.E)]}
theorem ad4:mF.RS:=rL [.d tu,.d tu,.d tu] mF
theorem Jl(qq xZ outv)(kn:K2 R)(kx:K3 R):zb.R 0 mF (qq,xZ,outv) kn kx=aG (Af xZ 0) (aG (AP (nM xZ 2) 1) (al (uo.call (outv,qq)) λx1=>al (uo.call (qq,qq)) λx2=>kn (mF.st (x2,(vS .u64 xZ 2),x1))) (al (uo.call (qq,qq)) λx3=>kn (mF.st (x3,(vS .u64 xZ 2),outv)))) (mF.go kx outv):=cf
theorem avw(a n)(k:K1 R):zb.A (a,n) k=al (mF.call (a,n,1)) λx4=>k (zb.out x4):=cf
theorem agM:(zb.kA 0 mF):=by
 refine(zb.nN 0 mF) (λ(a,n,o)=>n.toNat) ?_
 rintro⟨a,n,o⟩ ⟨ha,hn,ho⟩;have ha:Pn a:=ha;have hn:ow n:=hn;have ho:Pn o:=ho;have n0:=hn.1;have n1:=hn.2;by_cases h:0 < n
 ·left;have e:B5 (a,n,o)=B5 (qR a a,n / 2,if n%2=1 then qR o a else o):=by
   show anD 64 a n.toNat o=anD 64 (qR a a) (n / 2).toNat _;rw[adI 64 65 a n.toNat o au au];have t1:(n / 2).toNat=n.toNat / 2:=au;have t2:(n%2=1)=(n.toNat%2=1):=by apply propext;omega
   rw[t1];simp only[t2];show(if n.toNat=0 then o else _)=_;rw[if_neg au]
  refine⟨(qR a a,n / 2,if n%2=1 then qR o a else o),⟨yM a a,⟨au,au⟩,?_⟩,by show(n / 2).toNat < n.toNat;omega,?_,λkn kx=> ?_⟩
  ·show Pn (if n%2=1 then qR o a else o);split
   ·exact yM _ _
   ·exact ho
  ·exact congrArg _ e.symm
  ·rw[Jl,dj h,aOU hn,yF n0,Yx (d:=(o,a)) ⟨ho,ha.u⟩,Yx (d:=(a,a)) ⟨ha,ha.u⟩];by_cases h1:n%2=1
   ·rw[eU h1,if_pos h1];rfl
   ·rw[fU h1,if_neg h1];rfl
 ·right;intro R kn kx;obtain rfl:n=0:=au;rw[Jl,cw au];simp only[ao,bz,B5];rw[show anD 64 a (ab 0) o=o from DC _ _ _]
theorem avx:zb.Ok:=by rintro⟨a,n⟩ ⟨ha,hn⟩;rw[avw,ad4 (d:=(a,n,1)) ⟨ha,hn,au,au⟩];rfl
theorem are:zb.RS:=rE [.d tu,.d tu] zb
def avy:=zb.fI avx 1 ⟨.eW agM,trivial⟩
def arf:Int->Prop:=λp=>ow p
def Nk:Int->Bool:=λp=>xG p
def w6:Fs Tryz.prog arf bz Nk:=fu 152 Tryz.f152 (λp=>([.d tu p],[])) (λx=>⟨.d .bool x,[],[]⟩) [aj tu] [avy]
theorem avz(p)(k:K1 R):w6.A p k=aG (D4 p 1) (aG (fL p 4611686018427377339) (al (zb.call (p,2305843009213688669)) λx1=>k (w6.out (AP x1 1))) (k (w6.out aS))) (k (w6.out aS)):=cf
theorem avA:w6.Ok:=by
 intro(p:Int) hp;have hp:ow p:=hp;rw[avz];simp only[bz,Nk,xG];by_cases h:0 < p
 ·rw[gA au,ak];by_cases h2:p < 4611686018427377339
  ·rw[aT h2,ak,aI ⟨h,h2⟩,bF,are (d:=(p,2305843009213688669)) ⟨⟨au,h2⟩,by constructor <;> decide⟩];rfl
  ·rw[aP h2,ao,aN (λx=>h2 x.2),dm]
 ·rw[eD au,ao,aN (λx=>h x.1),dm]
theorem Yw:w6.RS:=rE [.d tu] w6
def avB:=w6.fI avA
abbrev q9:=pZ×Int
def jK:q9->AS:=λ(gY,i)=>⟨([bC,.dx iS gY,bC,.d ti i]++aQ 50 []),[],(ae 54 [])⟩
def ky:Unit->Exit×AS:=λx=>(.ret,⟨([bC,bC,.d .bool aS]++aQ 51 []),[],(ae 54 [])⟩)
def sD:pZ->Exit×AS:=λx=>(.exit 0,⟨([bC,.dx iS x]++aQ 52 []),[],(ae 54 [])⟩)
abbrev DE:=(Unit)⊕(pZ)
abbrev K0:=(Unit)⊕(Unit)
def yk:DE->Out (Exit×AS):=λx=> .br x.isLeft (.get x.getLeft? λa=> .ok (ky a)) (.get x.getRight? λb=> .ok (sD b))
def ia:q9->K0->DE:=λ(gY,i) y=>match y with | .inl y=> .inl y | .inr z=> .inr (gY)
def sC:q9->Prop:=λ(b,i)=>aEm b/\b.1.length<=1000000000/\∃k:Nat,k<=b.1.length/\i=k
def jr:q9->K0:=λ(b,i)=>if(b.1.drop i.toNat).all xG then .inr () else .inl ()
def agE:pZ->Prop:=λb=>aEm b
def KY:pZ->Bool:=λb=>xp b
def KZ:=du.eW jK sC ia jr yk
def EE:q9->Option DE:=fP KZ jK
def gN:Fs Tryz.prog agE bz KY:=fu 132 Tryz.f132 (λb=>([.d iS b],[])) (λx=>⟨.d .bool x,[],[]⟩) [aj iS] [avB] {loops:=oI [(4,{aV:=[1,3]})],outs:=oH [(4,{aV:=[1]},{aV:=[2]})],fE:=pW [(4,KZ)]}
def DD:= @dV Tryz.prog (jB gN.G) gN.an 0 Tryz.f132 0 _ jK
abbrev Jc:=jh Tryz.prog (jB gN.G) gN.an 0 Tryz.f132 0 jK sC ia jr yk
theorem V7:iy EE sC ia jr:=kz (jC [.d iS,.d ti] λ_=>cf)
theorem JJ:mY @DD jK sC ia jr yk Jc:=nJ
theorem EF(gY i)(kn:K2 R)(kx:K3 R):DD (gY,i) kn kx=aG (fL i (((List.length gY.1):Nat):Int)) (aG (eE i (((List.length gY.1):Nat):Int)) (al (w6.call (nth tu gY.1 (ab i))) λx1=>aG (!x1) (kx (ky ()).1 (ky ()).2) (kn (jK (gY,(bA .i64 i (1:Int)))))) aF) (kx (sD gY).1 (sD gY).2):=cf
theorem ame(b)(k:K1 R):gN.A b k=aG (Af (b.1.length:Int) 12) (k (gN.out aS)) (aG (fL b.2.1 0) (k (gN.out aS)) (aG (Af b.2.1 1048576) (k (gN.out aS)) (aG (fL b.2.2.1 0) (k (gN.out aS)) (aG (Af b.2.2.1 1048576) (k (gN.out aS)) (al (EE (b,0)) λx2=>aG x2.isLeft (al x2.getLeft? λa3=>k (gN.out aS)) (al x2.getRight? λb4=>al (w6.call b4.2.2.2.1) λx5=>aG (AP b4.2.2.2.1 0) (k (gN.out aL)) (k (gN.out x5)))))))):=cf
theorem Zs:Jc:=by
 refine JJ (λ(b,i)=>b.1.length - i.toNat) ?_
 rintro⟨b,i⟩ ⟨hb,hl,k,hk,rfl⟩;have hl:b.1.length<=1000000000:=hl;have hk:k<=b.1.length:=hk;by_cases h:k < b.1.length
 ·have hx:=hb.1 _ (aR h);have n1:nth (.int .u64) b.1 k=b.1[k]:=cj (t:= .int .u64) h;have hd:(b.1.drop k).all xG=(xG b.1[k] && (b.1.drop (k+1)).all xG):=by rw[aq h,eR]
  have step:∀ {R:Type} (kn:AS->Option R) (kx:Exit->AS->Option R),DD (b,(k:Int)) kn kx=aG (xG b.1[k]) (kn (jK (b,((k+1:Nat):Int)))) (kx (ky ()).1 (ky ()).2):=by intro R kn kx;rw[EF,aT au,aZ au au,aa,n1,N.lh au,Yw (d:=b.1[k]) hx];simp only[ak,ah,bz,Nk];cases xG b.1[k] <;> rfl
  cases hp:xG b.1[k]
  ·right;refine⟨ky (),?_,λkn kx=> ?_⟩
   ·simp only[ia,jr,aa,hd,hp,dm,bw,bp];rfl
   ·rw[step,hp,ao]
  ·left;refine⟨(b,((k+1:Nat):Int)),⟨hb,hl,k+1,au,rfl⟩,by simp only[aa];omega,?_,λkn kx=> ?_⟩
   ·simp only[ia,jr,aa,hd,hp,bF]
   ·rw[step,hp,ak]
 ·right;obtain rfl:k=b.1.length:=au;refine⟨sD b,?_,λkn kx=> ?_⟩
  ·simp only[ia,jr,aa,aH];rfl
  ·rw[EF];simp(disch:=omega) only[↓S1,↓if_pos,↓if_neg,if_pos,if_neg,bE,bp,S2]
theorem amf:gN.Ok:=by
 rintro⟨ks,af,dl,sc,u⟩ hb;have hb:aEm (ks,af,dl,sc,u):=hb;have h2:ow sc:=hb.2;rw[ame];simp only[bz,KY,xp,Su];by_cases hk:ks.length<=12
 ·rw[cw au,aI hk,V7 (d:=((ks,af,dl,sc,u),0)) ⟨hb,by show ks.length<=1000000000;omega,0,au,rfl⟩];simp only[ao,bF,ah,ia,jr,aW,aO];by_cases a1:af < 0
  ·rw[aT a1,aN (p:=0<=af/\af<=1048576) au];cases ks.all xG <;> rfl
  by_cases a2:af > 1048576
  ·rw[aP a1,dj a2,aN (p:=0<=af/\af<=1048576) au];cases ks.all xG <;> rfl
  by_cases a3:dl < 0
  ·rw[aP a1,cw a2,aT a3,aN (p:=0<=dl/\dl<=1048576) au];cases ks.all xG <;> cases(decide (0<=af/\af<=1048576)) <;> rfl
  by_cases a4:dl > 1048576
  ·rw[aP a1,cw a2,aP a3,dj a4,aN (p:=0<=dl/\dl<=1048576) au];cases ks.all xG <;> cases(decide (0<=af/\af<=1048576)) <;> rfl
  rw[aP a1,cw a2,aP a3,cw a4,aI (p:=0<=dl/\dl<=1048576) au,aI (p:=0<=af/\af<=1048576) au];cases aQj:ks.all xG
  ·simp only[aQj,bw,bp];rfl
  ·simp only[aQj,bE];show al (w6.call sc) _=_;rw[Yw (d:=sc) h2];simp only[ah,bz,Nk];by_cases hs:sc=0
   ·rw[aI hs];show aG (AP sc 0) _ _=_;rw[eU hs];rfl
   ·rw[aN hs];show aG (AP sc 0) _ _=_;rw[fU hs];rfl
 ·rw[dj au,aN hk];rfl
theorem agF:gN.RS:=rE [.d iS] gN
def amg:=gN.fI amf 1 ⟨.eW Zs,trivial⟩
abbrev tC:=Lk×Int
def kN:tC->AS:=λ(VE,i)=>⟨([bC,.dx Ag VE,bC,.d ti i]++aQ 24 []),[],(ae 28 [])⟩
def lB:Unit->Exit×AS:=λx=>(.ret,⟨([bC,bC,.d .bool aS]++aQ 25 []),[],(ae 28 [])⟩)
def tW:Unit->Exit×AS:=λx=>(.exit 0,⟨(aQ 28 []),[],(ae 28 [])⟩)
abbrev FF:=(Unit)⊕(Unit)
abbrev OM:=(Unit)⊕(Unit)
def Aq:FF->Out (Exit×AS):=λx=> .br x.isLeft (.get x.getLeft? λa=> .ok (lB a)) (.get x.getRight? λb=> .ok (tW b))
def iF:tC->OM->FF:=λ(VE,i) y=>match y with | .inl y=> .inl y | .inr z=> .inr (z)
def tV:tC->Prop:=λ(l,i)=>afG l/\l.1.length<=1000000000/\∃k:Nat,k<=l.1.length/\i=k
def j2:tC->OM:=λ(l,i)=>if(l.1.drop i.toNat).all xp then .inr () else .inl ()
def amj:Lk->Prop:=λl=>afG l
def Il:Lk->Bool:=λl=>lk l
def OL:=du.eW kN tV iF j2 Aq
def GV:tC->Option FF:=fP OL kN
def kM:Fs Tryz.prog amj bz Il:=fu 94 Tryz.f94 (λl=>([.d Ag l],[])) (λx=>⟨.d .bool x,[],[]⟩) [aj Ag] [amg] {loops:=oI [(4,{aV:=[1,3]})],outs:=oH [(4,{},{aV:=[2]})],fE:=pW [(4,OL)]}
def FE:= @dV Tryz.prog (jB kM.G) kM.an 0 Tryz.f94 0 _ kN
abbrev K4:=jh Tryz.prog (jB kM.G) kM.an 0 Tryz.f94 0 kN tV iF j2 Aq
theorem Zx:iy GV tV iF j2:=kz (jC [.d Ag,.d ti] λ_=>cf)
theorem K5:mY @FE kN tV iF j2 Aq K4:=nJ
theorem GW(VE i)(kn:K2 R)(kx:K3 R):FE (VE,i) kn kx=aG (fL i (((List.length VE.1):Nat):Int)) (aG (eE i (((List.length VE.1):Nat):Int)) (al (gN.call (nth iS VE.1 (ab i))) λx1=>aG (!x1) (kx (lB ()).1 (lB ()).2) (kn (kN (VE,(bA .i64 i (1:Int)))))) aF) (kx (tW ()).1 (tW ()).2):=cf
theorem aqX(l)(k:K1 R):kM.A l k=aG (fL (l.1.length:Int) 1) (k (kM.out aS)) (aG (Af (l.1.length:Int) 4) (k (kM.out aS)) (al (GV (l,0)) λx2=>aG x2.isLeft (al x2.getLeft? λa3=>k (kM.out aS)) (al x2.getRight? λb4=>k (kM.out aL)))):=cf
theorem adM:K4:=by
 refine K5 (λ(l,i)=>l.1.length - i.toNat) ?_
 rintro⟨l,i⟩ ⟨hb,hl,k,hk,rfl⟩;have hl:l.1.length<=1000000000:=hl;have hk:k<=l.1.length:=hk;by_cases h:k < l.1.length
 ·have hx:=hb _ (aR h);have n1:nth (.pair (.slice (.int .u64)) (.pair (.int .i64) (.pair (.int .i64) (.pair (.int .u64) .unit)))) l.1 k=l.1[k]:=cj (t:=(.pair (.slice (.int .u64)) (.pair (.int .i64) (.pair (.int .i64) (.pair (.int .u64) .unit))))) h;have hd:(l.1.drop k).all xp=(xp l.1[k] && (l.1.drop (k+1)).all xp):=by rw[aq h,eR]
  have step:∀ {R:Type} (kn:AS->Option R) (kx:Exit->AS->Option R),FE (l,(k:Int)) kn kx=aG (xp l.1[k]) (kn (kN (l,((k+1:Nat):Int)))) (kx (lB ()).1 (lB ()).2):=by intro R kn kx;rw[GW,aT au,aZ au au,aa,n1,N.lh au,agF (d:=l.1[k]) hx];simp only[ak,ah,bz,KY];cases xp l.1[k] <;> rfl
  cases hp:xp l.1[k]
  ·right;refine⟨lB (),?_,λkn kx=> ?_⟩
   ·simp only[iF,j2,aa,hd,hp,dm,bw,bp];rfl
   ·rw[step,hp,ao]
  ·left;refine⟨(l,((k+1:Nat):Int)),⟨hb,hl,k+1,au,rfl⟩,by simp only[aa];omega,?_,λkn kx=> ?_⟩
   ·simp only[iF,j2,aa,hd,hp,bF]
   ·rw[step,hp,ak]
 ·right;obtain rfl:k=l.1.length:=au;refine⟨tW (),?_,λkn kx=> ?_⟩
  ·simp only[iF,j2,aa,aH];rfl
  ·rw[GW];simp(disch:=omega) only[↓S1,↓if_pos,↓if_neg,if_pos,if_neg,bE,bp,S2]
theorem aqY:kM.Ok:=by
 intro l hl;have hl:afG l:=hl;rw[aqX];simp only[bz,Il,lk];by_cases h0:l.1.length < 1
 ·rw[aT au,aN (p:=0 < l.1.length/\l.1.length<=4) au,Bool.and_false];rfl
 by_cases h4:l.1.length > 4
 ·rw[aP au,dj au,aN (p:=0 < l.1.length/\l.1.length<=4) au,Bool.and_false];rfl
 rw[aP au,cw au,aI (p:=0 < l.1.length/\l.1.length<=4) au,Bool.and_true,Zx (d:=(l,0)) ⟨hl,by show l.1.length<=1000000000;omega,0,au,rfl⟩];simp only[ao,ah,iF,j2,aW,aO];cases l.1.all xp <;> rfl
theorem TH:kM.RS:=rE [.d Ag] kM
def Yq:=kM.fI aqY 1 ⟨.eW adM,trivial⟩
abbrev FD:=Lk×Bs×Int×Int×pZ
def tT:FD->Bs->((Lk×Int×pZ)×(Bs)):=λ(aQy,yc,fK,kv,n5) y=>((aQy,fK,n5),y)
def Zv:FD->Prop:=λ(l,o,i,j,b)=>b.1.length<=12/\∃k:Nat,k<=b.1.length/\j=k/\o.length+8*b.1.length<=80000000+8*k
def yZ:FD->Bs:=λ(l,o,i,j,b)=>np o (b.1.drop j.toNat)
def Zt:(Lk×Bs×Int)->Prop:=λ(l,o,i)=>(∀b∈l.1,aR6 b)/\l.1.length<=4/\∃k:Nat,k<=l.1.length/\i=k/\o.length<=1000+200*k
def FC:(Lk×Bs×Int)->Bs:=λ(l,o,i)=>(l.1.drop i.toNat).foldl aD8 o
def amh:Lk->Prop:=λl=>afG l
def QT:Lk->Bs:=λl=>P8 l
def me:Ls Zt bz FC:=te (λ(VE,outv,i)=>⟨([bC,.dx Ag VE,bC,.d tB outv,.d ti i]++aQ 53 []),[],(ae 58 [])⟩) (λx=>(.exit 0,⟨([bC,bC,bC,.d tB x]++aQ 54 []),[],(ae 58 [])⟩))
def mf:Ls Zv tT yZ:=te (λ(aQy,yc,fK,kv,n5)=>⟨([bC,.dx Ag aQy,bC,.d tB yc,.d ti fK,dP 5,.d ti kv]++aQ 51 []),[],(bk 5 ([cJ (.d iS n5)]++bk 52 []))⟩) (λx=>(.exit 2,⟨([bC,.dx Ag x.1.1,bC,.d tB x.2,.d ti x.1.2.1,dP 5]++aQ 52 []),[],(bk 5 ([cJ (.d iS x.1.2.2)]++bk 52 []))⟩))
def mc:Fs Tryz.prog amh bz QT:=fu 100 Tryz.f100 (λl=>([.d Ag l],[])) (λx=>⟨.d tB x,[],[]⟩) [aj Ag] [Yq,ari,aCG] {loops:=oI [(5,{aV:=[1,3,4]}),(10,{aV:=[1,3,4,5,6],sites:=[5]})],outs:=oH [(5,{aV:=[3]},{aV:=[2]}),(10,{aV:=[1,3,4,5],sites:=[5]},{aV:=[2]})],fE:=pW [(5,me.E),(10,mf.E)],res:=[aj tB]}
theorem Zu:me.RS:=rL [.d Ag,.d tB,.d ti] me
theorem GS(VE outv i)(kn:K2 R)(kx:K3 R):mc.R 0 me (VE,outv,i) kn kx=aG (fL i (VE.1.length:Int)) (aG (eE i (VE.1.length:Int)) (al (AU.call (outv,(((List.length (nth iS VE.1 (ab i)).1):Nat):Int))) λx1=>al (mf.call (VE,x1,i,0,(nth iS VE.1 (ab i)))) λx2=>al (AU.call (x2.2,x2.1.2.2.2.1)) λx3=>al (AU.call (x3,x2.1.2.2.2.2.1)) λx4=>al (DJ.call (x4,x2.1.2.2.2.2.2.1)) λx5=>kn (me.st (x2.1.1,x5,(bA .i64 x2.1.2.1 1)))) aF) (me.go kx outv):=cf
theorem Zw:mf.RS:=rL [.d Ag,.d tB,.d ti,.d ti,.d iS] mf
theorem GU(aQy yc fK kv n5)(kn:K2 R)(kx:K3 R):mc.R 1 mf (aQy,yc,fK,kv,n5) kn kx=aG (fL kv (n5.1.length:Int)) (aG (eE kv (n5.1.length:Int)) (al (DJ.call (yc,(nth tu n5.1 (ab kv)))) λx1=>kn (mf.st (aQy,x1,fK,(bA .i64 kv 1),n5))) aF) (mf.go kx ((aQy,fK,n5),yc)):=cf
theorem aqU(l)(k:K1 R):mc.A l k=al (kM.call l) λx1=>aG (!x1) (k (mc.out ([]:List Int))) (al (AU.call (([]:List Int),(l.1.length:Int))) λx2=>al (me.call (l,x2,0)) λx9=>k (mc.out x9)):=cf
theorem adL:(mc.kA 1 mf):=by
 refine(mc.nN 1 mf) (λ(l,o,i,j,b)=>b.1.length - j.toNat) ?_
 rintro⟨l,o,i,j,b⟩ ⟨Zm,k,hk,rfl,hl⟩;have Zm:b.1.length<=12:=Zm;have hk:k<=b.1.length:=hk;have hl:o.length+8*b.1.length<=80000000+8*k:=hl;by_cases h:k < b.1.length
 ·left;have n1:nth (.int .u64) b.1 k=b.1[k]:=cj (t:= .int .u64) h;refine⟨(l,o++jA b.1[k],i,((k+1:Nat):Int),b),⟨Zm,k+1,au,rfl,by rw[ai,cl];omega⟩,by simp only[aa];omega,?_,λkn kx=> ?_⟩
  ·simp only[tT,yZ,aa];rw[abS _ _ _ h]
  ·rw[GU,aT au,aZ au au,aa,n1,aea (d:=(o,b.1[k])) (by show o.length<=90000000;omega)];simp only[ak,ah,bz,ad9];rw[N.lh au]
 ·right;obtain rfl:k=b.1.length:=au;intro R kn kx;rw[GU,aP au,ao];simp only[tT,yZ,aa,aH];rfl
theorem adK:(mc.kA 0 me):=by
 refine(mc.nN 0 me) (λ(l,o,i)=>l.1.length - i.toNat) ?_
 rintro⟨l,o,i⟩ ⟨hb,h4,k,hk,rfl,hl⟩;have h4:l.1.length<=4:=h4;have hk:k<=l.1.length:=hk;have hl:o.length<=1000+200*k:=hl;by_cases h:k < l.1.length
 ·left;have hx:=hb _ (aR h);have n1:nth (.pair (.slice (.int .u64)) (.pair (.int .i64) (.pair (.int .i64) (.pair (.int .u64) .unit)))) l.1 k=l.1[k]:=cj (t:=(.pair (.slice (.int .u64)) (.pair (.int .i64) (.pair (.int .i64) (.pair (.int .u64) .unit))))) h;have e0:=ajU o l.1[k] hx.1;refine⟨(l,aD8 o l.1[k],((k+1:Nat):Int)),⟨hb,h4,k+1,au,rfl,au⟩,by simp only[aa];omega,?_,λkn kx=> ?_⟩
  ·simp only[bz,FC,aa];rw[aq h];rfl
  ·rw[GS,aT au,aZ au au,aa,n1];obtain⟨⟨ks,af,dl,sc,u⟩,aP9⟩:∃b,l.1[k]=b:=⟨_,rfl⟩;rw[aP9]at hx e0 ⊢;obtain⟨Zm,ha,hd⟩:=hx;have Zm:ks.length<=12:=Zm;have ha:af<=9223372036854775807:=ha;have hd:dl<=9223372036854775807:=hd;have l1:=fg o ks.length;have l2:=M4 ks (dJ o ks.length);have l3:=fg (np (dJ o ks.length) ks) af;have l4:=fg (dJ (np (dJ o ks.length) ks) af) dl;simp only[ak];rw[sE (d:=(o,(ks.length:Int))) ⟨by show o.length<=90000000;omega,by show(ks.length:Int)<=9223372036854775807;omega⟩];simp only[ah,bz,zd];rw[Zw (d:=(l,dJ o ks.length,(k:Int),0,(ks,af,dl,sc,u))) ⟨Zm,0,aK _,rfl,by show(dJ o ks.length).length+8*ks.length<=_;omega⟩];simp only[ah,tT,yZ,aW,aO];rw[sE (d:=(np (dJ o ks.length) ks,af)) ⟨by show(np (dJ o ks.length) ks).length<=90000000;omega,ha⟩];simp only[ah,bz,zd];rw[sE (d:=(dJ (np (dJ o ks.length) ks) af,dl)) ⟨by show(dJ (np (dJ o ks.length) ks) af).length<=90000000;omega,hd⟩];simp only[ah,bz,zd];rw[aea (d:=(dJ (dJ (np (dJ o ks.length) ks) af) dl,sc)) (by show(dJ (dJ (np (dJ o ks.length) ks) af) dl).length<=90000000;omega)];simp only[ah,bz,ad9];rw[N.lh au];rfl
 ·right;obtain rfl:k=l.1.length:=au;intro R kn kx;rw[GS,aP au,ao];simp only[bz,FC,aa,aH];rfl
theorem aqV:mc.Ok:=by
 intro l hl;have hl:afG l:=hl;rw[aqU,TH (d:=l) hl];simp only[ah,bz,Il,bz,QT,P8];cases gb:lk l
 ·rfl
 ·obtain⟨h1,h2,h3⟩:=auf gb;have l1:=fg [] l.1.length;have l0:([]:List Int).length=0:=rfl;simp only[bY,ao,bE];rw[sE (d:=([],(l.1.length:Int))) ⟨by show([]:List Int).length<=90000000;omega,by show(l.1.length:Int)<=9223372036854775807;omega⟩];simp only[ah,bz,zd];rw[Zu (d:=(l,dJ [] l.1.length,0)) ⟨h1,h3,0,aK _,rfl,by show(dJ [] l.1.length).length<=_;omega⟩];rfl
theorem ami:mc.RS:=rE [.d Ag] mc
def aqW:=mc.fI aqV 2 ⟨.eW adK,⟨.eW adL,trivial⟩⟩
abbrev Yy:=Bs×Nat×Int×(List Int)
def agO:Yy->Prop:=λ(h,m,i,l)=>h.length=32/\m=l.length/\∃k:Nat,k<=32/\i=k/\l.length<=100000000+k
def EG:Yy->(Nat×(List Int)):=λ(h,m,i,l)=>((l++h.drop i.toNat).length,l++h.drop i.toNat)
def avH:(Bs×Bs)->Prop:=λ(b,h)=>b.length<=90000000/\h.length=32
def ad7:(Bs×Bs)->Bs:=λ(b,h)=>b++h
def sF:Ls agO bz EG:=te (λ(Sl,outL,i,n7)=>⟨([bC,bC,bC,.dx tH Sl,bC,je 7 outL,.d ti i]++aQ 14 []),[],(bk 7 ([cJ (.vec 5 tb n7)]++bk 13 []))⟩) (λx=>(.exit 0,⟨(aQ 5 ([je 7 x.1]++aQ 15 [])),[],(bk 7 ([cJ (.vec 5 tb x.2)]++bk 13 []))⟩))
def FX:Fs Tryz.prog avH bz ad7:=fu 98 Tryz.f98 (λ(b,h)=>([.d tB b,.d tH h],[])) (λx=>⟨.d tB x,[],[]⟩) [aj tB,aj tH] [] {bu:=[7],loops:=oI [(3,{aV:=[3,5,6],sites:=[7],owns:=[⟨5,[],7,113⟩]})],outs:=oH [(3,{aV:=[5],sites:=[7]},{aV:=[4]})],fE:=pW [(3,sF.E)],res:=[aj tB]}
theorem agP:sF.RS:=rL [.d tH,.n,.d ti,.d tB] sF
theorem Lt(Sl outL i n7)(kn:K2 R)(kx:K3 R):FX.R 0 sF (Sl,outL,i,n7) kn kx=aG (fL i 32) (aG (eE i 32) (aG (decide (outL<=(List.length n7))) (aG (dd (outL+1) 1) (kn (sF.st (Sl,(outL+1),(bA .i64 i 1),((aJ outL n7)++ [(nth tb Sl (ab i))])))) aF) aF) aF) (sF.go kx (outL,n7)):=cf
theorem aCy(b h)(k:K1 R):FX.A (b,h) k=aG (dd (0+(List.length b)) 1) (al (sF.call (h,(0+(List.length b)),0,((aJ 0 (ae 0 0))++b))) λx1=>aG (decide (0=0/\(0+x1.1)<=(List.length x1.2))) (k (FX.out (cut x1.2 0 x1.1))) aF) aF:=cf
theorem amu:(FX.kA 0 sF):=by
 refine(FX.nN 0 sF) (λ(_,_,i,_)=>(32 - i).toNat) ?_
 rintro⟨h,m,i,l⟩ ⟨aUB,rfl,k,hk,rfl,hl⟩;by_cases iB:k < 32
 ·left;have n1:nth tb h k=h[k]:=cj (t:=tb) au;have el:(l++ [h[k]]).length=l.length+1:=by grind
  refine⟨(h,l.length+1,((k+1:Nat):Int),l++ [h[k]]),⟨aUB,el.symm,k+1,au,rfl,by grind⟩,by grind,?_,λkn kx=> ?_⟩
  ·simp[EG]
  ·rw[Lt,aT au,ak,aZ au au,ak,aI (aB _),ak,dk au au,ak,N.lh au,aa,n1,bK]
 grind [Lt,aP,ao,EG]
theorem aCz:FX.Ok:=by rintro⟨b,h⟩ ⟨hb,aUB⟩;rw[aCy];simp;rw[dk au au,agP (d:=(h,b.length,0,b)) ⟨aUB,rfl,0,au,rfl,au⟩];simp[EG,eF,ad7]
theorem avI:FX.RS:=rE [.d tB,.d tB] FX
def aCA:=FX.fI aCz 1 ⟨.eW amu,trivial⟩
def avJ:(Bs×Int)->Prop:=λ(b,n)=>b.length<=90000000/\n<=9223372036854775807
def ad8:(Bs×Int)->(Nat×(List Int)):=λ(b,n)=>((dJ b n).length,dJ b n)
def Lu:Fs Tryz.prog avJ bz ad8:=fu 97 Tryz.f97 (λ(b,n)=>([.d tB b,.d ti n],[])) (λx=>⟨.cg (.new 0 0) 0 [] 0 0 x.1,[],[.obj 0 aS (.vec 5 tb x.2)]⟩) [aj tB,aj ti] [ark] {bu:=[6],owns:=[⟨4,[],6,113⟩]}
theorem aCB(b n)(k:K1 R):Lu.A (b,n) k=aG (dd (0+(List.length b)) 1) (aG (D4 n 0) (al (QZ n) λx1=>aG (decide ((0+(List.length b))<=(List.length ((aJ 0 (ae 0 0))++b)))) (aG (dd ((0+(List.length b))+(List.length x1)) 1) (k (Lu.out (((0+(List.length b))+(List.length x1)),((aJ (0+(List.length b)) ((aJ 0 (ae 0 0))++b))++x1)))) aF) aF) (k (Lu.out ((0+(List.length b)),((aJ 0 (ae 0 0))++b))))) aF:=cf
theorem aCC:Lu.Ok:=by
 rintro⟨b,n⟩ ⟨hb,hn⟩;rw[aCB];simp[ad8,dJ];rw[dk au au];by_cases h:n>=0
 ·have hl:=kV n;rw[gA h,if_neg au,ai2 (d:=n) ⟨h,hn,by grind⟩];simp only[ah,vG,EI];rw[dk au au,ai];rfl
 simp_all [eD]
theorem avK:Lu.RS:=rE [.d tB,.d ti] Lu
def aCD:=Lu.fI aCC
def avF:(Bs×Bs)->Prop:=λ(b,c)=>b.length+c.length<=80000000
def arj:(Bs×Bs)->Bs:=λ(b,c)=>b++(gH c.length++c)
def QY:Fs Tryz.prog avF bz arj:=fu 99 Tryz.f99 (λ(b,c)=>([.d tB b,.d tB c],[])) (λx=>⟨.d tB x,[],[]⟩) [aj tB,aj tB] [aCD] {res:=[aj tB]}
theorem aCv(b c)(k:K1 R):QY.A (b,c) k=al (Lu.call (b,(c.length:Int))) λx1=>aG (decide (x1.1<=(List.length x1.2))) (aG (dd (x1.1+(List.length c)) 1) (aG (decide (0=0/\(0+(x1.1+(List.length c)))<=(List.length ((aJ x1.1 x1.2)++c)))) (k (QY.out (cut ((aJ x1.1 x1.2)++c) 0 (x1.1+(List.length c))))) aF) aF) aF:=cf
theorem aCw:QY.Ok:=by
 rintro⟨b,c⟩ h;have h:b.length+c.length<=80000000:=h;have hl:=fg b c.length;have e:dJ b c.length=b++gH c.length:=by grind [dJ]
 rw[aCv,avK (d:=(b,(c.length:Int))) ⟨by grind,by grind⟩];simp[ad8];grind [dk,ak,eF,arj]
theorem avG:QY.RS:=rE [.d tB,.d tB] QY
def aCx:=QY.fI aCw
def aCi:Pq->Prop:=λ_=>True
def amk:Pq->Bool:=λw=>AV w
def TI:Fs Tryz.prog aCi bz amk:=fu 93 Tryz.f93 (λwv=>([.d aeW wv],[])) (λx=>⟨.d .bool x,[],[]⟩) [aj aeW]
theorem aI1(wv)(k:K1 R):TI.A wv k=aG (D4 wv.1 0) (aG (akP wv.1 3) (k (TI.out (akP (wv.2.1.length:Int) 12))) (k (TI.out aS))) (k (TI.out aS)):=cf
theorem aI2:TI.Ok:=by
 rintro⟨b,ss,sc,u⟩ _;rw[aI1];simp only[bz,amk,AV];by_cases h:0<=b
 ·rw[gA h,ak];by_cases h2:b < 4
  ·rw[pt au,ak,aI ⟨h,h2⟩,bF];by_cases h3:ss.length<=12
   ·rw[pt au,aI h3]
   ·rw[kr au,aN h3]
  ·rw[kr au,ao,aN (λx=>h2 x.2),dm]
 ·rw[eD h,ao,aN (λx=>h x.1),dm]
theorem aCj:TI.RS:=rE [.d aeW] TI
def aI3:=TI.fI aI2
def abu(pre:List gK)(o:cr):Bool:=pre.any λy=>Ty.beq bX y.1 o
def ao8:List gK->List gK->Bool
 |_,[]=>aL
 |pre,x::l=>(Kc x && !(abu pre x.1)) && ao8 (pre++ [x]) l
theorem aGN:∀(l:List gK) (m:List (cr×Bool)) (pre:List gK),(∀o,(bV bX o m).getD aS=abu pre o)->Gz m l=ao8 pre l
 |[],_,_,_=>rfl
 |x::l,m,pre,h=>by
  have e:Od m x=abu pre x.1:=h x.1;rw[Gz,ao8,e,aGN l (cY bX x.1 aL m) (pre++ [x]) λo=> ?_,Bool.and_comm (Kc x)];rw[Eg gV];unfold abu;rw[List.any_append];simp only[yw,List.any_nil,tf];by_cases h1:o=x.1
  ·rw[if_pos ((U3 _ _).2 h1),(U3 x.1 o).2 h1.symm,Bool.or_true];rfl
  ·rw[if_neg (λe=>h1 ((U3 _ _).1 e)),h o];have:Ty.beq bX x.1 o=aS:=by
    cases hb:Ty.beq bX x.1 o with
    |false=>rfl
    |true=>exact absurd ((U3 _ _).1 hb).symm h1
   rw[this,tf];rfl
def Dk(o:gX):Bool:=xQ o.1 && lk o.2.1
theorem aqa:∀(l:List gX) (s:Int),0<=s->s<=1125899906842624->Am s l=(l.all Dk && decide (s+iN l<=1125899906842624))
 |[],s,h0,h1=>by rw[aI (show s+iN []<=1125899906842624 by show s+0<=_;omega)];rfl
 |o::l,s,h0,h1=>by
  have hc:xQ s=aL:=aI ⟨h0,h1⟩;rw[Am,eR,vB];unfold Gf;rw[hc,bF,show Dk o=(xQ o.1 && lk o.2.1) from rfl];cases c1:xQ o.1 with
  |false=>rfl
  |true=>
   have c2:0<=o.1/\o.1<=1125899906842624:=of_decide_eq_true c1;rw[bF,bF];by_cases hs:s+o.1<=1125899906842624
   ·rw[aI hs,bF,aqa l (s+o.1) au hs,yu,Bool.and_assoc]
   ·rw[aN hs,dm,dm];cases hl:l.all Dk with
    |false=>cases lk o.2.1 <;> rfl
    |true=>
     have key:∀l:List gX,l.all Dk=aL->0<=iN l:=by
      intro l
      induction l with
      |nil=>intro _;exact eV 0
      |cons x l ih=>
       intro h;rw[eR,ax]at h;have h1:=h.1;unfold Dk at h1;rw[ax]at h1;have h2:0<=x.1/\x.1<=1125899906842624:=of_decide_eq_true h1.1;have:=ih h.2;rw[vB];omega
     have:=key l hl;rw[aN (show ¬s+(o.1+iN l)<=1125899906842624 by omega)];cases lk o.2.1 <;> rfl
abbrev tD:=cR×Int
def kO:tD->AS:=λ(il,i)=>⟨([bC,.dx dz il,bC,.d ti i]++aQ 100 []),[],(ae 104 [])⟩
def fb:Unit->Exit×AS:=λx=>(.ret,⟨([bC,bC,.d .bool aS]++aQ 101 []),[],(ae 104 [])⟩)
def ua:cR->Exit×AS:=λx=>(.exit 0,⟨([bC,.dx dz x]++aQ 102 []),[],(ae 104 [])⟩)
abbrev FJ:=(Unit)⊕(cR)
abbrev OQ:=(Unit)⊕(cR)
def Ar:FJ->Out (Exit×AS):=λx=> .br x.isLeft (.get x.getLeft? λa=> .ok (fb a)) (.get x.getRight? λb=> .ok (ua b))
def iG:tD->OQ->FJ:=λ(il,i) y=>match y with | .inl y=> .inl y | .inr z=> .inr (z)
abbrev tE:=cR×Int×Int×gK
def kP:tE->AS:=λ(qi,fK,kv,n4)=>⟨([bC,.dx dz qi,bC,.d ti fK,dP 4,.d ti kv]++aQ 98 []),[],(bk 4 ([cJ (.d fo n4)]++bk 99 []))⟩
def lC:Unit->Exit×AS:=λx=>(.ret,⟨([bC,bC,.d .bool aS]++aQ 101 []),[],(ae 104 [])⟩)
def ud:(cR×Int)->Exit×AS:=λx=>(.exit 2,⟨([bC,.dx dz x.1,bC,.d ti x.2]++aQ 100 []),[],(ae 104 [])⟩)
abbrev FL:=(Unit)⊕((cR×Int))
abbrev OS:=(Unit)⊕(Unit)
def As:FL->Out (Exit×AS):=λx=> .br x.isLeft (.get x.getLeft? λa=> .ok (lC a)) (.get x.getRight? λb=> .ok (ud b))
def iH:tE->OS->FL:=λ(qi,fK,kv,n4) y=>match y with | .inl y=> .inl y | .inr z=> .inr ((qi,fK))
abbrev tF:=cR×Int×Int
def kQ:tF->AS:=λ(NL,sum,NB)=>⟨([bC,.dx dz NL]++aQ 4 ([.d ti sum,.d ti NB]++aQ 96 [])),[],(ae 104 [])⟩
def gf:Unit->Exit×AS:=λx=>(.ret,⟨([bC,bC,.d .bool aS]++aQ 101 []),[],(ae 104 [])⟩)
def uf:Int->Exit×AS:=λx=>(.exit 4,⟨(aQ 6 ([.d ti x]++aQ 97 [])),[],(ae 104 [])⟩)
abbrev FN:=(Unit)⊕(Int)
abbrev OU:=(Unit)⊕(Int)
def Au:FN->Out (Exit×AS):=λx=> .br x.isLeft (.get x.getLeft? λa=> .ok (gf a)) (.get x.getRight? λb=> .ok (uf b))
def iI:tF->OU->FN:=λ(NL,sum,NB) y=>match y with | .inl y=> .inl y | .inr z=> .inr (z)
def uc:tE->Prop:=λ(t,i,j,x)=>∃(n k:Nat),n<=t.1.length/\k<=n/\n<=1000/\i=n/\j=k
def j4:tE->OS:=λ(t,i,j,x)=>if abu ((t.1.take i.toNat).drop j.toNat) x.1 then .inl () else .inr ()
def tZ:tD->Prop:=λ(t,i)=>t.1.length<=64/\∃k:Nat,k<=t.1.length/\i=k
def j3:tD->OQ:=λ(t,i)=>if ao8 (t.1.take i.toNat) (t.1.drop i.toNat) then .inr t else .inl ()
def ue:tF->Prop:=λ(t,s,i)=>t.2.1.length<=64/\(∀o∈t.2.1,afG o.2.1)/\∃k:Nat,k<=t.2.1.length/\i=k/\0<=s/\s<=(k:Int)*1125899906842624
def j5:tF->OU:=λ(t,s,i)=>if(t.2.1.drop i.toNat).all Dk then .inr (s+iN (t.2.1.drop i.toNat)) else .inl ()
def amo:cR->Prop:=λt=>aPu t
def QU:cR->Bool:=λt=>gv t
def OP:=du.eW kO tZ iG j3 Ar
def GZ:tD->Option FJ:=fP OP kO
def OR:=du.eW kP uc iH j4 As
def G1:tE->Option FL:=fP OR kP
def OT:=du.eW kQ ue iI j5 Au
def G3:tF->Option FN:=fP OT kQ
def fH:Fs Tryz.prog amo bz QU:=fu 60 Tryz.f60 (λt=>([.d dz t],[])) (λx=>⟨.d .bool x,[],[]⟩) [aj dz] [aI3,Yq] {loops:=oI [(4,{aV:=[1,3]}),(10,{aV:=[1,3,4,5],sites:=[4]}),(16,{aV:=[1,6,7]})],outs:=oH [(4,{aV:=[1]},{aV:=[2]}),(10,{aV:=[1,3]},{aV:=[2]}),(16,{aV:=[6]},{aV:=[2]})],fE:=pW [(4,OP),(10,OR),(16,OT)]}
def FI:= @dV Tryz.prog (jB fH.G) fH.an 0 Tryz.f60 0 _ kO
abbrev K6:=jh Tryz.prog (jB fH.G) fH.an 0 Tryz.f60 0 kO tZ iG j3 Ar
def FK:= @dV Tryz.prog (jB fH.G) fH.an 0 Tryz.f60 1 _ kP
abbrev K8:=jh Tryz.prog (jB fH.G) fH.an 0 Tryz.f60 1 kP uc iH j4 As
def FM:= @dV Tryz.prog (jB fH.G) fH.an 0 Tryz.f60 2 _ kQ
abbrev La:=jh Tryz.prog (jB fH.G) fH.an 0 Tryz.f60 2 kQ ue iI j5 Au
theorem ZC:iy GZ tZ iG j3:=kz (jC [.d dz,.d ti] λ_=>cf)
theorem K7:mY @FI kO tZ iG j3 Ar K6:=nJ
theorem G0(il i)(kn:K2 R)(kx:K3 R):FI (il,i) kn kx=aG (fL i (((List.length il.1):Nat):Int)) (aG (eE i (((List.length il.1):Nat):Int)) (aG (fL (nth fo il.1 (ab i)).1.2.1 (0:Int)) (kx (fb ()).1 (fb ()).2) (aG (Af (nth fo il.1 (ab i)).1.2.1 (63:Int)) (kx (fb ()).1 (fb ()).2) (al (TI.call (nth fo il.1 (ab i)).2.1) λx1=>aG (!x1) (kx (fb ()).1 (fb ()).2) (al (G1 (il,i,(0:Int),(nth fo il.1 (ab i)))) λx2=>aG x2.isLeft (al x2.getLeft? λa3=>kx (fb ()).1 (fb ()).2) (al x2.getRight? λb4=>kn (kO (b4.1,(bA .i64 b4.2 (1:Int))))))))) aF) (kx (ua il).1 (ua il).2):=cf
theorem ZD:iy G1 uc iH j4:=kz (jC [.d dz,.d ti,.d ti,.d fo] λ_=>cf)
theorem K9:mY @FK kP uc iH j4 As K8:=nJ
theorem G2(qi fK kv n4)(kn:K2 R)(kx:K3 R):FK (qi,fK,kv,n4) kn kx=aG (fL kv fK) (aG (eE kv (((List.length qi.1):Nat):Int)) (aG (Ty.beq bX (nth fo qi.1 (ab kv)).1 n4.1) (kx (lC ()).1 (lC ()).2) (kn (kP (qi,fK,(bA .i64 kv (1:Int)),n4)))) aF) (kx (ud (qi,fK)).1 (ud (qi,fK)).2):=cf
theorem ZE:iy G3 ue iI j5:=kz (jC [.d dz,.d ti,.d ti] λ_=>cf)
theorem Lb:mY @FM kQ ue iI j5 Au La:=nJ
theorem G4(NL sum NB)(kn:K2 R)(kx:K3 R):FM (NL,sum,NB) kn kx=aG (fL NB (((List.length NL.2.1):Nat):Int)) (aG (eE NB (((List.length NL.2.1):Nat):Int)) (aG (fL (nth fJ NL.2.1 (ab NB)).1 (0:Int)) (kx (gf ()).1 (gf ()).2) (aG (Af (nth fJ NL.2.1 (ab NB)).1 (1125899906842624:Int)) (kx (gf ()).1 (gf ()).2) (al (kM.call (nth fJ NL.2.1 (ab NB)).2.1) λx1=>aG (!x1) (kx (gf ()).1 (gf ()).2) (kn (kQ (NL,(bA .i64 sum (nth fJ NL.2.1 (ab NB)).1),(bA .i64 NB (1:Int)))))))) aF) (kx (uf sum).1 (uf sum).2):=cf
theorem aq4(t)(k:K1 R):fH.A t k=aG (fL (t.1.length:Int) 1) (k (fH.out aS)) (aG (Af (t.1.length:Int) 64) (k (fH.out aS)) (aG (Af (t.2.1.length:Int) 64) (k (fH.out aS)) (aG (fL t.2.2.1 0) (k (fH.out aS)) (al (GZ (t,0)) λx5=>aG x5.isLeft (al x5.getLeft? λa6=>k (fH.out aS)) (al x5.getRight? λb7=>al (G3 (b7,0,0)) λx9=>aG x9.isLeft (al x9.getLeft? λa10=>k (fH.out aS)) (al x9.getRight? λb11=>k (fH.out (akP b11 1125899906842624)))))))):=cf
theorem adT:K8:=by
 refine K9 (λ(_,i,j,_)=>(i - j).toNat) ?_
 rintro⟨t,i,j,x⟩ ⟨n,k,hn,hk,hm,rfl,rfl⟩;by_cases iB:k < n
 ·have asB:k < (t.1.take n).length:=by rw[dw];omega
  have n1:nth fo t.1 k=t.1[k]:=cj (t:=fo) au;have hd:(t.1.take n).drop k=t.1[k]::(t.1.take n).drop (k+1):=by rw[aq asB,List.getElem_take]
  have hh:abu ((t.1.take n).drop k) x.1=(Ty.beq bX t.1[k].1 x.1 || abu ((t.1.take n).drop (k+1)) x.1):=by rw[hd];rfl
  have step:∀ {R:Type} (kn:AS->Option R) (kx:Exit->AS->Option R),FK (t,(n:Int),(k:Int),x) kn kx=aG (Ty.beq bX t.1[k].1 x.1) (kx (lC ()).1 (lC ()).2) (kn (kP (t,(n:Int),((k+1:Nat):Int),x))):=by intro R kn kx;rw[G2,aT au,ak,aZ au au,ak,aa,n1,N.lh au]
  cases hb:Ty.beq bX t.1[k].1 x.1 with
  |true=>
   right;refine⟨lC (),?_,λkn kx=> ?_⟩
   ·simp only[iH,j4,aa,hh,hb,ot,bE];rfl
   ·rw[step,hb,ak]
  |false=>
   left;refine⟨(t,(n:Int),((k+1:Nat):Int),x),⟨n,k+1,hn,au,hm,rfl,rfl⟩,by show((n:Int) - ((k+1:Nat):Int)).toNat < ((n:Int) - (k:Int)).toNat;omega,?_,λkn kx=> ?_⟩
   ·simp only[iH,j4,aa,hh,hb,pA]
   ·rw[step,hb,ao]
 ·right;obtain rfl:k=n:=au;have e:(t.1.take k).drop k=[]:=fv (by rw[dw];omega);refine⟨ud (t,(k:Int)),?_,λkn kx=> ?_⟩
  ·simp only[iH,j4,aa,e];rfl
  ·rw[G2,aP au,ao]
theorem adS:K6:=by
 refine K7 (λ(t,i)=>t.1.length - i.toNat) ?_
 rintro⟨t,i⟩ ⟨I5,k,hk,rfl⟩;have I5:t.1.length<=64:=I5;have hk:k<=t.1.length:=hk;by_cases iB:k < t.1.length
 ·have n1:nth fo t.1 k=t.1[k]:=cj (t:=fo) iB;have hd:ao8 (t.1.take k) (t.1.drop k)=((Kc t.1[k] && !(abu (t.1.take k) t.1[k].1)) && ao8 (t.1.take (k+1)) (t.1.drop (k+1))):=by rw[aq iB,ao8,ir iB]
  have step:∀ {R:Type} (kn:AS->Option R) (kx:Exit->AS->Option R),FI (t,(k:Int)) kn kx=aG (Kc t.1[k] && !(abu (t.1.take k) t.1[k].1)) (kn (kO (t,((k+1:Nat):Int)))) (kx (fb ()).1 (fb ()).2):=by
   intro R kn kx;rw[G0,aT au,ak,aZ au au,ak,aa,n1];unfold Kc;by_cases h1:t.1[k].1.2.1 < 0
   ·rw[aT h1,ak,aN au];rfl
   rw[aP h1,ao];by_cases h2:t.1[k].1.2.1 > 63
   ·rw[dj h2,ak,aN au];rfl
   rw[cw h2,ao,aI au,aCj (d:=t.1[k].2.1) trivial];simp only[ah,bz,amk,bF];cases AV t.1[k].2.1 with
   |false=>rfl
   |true=>
    rw[bY,ao,bF,ZD (d:=(t,(k:Int),0,t.1[k])) ⟨k,0,hk,aK _,au,rfl,rfl⟩];simp only[ah,iH,j4,aa,aW,aO];cases abu (t.1.take k) t.1[k].1 with
    |true=>rfl
    |false=>
     simp only[bw,bp,dN,ao,cV,ah,dK,ak];rw[N.lh au]
  cases hp:Kc t.1[k] && !(abu (t.1.take k) t.1[k].1)
  ·right;refine⟨fb (),?_,λkn kx=> ?_⟩
   ·simp only[iG,j3,aa,hd,hp,dm,bw,bp];rfl
   ·rw[step,hp,ao]
  ·left;refine⟨(t,((k+1:Nat):Int)),⟨I5,k+1,au,rfl⟩,by simp only[aa];omega,?_,λkn kx=> ?_⟩
   ·simp only[iG,j3,aa,hd,hp,bF]
   ·rw[step,hp,ak]
 ·right;obtain rfl:k=t.1.length:=au;refine⟨ua t,?_,λkn kx=> ?_⟩
  ·simp only[iG,j3,aa,aH];rfl
  ·rw[G0,aP au,ao]
theorem adU:La:=by
 refine Lb (λ(t,_,i)=>t.2.1.length - i.toNat) ?_
 rintro⟨t,s,i⟩ ⟨I5,hu,k,hk,rfl,h0,h1⟩;have I5:t.2.1.length<=64:=I5;have hk:k<=t.2.1.length:=hk;have h0:0<=s:=h0;have h1:s<=(k:Int)*1125899906842624:=h1;by_cases iB:k < t.2.1.length
 ·have n1:nth fJ t.2.1 k=t.2.1[k]:=cj (t:=fJ) iB;have hd:t.2.1.drop k=t.2.1[k]::t.2.1.drop (k+1):=aq iB;have step:∀ {R:Type} (kn:AS->Option R) (kx:Exit->AS->Option R),FM (t,s,(k:Int)) kn kx=aG (Dk t.2.1[k]) (kn (kQ (t,s+t.2.1[k].1,((k+1:Nat):Int)))) (kx (gf ()).1 (gf ()).2):=by
   intro R kn kx;rw[G4,aT au,ak,aZ au au,ak,aa,n1];unfold Dk xQ;by_cases c1:t.2.1[k].1 < 0
   ·rw[aT c1,ak,aN au];rfl
   rw[aP c1,ao];by_cases c2:t.2.1[k].1 > 1125899906842624
   ·rw[dj c2,ak,aN au];rfl
   rw[cw c2,ao,aI au,TH (d:=t.2.1[k].2.1) (hu _ (aR iB))];simp only[ah,bz,Il,bF];rw[jn au au,N.lh au];cases lk t.2.1[k].2.1 <;> rfl
  cases hp:Dk t.2.1[k]
  ·right;refine⟨gf (),?_,λkn kx=> ?_⟩
   ·simp only[iI,j5,aa,hd,eR,hp,dm,bw,bp];rfl
   ·rw[step,hp,ao]
  ·left;have hp':=hp;unfold Dk at hp';rw[ax]at hp';have c:0<=t.2.1[k].1/\t.2.1[k].1<=1125899906842624:=of_decide_eq_true hp'.1;refine⟨(t,s+t.2.1[k].1,((k+1:Nat):Int)),⟨I5,hu,k+1,au,rfl,by show 0<=s+t.2.1[k].1;omega,by show s+t.2.1[k].1<=((k+1:Nat):Int)*1125899906842624;omega⟩,by simp only[aa];omega,?_,λkn kx=> ?_⟩
   ·simp only[iI,j5,aa,hd,eR,hp,bF,vB,yu]
   ·rw[step,hp,ak]
 ·right;obtain rfl:k=t.2.1.length:=au;refine⟨uf s,?_,λkn kx=> ?_⟩
  ·simp only[iI,j5,aa,aH];rw[show s+iN ([]:List gX)=s+0 from rfl,Int.add_zero];rfl
  ·rw[G4,aP au,ao]
theorem aq5:fH.Ok:=by
 intro t hv;have hv:aPu t:=hv;rw[aq4];simp only[bz,QU,gv,afv];by_cases h1:t.1.length < 1
 ·rw[aT au,aN au];rfl
 by_cases h2:t.1.length > 64
 ·rw[aP au,ao,dj au,aN au];rfl
 by_cases h3:t.2.1.length > 64
 ·rw[aP au,ao,cw au,ao,dj au,aN au];rfl
 rw[aP au,ao,cw au,ao,cw au,ao];by_cases h4:t.2.2.1 < 0
 ·rw[aT h4,aN au];rfl
 rw[aP h4,ao,aI au,bF,ZC (d:=(t,0)) ⟨by show t.1.length<=64;omega,0,aK _,rfl⟩];simp only[ah,iG,j3,aW,aO,fe];rw[aGN t.1 [] [] (λo=>by rw[nr];rfl),aqa t.2.1 0 eG eG];cases ao8 [] t.1 with
 |false=>rfl
 |true=>
  simp only[bE,dN,ao,cV,ah,bF];rw[ZE (d:=(t,0,0)) ⟨by show t.2.1.length<=64;omega,λo ho=>(hv.1 o ho).1,0,aK _,rfl,eV 0,au⟩];simp only[ah,iI,j5,aW,aO];cases t.2.1.all Dk with
  |false=>rfl
  |true=>
   simp only[bE,dN,ao,cV,ah,bF];by_cases hs:0+iN t.2.1<=1125899906842624
   ·rw[pt hs,aI hs]
   ·rw[kr hs,aN hs]
theorem amp:fH.RS:=rE [.d dz] fH
def aq6:=fH.fI aq5 3 ⟨.eW adS,⟨.eW adT,⟨.eW adU,trivial⟩⟩⟩
abbrev FG:=cR×Bs×Int
def tX:FG->Bs->((cR)×(Bs)):=λ(il,b,i) y=>(il,y)
abbrev FH:=cR×Bs×Int
def tY:FH->Bs->((cR)×(Bs)):=λ(qi,gY,fK) y=>(qi,y)
def Zy:FG->Prop:=λ(t,b,i)=>(t.1).length<=1000000000/\∃k:Nat,k<=(t.1).length/\i=k/\(t.1.length<=64)/\(∀x∈t.1,x.1.1.length=32/\x.1.2.1<=9223372036854775807)/\(b.length<=100+50*k)
def y5:FG->Bs:=λ(t,b,i)=>(bt (ab i) t.1).foldl P5 b
def ZA:FH->Prop:=λ(t,b,i)=>(t.2.1).length<=1000000000/\∃k:Nat,k<=(t.2.1).length/\i=k/\(t.2.1.length<=64)/\(∀o∈t.2.1,o.1<=9223372036854775807/\afG o.2.1)/\(b.length<=4000+1100*k)
def y6:FH->Bs:=λ(t,b,i)=>(bt (ab i) t.2.1).foldl Qt b
def amm:cR->Prop:=λt=>gv t=aL/\xx t
def adP:cR->Bs:=λt=>wE t
def mj:Ls Zy tX y5:=te (λ(il,b,i)=>⟨([bC,.dx dz il,bC,.d tB b,.d ti i]++aQ 63 []),[],(ae 68 [])⟩) (λx=>(.exit 0,⟨([bC,.dx dz x.1,bC,.d tB x.2]++aQ 64 []),[],(ae 68 [])⟩))
def ml:Ls ZA tY y6:=te (λ(qi,gY,fK)=>⟨([bC,.dx dz qi,bC,.d tB gY,bC,.d ti fK]++aQ 62 []),[],(ae 68 [])⟩) (λx=>(.exit 2,⟨([bC,.dx dz x.1,bC,.d tB x.2]++aQ 64 []),[],(ae 68 [])⟩))
def nD:Fs Tryz.prog amm bz adP:=fu 62 Tryz.f62 (λt=>([.d dz t],[])) (λx=>⟨.d tB x,[],[]⟩) [aj dz] [ari,aCA,aqW,aCx] {loops:=oI [(3,{aV:=[1,3,4]}),(9,{aV:=[1,3,5]})],outs:=oH [(3,{aV:=[1,3]},{aV:=[2]}),(9,{aV:=[1,3]},{aV:=[2]})],fE:=pW [(3,mj.E),(9,ml.E)],res:=[aj tB]}
theorem Zz:mj.RS:=rL [.d dz,.d tB,.d ti] mj
theorem GX(il b i)(kn:K2 R)(kx:K3 R):nD.R 0 mj (il,b,i) kn kx=aG (fL i (il.1.length:Int)) (aG (eE i (il.1.length:Int)) (al (FX.call (b,(nth fo il.1 (ab i)).1.1)) λx1=>aG (eE i (il.1.length:Int)) (al (AU.call (x1,(nth fo il.1 (ab i)).1.2.1)) λx2=>kn (mj.st (il,x2,(bA .i64 i 1)))) aF) aF) (mj.go kx (il,b)):=cf
theorem ZB:ml.RS:=rL [.d dz,.d tB,.d ti] ml
theorem GY(qi gY fK)(kn:K2 R)(kx:K3 R):nD.R 1 ml (qi,gY,fK) kn kx=aG (fL fK (qi.2.1.length:Int)) (aG (eE fK (qi.2.1.length:Int)) (al (AU.call (gY,(nth fJ qi.2.1 (ab fK)).1)) λx1=>aG (eE fK (qi.2.1.length:Int)) (al (mc.call (nth fJ qi.2.1 (ab fK)).2.1) λx2=>al (QY.call (x1,x2)) λx3=>kn (ml.st (qi,x3,(bA .i64 fK 1)))) aF) aF) (ml.go kx (qi,gY)):=cf
theorem aq1(t)(k:K1 R):nD.A t k=al (AU.call (([]:List Int),(t.1.length:Int))) λx1=>al (mj.call (t,x1,0)) λx4=>al (AU.call (x4.2,(x4.1.2.1.length:Int))) λx5=>al (ml.call (x4.1,x5,0)) λx9=>al (AU.call (x9.2,x9.1.2.2.1)) λant=>k (nD.out ant):=cf
theorem adQ:(nD.kA 0 mj):=by
 refine(nD.nN 0 mj) (λ(t,b,i)=>(t.1).length - ab i) ?_
 rintro⟨t,b,i⟩ ⟨hlen,k,hk,rfl,I5,hx,hb⟩;have hlen:(t.1).length<=1000000000:=hlen;have hk:k<=(t.1).length:=hk;have I5:t.1.length<=64:=I5;have hx:∀x∈t.1,x.1.1.length=32/\x.1.2.1<=9223372036854775807:=hx;have hb:b.length<=100+50*k:=hb;by_cases h:k < (t.1).length
 ·left;have n1:nth fo t.1 k=t.1[k]:=cj (t:=fo) h;have hd:bt k t.1=t.1[k]::bt (k+1) t.1:=aq h;refine⟨(t,(P5 b t.1[k]),((k+1:Nat):Int)),⟨hlen,k+1,au,rfl,I5,hx,by have:=akQ b t.1[k];have:=(hx _ (aR h)).1;omega⟩,by simp only[aa];omega,?_,λkn kx=> ?_⟩
  ·simp only[tX,y5,aa,hd,aX]
  ·rw[GX,aT au,aZ au au,aa,n1];simp only[ak];have e:=hx _ (aR h);have e2:(b++t.1[k].1.1).length=b.length+t.1[k].1.1.length:=ai;rw[avI (d:=(b,t.1[k].1.1)) ⟨by show b.length<=_;omega,e.1⟩];simp only[ah,bz,ad7];rw[sE (d:=(b++t.1[k].1.1,t.1[k].1.2.1)) ⟨by show(b++t.1[k].1.1).length<=_;omega,e.2⟩];simp only[ah,bz,zd];rw[N.lh au];rfl
 ·right;obtain rfl:k=(t.1).length:=au;intro R kn kx;rw[GX,aP au,ao];simp only[tX,y5,aa,aH,eO]
theorem adR:(nD.kA 1 ml):=by
 refine(nD.nN 1 ml) (λ(t,b,i)=>(t.2.1).length - ab i) ?_
 rintro⟨t,b,i⟩ ⟨hlen,k,hk,rfl,I5,hx,hb⟩;by_cases h:k < (t.2.1).length
 ·left;have n1:=cj (t:=fJ) h;have hd:=aq h;refine⟨(t,(Qt b t.2.1[k]),((k+1:Nat):Int)),⟨hlen,k+1,au,rfl,I5,hx,by grind [acV]⟩,by grind,?_,λkn kx=> ?_⟩
  ·grind [tY,y6]
  ·rw[GY,aT au,aZ au au,aa,n1];have e:=hx _ (aR h);have e1:=fg b t.2.1[k].1;have e2:=M5 t.2.1[k].2.1;rw[sE (d:=(b,t.2.1[k].1)) ⟨by grind,e.1⟩];simp[ah,bz,zd];rw[ami (d:=t.2.1[k].2.1) e.2];simp[ah,bz,QT];rw[avG (d:=(dJ b t.2.1[k].1,P8 t.2.1[k].2.1)) (by show(dJ b t.2.1[k].1).length+(P8 t.2.1[k].2.1).length<=_;omega)];rw[N.lh au];rfl
 grind [GY,aP,ao,tY,y6,aH]
theorem aq2:nD.Ok:=by
 rintro t ⟨gb,hv⟩;obtain⟨⟨_,a2,a3,_⟩,b1,b2⟩:=iZ gb;have l0:=fg [] t.1.length;have l1:=Z2 t.1 (dJ [] t.1.length) λx hx=>(hv.2.1 x hx).1.1
 have l2:=fg (t.1.foldl P5 (dJ [] t.1.length)) t.2.1.length;have l3:=SZ t.2.1 (dJ (t.1.foldl P5 (dJ [] t.1.length)) t.2.1.length);rw[aq1,sE (d:=([],(t.1.length:Int))) ⟨by grind,by grind⟩];simp[zd];rw[Zz (d:=(t,dJ [] t.1.length,0)) ⟨by grind,0,aK _,rfl,a2,λx hx=>⟨(hv.2.1 x hx).1.1,by have:=C3 (nj _ _ b1 x hx);omega⟩,by grind⟩];simp[tX,y5];rw[sE (d:=(t.1.foldl P5 (dJ [] t.1.length),(t.2.1.length:Int))) ⟨by grind,by grind⟩];simp[zd];rw[ZB (d:=(t,dJ (t.1.foldl P5 (dJ [] t.1.length)) t.2.1.length,0)) ⟨by grind,0,aK _,rfl,a3,λo ho=>⟨by have:=(kK _ _ b2 o ho).1;omega,(hv.1.1 o ho).1⟩,by grind⟩];simp[tY,y6];rw[sE (d:=(t.2.1.foldl Qt (dJ (t.1.foldl P5 (dJ [] t.1.length)) t.2.1.length),t.2.2.1)) ⟨by grind,hv.2.2⟩];rfl
theorem amn:nD.RS:=rE [.d dz] nD
def aq3:=nD.fI aq2 2 ⟨.eW adQ,⟨.eW adR,trivial⟩⟩
def aCk:cR->Prop:=λt=>xx t
def aml:cR->Bs:=λt=>sX t
def Yr:Fs Tryz.prog aCk bz aml:=fu 25 Tryz.f25 (λt=>([.d dz t],[])) (λx=>⟨.d tH x,[],[]⟩) [aj dz] [aq6,aq3,aNG]
theorem aI4(t)(k:K1 R):Yr.A t k=al (fH.call t) λx1=>aG (!x1) (k (Yr.out (ae 32 0))) (al (nD.call t) λx2=>al (agY.call ((⟨#[116,120]⟩:ByteArray),[x2])) λx3=>k (Yr.out x3)):=cf
theorem aI5:Yr.Ok:=by
 intro t hv;have hv:xx t:=hv;rw[aI4,amp (d:=t) hv.1];simp only[ah,bz,QU,bz,aml,sX];cases gb:gv t
 ·rfl
 ·have hl:=QI gb hv;rw[amn (d:=t) ⟨gb,hv⟩];simp only[bY,ao,bE,ah,bz,adP];rw[aJF (d:=((⟨#[116,120]⟩:ByteArray),[wE t])) (asa eG au)];rfl
theorem aCl:Yr.RS:=rE [.d dz] Yr
def aI6:=Yr.fI aI5
def aw4(_:cR):Bool:=aL
abbrev zU:=(List cR)×(List cR)×Int
def oQ:zU->AS:=λ(qq,gY,i)=>⟨([.d (.slice dz) qq,.d (.slice dz) gY,bC,bC,bC,.d ti i]++aQ 23 []),[],(ae 29 [])⟩
def pK:Unit->Exit×AS:=λx=>(.ret,⟨(aQ 4 ([.d .bool aS]++aQ 24 [])),[],(ae 29 [])⟩)
def za:Unit->Exit×AS:=λx=>(.exit 0,⟨(aQ 29 []),[],(ae 29 [])⟩)
abbrev Lp:=(Unit)⊕(Unit)
abbrev Yv:=(Unit)⊕(Unit)
def FW:Lp->Out (Exit×AS):=λx=> .br x.isLeft (.get x.getLeft? λa=> .ok (pK a)) (.get x.getRight? λb=> .ok (za b))
def ka:zU->Yv->Lp:=λ(qq,gY,i) y=>match y with | .inl y=> .inl y | .inr z=> .inr (z)
abbrev arc:=(List cR)×(List cR)
def y9:zU->Prop:=λ(a,b,i)=>a.length<=1000000000/\∃k:Nat,k<=a.length/\i=k/\(b=a/\∀t∈a,JM t)
def oa:zU->Yv:=λ(a,b,i)=>if(bt (ab i) a).all aw4 then .inr () else .inl ()
def avv:arc->Prop:=λ(a,b)=>b=a/\a.length<=1000000/\∀t∈a,JM t
def aI7:arc->Bool:=λ_=>aL
def Yu:=du.eW oQ y9 ka oa FW
def Lq:zU->Option Lp:=fP Yu oQ
def w5:Fs Tryz.prog avv bz aI7:=fu 11 Tryz.f11 (λ(a,b)=>([.d (.slice dz) a,.d (.slice dz) b],[])) (λx=>⟨.d .bool x,[],[]⟩) [aj (.slice dz),aj (.slice dz)] [avs] {loops:=oI [(4,{aV:=[0,1,5]})],outs:=oH [(4,{},{aV:=[4]})],fE:=pW [(4,Yu)]}
def Lo:= @dV Tryz.prog (jB w5.G) w5.an 0 Tryz.f11 0 _ oQ
abbrev TS:=jh Tryz.prog (jB w5.G) w5.an 0 Tryz.f11 0 oQ y9 ka oa FW
theorem agL:iy Lq y9 ka oa:=kz (jC [.d (.slice dz),.d (.slice dz),.d ti] λ_=>cf)
theorem QX:mY @Lo oQ y9 ka oa FW TS:=nJ
theorem Lr(qq gY i)(kn:K2 R)(kx:K3 R):Lo (qq,gY,i) kn kx=aG (fL i (((List.length qq):Nat):Int)) (aG (eE i (((List.length qq):Nat):Int)) (aG (eE i (((List.length gY):Nat):Int)) (al (jF.call ((nth dz qq (ab i)),(nth dz gY (ab i)))) λx1=>aG (!x1) (kx (pK ()).1 (pK ()).2) (kn (oQ (qq,gY,(bA .i64 i (1:Int)))))) aF) aF) (kx (za ()).1 (za ()).2):=cf
theorem aCp(a b)(k:K1 R):w5.A (a,b) k=aG (Cw (a.length:Int) (b.length:Int)) (k (w5.out aS)) (al (Lq (a,b,0)) λx2=>aG x2.isLeft (al x2.getLeft? λa3=>k (w5.out aS)) (al x2.getRight? λb4=>k (w5.out aL))):=cf
theorem amt:TS:=by
 refine QX (λ(a,b,i)=>a.length - ab i) ?_
 rintro⟨a,b,i⟩ ⟨hlen,k,hk,rfl,hs⟩;have hlen:a.length<=1000000000:=hlen;have hk:k<=a.length:=hk;have hs:b=a/\∀t∈a,JM t:=hs;by_cases h:k < a.length
 ·have n1:nth dz a k=a[k]:=cj (t:=dz) h;have hd:(bt k a).all aw4=(aw4 a[k] && (bt (k+1) a).all aw4):=by rw[aq h,eR]
  have step:∀ {R:Type} (kn:AS->Option R) (kx:Exit->AS->Option R),Lo (a,b,(k:Int)) kn kx=aG (aw4 a[k]) (kn (oQ (a,b,((k+1:Nat):Int)))) (kx (pK ()).1 (pK ()).2):=by intro R kn kx;rw[Lr,aT au,aZ (show(0:Int)<=(k:Int) by omega) au,aa,n1];simp only[ak];rw[hs.1,n1,aZ (show(0:Int)<=(k:Int) by omega) au,ak,aq8 (d:=(a[k],a[k])) (hs.2 _ (aR h))];simp only[ah,bz,V9,cG,bY,ao];rw[N.lh au];rfl
  cases hp:aw4 a[k]
  ·right;refine⟨pK (),?_,λkn kx=> ?_⟩
   ·simp only[ka,oa,aa,hd,hp,dm,bw,bp];rfl
   ·rw[step,hp,ao]
  ·left;refine⟨(a,b,((k+1:Nat):Int)),⟨hlen,k+1,au,rfl,hs⟩,by simp only[aa];omega,?_,λkn kx=> ?_⟩
   ·simp only[ka,oa,aa,hd,hp,bF]
   ·rw[step,hp,ak]
 ·right;obtain rfl:k=a.length:=au;refine⟨za (),?_,λkn kx=> ?_⟩
  ·simp only[ka,oa,aa,aH];rfl
  ·rw[Lr,aP au,ao]
theorem aCq:w5.Ok:=by
 rintro⟨a,b⟩ ⟨rfl,hl,hs⟩;have hl:b.length<=1000000:=hl;rw[aCp,cz rfl,ao,agL (d:=(b,b,0)) ⟨by show b.length<=_;omega,0,aK _,rfl,rfl,hs⟩];have e:b.all aw4=aL:=by rw[bQ];exact λ_ _=>rfl
 simp only[ah,ka,oa,aW,aO,e,bE];rfl
theorem ad2:w5.RS:=rE [.d (.slice dz),.d (.slice dz)] w5
def aCr:=w5.fI aCq 1 ⟨.eW amt,trivial⟩
abbrev CY:=(List gX)×(List (Int×(cR×(Int×((List cr)×Unit)))))×Int
def qF:CY->AS:=λ(Kz,iM,i)=>⟨([.d (.slice fJ) Kz,.d (.slice (.pair ti (.pair dz (.pair ti (.pair (.slice bX) .unit))))) iM,bC,bC,bC,.d ti i]++aQ 63 []),[],(ae 69 [])⟩
def fR:Unit->Exit×AS:=λx=>(.ret,⟨(aQ 4 ([.d .bool aS]++aQ 64 [])),[],(ae 69 [])⟩)
abbrev Xg:=(List gX)×(List (Int×(cR×(Int×((List cr)×Unit)))))
def Bm:Xg->Exit×AS:=λx=>(.exit 0,⟨([.d (.slice fJ) x.1,.d (.slice (.pair ti (.pair dz (.pair ti (.pair (.slice bX) .unit))))) x.2]++aQ 67 []),[],(ae 69 [])⟩)
abbrev PT:=(Unit)⊕(Xg)
abbrev abh:=(Unit)⊕(Unit)
def HG:PT->Out (Exit×AS):=λx=> .br x.isLeft (.get x.getLeft? λa=> .ok (fR a)) (.get x.getRight? λb=> .ok (Bm b))
def lS:CY->abh->PT:=λ(Kz,iM,i) y=>match y with | .inl y=> .inl y | .inr z=> .inr ((Kz,iM))
abbrev CZ:=(List gX)×(List (Int×(cR×(Int×((List cr)×Unit)))))×Int
def qH:CZ->AS:=λ(Dm,vY,fK)=>⟨([.d (.slice fJ) Dm,.d (.slice (.pair ti (.pair dz (.pair ti (.pair (.slice bX) .unit))))) vY]++aQ 5 ([.d ti fK]++aQ 61 [])),[],(ae 69 [])⟩
def rT:Unit->Exit×AS:=λx=>(.ret,⟨(aQ 4 ([.d .bool aS]++aQ 64 [])),[],(ae 69 [])⟩)
abbrev Xi:=(List gX)×(List (Int×(cR×(Int×((List cr)×Unit)))))
def Bo:Xi->Exit×AS:=λx=>(.exit 2,⟨([.d (.slice fJ) x.1,.d (.slice (.pair ti (.pair dz (.pair ti (.pair (.slice bX) .unit))))) x.2]++aQ 67 []),[],(ae 69 [])⟩)
abbrev PV:=(Unit)⊕(Xi)
abbrev abj:=(Unit)⊕(Unit)
def HH:PV->Out (Exit×AS):=λx=> .br x.isLeft (.get x.getLeft? λa=> .ok (rT a)) (.get x.getRight? λb=> .ok (Bo b))
def lT:CZ->abj->PV:=λ(Dm,vY,fK) y=>match y with | .inl y=> .inl y | .inr z=> .inr ((Dm,vY))
abbrev axL:=(List gX)×(List (Int×(cR×(Int×((List cr)×Unit)))))
abbrev aWc:=Int×(cR×(Int×((List cr)×Unit)))
abbrev aUg:Ty:= .pair ti (.pair dz (.pair ti (.pair (.slice bX) .unit)))
def JN(a:aWc):Bool:=if a.2.1.1.length > 5 then aS else if a.2.1.2.1.length > 5 then aS else if a.2.2.2.1.length > 5 then aS else if amP a.2.1=aL then !decide (sX a.2.1=AK) else aS
def H6(o:gX):Bool:=decide (o.2.1.1.length<=4)
def Bl:CY->Prop:=λ(outs,acts,i)=>acts.length<=9223372036854775807/\∃k:Nat,k<=acts.length/\i=k/\(∀x∈acts,xx x.2.1)
def qE:CY->abh:=λ(outs,acts,i)=>if(bt (ab i) acts).all JN then .inr () else .inl ()
def Bn:CZ->Prop:=λ(outs,acts,i)=>outs.length<=9223372036854775807/\∃k:Nat,k<=outs.length/\i=k
def qG:CZ->abj:=λ(outs,acts,i)=>if(bt (ab i) outs).all H6 then .inr () else .inl ()
def aAa:axL->Prop:=λ(outs,acts)=>outs.length<=9223372036854775807/\acts.length<=9223372036854775807/\∀x∈acts,xx x.2.1
def MU:axL->Bool:=λ(outs,acts)=>acts.all JN && (outs.all H6 && (decide (outs.length<=12) && decide (acts.length<=12)))
def abg:=du.eW qF Bl lS qE HG
def N7:CY->Option PT:=fP abg qF
def abi:=du.eW qH Bn lT qG HH
def N9:CZ->Option PV:=fP abi qH
def vm:Fs Tryz.prog aAa bz MU:=fu 6 Tryz.f6 (λ(outs,acts)=>([.d (.slice fJ) outs,.d (.slice (.pair ti (.pair dz (.pair ti (.pair (.slice bX) .unit))))) acts],[])) (λx=>⟨.d .bool x,[],[]⟩) [aj (.slice fJ),aj (.slice (.pair ti (.pair dz (.pair ti (.pair (.slice bX) .unit)))))] [arb,aI6] {loops:=oI [(2,{aV:=[0,1,5]}),(10,{aV:=[0,1,7]})],outs:=oH [(2,{aV:=[0,1]},{aV:=[4]}),(10,{aV:=[0,1]},{aV:=[4]})],fE:=pW [(2,abg),(10,abi)]}
def PS:= @dV Tryz.prog (jB vm.G) vm.an 0 Tryz.f6 0 _ qF
abbrev Xf:=jh Tryz.prog (jB vm.G) vm.an 0 Tryz.f6 0 qF Bl lS qE HG
def PU:= @dV Tryz.prog (jB vm.G) vm.an 0 Tryz.f6 1 _ qH
abbrev Xh:=jh Tryz.prog (jB vm.G) vm.an 0 Tryz.f6 1 qH Bn lT qG HH
theorem akw:iy N7 Bl lS qE:=kz (jC [.d (.slice fJ),.d (.slice (.pair ti (.pair dz (.pair ti (.pair (.slice bX) .unit))))),.d ti] λ_=>cf)
theorem R9:mY @PS qF Bl lS qE HG Xf:=nJ
theorem N8(Kz iM i)(kn:K2 R)(kx:K3 R):PS (Kz,iM,i) kn kx=aG (fL i (((List.length iM):Nat):Int)) (aG (eE i (((List.length iM):Nat):Int)) (aG (Af (((List.length (nth (.pair ti (.pair dz (.pair ti (.pair (.slice bX) .unit)))) iM (ab i)).2.1.1):Nat):Int) (5:Int)) (kx (fR ()).1 (fR ()).2) (aG (Af (((List.length (nth (.pair ti (.pair dz (.pair ti (.pair (.slice bX) .unit)))) iM (ab i)).2.1.2.1):Nat):Int) (5:Int)) (kx (fR ()).1 (fR ()).2) (aG (eE i (((List.length iM):Nat):Int)) (aG (Af (((List.length (nth (.pair ti (.pair dz (.pair ti (.pair (.slice bX) .unit)))) iM (ab i)).2.2.2.1):Nat):Int) (5:Int)) (kx (fR ()).1 (fR ()).2) (al (fZ.call (nth (.pair ti (.pair dz (.pair ti (.pair (.slice bX) .unit)))) iM (ab i)).2.1) λx1=>aG (!x1) (kx (fR ()).1 (fR ()).2) (al (Yr.call (nth (.pair ti (.pair dz (.pair ti (.pair (.slice bX) .unit)))) iM (ab i)).2.1) λx2=>aG (Ty.beq tH x2 (ae 32 (0:Int))) (kx (fR ()).1 (fR ()).2) (kn (qF (Kz,iM,(bA .i64 i (1:Int)))))))) aF))) aF) (kx (Bm (Kz,iM)).1 (Bm (Kz,iM)).2):=cf
theorem akx:iy N9 Bn lT qG:=kz (jC [.d (.slice fJ),.d (.slice (.pair ti (.pair dz (.pair ti (.pair (.slice bX) .unit))))),.d ti] λ_=>cf)
theorem Sa:mY @PU qH Bn lT qG HH Xh:=nJ
theorem Oa(Dm vY fK)(kn:K2 R)(kx:K3 R):PU (Dm,vY,fK) kn kx=aG (fL fK (((List.length Dm):Nat):Int)) (aG (eE fK (((List.length Dm):Nat):Int)) (aG (Af (((List.length (nth fJ Dm (ab fK)).2.1.1):Nat):Int) (4:Int)) (kx (rT ()).1 (rT ()).2) (kn (qH (Dm,vY,(bA .i64 fK (1:Int)))))) aF) (kx (Bo (Dm,vY)).1 (Bo (Dm,vY)).2):=cf
theorem aFY(outs acts)(k:K1 R):vm.A (outs,acts) k=al (N7 (outs,acts,0)) λx3=>aG x3.isLeft (al x3.getLeft? λa4=>k (vm.out aS)) (al x3.getRight? λb5=>al (N9 (b5.1,b5.2,0)) λx6=>aG x6.isLeft (al x6.getLeft? λa7=>k (vm.out aS)) (al x6.getRight? λb8=>aG (akP (b8.1.length:Int) 12) (k (vm.out (akP (b8.2.length:Int) 12))) (k (vm.out aS)))):=cf
theorem aoF:Xf:=by
 refine R9 (λ(outs,acts,i)=>acts.length - ab i) ?_
 rintro⟨outs,acts,i⟩ ⟨hlen,k,hk,rfl,hs⟩;have hlen:acts.length<=9223372036854775807:=hlen;have hk:k<=acts.length:=hk;have hs:∀x∈acts,xx x.2.1:=hs;by_cases h:k < acts.length
 ·have n1:nth aUg acts k=acts[k]:=cj (t:=aUg) h;have hd:(bt k acts).all JN=(JN acts[k] && (bt (k+1) acts).all JN):=by rw[aq h,eR]
  have step:∀ {R:Type} (kn:AS->Option R) (kx:Exit->AS->Option R),PS (outs,acts,(k:Int)) kn kx=aG (JN acts[k]) (kn (qF (outs,acts,((k+1:Nat):Int)))) (kx (fR ()).1 (fR ()).2):=by
   intro R kn kx;rw[N8,aT au,aZ (show(0:Int)<=(k:Int) by omega) au,aa,n1];simp only[ak];unfold JN;by_cases h1:acts[k].2.1.1.length > 5
   ·rw[dj au,if_pos h1];rfl
   rw[cw au,ao,if_neg h1];by_cases h2:acts[k].2.1.2.1.length > 5
   ·rw[dj au,if_pos h2];rfl
   rw[cw au,ao,if_neg h2];by_cases h3:acts[k].2.2.2.1.length > 5
   ·rw[dj au,if_pos h3];rfl
   rw[cw au,ao,if_neg h3,amr (d:=acts[k].2.1) trivial];simp only[ah,bz,QV];cases h4:amP acts[k].2.1 with
   |false=>rfl
   |true=>
    rw[bY,ao,if_pos rfl,aCl (d:=acts[k].2.1) (hs _ (aR h))];simp only[ah,bz,aml,aPQ];rw[N.lh au];show aG (decide (sX acts[k].2.1=AK)) _ _=_;cases decide (sX acts[k].2.1=AK) <;> rfl
  cases hp:JN acts[k]
  ·right;refine⟨fR (),?_,λkn kx=> ?_⟩
   ·simp only[lS,qE,aa,hd,hp,dm,bw,bp];rfl
   ·rw[step,hp,ao]
  ·left;refine⟨(outs,acts,((k+1:Nat):Int)),⟨hlen,k+1,au,rfl,hs⟩,by simp only[aa];omega,?_,λkn kx=> ?_⟩
   ·simp only[lS,qE,aa,hd,hp,bF]
   ·rw[step,hp,ak]
 ·right;obtain rfl:k=acts.length:=au;refine⟨Bm (outs,acts),?_,λkn kx=> ?_⟩
  ·simp only[lS,qE,aa,aH];rfl
  ·rw[N8,aP au,ao]
theorem aoG:Xh:=by
 refine Sa (λ(outs,acts,i)=>outs.length - ab i) ?_
 rintro⟨outs,acts,i⟩ ⟨hlen,k,hk,rfl⟩;have hlen:outs.length<=9223372036854775807:=hlen;have hk:k<=outs.length:=hk;by_cases h:k < outs.length
 ·have n1:nth fJ outs k=outs[k]:=cj (t:=fJ) h;have hd:(bt k outs).all H6=(H6 outs[k] && (bt (k+1) outs).all H6):=by rw[aq h,eR]
  have step:∀ {R:Type} (kn:AS->Option R) (kx:Exit->AS->Option R),PU (outs,acts,(k:Int)) kn kx=aG (H6 outs[k]) (kn (qH (outs,acts,((k+1:Nat):Int)))) (kx (rT ()).1 (rT ()).2):=by
   intro R kn kx;rw[Oa,aT au,aZ (show(0:Int)<=(k:Int) by omega) au,aa,n1];simp only[ak];unfold H6;rw[N.lh au];by_cases h1:outs[k].2.1.1.length<=4
   ·rw[cw au,ao,aI h1,ak]
   ·rw[dj au,ak,aN h1,ao]
  cases hp:H6 outs[k]
  ·right;refine⟨rT (),?_,λkn kx=> ?_⟩
   ·simp only[lT,qG,aa,hd,hp,dm,bw,bp];rfl
   ·rw[step,hp,ao]
  ·left;refine⟨(outs,acts,((k+1:Nat):Int)),⟨hlen,k+1,au,rfl⟩,by simp only[aa];omega,?_,λkn kx=> ?_⟩
   ·simp only[lT,qG,aa,hd,hp,bF]
   ·rw[step,hp,ak]
 ·right;obtain rfl:k=outs.length:=au;refine⟨Bo (outs,acts),?_,λkn kx=> ?_⟩
  ·simp only[lT,qG,aa,aH];rfl
  ·rw[Oa,aP au,ao]
theorem aFZ:vm.Ok:=by
 rintro⟨outs,acts⟩ ⟨ho,ha,hs⟩;rw[aFY,akw (d:=(outs,acts,0)) ⟨ha,0,aK _,rfl,hs⟩];simp only[ah,lS,qE,aW,aO,bz,MU];cases h1:acts.all JN with
 |false=>rfl
 |true=>
  simp only[bE,dN,ao,cV,ah,bF];rw[akx (d:=(outs,acts,0)) ⟨ho,0,aK _,rfl⟩];simp only[ah,lT,qG,aW,aO];cases h2:outs.all H6 with
  |false=>rfl
  |true=>
   simp only[bE,dN,ao,cV,ah,bF];by_cases h3:outs.length<=12
   ·rw[pt au,ak,aI h3,bF];by_cases h4:acts.length<=12
    ·rw[pt au,aI h4]
    ·rw[kr au,aN h4]
   ·rw[kr au,ao,aN h3,dm]
theorem aAb:vm.RS:=rE [.d (.slice fJ),.d (.slice (.pair ti (.pair dz (.pair ti (.pair (.slice bX) .unit)))))] vm
def aF0:=vm.fI aFZ 2 ⟨.eW aoF,⟨.eW aoG,trivial⟩⟩
def aiK:List aA->Bool | .iQ::_=>aL | _=>aS
def aBX:Int->Prop:=λ_=>True
def ayJ:Int->Bool:=λ_=>aS
def adx:Fs Tryz.prog aBX bz ayJ:=fu 26 Tryz.f26 (λheight=>([.iQ,.d ti height],[])) (λx=>⟨.d .bool x,[],[]⟩) [aF,aj ti]
theorem aID(height)(k:K1 R):adx.A height k=k (adx.out aS):=cf
theorem aIE:adx.Ok:=by intro h _;rw[aID];rfl
theorem aBY:adx.RS:=rE [.d ti] adx
def aIF:=adx.aRc aiK aIE
def aBZ:Int->Prop:=λ_=>True
def aNp:Int->Unit:=λ_=>()
def Yk:Fs Tryz.prog aBZ bz aNp:=fu 7 Tryz.f7 (λheight=>([.iQ,.d ti height],[])) (λx=>⟨.iQ,[],[]⟩) [aF,aj ti] [aIF] {bu:=[13]}
theorem aIM(height)(k:K1 R):Yk.A height k=al (adx.call height) λx1=>aG (!x1) (k (Yk.out ())) (aF):=cf
theorem aIN:Yk.Ok:=by intro h _;rw[aIM,aBY (d:=h) trivial];simp only[ah,bz,ayJ,dK,ak]
theorem aB0:Yk.RS:=rE [.d ti] Yk
def aIO:=Yk.aRc aiK aIN
def aMR:List aA->Bool | _:: .cT::_=>aL | _=>aS
def aQ1:List aA->Bool | _:: .ptr .. ::_=>aL | _=>aS
abbrev H8:=cR×(List bN)×Int×Int×Int×Nat×(List (cr×fj))×(List cI)×(List (bN×Bool))×Nat×(List (cr×fj))×(List cI)
abbrev S5:=Nat×(List (cr×fj))×(List cI)
def KE:H8->S5->((cR×Int×Nat×(List (cr×fj))×(List cI))×(Nat×(List (cr×fj))×(List cI))):=λ(il,t20,t21,t22,o0,o1L,eZ,gJ,Hi,Qi,VN,qS) y=>((il,o0,o1L,eZ,gJ),y)
abbrev aiP:=(List bN)×cR×Int×Nat×(List (cr×fj))×(List cI)
def ac2:H8->Prop:=λ(_,l,m,i,_)=>l=[]/\m=0/\i=0
def S4:H8->S5:=λ(_,_,_,_,_,_,_,_,_,n,a,s)=>(n,a,s)
def aqg:aiP->Prop:=λ(row,t,_,n,a,s)=>row=[]/\t.1.length<=64/\xx t/\Cs 300 n a s
def Nb:aiP->(Int×Int×Int×Nat×(List (cr×fj))×(List cI)):=λ(_,t,h,n,a,s)=>((eM t h (dq a)).1,(eM t h (dq a)).2,h,n,a,s)
def kL:Ls ac2 KE S4:=te (λ(il,t20,t21,t22,o0,o1L,eZ,gJ,Hi,Qi,VN,qS)=>⟨([.ptr (.bW 0) 0 [] 0]++aQ 4 ([.dx dz il,bC,bC,.cK (.new 14 0) 0,dP 19]++aQ 10 ([.d (.slice cd) t20,.d ti t21,.d ti t22]++aQ 26 []))),[cO (.pr (.ptr (.bW 1) 0 [] 0) (.pr (.d ti o0) (.pr (.cT) jL))),cO (.pr (.cK (.bW 2) 0) (.pr (.cg (.bW 3) 0 [] 0 0 o1L) jL)),cO (.mp bX fh eZ),cO (.vec 95 cv gJ)],(bk 14 ([cJ (.mp cd .bool Hi)]++bk 4 ([[cO (.pr (.cK (.new 19 1) 0) (.pr (.cg (.new 19 2) 0 [] 0 0 Qi) jL)),cO (.mp bX fh VN),cO (.vec 95 cv qS)]]++bk 29 [])))⟩) (λx=>(.exit 0,⟨([.ptr (.bW 0) 0 [] 0]++aQ 4 ([.dx dz x.1.1,bC,bC,bC,dP 19]++aQ 39 [])),[cO (.pr (.ptr (.bW 1) 0 [] 0) (.pr (.d ti x.1.2.1) (.pr (.cT) jL))),cO (.pr (.cK (.bW 2) 0) (.pr (.cg (.bW 3) 0 [] 0 0 x.1.2.2.1) jL)),cO (.mp bX fh x.1.2.2.2.1),cO (.vec 95 cv x.1.2.2.2.2)],(bk 19 ([[cO (.pr (.cK (.new 19 1) 0) (.pr (.cg (.new 19 2) 0 [] 0 0 x.2.1) jL)),cO (.mp bX fh x.2.2.1),cO (.vec 95 cv x.2.2.2)]]++bk 29 []))⟩))
def tS:Fs Tryz.prog aqg bz Nb:=fu 34 Tryz.f34 (λ(row,t,o0ba,o1baL,o2,o3)=>([.ptr (.bW 0) 0 [] 0,.d (.slice cd) row,.d dz t],[.obj 0 aS (.pr (.ptr (.bW 1) 0 [] 0) (.pr (.d ti o0ba) (.pr (.cT) (.d .unit ())))),.obj 0 aS (.pr (.cK (.bW 2) 0) (.pr (.cg (.bW 3) 0 [] 0 0 o1baL) (.d .unit ()))),.obj 0 aS (.mp bX fh o2),.obj 0 aS (.vec 95 cv o3)])) (λx=>⟨.cons (.d ti x.1) (.cons (.d ti x.2.1) (.nil)),[.obj 0 aS (.pr (.ptr (.bW 1) 0 [] 0) (.pr (.d ti x.2.2.1) (.pr (.cT) (.d .unit ())))),.obj 0 aS (.pr (.cK (.bW 2) 0) (.pr (.cg (.bW 3) 0 [] 0 0 x.2.2.2.1) (.d .unit ()))),.obj 0 aS (.mp bX fh x.2.2.2.2.1),.obj 0 aS (.vec 95 cv x.2.2.2.2.2)],[]⟩) [aF,aj (.slice cd),aj dz] [Cy,MR,aaX,aa4] {loops:=oI [(4,{aV:=[0,5,8,9,20,21,22],sites:=[14,19],owns:=[⟨9,[.snd,.fst],19,28⟩]})],outs:=oH [(4,{aV:=[0,5,9],sites:=[19]},{aV:=[6,7]})],fE:=pW [(4,kL.E)]}
theorem ac3:kL.RS:=rL [.d dz,.d (.slice cd),.d ti,.d ti,.d ti,.n,.d (.slice (.pair bX fh)),.d (.slice cv),.d (.slice (.pair cd .bool)),.n,.d (.slice (.pair bX fh)),.d (.slice cv)] kL
theorem Zq(il t20 t21 t22 o0 o1L eZ gJ Hi Qi VN qS)(kn:K2 R)(kx:K3 R):tS.R 0 kL (il,t20,t21,t22,o0,o1L,eZ,gJ,Hi,Qi,VN,qS) kn kx=aG (fL t22 t21) (aG (eE t22 (t20.length:Int)) (aG ((bV cd (nth cd t20 (ab t22)) Hi).getD aS) (al ((nth cd t20 (ab t22))) λx1=>al (xR (x1.2.1,o0,Qi,VN,qS)) λx2=>aG x2.isLeft (al x2.getLeft? λaPn=>kn (kL.st (il,t20,t21,(bA .i64 t22 1),o0,o1L,eZ,gJ,Hi,aPn.2.1,aPn.2.2.1,aPn.2.2.2))) (al x2.getRight? λaK8=>kn (kL.st (il,t20,t21,(bA .i64 t22 1),o0,o1L,eZ,gJ,Hi,aK8.2.1,aK8.2.2.1,aK8.2.2.2)))) (kn (kL.st (il,t20,t21,(bA .i64 t22 1),o0,o1L,eZ,gJ,Hi,Qi,VN,qS)))) aF) (kL.go kx ((il,o0,o1L,eZ,gJ),(Qi,VN,qS))):=cf
theorem auO(row t o0ba o1baL o2 o3)(k:K1 R):tS.A (row,t,o0ba,o1baL,o2,o3) k=al (td.call (row,t)) λx1=>al (we.call (o1baL,o2,o3)) λx2=>al (kL.call (t,row,(row.length:Int),0,o0ba,x2.1,x2.2.1,x2.2.2.1,x1,x2.2.2.2.1,x2.2.2.2.2.1,x2.2.2.2.2.2)) λx7=>al (nh.call (x7.1.1,x7.1.2.1,x7.2.1,x7.2.2.1,x7.2.2.2)) λx8=>k (tS.out (x8.1,x8.2.1,x7.1.2.1,x7.1.2.2.1,x7.1.2.2.2.1,x7.1.2.2.2.2)):=cf
theorem agm:(tS.kA 0 kL):=by
 refine(tS.nN 0 kL) (λ_=>0) ?_
 rintro⟨t,l,m,i,h,c,a0,s0,mk,n,a,s⟩ ⟨rfl,rfl,rfl⟩;right;intro R kn kx;rw[Zq,aP eG,ao];rfl
theorem auP:tS.Ok:=by rintro⟨row,t,h,n,a,s⟩ ⟨rfl,hl,hv,hg⟩;have hg:Cs 300 n a s:=hg;obtain⟨hc,hn⟩:=hg.canon;rw[auO,Dp (d:=([],t)) ⟨⟨aK _,λx hx=>by cases hx⟩,hl⟩,hg.copy au];simp only[ah,bz,KA,hn];rw[ac3 (d:=(t,[],(([]:List bN).length:Int),0,h,n,a,s,dF [] t,n,dq a,s.take n)) ⟨rfl,rfl,rfl⟩];simp only[ah,KE,S4];rw[hc.check hv];simp only[ah,bz,Nb]
theorem XT:tS.RS:=rE [.d (.slice cd),.d dz,.d ti,.n,.d (.slice (.pair bX fh)),.d (.slice cv)] tS
def auQ:=tS.aRc aMR auP 1 ⟨.eW agm,trivial⟩
abbrev Tq:=Int×(Int×((List bN)×Unit))×Nat×(List (cr×fj))×(List cI)×Nat×(List (cr×fj))×(List cI)
def adu:Tq->SA:=λ(height,o0b,o1baL,o2,o3,o4baL,o5,o6)=>([.ptr (.bW 0) 0 [] 0,.ptr (.bW 4) 0 [] 0,.d ti height],[cO (.pr (.ptr (.bW 1) 0 [] 0) (.d (.pair ti (.pair (.slice cd) .unit)) o0b)),cO (.pr (.cK (.bW 2) 0) (.pr (.cg (.bW 3) 0 [] 0 0 o1baL) jL)),cO (.mp bX fh o2),cO (.vec 95 cv o3),cO (.pr (.cK (.bW 5) 0) (.pr (.cg (.bW 6) 0 [] 0 0 o4baL) jL)),cO (.mp bX fh o5),cO (.vec 95 cv o6)])
abbrev ayE:=((Int×((List bN)×Unit))×Nat×(List (cr×fj))×(List cI))⊕((Int×((List bN)×Unit))×Nat×(List (cr×fj))×(List cI)×Nat×(List (cr×fj))×(List cI))
abbrev alR:=((Nat×(List (cr×fj))×(List cI))×((Int×((List bN)×Unit))×Nat×(List (cr×fj))×(List cI)))⊕((Nat×(List (cr×fj))×(List cI))×((Int×((List bN)×Unit))×Nat×(List (cr×fj))×(List cI)×Nat×(List (cr×fj))×(List cI)))
def vF:alR->ja:=λx=>match x with | .inl x=>⟨.nil,[cO (.pr (.ptr (.bW 1) 0 [] 0) (.d (.pair ti (.pair (.slice cd) .unit)) x.2.1)),cO (.pr (.cK (.bW 2) 0) (.pr (.cg (.bW 3) 0 [] 0 0 x.1.1) jL)),cO (.mp bX fh x.1.2.1),cO (.vec 95 cv x.1.2.2),cO (.pr (.cK (.bW 5) 0) (.pr (.cg (.bW 6) 0 [] 0 0 x.2.2.1) jL)),cO (.mp bX fh x.2.2.2.1),cO (.vec 95 cv x.2.2.2.2)],[]⟩ | .inr x=>⟨.nil,[cO (.pr (dP 0) (.d (.pair ti (.pair (.slice cd) .unit)) x.2.1)),cO (.pr (.cK (.bW 2) 0) (.pr (.cg (.bW 3) 0 [] 0 0 x.1.1) jL)),cO (.mp bX fh x.1.2.1),cO (.vec 95 cv x.1.2.2),cO (.pr (.cK (.bW 5) 0) (.pr (.cg (.bW 6) 0 [] 0 0 x.2.2.1) jL)),cO (.mp bX fh x.2.2.2.1),cO (.vec 95 cv x.2.2.2.2.1)],[cO (.pr (.cK (.new 0 1) 0) (.pr (.cg (.new 0 2) 0 [] 0 0 x.2.2.2.2.2.1) jL)),cO (.mp bX fh x.2.2.2.2.2.2.1),cO (.vec 95 cv x.2.2.2.2.2.2.2)]⟩
def V1:Tq->ayE->alR:=λ(height,o0b,o1baL,o2,o3,o4baL,o5,o6) y=>match y with | .inl y=> .inl ((o1baL,o2,o3),y) | .inr y=> .inr ((o1baL,o2,o3),y)
def V0:Tq->Prop:=λ(h,p,n,a,s,m,b,r)=>(1<=h/\h<=1048576)/\Cs 300 m b r/\∃x y:Nat×tj,p.2.1=[aj x,aj y]/\(xx x.2.1/\x.2.1.1.length<=64)/\(xx y.2.1/\y.2.1.1.length<=64)/\(eM x.2.1 h (dq (dq b))).2≠0/\eM y.2.1 h (dq (dq b))=(y.2.2.2.1,0)
def alQ:Tq->ayE:=λ(h,p,n,a,s,m,b,r)=> .inr ((h,([nth cd p.2.1 1],())),m,b,r,m,dq b,r.take m)
def aNf:pb:=jB (P:=Tryz.prog) [ayI,MR,auQ]
def aIv:Ae:= {loops:=oI [(5,{aV:=[0,31,32,33],sites:=[13,18,47,63]})],outs:=oH [(5,{aV:=[0],sites:=[13,18,47,63]},{aV:=[0],sites:=[13,18,47,63]})],PJ:=[⟨0,[.snd,.snd,.fst],(.slice cd)⟩]}
def ayC:= @Rl Tryz.prog aNf aIv 3 Tryz.f21 _ adu
abbrev aIu:=aze @ayC V0 V1 alQ vF
theorem aIw(height o0b o1baL o2 o3 o4baL o5 o6)(k:K1 R):ayC (height,o0b,o1baL,o2,o3,o4baL,o5,o6) k=al (alT.call (height,o4baL,o5,o6)) λx1=>aG (!x1.2) (k (vF (.inl ((o1baL,o2,o3),((o0b.1,(o0b.2.1,o0b.2.2)),x1.1.1,x1.1.2.1,x1.1.2.2))))) (al (we.call (x1.1.1,x1.1.2.1,x1.1.2.2)) λx2=>aG (fL (0:Int) (((List.length o0b.2.1):Nat):Int)) (aG (eE (0:Int) (((List.length o0b.2.1):Nat):Int)) (al ((nth cd o0b.2.1 0)) λx3=>al (tS.call (([]:List bN),x3.2.1,height,x2.2.2.2.1,x2.2.2.2.2.1,x2.2.2.2.2.2)) λx4=>aG (AP x4.2.1 (0:Int)) (al ((nth cd o0b.2.1 0)) λx5=>aG (decide (x4.1=x5.2.2.2.1)) (aG (fL (1:Int) (((List.length o0b.2.1):Nat):Int)) (aG (eE (1:Int) (((List.length o0b.2.1):Nat):Int)) (al ((nth cd o0b.2.1 1)) λx6=>aF) aF) (k (vF (.inr ((o1baL,o2,o3),((x4.2.2.1,([(nth cd o0b.2.1 0)],())),x2.1,x2.2.1,x2.2.2.1,x4.2.2.2.1,x4.2.2.2.2.1,x4.2.2.2.2.2)))))) aF) (aG (fL (1:Int) (((List.length o0b.2.1):Nat):Int)) (aG (eE (1:Int) (((List.length o0b.2.1):Nat):Int)) (al ((nth cd o0b.2.1 1)) λx7=>al (tS.call (([]:List bN),x7.2.1,x4.2.2.1,x4.2.2.2.1,x4.2.2.2.2.1,x4.2.2.2.2.2)) λx8=>aG (AP x8.2.1 (0:Int)) (al ((nth cd o0b.2.1 1)) λx9=>aG (decide (x8.1=x9.2.2.2.1)) (aG (fL (2:Int) (((List.length o0b.2.1):Nat):Int)) (aG (eE (2:Int) (((List.length o0b.2.1):Nat):Int)) (al ((nth cd o0b.2.1 2)) λant=>aF) aF) (k (vF (.inr ((o1baL,o2,o3),((x8.2.2.1,([(nth cd o0b.2.1 1)],())),x2.1,x2.2.1,x2.2.2.1,x8.2.2.2.1,x8.2.2.2.2.1,x8.2.2.2.2.2)))))) aF) (aG (fL (2:Int) (((List.length o0b.2.1):Nat):Int)) (aG (eE (2:Int) (((List.length o0b.2.1):Nat):Int)) (al ((nth cd o0b.2.1 2)) λasG=>al (tS.call (([]:List bN),asG.2.1,x8.2.2.1,x8.2.2.2.1,x8.2.2.2.2.1,x8.2.2.2.2.2)) λaK6=>aG (AP aK6.2.1 (0:Int)) (al ((nth cd o0b.2.1 2)) λaYF=>aG (decide (aK6.1=aYF.2.2.2.1)) (aF) aF) aF) aF) (k (vF (.inr ((o1baL,o2,o3),((x8.2.2.1,(([]:List bN),())),x2.1,x2.2.1,x2.2.2.1,x8.2.2.2.1,x8.2.2.2.2.1,x8.2.2.2.2.2))))))) aF) (k (vF (.inr ((o1baL,o2,o3),((x4.2.2.1,(([]:List bN),())),x2.1,x2.2.1,x2.2.2.1,x4.2.2.2.1,x4.2.2.2.2.1,x4.2.2.2.2.2))))))) aF) (k (vF (.inr ((o1baL,o2,o3),((height,(([]:List bN),o0b.2.2)),x2.1,x2.2.1,x2.2.2.1,x2.2.2.2.1,x2.2.2.2.2.1,x2.2.2.2.2.2)))))):=cf
theorem aIx:aIu:=by rintro⟨h,⟨p1,row,u⟩,n,a,s,m,b,r⟩ ⟨hh,hg,x,y,nL,⟨aTg,aQs⟩,⟨aQt,aQu⟩,c1,c2⟩;have nL:row=[aj x,aj y]:=nL;subst nL;have hg:Cs 300 m b r:=hg;obtain⟨hc,hn⟩:=hg.canon;rw[aIw,aqC (d:=(h,m,b,r)) trivial];simp only[ah,Tx,alU];rw[aI hh,bY,ao,hg.copy au];simp only[ah,hn];rw[aT (by show(0:Int) < 2;decide),ak,aZ eG (by show(0:Int) < 2;decide),ak];rw[show nth cd [aj x,aj y] 0=aj x from rfl,show nth cd [aj x,aj y] 1=aj y from rfl,ah,XT (d:=([],x.2.1,h,m,dq b,r.take m)) ⟨rfl,aQs,aTg,hc⟩];simp only[ah,bz,Nb];rw[fU c1,ao,aT (by show(1:Int) < 2;decide),ak,aZ eG (by show(1:Int) < 2;decide),ak,XT (d:=([],y.2.1,h,m,dq b,r.take m)) ⟨rfl,aQu,aQt,hc⟩];simp only[ah,bz,Nb,c2];rw[eU rfl,ak,aI trivial,ak,aP (by show ¬(2:Int) < 2;decide),ao];rfl
def ayD:=Entry.auo [aF,aF,aj ti] adu V0 V1 alQ vF
def QJ:Tq->Option alR:=NS ayD adu
theorem aBU:iy QJ V0 V1 alQ:=arI (abI [.d ti,.d (.pair ti (.pair (.slice cd) .unit)),.n,.d (.slice (.pair bX fh)),.d (.slice cv),.n,.d (.slice (.pair bX fh)),.d (.slice cv)] λ_=>cf)
def aIy:SG Tryz.prog:=⟨21,aQ1,ayD,.of (.aTF (.fn 1 cf aIx (And.intro (.none cf) trivial))) (by rfl)⟩
def aD7:Lk:=([([gj 7],(0,(0,(0,()))))],())
def TB(o:cr)(x:Int):cR:=([(o,(((0:Int),(([]:List Sg),((0:Int),()))),()))],([(x,(aD7,()))],((0:Int),())))
def UB(o:cr)(x:Int):cR:=ZM (TB o x) (ab 0) (ag4 (TB o x) 0 [7] 0)
theorem aQA:lk aD7=aL:=by have e:lk aD7=((xp ([gj 7],0,0,0,()) && aL) && aL):=rfl;rw[e,aLt _ _ _ (dH rfl)];simp only[eR,List.all_nil,abP,bF,Bool.and_true];rfl
theorem aTl:afG aD7:=λb hb=>by rw[aY.1 (show b∈ [([gj 7],(0,(0,(0,()))))] from hb)];exact⟨at5 (axh 7) aAH,aKz⟩
theorem aKO:Sm AK:=⟨dR,λx hx=>by rw[(ou.1 (show x∈ae 32 (0:Int) from hx)).2];exact⟨eG,eG⟩⟩
structure anB(o:cr)(x:Int):Prop where
 sm:Sm o.1
 n0:0<=o.2.1
 n1:o.2.1 < 64
 am:Gf 0 x=aL
theorem aMT{o:cr}{x:Int}(h:anB o x):gv (TB o x)=aL:=by
 have e2:Am 0 (TB o x).2.1=((Gf 0 x && lk aD7) && aL):=rfl;have e1:Gz [] (TB o x).1=aL:=by show Gz [] [(o,(((0:Int),(([]:List Sg),((0:Int),()))),()))]=aL;rw[Gz,Gz];show((!(Od [] (o,(((0:Int),(([]:List Sg),((0:Int),()))),()))) && (decide (0<=o.2.1/\o.2.1 < 64) && AV ((0:Int),(([]:List Sg),((0:Int),()))))) && aL)=aL;rw[aI ⟨h.n0,h.n1⟩];rfl
 unfold gv;rw[e1,e2,aQA,h.am];rfl
theorem aXj{o:cr}{x:Int}(h:anB o x):xx (TB o x):=by
 refine⟨⟨λo ho=> ?_,by show 1<=_;decide,by show 1<=_;decide⟩,λy hy=> ?_,by show(0:Int)<=_;decide⟩
 ·rw[aY.1 (show o∈ [(x,(aD7,()))] from ho)];exact⟨aTl,by show 1<=_;decide⟩
 ·rw[aY.1 (show y∈ [(o,(((0:Int),(([]:List Sg),((0:Int),()))),()))] from hy)];exact⟨h.sm,⟨λs hs=>(by cases hs),aKz⟩,aK _⟩
theorem aTy{o:cr}{x:Int}(h:anB o x):IG (TB o x) 0 0 [7]=aL:=by unfold IG;rw[aMT h,aI ⟨eG,by show(0:Int) < ((1:Nat):Int);decide,eG,eG,dH rfl⟩];rfl
theorem aLi{o:cr}{x:Int}(h:anB o x):gv (UB o x)=aL/\xx (UB o x)/\sX (UB o x)=sX (TB o x)/\da (UB o x)=da (TB o x)/\gl (UB o x)=gl (TB o x):=aJV (aXj h) (aTy h) aKz
theorem aYq(m:List Int)(h a:Int)(h0:0<=h)(a0:0<=a):GO aD7 (((0:Nat):Int),([7].map (λk=>mq k m),((0:Int),()))) m h a=0:=by have s1:=alq [7] (aTr ⟨eG,eG⟩) 0 0 0 0 m h a (.inl rfl);rw[if_neg au]at s1;exact(aMV (l:=aD7) (i:=0) (b:=([7].map gj,0,0,0,())) aQA (by show 0 < 1;decide) rfl _ _ _ _ _).trans s1
theorem aYD{o:cr}{x:Int}(h:anB o x):lq (UB o x)=36:=by unfold lq;rw[if_pos (aLi h).1];rfl
theorem aTx{o:cr}{x:Int}(h:anB o x):Ad.call (TB o x,0,0,[7],0)=aj (UB o x,0):=by rw[aDY (d:=(TB o x,0,0,[7],0)) ⟨aXj h,λy hy=>by rw[aY.1 hy];exact⟨eG,eG⟩,by show 1<=1000000000;decide⟩];simp only[bz,anh,aJU,aTy h,bE];rfl
theorem aXt{o:cr}{x y h g:Int}{C:At}(hs:anB o x)(hy:0<=y - x)(h1:1<=h)(h2:h<=1048576)(hg:0<=g/\g<=h)
  (hc:bV bX o C=aj ((y,(aD7,())),(g,()))) (hn:bV bX (sX (TB o x),((0:Int),())) C=aF):eM (UB o x) h C=(y - x,0):=by
 obtain⟨a1,a2,a3,a4,a5⟩:=aLi hs;have abB:(UB o x).1=[(o,(((((0:Nat):Int),([7].map (λk=>mq k (sX (TB o x))),((0:Int),())))),()))]:=rfl;have aWL:gl (UB o x)=[(sX (TB o x),((0:Int),()))]:=by rw[a5];unfold gl;rw[if_pos (aMT hs)];rfl
 generalize sX (TB o x)=id at hn abB aWL a3;unfold eM;rw[if_pos ⟨a1,h1,h2⟩,abB,a3];have e:By h id C [(o,(((((0:Nat):Int),([7].map (λk=>mq k id),((0:Int),())))),()))] 0= .inr y:=by rw[By,hc];show(if GO aD7 (((0:Nat):Int),([7].map (λk=>mq k id),((0:Int),()))) id h (h - g)≠0 then _ else By h id C [] (0+y))=_;rw[aYq id h (h - g) au au,if_neg (λe=>e rfl),By,Int.zero_add]
 rw[e,aWL];have n1:([(id,((0:Int),()))]:List cr).any (yG C)=aS:=by simp only[yw,List.any_nil,yG,hn,Option.isSome_none,tf]
 have n2:iN (UB o x).2.1=x:=by show x+0=x;omega
 simp only[n1,bw,bp,n2];rw[if_neg au]
theorem aSh{o:cr}{x h:Int}{C:At}(hs:anB o x)(h1:1<=h)(h2:h<=1048576)(hn:bV bX o C=aF):eM (UB o x) h C=(0,5):=by have abB:(UB o x).1=[(o,(((((0:Nat):Int),([7].map (λk=>mq k (sX (TB o x))),((0:Int),())))),()))]:=rfl;unfold eM;rw[if_pos ⟨(aLi hs).1,h1,h2⟩,abB,By,hn]
def ar3:(cr×Int×Int)->Prop:=λ(o,x,nt)=>anB o x/\nt=0
def aDl:(cr×Int×Int)->cR:=λ(o,x,_)=>UB o x
def sN:Fs Tryz.prog ar3 bz aDl:=fu 15 Tryz.f15 (λ(fromv,amount,note)=>([.d bX fromv,.d ti amount,.d ti note],[])) (λx=>⟨.d dz x,[],[]⟩) [aj bX,aj ti,aj ti] [KD,ax4,aKs]
theorem awv(fromv amount note)(k:K1 R):sN.A (fromv,amount,note) k=al (Jb.call 7) λx1=>al (ak1.call x1) λx2=>al (Ad.call (([(fromv,((0,(([]:List Sg),(0,()))),()))],([(amount,(x2,()))],(note,()))),0,0,[7],0)) λx3=>k (sN.out x3.1):=cf
theorem aww:sN.Ok:=by
 rintro⟨o,x,nt⟩ ⟨hs,hz⟩;have hz:nt=0:=hz;subst hz;rw[awv,Cz (d:=7) ⟨eG,eG⟩];simp only[ah,bz,S3];rw[apj (d:=gj 7) trivial];simp only[ah,bz,aG6];refine(congrArg (λz=>al z _) (aTx hs)).trans ?_
 rfl
theorem ar4:sN.RS:=rE [.d bX,.d ti,.d ti] sN
def awx:=sN.fI aww
instance aWi:DecidableEq cR:=λx y=>Ty.ato dz x y
instance aWh:DecidableEq bN:=λx y=>Ty.ato cd x y
def WM:Lk:=([([16384],(0,(0,(0,()))))],())
def aPh(o:cr)(x:Int)(s:Sg):cR:=([(o,(((0:Int),([s],((0:Int),()))),()))],([(x,(WM,()))],((0:Int),())))
def o0:cr:=(AK,((0:Int),()))
def o1:cr:=(AK,((1:Int),()))
def o5:cr:=(AK,((5:Int),()))
def aio:Bs:=[48,136,44,77,240,104,67,150,94,149,0,183,251,104,12,59,232,196,49,37,67,169,200,152,234,189,2,98,243,137,110,237]
def aOR:Bs:=[71,202,50,61,130,125,253,239,6,252,133,37,241,137,241,221,137,239,47,156,168,212,178,29,2,3,81,91,162,227,131,187]
def aGH:Bs:=[98,178,114,221,136,129,154,254,118,89,113,253,72,46,172,62,209,93,217,213,188,212,27,131,31,175,236,253,124,146,40,70]
def axY:Bs:=[198,193,162,27,3,37,48,112,5,17,105,99,98,173,25,71,30,227,110,122,67,191,63,243,179,252,198,63,126,37,59,197]
def aVo:Bs:=[186,156,49,22,57,143,156,182,46,185,72,234,75,30,92,94,27,69,86,16,160,225,107,222,48,56,35,123,99,201,64,44]
def aW3:Bs:=[3,183,4,202,30,84,77,138,237,134,12,101,224,51,58,169,163,100,88,23,197,14,209,132,233,1,170,229,179,15,103,10]
def uA:cR:=aPh o0 960 (4312853649543002635,(627581201130462430,()))
def uB:cR:=aPh (aio,((0:Int),())) 860 (330531765227603267,(1779335143652023798,()))
def uC:cR:=aPh o1 950 (2973004903933136280,(2012914137231507193,()))
def uD:cR:=aPh o0 824 (370206715354529287,(438027654418129731,()))
def uF:cR:=aPh o0 825 (3498238557099088557,(1400229027058710940,()))
def uN:cR:=aPh o5 1 (478207293521901354,(758670635661376300,()))
theorem aG3:aD7=WM:=by decide+kernel
theorem aUp{o:cr}{x:Int}{id:Bs}{s:Sg}(h1:sX (TB o x)=id)(h2:mq 7 id=s):UB o x=aPh o x s:=by have e:UB o x=([(o,(((0:Int),([mq 7 (sX (TB o x))],((0:Int),()))),()))],([(x,(aD7,()))],((0:Int),()))):=rfl;rw[e,h1,h2,aG3];rfl
structure aKR(t:cR)(o:cr)(x:Int)(id:Bs):Prop where
 v:xx t
 ok:gv t=aL
 asF:sX t=id
 w:lq t=36
 len:t.1.length<=64
 is:UB o x=t
 ck:∀ {y h g:Int} {C:At},0<=y - x->1<=h->h<=1048576->0<=g/\g<=h->bV bX o C=aj ((y,(WM,())),(g,()))->bV bX (id,((0:Int),())) C=aF->eM t h C=(y - x,0)
 no:∀ {h:Int} {C:At},1<=h->h<=1048576->bV bX o C=aF->eM t h C=(0,5)
 md:gl t=[(id,((0:Int),()))]
 sp:da t=[o]
theorem aR2{o:cr}{x:Int}{id:Bs}{s:Sg}(hs:anB o x)(h1:sX (TB o x)=id)(h2:mq 7 id=s):aKR (aPh o x s) o x id:=by
 have e:=aUp h1 h2;obtain⟨a1,a2,a3,a4,a5⟩:=aLi hs;have m:gl (TB o x)=[(sX (TB o x),((0:Int),()))]:=by unfold gl;rw[if_pos (aMT hs)];rfl
 have sp:da (TB o x)=[o]:=by unfold da;rw[if_pos (aMT hs)];rfl
 rw[<-e];exact⟨a2,a1,a3.trans h1,aYD hs,by show 1<=64;decide,e▸rfl,λhy h1' h2' hg hc hn=>aXt hs hy h1' h2' hg (by rw[aG3];exact hc) (by rw[h1];exact hn),λh1' h2' hn=>aSh hs h1' h2' hn,by rw[a5,m,h1],by rw[a4,sp]⟩
theorem aR1{m:Bs}(hm:Sm m){k:Int}(h0:0<=k)(h1:k < 64){x:Int}(hx:Gf 0 x=aL):anB (m,(k,())) x:=⟨hm,h0,h1,hx⟩
theorem aXc:anB o0 960:=aR1 aKO eG eG rfl
theorem aXe:anB o1 950:=aR1 aKO eG eG rfl
theorem aXf:anB o0 824:=aR1 aKO eG eG rfl
theorem aXg:anB o0 825:=aR1 aKO eG eG rfl
theorem aXh:anB o5 1:=aR1 aKO eG eG rfl
theorem aW2:sX (TB o0 960)=aio:=by decide+kernel
theorem aXd:anB (aio,((0:Int),())) 860:=aR1 (by rw[<-aW2];exact afu) eG eG rfl
theorem aYi:sX (TB (aio,((0:Int),())) 860)=aOR:=by decide+kernel
theorem aYj:sX (TB o1 950)=aGH:=by decide+kernel
theorem aYk:sX (TB o0 824)=axY:=by decide+kernel
theorem aYl:sX (TB o0 825)=aVo:=by decide+kernel
theorem aYm:sX (TB o5 1)=aW3:=by decide+kernel
theorem fA:aKR uA o0 960 aio:=aR2 aXc aW2 (by decide+kernel)
theorem fB:aKR uB (aio,((0:Int),())) 860 aOR:=aR2 aXd aYi (by decide+kernel)
theorem fC:aKR uC o1 950 aGH:=aR2 aXe aYj (by decide+kernel)
theorem fD:aKR uD o0 824 axY:=aR2 aXf aYk (by decide+kernel)
theorem fF:aKR uF o0 825 aVo:=aR2 aXg aYl (by decide+kernel)
theorem fN:aKR uN o5 1 aW3:=aR2 aXh aYm (by decide+kernel)
def Ze:At:=[AN 0 ((1000:Int),(WM,())),AN 1 ((1000:Int),(WM,()))]
def afJ:At:=[AN 0 ((1000:Int),(WM,()))]
theorem VQ{m:Bs}{k:Int×Unit}(hm:¬m=AK):bV bX (m,k) Ze=aF/\bV bX (m,k) afJ=aF:=by
 have h:∀k':Int×Unit,¬Ty.beq bX (m,k) (ae 32 (0:Int),k')=aL:=λk' e=>hm (congrArg (λo:cr=>o.1) (beq_eq bX _ _ rfl e))
 constructor
 ·unfold Ze AN;rw[dQ,if_neg (h _),dQ,if_neg (h _),nr]
 ·unfold afJ AN;rw[dQ,if_neg (h _),nr]
theorem aQC:lk WM=aL:=by rw[<-aG3];exact aQA
theorem aTk:afG WM:=by rw[<-aG3];exact aTl
theorem alx:∀k:Nat,∀o∈ae k ((1000:Int),(WM,())),anG o:=λk o ho=>by rw[(ou.1 ho).2];exact⟨aTk,by show 1<=_;decide,by show(1000:Int)<=_;decide⟩
theorem aVv(s:Int)(h:s<=1000000):H5 s ((1000:Int),(WM,()))=aL:=by unfold H5;rw[aQC];show(aL && decide ((0:Int)<=1000/\(1000:Int)<=1125899906842624 - s))=aL;rw[aI ⟨eG,au⟩];rfl
theorem aHz:Qp [((1000:Int),(WM,())),((1000:Int),(WM,()))]=aj Ze:=by unfold Qp;rw[if_pos (dH rfl),HY,aVv 0 eG];show Option.map _ (HY (0+1000) 1 [((1000:Int),(WM,()))])=_;rw[HY,aVv (0+1000) eG];rfl
theorem aHA:Qp [((1000:Int),(WM,()))]=aj afJ:=by unfold Qp;rw[if_pos (dH rfl),HY,aVv 0 eG];rfl
section
theorem vT{α R:Type}{x:Option α}{v:α}{f:α->Option R}{r:Option R}(h:x=aj v)(k:f v=r):al x f=r:=by rw[h];exact k
theorem oU{R:Type}{c:Bool}{a b r:Option R}(h:c=aL)(k:a=r):aG c a b=r:=by rw[h];exact k
theorem ag3{R:Type}{c:Bool}{a b r:Option R}(h:c=aS)(k:b=r):aG c a b=r:=by rw[h];exact k
theorem aNq(t:cR)(p:ZQ)(n:Nat)(a:At)(s:List cI):∃y,mA (t,p,n,a,s) y:=by
 by_cases h:nI t p n a s=0
 ·obtain⟨b,hb⟩:=Vk ((dr t p).2.flatMap (fy cd));exact⟨_,.inr ⟨h,b,λhm=>absurd (hb b hm) (gQ b),rfl⟩⟩
 ·exact⟨_,.inl ⟨h,rfl⟩⟩
theorem Zg{t:cR}{p:ZQ}{n:Nat}{a:At}{s:List cI}{R:Type}{k:aai->Option R}{r:Option R}(hp:aEl t p n a s)(hk:∀y,mA (t,p,n,a,s) y->k y=r):xS (jE (t,p,n,a,s)) k=r:=aBS (d:=(t,p,n,a,s)) hp (aNq t p n a s) hk
def D1(m:Nat)(p q:ZQ)(n:Nat)(a:At)(s:List cI):Prop:=∃φ,nf p.2.1 φ/\q=(p.1,(p.2.1.map φ,()))/\Nz m p n a s/\Nz m q n a s
section
variable {m:Nat} {p q:ZQ} {n:Nat} {a:At} {s:List cI} {t:cR}
theorem D1.same(h:D1 m p q n a s)(t:cR):nI t q n a s=nI t p n a s:=by
 obtain⟨φ,hφ,rfl,h1,_⟩:=h;unfold nI;split
 ·exact aPw hφ h1.row h1.akv t n a s
 ·rfl
theorem axd(h:nI t p n a s=0):gv t=aL/\Ps t p n a s=0:=by
 unfold nI at h;split at h
 ·exact⟨by assumption,h⟩
 ·cases h
theorem D1.grow(h:D1 m p q n a s)(hm:m < 90)(hv:xx t)(hz:¬sX t=AK)(h0:nI t p n a s=0){k k':Nat}(hk:k ∉ (dr t p).2.flatMap (fy cd))(hk':k' ∉ (dr t q).2.flatMap (fy cd)):
  D1 (m+1) (p.1,((dr t p).2++ [aj (k,JI p t (dr t p).2 n a s)],())) (q.1,((dr t q).2++ [aj (k',JI q t (dr t q).2 n a s)],())) n a s:=by
 have hs:=h.same t;obtain⟨gb,he⟩:=axd h0;obtain⟨_,he'⟩:=axd (hs.trans h0);obtain⟨φ,hφ,rfl,h1,h2⟩:=h;have i1:=h1.add hm hv gb hz he k;have i2:=h2.add hm hv gb hz he' k';obtain⟨e,_⟩:=aJl hφ t;have e:(dr t (p.1,(p.2.1.map φ,()))).2=(dr t p).2.map φ:=congrArg (λz=>z.2) e;obtain⟨_,_,q3,_⟩:=T3 (t:=t) h1.row h1.akv;have af1:=hφ.sub (row':=(dr t p).2) λx hx=>q3.subset hx
 rw[e]at hk' i2 ⊢;have eo:JI (p.1,(p.2.1.map φ,())) t ((dr t p).2.map φ) n a s=JI p t (dr t p).2 n a s:=by unfold JI;rw[aOs af1]
 rw[eo]at i2 ⊢;obtain⟨ψ,hψ,eψ⟩:=af1.snoc (w:=JI p t (dr t p).2 n a s) hk hk';exact⟨ψ,hψ,by show(p.1,_)=_;rw[eψ],i1,i2⟩
theorem D1.len(h:D1 m p q n a s):q.2.1.length=p.2.1.length:=by obtain⟨φ,_,rfl,_⟩:=h;exact List.length_map ..
theorem D1.pick(h:D1 m p q n a s){bar:List cr}{room:Int}:iR bar q.2.1 100 room [] []=iR bar p.2.1 100 room [] []:=by obtain⟨φ,hφ,rfl,_⟩:=h;exact aIm hφ 100 room [] [] λp hp=>by cases hp
theorem D1.find(h:D1 m p q n a s)(id:Bs):(lU id q.2.1).isSome=(lU id p.2.1).isSome:=by obtain⟨φ,hφ,rfl,_⟩:=h;exact aF3 hφ id
theorem aSp{row:List bN}{φ:bN->bN}(h:nf row φ)(id:Bs):(match lU id (row.map φ) with | some x=>Zl x | none=>0)=(match lU id row with | some x=>Zl x | none=>0:Int):=by
 unfold lU;rw[List.find?_map];have e:∀l:List bN,(∀x∈l,x∈row)->l.find? (atX id∘φ)=l.find? (atX id):=λl=>by
  induction l with
  |nil=>exact λ_=>rfl
  |cons x l ih=>
   intro hl;obtain⟨w,k,rfl,hk⟩:=h.is (hl x aC);have ex:(atX id∘φ) (aj w)=atX id (aj w):=by show atX id (φ (aj w))=_;rw[hk];rfl
   rw[List.find?_cons,List.find?_cons,ex,ih λy hy=>hl y (az _ hy)]
 rw[e row λ_ h=>h];cases hf:row.find? (atX id) with
 |none=>rfl
 |some x=>
  obtain⟨w,k,rfl,hk⟩:=h.is (List.mem_of_find?_eq_some hf);show Zl (φ (aj w))=Zl (aj w);rw[hk];rfl
theorem D1.Pt(h:D1 m p q n a s)(hv:xx t):aEl t p n a s/\aEl t q n a s:=by obtain⟨φ,_,_,h1,h2⟩:=h;exact⟨h1.Pt hv,h2.Pt hv⟩
theorem D1.row(h:D1 m p q n a s):s5 p.2.1/\s5 q.2.1:=by obtain⟨φ,_,_,h1,h2⟩:=h;exact⟨h1.row,h2.row⟩
theorem D1.ok(h:D1 m p q n a s)(h0:nI t p n a s=0){y:Nh}(hy:mA (t,q,n,a,s) y):∃k',k' ∉ (dr t q).2.flatMap (fy cd)/\y=(0,(q.1,((dr t q).2++ [aj (k',JI q t (dr t q).2 n a s)],())),n,a,s):=by
 rcases hy with⟨h1,_⟩ | ⟨_,h1⟩
 ·exact absurd ((h.same t).trans h0) h1
 ·exact h1
theorem D1.no(h:D1 m p q n a s){e:Int}(he:¬e=0)(h0:nI t p n a s=e){y:Nh}(hy:mA (t,q,n,a,s) y):y=(e,q,n,a,s):=by
 rcases hy with⟨_,h1⟩ | ⟨h1,_⟩
 ·rw[h1,h.same t,h0]
 ·exact absurd ((h0.symm.trans (h.same t).symm).trans h1) he
end
theorem apT:∀(l:List gX) (sum:Int) (k:Nat) (A:At),HY sum k l=aj A->∀p∈A,p.1.1=AK
 |[],_,_,A,h,p,hp=>by rw[HY]at h;rw[<-bh h]at hp;cases hp
 |o::l,sum,k,A,h,p,hp=>by
  rw[HY]at h;split at h
  ·cases hn:HY (sum+o.1) (k+1) l with
   |none=>rw[hn]at h;cases h
   |some B=>
    rw[hn]at h;rw[<-bh h]at hp;rcases bI.1 hp with rfl | hp
    ·rfl
    ·exact apT l _ _ B hn p hp
  ·cases h
theorem apS{l:List gX}{A:At}(h:Qp l=aj A):afK A:=λo ho=>by
 unfold Qp at h;split at h
 ·obtain⟨v,hv⟩:=Option.isSome_iff_exists.1 ho;exact apT l 0 0 A h _ (C9 (kt:=bX) gV hv)
 ·cases h
theorem Nz.nil{h:Int}{n:Nat}{a:At}{s:List cI}(hg:Cs 300 n a s)(hk:afK a):Nz 0 (h,([],())) n a s where
 row:=⟨aK _,λx hx=>by cases hx⟩
 len:=aB _
 akv:=λx hx=>by cases hx
 aVr:=λw hw=>by cases hw
 ord:=⟨List.Pairwise.nil,λx hx=>by cases hx⟩
 aUu:=λx hx=>by cases hx
 st:=hg
 key:=hk
theorem D1.nil{h:Int}{n:Nat}{a:At}{s:List cI}(hg:Cs 300 n a s)(hk:afK a):D1 0 (h,([],())) (h,([],())) n a s:=
 ⟨λx=>x,nf.id (row:=[]) (λx hx=>(by cases hx)),rfl,Nz.nil hg hk,Nz.nil hg hk⟩
end
section
def oW(t:cR)(id:Bs)(f:Int):tj:=(t,(id,(f,(36,()))))
def R1:List bN:=[aj (0,oW uA aio 40)]
def R2:List bN:=[aj (0,oW uA aio 40),aj (1,oW uB aOR 100)]
def R3:List bN:=[aj (0,oW uA aio 40),aj (1,oW uB aOR 100),aj (2,oW uC aGH 50)]
def Rr:List bN:=[aj (2,oW uC aGH 50)]
def R4:List bN:=[aj (2,oW uC aGH 50),aj (3,oW uD axY 176)]
def CG(C:At):Prop:=Cs 300 0 C []/\C.Perm Ze
theorem aRl:Cs 0 0 Ze []:=(VP (alx 2) aHz).1
theorem Fb{C:At}(h:CG C):CG (dq C):=⟨h.1.canon.1,(nQ C).trans h.2⟩
theorem aXs:CG (dq Ze):=⟨(aRl.mono (aK _)).canon.1,nQ Ze⟩
theorem CO{C:At}(h:CG C)(o:cr):bV bX o C=bV bX o Ze:=Qg gV aRl.J7.1 h.2
theorem aPK{C:At}(h:CG C):afK C:=λo ho=>apS aHz o (by rw[<-CO h];exact ho)
theorem aVp:bV bX o0 Ze=aj (((1000:Int),(WM,())),((0:Int),())):=by unfold Ze AN;rw[dQ];exact if_pos (beq_refl bX o0 rfl)
theorem aYn:bV bX o1 Ze=aj (((1000:Int),(WM,())),((0:Int),())):=by
 have h:¬Ty.beq bX o1 (ae 32 (0:Int),(((0:Nat):Int),()))=aL:=λe=>absurd (congrArg (λo:cr=>o.2.1) (beq_eq bX _ _ rfl e)) eG
 unfold Ze AN;rw[dQ,if_neg h,dQ];exact if_pos (beq_refl bX o1 rfl)
theorem aYo:bV bX o5 Ze=aF:=by
 have h0:¬Ty.beq bX o5 (ae 32 (0:Int),(((0:Nat):Int),()))=aL:=λe=>absurd (congrArg (λo:cr=>o.2.1) (beq_eq bX _ _ rfl e)) eG
 have h1:¬Ty.beq bX o5 (ae 32 (0:Int),(((1:Nat):Int),()))=aL:=λe=>absurd (congrArg (λo:cr=>o.2.1) (beq_eq bX _ _ rfl e)) eG
 unfold Ze AN;rw[dQ,if_neg h0,dQ,if_neg h1,nr]
theorem aW5:¬aio=AK:=by decide+kernel
theorem aVt:¬aOR=AK:=by decide+kernel
theorem aW6:¬aGH=AK:=by decide+kernel
theorem aVu:¬axY=AK:=by decide+kernel
theorem aYp:¬aVo=AK:=by decide+kernel
theorem aVs:¬aOR=aio:=by decide+kernel
theorem apf{h:Int}:∀(l:List bN) (S:aKQ),l.foldl (xt h []) S=S
 |[],_=>rfl
 |x::l,S=>by
  have e:xt h [] S x=S:=by
   cases x with
   |none=>rfl
   |some w=>rfl
  rw[aX,e,apf l S]
theorem an5{row:List bN}{t:cR}{h:Int}{n:Nat}{a:At}{s:List cI}(ha:dF row t=[]):wb h row t n a s=eM t h (dq a):=by unfold wb af2;rw[ha,apf]
section
variable {C:At} (hC:CG C)
include hC
theorem cA:eM uA 1 C=(40,0):=fA.ck (y:=1000) (g:=0) eG eG eG ⟨eG,eG⟩ ((CO hC _).trans aVp) ((CO hC _).trans (VQ aW5).1)
theorem cC:eM uC 1 C=(50,0):=fC.ck (y:=1000) (g:=0) eG eG eG ⟨eG,eG⟩ ((CO hC _).trans aYn) ((CO hC _).trans (VQ aW6).1)
theorem cD:eM uD 1 C=(176,0):=fD.ck (y:=1000) (g:=0) eG eG eG ⟨eG,eG⟩ ((CO hC _).trans aVp) ((CO hC _).trans (VQ aVu).1)
theorem cF:eM uF 1 C=(175,0):=fF.ck (y:=1000) (g:=0) eG eG eG ⟨eG,eG⟩ ((CO hC _).trans aVp) ((CO hC _).trans (VQ aYp).1)
theorem cN:eM uN 1 C=(0,5):=fN.no eG eG ((CO hC _).trans aYo)
theorem aXr:xM uA 1 C 40:=by have c:=cA hC;have:=ZU (t:=uA) (h:=1) (a:=C) (by rw[c]);rw[c]at this;exact this
theorem cB:eM uB 1 (jI uA 1 C)=(100,0):=by
 refine fB.ck (y:=960) (g:=1) eG eG eG ⟨eG,eG⟩ ?_ ?_
 ·have hm:=fA.md;have:=(aXr hC).new (k:=0) (by rw[hm];exact Nat.one_pos) (by show 0 < 1;decide);simp only[hm,List.getElem_cons_zero]at this;exact this
 ·rw[Rs hC.1.J7.1 (by rw[fA.sp];exact λe=>aVt (congrArg (λo:cr=>o.1) (aY.1 e))) (by rw[fA.md];exact λe=>aVs (congrArg (λo:cr=>o.1) (aY.1 e)))];exact(CO hC _).trans (VQ aVt).1
end
theorem aXq:dF R1 uB=[(aj (0,oW uA aio 40),aL)]:=by decide+kernel
theorem aWg{C:At}(hC:CG C):wb 1 R1 uB 0 C []=(100,0):=by
 unfold wb af2;rw[aXq];show eM uB 1 (xt 1 [(aj (0,oW uA aio 40),aL)] (0,dq C,[]) (aj (0,oW uA aio 40))).2.1=_;have hm:cX [(aj (0,oW uA aio 40),aL)] (aj (0,oW uA aio 40))=aL:=by unfold cX;rw[dQ,if_pos (beq_refl cd _ rfl)];rfl
 have e:xt 1 [(aj (0,oW uA aio 40),aL)] (0,dq C,[]) (aj (0,oW uA aio 40))=aay 1 (0,dq C,[]) uA:=by unfold xt;simp only[hm,bE];rfl
 rw[e];have c1:=cA (Fb hC);rw[show aay 1 (0,dq C,[]) uA=(1,jI uA 1 (dq C),[stepOf uA (dq C)]) from if_neg (by show ¬(eM uA 1 (dq C)).2≠0;rw[c1];exact λe=>e rfl)];exact cB (Fb hC)
theorem MJ{t:cR}{row:List bN}{n:Nat}{a:At}{s:List cI}{id:Bs}{g:Mk}{r:List bN}{d f e:Int}(gb:gv t=aL)(dy:sX t=id)(hw:lq t=36)(hr:dr t (1,(row,()))=(g,r))(hd:jV r 1001 t=d)(hc:wb 1 r t n a s=(f,e)):
  nI t (1,(row,())) n a s=if(lU id row).isSome=aL then 4 else if d > 4 then 25 else if e≠0 then e else if UX f 36 g=aL then 13 else if f < 36+Cg g then 13 else 0:=by
 unfold nI Ps;rw[if_pos gb,hr];simp only[dy,hw,hd,hc]
theorem aae{t:cR}{row r:List bN}{n:Nat}{a:At}{s:List cI}{id:Bs}{f e:Int}(dy:sX t=id)(hw:lq t=36)(hc:wb 1 r t n a s=(f,e)):JI (1,(row,())) t r n a s=oW t id f:=by unfold JI;rw[dy,hw,hc];rfl
theorem rA:dr uA (1,([],()))=([],[]):=by decide+kernel
theorem rB:dr uB (1,(R1,()))=([],R1):=by decide+kernel
theorem rC:dr uC (1,(R2,()))=([],R2):=by decide+kernel
theorem rN:dr uN (1,(R3,()))=([],R3):=by decide+kernel
theorem rF:dr uF (1,(R3,()))=([(aj (0,oW uA aio 40),aL),(aj (1,oW uB aOR 100),aL)],Rr):=by decide+kernel
theorem rD:dr uD (1,(R3,()))=([(aj (0,oW uA aio 40),aL),(aj (1,oW uB aOR 100),aL)],Rr):=by decide+kernel
theorem xA{C:At}(hC:CG C):nI uA (1,([],())) 0 C []=0:=(MJ fA.ok fA.asF fA.w rA (d:=1) (by decide+kernel) ((an5 rfl).trans (cA (Fb hC)))).trans (by decide+kernel)
theorem xB{C:At}(hC:CG C):nI uB (1,(R1,())) 0 C []=0:=(MJ fB.ok fB.asF fB.w rB (d:=2) (by decide+kernel) (aWg hC)).trans (by decide+kernel)
theorem xC{C:At}(hC:CG C):nI uC (1,(R2,())) 0 C []=0:=(MJ fC.ok fC.asF fC.w rC (d:=1) (by decide+kernel) ((an5 (by decide+kernel)).trans (cC (Fb hC)))).trans (by decide+kernel)
theorem aYK{C:At}:nI uA (1,(R3,())) 0 C []=4:=by
 have h:(lU (sX uA) R3).isSome=aL:=by rw[fA.asF];decide+kernel
 unfold nI Ps;rw[if_pos fA.ok,if_pos h]
theorem xE{C:At}{row:List bN}:nI ([],([],(0,()))) (1,(row,())) 0 C []=1:=by unfold nI;rw[if_neg (by decide+kernel)]
theorem xN{C:At}(hC:CG C):nI uN (1,(R3,())) 0 C []=5:=(MJ fN.ok fN.asF fN.w rN (d:=1) (by decide+kernel) ((an5 (by decide+kernel)).trans (cN (Fb hC)))).trans (by decide+kernel)
theorem xF{C:At}(hC:CG C):nI uF (1,(R3,())) 0 C []=13:=(MJ fF.ok fF.asF fF.w rF (d:=1) (by decide+kernel) ((an5 (by decide+kernel)).trans (cF (Fb hC)))).trans (by decide+kernel)
theorem xD{C:At}(hC:CG C):nI uD (1,(R3,())) 0 C []=0:=(MJ fD.ok fD.asF fD.w rD (d:=1) (by decide+kernel) ((an5 (by decide+kernel)).trans (cD (Fb hC)))).trans (by decide+kernel)
theorem aYr:iR [] R3 100 4000 [] []=aj [uA,uB,uC]:=by decide+kernel
theorem aYs:iR [] R3 100 71 [] []=aj [uC]:=by decide+kernel
theorem aYt:iR [o0] R3 100 4000 [] []=aj [uC]:=by decide+kernel
theorem ay1{row r:List bN}{q:ZQ}{C:At}{m:Nat}{t:cR}{g:Mk}{w:tj}(k:Nat)(h:D1 m (1,(row,())) q 0 C [])(hm:m < 90)(hv:xx t)(hz:¬sX t=AK)(hx:nI t (1,(row,())) 0 C []=0)(hr:dr t (1,(row,()))=(g,r))(ho:JI (1,(row,())) t r 0 C []=w)(hk:k ∉ r.flatMap (fy cd))
  {y:Nh} (hy:mA (t,q,0,C,[]) y):∃q',y=(0,q',0,C,[])/\D1 (m+1) (1,(r++ [aj (k,w)],())) q' 0 C []:=by
 obtain⟨k',hk',e⟩:=h.ok hx hy;have er:(dr t (1,(row,()))).2=r:=congrArg (λz=>z.2) hr;have:=h.grow hm hv hz hx (k:=k) (by rw[er];exact hk) hk';rw[er,ho]at this;exact⟨_,e,this⟩
end
section
abbrev rh:=Bool×Lk×cR×cR×cR×cR×cR×(Int×((List bN)×Unit))×Nat×(List (cr×fj))×(List cI)
def Js:rh->AS:=λ(one,n1,n4,n5,n6,n7,n8,aTo,aHv,apI,apJ)=>⟨([bC,dP 1,bC,dP 26,dP 4,dP 5,dP 6,dP 7,dP 8,.d .bool one]++aQ 215 []),[],([[],cJ (.d Ag n1),[],[],cJ (.d dz n4),cJ (.d dz n5),cJ (.d dz n6),cJ (.d dz n7),cJ (.d dz n8)]++bk 17 ([[cO (.pr (.ptr (.new 26 1) 0 [] 0) (.d (.pair ti (.pair (.slice cd) .unit)) aTo)),cO (.pr (.cK (.new 26 2) 0) (.pr (.cg (.new 26 3) 0 [] 0 0 aHv) jL)),cO (.mp bX fh apI),cO (.vec 95 cv apJ)]]++bk 198 []))⟩
def LU:JL:= {JL.of {aV:=[1,3,4,5,6,7,8,9],sites:=[1,4,5,6,7,8,26]} Js with rel:=aL}
def iW:rh->Option rh:=λx=>(LU).aK0 .normal (Js x)
theorem NI(x:rh):iW x=aj x:=JL.auF (an:= {aV:=[1,3,4,5,6,7,8,9],sites:=[1,4,5,6,7,8,26]}) (jC [.d .bool,.d Ag,.d dz,.d dz,.d dz,.d dz,.d dz,.d (.pair ti (.pair (.slice cd) .unit)),.n,.d (.slice (.pair bX fh)),.d (.slice cv)] λ_=>cf) x
abbrev ri:=Bool×Bool×Lk×cR×cR×cR×cR×cR×(Int×((List bN)×Unit))×Nat×(List (cr×fj))×(List cI)
def Jt:ri->AS:=λ(one,two,n1,n4,n5,n6,n7,n8,aTo,aHv,apI,apJ)=>⟨([bC,dP 1,bC,dP 26,dP 4,dP 5,dP 6,dP 7,dP 8,.d .bool one,bC,bC,bC,.d .bool two]++aQ 211 []),[],([[],cJ (.d Ag n1),[],[],cJ (.d dz n4),cJ (.d dz n5),cJ (.d dz n6),cJ (.d dz n7),cJ (.d dz n8)]++bk 17 ([[cO (.pr (.ptr (.new 26 1) 0 [] 0) (.d (.pair ti (.pair (.slice cd) .unit)) aTo)),cO (.pr (.cK (.new 26 2) 0) (.pr (.cg (.new 26 3) 0 [] 0 0 aHv) jL)),cO (.mp bX fh apI),cO (.vec 95 cv apJ)]]++bk 198 []))⟩
def LV:JL:= {JL.of {aV:=[1,3,4,5,6,7,8,9,13],sites:=[1,4,5,6,7,8,26]} Jt with rel:=aL}
def iX:ri->Option ri:=λx=>(LV).aK0 .normal (Jt x)
theorem NJ(x:ri):iX x=aj x:=JL.auF (an:= {aV:=[1,3,4,5,6,7,8,9,13],sites:=[1,4,5,6,7,8,26]}) (jC [.d .bool,.d .bool,.d Ag,.d dz,.d dz,.d dz,.d dz,.d dz,.d (.pair ti (.pair (.slice cd) .unit)),.n,.d (.slice (.pair bX fh)),.d (.slice cv)] λ_=>cf) x
abbrev rj:=Bool×Bool×Bool×Lk×cR×(Int×((List bN)×Unit))×Nat×(List (cr×fj))×(List cI)
def Ju:rj->AS:=λ(one,two,three,n1,n7,aTo,aHv,apI,apJ)=>⟨([bC,dP 1,bC,dP 26,bC,bC,bC,dP 7,bC,.d .bool one,bC,bC,bC,.d .bool two,.d .bool three]++aQ 210 []),[],([[],cJ (.d Ag n1)]++bk 5 ([cJ (.d dz n7)]++bk 18 ([[cO (.pr (.ptr (.new 26 1) 0 [] 0) (.d (.pair ti (.pair (.slice cd) .unit)) aTo)),cO (.pr (.cK (.new 26 2) 0) (.pr (.cg (.new 26 3) 0 [] 0 0 aHv) jL)),cO (.mp bX fh apI),cO (.vec 95 cv apJ)]]++bk 198 [])))⟩
def LW:JL:= {JL.of {aV:=[1,3,7,9,13,14],sites:=[1,7,26]} Ju with rel:=aL}
def ig:rj->Option rj:=λx=>(LW).aK0 .normal (Ju x)
theorem NK(x:rj):ig x=aj x:=JL.auF (an:= {aV:=[1,3,7,9,13,14],sites:=[1,7,26]}) (jC [.d .bool,.d .bool,.d .bool,.d Ag,.d dz,.d (.pair ti (.pair (.slice cd) .unit)),.n,.d (.slice (.pair bX fh)),.d (.slice cv)] λ_=>cf) x
def Q5:Unit->SA:=λ_=>([],[])
def ei:Bool->ja:=λx=>⟨.d .bool x,[],[]⟩
def LY:Unit->Bool->Bool:=λ_ y=>y
def LX:Unit->Prop:=λ_=>True
def IH:Unit->Bool->Prop:=λ_ y=>y=aL
def aDj:pb:=jB (P:=Tryz.prog) [KD,ax4,aot,aIO,ayK,awx,ae6,aqA,aqI,afs,aKm,ayx,aqR,aNc,aIy]
def awq:Ae:= {aOW:=pW [(12,LU),(18,LV),(19,LW)]}
def ajr:= @Rl Tryz.prog aDj awq 0 Tryz.f4 _ Q5
abbrev awp:=aEo @ajr LX LY IH ei
theorem awr(k:ja->Option R):ajr () k=al (Jb.call (7:Int)) λx7=>al (ak1.call x7) λx8=>al (oF [((1000:Int),(x8,())),((1000:Int),(x8,()))]) λx9=>aG x9.isLeft (al x9.getLeft? λaZb=>al (Yk.call (1:Int)) λant=>k (ei aS)) (al x9.getRight? λaXn=>al (pG ((1:Int),0,aXn.1,aXn.2)) λasG=>aG asG.isLeft (al asG.getLeft? λaYE=>k (ei aS)) (al asG.getRight? λaw1=>al (Yk.call (1:Int)) λaY7=>al (pG ((0:Int),aw1.1,aw1.2.1,aw1.2.2.1)) λaRx=>aG aRx.isLeft (al aRx.getLeft? λaYG=>al (sN.call (((ae 32 (0:Int)),((0:Int),())),(960:Int),(0:Int))) λaw3=>al (tid.call aw3) λPk=>al (sN.call ((Pk,((0:Int),())),(860:Int),(0:Int))) λaK7=>al (sN.call (((ae 32 (0:Int)),((1:Int),())),(950:Int),(0:Int))) λaK9=>al (sN.call (((ae 32 (0:Int)),((0:Int),())),(824:Int),(0:Int))) λaR4=>al (sN.call (((ae 32 (0:Int)),((0:Int),())),(825:Int),(0:Int))) λaR5=>Xs (λ(KS12:rh->Option R)=>xS (jE (aw3,aw1.2.2.2.1,aw1.2.2.2.2.1,aw1.2.2.2.2.2.1,aw1.2.2.2.2.2.2)) λaOg=>aG (AP aOg.1 (0:Int)) (xS (jE (aK7,aOg.2.1,aOg.2.2.1,aOg.2.2.2.1,aOg.2.2.2.2)) λaOh=>aG (AP aOh.1 (0:Int)) (xS (jE (aK9,aOh.2.1,aOh.2.2.1,aOh.2.2.2.1,aOh.2.2.2.2)) λaOi=>aG (AP aOi.1 (0:Int)) (xS (jE (aw3,aOi.2.1,aOi.2.2.1,aOi.2.2.2.1,aOi.2.2.2.2)) λaOj=>aG (AP aOj.1 (4:Int)) (xS (jE ((([]:List gK),(([]:List gX),((0:Int),()))),aOj.2.1,aOj.2.2.1,aOj.2.2.2.1,aOj.2.2.2.2)) λaOk=>aG (AP aOk.1 (1:Int)) (al (sN.call (((ae 32 (0:Int)),((5:Int),())),(1:Int),(0:Int))) λaYI=>xS (jE (aYI,aOk.2.1,aOk.2.2.1,aOk.2.2.2.1,aOk.2.2.2.2)) λaTL=>al (iW ((AP aTL.1 (5:Int)),x8,aw3,aK7,aK9,aR4,aR5,aTL.2.1,aTL.2.2.1,aTL.2.2.2.1,aTL.2.2.2.2)) KS12) (al (iW (aS,x8,aw3,aK7,aK9,aR4,aR5,aOk.2.1,aOk.2.2.1,aOk.2.2.2.1,aOk.2.2.2.2)) KS12)) (al (iW (aS,x8,aw3,aK7,aK9,aR4,aR5,aOj.2.1,aOj.2.2.1,aOj.2.2.2.1,aOj.2.2.2.2)) KS12)) (al (iW (aS,x8,aw3,aK7,aK9,aR4,aR5,aOi.2.1,aOi.2.2.1,aOi.2.2.2.1,aOi.2.2.2.2)) KS12)) (al (iW (aS,x8,aw3,aK7,aK9,aR4,aR5,aOh.2.1,aOh.2.2.1,aOh.2.2.2.1,aOh.2.2.2.2)) KS12)) (al (iW (aS,x8,aw3,aK7,aK9,aR4,aR5,aOg.2.1,aOg.2.2.1,aOg.2.2.2.1,aOg.2.2.2.2)) KS12)) λAh=>al (px.call ((4000:Int),([]:List cr),Ah.2.2.2.2.2.2.2.1,Ah.2.2.2.2.2.2.2.2.1,Ah.2.2.2.2.2.2.2.2.2.1,Ah.2.2.2.2.2.2.2.2.2.2)) λazc=>al (px.call ((71:Int),([]:List cr),azc.2.1,azc.2.2.1,azc.2.2.2.1,azc.2.2.2.2.1)) λaPo=>al (px.call ((4000:Int),[((ae 32 (0:Int)),((0:Int),()))],aPo.2.1,aPo.2.2.1,aPo.2.2.2.1,aPo.2.2.2.2.1)) λUT=>aG (Cw ((azc.1:Nat):Int) (3:Int)) (k (ei aS)) (aG (Cw ((aPo.1:Nat):Int) (1:Int)) (k (ei aS)) (aG (Cw ((UT.1:Nat):Int) (1:Int)) (k (ei aS)) (Xs (λ(KS18:ri->Option R)=>al (uw.call Ah.2.2.1) λaYJ=>aG (AP aYJ (36:Int)) (aG (eE (0:Int) ((azc.1:Nat):Int)) (aG (decide (0 < (List.length azc.2.2.2.2.2))) (al (E5.call ((nth dz azc.2.2.2.2.2 0),Ah.2.2.1)) λaVS=>aG (aVS) (aG (eE (1:Int) ((azc.1:Nat):Int)) (aG (decide (1 < (List.length azc.2.2.2.2.2))) (al (E5.call ((nth dz azc.2.2.2.2.2 1),Ah.2.2.2.1)) λaVT=>aG (aVT) (aG (eE (2:Int) ((azc.1:Nat):Int)) (aG (decide (2 < (List.length azc.2.2.2.2.2))) (al (E5.call ((nth dz azc.2.2.2.2.2 2),Ah.2.2.2.2.1)) λaVU=>aG (aVU) (aG (eE (0:Int) ((aPo.1:Nat):Int)) (aG (decide (0 < (List.length aPo.2.2.2.2.2))) (al (E5.call ((nth dz aPo.2.2.2.2.2 0),Ah.2.2.2.2.1)) λaVV=>aG (aVV) (aG (eE (0:Int) ((UT.1:Nat):Int)) (aG (decide (0 < (List.length UT.2.2.2.2.2))) (al (E5.call ((nth dz UT.2.2.2.2.2 0),Ah.2.2.2.2.1)) λaVW=>al (iX (Ah.1,aVW,Ah.2.1,Ah.2.2.1,Ah.2.2.2.1,Ah.2.2.2.2.1,Ah.2.2.2.2.2.1,Ah.2.2.2.2.2.2.1,UT.2.1,UT.2.2.1,UT.2.2.2.1,UT.2.2.2.2.1)) KS18) aF) aF) (al (iX (Ah.1,aS,Ah.2.1,Ah.2.2.1,Ah.2.2.2.1,Ah.2.2.2.2.1,Ah.2.2.2.2.2.1,Ah.2.2.2.2.2.2.1,UT.2.1,UT.2.2.1,UT.2.2.2.1,UT.2.2.2.2.1)) KS18)) aF) aF) (al (iX (Ah.1,aS,Ah.2.1,Ah.2.2.1,Ah.2.2.2.1,Ah.2.2.2.2.1,Ah.2.2.2.2.2.1,Ah.2.2.2.2.2.2.1,UT.2.1,UT.2.2.1,UT.2.2.2.1,UT.2.2.2.2.1)) KS18)) aF) aF) (al (iX (Ah.1,aS,Ah.2.1,Ah.2.2.1,Ah.2.2.2.1,Ah.2.2.2.2.1,Ah.2.2.2.2.2.1,Ah.2.2.2.2.2.2.1,UT.2.1,UT.2.2.1,UT.2.2.2.1,UT.2.2.2.2.1)) KS18)) aF) aF) (al (iX (Ah.1,aS,Ah.2.1,Ah.2.2.1,Ah.2.2.2.1,Ah.2.2.2.2.1,Ah.2.2.2.2.2.1,Ah.2.2.2.2.2.2.1,UT.2.1,UT.2.2.1,UT.2.2.2.1,UT.2.2.2.2.1)) KS18)) aF) aF) (al (iX (Ah.1,aS,Ah.2.1,Ah.2.2.1,Ah.2.2.2.1,Ah.2.2.2.2.1,Ah.2.2.2.2.2.1,Ah.2.2.2.2.2.2.1,UT.2.1,UT.2.2.1,UT.2.2.2.1,UT.2.2.2.2.1)) KS18)) λpz=>Xs (λ(KS19:rj->Option R)=>xS (jE (pz.2.2.2.2.2.2.2.1,pz.2.2.2.2.2.2.2.2.1,pz.2.2.2.2.2.2.2.2.2.1,pz.2.2.2.2.2.2.2.2.2.2.1,pz.2.2.2.2.2.2.2.2.2.2.2)) λanu=>aG (AP anu.1 (13:Int)) (al (tid.call pz.2.2.2.2.1) λaV0=>al (QB.call (aV0,anu.2.1,anu.2.2.1,anu.2.2.2.1,anu.2.2.2.2)) λanv=>aG (anv.1) (xS (jE (pz.2.2.2.2.2.2.1,anv.2.1,anv.2.2.1,anv.2.2.2.1,anv.2.2.2.2)) λanw=>aG (AP anw.1 (0:Int)) (al (tid.call pz.2.2.2.1) λaV1=>al (QB.call (aV1,anw.2.1,anw.2.2.1,anw.2.2.2.1,anw.2.2.2.2)) λanx=>aG (!anx.1) (al (tid.call pz.2.2.2.2.1) λaV2=>al (QB.call (aV2,anx.2.1,anx.2.2.1,anx.2.2.2.1,anx.2.2.2.2)) λanz=>aG (!anz.1) (al (tid.call pz.2.2.2.2.2.1) λaV3=>al (QB.call (aV3,anz.2.1,anz.2.2.1,anz.2.2.2.1,anz.2.2.2.2)) λanA=>aG (anA.1) (al (wK.call (anA.2.1,anA.2.2.1,anA.2.2.2.1,anA.2.2.2.2)) λaKL=>al (ig (pz.1,pz.2.1,(AP ((aKL.1:Nat):Int) (2:Int)),pz.2.2.1,pz.2.2.2.2.2.2.1,aKL.2.1,aKL.2.2.1,aKL.2.2.2.1,aKL.2.2.2.2.1)) KS19) (al (ig (pz.1,pz.2.1,aS,pz.2.2.1,pz.2.2.2.2.2.2.1,anA.2.1,anA.2.2.1,anA.2.2.2.1,anA.2.2.2.2)) KS19)) (al (ig (pz.1,pz.2.1,aS,pz.2.2.1,pz.2.2.2.2.2.2.1,anz.2.1,anz.2.2.1,anz.2.2.2.1,anz.2.2.2.2)) KS19)) (al (ig (pz.1,pz.2.1,aS,pz.2.2.1,pz.2.2.2.2.2.2.1,anx.2.1,anx.2.2.1,anx.2.2.2.1,anx.2.2.2.2)) KS19)) (al (ig (pz.1,pz.2.1,aS,pz.2.2.1,pz.2.2.2.2.2.2.1,anw.2.1,anw.2.2.1,anw.2.2.2.1,anw.2.2.2.2)) KS19)) (al (ig (pz.1,pz.2.1,aS,pz.2.2.1,pz.2.2.2.2.2.2.1,anv.2.1,anv.2.2.1,anv.2.2.2.1,anv.2.2.2.2)) KS19)) (al (ig (pz.1,pz.2.1,aS,pz.2.2.1,pz.2.2.2.2.2.2.1,anu.2.1,anu.2.2.1,anu.2.2.2.1,anu.2.2.2.2)) KS19)) λUS=>al (tid.call US.2.2.2.2.1) λaV4=>al (agr.call (aV4,US.2.2.2.2.2.1,US.2.2.2.2.2.2.1,US.2.2.2.2.2.2.2.1,US.2.2.2.2.2.2.2.2)) λasA=>al (oF [((1000:Int),(US.2.2.2.1,()))]) λaRy=>aG aRy.isLeft (al aRy.getLeft? λaXk=>aF) (al aRy.getRight? λaPk=>al (QJ ((2:Int),asA.2.2.1,asA.2.2.2.1,asA.2.2.2.2.1,asA.2.2.2.2.2,0,aPk.1,aPk.2)) λaRz=>aG aRz.isLeft (al aRz.getLeft? λay9=>aG (US.1) (aG (US.2.1) (aG (US.2.2.1) (aG (asA.2.1) (aG (AP asA.1 (176:Int)) (al (wK.call (ay9.2.1,ay9.1.1,ay9.1.2.1,ay9.1.2.2)) λaKM=>aG (AP ((aKM.1:Nat):Int) (1:Int)) (al (tid.call US.2.2.2.2.1) λaV5=>al (QB.call (aV5,aKM.2.1,aKM.2.2.1,aKM.2.2.2.1,aKM.2.2.2.2.1)) λaV6=>k (ei aV6.1)) (k (ei aS))) (k (ei aS))) (k (ei aS))) (k (ei aS))) (k (ei aS))) (k (ei aS))) (al aRz.getRight? λaza=>aG (US.1) (aG (US.2.1) (aG (US.2.2.1) (aG (asA.2.1) (aG (AP asA.1 (176:Int)) (al (wK.call (aza.2.1,aza.2.2.2.2.2.1,aza.2.2.2.2.2.2.1,aza.2.2.2.2.2.2.2)) λaKN=>aG (AP ((aKN.1:Nat):Int) (1:Int)) (al (tid.call US.2.2.2.2.1) λaV7=>al (QB.call (aV7,aKN.2.1,aKN.2.2.1,aKN.2.2.2.1,aKN.2.2.2.2.1)) λaV8=>k (ei aV8.1)) (k (ei aS))) (k (ei aS))) (k (ei aS))) (k (ei aS))) (k (ei aS))) (k (ei aS)))))))) (al aRx.getRight? λaYH=>k (ei aS)))):=cf
section
variable {m:Nat} {row:List bN} {q:ZQ} {C:At}
theorem axS(h:D1 m (1,(row,())) q 0 C []){id:Bs}{b:Bool}(hb:(lU id row).isSome=b):QB.call (id,q,0,C,[])=aj (b,q,0,C,[]):=by have hr:=h.row.2;rw[adh (d:=(id,q,0,C,[])) ⟨hr.some,by show q.2.1.length<=_;have:=hr.1;omega⟩];simp only[bz,alK];rw[h.find id,hb]
theorem aSn(h:D1 m (1,(row,())) q 0 C []){id:Bs}{b:Bool}{f:Int}(hb:(lU id row).isSome=b)(hf:(match lU id row with | some x=>Zl x | none=>0:Int)=f):agr.call (id,q,0,C,[])=aj (f,b,q,0,C,[]):=by have hr:=h.row.2;rw[aIg (d:=(id,q,0,C,[])) ⟨hr.some,by show q.2.1.length<=_;have:=hr.1;omega⟩];simp only[bz,auZ];rw[h.find id,hb];obtain⟨φ,hφ,rfl,_⟩:=h;have:=(aSp hφ id).trans hf;exact congrArg (λz:Int=>(aj (z,b,(1,(row.map φ,())),0,C,[]):Option aIf)) this
theorem aTG(h:D1 m (1,(row,())) q 0 C []):wK.call (q,0,C,[])=aj (row.length,q,0,C,[],q.2.1.map aD1):=by rw[Nj (d:=(q,0,C,[])) h.row.2];simp only[bz,amb];rw[h.len]
theorem au0(h:D1 m (1,(row,())) q 0 C []){bar:List cr}(hb:bar.length<=1000){room:Int}{l:List cR}(hp:iR bar row 100 room [] []=aj l):px.call (room,bar,q,0,C,[])=aj (l.length,q,0,C,[],l):=by have e:iR bar q.2.1 100 room [] []=aj l:=h.pick.trans hp;rw[aiW (d:=(room,bar,q,0,C,[])) ⟨⟨h.row.2,hb,trivial⟩,by show(iR bar q.2.1 100 room [] []).isSome=aL;rw[e];rfl⟩];simp only[bz,alX];rw[e];rfl
end
theorem Uo{t:cR}{o:cr}{x:Int}{id:Bs}(h:aKR t o x id):E5.call (t,t)=aj aL:=by rw[aDU (d:=(t,t)) (aeG h.ok)];simp only[bz,ang,cG]
theorem atW{t:cR}{o:cr}{x:Int}{id:Bs}(h:aKR t o x id):tid.call t=aj id:=(UE (d:=t) h.v).trans (congrArg aj h.asF)
theorem aDk{t:cR}{o:cr}{x:Int}{id:Bs}(hs:anB o x)(h:aKR t o x id):sN.call (o,x,0)=aj t:=(ar4 (d:=(o,x,0)) ⟨hs,rfl⟩).trans (congrArg aj h.is)
theorem aTJ:xx ([],([],((0:Int),()))):=⟨⟨λo ho=>(by cases ho),by show 0<=_;decide,by show 0<=_;decide⟩,λy hy=>(by cases hy),by show(0:Int)<=_;decide⟩
theorem aws:awp:=by
 rintro⟨⟩ _ kk hk;have n1:oF [((1000:Int),(WM,())),((1000:Int),(WM,()))]=aj (.inr (Ze,[])):=by
  refine(aac (alx 2)).trans ?_
  rw[show Qp (ae 2 ((1000:Int),(WM,())))=aj Ze from aHz]
 have n2:oF [((1000:Int),(WM,()))]=aj (.inr (afJ,[])):=by
  refine(aac (alx 1)).trans ?_
  rw[show Qp (ae 1 ((1000:Int),(WM,())))=aj afJ from aHA]
 have q1:ak1.call (gj 7)=aj WM:=(apj (d:=gj 7) trivial).trans (congrArg aj aG3);have aW9:Cs 500 0 Ze []:=aRl.mono (aK _);have q2:pG (1,0,Ze,[])=aj (.inr (0,Ze,[],(1,([],())),0,dq Ze,[])):=TC (d:=(1,0,Ze,[])) aW9;have q3:pG (0,0,Ze,[])=aj (.inl (0,Ze,[])):=TC (d:=(0,0,Ze,[])) aW9;have hC:=aXs;generalize dq Ze=C at q2 hC;have t0:D1 0 (1,([],())) (1,([],())) 0 C []:=D1.nil hC.1 (aPK hC);rw[awr];refine vT (Cz (d:=7) ⟨eG,eG⟩) ?_
 refine vT q1 ?_
 refine vT n1 ?_
 refine ag3 rfl ?_
 refine vT rfl ?_
 refine vT q2 ?_
 refine ag3 rfl ?_
 refine vT rfl ?_
 refine vT (aB0 (d:=1) trivial) ?_
 refine vT q3 ?_
 refine oU rfl ?_
 refine vT rfl ?_
 refine vT (aDk aXc fA) ?_
 refine vT (atW fA) ?_
 refine vT (aDk aXd fB) ?_
 refine vT (aDk aXe fC) ?_
 refine vT (aDk aXf fD) ?_
 refine vT (aDk aXg fF) ?_
 refine abR (λx=>∃q,D1 3 (1,(R3,())) q 0 C []/\x=(aL,WM,uA,uB,uC,uD,uF,q,0,C,[])) (λK hK=> ?_) ?_
 ·refine Zg (t0.Pt fA.v).2 λy hy=> ?_
  obtain⟨y1,rfl,t1⟩:=ay1 0 t0 eG fA.v (by rw[fA.asF];exact aW5) (xA hC) rA (aae fA.asF fA.w ((an5 rfl).trans (cA (Fb hC)))) (by decide+kernel) hy;refine oU rfl ?_
  refine Zg (t1.Pt fB.v).2 λy hy=> ?_
  obtain⟨y2,rfl,t2⟩:=ay1 1 t1 eG fB.v (by rw[fB.asF];exact aVt) (xB hC) rB (aae fB.asF fB.w (aWg hC)) (by decide+kernel) hy;refine oU rfl ?_
  refine Zg (t2.Pt fC.v).2 λy hy=> ?_
  obtain⟨y3,rfl,t3⟩:=ay1 2 t2 eG fC.v (by rw[fC.asF];exact aW6) (xC hC) rC (aae fC.asF fC.w ((an5 (by decide+kernel)).trans (cC (Fb hC)))) (by decide+kernel) hy;have t3:D1 3 (1,(R3,())) y3 0 C []:=t3;refine oU rfl ?_
  refine Zg (t3.Pt fA.v).2 λy hy=> ?_
  obtain rfl:=t3.no eG aYK hy;refine oU rfl ?_
  refine Zg (t3.Pt aTJ).2 λy hy=> ?_
  obtain rfl:=t3.no eG xE hy;refine oU rfl ?_
  refine vT (aDk aXh fN) ?_
  refine Zg (t3.Pt fN.v).2 λy hy=> ?_
  obtain rfl:=t3.no eG (xN hC) hy;refine vT (NI _) ?_
  exact hK _ ⟨y3,t3,rfl⟩
 rintro x ⟨q,t3,rfl⟩;refine vT (au0 t3 (aK _) aYr) ?_
 refine vT (au0 t3 (aK _) aYs) ?_
 refine vT (au0 t3 (by show 1<=_;decide) aYt) ?_
 refine ag3 rfl ?_
 refine ag3 rfl ?_
 refine ag3 rfl ?_
 refine abR (λx=>x=(aL,aL,WM,uA,uB,uC,uD,uF,q,0,C,[])) (λK hK=> ?_) ?_
 ·refine vT ((Zb (d:=uA) fA.v).trans (congrArg aj fA.w)) ?_
  refine oU rfl ?_
  refine oU rfl ?_
  refine oU rfl ?_
  refine vT (Uo fA) ?_
  refine oU rfl ?_
  refine oU rfl ?_
  refine oU rfl ?_
  refine vT (Uo fB) ?_
  refine oU rfl ?_
  refine oU rfl ?_
  refine oU rfl ?_
  refine vT (Uo fC) ?_
  refine oU rfl ?_
  refine oU rfl ?_
  refine oU rfl ?_
  refine vT (Uo fC) ?_
  refine oU rfl ?_
  refine oU rfl ?_
  refine oU rfl ?_
  refine vT (Uo fC) ?_
  refine vT (NJ _) ?_
  exact hK _ rfl
 rintro x rfl;refine abR (λx=>∃q,D1 4 (1,(R4,())) q 0 C []/\x=(aL,aL,aL,WM,uD,q,0,C,[])) (λK hK=> ?_) ?_
 ·refine Zg (t3.Pt fF.v).2 λy hy=> ?_
  obtain rfl:=t3.no eG (xF hC) hy;refine oU rfl ?_
  refine vT (atW fB) ?_
  refine vT (axS t3 (b:=aL) (by decide+kernel)) ?_
  refine oU rfl ?_
  refine Zg (t3.Pt fD.v).2 λy hy=> ?_
  obtain⟨y4,rfl,t4⟩:=ay1 3 t3 eG fD.v (by rw[fD.asF];exact aVu) (xD hC) rD (aae fD.asF fD.w ((an5 (by decide+kernel)).trans (cD (Fb hC)))) (by decide+kernel) hy;have t4:D1 4 (1,(R4,())) y4 0 C []:=t4;refine oU rfl ?_
  refine vT (atW fA) ?_
  refine vT (axS t4 (b:=aS) (by decide+kernel)) ?_
  refine oU rfl ?_
  refine vT (atW fB) ?_
  refine vT (axS t4 (b:=aS) (by decide+kernel)) ?_
  refine oU rfl ?_
  refine vT (atW fC) ?_
  refine vT (axS t4 (b:=aL) (by decide+kernel)) ?_
  refine oU rfl ?_
  refine vT (aTG t4) ?_
  refine vT (NK _) ?_
  exact hK _ ⟨y4,t4,rfl⟩
 rintro x ⟨q4,t4,rfl⟩;refine vT (atW fD) ?_
 refine vT (aSn t4 (b:=aL) (f:=176) (by decide+kernel) (by decide+kernel)) ?_
 refine vT n2 ?_
 refine ag3 rfl ?_
 refine vT rfl ?_
 have b15:Cs 300 0 afJ []:=(VP (alx 1) aHA).1.mono (aK _);have cB:∀o,bV bX o (dq (dq afJ))=bV bX o afJ:=λo=>Qg gV b15.J7.1 ((nQ _).trans (nQ _))
 obtain⟨φ,hφ,rfl,_,i4⟩:=t4;obtain⟨k1,e1⟩:=hφ.aPL (2,oW uC aGH 50) (aC ..);obtain⟨k2,e2⟩:=hφ.aPL (3,oW uD axY 176) (az _ (aC ..));have er:R4.map φ=[aj (k1,oW uC aGH 50),aj (k2,oW uD axY 176)]:=by show [φ (aj (2,oW uC aGH 50)),φ (aj (3,oW uD axY 176))]=_;rw[e1,e2]
 have nL:s5 (R4.map φ):=i4.row;rw[er]at nL;have g0:bV bX o0 afJ=aj (((1000:Int),(WM,())),((0:Int),())):=by unfold afJ AN;rw[dQ];exact if_pos (beq_refl bX o0 rfl)
 have g1:bV bX o1 afJ=aF:=by
  have h:¬Ty.beq bX o1 (ae 32 (0:Int),(((0:Nat):Int),()))=aL:=λe=>absurd (congrArg (λo:cr=>o.2.1) (beq_eq bX _ _ rfl e)) eG
  unfold afJ AN;rw[dQ,if_neg h,nr]
 have c1:eM uC 2 (dq (dq afJ))=(0,5):=fC.no eG eG ((cB _).trans g1);have c2:eM uD 2 (dq (dq afJ))=(176,0):=fD.ck (y:=1000) (g:=0) eG eG eG ⟨eG,eG⟩ ((cB _).trans g0) ((cB _).trans (VQ aVu).2);have bl:QJ (2,(1,(R4.map φ,())),0,C,[],0,afJ,[])=aj (.inr ((0,C,[]),(2,([aj (k2,oW uD axY 176)],())),0,afJ,[],0,dq afJ,[])):=by rw[er];rw[aBU (d:=(2,(1,([aj (k1,oW uC aGH 50),aj (k2,oW uD axY 176)],())),0,C,[],0,afJ,[])) ⟨⟨eG,eG⟩,b15,(k1,oW uC aGH 50),(k2,oW uD axY 176),rfl,⟨fC.v,fC.len⟩,⟨fD.v,fD.len⟩,by show(eM uC 2 (dq (dq afJ))).2≠0;rw[c1];decide,c2⟩];rfl
 have abC:s5 [aj (k2,oW uD axY 176)]:=⟨by show 1<=90;decide,λx hx=>nL.2 x (az _ hx)⟩;refine vT bl ?_
 refine ag3 rfl ?_
 refine vT rfl ?_
 refine oU rfl ?_
 refine oU rfl ?_
 refine oU rfl ?_
 refine oU rfl ?_
 refine oU rfl ?_
 refine vT (Nj (d:=((2,([aj (k2,oW uD axY 176)],())),0,dq afJ,[])) abC) ?_
 refine oU rfl ?_
 refine vT (atW fD) ?_
 refine vT (adh (d:=(axY,(2,([aj (k2,oW uD axY 176)],())),0,dq afJ,[])) ⟨abC.some,by show 1<=_;decide⟩) ?_
 refine hk aL ?_
 rfl
def ajs:=Entry.acj [] Q5 LX LY IH ei
def YS:Unit->Bool->Prop:=aQ9 ajs Q5
theorem ar2:aEw YS LX LY IH:=aPd (abI [] λ_=>cf)
def awt:SG Tryz.prog:=⟨4,qb,ajs,.aW7 (.fn 0 cf aws trivial) (by rfl)⟩
end
theorem aHi{P:Program}{G:pb}{an:Ae}{N:Nat}{fn:Func}{i:Nat}{D X Y:Type}{st:D->AS}{fT:D->Prop}{add:D->Y->X}{Post:D->Y->Prop}{out:X->Out (Exit×AS)}(μ:D->Nat)
  (h:∀d,fT d->∀(kn:AS->Option Unit) (kx:Exit->AS->Option Unit),(∀d',fT d'->μ d' < μ d->(∀y,Post d' y->∃y',Post d y'/\add d' y=add d y')->kn (st d')=aj ())->(∀y e s,Post d y->(out (add d y)).eval=aj (e,s)->kx e s=aj ())->dV P G an N fn i st d kn kx=aj ()):
  aEs P G an N fn i st fT add Post out:=by
 have key:∀M d,fT d->μ d < M->∀k:Exit->AS->Option Unit,(∀y e s,Post d y->(out (add d y)).eval=aj (e,s)->k e s=aj ())->SM P G an N fn i M (st d) k=aj ():=by
  intro M
  induction M with
  |zero=>intro d _ hm;omega
  |succ M ih=>
   intro d hp hm k hk;rw[Cx];refine h d hp _ k (λd' h1 h2 h3=>ih d' h1 au k λy e s h4 h5=> ?_) hk;obtain⟨y',h6,h7⟩:=h3 y h4;rw[h7]at h5;exact hk y' e s h6 h5
 exact λd hp=>⟨μ d+1,key _ d hp (Nat.lt_succ_self _)⟩
theorem qQ(l:List cI):(fX (Ty.AF cv) l:List cI)=l:=List.map_id l
theorem aAZ(l:List anF):(fX (Ty.AF L1) l:List anF)=l:=List.map_id l
theorem Hl(l:List cI):List.all l (Ty.mr cv)=aL:=bQ.2 λ_ _=>rfl
theorem aSc(l:List anF):List.all l (Ty.mr L1)=aL:=bQ.2 λ_ _=>rfl
theorem aOm(row:List bN):List.all (row.map aD1) (Ty.mr DR)=aL:=bQ.2 λx hx=>by obtain⟨y,_,rfl⟩:=eu.1 hx;rfl
theorem aO0(row:List bN):(fX (Ty.AF DR) (row.map aD1):List anF).length=row.length:=(List.length_map (Ty.AF DR)).trans (List.length_map ..)
theorem aO8(row:List bN):(fX (Ty.Ky DR) (row.map aD1):List cR)=row.map Gd:=by
 refine(List.map_map (f:=aD1) (g:=Ty.Ky DR)).trans ?_
 rfl
theorem aTB(row:List bN):∀x∈(fX (Ty.AF DR) (row.map aD1):List anF),∃y∈row,x=((Gd y).1,((Gd y).2.1.length,(Gd y).2.2)):=λx hx=>by obtain⟨z,hz,rfl⟩:=eu.1 hx;obtain⟨y,hy,rfl⟩:=eu.1 hz;exact⟨y,hy,rfl⟩
theorem asc:∀(l:List bN) (S:Nat×Mk×List cR),asO l->(∀t∈S.2.2,gv t=aL)->(∀t∈(l.foldl xJ S).2.2,gv t=aL)/\(l.foldl xJ S).2.2.length=S.2.2.length+l.length
 |[],S,_,h=>⟨h,rfl⟩
 |x::l,S,hl,h=>by
  obtain⟨w,rfl,hw⟩:=hl x aC;have:=asc l (xJ S (aj w)) (λz hz=>hl z (az _ hz)) (λt ht=>by
   rcases bg.1 (show t∈S.2.2++ [w.2.1] from ht) with ht | ht
   ·exact h t ht
   ·rw[aY.1 ht];exact hw.2.1)
  rw[aX,aE];refine⟨this.1,?_⟩;rw[this.2];show(S.2.2++ [w.2.1]).length+l.length=_;rw[ai];show S.2.2.length+1+l.length=_;omega
theorem ayz{bar:List cr}{row:List bN}(hr:s5 row):∀(f:Nat) (room:Int) (pk:Mk) (out l:List cR),iR bar row f room pk out=aj l->(∀t∈out,gv t=aL)->(∀t∈l,gv t=aL)/\l.length<=out.length+90*f
 | 0,_,_,_,_,h,_=>by cases h
 |f+1,room,pk,out,l,h,ho=>by
  rw[iR]at h;split at h
  ·rw[<-bh h];exact⟨ho,au⟩
  ·obtain⟨_,Sn,ZY⟩:=axm (room:=room) (bar:=bar) (pk:=pk) hr;obtain⟨t1,t2⟩:=asc (fY room bar row pk).2.1 (out.length,pk,out) ZY ho;obtain⟨i1,i2⟩:=ayz hr f _ _ _ l h t1;refine⟨i1,?_⟩;have e:(xK (fY room bar row pk).2.1 pk out).2.2.length=out.length+(fY room bar row pk).2.1.length:=t2;rw[e]at i2;have Sn:(fY room bar row pk).2.1.length<=90:=Sn;omega
theorem Nz.mono{m m':Nat}{p:ZQ}{n:Nat}{a:At}{s:List cI}(h:Nz m p n a s)(hm:m<=m'):Nz m' p n a s:=⟨h.row,Nat.le_trans h.len hm,h.akv,h.aVr,h.ord,h.aUu,h.st,h.key⟩
theorem D1.mono{m m':Nat}{p q:ZQ}{n:Nat}{a:At}{s:List cI}(h:D1 m p q n a s)(hm:m<=m'):D1 m' p q n a s:=by obtain⟨φ,h1,h2,h3,h4⟩:=h;exact⟨φ,h1,h2,h3.mono hm,h4.mono hm⟩
theorem D1.step{m:Nat}{p q:ZQ}{n:Nat}{a:At}{s:List cI}{t:cR}(h:D1 m p q n a s)(hm:m < 90)(hv:xx t)(hz:¬sX t=AK){y y':Nh}(hy:mA (t,p,n,a,s) y)(hy':mA (t,q,n,a,s) y'):
  ∃e p' q',y=(e,p',n,a,s)/\y'=(e,q',n,a,s)/\D1 (m+1) p' q' n a s:=by
 by_cases h0:nI t p n a s=0
 ·rcases hy with⟨h1,_⟩ | ⟨_,k,hk,e⟩
  ·exact absurd h0 h1
  ·obtain⟨k',hk',e'⟩:=h.ok h0 hy';exact⟨0,_,_,e,e',h.grow hm hv hz h0 hk hk'⟩
 ·rcases hy with⟨_,e⟩ | ⟨h1,_⟩
  ·exact⟨_,p,q,e,h.no h0 rfl hy',h.mono (Nat.le_succ m)⟩
  ·exact absurd h1 h0
theorem D1.aYz{m:Nat}{p q:ZQ}{n:Nat}{a:At}{s:List cI}(h:D1 m p q n a s):q.2.1.map Gd=p.2.1.map Gd:=by obtain⟨φ,hφ,rfl,_⟩:=h;exact aTH hφ
theorem aC0{row:List bN}(h:s5 row):∀t∈row.map Gd,JM t:=λt ht=>by obtain⟨x,hx,rfl⟩:=eu.1 ht;obtain⟨w,rfl,hw⟩:=h.2 x hx;exact aeG hw.2.1
abbrev zS:=Int×(List (Int×(cR×(Int×((List cr)×Unit)))))×cR×Bool×Int×Nat×(List (cr×fj))×(List cI)×(Int×((List bN)×Unit))×Nat×(List (cr×fj))×(List cI)×(Int×((List bN)×Unit))×Nat×(List (cr×fj))×(List cI)
def oO:zS->AS:=λ(fS,iM,il,head,i,aHu,aTn,apF,aQJ,aus,acz,acA,aQK,aut,acF,acG)=>⟨([bC,.d ti fS,.d (.slice (.pair ti (.pair dz (.pair ti (.pair (.slice bX) .unit))))) iM]++aQ 4 ([.dx dz il,bC,.d .bool head,dP 20,dP 38,dP 41,.d ti i]++aQ 115 [])),[],(bk 20 ([[cO (.pr (.cK (.new 20 1) 0) (.pr (.cg (.new 20 2) 0 [] 0 0 aHu) jL)),cO (.mp bX fh aTn),cO (.vec 95 cv apF)]]++bk 17 ([[cO (.pr (.ptr (.new 38 1) 0 [] 0) (.d (.pair ti (.pair (.slice cd) .unit)) aQJ)),cO (.pr (.cK (.new 38 2) 0) (.pr (.cg (.new 38 3) 0 [] 0 0 aus) jL)),cO (.mp bX fh acz),cO (.vec 95 cv acA)],[],[],[cO (.pr (.ptr (.new 41 1) 0 [] 0) (.d (.pair ti (.pair (.slice cd) .unit)) aQK)),cO (.pr (.cK (.new 41 2) 0) (.pr (.cg (.new 41 3) 0 [] 0 0 aut) jL)),cO (.mp bX fh acF),cO (.vec 95 cv acG)]]++bk 87 [])))⟩
def Fy:Unit->Exit×AS:=λx=>(.ret,⟨(aQ 8 ([.d .bool aS]++aQ 120 [])),[],(ae 129 [])⟩)
abbrev TG:=cR×Bool×(Int×((List bN)×Unit))×Nat×(List (cr×fj))×(List cI)×(Int×((List bN)×Unit))×Nat×(List (cr×fj))×(List cI)
def Fz:TG->Exit×AS:=λ(a,b,c,e,f,g,h,i,j,k)=>(.exit 0,⟨(aQ 7 ([.dx dz a,bC,.d .bool b,bC,dP 38,dP 41]++aQ 116 [])),[],(bk 38 ([[cO (.pr (.ptr (.new 38 1) 0 [] 0) (.d (.pair ti (.pair (.slice cd) .unit)) c)),cO (.pr (.cK (.new 38 2) 0) (.pr (.cg (.new 38 3) 0 [] 0 0 e) jL)),cO (.mp bX fh f),cO (.vec 95 cv g)],[],[],[cO (.pr (.ptr (.new 41 1) 0 [] 0) (.d (.pair ti (.pair (.slice cd) .unit)) h)),cO (.pr (.cK (.new 41 2) 0) (.pr (.cg (.new 41 3) 0 [] 0 0 i) jL)),cO (.mp bX fh j),cO (.vec 95 cv k)]]++bk 87 []))⟩)
abbrev KS:=(Unit)⊕(TG)
abbrev Yn:=(Unit)⊕((cR×Bool×(Int×((List bN)×Unit))×Nat×(List (cr×fj))×(List cI)×(Int×((List bN)×Unit))×Nat×(List (cr×fj))×(List cI)))
def OH:KS->Out (Exit×AS):=λx=> .br x.isLeft (.get x.getLeft? λa=> .ok (Fy a)) (.get x.getRight? λb=> .ok (Fz b))
def yY:zS->Yn->KS:=λ(fS,iM,il,head,i,aHu,aTn,apF,aQJ,aus,acz,acA,aQK,aut,acF,acG) y=>match y with | .inl y=> .inl y | .inr z=> .inr (z)
abbrev Yo:=Int×(List (Int×(cR×(Int×((List cr)×Unit)))))×cR×Bool×Int×Nat×Int×Nat×(List (cr×fj))×(List cI)×(Int×((List bN)×Unit))×Nat×(List (cr×fj))×(List cI)×(Int×((List bN)×Unit))×Nat×(List (cr×fj))×(List cI)×(List anF)
abbrev KV:=Int×(List (Int×(cR×(Int×((List cr)×Unit)))))×cR×Bool×Int×Nat×Int×Int×Nat×(List (cr×fj))×(List cI)×(Int×((List bN)×Unit))×Nat×(List (cr×fj))×(List cI)×(Int×((List bN)×Unit))×Nat×(List (cr×fj))×(List cI)×(List anF)
def OJ:KV->Unit->(Int×(List (Int×(cR×(Int×((List cr)×Unit)))))×cR×Bool×Int×Nat×Int×Nat×(List (cr×fj))×(List cI)×(Int×((List bN)×Unit))×Nat×(List (cr×fj))×(List cI)×(Int×((List bN)×Unit))×Nat×(List (cr×fj))×(List cI)×(List anF)):=λ(C2,Pr,NL,P0,NB,akX,Kg,j,Qj,acw,acx,acB,Qk,acC,acD,acH,Ql,acI,acJ,Kw) y=>(C2,Pr,NL,P0,NB,akX,Kg,Qj,acw,acx,acB,Qk,acC,acD,acH,Ql,acI,acJ,Kw)
abbrev aqM:=(List gX)×Int×(List (Int×(cR×(Int×((List cr)×Unit)))))×cR
def agA:KV->Prop:=λ(_,_,_,_,_,lL,kv,j,_,_,_,_,_,_,_,_,_,_,_,l)=>lL=l.length/\(∃k:Nat,kv=k/\k < l.length)/\(∀x∈l,x.2.1<=64)/\∃m:Nat,j=m/\m<=(nth L1 l kv.toNat).2.1
def Yp:KV->Unit:=λ_=>()
def agy:Yo->Prop:=λ(_,_,_,_,_,lL,kv,_,_,_,_,_,_,_,_,_,_,_,l)=>lL=l.length/\l.length<=1000/\(∀x∈l,x.2.1<=64)/\∃k:Nat,kv=k/\k<=l.length
def aqO:Yo->(Int×(List (Int×(cR×(Int×((List cr)×Unit)))))×cR×Bool×Int×Nat×(List (cr×fj))×(List cI)×(Int×((List bN)×Unit))×Nat×(List (cr×fj))×(List cI)×(Int×((List bN)×Unit))×Nat×(List (cr×fj))×(List cI)):=λ(h,acts,t,hd,i,_,_,n,a,s,p,pn,pa,ps,q,qn,qa,qs,_)=>(h,acts,t,hd,i,n,a,s,p,pn,pa,ps,q,qn,qa,qs)
def yX:zS->Prop:=λ(_,acts,_,hd,i,n,a,s,p,pn,pa,ps,q,qn,qa,qs)=>hd=aL/\acts.length<=12/\(∀x∈acts,xx x.2.1/\¬sX x.2.1=AK)/\(qn=pn/\qa=pa/\qs=ps)/\∃k:Nat,i=k/\k<=acts.length/\D1 k p q pn pa ps/\Cs (300+k) n a s
def wI:zS->Yn->Prop:=λ(_,_,t,hd,_,_,_,_,_,pn,pa,ps,_) y=>∃p' q',D1 12 p' q' pn pa ps/\y= .inr (t,hd,p',pn,pa,ps,q',pn,pa,ps)
def avj:aqM->Prop:=λ(outs,_,acts,t)=>(∀o∈outs,anG o)/\outs.length<=9223372036854775807/\acts.length*96<=140737488351232/\(∀x∈acts,xx x.2.1)/\xx t
def aIU:aqM->Bool:=λ_=>aL
def aqN:=du.acj oO yX yY wI OH
def OI:zS->KS->Prop:=aRa oO yX yY wI
def nB:Ls agy bz aqO:=te (λ(pq,vY,qi,abz,fK,lL,kv,acv,apG,apH,apK,acy,apL,apM,apN,acE,apO,apP,aUc)=>⟨([bC,.d ti pq,.d (.slice (.pair ti (.pair dz (.pair ti (.pair (.slice bX) .unit))))) vY]++aQ 4 ([.dx dz qi,bC,.d .bool abz,dP 20,dP 38,dP 41,.d ti fK,bC,je 80 lL,.d ti kv]++aQ 112 [])),[],(bk 20 ([[cO (.pr (.cK (.new 20 1) 0) (.pr (.cg (.new 20 2) 0 [] 0 0 acv) jL)),cO (.mp bX fh apG),cO (.vec 95 cv apH)]]++bk 17 ([[cO (.pr (.ptr (.new 38 1) 0 [] 0) (.d (.pair ti (.pair (.slice cd) .unit)) apK)),cO (.pr (.cK (.new 38 2) 0) (.pr (.cg (.new 38 3) 0 [] 0 0 acy) jL)),cO (.mp bX fh apL),cO (.vec 95 cv apM)],[],[],[cO (.pr (.ptr (.new 41 1) 0 [] 0) (.d (.pair ti (.pair (.slice cd) .unit)) apN)),cO (.pr (.cK (.new 41 2) 0) (.pr (.cg (.new 41 3) 0 [] 0 0 acE) jL)),cO (.mp bX fh apO),cO (.vec 95 cv apP)]]++bk 38 ([cJ (.vec 26 L1 aUc)]++bk 48 []))))⟩) (λx=>(.exit 2,⟨([bC,.d ti x.1,.d (.slice (.pair ti (.pair dz (.pair ti (.pair (.slice bX) .unit))))) x.2.1]++aQ 4 ([.dx dz x.2.2.1,bC,.d .bool x.2.2.2.1,dP 20,dP 38,dP 41,.d ti x.2.2.2.2.1]++aQ 115 [])),[],(bk 20 ([[cO (.pr (.cK (.new 20 1) 0) (.pr (.cg (.new 20 2) 0 [] 0 0 x.2.2.2.2.2.1) jL)),cO (.mp bX fh x.2.2.2.2.2.2.1),cO (.vec 95 cv x.2.2.2.2.2.2.2.1)]]++bk 17 ([[cO (.pr (.ptr (.new 38 1) 0 [] 0) (.d (.pair ti (.pair (.slice cd) .unit)) x.2.2.2.2.2.2.2.2.1)),cO (.pr (.cK (.new 38 2) 0) (.pr (.cg (.new 38 3) 0 [] 0 0 x.2.2.2.2.2.2.2.2.2.1) jL)),cO (.mp bX fh x.2.2.2.2.2.2.2.2.2.2.1),cO (.vec 95 cv x.2.2.2.2.2.2.2.2.2.2.2.1)],[],[],[cO (.pr (.ptr (.new 41 1) 0 [] 0) (.d (.pair ti (.pair (.slice cd) .unit)) x.2.2.2.2.2.2.2.2.2.2.2.2.1)),cO (.pr (.cK (.new 41 2) 0) (.pr (.cg (.new 41 3) 0 [] 0 0 x.2.2.2.2.2.2.2.2.2.2.2.2.2.1) jL)),cO (.mp bX fh x.2.2.2.2.2.2.2.2.2.2.2.2.2.2.1),cO (.vec 95 cv x.2.2.2.2.2.2.2.2.2.2.2.2.2.2.2)]]++bk 87 [])))⟩))
def sB:Ls agA OJ Yp:=te (λ(C2,Pr,NL,P0,NB,akX,Kg,j,Qj,acw,acx,acB,Qk,acC,acD,acH,Ql,acI,acJ,Kw)=>⟨([bC,.d ti C2,.d (.slice (.pair ti (.pair dz (.pair ti (.pair (.slice bX) .unit))))) Pr]++aQ 4 ([.dx dz NL,bC,.d .bool P0,dP 20,dP 38,dP 41,.d ti NB,bC,je 80 akX,.d ti Kg,.d ti j]++aQ 111 [])),[],(bk 20 ([[cO (.pr (.cK (.new 20 1) 0) (.pr (.cg (.new 20 2) 0 [] 0 0 Qj) jL)),cO (.mp bX fh acw),cO (.vec 95 cv acx)]]++bk 17 ([[cO (.pr (.ptr (.new 38 1) 0 [] 0) (.d (.pair ti (.pair (.slice cd) .unit)) acB)),cO (.pr (.cK (.new 38 2) 0) (.pr (.cg (.new 38 3) 0 [] 0 0 Qk) jL)),cO (.mp bX fh acC),cO (.vec 95 cv acD)],[],[],[cO (.pr (.ptr (.new 41 1) 0 [] 0) (.d (.pair ti (.pair (.slice cd) .unit)) acH)),cO (.pr (.cK (.new 41 2) 0) (.pr (.cg (.new 41 3) 0 [] 0 0 Ql) jL)),cO (.mp bX fh acI),cO (.vec 95 cv acJ)]]++bk 38 ([cJ (.vec 26 L1 Kw)]++bk 48 []))))⟩) (λx=>(.exit 4,⟨([bC,.d ti x.1,.d (.slice (.pair ti (.pair dz (.pair ti (.pair (.slice bX) .unit))))) x.2.1]++aQ 4 ([.dx dz x.2.2.1,bC,.d .bool x.2.2.2.1,dP 20,dP 38,dP 41,.d ti x.2.2.2.2.1,bC,je 80 x.2.2.2.2.2.1,.d ti x.2.2.2.2.2.2.1]++aQ 112 [])),[],(bk 20 ([[cO (.pr (.cK (.new 20 1) 0) (.pr (.cg (.new 20 2) 0 [] 0 0 x.2.2.2.2.2.2.2.1) jL)),cO (.mp bX fh x.2.2.2.2.2.2.2.2.1),cO (.vec 95 cv x.2.2.2.2.2.2.2.2.2.1)]]++bk 17 ([[cO (.pr (.ptr (.new 38 1) 0 [] 0) (.d (.pair ti (.pair (.slice cd) .unit)) x.2.2.2.2.2.2.2.2.2.2.1)),cO (.pr (.cK (.new 38 2) 0) (.pr (.cg (.new 38 3) 0 [] 0 0 x.2.2.2.2.2.2.2.2.2.2.2.1) jL)),cO (.mp bX fh x.2.2.2.2.2.2.2.2.2.2.2.2.1),cO (.vec 95 cv x.2.2.2.2.2.2.2.2.2.2.2.2.2.1)],[],[],[cO (.pr (.ptr (.new 41 1) 0 [] 0) (.d (.pair ti (.pair (.slice cd) .unit)) x.2.2.2.2.2.2.2.2.2.2.2.2.2.2.1)),cO (.pr (.cK (.new 41 2) 0) (.pr (.cg (.new 41 3) 0 [] 0 0 x.2.2.2.2.2.2.2.2.2.2.2.2.2.2.2.1) jL)),cO (.mp bX fh x.2.2.2.2.2.2.2.2.2.2.2.2.2.2.2.2.1),cO (.vec 95 cv x.2.2.2.2.2.2.2.2.2.2.2.2.2.2.2.2.2.1)]]++bk 38 ([cJ (.vec 26 L1 x.2.2.2.2.2.2.2.2.2.2.2.2.2.2.2.2.2.2)]++bk 48 []))))⟩))
def iu:Fs Tryz.prog avj bz aIU:=fu 3 Tryz.f3 (λ(outs,height,acts,t)=>([.d (.slice fJ) outs,.d ti height,.d (.slice (.pair ti (.pair dz (.pair ti (.pair (.slice bX) .unit))))) acts,.d dz t],[])) (λx=>⟨.d .bool x,[],[]⟩) [aj (.slice fJ),aj ti,aj (.slice (.pair ti (.pair dz (.pair ti (.pair (.slice bX) .unit))))),aj dz] [awt,aot,aF0,ayK,aqA,aaX,aqR,aCr,aqI] {bu:=[22,300120],loops:=oI [(10,{aV:=[1,2,7,9,10,11,12,13],sites:=[20,38,41],owns:=[⟨10,[],20,0⟩,⟨11,[],38,0⟩,⟨12,[],41,0⟩]}),(18,{aV:=[1,2,7,9,10,11,12,13,15,16],sites:=[20,38,41,80],owns:=[⟨10,[],20,0⟩,⟨11,[],38,0⟩,⟨12,[],41,0⟩],ZN:=aL}),(21,{aV:=[1,2,7,9,10,11,12,13,15,16,17],sites:=[20,38,41,80],owns:=[⟨10,[],20,0⟩,⟨11,[],38,0⟩,⟨12,[],41,0⟩]})],outs:=oH [(10,{aV:=[7,9,11,12],sites:=[38,41]},{aV:=[8]}),(18,{aV:=[1,2,7,9,10,11,12,13],sites:=[20,38,41]},{aV:=[8]}),(21,{aV:=[1,2,7,9,10,11,12,13,15,16],sites:=[20,38,41,80]},{aV:=[8]})],fE:=pW [(10,aqN),(18,nB.E),(21,sB.E)]}
def Ym:= @dV Tryz.prog (jB iu.G) iu.an 0 Tryz.f3 0 _ oO
abbrev al7:=aEs Tryz.prog (jB iu.G) iu.an 0 Tryz.f3 0 oO yX yY wI OH
theorem agx:aEw OI yX yY wI:=aVK (jC [.d ti,.d (.slice (.pair ti (.pair dz (.pair ti (.pair (.slice bX) .unit))))),.d dz,.d .bool,.d ti,.n,.d (.slice (.pair bX fh)),.d (.slice cv),.d (.pair ti (.pair (.slice cd) .unit)),.n,.d (.slice (.pair bX fh)),.d (.slice cv),.d (.pair ti (.pair (.slice cd) .unit)),.n,.d (.slice (.pair bX fh)),.d (.slice cv)] λ_=>cf)
theorem KT(fS iM il head i aHu aTn apF aQJ aus acz acA aQK aut acF acG)(kn:K2 R)(kx:K3 R):Ym (fS,iM,il,head,i,aHu,aTn,apF,aQJ,aus,acz,acA,aQK,aut,acF,acG) kn kx=aG (fL i (((List.length iM):Nat):Int)) (aG (eE i (((List.length iM):Nat):Int)) (xS (jE ((nth (.pair ti (.pair dz (.pair ti (.pair (.slice bX) .unit)))) iM (ab i)).2.1,aQJ,aus,acz,acA)) λx1=>xS (jE ((nth (.pair ti (.pair dz (.pair ti (.pair (.slice bX) .unit)))) iM (ab i)).2.1,aQK,aut,acF,acG)) λx2=>aG (Cw x1.1 x2.1) (kx (Fy ()).1 (Fy ()).2) (al (xR ((nth (.pair ti (.pair dz (.pair ti (.pair (.slice bX) .unit)))) iM (ab i)).2.1,fS,aHu,aTn,apF)) λx3=>aG x3.isLeft (al x3.getLeft? λaUk=>al (wK.call (x1.2.1,x1.2.2.1,x1.2.2.2.1,x1.2.2.2.2)) λx4=>aG (((List.all aUk.2.2.2 (Ty.mr cv)) && aL) && (((List.all x4.2.2.2.2.1 (Ty.mr cv)) && aL) && (((List.all x2.2.2.2.2 (Ty.mr cv)) && aL) && (((List.all x4.2.2.2.2.2 (Ty.mr DR)) && aL) && aL)))) (al (nB.call (fS,iM,il,head,i,x4.1,(0:Int),aUk.2.1,aUk.2.2.1,(fX (Ty.AF cv) aUk.2.2.2),x4.2.1,x4.2.2.1,x4.2.2.2.1,(fX (Ty.AF cv) x4.2.2.2.2.1),x2.2.1,x2.2.2.1,x2.2.2.2.1,(fX (Ty.AF cv) x2.2.2.2.2),(fX (Ty.AF DR) x4.2.2.2.2.2))) λx5=>kn (oO (x5.1,x5.2.1,x5.2.2.1,x5.2.2.2.1,(bA .i64 x5.2.2.2.2.1 (1:Int)),x5.2.2.2.2.2.1,x5.2.2.2.2.2.2.1,x5.2.2.2.2.2.2.2.1,x5.2.2.2.2.2.2.2.2.1,x5.2.2.2.2.2.2.2.2.2.1,x5.2.2.2.2.2.2.2.2.2.2.1,x5.2.2.2.2.2.2.2.2.2.2.2.1,x5.2.2.2.2.2.2.2.2.2.2.2.2.1,x5.2.2.2.2.2.2.2.2.2.2.2.2.2.1,x5.2.2.2.2.2.2.2.2.2.2.2.2.2.2.1,x5.2.2.2.2.2.2.2.2.2.2.2.2.2.2.2))) aF) (al x3.getRight? λaUl=>al (wK.call (x1.2.1,x1.2.2.1,x1.2.2.2.1,x1.2.2.2.2)) λx6=>aG (((List.all aUl.2.2.2 (Ty.mr cv)) && aL) && (((List.all x6.2.2.2.2.1 (Ty.mr cv)) && aL) && (((List.all x2.2.2.2.2 (Ty.mr cv)) && aL) && (((List.all x6.2.2.2.2.2 (Ty.mr DR)) && aL) && aL)))) (al (nB.call (fS,iM,il,head,i,x6.1,(0:Int),aUl.2.1,aUl.2.2.1,(fX (Ty.AF cv) aUl.2.2.2),x6.2.1,x6.2.2.1,x6.2.2.2.1,(fX (Ty.AF cv) x6.2.2.2.2.1),x2.2.1,x2.2.2.1,x2.2.2.2.1,(fX (Ty.AF cv) x2.2.2.2.2),(fX (Ty.AF DR) x6.2.2.2.2.2))) λx7=>kn (oO (x7.1,x7.2.1,x7.2.2.1,x7.2.2.2.1,(bA .i64 x7.2.2.2.2.1 (1:Int)),x7.2.2.2.2.2.1,x7.2.2.2.2.2.2.1,x7.2.2.2.2.2.2.2.1,x7.2.2.2.2.2.2.2.2.1,x7.2.2.2.2.2.2.2.2.2.1,x7.2.2.2.2.2.2.2.2.2.2.1,x7.2.2.2.2.2.2.2.2.2.2.2.1,x7.2.2.2.2.2.2.2.2.2.2.2.2.1,x7.2.2.2.2.2.2.2.2.2.2.2.2.2.1,x7.2.2.2.2.2.2.2.2.2.2.2.2.2.2.1,x7.2.2.2.2.2.2.2.2.2.2.2.2.2.2.2))) aF))) aF) (kx (Fz (il,head,aQJ,aus,acz,acA,aQK,aut,acF,acG)).1 (Fz (il,head,aQJ,aus,acz,acA,aQK,aut,acF,acG)).2):=cf
theorem agz:nB.RS:=rL [.d ti,.d (.slice (.pair ti (.pair dz (.pair ti (.pair (.slice bX) .unit))))),.d dz,.d .bool,.d ti,.n,.d ti,.n,.d (.slice (.pair bX fh)),.d (.slice cv),.d (.pair ti (.pair (.slice cd) .unit)),.n,.d (.slice (.pair bX fh)),.d (.slice cv),.d (.pair ti (.pair (.slice cd) .unit)),.n,.d (.slice (.pair bX fh)),.d (.slice cv),.d (.slice L1)] nB
theorem KU(pq vY qi abz fK lL kv acv apG apH apK acy apL apM apN acE apO apP aUc)(kn:K2 R)(kx:K3 R):iu.R 1 nB (pq,vY,qi,abz,fK,lL,kv,acv,apG,apH,apK,acy,apL,apM,apN,acE,apO,apP,aUc) kn kx=aG (fL kv ((lL:Nat):Int)) (al (sB.call (pq,vY,qi,abz,fK,lL,kv,0,acv,apG,apH,apK,acy,apL,apM,apN,acE,apO,apP,aUc)) λx1=>aG (((List.all x1.2.2.2.2.2.2.2.2.2.1 (Ty.mr cv)) && aL) && (((List.all x1.2.2.2.2.2.2.2.2.2.2.2.2.2.1 (Ty.mr cv)) && aL) && (((List.all x1.2.2.2.2.2.2.2.2.2.2.2.2.2.2.2.2.2.1 (Ty.mr cv)) && aL) && (((List.all x1.2.2.2.2.2.2.2.2.2.2.2.2.2.2.2.2.2.2 (Ty.mr L1)) && aL) && aL)))) (kn (nB.st (x1.1,x1.2.1,x1.2.2.1,x1.2.2.2.1,x1.2.2.2.2.1,x1.2.2.2.2.2.1,(bA .i64 x1.2.2.2.2.2.2.1 1),x1.2.2.2.2.2.2.2.1,x1.2.2.2.2.2.2.2.2.1,(fX (Ty.AF cv) x1.2.2.2.2.2.2.2.2.2.1),x1.2.2.2.2.2.2.2.2.2.2.1,x1.2.2.2.2.2.2.2.2.2.2.2.1,x1.2.2.2.2.2.2.2.2.2.2.2.2.1,(fX (Ty.AF cv) x1.2.2.2.2.2.2.2.2.2.2.2.2.2.1),x1.2.2.2.2.2.2.2.2.2.2.2.2.2.2.1,x1.2.2.2.2.2.2.2.2.2.2.2.2.2.2.2.1,x1.2.2.2.2.2.2.2.2.2.2.2.2.2.2.2.2.1,(fX (Ty.AF cv) x1.2.2.2.2.2.2.2.2.2.2.2.2.2.2.2.2.2.1),(fX (Ty.AF L1) x1.2.2.2.2.2.2.2.2.2.2.2.2.2.2.2.2.2.2)))) aF) (nB.go kx (pq,vY,qi,abz,fK,acv,apG,apH,apK,acy,apL,apM,apN,acE,apO,apP)):=cf
theorem agB:sB.RS:=rL [.d ti,.d (.slice (.pair ti (.pair dz (.pair ti (.pair (.slice bX) .unit))))),.d dz,.d .bool,.d ti,.n,.d ti,.d ti,.n,.d (.slice (.pair bX fh)),.d (.slice cv),.d (.pair ti (.pair (.slice cd) .unit)),.n,.d (.slice (.pair bX fh)),.d (.slice cv),.d (.pair ti (.pair (.slice cd) .unit)),.n,.d (.slice (.pair bX fh)),.d (.slice cv),.d (.slice L1)] sB
theorem KW(C2 Pr NL P0 NB akX Kg j Qj acw acx acB Qk acC acD acH Ql acI acJ Kw)(kn:K2 R)(kx:K3 R):iu.R 2 sB (C2,Pr,NL,P0,NB,akX,Kg,j,Qj,acw,acx,acB,Qk,acC,acD,acH,Ql,acI,acJ,Kw) kn kx=aG (eE Kg ((akX:Nat):Int)) (aG (decide ((0+(ab Kg)) < (List.length Kw))) (aG (decide ((((0+(ab Kg))*3)+1)=((0+((ab Kg)*3))+1))) (aG (fL j (((nth L1 Kw (0+(ab Kg))).2.1:Nat):Int)) (aG (eE Kg ((akX:Nat):Int)) (aG (decide ((0+(ab Kg)) < (List.length Kw))) (aG (decide ((((0+(ab Kg))*3)+1)=((0+((ab Kg)*3))+1))) (aG (eE j (((nth L1 Kw (0+(ab Kg))).2.1:Nat):Int)) (kn (sB.st (C2,Pr,NL,P0,NB,akX,Kg,(bA .i64 j 1),Qj,acw,acx,acB,Qk,acC,acD,acH,Ql,acI,acJ,Kw))) aF) aF) aF) aF) (sB.go kx (C2,Pr,NL,P0,NB,akX,Kg,Qj,acw,acx,acB,Qk,acC,acD,acH,Ql,acI,acJ,Kw))) aF) aF) aF:=cf
theorem aCa(outs height acts t)(k:K1 R):iu.A (outs,height,acts,t) k=xS (YS ()) λx1=>al (oF outs) λx2=>aG x2.isLeft (al x2.getLeft? λaPn=>aG (dd (0+(List.length acts)) 96) (aG (decide ((0+(List.length acts))<=(List.length ((aJ 0 (ae 0 (0,((([]:List gK),(([]:List gX),(0,()))),(0,(([]:List cr),()))))))++acts)))) (aG (dd ((0+(List.length acts))+1) 96) (aG (decide (0=0/\(0+((0+(List.length acts))+1))<=(List.length ((aJ (0+(List.length acts)) ((aJ 0 (ae 0 (0,((([]:List gK),(([]:List gX),(0,()))),(0,(([]:List cr),()))))))++acts))++ [(0,(t,(0,(([]:List cr),()))))])))) (al (vm.call (outs,(cut ((aJ (0+(List.length acts)) ((aJ 0 (ae 0 (0,((([]:List gK),(([]:List gX),(0,()))),(0,(([]:List cr),()))))))++acts))++ [(0,(t,(0,(([]:List cr),()))))]) 0 ((0+(List.length acts))+1)))) λx3=>aG (!x3) (k (iu.out x1)) (k (iu.out x1))) aF) aF) aF) aF) (al x2.getRight? λaK8=>aG (dd (0+(List.length acts)) 96) (aG (decide ((0+(List.length acts))<=(List.length ((aJ 0 (ae 0 (0,((([]:List gK),(([]:List gX),(0,()))),(0,(([]:List cr),()))))))++acts)))) (aG (dd ((0+(List.length acts))+1) 96) (aG (decide (0=0/\(0+((0+(List.length acts))+1))<=(List.length ((aJ (0+(List.length acts)) ((aJ 0 (ae 0 (0,((([]:List gK),(([]:List gX),(0,()))),(0,(([]:List cr),()))))))++acts))++ [(0,(t,(0,(([]:List cr),()))))])))) (al (vm.call (outs,(cut ((aJ (0+(List.length acts)) ((aJ 0 (ae 0 (0,((([]:List gK),(([]:List gX),(0,()))),(0,(([]:List cr),()))))))++acts))++ [(0,(t,(0,(([]:List cr),()))))]) 0 ((0+(List.length acts))+1)))) λx4=>aG (!x4) (k (iu.out x1)) (al (pG (height,0,aK8.1,aK8.2)) λx5=>aG x5.isLeft (al x5.getLeft? λaV9=>al (pG (height,aV9.1,aV9.2.1,aV9.2.2)) λx6=>aG x6.isLeft (al x6.getLeft? λaY8=>aG (x1) (k (iu.out aL)) (k (iu.out aS))) (al x6.getRight? λaY9=>aG (x1) (k (iu.out aS)) (k (iu.out aS)))) (al x5.getRight? λaRB=>al (pG (height,aRB.1,aRB.2.1,aRB.2.2.1)) λx7=>aG x7.isLeft (al x7.getLeft? λaZa=>aG (x1) (k (iu.out aS)) (k (iu.out aS))) (al x7.getRight? λaRC=>xS (OI (height,acts,t,x1,0,aRC.1,aRC.2.1,aRC.2.2.1,aRB.2.2.2.1,aRB.2.2.2.2.1,aRB.2.2.2.2.2.1,aRB.2.2.2.2.2.2,aRC.2.2.2.1,aRC.2.2.2.2.1,aRC.2.2.2.2.2.1,aRC.2.2.2.2.2.2)) λpS=>aG pS.isLeft (al pS.getLeft? λa17=>k (iu.out aS)) (al pS.getRight? λb18=>aG (b18.2.1) (xS (jE (b18.1,b18.2.2.1,b18.2.2.2.1,b18.2.2.2.2.1,b18.2.2.2.2.2.1)) λaw3=>xS (jE (b18.1,b18.2.2.2.2.2.2.1,b18.2.2.2.2.2.2.2.1,b18.2.2.2.2.2.2.2.2.1,b18.2.2.2.2.2.2.2.2.2)) λaD5=>aG (AP aw3.1 aD5.1) (al (wK.call (aw3.2.1,aw3.2.2.1,aw3.2.2.2.1,aw3.2.2.2.2)) λaPm=>al (wK.call (aD5.2.1,aD5.2.2.1,aD5.2.2.2.1,aD5.2.2.2.2)) λrv=>aG (decide (0=0/\(0+aPm.1)<=(List.length aPm.2.2.2.2.2))) (aG (decide (0=0/\(0+rv.1)<=(List.length rv.2.2.2.2.2))) (al (w5.call ((cut (fX (Ty.Ky DR) aPm.2.2.2.2.2) 0 aPm.1),(cut (fX (Ty.Ky DR) rv.2.2.2.2.2) 0 rv.1))) λaRA=>aG (aRA) (al (px.call (4000,([]:List cr),aPm.2.1,aPm.2.2.1,aPm.2.2.2.1,aPm.2.2.2.2.1)) λJK=>al (px.call (4000,([]:List cr),rv.2.1,rv.2.2.1,rv.2.2.2.1,rv.2.2.2.2.1)) λaUj=>aG (decide (0=0/\(0+JK.1)<=(List.length JK.2.2.2.2.2))) (aG (decide (0=0/\(0+aUj.1)<=(List.length aUj.2.2.2.2.2))) (al (w5.call ((cut JK.2.2.2.2.2 0 JK.1),(cut aUj.2.2.2.2.2 0 aUj.1))) λPk=>k (iu.out Pk)) aF) aF) (k (iu.out aS))) aF) aF) (k (iu.out aS))) (k (iu.out aS))))))) aF) aF) aF) aF):=cf
theorem ama:(iu.kA 2 sB):=by
 refine(iu.nN 2 sB) (λ(_,_,_,_,_,_,kv,j,_,_,_,_,_,_,_,_,_,_,_,l)=>(nth L1 l kv.toNat).2.1 - j.toNat) ?_
 rintro⟨h,acts,t,hd,i,lL,kv,j,n,a,s,p,pn,pa,ps,q,qn,qa,qs,l⟩ ⟨rfl,⟨k,rfl,hk⟩,hl,m,rfl,hm⟩;have hk:k < l.length:=hk;have c1:((k:Int)).toNat=k:=aa k;have hm:m<=(nth L1 l ((k:Int)).toNat).2.1:=hm;rw[c1]at hm;have I5: @LE.le Nat _ (nth L1 l k).2.1 64:=by rw[cj (t:=L1) hk];exact hl _ (aR hk)
 by_cases iB:m < (nth L1 l k).2.1
 ·left;refine⟨(h,acts,t,hd,i,l.length,(k:Int),((m+1:Nat):Int),n,a,s,p,pn,pa,ps,q,qn,qa,qs,l),⟨rfl,⟨k,rfl,hk⟩,hl,m+1,rfl,by rw[c1];exact iB⟩,by simp only[c1,aa];omega,rfl,λkn kx=> ?_⟩;rw[KW,c1,aU,aZ au au,ak,aI hk,ak,aI (show k*3+1=0+k*3+1 by omega),ak,aT au,ak,ak,ak,ak,aZ au au,ak,N.lh au]
 ·right;intro R kn kx;rw[KW,c1,aU,aZ au au,ak,aI hk,ak,aI (show k*3+1=0+k*3+1 by omega),ak,aP au,ao];rfl
theorem al9:(iu.kA 1 nB):=by
 refine(iu.nN 1 nB) (λ(_,_,_,_,_,_,kv,_,_,_,_,_,_,_,_,_,_,_,l)=>l.length - kv.toNat) ?_
 rintro⟨h,acts,t,hd,i,lL,kv,n,a,s,p,pn,pa,ps,q,qn,qa,qs,l⟩ ⟨rfl,hb,hl,k,rfl,hk⟩;have hk:k<=l.length:=hk;have hb:l.length<=1000:=hb;by_cases iB:k < l.length
 ·left;refine⟨(h,acts,t,hd,i,l.length,((k+1:Nat):Int),n,a,s,p,pn,pa,ps,q,qn,qa,qs,l),⟨rfl,hb,hl,k+1,rfl,iB⟩,by simp only[aa];omega,rfl,λkn kx=> ?_⟩;rw[KU,aT au,ak,agB (d:=(h,acts,t,hd,i,l.length,(k:Int),0,n,a,s,p,pn,pa,ps,q,qn,qa,qs,l)) ⟨rfl,⟨k,rfl,iB⟩,hl,0,rfl,aK _⟩];simp only[ah,OJ,Yp];rw[Hl s,Hl ps,Hl qs,aSc l,qQ s,qQ ps,qQ qs,aAZ l,N.lh au];rfl
 ·right;intro R kn kx;rw[KU,aP au,ao];rfl
theorem al8:al7:=by
 refine aHi (λ(_,acts,_,_,i,_)=>acts.length - i.toNat) ?_
 rintro⟨h,acts,t,hd,i,n,a,s,p,pn,pa,ps,q,qn,qa,qs⟩ ⟨rfl,Zm,aOy,⟨rfl,rfl,rfl⟩,k,rfl,hk,hT,hg⟩ kn kx hN hX;have Zm:acts.length<=12:=Zm;have hk:k<=acts.length:=hk;have hg:Cs (300+k) n a s:=hg;have c1:((k:Int)).toNat=k:=aa k;show Ym (h,acts,t,aL,(k:Int),n,a,s,p,qn,qa,qs,q,qn,qa,qs) kn kx=_;by_cases iB:k < acts.length
 case neg=>
  rw[KT,aP au,ao];exact hX (.inr (t,aL,p,qn,qa,qs,q,qn,qa,qs)) _ _ ⟨p,q,hT.mono au,rfl⟩ rfl
 obtain⟨hv,hz⟩:=aOy _ (aR iB);have n1:nth aUg acts k=acts[k]:=cj (t:=aUg) iB;rw[KT,aT au,ak,aZ au au,ak,c1];rw[show nth (.pair ti (.pair dz (.pair ti (.pair (.slice bX) .unit)))) acts k=acts[k] from n1];generalize acts[k].2.1=u at hv hz;refine Zg (hT.Pt hv).1 λy hy=> ?_
 refine Zg (hT.Pt hv).2 λy' hy'=> ?_
 obtain⟨e,p',q',rfl,rfl,hT'⟩:=hT.step au hv hz hy hy';refine ag3 (cz rfl) ?_
 obtain⟨hr,_⟩:=hT'.row;have tx:wK.call (p',qn,qa,qs)=aj (p'.2.1.length,p',qn,qa,qs,p'.2.1.map aD1):=by rw[Nj (d:=(p',qn,qa,qs)) hr];rfl
 have run1:∀(n':Nat) (a':At) (s':List cI),nB.call (h,acts,t,aL,(k:Int),p'.2.1.length,0,n',a',s',p',qn,qa,qs,q',qn,qa,qs,fX (Ty.AF DR) (p'.2.1.map aD1))=aj (h,acts,t,aL,(k:Int),n',a',s',p',qn,qa,qs,q',qn,qa,qs):=λn' a' s'=>by
  rw[agz (d:=(h,acts,t,aL,(k:Int),p'.2.1.length,0,n',a',s',p',qn,qa,qs,q',qn,qa,qs,fX (Ty.AF DR) (p'.2.1.map aD1))) ⟨(aO0 _).symm,Nat.le_trans (vX (aO0 _)) (by have:=hr.1;omega),λx hx=>by
   obtain⟨y,hy,rfl⟩:=aTB _ x hx;obtain⟨w,rfl,hw⟩:=hr.2 y hy;exact(iZ hw.2.1).1.2.2.1,0,rfl,aK _⟩]
  rfl
 have fin:∀(n':Nat) (a':At) (s':List cI),Cs (300+(k+1)) n' a' s'->kn (oO (h,acts,t,aL,((k+1:Nat):Int),n',a',s',p',qn,qa,qs,q',qn,qa,qs))=aj ():=λn' a' s' hg'=>
  hN (h,acts,t,aL,((k+1:Nat):Int),n',a',s',p',qn,qa,qs,q',qn,qa,qs) ⟨rfl,Zm,aOy,⟨rfl,rfl,rfl⟩,k+1,rfl,iB,hT',hg'⟩ (by simp only[aa];omega) λy hy=>⟨y,hy,rfl⟩
 rcases hg.apply (t:=u) (h:=h) au hv with⟨_,ha⟩ | ⟨_,_,ha,aKY⟩
 ·refine vT ha ?_
  refine oU rfl ?_
  refine vT rfl ?_
  refine vT tx ?_
  dsimp only;rw[Hl s,Hl qs,aOm p'.2.1,qQ s,qQ qs];refine oU rfl ?_
  refine vT (run1 n a s) ?_
  dsimp only;rw[N.lh au];exact fin n a s (hg.mono au)
 ·refine vT ha ?_
  refine ag3 rfl ?_
  refine vT rfl ?_
  refine vT tx ?_
  dsimp only;rw[Hl (s.take n++ [stepOf u a]),Hl qs,aOm p'.2.1,qQ (s.take n++ [stepOf u a]),qQ qs];refine oU rfl ?_
  refine vT (run1 (n+1) (jI u h a) (s.take n++ [stepOf u a])) ?_
  dsimp only;rw[N.lh au];exact fin _ _ _ (aKY.mono au)
theorem aCb:iu.Ok:=by
 rintro⟨outs,h,acts,t⟩ ⟨ho,aU4,axR,aGC,aEe⟩;have axR:acts.length*96<=140737488351232:=axR;have aU4:outs.length<=9223372036854775807:=aU4;rw[aCa];refine ar2 (d:=()) trivial ⟨aL,rfl⟩ λy hy=> ?_
 obtain rfl:y=aL:=hy;have e1:((aJ 0 (ae 0 ((0:Int),((([]:List gK),(([]:List gX),((0:Int),()))),((0:Int),(([]:List cr),()))))):List aWc)++acts)=acts:=rfl;simp only[e1,aU,bK];rw[dk au au,dk au au,aI (aB _),aI ⟨trivial,by rw[ai];exact aB _⟩,eF (by rw[ai];rfl)];simp only[ak];have fw:vm.call (outs,acts++ [((0:Int),(t,((0:Int),(([]:List cr),()))))])=aj (MU (outs,acts++ [((0:Int),(t,((0:Int),(([]:List cr),()))))])):=aAb (d:=(outs,acts++ [((0:Int),(t,((0:Int),(([]:List cr),()))))])) ⟨aU4,by rw[ai];show acts.length+1<=_;omega,λx hx=>by
  rcases bg.1 hx with hx | hx
  ·exact aGC x hx
  ·rw[aY.1 hx];exact aEe⟩
 cases hA:Qp outs with
 |none=>
  have nw:oF outs=aj (.inl ()):=by rw[aac ho,hA]
  rw[nw,fw];simp only[ah,ng,ak,ko];cases MU (outs,acts++ [((0:Int),(t,((0:Int),(([]:List cr),()))))]) <;> rfl
 |some A=>
 have nw:oF outs=aj (.inr (A,[])):=by rw[aac ho,hA]
 rw[nw,fw];simp only[ah,dN,ao,cV];cases hf:MU (outs,acts++ [((0:Int),(t,((0:Int),(([]:List cr),()))))]) with
 |false=>rfl
 |true=>
 rw[bY,ao];have aKX:(acts++ [((0:Int),(t,((0:Int),(([]:List cr),()))))]).all JN=aL/\(acts++ [((0:Int),(t,((0:Int),(([]:List cr),()))))]).length<=12:=by simp only[MU,ax,bO]at hf;exact⟨hf.1,hf.2.2.2⟩
 have Zm:acts.length+1<=12:=by have:=aKX.2;rw[ai]at this;exact this
 have aSw:∀x∈acts++ [((0:Int),(t,((0:Int),(([]:List cr),()))))],¬sX x.2.1=AK:=λx hx=>by
  have:=bQ.1 aKX.1 x hx;unfold JN at this;intro e;split at this
  ·cases this
  split at this
  ·cases this
  split at this
  ·cases this
  split at this
  ·rw[e]at this;simp at this
  ·cases this
 have hz:¬sX t=AK:=aSw _ (ld _ (aY.2 rfl));obtain⟨hg,_⟩:=VP ho hA;have g5:Cs 500 0 A []:=hg.mono (aK _);have g3:Cs 300 0 A []:=hg.mono (aK _);by_cases hh:1<=h/\h<=1048576
 case neg=>
  have nl:pG (h,0,A,[])=aj (.inl (0,A,[])):=by rw[TC (d:=(h,0,A,[])) g5];simp only[V3,if_neg hh];rfl
  rw[nl];simp only[ah,ng,ak,ko];rw[nl];simp only[ah,ng,ak,ko];rfl
 have nl:pG (h,0,A,[])=aj (.inr (0,A,[],(h,([],())),0,dq A,[])):=by rw[TC (d:=(h,0,A,[])) g5];simp only[V3,if_pos hh];rfl
 have hC:Cs 300 0 (dq A) []:=g3.canon.1;have hK:afK (dq A):=(apS hA).canon g3;have t0:D1 0 (h,([],())) (h,([],())) 0 (dq A) []:=D1.nil hC hK;rw[nl];simp only[ah,dN,ao,cV];rw[nl];simp only[ah,dN,ao,cV];refine agx (d:=(h,acts,t,aL,0,0,A,[],(h,([],())),0,dq A,[],(h,([],())),0,dq A,[])) ⟨rfl,by show acts.length<=12;omega,λx hx=>⟨aGC x hx,aSw x (ez _ hx)⟩,⟨rfl,rfl,rfl⟩,0,rfl,aK _,t0,g3⟩ ⟨_,_,_,t0.mono (aK _),rfl⟩ λy hy=> ?_
 obtain⟨p,q,hT,rfl⟩:=hy;refine ag3 rfl ?_
 refine vT rfl ?_
 refine oU rfl ?_
 refine Zg (hT.Pt aEe).1 λy hy=> ?_
 refine Zg (hT.Pt aEe).2 λy' hy'=> ?_
 obtain⟨e,p',q',rfl,rfl,hT'⟩:=hT.step eG aEe hz hy hy';refine oU (eU rfl) ?_
 obtain⟨hr,hr'⟩:=hT'.row;have hl:=hr.1;have hl':=hr'.1;have tx:∀ {p:ZQ},s5 p.2.1->wK.call (p,0,dq A,[])=aj (p.2.1.length,p,0,dq A,[],p.2.1.map aD1):=λ {p} hr=>by rw[Nj (d:=(p,0,dq A,[])) hr];rfl
 refine vT (tx hr) ?_
 refine vT (tx hr') ?_
 dsimp only;rw[aI ⟨trivial,by rw[List.length_map];omega⟩,ak,aI ⟨trivial,by rw[List.length_map];omega⟩,ak,aO8 p'.2.1,aO8 q'.2.1,eF (List.length_map ..),eF (List.length_map ..)];refine vT (ad2 (d:=(p'.2.1.map Gd,q'.2.1.map Gd)) ⟨hT'.aYz,by show(p'.2.1.map Gd).length<=_;rw[List.length_map];omega,aC0 hr⟩) ?_
 refine oU rfl ?_
 obtain⟨l,hl⟩:∃l,iR [] p'.2.1 100 4000 [] []=aj l:=by obtain⟨φ,_,_,i1,_⟩:=hT';exact Option.isSome_iff_exists.1 (i1.pick (bar:=[]) (aK _) 4000).2
 have aU6:iR [] q'.2.1 100 4000 [] []=aj l:=hT'.pick.trans hl;obtain⟨k1,k2⟩:=ayz hr 100 4000 [] [] l hl λt ht=>by cases ht
 have pc:∀ {p:ZQ},s5 p.2.1->iR [] p.2.1 100 4000 [] []=aj l->px.call (4000,[],p,0,dq A,[])=aj (l.length,p,0,dq A,[],l):=λ {p} hr hp=>by rw[aiW (d:=(4000,[],p,0,dq A,[])) ⟨⟨hr,aK _,trivial⟩,by show(iR [] p.2.1 100 4000 [] []).isSome=aL;rw[hp];rfl⟩];simp only[alX,hp];rfl
 refine vT (pc hr hl) ?_
 refine vT (pc hr' aU6) ?_
 dsimp only;rw[aI ⟨trivial,au⟩,ak,ak,eF rfl];refine vT (ad2 (d:=(l,l)) ⟨rfl,by have:l.length<=0+90*100:=k2;show l.length<=_;omega,λt ht=>aeG (k1 t ht)⟩) ?_
 rfl
theorem avk:iu.RS:=rE [.d (.slice fJ),.d ti,.d (.slice (.pair ti (.pair dz (.pair ti (.pair (.slice bX) .unit))))),.d dz] iu
def aCc:=iu.fI aCb 3 ⟨.acj al8 cf,⟨.eW al9,⟨.eW ama,trivial⟩⟩⟩
end Go.Ab
end
