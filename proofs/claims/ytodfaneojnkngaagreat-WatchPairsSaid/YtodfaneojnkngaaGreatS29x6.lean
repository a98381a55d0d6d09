/-
  Made short by a program of mine (wip/tools/mini.py).
-/
import Derived.Test.YtodfaneojnkngaaGreatS29x5
set_option linter.unusedVariables false
set_option linter.unusedSimpArgs false
set_option maxRecDepth 100000
set_option synthInstance.maxSize 5000
open List renaming replicate->ab,length->ag,take->aW,drop->bZ
open Int renaming toNat->ae
open Sum renaming getLeft?->dj
open Option renaming some->av,none->aD
open Bool renaming true->aZ,false->aQ
noncomputable section
variable {R:Type}
namespace Go.Ab
open Go.Proofs
def afB:List Int:=ab 32 0
def LW(K af dl:Int):Lk:=([([gX K],(af,(dl,(0,()))))],())
def AW(K af dl:Int):At:=[Iq 0 ((100:Int),(LW K af dl,()))]
def TW(K:Int):dR:=([((afB,((0:Int),())),(((0:Int),(([]:List Sg),((0:Int),()))),()))],([((90:Int),(LW K 0 0,()))],((0:Int),())))
def UW(K:Int):dR:=Zr (TW K) (ae 0) (agD (TW K) 0 [K] 0)
def BW(K h:Int):At:=[((iD (TW K),((0:Int),())),(((90:Int),(LW K 0 0,())),(h,())))]
def KW(K:Int):Prop:=0 < K/\K < 2305843009213688669
theorem aVf(K:Int){af dl:Int}(ha:0<=af/\af<=1048576)(hd:0<=dl/\dl<=1048576):lK (LW K af dl)=aZ:=by have e:lK (LW K af dl)=((wH ([gX K],af,dl,0,()) && aZ) && aZ):=rfl;rw[e,aMb _ _ _ (ea rfl)];simp only[fK,List.all_nil,ab3,PM,aM ha,aM hd,xA]
theorem aWI(K af dl:Int):afE (LW K af dl):=λb hb=>by rw[bp.1 (show b∈ [([gX K],(af,(dl,(0,()))))] from hb)];exact⟨auh (awZ K) aA0,u0⟩
theorem aLt:Sm afB:=⟨cD,λx hx=>by rw[(ot.1 (show x∈ab 32 (0:Int) from hx)).2];exact⟨fg,fg⟩⟩
theorem aRQ(K:Int):iR (TW K)=aZ:=by
 have e2:zh 0 (TW K).2.1=(((tV 0 && (tV 90 && aZ)) && lK (LW K 0 0)) && aZ):=rfl;have e1:FE [] (TW K).1=aZ:=by show FE [] [((afB,((0:Int),())),(((0:Int),(([]:List Sg),((0:Int),()))),()))]=aZ;rw[FE,FE];rfl
 unfold iR;rw[e1,e2,aVf K ⟨fg,fg⟩ ⟨fg,fg⟩];rfl
theorem aYh(K:Int):ng (TW K):=by
 refine⟨⟨λo ho=> ?_,by show 1<=_;decide,by show 1<=_;decide⟩,λx hx=> ?_,by show(0:Int)<=_;decide⟩
 ·rw[bp.1 (show o∈ [((90:Int),(LW K 0 0,()))] from ho)];exact⟨aWI K 0 0,by show 1<=_;decide⟩
 ·rw[bp.1 (show x∈ [((afB,((0:Int),())),(((0:Int),(([]:List Sg),((0:Int),()))),()))] from hx)];exact⟨aLt,⟨λs hs=>(by cases hs),u0⟩,aP _⟩
theorem aUB{K:Int}(hk:KW K):HJ (TW K) 0 0 [K]=aZ:=by unfold HJ;rw[aRQ,aM ⟨fg,by show(0:Int) < ((1:Nat):Int);decide,fg,fg,ea rfl⟩];simp only[sz,List.any_nil,OZ];have:=hk.1;have:=hk.2;rw[aV ak];rfl
theorem BF{K:Int}(hk:KW K):iR (UW K)=aZ/\ng (UW K)/\iD (UW K)=iD (TW K)/\eh (UW K)=eh (TW K)/\iN (UW K)=iN (TW K):=aJ9 (aYh K) (aUB hk) u0
theorem aVl{K:Int}(hk:KW K):eh (UW K)=[(afB,((0:Int),()))]:=by rw[(BF hk).2.2.2.1];unfold eh;rw[if_pos (aRQ K)];rfl
theorem aWJ{K:Int}(hk:KW K):iN (UW K)=[(iD (TW K),((0:Int),()))]:=by rw[(BF hk).2.2.2.2];unfold iN;rw[if_pos (aRQ K)];rfl
theorem aZo(K:Int):(UW K).1=[((afB,((0:Int),())),(((((0:Nat):Int),([K].map (λk=>nH k (iD (TW K))),((0:Int),())))),()))]:=rfl
theorem aWQ{K:Int}(hk:KW K)(af dl:Int)(ha:0<=af/\af<=1048576)(hd:0<=dl/\dl<=1048576)(m:List Int)(h a:Int):
  zG (LW K af dl) (((0:Nat):Int),([K].map (λk=>nH k m),((0:Int),()))) m h a=if h < af\/a < dl then 11 else 0:=
 (aN5 (l:=LW K af dl) (i:=0) (b:=([K].map gX,af,dl,0,())) (aVf K ha hd) (by show 0 < 1;decide) rfl _ _ _ _ _).trans (alA [K] (aUp hk) af dl 0 0 m h a (.inl rfl))
theorem gW(K af dl:Int):bW bh (afB,((0:Int),())) (AW K af dl)=av (((100:Int),(LW K af dl,())),((0:Int),())):=by unfold AW Iq;rw[fX];exact if_pos ((tS _ _).2 rfl)
theorem nW(K af dl:Int)(m:List Int)(hm:¬m=afB):bW bh (m,((0:Int),())) (AW K af dl)=aD:=by unfold AW Iq;rw[fX,if_neg,rF];intro e;have:=(tS _ _).1 e;exact hm (bu (λo:bJ=>o.1) this)
theorem aUj{h:Int}{m:List Int}{a:At}{x:iF}{c:eV}(hg:bW bh x.1 a=av c):yL h m a [x] 0=if zG c.1.2.1 x.2.1 m h (h - c.2.1)≠0 then .inl (zG c.1.2.1 x.2.1 m h (h - c.2.1)) else .inr (0+c.1.1):=by simp only[yL,hg]
theorem aYq{K:Int}(hk:KW K)(il:¬iD (TW K)=afB){af dl h:Int}(ha:0<=af/\af<=1048576)(hd:0<=dl/\dl<=1048576)(h1:1<=h)(h2:h<=1048576):fu (UW K) h (AW K af dl)=if h < af\/h < dl then(0,11) else(10,0):=by
 have aXT:=aWJ hk;have akR:=aZo K;have dr:=(BF hk).2.2.1;have dF:=aWQ hk af dl ha hd;generalize iD (TW K)=m at il aXT akR dr;unfold fu;rw[if_pos ⟨(BF hk).1,h1,h2⟩,akR,dr];have e0:h - ((0:Int))=h:=ak;have e:yL h m (AW K af dl) [((afB,((0:Int),())),(((((0:Nat):Int),([K].map (λk=>nH k m),((0:Int),())))),()))] 0=if h < af\/h < dl then .inl 11 else .inr 100:=by
  refine(aUj (gW K af dl)).trans ?_
  show(if zG (LW K af dl) (((0:Nat):Int),([K].map (λk=>nH k m),((0:Int),()))) m h (h - 0)≠0 then(.inl (zG (LW K af dl) (((0:Nat):Int),([K].map (λk=>nH k m),((0:Int),()))) m h (h - 0)):Int⊕Int) else .inr (0+100))=_;rw[e0,dF];by_cases hh:h < af\/h < dl
  ·rw[if_pos hh,if_pos hh,if_pos fg]
  ·rw[if_neg hh,if_neg hh,if_neg (λe=>e rfl)];rfl
 rw[e,aXT];by_cases hh:h < af\/h < dl
 ·rw[if_pos hh,if_pos hh]
 ·rw[if_neg hh,if_neg hh];have n1:([(m,((0:Int),()))]:List bJ).any (rz (AW K af dl))=aQ:=by simp only[sz,List.any_nil,rz,nW K af dl m il,Option.isSome_none,Bool.or_false]
  simp only[n1,bw,bA];rfl
theorem aYn{K:Int}(hk:KW K)(af dl h:Int):fW (UW K) h (AW K af dl)=BW K h:=by
 unfold fW BW;rw[aVl hk,aWJ hk];generalize iD (TW K)=m;have e:An [(afB,((0:Int),()))] (AW K af dl)=[]:=by exact aoG
 rw[e];rfl
theorem aYe{K:Int}(hk:KW K)(af dl:Int):stepOf (UW K) (AW K af dl)=([((afB,((0:Int),())),((((100:Int),(LW K af dl,())),((0:Int),())),()))],([(iD (TW K),((0:Int),()))],())):=by unfold stepOf;rw[aVl hk,aWJ hk];rw[aAA (gW K af dl)]
theorem aZD{K:Int}(hk:KW K)(af dl h:Int):y8 (BW K h) (stepOf (UW K) (AW K af dl))=AW K af dl:=by
 rw[aYe hk];unfold y8 BW;generalize iD (TW K)=m;have e:An [(m,((0:Int),()))] [((m,((0:Int),())),(((90:Int),(LW K 0 0,())),(h,())))]=[]:=by exact aoG
 rw[e];rfl
theorem aXy(K:Int){af dl:Int}(ha:0<=af/\af<=1048576)(hd:0<=dl/\dl<=1048576):Ff 0 0 (AW K af dl) []:=by refine⟨⟨dm.2 ⟨λh=>(by cases h),gM⟩,λp hp=> ?_⟩,ay _,ay _,λst h=>(by cases h),by show(100+0:Int)<=_;decide,by show 1<=_;decide⟩;rw[bp.1 (show p∈ [Iq 0 ((100:Int),(LW K af dl,()))] from hp)];exact⟨aLt,aVf K ha hd,aWI K af dl,by show(0:Int)<=100;decide,by show(100:Int)<=_;decide,ji 0,by show(0:Int)<=_;decide⟩
theorem aWM(K:Int){af dl:Int}(ha:0<=af/\af<=1048576)(hd:0<=dl/\dl<=1048576):GA [((100:Int),(LW K af dl,()))]=av (.inr (AW K af dl,[],[])):=by
 have e:alu [((100:Int),(LW K af dl,()))]=av (AW K af dl):=by
  unfold alu;rw[if_pos (ea rfl)];have e0:Hp 0 ((100:Int),(LW K af dl,()))=aZ:=by unfold Hp;rw[aVf K ha hd];rfl
  rw[Y0,e0];rfl
 rw[ahu (d:=[((100:Int),(LW K af dl,()))]) (λo ho=>by
  rw[bp.1 ho];exact⟨aWI K af dl,by show 1<=_;decide,by show(100:Int)<=_;decide⟩)]
 simp only[LV,e];rfl
theorem aUA{K:Int}(hk:KW K):wT.call (TW K,0,0,[K],0)=av (UW K,0):=by rw[aDG (d:=(TW K,0,0,[K],0)) ⟨aYh K,λx hx=>by rw[bp.1 hx];have:=hk.1;have:=hk.2;exact⟨ak,ak⟩,by show 1<=1000000000;decide⟩];simp only[bC,amI,aJ8,aUB hk,bM];rfl
def Bw(h:Int)(p:Bs)(l:List dR)(fill:Int):dz:=(h,(p,(l,(fill,([],())))))
theorem ajD{h:Int}{p:Bs}{l:List dR}{fill:Int}(hh:h<=1048576)(hp:p.length=32)(hf:0<=fill/\fill<=10)(hl:l.length<=1)(hv:∀t∈l,ng t/\iR t=aZ):YN (Bw h p l fill)/\aqg (Bw h p l fill)=Bw h p l fill:=by have hb:awQ (Bw h p l fill):=⟨⟨by show l.length<=_;omega,λt ht=>(hv t ht).1⟩,⟨by show h<=_;omega,hp,by show fill<=_;omega⟩,aP _,λo ho=>(by cases ho)⟩;exact⟨⟨hb,by show l.length<=_;omega,λt ht=>jb (kk (hv t ht).2).1.2.1 fg⟩,alF hb λt ht=>(hv t ht).2⟩
theorem aTg{x:bJ×eV}:jF [x]=[x]:=List.perm_singleton.1 (yE [x])
theorem aZH{K:Int}(hk:KW K):HZ (UW K)=36:=by unfold HZ;rw[if_pos (BF hk).1];rfl
theorem aVA(h:Int)(p:Bs)(l:List dR)(fill:Int)(t:dR):ay1 (Bw h p l fill) t=aQ:=by unfold ay1;rw[jW];intro x _ e;cases e
theorem aUs{h:Int}{p:Bs}{fill:Int}{a:At}(h1:1<=h)(h2:h<=1048576)(hf:0<=fill/\fill<=10):uL (Bw h p [] fill) a=(0,0):=by
 have f1:JM h fill=aZ:=by unfold JM;exact aM ⟨h1,h2,ak,ak⟩
 have w1:aSD (Bw h p [] fill)=fill:=rfl;unfold uL;rw[if_pos (show JM (Bw h p [] fill).1 (Bw h p [] fill).2.2.2.1=aZ from f1),w1,if_neg ak];rfl
theorem aUt{K:Int}(hk:KW K){h:Int}{p:Bs}{fill:Int}{x:bJ×eV}(h1:1<=h)(h2:h<=1048576)(hf:0<=fill/\fill<=10):uL (Bw h p [UW K] fill) [x]=fu (UW K) h [x]:=by
 have f1:JM h fill=aZ:=by unfold JM;exact aM ⟨h1,h2,ak,ak⟩
 have w1:aSD (Bw h p [UW K] fill)=fill+HZ (UW K):=rfl;unfold uL;rw[if_pos (show JM (Bw h p [UW K] fill).1 (Bw h p [UW K] fill).2.2.2.1=aZ from f1),w1,aZH hk,if_neg ak];show(T7 (Bw h p [UW K] fill) h [UW K] [x]).2=_;unfold T7;rw[aTg,CN,aVA];simp only[bw,bA];by_cases hc:(fu (UW K) h [x]).2=0
 ·rw[if_neg (λe=>e hc),CN];exact Prod.ext (by show(0:Int)+_=_;omega) hc.symm
 ·rw[if_pos hc];exact Prod.ext (ate hc).symm rfl
theorem aLH{h:Int}{p:Bs}{fill:Int}{nb:Nat}{S:aEp}{bs:List dz}(hp:p=sV nb bs)(hh:h=(nb:Int)+1)(h2:h<=1048576)(hl:p.length=32)(hf:0<=fill/\fill<=10):na (Bw h p [] fill) nb S bs=(0,nb+1,S.1,S.2.1,S.2.2,bs.take nb++ [Bw h p [] fill]):=by have e:=(ajD (l:=[]) h2 hl hf fg (λt ht=>(by cases ht))).2;unfold na;rw[if_pos (show(Bw h p [] fill).2.1=sV nb bs/\(Bw h p [] fill).1=(nb:Int)+1 from⟨hp,hh⟩),aUs ak h2 hf,if_pos rfl,e];rfl
theorem aVu{K:Int}(hk:KW K){h:Int}{p:Bs}{fill:Int}{nb n:Nat}{x:bJ×eV}{s:List cG}{bs:List dz}(hp:p=sV nb bs)(hh:h=(nb:Int)+1)(h2:h<=1048576)(hl:p.length=32)(hf:0<=fill/\fill<=10):na (Bw h p [UW K] fill) nb (n,[x],s) bs=
  if(fu (UW K) h [x]).2=0 then(0,nb+1,n+1,fW (UW K) h [x],s.take n++ [stepOf (UW K) [x]],bs.take nb++ [Bw h p [UW K] fill]) else((fu (UW K) h [x]).2,nb,n,[x],s,bs):=by
 have e:=(ajD (l:=[UW K]) h2 hl hf (by show 1<=1;decide) (λt ht=>by rw[bp.1 ht];exact⟨(BF hk).2.1,(BF hk).1⟩)).2;unfold na;rw[if_pos (show(Bw h p [UW K] fill).2.1=sV nb bs/\(Bw h p [UW K] fill).1=(nb:Int)+1 from⟨hp,hh⟩),aUt hk ak h2 hf,e];by_cases hc:(fu (UW K) h [x]).2=0
 ·rw[if_pos hc,if_pos hc];have eb:azr (Bw h p [UW K] fill) (n,[x],s)=ann h (n,[x],s) (UW K):=rfl;rw[eb];unfold ann;rw[if_neg (λe=>e hc)]
 ·rw[if_neg hc,if_neg hc]
theorem aMm{n nb:Nat}{a:At}{s:List cG}{bs:List dz}(h:asg nb bs):Nl.call (nb,n,a,s,bs)=av ((nb,n,a,s,bs),sV nb bs):=ahA (d:=(nb,n,a,s,bs)) h
theorem aaR{n nb:Nat}{a:At}{s:List cG}{bs:List dz}:pY.call (nb,n,a,s,bs)=av ((nb,n,a,s,bs),(nb:Int)):=Gz (d:=(nb,n,a,s,bs)) trivial
theorem Df(b:dz):(asP b).length=32:=(amm _ _).1
theorem CG(nb:Nat)(bs:List dz):(sV nb bs).length=32:=by
 unfold sV;split
 ·exact cD
 ·exact Df _
theorem aMh{nb:Nat}{bs:List dz}{b:dz}(h:asg nb bs)(hn:nb<=1000)(hb:awQ b):asg (nb+1) (bs.take nb++ [b]):=by
 have h1:nb<=bs.length:=h.1;refine⟨by rw[ai,bB];show nb+1<=min nb bs.length+1;omega,ak,λx hx=> ?_⟩;rcases bD.1 hx with hx | hx
 ·exact h.2.2 x (fO hx)
 ·rw[bp.1 hx];exact hb
theorem aYf{K:Int}(hk:KW K){h:Int}{p:Bs}{fill:Int}(hh:h<=1048576)(hp:p.length=32)(hf:0<=fill/\fill<=10):YN (Bw h p [UW K] fill):=(ajD hh hp hf (by show 1<=1;decide) (λt ht=>by rw[bp.1 ht];exact⟨(BF hk).2.1,(BF hk).1⟩)).1
theorem aVF{h:Int}{p:Bs}{fill:Int}(hh:h<=1048576)(hp:p.length=32)(hf:0<=fill/\fill<=10):YN (Bw h p [] fill):=(ajD hh hp hf fg (λt ht=>(by cases ht))).1
theorem aZz{K:Int}(hk:KW K)(af dl:Int):ajt (stepOf (UW K) (AW K af dl)):=by rw[aYe hk];exact⟨by show 1<=_;decide,by show 1<=_;decide⟩
theorem aZp:¬iD (TW 7)=afB:=aWL
theorem aPx:(0:Int)<=0/\(0:Int)<=1048576:=⟨fg,fg⟩
theorem aLx:(0:Int)<=0/\(0:Int)<=10:=⟨fg,fg⟩
def sW(K:Int):cG:=stepOf (UW K) (AW K 0 0)
theorem aVC{b c:dz}(hb:awQ b)(hc:awQ c):asg 2 [b,c]:=⟨ay _,fg,λx hx=>by
 rcases cv.1 hx with rfl | hx
 ·exact hb
 ·rw[bp.1 hx];exact hc⟩
theorem aYp{K:Int}(hk:KW K)(il:¬iD (TW K)=afB)(h:Int)(h1:1<=h)(h2:h<=1048576):fu (UW K) h (AW K 0 0)=(10,0):=by rw[aYq hk il aPx aPx h1 h2,if_neg ak]
theorem aXx{K:Int}(hk:KW K)(il:¬iD (TW K)=afB){h:Int}{p:Bs}{nb n:Nat}{s:List cG}{bs:List dz}(hp:p=sV nb bs)(hh:h=(nb:Int)+1)(h2:h<=1048576)(hl:p.length=32):na (Bw h p [UW K] 0) nb (n,AW K 0 0,s) bs=(0,nb+1,n+1,BW K h,s.take n++ [sW K],bs.take nb++ [Bw h p [UW K] 0]):=by have e:=aVu hk (h:=h) (p:=p) (fill:=0) (nb:=nb) (n:=n) (x:=Iq 0 ((100:Int),(LW K 0 0,()))) (s:=s) (bs:=bs) hp hh h2 hl aLx;rw[show([Iq 0 ((100:Int),(LW K 0 0,()))]:At)=AW K 0 0 from rfl,aYp hk il h ak h2,if_pos rfl,aYn hk]at e;exact e
theorem aZw{K:Int}(hk:KW K):Ff 400 0 (AW K 0 0) [sW K]:=by have h:=aXy K aPx aPx;exact⟨h.Et,aP _,by show 1<=_;decide,λst nA=>by rw[bp.1 nA];exact aZz hk 0 0,h.sum,by show 1<=_;decide⟩
def uo(a a':At):Prop:=∀o,bW bh o a=bW bh o a'
theorem uo.refl(a:At):uo a a:=λ_=>rfl
theorem uo.symm{a b:At}(h:uo a b):uo b a:=λo=>(h o).symm
theorem uo.trans{a b c:At}(h:uo a b)(h':uo b c):uo a c:=λo=>(h o).trans (h' o)
theorem uo.perm{a b:At}(h:uo a b)(ha:(fb a).Nodup)(hb:(fb b).Nodup):a.Perm b:=aPv ha hb h
theorem aGF{a b:At}(hb:(fb b).Nodup)(h:a.Perm b):uo a b:=λo=>aIU hb h o
theorem uo.del{a b:At}(h:uo a b)(ha:(fb a).Nodup)(hb:(fb b).Nodup)(l:List bJ):uo (An l a) (An l b):=λo=>by
 rw[abH o l ha,abH o l hb,h o]
theorem Mu(e:afD)(l:List afD)(a:At):adm (e::l) a=adm l (fj bh e.1 e.2.1 a):=rfl
theorem uo.set{a b:At}(h:uo a b)(o:bJ)(c:eV):uo (fj bh o c a) (fj bh o c b):=λx=>by rw[aAD,aAD,h x]
theorem uo.put:∀(l:List afD) {a b:At},uo a b->uo (adm l a) (adm l b)
 |[],_,_,h=>h
 |e::l,a,b,h=>by rw[Mu,Mu];exact uo.put l (h.set _ _)
theorem adn:∀(l:List afD) {a:At},(fb a).Nodup->(fb (adm l a)).Nodup
 |[],_,h=>h
 |e::l,a,h=>by rw[Mu];exact adn l (PJ h)
theorem ar2{a:At}(h:(fb a).Nodup)(st:cG):(fb (y8 a st)).Nodup:=adn _ (GQ _ h)
theorem uo.aUJ{a b:At}(h:uo a b)(ha:(fb a).Nodup)(hb:(fb b).Nodup)(st:cG):uo (y8 a st) (y8 b st):=uo.put _ (h.del ha hb _)
theorem uo.add(h:Int):∀(l:List bJ) (xs:List iu) {a b:At},uo a b->uo (OY h l xs a) (OY h l xs b)
 |[],[],_,_,e=>e
 |[],_::_,_,_,e=>e
 |_::_,[],_,_,e=>e
 |o::l,x::xs,a,b,e=>by rw[Bv,Bv];exact uo.add h l xs (e.set _ _)
theorem uo.apply{a b:At}(e:uo a b)(ha:(fb a).Nodup)(hb:(fb b).Nodup)(t:dR)(h:Int):uo (fW t h a) (fW t h b):=uo.add h _ _ (e.del ha hb _)
theorem uo.ins{a b:At}(e:uo a b)(h:Int)(id:List Int):∀(l:List iF) (f:Int),yL h id a l f=yL h id b l f
 |[],_=>rfl
 |x::l,f=>by
  simp only[yL,e x.1];cases bW bh x.1 b with
  |none=>rfl
  |some c=>simp only[uo.ins e h id l]
theorem uo.check{a b:At}(e:uo a b)(t:dR)(h:Int):fu t h a=fu t h b:=by
 have e2:rz a=rz b:=funext λo=>by unfold rz;rw[e o]
 unfold fu;rw[e.ins,e2]
theorem aPw(x:bJ):∀(l:List bJ) {a:At} (b:At),(fb a).Nodup->l.Nodup->(∀o∈l,(bW bh o a).isSome=aZ)->bW bh x (adm (wQ a l) b)=if x∈l then bW bh x a else bW bh x b
 |[],a,b,_,_,_=>by rw[if_neg (by simp)];rfl
 |o::l,a,b,hn,hl,ht=>by
  rw[dm]at hl;obtain⟨c,hc⟩:=bR.1 (ht o aK);have ht':∀y∈l,(bW bh y (iO bh o a)).isSome=aZ:=λy hy=>by rw[ao1 y o hn,if_neg (λe=>hl.1 (by rw[<-e];exact hy))];exact ht y (aF _ hy)
  rw[wQ,Mu,aPw x l _ (qk hn) hl.2 ht',ao1 x o hn,hc];by_cases h1:x∈l
  ·have h2:¬x=o:=λe=>hl.1 (by rw[<-e];exact h1)
   rw[if_pos h1,if_neg h2,if_pos (aF _ h1)]
  ·rw[if_neg h1];show bW bh x (fj bh o c b)=_;rw[aAD];by_cases h2:x=o
   ·subst h2;rw[if_pos rfl,if_pos aK,hc]
   ·rw[if_neg h2,if_neg (by simp[h1,h2])]
theorem awB{t:dR}{h pB:Int}{a:At}(hc:wU t h a pB)(ha:(fb a).Nodup):uo (y8 (fW t h a) (stepOf t a)) a:=λo=>by
 unfold y8 stepOf;rw[aPw o (eh t) _ ha (TL t) hc.there];by_cases h1:o∈eh t
 ·rw[if_pos h1]
 ·rw[if_neg h1];show bW bh o (An (iN t) (fW t h a))=_;rw[abH o _ (jc ha)];by_cases h2:o∈iN t
  ·rw[if_pos h2,hc.made o h2]
  ·rw[if_neg h2,QZ ha h1 h2]
section
abbrev am8:=List (dR×Int)
def nv:At->am8->At
 |a,[]=>a
 |a,x::l=>nv (fW x.1 x.2 a) l
def nJ:At->am8->List cG
 |_,[]=> []
 |a,x::l=>stepOf x.1 a::nJ (fW x.1 x.2 a) l
def u6:At->am8->Prop
 |_,[]=>True
 |a,x::l=>(fu x.1 x.2 a).2=0/\ng x.1/\u6 (fW x.1 x.2 a) l
theorem Gn:∀(l l':am8) (a:At),nv a (l++l')=nv (nv a l) l'
 |[],_,_=>rfl
 |x::l,l',a=>Gn l l' (fW x.1 x.2 a)
theorem HM:∀(l l':am8) (a:At),nJ a (l++l')=nJ a l++nJ (nv a l) l'
 |[],_,_=>rfl
 |x::l,l',a=>by show stepOf x.1 a::nJ (fW x.1 x.2 a) (l++l')=_;rw[HM l l'];rfl
theorem aeB:∀(l:am8) (a:At),(nJ a l).length=l.length
 |[],_=>rfl
 |x::l,a=>bu (· +1) (aeB l (fW x.1 x.2 a))
theorem GF:∀(l l':am8) (a:At),u6 a (l++l')↔u6 a l/\u6 (nv a l) l'
 |[],_,_=>⟨λh=>⟨trivial,h⟩,λh=>h.2⟩
 |x::l,l',a=>by have ih:=GF l l' (fW x.1 x.2 a);exact⟨λh=>⟨⟨h.1,h.2.1,(ih.1 h.2.2).1⟩,(ih.1 h.2.2).2⟩,λh=>⟨h.1.1,h.1.2.1,ih.2 ⟨h.1.2.2,h.2⟩⟩⟩
theorem U3:∀ {l:am8} {a:At},u6 a l->∀x∈l,iR x.1=aZ/\ng x.1
 |[],_,_,_,hx=>(by cases hx)
 |x::l,a,h,y,hy=>by
  rcases cv.1 hy with rfl | hy
  ·exact⟨(LU h.1).1,h.2.1⟩
  ·exact U3 h.2.2 y hy
theorem aa2:∀ {l:am8} {a:At},u6 a l->∀st∈nJ a l,ajt st
 |[],_,_,_,hx=>(by cases hx)
 |x::l,a,h,y,hy=>by
  rcases cv.1 hy with rfl | hy
  ·exact arE (Ru h.1)
  ·exact aa2 h.2.2 y hy
theorem aa3:∀(l:am8) {n:Nat} {a:At} {s:List cG},s.length=n->Ff n n a s->u6 a l->Ff (n+l.length) (n+l.length) (nv a l) (s++nJ a l)
 |[],n,a,s,_,hg,_=>by show Ff n n a (s++ []);rw[bm];exact hg
 |x::l,n,a,s,hs,hg,hc=>by have h1:=hg.app (Ru hc.1) hc.2.1;rw[bk ak]at h1;have:=aa3 l (s:=s++ [stepOf x.1 a]) (by rw[ai,hs];rfl) h1 hc.2.2;rw[aI,show n+1+l.length=n+(l.length+1) by omega]at this;exact this
theorem uo.gone:∀(l:List bJ) {a b:At},uo a b->(fb a).Nodup->(fb b).Nodup->wQ a l=wQ b l
 |[],_,_,_,_,_=>rfl
 |o::l,a,b,e,ha,hb=>by rw[wQ,wQ,e o,uo.gone l (a:=iO bh o a) (b:=iO bh o b) (λx=>by rw[ao1 x o ha,ao1 x o hb,e x]) (qk ha) (qk hb)]
theorem uo.step{a b:At}(e:uo a b)(ha:(fb a).Nodup)(hb:(fb b).Nodup)(t:dR):stepOf t a=stepOf t b:=by unfold stepOf;rw[e.gone _ ha hb]
theorem vd:∀(l:am8) {a:At},(fb a).Nodup->(fb (nv a l)).Nodup
 |[],_,h=>h
 |_::l,_,h=>vd l (jc h)
theorem uo.nv:∀(l:am8) {a b:At},uo a b->(fb a).Nodup->(fb b).Nodup->uo (nv a l) (Ab.nv b l)
 |[],_,_,e,_,_=>e
 |_::l,_,_,e,ha,hb=>uo.nv l (e.apply ha hb _ _) (jc ha) (jc hb)
theorem uo.nJ:∀(l:am8) {a b:At},uo a b->(fb a).Nodup->(fb b).Nodup->nJ a l=Ab.nJ b l
 |[],_,_,_,_,_=>rfl
 |x::l,a,b,e,ha,hb=>by show stepOf x.1 a::Ab.nJ (fW x.1 x.2 a) l=stepOf x.1 b::Ab.nJ (fW x.1 x.2 b) l;rw[e.step ha hb,uo.nJ l (e.apply ha hb _ _) (jc ha) (jc hb)]
theorem uo.ats:∀(l:am8) {a b:At},uo a b->(fb a).Nodup->(fb b).Nodup->u6 a l->u6 b l
 |[],_,_,_,_,_,_=>trivial
 |x::l,a,b,e,ha,hb,h=>⟨by rw[<-e.check];exact h.1,h.2.1,uo.ats l (e.apply ha hb _ _) (jc ha) (jc hb) h.2.2⟩
theorem aDi{s q:List cG}{st:cG}{n:Nat}(hn:n<=s.length)(h:s.take n=q++ [st]):n=q.length+1/\nth cR s (n - 1)=st/\s.take (n - 1)=q:=by
 have hl:n=q.length+1:=by have:=bu ag h;rw[bB,ai]at this;simp only[aB,bl]at this;omega
 subst hl;have h1:q.length < s.length:=ak;have e:s.take (q.length+1)=s.take q.length++ [s[q.length]]:=by rw[List.take_add_one,cj h1];rfl
 rw[e]at h;obtain⟨h2,h3⟩:=List.append_inj' h rfl;refine⟨rfl,?_,h2⟩;rw[jC,cg (t:=cR) h1];exact(List.cons.inj h3).1
theorem afi:∀(k:Nat) (l:am8) {a0 a:At} {n:Nat} {s p:List cG},l.length=k->u6 a0 l->(fb a0).Nodup->(fb a).Nodup->uo a (nv a0 l)->n<=s.length->s.take n=p++nJ a0 l->
  ∃a',Gf k (n,a,s)=(aZ,n - k,a',s)/\uo a' a0/\(fb a').Nodup/\s.take (n - k)=p/\k<=n
 | 0,l,a0,a,n,s,p,hl,_,_,ha,he,_,hs=>by obtain rfl:=bK hl;exact⟨a,rfl,he,ha,by rw[show nJ a0 []=[] from rfl,bm]at hs;exact hs,aP _⟩
 |k+1,l,a0,a,n,s,p,hl,hc,h0,ha,he,hn,hs=>by
  have il:l≠ []:=λe=>by rw[e]at hl;cases hl
  have el:=List.dropLast_concat_getLast il;generalize l.getLast il=x at el;generalize hl':l.dropLast=l' at el;have hk:l'.length=k:=by rw[<-hl',List.length_dropLast];omega
  subst el;obtain⟨c1,c2⟩:=(GF l' [x] a0).1 hc;rw[HM,<-aI]at hs;obtain⟨e1,e2,e3⟩:=aDi hn hs;rw[Gn]at he;have hn':=vd l' h0;have e4:uo (y8 a (stepOf x.1 (nv a0 l'))) (nv a0 l'):=(he.aUJ ha (jc hn') _).trans (awB (Ru c2.1) hn');obtain⟨a',f1,f2,f3,f4,f5⟩:=afi k l' (a:=y8 a (stepOf x.1 (nv a0 l'))) (n:=n - 1) (s:=s) (p:=p) hk c1 h0 (ar2 ha _) e4 ak e3;refine⟨a',?_,f2,f3,by rw[show n - (k+1)=n - 1 - k by omega];exact f4,ak⟩;have aNb:¬n=0:=ak;rw[Gf,if_neg (show ¬(n,a,s).1=0 from aNb)];show Gf k (n - 1,y8 a (nth cR s (n - 1)),s)=_;rw[e2,f1,show n - 1 - k=n - (k+1) by omega]
def aKU(b:dz):am8:=b.2.2.1.map λt=>(t,b.1)
def NI(bs:List dz):am8:=bs.flatMap aKU
theorem Mb(l l':List dz):NI (l++l')=NI l++NI l':=List.flatMap_append
theorem Mc(b:dz):NI [b]=aKU b:=bm _
theorem ar3(b:dz)(h:Int):∀(l:List dR) (k fees:Int) (a:At) (x:Int×Int×Int),CN b h l k fees a= .inl x->x.2.2≠0
 |[],_,_,_,_,e=>by rw[CN]at e;cases e
 |t::l,k,fees,a,x,e=>by
  rw[CN]at e;split at e
  ·obtain rfl:=Sum.inl.inj e;show(14:Int)≠0;decide
  ·split at e
   ·rename_i h2;obtain rfl:=Sum.inl.inj e;exact h2
   ·exact ar3 b h l _ _ _ x e
theorem afl(b:dz)(h:Int):∀(l:List dR) (k fees:Int) (a:At) (f:Int),(∀t∈l,ng t)->CN b h l k fees a= .inr f->u6 a (l.map λt=>(t,h))
 |[],_,_,_,_,_,_=>trivial
 |t::l,k,fees,a,f,hv,e=>by
  rw[CN]at e;split at e
  ·cases e
  ·split at e
   ·cases e
   ·rename_i h2;exact⟨Decidable.not_not.1 h2,hv t aK,afl b h l _ _ _ f (λy hy=>hv y (aF _ hy)) e⟩
theorem ahp{a:At}(ha:(fb a).Nodup):uo (jF a) a/\(fb (jF a)).Nodup:=by have hp:=yE a;exact⟨aGF ha hp,(hp.map _).nodup_iff.2 ha⟩
theorem auQ{b:dz}{a:At}(hb:YN b)(ha:(fb a).Nodup)(e:(uL b a).2=0):u6 a (aKU b):=by
 obtain⟨c1,c2⟩:=ahp ha;unfold uL at e;split at e
 ·split at e
  ·cases e
  ·have e:(T7 b b.1 b.2.2.1 a).2.2=0:=e;unfold T7 at e;split at e
   ·rename_i x hx;exact absurd e (ar3 _ _ _ _ _ _ _ hx)
   ·rename_i f hf;exact c1.ats _ c2 ha (afl _ _ _ _ _ _ _ hb.1.1.2 hf)
 ·cases e
theorem ahn(h:Int):∀(l:List dR) {n:Nat} {a:At} {s:List cG},u6 a (l.map λt=>(t,h))->n<=s.length->
  ∃s',l.foldl (ann h) (n,a,s)=(n+l.length,nv a (l.map λt=>(t,h)),s')/\s'.take (n+l.length)=s.take n++nJ a (l.map λt=>(t,h))/\n+l.length<=s'.length/\(s'.length<=s.length\/s'.length<=n+l.length)/\∀st∈s',st∈s\/st∈nJ a (l.map λt=>(t,h))
 |[],n,a,s,_,hn=>⟨s,rfl,(bm _).symm,hn,.inl (ay _),λst h=> .inl h⟩
 |t::l,n,a,s,hc,hn=>by
  obtain⟨c1,c2,c3⟩:=hc;have e:ann h (n,a,s) t=(n+1,fW t h a,s.take n++ [stepOf t a]):=if_neg (λx=>x c1);have hl:(s.take n++ [stepOf t a]).length=n+1:=by rw[ai,bB];simp only[aB,bl];omega
  obtain⟨s',e1,e2,e3,e4,e5⟩:=ahn h l (n:=n+1) (a:=fW t h a) (s:=s.take n++ [stepOf t a]) c3 ak;have en:n+1+l.length=n+(t::l).length:=by rw[aB];omega
  rw[en]at e1 e2 e3 e4;refine⟨s',?_,?_,e3,.inr ak,λst nA=> ?_⟩
  ·rw[bz,e];exact e1
  ·rw[e2,bk ak,aI];rfl
  ·rcases e5 st nA with h1 | h1
   ·rcases bD.1 h1 with h2 | h2
    ·exact .inl (fO h2)
    ·exact .inr (by rw[bp.1 h2];exact aK)
   ·exact .inr (aF _ h1)
structure sh(A0:At)(m nb n:Nat)(a:At)(s:List cG)(bs:List dz):Prop where
 aRt:Ff 0 0 A0 []
 ch:asg nb bs
 ap3:(fb a).Nodup
 aSE:u6 A0 (NI (bs.take nb))
 eqv:uo a (nv A0 (NI (bs.take nb)))
 aKq:s.take n=nJ A0 (NI (bs.take nb))
 le:n<=s.length
 len:s.length<=m
 aUG:∀st∈s,ajt st
section
variable {A0:At} {m nb n:Nat} {a:At} {s:List cG} {bs:List dz}
theorem sh.aXb(h:sh A0 m nb n a s bs){m':Nat}(hm:m<=m'):Ff m' n a s:=by
 have hg:=aa3 (NI (bs.take nb)) (n:=0) (s:=[]) rfl h.aRt h.aSE;have hp:=h.eqv.perm h.ap3 hg.Et.1;have hn:n=(NI (bs.take nb)).length:=by have:=bu ag h.aKq;rw[aeB,bB]at this;have:=h.le;omega
 exact⟨hg.Et.perm hp.symm,h.le,jb h.len hm,h.aUG,by rw[UF hp];exact hg.sum,by rw[hp.length_eq];have:=hg.aUV;have:=h.le;have:=h.len;omega⟩
theorem sh.mono(h:sh A0 m nb n a s bs){m':Nat}(hm:m<=m'):sh A0 m' nb n a s bs:=⟨h.aRt,h.ch,h.ap3,h.aSE,h.eqv,h.aKq,h.le,jb h.len hm,h.aUG⟩
theorem sh.new(h:Ff 0 0 A0 []):sh A0 0 0 0 A0 [] []:=⟨h,⟨ay _,fg,λb hb=>(by cases hb)⟩,h.Et.1,trivial,uo.refl _,rfl,ay _,ay _,λst nA=>(by cases nA)⟩
theorem sh.aWP(h:sh A0 m nb n a s bs){b:dz}(hb:b∈bs.take nb){t:dR}(ht:t∈b.2.2.1):iR t=aZ/\ng t:=U3 h.aSE (t,b.1) (q9.2 ⟨b,hb,df.2 ⟨t,ht,rfl⟩⟩)
theorem sh.pre(h:sh A0 m nb n a s bs){b:dz}(hb:YN b)(hm:m<=400):UX (b,nb,n,a,s,bs):=⟨hb,h.aXb hm,h.ch⟩
theorem sh.aVv(h:sh A0 m nb n a s bs){b:dz}(hb:YN b)(hm:m<=400):Ik.call (b,nb,n,a,s,bs)=av (na b nb (n,a,s) bs):=ahs (d:=(b,nb,n,a,s,bs)) (h.pre hb hm)
theorem sh.add(h:sh A0 m nb n a s bs){b:dz}(hb:YN b){m':Nat}(hm:m+b.2.2.1.length<=m')(aAL:nb<=1000):
  (∃e,e≠0/\na b nb (n,a,s) bs=(e,nb,n,a,s,bs))\/
  ∃n' a' s',na b nb (n,a,s) bs=(0,nb+1,n',a',s',bs.take nb++ [b])/\sh A0 m' (nb+1) n' a' s' (bs.take nb++ [b])/\b.2.1=sV nb bs/\b.1=(nb:Int)+1:=by
 have hle:nb<=bs.length:=h.ch.1;unfold na;by_cases ht:b.2.1=sV nb bs/\b.1=(nb:Int)+1;rotate_left
 ·left;rw[if_neg ht];exact⟨1,fg,rfl⟩
 rw[if_pos ht];by_cases hp:(uL b a).2=0;rotate_left
 ·left;rw[if_neg (show ¬(uL b (n,a,s).2.1).2=0 from hp)];exact⟨_,hp,rfl⟩
 right;have hc:=auQ hb h.ap3 hp;obtain⟨s',e1,e2,e3,e4,e5⟩:=ahn b.1 b.2.2.1 (s:=s) hc h.le;have ho:aqg b=b:=alF hb.1 λt ht=>(U3 hc (t,b.1) (df.2 ⟨t,ht,rfl⟩)).1
 have aYy:azr b (n,a,s)=(n+b.2.2.1.length,nv a (aKU b),s'):=e1;have hlen:(bs.take nb++ [b]).length=nb+1:=by rw[ai,bB];simp only[aB,bl];omega
 have aAO:(bs.take nb++ [b]).take (nb+1)=bs.take nb++ [b]:=bk ak;have hA:=vd (NI (bs.take nb)) h.aRt.Et.1;rw[if_pos (show(uL b (n,a,s).2.1).2=0 from hp),aYy,ho];have hs:=h.len;refine⟨_,_,s',rfl,⟨h.aRt,aMh h.ch aAL hb.1,vd _ h.ap3,?_,?_,?_,e3,by have:=h.le;omega,λst nA=> ?_⟩,ht⟩
 ·rw[aAO,Mb,Mc,GF];exact⟨h.aSE,h.eqv.ats _ h.ap3 hA hc⟩
 ·rw[aAO,Mb,Mc,Gn];exact h.eqv.nv _ h.ap3 hA
 ·rw[aAO,Mb,Mc,HM,<-h.eqv.nJ _ h.ap3 hA,<-h.aKq];exact e2
 ·rcases e5 st nA with h1 | h1
  ·exact h.aUG st h1
  ·exact aa2 hc st h1
theorem sh.back:∀(d:Nat) {nb n:Nat} {a:At},sh A0 m nb n a s bs->d<=nb->∃n' a',yC bs d (nb,n,a,s)=(nb - d,n',a',s)/\sh A0 m (nb - d) n' a' s bs
 | 0,nb,n,a,h,_=>⟨n,a,rfl,h⟩
 |d+1,nb,n,a,h,hd=>by
  obtain⟨p,rfl⟩:∃p,nb=p+1:=⟨nb - 1,ak⟩;have hl:p+1<=bs.length:=h.ch.1;have hp:p < bs.length:=ak;have et:bs.take (p+1)=bs.take p++ [bs[p]]:=by rw[List.take_add_one,cj hp];rfl
  have n1:nth eA bs p=bs[p]:=cg (t:=eA) hp;have hc:=h.aSE;have he:=h.eqv;have hs:=h.aKq;rw[et,Mb,Mc]at hc he hs;obtain⟨c1,c2⟩:=(GF _ _ _).1 hc;rw[Gn]at he;rw[HM]at hs;obtain⟨a',f1,f2,f3,f4,f5⟩:=afi bs[p].2.2.1.length (aKU bs[p]) (cm _) c2 (vd _ h.aRt.Et.1) h.ap3 he h.le hs;have h':sh A0 m p (n - bs[p].2.2.1.length) a' s bs:=⟨h.aRt,⟨ak,by have:=h.ch.2.1;omega,h.ch.2.2⟩,f3,c1,f2,f4,by have:=h.le;omega,h.len,h.aUG⟩;obtain⟨n'',a'',g1,g2⟩:=sh.back d h' ak;refine⟨n'',a'',?_,by rw[show p+1 - (d+1)=p - d by omega];exact g2⟩;rw[yC];show yC bs d (p+1 - 1,(Gf (nth eA bs (p+1 - 1)).2.2.1.length (n,a,s)).2)=_;rw[jC,n1,f1,g1,show p+1 - (d+1)=p - d by omega]
def Wz:List dz->Nat
 |[]=>0
 |b::l=>b.2.2.1.length+Wz l
theorem sh.aQf:∀(l:List dz) {m nb n:Nat} {a:At} {s:List cG} {bs:List dz},sh A0 m nb n a s bs->(∀b∈l,YN b)->m+Wz l<=400->nb+l.length<=1000->
  Z7 l (nb,n,a,s,bs)/\((jN l (nb,n,a,s,bs)).1≠0\/∃n' a' s' bs',jN l (nb,n,a,s,bs)=(0,nb+l.length,n',a',s',bs')/\sh A0 (m+Wz l) (nb+l.length) n' a' s' bs'/\bs'.take (nb+l.length)=bs.take nb++l)
 |[],m,nb,n,a,s,bs,h,_,_,_=>⟨trivial,.inr ⟨n,a,s,bs,rfl,h,(bm _).symm⟩⟩
 |b::l,m,nb,n,a,s,bs,h,hl,hm,hn=>by
  rw[Wz]at hm;rw[aB]at hn;have hb:=hl b aK;have hle:nb<=bs.length:=h.ch.1;have akV:=h.pre hb ak;rcases h.add hb (ay _) ak with⟨e,he,ha⟩ | ⟨n',a',s',ha,h',_,_⟩
  ·refine⟨⟨akV,λh0=> ?_⟩,.inl ?_⟩
   ·have h0:(na b nb (n,a,s) bs).1=0:=h0;rw[ha]at h0;exact absurd h0 he
   ·rw[jN];show(if(na b nb (n,a,s) bs).1≠0 then na b nb (n,a,s) bs else _).1≠0;rw[ha,if_pos he];exact he
  ·obtain⟨i1,i2⟩:=sh.aQf l h' (λx hx=>hl x (aF _ hx)) ak ak;have hlen:(bs.take nb++ [b]).length=nb+1:=by rw[ai,bB];simp only[aB,bl];omega
   have aAO:(bs.take nb++ [b]).take (nb+1)=bs.take nb++ [b]:=bk ak;have ek:jN (b::l) (nb,n,a,s,bs)=jN l (nb+1,n',a',s',bs.take nb++ [b]):=by rw[jN];show(if(na b nb (n,a,s) bs).1≠0 then na b nb (n,a,s) bs else jN l (na b nb (n,a,s) bs).2)=_;rw[ha,if_neg (λe=>e rfl)]
   refine⟨⟨akV,λ_=> ?_⟩,?_⟩
   ·show Z7 l (na b nb (n,a,s) bs).2;rw[ha];exact i1
   ·rw[ek,show nb+(b::l).length=nb+1+l.length by rw[aB];omega,Wz,<-fy];rcases i2 with i2 | ⟨n2,a2,s2,bs2,j1,j2,j3⟩
    ·exact .inl i2
    ·refine .inr ⟨n2,a2,s2,bs2,j1,j2,?_⟩;rw[j3,aAO,aI];rfl
theorem sh.copy(h:sh A0 m nb n a s bs):sh A0 m nb n (jF a) (s.take n) (bs.take nb):=by
 obtain⟨c1,c2⟩:=ahp h.ap3;have hle:nb<=bs.length:=h.ch.1;have e1:(bs.take nb).take nb=bs.take nb:=by rw[fp,Nat.min_self]
 have e2:(s.take n).take n=s.take n:=by rw[fp,Nat.min_self]
 have hl:=h.le;refine⟨h.aRt,⟨by rw[bB];omega,h.ch.2.1,λb hb=>h.ch.2.2 b (fO hb)⟩,c2,by rw[e1];exact h.aSE,by rw[e1];exact c1.trans h.eqv,by rw[e1,e2];exact h.aKq,by rw[bB];omega,by have:=h.len;rw[bB];omega,λst nA=>h.aUG st (fO nA)⟩
theorem sh.aJs(h:sh A0 m nb n a s bs)(d:Int){l:List dz}(hl:∀b∈l,YN b)(hm:m+Wz l<=400)(hn:nb+l.length<=1000):
  (∃e,e≠0/\mc (d,l,nb,n,a,s,bs)=av (.inl (e,nb,n,a,s,bs)))\/
  ∃n' a' s' bs',mc (d,l,nb,n,a,s,bs)=av (.inr (0,nb - d.toNat+l.length,n,a,s,bs,n',a',s',bs'))/\(1<=d/\d<=nb/\d < l.length/\d<=6)/\
   sh A0 (m+Wz l) (nb - d.toNat+l.length) n' a' s' bs'/\bs'.take (nb - d.toNat+l.length)=bs.take (nb - d.toNat)++l:=by
 have key:∀(hd:1<=d/\d<=nb/\d < l.length/\d<=6),∃n1 a1,BH d nb n a s bs=(nb - d.toNat,n1,a1,s.take n,bs.take nb)/\sh A0 m (nb - d.toNat) n1 a1 (s.take n) (bs.take nb):=λhd=>by obtain⟨n1,a1,e1,e2⟩:=sh.back d.toNat h.copy ak;refine⟨n1,a1,?_,e2⟩;unfold BH;rw[e1]
 have akV:yF (d,l,nb,n,a,s,bs):=⟨h.ch,h.aXb ak,by show l.length<=_;omega,λhd=>by
  obtain⟨n1,a1,e1,e2⟩:=key hd;rw[e1];exact(sh.aQf l e2 hl hm ak).1⟩
 have hr:=W6 (d:=(d,l,nb,n,a,s,bs)) akV;by_cases h1:1<=d/\d<=nb/\d < l.length;rotate_left
 ·left;refine⟨1,fg,hr.trans (bu av ?_)⟩;have:jY (d,l,nb,n,a,s,bs)= .inl (1,nb,n,a,s,bs):=if_neg h1;rw[this];rfl
 by_cases h2:d<=6;rotate_left
 ·left;refine⟨25,fg,hr.trans (bu av ?_)⟩;have:jY (d,l,nb,n,a,s,bs)= .inl (25,nb,n,a,s,bs):=(if_pos h1).trans (if_neg h2);rw[this];rfl
 have hd:1<=d/\d<=nb/\d < l.length/\d<=6:=⟨h1.1,h1.2.1,h1.2.2,h2⟩;obtain⟨n1,a1,e1,e2⟩:=key hd
 have hF:jY (d,l,nb,n,a,s,bs)=if(jN l (BH d nb n a s bs)).1≠0 then .inl ((jN l (BH d nb n a s bs)).1,nb,n,a,s,bs)
   else .inr (0,(jN l (BH d nb n a s bs)).2.1,n,a,s,bs,(jN l (BH d nb n a s bs)).2.2):=(if_pos h1).trans (if_pos h2)
 rw[e1]at hF;have etk:(bs.take nb).take (nb - d.toNat)=bs.take (nb - d.toNat):=by rw[fp,eH ak]
 rcases(sh.aQf l e2 hl hm ak).2 with e3 | ⟨n2,a2,s2,bs2,f1,f2,f3⟩
 ·left;refine⟨_,e3,hr.trans (bu av ?_)⟩;rw[hF,if_pos e3];rfl
 ·right;refine⟨n2,a2,s2,bs2,hr.trans (bu av ?_),hd,f2,by rw[f3,etk]⟩;rw[hF,f1,if_neg (λe=>e rfl)];rfl
def zu(o:bJ):List dz->Int->Option (dR×Int)
 |[],_=>aD
 |b::l,i=>match Wr o b.2.2.1 with | some t=>av (t,i+1) | none=>zu o l (i+1)
theorem amo{o:bJ}:∀ {l:List dR} {t:dR},Wr o l=av t->t∈l
 |[],_,e=>by cases e
 |x::l,t,e=>by
  rw[Wr]at e;split at e
  ·rw[<-bn e];exact aK
  ·exact aF _ (amo e)
theorem ai4{o:bJ}:∀ {l:List dz} {i:Int},(∀b∈l,∀t∈b.2.2.1,iR t=aZ/\ng t)->CE o l i=zu o l i
 |[],_,_=>rfl
 |b::l,i,h=>by
  rw[CE,zu];cases e:Wr o b.2.2.1 with
  |none=>exact ai4 λx hx=>h x (aF _ hx)
  |some t=>
   have:=h b aK t (amo e);show av (asq t,i+1)=av (t,i+1);rw[VW this.2 this.1]
theorem av4{o:bJ}:∀ {l:List dz} {i:Int} {x:dR×Int},zu o l i=av x->i+1<=x.2/\x.2<=i+l.length/\∃b∈l,x.1∈b.2.2.1
 |[],_,_,e=>by cases e
 |b::l,i,x,e=>by
  rw[zu]at e;rw[aB];cases es:Wr o b.2.2.1 with
  |none=>
   rw[es]at e;obtain⟨h1,h2,c,h3,h4⟩:=av4 e;exact⟨ak,ak,c,aF _ h3,h4⟩
  |some t=>
   rw[es]at e;obtain rfl:=bn e;exact⟨ji _,by show i+1<=_;omega,b,aK,amo es⟩
theorem Z4{o:bJ}:∀(l l':List dz) (i:Int),zu o (l++l') i=match zu o l i with | some x=>av x | none=>zu o l' (i+l.length)
 |[],l',i=>by show zu o l' i=zu o l' (i+((0:Nat):Int));rw[show i+((0:Nat):Int)=i by omega]
 |b::l,l',i=>by
  rw[iI,zu,zu];cases Wr o b.2.2.1 with
  |some t=>rfl
  |none=>
   show zu o (l++l') (i+1)=_;rw[Z4 l l',aB,show i+1+(l.length:Int)=i+((l.length+1:Nat):Int) by omega]
theorem aKe{o:bJ}{l:List dz}{i:Int}{x:dR×Int}(e:zu o l i=av x){k:Nat}(hk:x.2<=i+k):zu o (l.take k) i=av x:=by
 have h:=Z4 (o:=o) (l.take k) (l.drop k) i;rw[dH,e]at h;cases h1:zu o (l.take k) i with
 |some y=>rw[h1]at h;exact h.symm
 |none=>
  rw[h1]at h;have h2:=av4 h.symm;have:(l.drop k).length=l.length - k:=dG;have:(l.take k).length=min k l.length:=bB;obtain⟨h3,h4,_⟩:=h2;omega
theorem sh.aUE(h:sh A0 m nb n a s bs)(o:bJ):xG.call (o,nb,n,a,s,bs)=av (match zu o (bs.take nb) 0 with
  |some x=>(x.1,x.2,aZ,nb,n,a,s,bs)
  |none=>(fa.zero,0,aQ,nb,n,a,s,bs)):=by
 rw[an6 (d:=(o,nb,n,a,s,bs)) h.ch];simp only[bC,UZ];rw[ai4 λb hb t ht=>h.aWP hb ht]
 all_goals (cases zu o (bs.take nb) 0 <;> rfl)
end
end
abbrev aEz:=bJ×Nat×(List bJ)
def aEA:aEz->Prop:=λ(_,n,l)=>n=l.length/\l.length<=1000000
def aQh:aEz->(Nat×(List bJ)):=λ(o,n,l)=>(n+1,l++ [o])
noncomputable def asC:Fs Tryz.prog aEA bC aQh:=fw 4294969952 (aPm Tryz.prog 4294969952) (λ(t7,o1L,o2)=>(([.yl (.bt 0) 0,.d bh t7,.undef,.undef,.ptr (.bt 1) 0 [] 0]++aS 10 []),[.obj 0 aQ (.sS (sw Tryz.prog 4294969952) (nw ([.undef,.undef,.ptr (.bt 1) 0 [] 0]++aS 10 [])) 0),.obj 0 aQ (.bE (.bt 2) 0 [] 0 0 o1L),.obj 0 aQ (.vec 38 bh o2)])) (λx=>⟨.d .bool aZ,[.obj 0 aQ (.sS (sw Tryz.prog 4294969952) (nw ([.undef,.undef,.ptr (.bt 1) 0 [] 0]++aS 10 [])) 0),.obj 0 aQ (.bE (.bt 2) 1 [] 0 0 x.1),.obj 1 aQ (.vec 38 bh x.2)],[]⟩) [aD,aD,aD,aD,aD,aD,aD,aD,aD,aD,aD,aD,aD,aD,aD] [] {as3:=[(2,1)],mY:=av 4294969952}
theorem aLM(t7 o1L o2)(k:K1 R):asC.A (t7,o1L,o2) k=aL (decide (o1L<=(ag o2))) (aL (dw (o1L+1) 40) (k (asC.out ((o1L+1),((aW o1L o2)++ [t7])))) aD) aD:=cr
theorem aLO:asC.Ok:=by rintro⟨o,n,l⟩ ⟨rfl,hl⟩;have hl:l.length<=1000000:=hl;rw[aLM,aM (ay _),aj,dC ak ak,aj,bQ];rfl
theorem aEB:asC.RS:=rE [.d bh,.n,.d (.slice bh)] asC
def aLP:=asC.aZx aLO
abbrev Cc:=Nat×(List bJ)×(List (bJ×jg))×(List (bJ×jg))
noncomputable def uF:Cc->AS:=λ(vR,eZ,AT,n5)=>⟨([.yl (.bt 0) 0]++aS 4 ([fx 5]++aS 8 [])),[bV (.sS (sw Tryz.prog 4294969952) (nw ([bH,bH,.ptr (.bt 1) 0 [] 0]++aS 10 [])) 0),bV (.bE (.bt 2) 1 [] 0 0 vR),.obj 1 aQ (.vec 38 bh eZ),bV (.cI (.bt 4) 0),.obj 0 aZ (.mp bh kT AT)],(bS 5 ([ed (.uE (.bt 4) 1 bh kT n5 aD)]++bS 8 []))⟩
abbrev Dy:=((List (bJ×jg)))×(Nat×(List bJ))
noncomputable def AJ:Dy->Exit×AS:=λ(a,b,c)=>(.exit 0,⟨(aS 14 []),[bV (.sS (sw Tryz.prog 4294969952) (nw ([bH,bH,.ptr (.bt 1) 0 [] 0]++aS 10 [])) 0),bV (.bE (.bt 2) 1 [] 0 0 b),.obj 1 aQ (.vec 38 bh c),bV (.cI (.bt 4) 0),bV (.mp bh kT a)],(ab 14 [])⟩)
def Sp:Dy->Out (Exit×AS):=λx=> .ok (AJ x)
def vI:Cc->(Nat×(List bJ))->Dy:=λ(vR,eZ,AT,n5) y=>(AT,y)
abbrev Sl:=Nat×(List bJ)×(List (bJ×jg))
noncomputable def ab8:Sl->SA:=λ(o1L,o2,o4)=>([.yl (.bt 0) 0,.ptr (.bt 3) 0 [] 0],[bV (.sS (sw Tryz.prog 4294969952) (nw ([bH,bH,.ptr (.bt 1) 0 [] 0]++aS 10 [])) 0),bV (.bE (.bt 2) 0 [] 0 0 o1L),bV (.vec 38 bh o2),bV (.cI (.bt 4) 0),bV (.mp bh kT o4)])
abbrev axR:=Nat×(List bJ)×(List (bJ×jg))
abbrev ak8:=Nat×(List bJ)×(List (bJ×jg))
noncomputable def Vy:ak8->iB:=λx=>⟨.nil,[bV (.sS (sw Tryz.prog 4294969952) (nw ([bH,bH,.ptr (.bt 1) 0 [] 0]++aS 10 [])) 0),bV (.bE (.bt 2) 1 [] 0 0 x.1),.obj 1 aQ (.vec 38 bh x.2.1),bV (.cI (.bt 4) 0),bV (.mp bh kT x.2.2)],[]⟩
def Vx:Sl->axR->ak8:=λ(o1L,o2,o4) y=>y
def vH:Cc->Prop:=λ(n,l,_,rest)=>n=l.length/\l.length+rest.length<=1000000
def sF:Cc->(Nat×(List bJ))->Prop:=λ(_,l,_,rest) (m,l')=>m=l'.length/\l'.Perm (l++rest.map (·.1))
def Vw:Sl->Prop:=λ(n,l,m)=>n=l.length/\l.length+m.length<=1000000
def PS:Sl->axR->Prop:=λ(_,l,m) (n',l',m')=>n'=l'.length/\l'.Perm (l++m.map (·.1))/\m'=m
def ak6:pO:=jQ (P:=Tryz.prog) [aLP]
def aug:=dI.YZ uF vH vI sF Sp
def Sq:Cc->Dy->Prop:=aUz uF vH vI sF
def ab7:yx:= {loops:=oJ [(1,{ba:=[0,5],sites:=[5],as3:=[(2,1)],aVe:=[5]})],outs:=oI [(1,{as3:=[(2,1)]},{as3:=[(2,1)]})],gf:=nQ [(1,aug)],as3:=[(2,1)]}
def axP:= @Jg Tryz.prog ak6 ab7 0 Tryz.f107 _ ab8
abbrev aHJ:=awS @axP Vw Vx PS Vy
def ab6:= @eG Tryz.prog ak6 ab7 0 Tryz.f107 0 _ uF
abbrev XC:=awU Tryz.prog ak6 ab7 0 Tryz.f107 0 uF vH vI sF Sp
theorem ak7:ayT Sq vH vI sF:=aW7 (jx [.n,.d (.slice bh),.d (.slice (.pair bh kT)),.d (.slice (.pair bh kT))] λ_=>cr)
theorem Sn:aPn @ab6 uF vH vI sF AJ XC:=aTf
theorem NP(vR eZ AT n5)(kn:K2 R)(kx:K3 R):ab6 (vR,eZ,AT,n5) kn kx=aL (decide (0 < (ag n5))) (aGr (ag n5) λj1=>same (sw Tryz.prog 4294969952) (sw Tryz.prog 4294969952) (al (asC.call ((AR bh kT n5 j1).1,vR,eZ)) λx2=>kn (uF (x2.1,x2.2,AT,(List.eraseIdx n5 j1))))) (kx (AJ (AT,(vR,eZ))).1 (AJ (AT,(vR,eZ))).2):=cr
theorem aHK(o1L o2 o4)(k:K1 R):axP (o1L,o2,o4) k=abp (Sq (o1L,o2,o4,o4)) λx3=>k (Vy (x3.2.1,x3.2.2,x3.1)):=cr
theorem apv:XC:=by
 refine Sn (λ(_,_,_,rest)=>rest.length) ?_
 rintro⟨n,l,m,rest⟩ ⟨rfl,hl⟩;have hl:l.length+rest.length<=1000000:=hl;by_cases h:0 < rest.length
 ·left;refine⟨rest.length,λj=>(l.length+1,l++ [(AR bh kT rest j).1],m,rest.eraseIdx j),h,λj hj=>⟨⟨by simp,?_⟩,?_,λy hy=>⟨y,?_,rfl⟩⟩,λkn kx=> ?_⟩
  ·show(l++ [_]).length+(rest.eraseIdx j).length<=1000000;rw[ai,List.length_eraseIdx,if_pos hj];simp only[aB,bl];omega
  ·show(rest.eraseIdx j).length < rest.length;rw[List.length_eraseIdx,if_pos hj];omega
  ·obtain⟨k,l'⟩:=y;obtain⟨h1,h2⟩:=hy;refine⟨h1,h2.trans ?_⟩;rw[alw hj,aI];refine List.Perm.append_left _ ?_
   have:=((abv hj).map (·.1)).symm;exact this
  ·rw[NP,aM h,aj];congr 1;funext j;rw[Wk,aEB (d:=((AR bh kT rest j).1,l.length,l)) ⟨rfl,by show l.length<=_;omega⟩];rfl
 ·right;obtain rfl:rest=[]:=bK ak;refine⟨(l.length,l),⟨rfl,by simp⟩,λkn kx=> ?_⟩;rw[NP,aV h,ao];rfl
theorem aHL:aHJ:=by
 rintro⟨n,l,m⟩ ⟨rfl,hl⟩ k hk;rw[aHK];refine ak7 (d:=(l.length,l,m,m)) ⟨rfl,hl⟩ ⟨((l++m.map (·.1)).length,l++m.map (·.1)),rfl,iX _⟩ λy hy=> ?_
 obtain⟨n',l'⟩:=y;exact hk (n',l',m) ⟨hy.1,hy.2,rfl⟩
def axQ:=Entry.YZ [aD,aD] ab8 Vw Vx PS Vy
def ah8:Sl->ak8->Prop:=aOK axQ ab8
theorem aAZ:ayT ah8 Vw Vx PS:=aJY (YW [.n,.d (.slice bh),.d (.slice (.pair bh kT))] λ_=>cr)
def aHM:SG Tryz.prog:=⟨107,nh,axQ,.aWO (.fn 1 cr aHL (And.intro (.YZ apv cr) trivial)) (by rfl)⟩
abbrev amR:=(List (bJ×jg))
def ajj:amR->Unit->((List (bJ×jg))):=λo0 y=>o0
def aDQ:amR->Prop:=λ_=>True
def aPd:amR->Unit:=λ_=>()
def afp:Fs Tryz.prog aDQ ajj aPd:=fw 61 Tryz.f61 (λo0=>([.cI (.bt 0) 0],[.obj 0 aQ (.mp bh kT o0)])) (λx=>⟨.fn 107 (.cons (.ptr (.new 0 0) 0 [] 0) (.nil)),[.obj 0 aQ (.mp bh kT x)],[.obj 0 aQ (.cI (.bt 0) 0)]⟩) [aD] [] {bT:=[1]}
theorem aLa(o0)(k:K1 R):afp.A o0 k=k (afp.out o0):=cr
theorem aLb:afp.Ok:=by intro d _;rw[aLa];rfl
theorem aDR:afp.RS:=rE [.d (.slice (.pair bh kT))] afp
def aLc:=afp.fC aLb
abbrev aam:=(List (bJ×jg))
def ajA:aam->SA:=λo1=>([.dy,.fn 107 (.cons (.ptr (.bt 0) 0 [] 0) (.nil))],[bV (.cI (.bt 1) 0),bV (.mp bh kT o1)])
abbrev aEE:=Nat×(List (bJ×jg))×(List bJ)
abbrev asD:=Nat×(List (bJ×jg))×(List bJ)
def aap:asD->iB:=λx=>⟨.bE (.new 0 0) 1 [] 0 0 x.1,[bV (.cI (.bt 1) 0),bV (.mp bh kT x.2.1)],[.obj 1 aQ (.vec 38 bh x.2.2)]⟩
def aao:aam->aEE->asD:=λo1 y=>y
def aan:aam->Prop:=λm=>m.length<=1000000
def UG:aam->aEE->Prop:=λm (n',m',l')=>n'=l'.length/\l'.Perm (m.map (·.1))/\m'=m
def aQi:pO:=jQ (P:=Tryz.prog) [aHM]
def aLR:yx:= {bT:=[2],aX7:=nQ [(7,[⟨2,[.arr],0,46⟩])],rf:=nQ [(7,(4294969952,[2]))]}
def aEC:= @Jg Tryz.prog aQi aLR 0 Tryz.f166 _ ajA
abbrev aLQ:=awS @aEC aan aao UG aap
theorem aLS(o1)(k:K1 R):aEC o1 k=abp (ah8 (0,([]:List bJ),o1)) λx1=>k (aap (x1.1,x1.2.2,x1.2.1)):=cr
theorem aLT:aLQ:=by
 intro m hl k hk;have hl:m.length<=1000000:=hl;rw[aLS];refine aAZ (d:=(0,[],m)) ⟨rfl,by show 0+m.length<=_;omega⟩ ⟨((m.map (·.1)).length,m.map (·.1),m),rfl,iX _,rfl⟩ λy hy=> ?_
 obtain⟨n',l',m'⟩:=y;exact hk (n',m',l') ⟨hy.1,by simpa using hy.2.1,hy.2.2⟩
def aED:=Entry.YZ [aD,aD] ajA aan aao UG aap
def ano:aam->asD->Prop:=aOK aED ajA
theorem aEF:ayT ano aan aao UG:=aJY (YW [.d (.slice (.pair bh kT))] λ_=>cr)
def aLU:SG Tryz.prog:=⟨166,nh,aED,.aWO (.fn 0 cr aLT trivial) (by rfl)⟩
abbrev aaY:=(List (bJ×jg))
def aj8:aaY->SA:=λo1=>([.fn 107 (.cons (.ptr (.bt 0) 0 [] 0) (.nil))],[bV (.cI (.bt 1) 0),bV (.mp bh kT o1)])
abbrev aF0:=Nat×(List (bJ×jg))×(List bJ)
abbrev atr:=Nat×(List (bJ×jg))×(List bJ)
def aa1:atr->iB:=λx=>⟨.bE (.new 0 0) 1 [] 0 0 x.1,[bV (.cI (.bt 1) 0),bV (.mp bh kT x.2.1)],[.obj 1 aQ (.vec 38 bh x.2.2)]⟩
def aa0:aaY->aF0->atr:=λo1 y=>y
def aaZ:aaY->Prop:=λm=>m.length<=1000000
def U2:aaY->aF0->Prop:=λm (n',m',l')=>n'=l'.length/\l'.Perm (m.map (·.1))/\m'=m
def aQA:pO:=jQ (P:=Tryz.prog) [aLU]
def aMA:yx:= {}
def aFY:= @Jg Tryz.prog aQA aMA 0 Tryz.f105 _ aj8
abbrev aMz:=awS @aFY aaZ aa0 U2 aa1
theorem aMB(o1)(k:K1 R):aFY o1 k=abp (ano o1) λx1=>k (aa1 (x1.1,x1.2.1,x1.2.2)):=cr
theorem aMC:aMz:=by
 intro m hl k hk;rw[aMB];refine aEF (d:=m) hl ⟨((m.map (·.1)).length,m,m.map (·.1)),rfl,iX _,rfl⟩ λy hy=> ?_
 exact hk y hy
def aFZ:=Entry.YZ [aD] aj8 aaZ aa0 U2 aa1
def aob:aaY->atr->Prop:=aOK aFZ aj8
theorem aF1:ayT aob aaZ aa0 U2:=aJY (YW [.d (.slice (.pair bh kT))] λ_=>cr)
def aMD:SG Tryz.prog:=⟨105,nh,aFZ,.aWO (.fn 0 cr aMC trivial) (by rfl)⟩
theorem awa{l l':List bJ}(h:l.Perm l')(hq:∀x∈l',C6 x):Qx (t:=bh) I7 l=Qx (t:=bh) I7 l':=by
 have hq':∀x∈l,C6 x:=λx hx=>hq x (h.mem_iff.1 hx)
 have h1:=aez sD hq';exact HL sD hq (λx hx y hy a b=>BQ (hq x hx) (hq y hy) a b) ⟨h1.1.trans h,h1.2⟩
def CQ(m:Wm):List bJ:=Qx (t:=bh) I7 (m.map (·.1))
abbrev aKi:=(List (bJ×jg))
def aKk:aKi->Prop:=λm=>m.length<=1000000/\∀p∈m,C6 p.1
def aKj:aKi->(Nat×(List (bJ×jg))×(List bJ)):=λm=>(m.length,m,CQ m)
def awb:Fs Tryz.prog aKk bC aKj:=fw 60 Tryz.f60 (λo1=>([.fn 107 (.cons (.ptr (.bt 0) 0 [] 0) (.nil)),.fn 62 (.nil)],[.obj 0 aQ (.cI (.bt 1) 0),.obj 0 aQ (.mp bh kT o1)])) (λx=>⟨.bE (.new 0 0) 1 [] 0 0 x.1,[.obj 0 aQ (.cI (.bt 1) 0),.obj 0 aQ (.mp bh kT x.2.1)],[.obj 1 aQ (.vec 38 bh x.2.2)]⟩) [aD,aD] [aMD,aOW]
theorem aOX(o1)(k:K1 R):awb.A o1 k=abp (aob o1) λx1=>al (Wt (x1.1,x1.2.2)) λx2=>k (awb.out (x1.1,x1.2.1,x2.2)):=cr
theorem aOY:awb.Ok:=by
 rintro m ⟨hl,hq⟩;have hl:m.length<=1000000:=hl;rw[aOX];refine aF1 (d:=m) hl ⟨((m.map (·.1)).length,m,m.map (·.1)),rfl,iX _,rfl⟩ λy hy=> ?_
 obtain⟨n',m',l'⟩:=y;obtain⟨h1,h2,h3⟩:=hy;have h1:n'=l'.length:=h1;have h3:m'=m:=h3;subst h1 h3;have hq':∀x∈m'.map (·.1),C6 x:=λx hx=>by obtain⟨p,hp,rfl⟩:=df.1 hx;exact hq p hp
 have hlen:l'.length=m'.length:=by rw[h2.length_eq,cm]
 show al (Wt (l'.length,l')) _=_;rw[aKh (d:=(l'.length,l')) ⟨rfl,by show l'.length < _;omega,λx hx=>hq' x (h2.mem_iff.1 hx),λx hx y hy h1 h2'=>BQ (hq' x (h2.mem_iff.1 hx)) (hq' y (h2.mem_iff.1 hy)) h1 h2'⟩];simp only[ah,bC,aKj,CQ];rw[awa h2 hq',hlen];rfl
theorem aKl:awb.RS:=rE [.d (.slice (.pair bh kT))] awb
def aOZ:=awb.fC aOY
abbrev aK0:=(List (bJ×jg))
def aK1:aK0->Prop:=λm=>m.length<=1000000/\∀p∈m,C6 p.1
def awC:aK0->(Nat×(List (bJ×jg))×(List bJ)):=λm=>(m.length,m,CQ m)
def wall:Fs Tryz.prog aK1 bC awC:=fw 26 Tryz.f26 (λo1=>([.ptr (.bt 0) 0 [] 0],[.obj 0 aQ (.pr (.cI (.bt 1) 0) (.d .unit ())),.obj 0 aQ (.mp bh kT o1)])) (λx=>⟨.bE (.new 0 0) 1 [] 0 0 x.1,[.obj 0 aQ (.pr (.cI (.bt 1) 0) (.d .unit ())),.obj 0 aQ (.mp bh kT x.2.1)],[.obj 1 aQ (.vec 38 bh x.2.2)]⟩) [aD] [aLc,aOZ]
theorem aO9(o1)(k:K1 R):wall.A o1 k=al (afp.call o1) λx1=>al (awb.call x1) λx2=>k (wall.out (x2.1,x2.2.1,x2.2.2)):=cr
theorem aPa:wall.Ok:=by intro m h;rw[aO9,aDR (d:=m) trivial];simp only[ah,ajj];rw[aKl (d:=m) h];rfl
theorem afm:wall.RS:=rE [.d (.slice (.pair bh kT))] wall
def ayG:=wall.fC aPa
abbrev amW:=Int×dR×Nat×(List lX)×bJ×jg
abbrev ayO:=Nat×(List lX)
def WM:amW->ayO->((bJ×jg)×(Nat×(List lX))):=λ(dov,byv,o0L,o1,o2,o3) y=>((o2,o3),y)
def aDW:amW->Prop:=λ(_,t,n,l,_)=>ng t/\n=l.length/\l.length<=1000000000
def amX:amW->ayO:=λ(d,t,_,l,o,x)=>(l.length+1,l++ [(d,(o,(asq t,(x.2.2.2.1,()))))])
def I1:Fs Tryz.prog aDW WM amX:=fw 66 Tryz.f66 (λ(dov,byv,o0L,o1,o2,o3)=>([.d ti dov,.d fa byv,.ptr (.bt 0) 0 [] 0,.ptr (.bt 2) 0 [] 0,.ptr (.bt 3) 0 [] 0],[.obj 0 aQ (.bE (.bt 1) 0 [] 0 0 o0L),.obj 0 aQ (.vec 65 pf o1),.obj 0 aQ (.d bh o2),.obj 0 aQ (.d kT o3)])) (λx=>⟨.nil,[.obj 0 aQ (.bE (.bt 1) 1 [] 0 0 x.2.1),.obj 1 aQ (.vec 65 pf x.2.2),.obj 0 aQ (.d bh x.1.1),.obj 0 aQ (.d kT x.1.2)],[]⟩) [av ti,av fa,aD,aD,aD] [afo]
theorem aLk(dov byv o0L o1 o2 o3)(k:K1 R):I1.A (dov,byv,o0L,o1,o2,o3) k=al (OH.call byv) λx1=>aL (decide (o0L<=(ag o1))) (aL (dw (o0L+1) 112) (k (I1.out ((o2,o3),((o0L+1),((aW o0L o1)++ [(dov,(o2,(x1,(o3.2.2.2.1,()))))]))))) aD) aD:=cr
theorem aLl:I1.Ok:=by rintro⟨d,t,n,l,o,x⟩ ⟨hv,rfl,hl⟩;have hl:l.length<=1000000000:=hl;rw[aLk,WI (d:=t) hv];simp only[ah,bC,amQ];rw[aM (ay _),aj,dC ak ak,aj,bQ];rfl
theorem ajm:I1.RS:=rE [.d ti,.d fa,.n,.d (.slice pf),.d bh,.d kT] I1
def aLm:=I1.fC aLl
def ajs(x:jg):Prop:=ng x.2.1/\(x.1=aZ->iR x.2.1=aZ)
theorem v0:ng fa.zero:=⟨⟨λo ho=>(by cases ho),fg,fg⟩,λx hx=>(by cases hx),fg⟩
theorem YM:ajs tM:=⟨v0,λh=>(by cases h)⟩
def nI(o:bJ)(l:List dz):dR×Int×Bool:=match zu o l 0 with | some x=>(x.1,x.2,aZ) | none=>(fa.zero,0,aQ)
def B6(x:jg)(h:Int)(ok:Bool)(id:Bs):Bool:=x.1 && (!ok || (zg h x.2.2.2.1 || !(Ty.beq tH id x.2.2.1)))
def j4(o:bJ)(x:jg)(h:Int)(ok:Bool)(id:Bs):jg×List lX:=if B6 x h ok id then(tM,[(2,(o,(x.2.1,(x.2.2.2.1,()))))]) else(x,[])
def so(o:bJ)(t:dR)(h:Int)(ok:Bool)(id:Bs)(x:jg):jg×List lX:=if ok && !x.1 then((aZ,(t,(id,(h,(aQ,()))))),[(1,(o,(t,(h,()))))]) else(x,[])
def C4(o:bJ)(t:dR)(h:Int)(ok:Bool)(H:Int)(x:jg):jg×List lX:=if ok && pJ (H - h) 6 then((x.1,(x.2.1,(x.2.2.1,(x.2.2.2.1,(aZ,()))))),[(3,(o,(t,(x.2.2.2.1,()))))]) else(x,[])
def gG(H:Int)(l:List dz)(o:bJ)(x:jg):jg×List lX:=if x.2.2.2.2.1 then(x,[]) else((C4 o (nI o l).1 (nI o l).2.1 (nI o l).2.2 H (so o (nI o l).1 (nI o l).2.1 (nI o l).2.2 (iD (nI o l).1) (j4 o x (nI o l).2.1 (nI o l).2.2 (iD (nI o l).1)).1).1).1,(j4 o x (nI o l).2.1 (nI o l).2.2 (iD (nI o l).1)).2++(so o (nI o l).1 (nI o l).2.1 (nI o l).2.2 (iD (nI o l).1) (j4 o x (nI o l).2.1 (nI o l).2.2 (iD (nI o l).1)).1).2++(C4 o (nI o l).1 (nI o l).2.1 (nI o l).2.2 H (so o (nI o l).1 (nI o l).2.1 (nI o l).2.2 (iD (nI o l).1) (j4 o x (nI o l).2.1 (nI o l).2.2 (iD (nI o l).1)).1).1).2)
def lookW(H:Int)(l:List dz)(S:Wm×List lX)(o:bJ):Wm×List lX:=if(nO o S.1).2.2.2.2.1 then S else(fj bh o (gG H l o (nO o S.1)).1 S.1,S.2++(gG H l o (nO o S.1)).2)
abbrev afq:=Nat×Int×Int×(List (bJ×jg))×Nat×Nat×(List (bJ×eV))×(List cG)×(List dz)×Nat×(List lX)×(List bJ)
abbrev Bn:=Int×Bool×Nat×Int×Int×Bool×(List (bJ×jg))×Nat×Nat×(List (bJ×eV))×(List cG)×(List dz)×Nat×(List lX)×bJ×jg×dR×Bs×(List bJ)
def OI:Bn->AS:=λ(h,okv,Jc,t16,t17,t67,o1,o2L,o3L,o4,o5,o6,Ja,am4,jA,acV,acW,acX,aIp)=>⟨([.ptr (.bt 0) 0 [] 0,.ptr (.bt 2) 0 [] 0,bH,bH,bH,fx 95,bH,.ptr (.new 95 2) 0 [] 0,.ptr (.new 95 3) 0 [] 0,.ptr (.new 95 4) 0 [] 0,.d ti h,.d .bool okv,.ptr (.new 95 5) 0 [] 0,.fn 66 (.cons (fx 95) (.cons (.ptr (.new 95 2) 0 [] 0) (.cons (.ptr (.new 95 3) 0 [] 0) (.nil)))),bH,.bE (.new 95 6) 0 [] 0 0 Jc,.d ti t16,.d ti t17]++aS 49 ([.d .bool t67]++aS 28 [])),[bV (.pr (.cI (.bt 1) 0) gg),bV (.mp bh kT o1),bV (.pr (.ptr (.bt 3) 0 [] 0) (.pr (.bE (.bt 6) 0 [] 0 0 o2L) gg)),bV (.pr (.cI (.bt 4) 0) (.pr (.bE (.bt 5) 0 [] 0 0 o3L) gg)),bV (.mp bh fv o4),bV (.vec 256 cR o5),bV (.vec 48 eA o6)],(bS 95 [[bV (.bE (.new 95 1) 0 [] 0 0 Ja),bV (.vec 65 pf am4),bV (.d bh jA),bV (.d kT acV),bV (.d fa acW),bV (.d tH acX),bV (.vec 38 bh aIp)]])⟩
def Ua:pP:=pP.of {ba:=[0,1,5,7,8,9,10,11,12,13,15,16,17,67],sites:=[5,7,8,9,12,15,32,37,60,69,75,79,87,95],MN:=[⟨8,[.arr],kT⟩],aD9:=av 95} OI
def CR:Bn->Option Bn:=λx=>(Ua).axO .normal (OI x)
theorem Ub(x:Bn):CR x=av x:=pP.Hn (jx [.d ti,.d .bool,.n,.d ti,.d ti,.d .bool,.d (.slice (.pair bh kT)),.n,.n,.d (.slice (.pair bh fv)),.d (.slice cR),.d (.slice eA),.n,.d (.slice pf),.d bh,.d kT,.d fa,.d tB,.d (.slice bh)] λ_=>cr) x
abbrev Bo:=Nat×Int×Int×Bool×(List (bJ×jg))×Nat×Nat×(List (bJ×eV))×(List cG)×(List dz)×Nat×(List lX)×bJ×jg×dR×(List bJ)
def OJ:Bo->AS:=λ(Jc,t16,t17,t83,o1,o2L,o3L,o4,o5,o6,Ja,am4,jA,acV,acW,acX)=>⟨([.ptr (.bt 0) 0 [] 0,.ptr (.bt 2) 0 [] 0,bH,bH,bH,fx 95,bH,.ptr (.new 95 2) 0 [] 0,.ptr (.new 95 3) 0 [] 0,.ptr (.new 95 4) 0 [] 0,bH,bH,bH,.fn 66 (.cons (fx 95) (.cons (.ptr (.new 95 2) 0 [] 0) (.cons (.ptr (.new 95 3) 0 [] 0) (.nil)))),bH,.bE (.new 95 5) 0 [] 0 0 Jc,.d ti t16,.d ti t17]++aS 65 ([.d .bool t83]++aS 12 [])),[bV (.pr (.cI (.bt 1) 0) gg),bV (.mp bh kT o1),bV (.pr (.ptr (.bt 3) 0 [] 0) (.pr (.bE (.bt 6) 0 [] 0 0 o2L) gg)),bV (.pr (.cI (.bt 4) 0) (.pr (.bE (.bt 5) 0 [] 0 0 o3L) gg)),bV (.mp bh fv o4),bV (.vec 256 cR o5),bV (.vec 48 eA o6)],(bS 95 [[bV (.bE (.new 95 1) 0 [] 0 0 Ja),bV (.vec 65 pf am4),bV (.d bh jA),bV (.d kT acV),bV (.d fa acW),bV (.vec 38 bh acX)]])⟩
def Uc:pP:=pP.of {ba:=[0,1,5,7,8,9,13,15,16,17,83],sites:=[5,7,8,9,12,15,32,37,60,69,75,79,87,95],MN:=[⟨8,[.arr],kT⟩],aD9:=av 95} OJ
def CS:Bo->Option Bo:=λx=>(Uc).axO .normal (OJ x)
theorem Ud(x:Bo):CS x=av x:=pP.Hn (jx [.n,.d ti,.d ti,.d .bool,.d (.slice (.pair bh kT)),.n,.n,.d (.slice (.pair bh fv)),.d (.slice cR),.d (.slice eA),.n,.d (.slice pf),.d bh,.d kT,.d fa,.d (.slice bh)] λ_=>cr) x
abbrev Bp:=Int×Bool×Nat×Int×Int×(List (bJ×jg))×Nat×Nat×(List (bJ×eV))×(List cG)×(List dz)×Nat×(List lX)×bJ×jg×dR×Bs×(List bJ)
def OK:Bp->AS:=λ(h,okv,Jc,t16,t17,o1,o2L,o3L,o4,o5,o6,Ja,am4,jA,acV,acW,acX,aIp)=>⟨([.ptr (.bt 0) 0 [] 0,.ptr (.bt 2) 0 [] 0,bH,bH,bH,fx 95,bH,.ptr (.new 95 2) 0 [] 0,.ptr (.new 95 3) 0 [] 0,.ptr (.new 95 4) 0 [] 0,.d ti h,.d .bool okv,.ptr (.new 95 5) 0 [] 0,.fn 66 (.cons (fx 95) (.cons (.ptr (.new 95 2) 0 [] 0) (.cons (.ptr (.new 95 3) 0 [] 0) (.nil)))),bH,.bE (.new 95 6) 0 [] 0 0 Jc,.d ti t16,.d ti t17]++aS 78 []),[bV (.pr (.cI (.bt 1) 0) gg),bV (.mp bh kT o1),bV (.pr (.ptr (.bt 3) 0 [] 0) (.pr (.bE (.bt 6) 0 [] 0 0 o2L) gg)),bV (.pr (.cI (.bt 4) 0) (.pr (.bE (.bt 5) 0 [] 0 0 o3L) gg)),bV (.mp bh fv o4),bV (.vec 256 cR o5),bV (.vec 48 eA o6)],(bS 95 [[bV (.bE (.new 95 1) 0 [] 0 0 Ja),bV (.vec 65 pf am4),bV (.d bh jA),bV (.d kT acV),bV (.d fa acW),bV (.d tH acX),bV (.vec 38 bh aIp)]])⟩
def Ue:pP:=pP.of {ba:=[0,1,5,7,8,9,10,11,12,13,15,16,17],sites:=[5,7,8,9,12,15,32,37,60,69,75,79,87,95],MN:=[⟨8,[.arr],kT⟩],aD9:=av 95} OK
def nM:Bp->Option Bp:=λx=>(Ue).axO .normal (OK x)
theorem Uf(x:Bp):nM x=av x:=pP.Hn (jx [.d ti,.d .bool,.n,.d ti,.d ti,.d (.slice (.pair bh kT)),.n,.n,.d (.slice (.pair bh fv)),.d (.slice cR),.d (.slice eA),.n,.d (.slice pf),.d bh,.d kT,.d fa,.d tB,.d (.slice bh)] λ_=>cr) x
abbrev Bq:=Int×Bool×Nat×Int×Int×(List (bJ×jg))×Nat×Nat×(List (bJ×eV))×(List cG)×(List dz)×Nat×(List lX)×bJ×jg×dR×(List bJ)
def OL:Bq->AS:=λ(h,okv,Jc,t16,t17,o1,o2L,o3L,o4,o5,o6,Ja,am4,jA,acV,acW,acX)=>⟨([.ptr (.bt 0) 0 [] 0,.ptr (.bt 2) 0 [] 0,bH,bH,bH,fx 95,bH,.ptr (.new 95 2) 0 [] 0,.ptr (.new 95 3) 0 [] 0,.ptr (.new 95 4) 0 [] 0,.d ti h,.d .bool okv,bH,.fn 66 (.cons (fx 95) (.cons (.ptr (.new 95 2) 0 [] 0) (.cons (.ptr (.new 95 3) 0 [] 0) (.nil)))),bH,.bE (.new 95 5) 0 [] 0 0 Jc,.d ti t16,.d ti t17]++aS 78 []),[bV (.pr (.cI (.bt 1) 0) gg),bV (.mp bh kT o1),bV (.pr (.ptr (.bt 3) 0 [] 0) (.pr (.bE (.bt 6) 0 [] 0 0 o2L) gg)),bV (.pr (.cI (.bt 4) 0) (.pr (.bE (.bt 5) 0 [] 0 0 o3L) gg)),bV (.mp bh fv o4),bV (.vec 256 cR o5),bV (.vec 48 eA o6)],(bS 95 [[bV (.bE (.new 95 1) 0 [] 0 0 Ja),bV (.vec 65 pf am4),bV (.d bh jA),bV (.d kT acV),bV (.d fa acW),bV (.vec 38 bh acX)]])⟩
def Ug:pP:=pP.of {ba:=[0,1,5,7,8,9,10,11,13,15,16,17],sites:=[5,7,8,9,12,15,32,37,60,69,75,79,87,95],MN:=[⟨8,[.arr],kT⟩],aD9:=av 95} OL
def CT:Bq->Option Bq:=λx=>(Ug).axO .normal (OL x)
theorem Uh(x:Bq):CT x=av x:=pP.Hn (jx [.d ti,.d .bool,.n,.d ti,.d ti,.d (.slice (.pair bh kT)),.n,.n,.d (.slice (.pair bh fv)),.d (.slice cR),.d (.slice eA),.n,.d (.slice pf),.d bh,.d kT,.d fa,.d (.slice bh)] λ_=>cr) x
abbrev ayK:=(List (bJ×jg))×Nat×Nat×(List (bJ×eV))×(List cG)×(List dz)
def aXt(nb n:Nat)(a:At)(s:List cG)(bs:List dz):Prop:=∃A0 m,sh A0 m nb n a s bs
def amS:afq->Prop:=λ(kL,kn,i,m,nb,n,a,s,bs,oL,out,ks)=>aXt nb n a s bs/\ks.length<=1000000/\kL=ks.length/\kn=(ks.length:Int)/\oL=out.length/\(∀p∈m,ajs p.2)/\∃k:Nat,k<=ks.length/\i=k/\out.length<=3*k
def H0:afq->((List (bJ×jg))×Nat×Nat×(List (bJ×eV))×(List cG)×(List dz)×Nat×(List lX)×(List bJ)):=λ(_,_,i,m,nb,n,a,s,bs,_,out,ks)=>(((ks.drop i.toNat).foldl (lookW nb (bs.take nb)) (m,out)).1,nb,n,a,s,bs,((ks.drop i.toNat).foldl (lookW nb (bs.take nb)) (m,out)).2.length,((ks.drop i.toNat).foldl (lookW nb (bs.take nb)) (m,out)).2,ks)
def WG(m:Wm):Prop:=m.length<=1000/\(m.map (·.1)).Nodup/\∀p∈m,C6 p.1/\ajs p.2
def eN(nb:Nat)(bs:List dz)(m:Wm):Wm×List lX:=(CQ m).foldl (lookW nb (bs.take nb)) (m,[])
def aDS:ayK->Prop:=λ(m,nb,n,a,s,bs)=>aXt nb n a s bs/\WG m
def Z6:ayK->(Nat×(List (bJ×jg))×Nat×Nat×(List (bJ×eV))×(List cG)×(List dz)×(List lX)):=λ(m,nb,n,a,s,bs)=>((eN nb bs m).2.length,(eN nb bs m).1,nb,n,a,s,bs,(eN nb bs m).2)
def qQ:Ls amS bC H0:=sH (λ(Jc,t16,t17,eD,o2L,o3L,AT,aBC,aBD,Ja,am4,jA)=>⟨([.ptr (.bt 0) 0 [] 0,.ptr (.bt 2) 0 [] 0,bH,bH,bH,fx 95]++aS 9 ([.bE (.new 95 2) 0 [] 0 0 Jc,.d ti t16,.d ti t17]++aS 78 [])),[bV (.pr (.cI (.bt 1) 0) gg),bV (.mp bh kT eD),bV (.pr (.ptr (.bt 3) 0 [] 0) (.pr (.bE (.bt 6) 0 [] 0 0 o2L) gg)),bV (.pr (.cI (.bt 4) 0) (.pr (.bE (.bt 5) 0 [] 0 0 o3L) gg)),bV (.mp bh fv AT),bV (.vec 256 cR aBC),bV (.vec 48 eA aBD)],(bS 95 [[bV (.bE (.new 95 1) 0 [] 0 0 Ja),bV (.vec 65 pf am4),bV (.vec 38 bh jA)]])⟩) (λx=>(.exit 0,⟨(aS 5 ([fx 95]++aS 90 [])),[bV (.pr (.cI (.bt 1) 0) gg),bV (.mp bh kT x.1),bV (.pr (.ptr (.bt 3) 0 [] 0) (.pr (.bE (.bt 6) 0 [] 0 0 x.2.1) gg)),bV (.pr (.cI (.bt 4) 0) (.pr (.bE (.bt 5) 0 [] 0 0 x.2.2.1) gg)),bV (.mp bh fv x.2.2.2.1),bV (.vec 256 cR x.2.2.2.2.1),bV (.vec 48 eA x.2.2.2.2.2.1)],(bS 95 [[bV (.bE (.new 95 1) 0 [] 0 0 x.2.2.2.2.2.2.1),bV (.vec 65 pf x.2.2.2.2.2.2.2.1),bV (.vec 38 bh x.2.2.2.2.2.2.2.2)]])⟩))
def LN:Fs Tryz.prog aDS bC Z6:=fw 31 Tryz.f31 (λ(o1,o2baL,o3baL,o4,o5,o6)=>([.ptr (.bt 0) 0 [] 0,.ptr (.bt 2) 0 [] 0],[.obj 0 aQ (.pr (.cI (.bt 1) 0) (.d .unit ())),.obj 0 aQ (.mp bh kT o1),.obj 0 aQ (.pr (.ptr (.bt 3) 0 [] 0) (.pr (.bE (.bt 6) 0 [] 0 0 o2baL) (.d .unit ()))),.obj 0 aQ (.pr (.cI (.bt 4) 0) (.pr (.bE (.bt 5) 0 [] 0 0 o3baL) (.d .unit ()))),.obj 0 aQ (.mp bh fv o4),.obj 0 aQ (.vec 256 cR o5),.obj 0 aQ (.vec 48 eA o6)])) (λx=>⟨.bE (.new 0 0) 0 [] 0 0 x.1,[.obj 0 aQ (.pr (.cI (.bt 1) 0) (.d .unit ())),.obj 0 aQ (.mp bh kT x.2.1),.obj 0 aQ (.pr (.ptr (.bt 3) 0 [] 0) (.pr (.bE (.bt 6) 0 [] 0 0 x.2.2.1) (.d .unit ()))),.obj 0 aQ (.pr (.cI (.bt 4) 0) (.pr (.bE (.bt 5) 0 [] 0 0 x.2.2.2.1) (.d .unit ()))),.obj 0 aQ (.mp bh fv x.2.2.2.2.1),.obj 0 aQ (.vec 256 cR x.2.2.2.2.2.1),.obj 0 aQ (.vec 48 eA x.2.2.2.2.2.2.1)],[.obj 0 aQ (.vec 65 pf x.2.2.2.2.2.2.2)]⟩) [aD,aD] [ayG,atm,Wy,aLm,afo,Dj] {loops:=oJ [(3,{ba:=[0,1,5,15,16,17],sites:=[5,7,8,9,12,15,32,37,60,69,75,79,87,94,95],owns:=[⟨5,[.arr],94,43⟩],aD9:=av 95})],outs:=oI [(3,{ba:=[5],sites:=[95]},{ba:=[4]})],gf:=nQ [(3,qQ.E)],aPS:=nQ [(13,Ua),(16,Uc)],apt:=nQ [(13,Ue),(16,Ug)]}
theorem amT:qQ.RS:=rL [.n,.d ti,.d ti,.d (.slice (.pair bh kT)),.n,.n,.d (.slice (.pair bh fv)),.d (.slice cR),.d (.slice eA),.n,.d (.slice pf),.d (.slice bh)] qQ
theorem OM(Jc t16 t17 eD o2L o3L AT aBC aBD Ja am4 jA)(kn:K2 R)(kx:K3 R):LN.R 0 qQ (Jc,t16,t17,eD,o2L,o3L,AT,aBC,aBD,Ja,am4,jA) kn kx=aL (gz t17 t16) (aL (eL t17 ((Jc:Nat):Int)) (aL (decide ((0+(ae t17)) < (ag jA))) (aL (decide ((((0+(ae t17))*33)+0)=(0+((ae t17)*33)))) (aL (((bW bh (nth bh jA (0+(ae t17))) eD).getD (aQ,((([]:List iF),(([]:List iu),(0,()))),((ab 32 0),(0,(aQ,())))))).2.2.2.2.1) (kn (qQ.st (Jc,t16,(bO .i64 t17 1),eD,o2L,o3L,AT,aBC,aBD,Ja,am4,jA))) (al (xG.call ((nth bh jA (0+(ae t17))),o2L,o3L,AT,aBC,aBD)) λFc=>al (tid.call Fc.1) λaS2=>al (aL (((bW bh (nth bh jA (0+(ae t17))) eD).getD (aQ,((([]:List iF),(([]:List iu),(0,()))),((ab 32 0),(0,(aQ,())))))).1) (aL (!Fc.2.2.1) (al (I1.call (2,((bW bh (nth bh jA (0+(ae t17))) eD).getD (aQ,((([]:List iF),(([]:List iu),(0,()))),((ab 32 0),(0,(aQ,())))))).2.1,Ja,am4,(nth bh jA (0+(ae t17))),((bW bh (nth bh jA (0+(ae t17))) eD).getD (aQ,((([]:List iF),(([]:List iu),(0,()))),((ab 32 0),(0,(aQ,())))))))) λaXm=>nM (Fc.2.1,Fc.2.2.1,Jc,t16,t17,eD,Fc.2.2.2.1,Fc.2.2.2.2.1,Fc.2.2.2.2.2.1,Fc.2.2.2.2.2.2.1,Fc.2.2.2.2.2.2.2,aXm.2.1,aXm.2.2,aXm.1.1,(aQ,((([]:List iF),(([]:List iu),(0,()))),((ab 32 0),(0,(aQ,()))))),Fc.1,aS2,jA)) (aL (zg Fc.2.1 ((bW bh (nth bh jA (0+(ae t17))) eD).getD (aQ,((([]:List iF),(([]:List iu),(0,()))),((ab 32 0),(0,(aQ,())))))).2.2.2.1) (al (I1.call (2,((bW bh (nth bh jA (0+(ae t17))) eD).getD (aQ,((([]:List iF),(([]:List iu),(0,()))),((ab 32 0),(0,(aQ,())))))).2.1,Ja,am4,(nth bh jA (0+(ae t17))),((bW bh (nth bh jA (0+(ae t17))) eD).getD (aQ,((([]:List iF),(([]:List iu),(0,()))),((ab 32 0),(0,(aQ,())))))))) λaXp=>nM (Fc.2.1,Fc.2.2.1,Jc,t16,t17,eD,Fc.2.2.2.1,Fc.2.2.2.2.1,Fc.2.2.2.2.2.1,Fc.2.2.2.2.2.2.1,Fc.2.2.2.2.2.2.2,aXp.2.1,aXp.2.2,aXp.1.1,(aQ,((([]:List iF),(([]:List iu),(0,()))),((ab 32 0),(0,(aQ,()))))),Fc.1,aS2,jA)) (aL (!(Ty.beq tH aS2 ((bW bh (nth bh jA (0+(ae t17))) eD).getD (aQ,((([]:List iF),(([]:List iu),(0,()))),((ab 32 0),(0,(aQ,())))))).2.2.1)) (al (I1.call (2,((bW bh (nth bh jA (0+(ae t17))) eD).getD (aQ,((([]:List iF),(([]:List iu),(0,()))),((ab 32 0),(0,(aQ,())))))).2.1,Ja,am4,(nth bh jA (0+(ae t17))),((bW bh (nth bh jA (0+(ae t17))) eD).getD (aQ,((([]:List iF),(([]:List iu),(0,()))),((ab 32 0),(0,(aQ,())))))))) λaXq=>nM (Fc.2.1,Fc.2.2.1,Jc,t16,t17,eD,Fc.2.2.2.1,Fc.2.2.2.2.1,Fc.2.2.2.2.2.1,Fc.2.2.2.2.2.2.1,Fc.2.2.2.2.2.2.2,aXq.2.1,aXq.2.2,aXq.1.1,(aQ,((([]:List iF),(([]:List iu),(0,()))),((ab 32 0),(0,(aQ,()))))),Fc.1,aS2,jA)) (nM (Fc.2.1,Fc.2.2.1,Jc,t16,t17,eD,Fc.2.2.2.1,Fc.2.2.2.2.1,Fc.2.2.2.2.2.1,Fc.2.2.2.2.2.2.1,Fc.2.2.2.2.2.2.2,Ja,am4,(nth bh jA (0+(ae t17))),((bW bh (nth bh jA (0+(ae t17))) eD).getD (aQ,((([]:List iF),(([]:List iu),(0,()))),((ab 32 0),(0,(aQ,())))))),Fc.1,aS2,jA))))) (nM (Fc.2.1,Fc.2.2.1,Jc,t16,t17,eD,Fc.2.2.2.1,Fc.2.2.2.2.1,Fc.2.2.2.2.2.1,Fc.2.2.2.2.2.2.1,Fc.2.2.2.2.2.2.2,Ja,am4,(nth bh jA (0+(ae t17))),((bW bh (nth bh jA (0+(ae t17))) eD).getD (aQ,((([]:List iF),(([]:List iu),(0,()))),((ab 32 0),(0,(aQ,())))))),Fc.1,aS2,jA))) λI2=>al (al (aL (I2.2.1) (CR (I2.1,I2.2.1,I2.2.2.1,I2.2.2.2.1,I2.2.2.2.2.1,(!I2.2.2.2.2.2.2.2.2.2.2.2.2.2.2.1.1),I2.2.2.2.2.2.1,I2.2.2.2.2.2.2.1,I2.2.2.2.2.2.2.2.1,I2.2.2.2.2.2.2.2.2.1,I2.2.2.2.2.2.2.2.2.2.1,I2.2.2.2.2.2.2.2.2.2.2.1,I2.2.2.2.2.2.2.2.2.2.2.2.1,I2.2.2.2.2.2.2.2.2.2.2.2.2.1,I2.2.2.2.2.2.2.2.2.2.2.2.2.2.1,I2.2.2.2.2.2.2.2.2.2.2.2.2.2.2.1,I2.2.2.2.2.2.2.2.2.2.2.2.2.2.2.2.1,I2.2.2.2.2.2.2.2.2.2.2.2.2.2.2.2.2.1,I2.2.2.2.2.2.2.2.2.2.2.2.2.2.2.2.2.2)) (CR (I2.1,I2.2.1,I2.2.2.1,I2.2.2.2.1,I2.2.2.2.2.1,aQ,I2.2.2.2.2.2.1,I2.2.2.2.2.2.2.1,I2.2.2.2.2.2.2.2.1,I2.2.2.2.2.2.2.2.2.1,I2.2.2.2.2.2.2.2.2.2.1,I2.2.2.2.2.2.2.2.2.2.2.1,I2.2.2.2.2.2.2.2.2.2.2.2.1,I2.2.2.2.2.2.2.2.2.2.2.2.2.1,I2.2.2.2.2.2.2.2.2.2.2.2.2.2.1,I2.2.2.2.2.2.2.2.2.2.2.2.2.2.2.1,I2.2.2.2.2.2.2.2.2.2.2.2.2.2.2.2.1,I2.2.2.2.2.2.2.2.2.2.2.2.2.2.2.2.2.1,I2.2.2.2.2.2.2.2.2.2.2.2.2.2.2.2.2.2))) λI3=>aL (I3.2.2.2.2.2.1) (al (OH.call I3.2.2.2.2.2.2.2.2.2.2.2.2.2.2.2.2.1) λaZM=>al (I1.call (1,I3.2.2.2.2.2.2.2.2.2.2.2.2.2.2.2.2.1,I3.2.2.2.2.2.2.2.2.2.2.2.2.1,I3.2.2.2.2.2.2.2.2.2.2.2.2.2.1,I3.2.2.2.2.2.2.2.2.2.2.2.2.2.2.1,(aZ,(aZM,(I3.2.2.2.2.2.2.2.2.2.2.2.2.2.2.2.2.2.1,(I3.1,(aQ,()))))))) λaVp=>CT (I3.1,I3.2.1,I3.2.2.1,I3.2.2.2.1,I3.2.2.2.2.1,I3.2.2.2.2.2.2.1,I3.2.2.2.2.2.2.2.1,I3.2.2.2.2.2.2.2.2.1,I3.2.2.2.2.2.2.2.2.2.1,I3.2.2.2.2.2.2.2.2.2.2.1,I3.2.2.2.2.2.2.2.2.2.2.2.1,aVp.2.1,aVp.2.2,aVp.1.1,aVp.1.2,I3.2.2.2.2.2.2.2.2.2.2.2.2.2.2.2.2.1,I3.2.2.2.2.2.2.2.2.2.2.2.2.2.2.2.2.2.2)) (CT (I3.1,I3.2.1,I3.2.2.1,I3.2.2.2.1,I3.2.2.2.2.1,I3.2.2.2.2.2.2.1,I3.2.2.2.2.2.2.2.1,I3.2.2.2.2.2.2.2.2.1,I3.2.2.2.2.2.2.2.2.2.1,I3.2.2.2.2.2.2.2.2.2.2.1,I3.2.2.2.2.2.2.2.2.2.2.2.1,I3.2.2.2.2.2.2.2.2.2.2.2.2.1,I3.2.2.2.2.2.2.2.2.2.2.2.2.2.1,I3.2.2.2.2.2.2.2.2.2.2.2.2.2.2.1,I3.2.2.2.2.2.2.2.2.2.2.2.2.2.2.2.1,I3.2.2.2.2.2.2.2.2.2.2.2.2.2.2.2.2.1,I3.2.2.2.2.2.2.2.2.2.2.2.2.2.2.2.2.2.2))) λOV=>al (aL (OV.2.1) (al (pY.call (OV.2.2.2.2.2.2.1,OV.2.2.2.2.2.2.2.1,OV.2.2.2.2.2.2.2.2.1,OV.2.2.2.2.2.2.2.2.2.1,OV.2.2.2.2.2.2.2.2.2.2.1)) λaS5=>CS (OV.2.2.1,OV.2.2.2.1,OV.2.2.2.2.1,(pJ (da .i64 aS5.2 OV.1) 6),OV.2.2.2.2.2.1,aS5.1.1,aS5.1.2.1,aS5.1.2.2.1,aS5.1.2.2.2.1,aS5.1.2.2.2.2,OV.2.2.2.2.2.2.2.2.2.2.2.1,OV.2.2.2.2.2.2.2.2.2.2.2.2.1,OV.2.2.2.2.2.2.2.2.2.2.2.2.2.1,OV.2.2.2.2.2.2.2.2.2.2.2.2.2.2.1,OV.2.2.2.2.2.2.2.2.2.2.2.2.2.2.2.1,OV.2.2.2.2.2.2.2.2.2.2.2.2.2.2.2.2)) (CS (OV.2.2.1,OV.2.2.2.1,OV.2.2.2.2.1,aQ,OV.2.2.2.2.2.1,OV.2.2.2.2.2.2.1,OV.2.2.2.2.2.2.2.1,OV.2.2.2.2.2.2.2.2.1,OV.2.2.2.2.2.2.2.2.2.1,OV.2.2.2.2.2.2.2.2.2.2.1,OV.2.2.2.2.2.2.2.2.2.2.2.1,OV.2.2.2.2.2.2.2.2.2.2.2.2.1,OV.2.2.2.2.2.2.2.2.2.2.2.2.2.1,OV.2.2.2.2.2.2.2.2.2.2.2.2.2.2.1,OV.2.2.2.2.2.2.2.2.2.2.2.2.2.2.2.1,OV.2.2.2.2.2.2.2.2.2.2.2.2.2.2.2.2))) λMI=>aL (MI.2.2.2.1) (al (I1.call (3,MI.2.2.2.2.2.2.2.2.2.2.2.2.2.2.1,MI.2.2.2.2.2.2.2.2.2.2.1,MI.2.2.2.2.2.2.2.2.2.2.2.1,MI.2.2.2.2.2.2.2.2.2.2.2.2.1,(MI.2.2.2.2.2.2.2.2.2.2.2.2.2.1.1,(MI.2.2.2.2.2.2.2.2.2.2.2.2.2.1.2.1,(MI.2.2.2.2.2.2.2.2.2.2.2.2.2.1.2.2.1,(MI.2.2.2.2.2.2.2.2.2.2.2.2.2.1.2.2.2.1,(aZ,MI.2.2.2.2.2.2.2.2.2.2.2.2.2.1.2.2.2.2.2))))))) λaP8=>kn (qQ.st (MI.1,MI.2.1,(bO .i64 MI.2.2.1 1),(fj bh aP8.1.1 aP8.1.2 MI.2.2.2.2.1),MI.2.2.2.2.2.1,MI.2.2.2.2.2.2.1,MI.2.2.2.2.2.2.2.1,MI.2.2.2.2.2.2.2.2.1,MI.2.2.2.2.2.2.2.2.2.1,aP8.2.1,aP8.2.2,MI.2.2.2.2.2.2.2.2.2.2.2.2.2.2.2))) (kn (qQ.st (MI.1,MI.2.1,(bO .i64 MI.2.2.1 1),(fj bh MI.2.2.2.2.2.2.2.2.2.2.2.2.1 MI.2.2.2.2.2.2.2.2.2.2.2.2.2.1 MI.2.2.2.2.1),MI.2.2.2.2.2.1,MI.2.2.2.2.2.2.1,MI.2.2.2.2.2.2.2.1,MI.2.2.2.2.2.2.2.2.1,MI.2.2.2.2.2.2.2.2.2.1,MI.2.2.2.2.2.2.2.2.2.2.1,MI.2.2.2.2.2.2.2.2.2.2.2.1,MI.2.2.2.2.2.2.2.2.2.2.2.2.2.2.2))))) aD) aD) aD) (qQ.go kx (eD,o2L,o3L,AT,aBC,aBD,Ja,am4,jA)):=cr
theorem aLd(o1 o2baL o3baL o4 o5 o6)(k:K1 R):LN.A (o1,o2baL,o3baL,o4,o5,o6) k=al (wall.call o1) λaPi=>al (qQ.call (aPi.1,((aPi.1:Nat):Int),0,aPi.2.1,o2baL,o3baL,o4,o5,o6,0,([]:List lX),aPi.2.2)) λQN=>k (LN.out (QN.2.2.2.2.2.2.1,QN.1,QN.2.1,QN.2.2.1,QN.2.2.2.1,QN.2.2.2.2.1,QN.2.2.2.2.2.1,QN.2.2.2.2.2.2.2.1)):=cr
theorem atU{m:Wm}(h:∀p∈m,ajs p.2)(o:bJ):ajs (nO o m):=by
 unfold nO;cases hg:bW bh o m with
 |none=>exact YM
 |some x=>
  have:∃p∈m,p.2=x:=by
   unfold bW at hg;cases hi:jz bh o m with
   |none=>rw[hi]at hg;cases hg
   |some i=>
    rw[hi]at hg;have hg:(m[i]?).map (·.2)=av x:=hg;rw[dx]at hg;obtain⟨p,hp,e⟩:=hg;exact⟨p,cZ hp,e⟩
  obtain⟨p,hp,rfl⟩:=this;exact h p hp
theorem av5{A0:At}{b nb n:Nat}{a:At}{s:List cG}{bs:List dz}(h:sh A0 b nb n a s bs)(o:bJ):ng (nI o (bs.take nb)).1/\((nI o (bs.take nb)).2.2=aZ->iR (nI o (bs.take nb)).1=aZ/\1<=(nI o (bs.take nb)).2.1)/\0<=(nI o (bs.take nb)).2.1/\(nI o (bs.take nb)).2.1<=nb:=by
 unfold nI;cases e:zu o (bs.take nb) 0 with
 |none=>exact⟨v0,λh=>(by cases h),ji _,by show(0:Int)<=nb;omega⟩
 |some x=>
  obtain⟨h1,h2,c,h3,h4⟩:=av4 e;obtain⟨h5,h6⟩:=h.aWP h3 h4;rw[bB]at h2;exact⟨h6,λ_=>⟨h5,by show 1<=x.2;omega⟩,by show 0<=x.2;omega,by show x.2<=nb;omega⟩
theorem aC8{A0:At}{b nb n:Nat}{a:At}{s:List cG}{bs:List dz}(h:sh A0 b nb n a s bs)(o:bJ):xG.call (o,nb,n,a,s,bs)=av ((nI o (bs.take nb)).1,(nI o (bs.take nb)).2.1,(nI o (bs.take nb)).2.2,nb,n,a,s,bs):=by
 rw[h.aUE o];unfold nI
 all_goals cases zu o (bs.take nb) 0 <;> rfl
theorem aih{m:Wm}{o:bJ}{v:jg}{p:bJ×jg}(h:p∈fj bh o v m):p=(o,v)\/p∈m:=by
 unfold fj at h;split at h
 ·exact(List.mem_or_eq_of_mem_set h).symm
 ·rcases bD.1 h with h | h
  ·exact .inr h
  ·exact .inl (bp.1 h)
theorem aNM{A0:At}{b nb n:Nat}{a:At}{s:List cG}{bs:List dz}(h:sh A0 b nb n a s bs)(H:Int)(o:bJ){x:jg}(hx:ajs x):ajs (gG H (bs.take nb) o x).1:=by
 obtain⟨hv,jR,_⟩:=av5 h o;unfold gG;split
 ·exact hx
 ·generalize nI o (bs.take nb)=r at hv jR;have h1:ajs (j4 o x r.2.1 r.2.2 (iD r.1)).1:=by
   unfold j4;split
   ·exact YM
   ·exact hx
  have h2:ajs (so o r.1 r.2.1 r.2.2 (iD r.1) (j4 o x r.2.1 r.2.2 (iD r.1)).1).1:=by
   unfold so;split
   ·rename_i hc;exact⟨hv,λ_=>(jR (by simp only[au]at hc;exact hc.1)).1⟩
   ·exact h1
  show ajs (C4 o r.1 r.2.1 r.2.2 H _).1;unfold C4;split
  ·exact⟨h2.1,h2.2⟩
  ·exact h2
theorem aBc(H:Int)(l:List dz)(o:bJ)(x:jg):(gG H l o x).2.length<=3:=by
 unfold gG;split
 ·exact aP _
 ·have h1:∀h ok id,(j4 o x h ok id).2.length<=1:=λh ok id=>by unfold j4;split <;> exact ea rfl
  have h2:∀t h ok id x,(so o t h ok id x).2.length<=1:=λt h ok id x=>by unfold so;split <;> exact ea rfl
  have h3:∀t h ok H x,(C4 o t h ok H x).2.length<=1:=λt h ok H x=>by unfold C4;split <;> exact ea rfl
  simp only[ai];have:=h1 (nI o l).2.1 (nI o l).2.2 (iD (nI o l).1);have:=h2 (nI o l).1 (nI o l).2.1 (nI o l).2.2 (iD (nI o l).1) (j4 o x (nI o l).2.1 (nI o l).2.2 (iD (nI o l).1)).1;have:=h3 (nI o l).1 (nI o l).2.1 (nI o l).2.2 H (so o (nI o l).1 (nI o l).2.1 (nI o l).2.2 (iD (nI o l).1) (j4 o x (nI o l).2.1 (nI o l).2.2 (iD (nI o l).1)).1).1;omega
theorem axW{A0:At}{b nb n:Nat}{a:At}{s:List cG}{bs:List dz}(h:sh A0 b nb n a s bs)(H:Int)(o:bJ){m:Wm}(out:List lX)(hm:∀p∈m,ajs p.2):
  (∀p∈(lookW H (bs.take nb) (m,out) o).1,ajs p.2)/\(lookW H (bs.take nb) (m,out) o).2.length<=out.length+3:=by
 unfold lookW;split
 ·exact⟨hm,rb _ _⟩
 ·refine⟨λp hp=> ?_,?_⟩
  ·rcases aih hp with rfl | hp
   ·exact aNM h H o (atU hm o)
   ·exact hm p hp
  ·rw[ai];have:=aBc H (bs.take nb) o (nO o (m,out).1);show out.length+_<=_;omega
theorem ar6:(LN.lF 0 qQ):=by
 refine(LN.mY 0 qQ) (λ(_,_,i,_,_,_,_,_,_,_,_,ks)=>ks.length - i.toNat) ?_
 rintro⟨kL,kn,i,m,nb,n,a,s,bs,oL,out,ks⟩ ⟨hj,aHa,rfl,rfl,rfl,hm,k,hk,rfl,ho⟩;obtain⟨A0,b,hc⟩:=id hj;have aHa:ks.length<=1000000:=aHa;have hk:k<=ks.length:=hk;have ho:out.length<=3*k:=ho;have aAL:nb<=1000000:=hc.ch.2.1;by_cases h:k < ks.length
 ·left;have n1:nth bh ks k=ks[k]:=cg (t:=bh) h;have hd:ks.drop k=ks[k]::ks.drop (k+1):=aq h;generalize ks[k]=o at n1 hd;obtain⟨g1,g2⟩:=axW hc nb o out hm;refine⟨(ks.length,(ks.length:Int),((k+1:Nat):Int),(lookW nb (bs.take nb) (m,out) o).1,nb,n,a,s,bs,(lookW nb (bs.take nb) (m,out) o).2.length,(lookW nb (bs.take nb) (m,out) o).2,ks),⟨hj,aHa,rfl,rfl,rfl,g1,k+1,h,rfl,by show _<=3*(k+1);omega⟩,by simp only[aa];omega,?_,λkn kx=> ?_⟩
  ·simp only[bC,H0,aa,hd,bz]
  clear g1 g2 hd;have hx:=atU hm o;obtain⟨hv,jR,h0,hH⟩:=av5 hc o;have csp:=aC8 hc o;have ex:(bW bh o m).getD (aQ,((([]:List iF),(([]:List iu),((0:Int),()))),((ab 32 (0:Int)),((0:Int),(aQ,())))))=nO o m:=rfl;have el:lookW nb (bs.take nb) (m,out) o=if(nO o m).2.2.2.2.1 then(m,out) else(fj bh o (gG nb (bs.take nb) o (nO o m)).1 m,out++(gG nb (bs.take nb) o (nO o m)).2):=rfl
  rw[OM,aX ak,aj,bj ak ak,aj,aa,aR,aM h,aj,aM ak,aj,n1,ex];generalize nO o m=x at hx el ⊢;cases hf:x.2.2.2.2.1 with
  |true=>
   rw[hf,if_pos rfl]at el;rw[aj,el,N.mZ ak]
  |false=>
   rw[hf,if_neg fg]at el;have eX:gG nb (bs.take nb) o x=_:=if_neg (by rw[hf];decide);rw[ao,csp,el,eX];generalize nI o (bs.take nb)=r at hv jR h0 hH csp;obtain⟨t,hh,okv⟩:=r;have hv:ng t:=hv;have h0:0<=hh:=h0;have hH:hh<=nb:=hH;rw[ah];show al (tid.call t) _=_;rw[HQ (d:=t) hv];simp only[bC,YA,Uf,Ub,Uh,Ud,ah];have c1:∀(out':List lX) (x':jg) (d:Int),out'.length<=1000000000->okv=aZ->I1.call (d,t,out'.length,out',o,x')=av ((o,x'),(out'.length+1,out'++ [(d,(o,(t,(x'.2.2.2.1,()))))])):=λout' x' d hl hk=>by have:=ajm (d:=(d,t,out'.length,out',o,x')) ⟨hv,rfl,hl⟩;simp only[WM,amX,VW hv (jR hk).1]at this;exact this
   obtain⟨r1,aHf⟩:∃r,j4 o x hh okv (iD t)=r:=⟨_,rfl⟩;refine(bu (λz=>al z _) (?_:_=av (hh,okv,ks.length,(ks.length:Int),(k:Int),m,nb,n,a,s,bs,(out++r1.2).length,out++r1.2,o,r1.1,t,iD t,ks))).trans ?_
   ·rw[<-aHf];unfold j4 B6;cases aRr:x.1 with
    |false=>simp only[ao,cY,bw,bA,bm]
    |true=>
     have cw:=ajm (d:=(2,x.2.1,out.length,out,o,x)) ⟨hx.1,rfl,by show out.length<=_;omega⟩;simp only[WM,amX,VW hx.1 (hx.2 aRr)]at cw;rw[cw];simp only[ah,aj,bF];cases okv with
     |false=>simp only[fH,aj,Bool.true_or,bM,ai];rfl
     |true=>
      simp only[cQ,ao,xB];cases zg hh x.2.2.2.1 with
      |true=>simp only[aj,Bool.true_or,bM,ai];rfl
      |false=>
       simp only[ao,xB];cases Ty.beq tH (iD t) x.2.2.1 with
       |true=>simp only[cQ,ao,bw,bA,bm]
       |false=>simp only[fH,aj,bM,ai];rfl
   have l1:(out++r1.2).length<=out.length+1:=by
    rw[<-aHf];unfold j4;split
    ·rw[ai];exact ay _
    ·rw[ai];exact pQ _
   rw[ah];obtain⟨out1,aXW⟩:∃l,out++r1.2=l:=⟨_,rfl⟩;rw[aXW]at l1 ⊢;obtain⟨r2,afU⟩:∃r,so o t hh okv (iD t) r1.1=r:=⟨_,rfl⟩;refine(bu (λz=>al z _) (?_:_=av (hh,okv,ks.length,(ks.length:Int),(k:Int),m,nb,n,a,s,bs,(out1++r2.2).length,out1++r2.2,o,r2.1,t,ks))).trans ?_
   ·rw[<-afU];unfold so;cases akS:okv with
    |false=>simp only[ao,ah,cY,bw,bA,bm]
    |true=>
     cases aRr:r1.1.1 with
     |true=>simp only[aj,ao,ah,cQ,Bool.and_false,bw,bA,bm]
     |false=>
      have cw:=c1 out1 (aZ,(t,(iD t,(hh,(aQ,()))))) 1 ak akS;have ck:=WI (d:=t) hv;simp only[bC,amQ,VW hv (jR akS).1]at ck;simp only[aj,ah,fH,xA,bM,ck,cw,ai];rfl
   have l2:(out1++r2.2).length<=out1.length+1:=by
    rw[<-afU];unfold so;split
    ·rw[ai];exact ay _
    ·rw[ai];exact pQ _
   rw[ah];obtain⟨out2,aU9⟩:∃l,out1++r2.2=l:=⟨_,rfl⟩;rw[aU9]at l2 ⊢;refine(bu (λz=>al z _) (?_:_=av (ks.length,(ks.length:Int),(k:Int),okv && pJ (nb - hh) 6,m,nb,n,a,s,bs,out2.length,out2,o,r2.1,t,ks))).trans ?_
   ·cases okv with
    |false=>simp only[ao,cY]
    |true=>simp only[aj,bF,aaR,ah];rw[fh ak ak]
   rw[ah];simp only[aHf,afU];rw[<-aI,<-aI,aXW,aU9];unfold C4;cases aG7:(okv && pJ (nb - hh) 6) with
   |false=>
    simp only[ao,bw,bA,bm];rw[N.mZ ak]
   |true=>
    have akS:okv=aZ:=by simp only[au]at aG7;exact aG7.1
    have cw:=c1 out2 (r2.1.1,(r2.1.2.1,(r2.1.2.2.1,(r2.1.2.2.2.1,(aZ,()))))) 3 ak akS;simp only[aj,bM];refine(bu (λz=>al z _) cw).trans ?_
    rw[ah,N.mZ ak,ai];rfl
 ·right;obtain rfl:k=ks.length:=ak;intro R kn kx;rw[OM,aU ak,ao];simp only[bC,H0,aa,aN,de]
theorem WJ{m:Wm}(h:∀p∈m,C6 p.1):(CQ m).Perm (m.map (·.1)):=(aez sD λx hx=>by
 obtain⟨p,hp,rfl⟩:=df.1 hx;exact h p hp).1
theorem aLe:LN.Ok:=by
 rintro⟨m,nb,n,a,s,bs⟩ ⟨hj,hl,hn,hm⟩;have hl:m.length<=1000:=hl;have hle:nb<=bs.length:=by obtain⟨A0,b,hc⟩:=hj;exact hc.ch.1
 have hlen:(CQ m).length=m.length:=by rw[(WJ λp hp=>(hm p hp).1).length_eq,cm]
 have z1:((0:Int)).toNat=0:=rfl;rw[aLd,afm (d:=m) ⟨by show m.length<=_;omega,λp hp=>(hm p hp).1⟩];simp only[ah,bC,awC];rw[amT (d:=(m.length,(m.length:Int),0,m,nb,n,a,s,bs,0,[],CQ m)) ⟨hj,by show(CQ m).length<=_;omega,hlen.symm,by show(m.length:Int)=_;rw[hlen],rfl,λp hp=>(hm p hp).2,0,aP _,rfl,ay _⟩];simp only[ah,bC,H0,z1,aG,bC,Z6,eN]
theorem ajk:LN.RS:=rE [.d (.slice (.pair bh kT)),.n,.n,.d (.slice (.pair bh fv)),.d (.slice cR),.d (.slice eA)] LN
def ar7:=LN.fC aLe 1 ⟨.fI ar6,trivial⟩
def Cx:Int->SA:=λn=>([.d ti n],[])
def Mx:Bs->iB:=λx=>⟨.d tB x,[],[]⟩
def uM:Int->Bs->Bs:=λn y=>y
def Mw:Nat->Int->Prop
 | 0=>λ_=>False
 |dep+1=>λn=>0<=n/\n<=9223372036854775807/\n < 128^(dep+1)
def DU:Int->Bs:=λn=>gZ n
theorem avE{n:Int}(h:n < 128):gZ n=[n]:=by unfold gZ;rw[ix,if_neg ak];rfl
theorem aCL{n:Int}(h:128<=n)(h2:n<=9223372036854775807):gZ n=(n%128+128)::gZ (n / 128):=by unfold gZ;rw[aiS h h2];rfl
theorem ar1{n:Int}(h0:0<=n)(h:n < 256):eQ .u8 n=n:=by rw[Vp,iS];omega
theorem aiD:∀d d',Cx d=Cx d'->d=d':=YW [.d ti] λ_=>cr
def ZZ(dep:Nat):Entry:=Entry.of [av ti] Cx (Mw dep) (λd=>uM d (DU d)) Mx
def Ye(dep:Nat):Int->Option Bs:=λd=>(ZZ dep).run (Cx d).1 (Cx d).2
theorem avk{dep:Nat}{d:Int}(h:Mw dep d):Ye dep d=av (uM d (DU d)):=Entry.xe aiD h
def ayk(dep:Nat):pO:=axD 191 nh (ZZ dep) (jQ (P:=Tryz.prog) [])
def adN:yx:= {bT:=[8,13],res:=[av tB]}
def ayi(dep:Nat):= @Jg Tryz.prog (ayk dep) adN 0 Tryz.f191 _ Cx
theorem aJg(dep n)(k:K1 R):ayi dep n k=aL (gz n (128:Int)) (k (Mx [(eQ .u8 n)])) (al (Ye dep (uX .i64 n (128:Int))) λx1=>aL (dw (1+(ag x1)) 1) (aL (decide (0=0/\(0+(1+(ag x1)))<=(ag ([(bO .u8 (eQ .u8 (nP n (128:Int))) (128:Int))]++x1)))) (k (Mx (cut ([(bO .u8 (eQ .u8 (nP n (128:Int))) (128:Int))]++x1) 0 (1+(ag x1))))) aD) aD):=cr
theorem aJh:∀(dep:Nat) (d:Int),Mw (dep+1) d->ayi dep d av=av (Mx (uM d (DU d))):=by
 rintro dep (n:Int) ⟨h0,h1,h2⟩;have h0:0<=n:=h0;have h1:n<=9223372036854775807:=h1;have h2:n < 128^(dep+1):=h2;rw[aJg];simp only[uM,DU];by_cases h:n < 128
 ·rw[aX h,aj,avE h,ar1 h0 ak]
 ·obtain⟨m,rfl⟩:∃m:Nat,n=m:=⟨n.toNat,ak⟩;cases dep with
  |zero=>exact absurd h2 h
  |succ dep=>
   have e:(128:Int)^(dep+1+1)=128^(dep+1)*128:=gA 128 (dep+1);have e1:uX .i64 (m:Int) (128:Int)=((m / 128:Nat):Int):=N.aWW ak;have e2:nP (m:Int) (128:Int)=((m%128:Nat):Int):=N.aVi;have e3:bO .u8 (eQ .u8 ((m%128:Nat):Int)) (128:Int)=(m:Int)%128+128:=by rw[ar1 ak ak];show IntKind.u8.wrap _=_;rw[wrap_u8,iS];omega
   have e4:((m / 128:Nat):Int)=(m:Int) / 128:=ak;have hl:=lv ((m:Int) / 128);rw[aU h,ao,e1,e2,e3,e4,avk (dep:=dep+1) (d:=(m:Int) / 128) ⟨by show 0<=(m:Int) / 128;omega,by show(m:Int) / 128<=_;omega,by show(m:Int) / 128 < _;omega⟩];simp only[ah,uM,DU];rw[dC ak ak,aCL ak h1];have el:([(m:Int)%128+128]++gZ ((m:Int) / 128)).length=1+(gZ ((m:Int) / 128)).length:=by rw[ai];rfl
   rw[aM ⟨by trivial,by rw[el];omega⟩,fB el];rfl
def ayj:Entry:=ZZ 9
def Qt:Int->Option Bs:=Nd ayj Cx
theorem aiE{d:Int}(h:Mw 9 d):Qt d=av (uM d (DU d)):=Entry.xe aiD h
theorem Yf:∀dep,si Tryz.prog 191 (ZZ dep)
 | 0=>si.of (an:=adN) (N:=0) (fn:=Tryz.f191) cr (show Sound _ aQX from Sound.nil _) cr cr cr (lF.fn 0 cr trivial) (λ_ h=>False.elim h)
 |dep+1=>si.of (an:=adN) (N:=0) (fn:=Tryz.f191) cr (show Sound _ (ayk dep) from Sound.cons (wN.of (Yf dep) (by rfl)) (Sound.jQ (P:=Tryz.prog) [])) cr cr cr (lF.fn 0 cr trivial) (aJh dep)
def aqQ:SG Tryz.prog:=⟨191,nh,ayj,.of (Yf 9) (by rfl)⟩
def aCd:(Bs×Int)->Prop:=λ(b,n)=>b.length<=90000000/\n<=9223372036854775807
def oK:(Bs×Int)->Bs:=λ(b,n)=>cU b n
def sR:Fs Tryz.prog aCd bC oK:=fw 150 Tryz.f150 (λ(b,n)=>([.d tB b,.d ti n],[])) (λx=>⟨.d tB x,[],[]⟩) [av tB,av ti] [aqQ] {bT:=[6],res:=[av tB]}
theorem aJe(b n)(k:K1 R):sR.A (b,n) k=aL (dw (0+(ag b)) 1) (aL (Dv n 0) (al (Qt n) λx1=>aL (decide ((0+(ag b))<=(ag ((aW 0 (ab 0 0))++b)))) (aL (dw ((0+(ag b))+(ag x1)) 1) (aL (decide (0=0/\(0+((0+(ag b))+(ag x1)))<=(ag ((aW (0+(ag b)) ((aW 0 (ab 0 0))++b))++x1)))) (k (sR.out (cut ((aW (0+(ag b)) ((aW 0 (ab 0 0))++b))++x1) 0 ((0+(ag b))+(ag x1))))) aD) aD) aD) (aL (decide (0=0/\(0+(0+(ag b)))<=(ag ((aW 0 (ab 0 0))++b)))) (k (sR.out (cut ((aW 0 (ab 0 0))++b) 0 (0+(ag b))))) aD)) aD:=cr
theorem aJf:sR.Ok:=by
 rintro⟨b,n⟩ ⟨hb,hn⟩;have hb:b.length<=90000000:=hb;have hn:n<=9223372036854775807:=hn;have e0:(aW 0 (ab 0 0):List Int)=[]:=rfl;rw[aJe];simp only[aR,e0,aY,bC,oK,cU,ay,jO,cO,aj,fB,bQ];rw[dC ak ak,aj];by_cases h:n>=0
 ·have hl:=lv n;rw[hZ h,aj,if_neg ak,aiE (d:=n) ⟨h,hn,by have e:(128:Int)^(8+1)=9223372036854775808:=rfl;rw[e];show n < _;omega⟩];simp only[ah,uM,DU];rw[dC ak ak,aM ⟨by trivial,by rw[ai];omega⟩,fB (by rw[ai])];rfl
 ·rw[ff h,if_pos ak];rfl
theorem jZ:sR.RS:=rE [.d tB,.d ti] sR
def adI:=sR.fC aJf
abbrev Yd:=Int×Nat×Int×(List Int)
def agr:Yd->Prop:=λ(n,m,i,l)=>m=l.length/\∃j:Nat,j<=8/\i=7 - (j:Int)/\l.length<=100000000+j
def DT:Yd->(Nat×(List Int)):=λ(n,m,i,l)=>(m+(i+1).toNat,l++(jV n).drop (7 - i).toNat)
def avj:(Bs×Int)->Prop:=λ(b,n)=>b.length<=90000000
def adL:(Bs×Int)->Bs:=λ(b,n)=>b++jV n
def rN:Ls agr bC DT:=sH (λ(xT,outL,i,n7)=>⟨([bH,.d tu xT,bH,bH,bH,pc 7 outL,.d ti i]++aS 17 []),[],(bS 7 ([ed (.vec 5 tb n7)]++bS 16 []))⟩) (λx=>(.exit 0,⟨(aS 5 ([pc 7 x.1]++aS 18 [])),[],(bS 7 ([ed (.vec 5 tb x.2)]++bS 16 []))⟩))
def Cw:Fs Tryz.prog avj bC adL:=fw 194 Tryz.f194 (λ(b,n)=>([.d tB b,.d tu n],[])) (λx=>⟨.d tB x,[],[]⟩) [av tB,av tu] [] {bT:=[7],loops:=oJ [(3,{ba:=[1,5,6],sites:=[7],owns:=[⟨5,[],7,127⟩]})],outs:=oI [(3,{ba:=[5],sites:=[7]},{ba:=[4]})],gf:=nQ [(3,rN.E)],res:=[av tB]}
theorem ags:rN.RS:=rL [.d tu,.n,.d ti,.d tB] rN
theorem KJ(xT outL i n7)(kn:K2 R)(kx:K3 R):Cw.R 0 rN (xT,outL,i,n7) kn kx=aL (Dv i 0) (aL (nE (eQ .u64 (ia .i64 8 i))) (aL (decide (outL<=(ag n7))) (aL (dw (outL+1) 1) (kn (rN.st (xT,(outL+1),(da .i64 i 1),((aW outL n7)++ [(eQ .u8 (cP .u64 xT (eQ .u64 (ia .i64 8 i))))])))) aD) aD) aD) (rN.go kx (outL,n7)):=cr
theorem aCm(b n)(k:K1 R):Cw.A (b,n) k=aL (dw (0+(ag b)) 1) (al (rN.call (n,(0+(ag b)),7,((aW 0 (ab 0 0))++b))) λx1=>aL (decide (0=0/\(0+x1.1)<=(ag x1.2))) (k (Cw.out (cut x1.2 0 x1.1))) aD) aD:=cr
theorem al5:(Cw.lF 0 rN):=by
 refine(Cw.mY 0 rN) (λ(n,m,i,l)=>(i+1).toNat) ?_
 rintro⟨n,m,i,l⟩ ⟨rfl,j,hj,rfl,hl⟩;have hl:l.length<=100000000+j:=hl;have e1:(7 - (7 - (j:Int))).toNat=j:=ak;by_cases h:j < 8
 ·left;have e2:da .i64 (7 - (j:Int)) 1=7 - ((j+1:Nat):Int):=by rw[fh ak ak];omega
  have e3:(7 - (7 - ((j+1:Nat):Int))).toNat=j+1:=ak;have e4:ia .i64 8 (7 - (j:Int))=((56 - 8*j:Nat):Int):=by rw[JT ak ak];omega
  have e5:eQ .u64 ((56 - 8*j:Nat):Int)=((56 - 8*j:Nat):Int):=by rw[ZK,iS];omega
  refine⟨(n,l.length+1,7 - ((j+1:Nat):Int),l++ [n / 2^(56 - 8*j)%256]),⟨by rw[ai];rfl,j+1,ak,rfl,by rw[ai];show l.length+1<=_;omega⟩,by simp only;omega,?_,λkn kx=> ?_⟩
  ·simp only[bC,DT,e1,e3,anu n j h,aI,dv];rw[show l.length+1+(7 - ((j+1:Nat):Int)+1).toNat=l.length+(7 - (j:Int)+1).toNat by omega]
  ·rw[KJ,hZ ak,e4,e5,uJ ak,afg n _ ak,e2,aM (ay _),dC ak ak,bQ];rfl
 ·right;obtain rfl:j=8:=ak;intro R kn kx;rw[KJ,ff ak,ao];simp only[bC,DT,e1];rw[dS (by rw[cJ];omega),bm];rfl
theorem aCn:Cw.Ok:=by
 rintro⟨b,n⟩ hb;have hb:b.length<=90000000:=hb;have e0:(aW 0 (ab 0 0):List Int)=[]:=rfl;rw[aCm];simp only[aR,e0,aY];rw[dC ak ak,aj,ags (d:=(n,b.length,7,b)) ⟨rfl,0,ak,rfl,ak⟩];simp only[ah,bC,DT];rw[show(7 - (7:Int)).toNat=0 from rfl,show((7:Int)+1).toNat=8 from rfl,aG];have el:(b++jV n).length=b.length+8:=by rw[ai,cJ]
 rw[aM ⟨by trivial,by rw[el];omega⟩,fB el];rfl
theorem adM:Cw.RS:=rE [.d tB,.d tu] Cw
def aCo:=Cw.fC aCn 1 ⟨.fI al5,trivial⟩
def adG:(Int×Int×Int)->Prop:=λ(a,b,o)=>Pn a/\oU b/\Pn o
def Hw:(Int×Int×Int)->Int:=λ(a,b,o)=>(o+a*b)%4611686018427377339
def aqP:(Int×Int)->Prop:=λ(a,b)=>Pn a/\oU b
def aCc:(Int×Int)->Int:=λ(a,b)=>qu a b
def mQ:Ls adG bC Hw:=sH (λ(Ic,iK,outv)=>⟨([.d tu Ic,.d tu iK,bH,bH,bH,.d tu outv]++aS 16 []),[],(ab 22 [])⟩) (λx=>(.exit 0,⟨(aS 5 ([.d tu x]++aS 16 [])),[],(ab 22 [])⟩))
def tG:Fs Tryz.prog aqP bC aCc:=fw 239 Tryz.f239 (λ(a,b)=>([.d tu a,.d tu b],[])) (λx=>⟨.d tu x,[],[]⟩) [av tu,av tu] [] {loops:=oJ [(2,{ba:=[0,1,5]})],outs:=oI [(2,{ba:=[5]},{ba:=[4]})],gf:=nQ [(2,mQ.E)]}
theorem adH:mQ.RS:=rL [.d tu,.d tu,.d tu] mQ
theorem Iz(Ic iK outv)(kn:K2 R)(kx:K3 R):tG.R 0 mQ (Ic,iK,outv) kn kx=aL (pJ iK 0) (aL (oV (nP iK 2) 1) (kn (mQ.st ((nP (bO .u64 Ic Ic) 4611686018427377339),(uX .u64 iK 2),(nP (bO .u64 outv Ic) 4611686018427377339)))) (kn (mQ.st ((nP (bO .u64 Ic Ic) 4611686018427377339),(uX .u64 iK 2),outv)))) (mQ.go kx outv):=cr
theorem avb(a b)(k:K1 R):tG.A (a,b) k=al (mQ.call (a,b,0)) λx1=>k (tG.out x1):=cr
theorem aAF(o a b:Int)(m:Int):(o+a*b)%m=((if b%2=1 then(o+a)%m else o)+(a+a)%m*(b / 2))%m:=by
 have e:b=2*(b / 2)+b%2:=ak;have hb:b%2=0\/b%2=1:=ak;generalize b / 2=q at*;have l1:∀x y:Int,(x%m+(a+a)%m*y)%m=(x+(a+a)*y)%m:=λx y=>by rw[u7,iH _ (qU m),ka,iH _ (qU m),<-ka,<-u7]
 have l2:∀x y:Int,(x+(a+a)%m*y)%m=(x+(a+a)*y)%m:=λx y=>by rw[u7,ka,iH _ (qU m),<-ka,<-u7]
 rcases hb with h | h
 ·rw[if_neg ak,l2];rw[h]at e;rw[e,Int.add_zero,Int.add_mul,<-sy,qV a 2,Int.two_mul,Int.add_mul]
 ·rw[if_pos h,l1];rw[h]at e;rw[e,Int.mul_add,yy,<-sy,qV a 2,Int.two_mul];congr 1;omega
theorem aPP{n:Int}(h:oU n):uX .u64 n 2=n / 2:=ak5 h.1 ak h.2
theorem ago:(tG.lF 0 mQ):=by
 refine(tG.mY 0 mQ) (λ(a,b,o)=>b.toNat) ?_
 rintro⟨a,b,o⟩ ⟨ha,hb,ho⟩;have ha:Pn a:=ha;have hb:oU b:=hb;have ho:Pn o:=ho;obtain⟨a0,a1⟩:=ha;obtain⟨b0,b1⟩:=hb;obtain⟨o0,o1⟩:=ho;by_cases h:0 < b
 ·left;have e1:nP (bO .u64 a a) 4611686018427377339=(a+a)%4611686018427377339:=by
   have:bO .u64 a a=a+a:=by rw[vF];omega
   rw[this,xM ak]
  have e2:nP (bO .u64 o a) 4611686018427377339=(o+a)%4611686018427377339:=by
   have:bO .u64 o a=o+a:=by rw[vF];omega
   rw[this,xM ak]
  refine⟨((a+a)%4611686018427377339,b / 2,if b%2=1 then(o+a)%4611686018427377339 else o),⟨⟨ak,ak⟩,⟨ak,ak⟩,?_⟩,by simp only[];omega,?_,λkn kx=> ?_⟩
  ·show Pn (if b%2=1 then(o+a)%4611686018427377339 else o);split
   ·exact⟨ak,ak⟩
   ·exact⟨o0,o1⟩
  ·exact bu _ (aAF o a b 4611686018427377339).symm
  ·rw[Iz,dd h,e1,e2,aPP ⟨b0,b1⟩,xM b0];by_cases h1:b%2=1
   ·rw[du h1,if_pos h1];rfl
   ·rw[fm h1,if_neg h1];rfl
 ·right;intro R kn kx;obtain rfl:b=0:=ak;rw[Iz,cH ak];simp only[ao,bC,Hw];rw[show(o+a*0)%4611686018427377339=o by omega]
theorem avc:tG.Ok:=by rintro⟨a,b⟩ ⟨ha,hb⟩;rw[avb,adH (d:=(a,b,0)) ⟨ha,hb,ak,ak⟩];simp only[ah,bC,Hw,Int.zero_add];rfl
theorem Yb:tG.RS:=rE [.d tu,.d tu] tG
def avd:=tG.fC avc 1 ⟨.fI ago,trivial⟩
def adE:(Int×Int×Int)->Prop:=λ(a,n,o)=>Pn a/\oU n/\Pn o
def A2:(Int×Int×Int)->Int:=λ(a,n,o)=>am5 64 a n.toNat o
def aqM:(Int×Int)->Prop:=λ(a,n)=>Pn a/\oU n
def aCb:(Int×Int)->Int:=λ(a,n)=>pw a n.toNat
def mP:Ls adE bC A2:=sH (λ(Ic,xT,outv)=>⟨([.d tu Ic,.d tu xT,bH,bH,bH,.d tu outv]++aS 14 []),[],(ab 20 [])⟩) (λx=>(.exit 0,⟨(aS 5 ([.d tu x]++aS 14 [])),[],(ab 20 [])⟩))
def yf:Fs Tryz.prog aqM bC aCb:=fw 219 Tryz.f219 (λ(a,n)=>([.d tu a,.d tu n],[])) (λx=>⟨.d tu x,[],[]⟩) [av tu,av tu] [avd] {loops:=oJ [(2,{ba:=[0,1,5]})],outs:=oI [(2,{ba:=[5]},{ba:=[4]})],gf:=nQ [(2,mP.E)]}
theorem adF:mP.RS:=rL [.d tu,.d tu,.d tu] mP
theorem Iy(Ic xT outv)(kn:K2 R)(kx:K3 R):yf.R 0 mP (Ic,xT,outv) kn kx=aL (pJ xT 0) (aL (oV (nP xT 2) 1) (al (tG.call (outv,Ic)) λx1=>al (tG.call (Ic,Ic)) λx2=>kn (mP.st (x2,(uX .u64 xT 2),x1))) (al (tG.call (Ic,Ic)) λx3=>kn (mP.st (x3,(uX .u64 xT 2),outv)))) (mP.go kx outv):=cr
theorem au5(a n)(k:K1 R):yf.A (a,n) k=al (mP.call (a,n,1)) λx4=>k (yf.out x4):=cr
theorem agn:(yf.lF 0 mP):=by
 refine(yf.mY 0 mP) (λ(a,n,o)=>n.toNat) ?_
 rintro⟨a,n,o⟩ ⟨ha,hn,ho⟩;have ha:Pn a:=ha;have hn:oU n:=hn;have ho:Pn o:=ho;have n0:=hn.1;have n1:=hn.2;by_cases h:0 < n
 ·left;have e:A2 (a,n,o)=A2 (qu a a,n / 2,if n%2=1 then qu o a else o):=by
   show am5 64 a n.toNat o=am5 64 (qu a a) (n / 2).toNat _;rw[ado 64 65 a n.toNat o ak ak];have t1:(n / 2).toNat=n.toNat / 2:=ak;have t2:(n%2=1)=(n.toNat%2=1):=by apply propext;omega
   rw[t1];simp only[t2];show(if n.toNat=0 then o else _)=_;rw[if_neg ak]
  refine⟨(qu a a,n / 2,if n%2=1 then qu o a else o),⟨xS a a,⟨ak,ak⟩,?_⟩,by show(n / 2).toNat < n.toNat;omega,?_,λkn kx=> ?_⟩
  ·show Pn (if n%2=1 then qu o a else o);split
   ·exact xS _ _
   ·exact ho
  ·exact bu _ e.symm
  ·rw[Iy,dd h,aPP hn,xM n0,Yb (d:=(o,a)) ⟨ho,ha.u⟩,Yb (d:=(a,a)) ⟨ha,ha.u⟩];by_cases h1:n%2=1
   ·rw[du h1,if_pos h1];rfl
   ·rw[fm h1,if_neg h1];rfl
 ·right;intro R kn kx;obtain rfl:n=0:=ak;rw[Iy,cH ak];simp only[ao,bC,A2];rw[show am5 64 a (ae 0) o=o from Ct _ _ _]
theorem au6:yf.Ok:=by rintro⟨a,n⟩ ⟨ha,hn⟩;rw[au5,adF (d:=(a,n,1)) ⟨ha,hn,ak,ak⟩];rfl
theorem aqN:yf.RS:=rE [.d tu,.d tu] yf
def au7:=yf.fC au6 1 ⟨.fI agn,trivial⟩
def aqO:Int->Prop:=λp=>oU p
def Mv:Int->Bool:=λp=>wR p
def vU:Fs Tryz.prog aqO bC Mv:=fw 187 Tryz.f187 (λp=>([.d tu p],[])) (λx=>⟨.d .bool x,[],[]⟩) [av tu] [au7]
theorem au8(p)(k:K1 R):vU.A p k=aL (Dv p 1) (aL (gz p 4611686018427377339) (al (yf.call (p,2305843009213688669)) λx1=>k (vU.out (oV x1 1))) (k (vU.out aQ))) (k (vU.out aQ)):=cr
theorem au9:vU.Ok:=by
 intro(p:Int) hp;have hp:oU p:=hp;rw[au8];simp only[bC,Mv,wR];by_cases h:0 < p
 ·rw[hZ ak,aj];by_cases h2:p < 4611686018427377339
  ·rw[aX h2,aj,aM ⟨h,h2⟩,bF,aqN (d:=(p,2305843009213688669)) ⟨⟨ak,h2⟩,by constructor <;> decide⟩];rfl
  ·rw[aU h2,ao,aV (λx=>h2 x.2),cY]
 ·rw[ff ak,ao,aV (λx=>h x.1),cY]
theorem Ya:vU.RS:=rE [.d tu] vU
def ava:=vU.fC au9
abbrev qD:=pM×Int
def j5:qD->AS:=λ(iK,i)=>⟨([bH,.dV kS iK,bH,.d ti i]++aS 50 []),[],(ab 54 [])⟩
def kQ:Unit->Exit×AS:=λx=>(.ret,⟨([bH,bH,.d .bool aQ]++aS 51 []),[],(ab 54 [])⟩)
def rK:pM->Exit×AS:=λx=>(.exit 0,⟨([bH,.dV kS x]++aS 52 []),[],(ab 54 [])⟩)
abbrev Cv:=(Unit)⊕(pM)
abbrev Ks:=(Unit)⊕(Unit)
def xl:Cv->Out (Exit×AS):=λx=> .br x.isLeft (.get x.getLeft? λa=> .ok (kQ a)) (.get x.getRight? λb=> .ok (rK b))
def iQ:qD->Ks->Cv:=λ(iK,i) y=>match y with | .inl y=> .inl y | .inr z=> .inr (iK)
def rJ:qD->Prop:=λ(b,i)=>aEi b/\b.1.length<=1000000000/\∃k:Nat,k<=b.1.length/\i=k
def jS:qD->Ks:=λ(b,i)=>if(b.1.drop i.toNat).all wR then .inr () else .inl ()
def agl:pM->Prop:=λb=>aEi b
def Kq:pM->Bool:=λb=>wH b
def Kr:=dI.fI j5 rJ iQ jS xl
def DQ:qD->Option Cv:=gO Kr j5
def iw:Fs Tryz.prog agl bC Kq:=fw 145 Tryz.f145 (λb=>([.d kS b],[])) (λx=>⟨.d .bool x,[],[]⟩) [av kS] [ava] {loops:=oJ [(4,{ba:=[1,3]})],outs:=oI [(4,{ba:=[1]},{ba:=[2]})],gf:=nQ [(4,Kr)]}
def Cu:= @eG Tryz.prog (jQ iw.G) iw.an 0 Tryz.f145 0 _ j5
abbrev Ix:=j7 Tryz.prog (jQ iw.G) iw.an 0 Tryz.f145 0 j5 rJ iQ jS xl
theorem VR:jh DQ rJ iQ jS:=lH (jx [.d kS,.d ti] λ_=>cr)
theorem Jb:mK @Cu j5 rJ iQ jS xl Ix:=nc
theorem DR(iK i)(kn:K2 R)(kx:K3 R):Cu (iK,i) kn kx=aL (gz i (((ag iK.1):Nat):Int)) (aL (eL i (((ag iK.1):Nat):Int)) (al (vU.call (nth tu iK.1 (ae i))) λx1=>aL (!x1) (kx (kQ ()).1 (kQ ()).2) (kn (j5 (iK,(bO .i64 i (1:Int)))))) aD) (kx (rK iK).1 (rK iK).2):=cr
theorem alO(b)(k:K1 R):iw.A b k=aL (pJ (b.1.length:Int) 12) (k (iw.out aQ)) (aL (gz b.2.1 0) (k (iw.out aQ)) (aL (pJ b.2.1 1048576) (k (iw.out aQ)) (aL (gz b.2.2.1 0) (k (iw.out aQ)) (aL (pJ b.2.2.1 1048576) (k (iw.out aQ)) (al (DQ (b,0)) λx2=>aL x2.isLeft (al x2.getLeft? λa3=>k (iw.out aQ)) (al x2.getRight? λb4=>al (vU.call b4.2.2.2.1) λx5=>aL (oV b4.2.2.2.1 0) (k (iw.out aZ)) (k (iw.out x5)))))))):=cr
theorem Y2:Ix:=by
 refine Jb (λ(b,i)=>b.1.length - i.toNat) ?_
 rintro⟨b,i⟩ ⟨hb,hl,k,hk,rfl⟩;have hl:b.1.length<=1000000000:=hl;have hk:k<=b.1.length:=hk;by_cases h:k < b.1.length
 ·have hx:=hb.1 _ (aO h);have n1:nth (.int .u64) b.1 k=b.1[k]:=cg (t:= .int .u64) h;have hd:(b.1.drop k).all wR=(wR b.1[k] && (b.1.drop (k+1)).all wR):=by rw[aq h,fK]
  have step:∀ {R:Type} (kn:AS->Option R) (kx:Exit->AS->Option R),Cu (b,(k:Int)) kn kx=aL (wR b.1[k]) (kn (j5 (b,((k+1:Nat):Int)))) (kx (kQ ()).1 (kQ ()).2):=by intro R kn kx;rw[DR,aX ak,bj ak ak,aa,n1,N.mZ ak,Ya (d:=b.1[k]) hx];simp only[aj,ah,bC,Mv];cases wR b.1[k] <;> rfl
  cases hp:wR b.1[k]
  ·right;refine⟨kQ (),?_,λkn kx=> ?_⟩
   ·simp only[iQ,jS,aa,hd,hp,cY,bw,bA];rfl
   ·rw[step,hp,ao]
  ·left;refine⟨(b,((k+1:Nat):Int)),⟨hb,hl,k+1,ak,rfl⟩,by simp only[aa];omega,?_,λkn kx=> ?_⟩
   ·simp only[iQ,jS,aa,hd,hp,bF]
   ·rw[step,hp,aj]
 ·right;obtain rfl:k=b.1.length:=ak;refine⟨rK b,?_,λkn kx=> ?_⟩
  ·simp only[iQ,jS,aa,aN];rfl
  ·rw[DR];simp(disch:=omega) only[↓S1,↓if_pos,↓if_neg,if_pos,if_neg,bM,bA,S2]
theorem alP:iw.Ok:=by
 rintro⟨ks,af,dl,sc,u⟩ hb;have hb:aEi (ks,af,dl,sc,u):=hb;have h2:oU sc:=hb.2;rw[alO];simp only[bC,Kq,wH,PM];by_cases hk:ks.length<=12
 ·rw[cH ak,aM hk,VR (d:=((ks,af,dl,sc,u),0)) ⟨hb,by show ks.length<=1000000000;omega,0,ak,rfl⟩];simp only[ao,bF,ah,iQ,jS,bg,aG];by_cases a1:af < 0
  ·rw[aX a1,aV (p:=0<=af/\af<=1048576) ak];cases ks.all wR <;> rfl
  by_cases a2:af > 1048576
  ·rw[aU a1,dd a2,aV (p:=0<=af/\af<=1048576) ak];cases ks.all wR <;> rfl
  by_cases a3:dl < 0
  ·rw[aU a1,cH a2,aX a3,aV (p:=0<=dl/\dl<=1048576) ak];cases ks.all wR <;> cases(decide (0<=af/\af<=1048576)) <;> rfl
  by_cases a4:dl > 1048576
  ·rw[aU a1,cH a2,aU a3,dd a4,aV (p:=0<=dl/\dl<=1048576) ak];cases ks.all wR <;> cases(decide (0<=af/\af<=1048576)) <;> rfl
  rw[aU a1,cH a2,aU a3,cH a4,aM (p:=0<=dl/\dl<=1048576) ak,aM (p:=0<=af/\af<=1048576) ak];cases aHa:ks.all wR
  ·simp only[aHa,bw,bA];rfl
  ·simp only[aHa,bM];show al (vU.call sc) _=_;rw[Ya (d:=sc) h2];simp only[ah,bC,Mv];by_cases hs:sc=0
   ·rw[aM hs];show aL (oV sc 0) _ _=_;rw[du hs];rfl
   ·rw[aV hs];show aL (oV sc 0) _ _=_;rw[fm hs];rfl
 ·rw[dd ak,aV hk];rfl
theorem agm:iw.RS:=rE [.d kS] iw
def alQ:=iw.fC alP 1 ⟨.fI Y2,trivial⟩
abbrev sJ:=Lk×Int
def lj:sJ->AS:=λ(wJ,i)=>⟨([bH,.dV QQ wJ,bH,.d ti i]++aS 24 []),[],(ab 28 [])⟩
def lR:Unit->Exit×AS:=λx=>(.ret,⟨([bH,bH,.d .bool aQ]++aS 25 []),[],(ab 28 [])⟩)
def tl:Unit->Exit×AS:=λx=>(.exit 0,⟨(aS 28 []),[],(ab 28 [])⟩)
abbrev EI:=(Unit)⊕(Unit)
abbrev N3:=(Unit)⊕(Unit)
def zk:EI->Out (Exit×AS):=λx=> .br x.isLeft (.get x.getLeft? λa=> .ok (lR a)) (.get x.getRight? λb=> .ok (tl b))
def jk:sJ->N3->EI:=λ(wJ,i) y=>match y with | .inl y=> .inl y | .inr z=> .inr (z)
def tj:sJ->Prop:=λ(l,i)=>afE l/\l.1.length<=1000000000/\∃k:Nat,k<=l.1.length/\i=k
def ku:sJ->N3:=λ(l,i)=>if(l.1.drop i.toNat).all wH then .inr () else .inl ()
def alT:Lk->Prop:=λl=>afE l
def Hv:Lk->Bool:=λl=>lK l
def N0:=dI.fI lj tj jk ku zk
def FO:sJ->Option EI:=gO N0 lj
def lh:Fs Tryz.prog alT bC Hv:=fw 93 Tryz.f93 (λl=>([.d QQ l],[])) (λx=>⟨.d .bool x,[],[]⟩) [av QQ] [alQ] {loops:=oJ [(4,{ba:=[1,3]})],outs:=oI [(4,{},{ba:=[2]})],gf:=nQ [(4,N0)]}
def EH:= @eG Tryz.prog (jQ lh.G) lh.an 0 Tryz.f93 0 _ lj
abbrev Kt:=j7 Tryz.prog (jQ lh.G) lh.an 0 Tryz.f93 0 lj tj jk ku zk
theorem Y7:jh FO tj jk ku:=lH (jx [.d QQ,.d ti] λ_=>cr)
theorem Ku:mK @EH lj tj jk ku zk Kt:=nc
theorem FP(wJ i)(kn:K2 R)(kx:K3 R):EH (wJ,i) kn kx=aL (gz i (((ag wJ.1):Nat):Int)) (aL (eL i (((ag wJ.1):Nat):Int)) (al (iw.call (nth kS wJ.1 (ae i))) λx1=>aL (!x1) (kx (lR ()).1 (lR ()).2) (kn (lj (wJ,(bO .i64 i (1:Int)))))) aD) (kx (tl ()).1 (tl ()).2):=cr
theorem aqx(l)(k:K1 R):lh.A l k=aL (gz (l.1.length:Int) 1) (k (lh.out aQ)) (aL (pJ (l.1.length:Int) 4) (k (lh.out aQ)) (al (FO (l,0)) λx2=>aL x2.isLeft (al x2.getLeft? λa3=>k (lh.out aQ)) (al x2.getRight? λb4=>k (lh.out aZ)))):=cr
theorem ads:Kt:=by
 refine Ku (λ(l,i)=>l.1.length - i.toNat) ?_
 rintro⟨l,i⟩ ⟨hb,hl,k,hk,rfl⟩;have hl:l.1.length<=1000000000:=hl;have hk:k<=l.1.length:=hk;by_cases h:k < l.1.length
 ·have hx:=hb _ (aO h);have n1:nth (.pair (.slice (.int .u64)) (.pair (.int .i64) (.pair (.int .i64) (.pair (.int .u64) .unit)))) l.1 k=l.1[k]:=cg (t:=(.pair (.slice (.int .u64)) (.pair (.int .i64) (.pair (.int .i64) (.pair (.int .u64) .unit))))) h;have hd:(l.1.drop k).all wH=(wH l.1[k] && (l.1.drop (k+1)).all wH):=by rw[aq h,fK]
  have step:∀ {R:Type} (kn:AS->Option R) (kx:Exit->AS->Option R),EH (l,(k:Int)) kn kx=aL (wH l.1[k]) (kn (lj (l,((k+1:Nat):Int)))) (kx (lR ()).1 (lR ()).2):=by intro R kn kx;rw[FP,aX ak,bj ak ak,aa,n1,N.mZ ak,agm (d:=l.1[k]) hx];simp only[aj,ah,bC,Kq];cases wH l.1[k] <;> rfl
  cases hp:wH l.1[k]
  ·right;refine⟨lR (),?_,λkn kx=> ?_⟩
   ·simp only[jk,ku,aa,hd,hp,cY,bw,bA];rfl
   ·rw[step,hp,ao]
  ·left;refine⟨(l,((k+1:Nat):Int)),⟨hb,hl,k+1,ak,rfl⟩,by simp only[aa];omega,?_,λkn kx=> ?_⟩
   ·simp only[jk,ku,aa,hd,hp,bF]
   ·rw[step,hp,aj]
 ·right;obtain rfl:k=l.1.length:=ak;refine⟨tl (),?_,λkn kx=> ?_⟩
  ·simp only[jk,ku,aa,aN];rfl
  ·rw[FP];simp(disch:=omega) only[↓S1,↓if_pos,↓if_neg,if_pos,if_neg,bM,bA,S2]
theorem aqy:lh.Ok:=by
 intro l hl;have hl:afE l:=hl;rw[aqx];simp only[bC,Hv,lK];by_cases h0:l.1.length < 1
 ·rw[aX ak,aV (p:=0 < l.1.length/\l.1.length<=4) ak,Bool.and_false];rfl
 by_cases h4:l.1.length > 4
 ·rw[aU ak,dd ak,aV (p:=0 < l.1.length/\l.1.length<=4) ak,Bool.and_false];rfl
 rw[aU ak,cH ak,aM (p:=0 < l.1.length/\l.1.length<=4) ak,Bool.and_true,Y7 (d:=(l,0)) ⟨hl,by show l.1.length<=1000000000;omega,0,ak,rfl⟩];simp only[ao,ah,jk,ku,bg,aG];cases l.1.all wH <;> rfl
theorem S6:lh.RS:=rE [.d QQ] lh
def X8:=lh.fC aqy 1 ⟨.fI ads,trivial⟩
abbrev EG:=Lk×Bs×Int×Int×pM
def th:EG->Bs->((Lk×Int×pM)×(Bs)):=λ(ab9,xf,gv,kv,n5) y=>((ab9,gv,n5),y)
def Y5:EG->Prop:=λ(l,o,i,j,b)=>b.1.length<=12/\∃k:Nat,k<=b.1.length/\j=k/\o.length+8*b.1.length<=80000000+8*k
def xY:EG->Bs:=λ(l,o,i,j,b)=>nD o (b.1.drop j.toNat)
def Y3:(Lk×Bs×Int)->Prop:=λ(l,o,i)=>(∀b∈l.1,aS7 b)/\l.1.length<=4/\∃k:Nat,k<=l.1.length/\i=k/\o.length<=1000+200*k
def EF:(Lk×Bs×Int)->Bs:=λ(l,o,i)=>(l.1.drop i.toNat).foldl aD7 o
def alR:Lk->Prop:=λl=>afE l
def Qo:Lk->Bs:=λl=>PU l
def mA:Ls Y3 bC EF:=sH (λ(wJ,outv,i)=>⟨([bH,.dV QQ wJ,bH,.d tB outv,.d ti i]++aS 53 []),[],(ab 58 [])⟩) (λx=>(.exit 0,⟨([bH,bH,bH,.d tB x]++aS 54 []),[],(ab 58 [])⟩))
def mB:Ls Y5 th xY:=sH (λ(ab9,xf,gv,kv,n5)=>⟨([bH,.dV QQ ab9,bH,.d tB xf,.d ti gv,fx 5,.d ti kv]++aS 51 []),[],(bS 5 ([ed (.d kS n5)]++bS 52 []))⟩) (λx=>(.exit 2,⟨([bH,.dV QQ x.1.1,bH,.d tB x.2,.d ti x.1.2.1,fx 5]++aS 52 []),[],(bS 5 ([ed (.d kS x.1.2.2)]++bS 52 []))⟩))
def mz:Fs Tryz.prog alR bC Qo:=fw 160 Tryz.f160 (λl=>([.d QQ l],[])) (λx=>⟨.d tB x,[],[]⟩) [av QQ] [X8,adI,aCo] {loops:=oJ [(5,{ba:=[1,3,4]}),(10,{ba:=[1,3,4,5,6],sites:=[5]})],outs:=oI [(5,{ba:=[3]},{ba:=[2]}),(10,{ba:=[1,3,4,5],sites:=[5]},{ba:=[2]})],gf:=nQ [(5,mA.E),(10,mB.E)],res:=[av tB]}
theorem Y4:mA.RS:=rL [.d QQ,.d tB,.d ti] mA
theorem FM(wJ outv i)(kn:K2 R)(kx:K3 R):mz.R 0 mA (wJ,outv,i) kn kx=aL (gz i (wJ.1.length:Int)) (aL (eL i (wJ.1.length:Int)) (al (sR.call (outv,(((ag (nth kS wJ.1 (ae i)).1):Nat):Int))) λx1=>al (mB.call (wJ,x1,i,0,(nth kS wJ.1 (ae i)))) λx2=>al (sR.call (x2.2,x2.1.2.2.2.1)) λx3=>al (sR.call (x3,x2.1.2.2.2.2.1)) λx4=>al (Cw.call (x4,x2.1.2.2.2.2.2.1)) λx5=>kn (mA.st (x2.1.1,x5,(bO .i64 x2.1.2.1 1)))) aD) (mA.go kx outv):=cr
theorem Y6:mB.RS:=rL [.d QQ,.d tB,.d ti,.d ti,.d kS] mB
theorem FN(ab9 xf gv kv n5)(kn:K2 R)(kx:K3 R):mz.R 1 mB (ab9,xf,gv,kv,n5) kn kx=aL (gz kv (n5.1.length:Int)) (aL (eL kv (n5.1.length:Int)) (al (Cw.call (xf,(nth tu n5.1 (ae kv)))) λx1=>kn (mB.st (ab9,x1,gv,(bO .i64 kv 1),n5))) aD) (mB.go kx ((ab9,gv,n5),xf)):=cr
theorem aqu(l)(k:K1 R):mz.A l k=al (lh.call l) λx1=>aL (!x1) (k (mz.out ([]:List Int))) (al (sR.call (([]:List Int),(l.1.length:Int))) λx2=>al (mA.call (l,x2,0)) λx9=>k (mz.out x9)):=cr
theorem adr:(mz.lF 1 mB):=by
 refine(mz.mY 1 mB) (λ(l,o,i,j,b)=>b.1.length - j.toNat) ?_
 rintro⟨l,o,i,j,b⟩ ⟨ah1,k,hk,rfl,hl⟩;have ah1:b.1.length<=12:=ah1;have hk:k<=b.1.length:=hk;have hl:o.length+8*b.1.length<=80000000+8*k:=hl;by_cases h:k < b.1.length
 ·left;have n1:nth (.int .u64) b.1 k=b.1[k]:=cg (t:= .int .u64) h;refine⟨(l,o++jV b.1[k],i,((k+1:Nat):Int),b),⟨ah1,k+1,ak,rfl,by rw[ai,cJ];omega⟩,by simp only[aa];omega,?_,λkn kx=> ?_⟩
  ·simp only[th,xY,aa];rw[ab5 _ _ _ h]
  ·rw[FN,aX ak,bj ak ak,aa,n1,adM (d:=(o,b.1[k])) (by show o.length<=90000000;omega)];simp only[aj,ah,bC,adL];rw[N.mZ ak]
 ·right;obtain rfl:k=b.1.length:=ak;intro R kn kx;rw[FN,aU ak,ao];simp only[th,xY,aa,aN];rfl
theorem adq:(mz.lF 0 mA):=by
 refine(mz.mY 0 mA) (λ(l,o,i)=>l.1.length - i.toNat) ?_
 rintro⟨l,o,i⟩ ⟨hb,h4,k,hk,rfl,hl⟩;have h4:l.1.length<=4:=h4;have hk:k<=l.1.length:=hk;have hl:o.length<=1000+200*k:=hl;by_cases h:k < l.1.length
 ·left;have hx:=hb _ (aO h);have n1:nth (.pair (.slice (.int .u64)) (.pair (.int .i64) (.pair (.int .i64) (.pair (.int .u64) .unit)))) l.1 k=l.1[k]:=cg (t:=(.pair (.slice (.int .u64)) (.pair (.int .i64) (.pair (.int .i64) (.pair (.int .u64) .unit))))) h;have e0:=ajK o l.1[k] hx.1;refine⟨(l,aD7 o l.1[k],((k+1:Nat):Int)),⟨hb,h4,k+1,ak,rfl,ak⟩,by simp only[aa];omega,?_,λkn kx=> ?_⟩
  ·simp only[bC,EF,aa];rw[aq h];rfl
  ·rw[FM,aX ak,bj ak ak,aa,n1];obtain⟨⟨ks,af,dl,sc,u⟩,aQ0⟩:∃b,l.1[k]=b:=⟨_,rfl⟩;rw[aQ0]at hx e0 ⊢;obtain⟨ah1,ha,hd⟩:=hx;have ah1:ks.length<=12:=ah1;have ha:af<=9223372036854775807:=ha;have hd:dl<=9223372036854775807:=hd;have l1:=dN o ks.length;have l2:=Mp ks (cU o ks.length);have l3:=dN (nD (cU o ks.length) ks) af;have l4:=dN (cU (nD (cU o ks.length) ks) af) dl;simp only[aj];rw[jZ (d:=(o,(ks.length:Int))) ⟨by show o.length<=90000000;omega,by show(ks.length:Int)<=9223372036854775807;omega⟩];simp only[ah,bC,oK];rw[Y6 (d:=(l,cU o ks.length,(k:Int),0,(ks,af,dl,sc,u))) ⟨ah1,0,aP _,rfl,by show(cU o ks.length).length+8*ks.length<=_;omega⟩];simp only[ah,th,xY,bg,aG];rw[jZ (d:=(nD (cU o ks.length) ks,af)) ⟨by show(nD (cU o ks.length) ks).length<=90000000;omega,ha⟩];simp only[ah,bC,oK];rw[jZ (d:=(cU (nD (cU o ks.length) ks) af,dl)) ⟨by show(cU (nD (cU o ks.length) ks) af).length<=90000000;omega,hd⟩];simp only[ah,bC,oK];rw[adM (d:=(cU (cU (nD (cU o ks.length) ks) af) dl,sc)) (by show(cU (cU (nD (cU o ks.length) ks) af) dl).length<=90000000;omega)];simp only[ah,bC,adL];rw[N.mZ ak];rfl
 ·right;obtain rfl:k=l.1.length:=ak;intro R kn kx;rw[FM,aU ak,ao];simp only[bC,EF,aa,aN];rfl
theorem aqv:mz.Ok:=by
 intro l hl;have hl:afE l:=hl;rw[aqu,S6 (d:=l) hl];simp only[ah,bC,Hv,bC,Qo,PU];cases jR:lK l
 ·rfl
 ·obtain⟨h1,h2,h3⟩:=auq jR;have l1:=dN [] l.1.length;have l0:([]:List Int).length=0:=rfl;simp only[cQ,ao,bM];rw[jZ (d:=([],(l.1.length:Int))) ⟨by show([]:List Int).length<=90000000;omega,by show(l.1.length:Int)<=9223372036854775807;omega⟩];simp only[ah,bC,oK];rw[Y4 (d:=(l,cU [] l.1.length,0)) ⟨h1,h3,0,aP _,rfl,by show(cU [] l.1.length).length<=_;omega⟩];rfl
theorem alS:mz.RS:=rE [.d QQ] mz
def aqw:=mz.fC aqv 2 ⟨.fI adq,⟨.fI adr,trivial⟩⟩
abbrev Yc:=Bs×Nat×Int×(List Int)
def agp:Yc->Prop:=λ(h,m,i,l)=>h.length=32/\m=l.length/\∃k:Nat,k<=32/\i=k/\l.length<=100000000+k
def DS:Yc->(Nat×(List Int)):=λ(h,m,i,l)=>((l++h.drop i.toNat).length,l++h.drop i.toNat)
def avg:(Bs×Bs)->Prop:=λ(b,h)=>b.length<=90000000/\h.length=32
def F7:(Bs×Bs)->Bs:=λ(b,h)=>b++h
def rM:Ls agp bC DS:=sH (λ(R2,outL,i,n7)=>⟨([bH,bH,bH,.dV tH R2,bH,pc 7 outL,.d ti i]++aS 14 []),[],(bS 7 ([ed (.vec 5 tb n7)]++bS 13 []))⟩) (λx=>(.exit 0,⟨(aS 5 ([pc 7 x.1]++aS 15 [])),[],(bS 7 ([ed (.vec 5 tb x.2)]++bS 13 []))⟩))
def xm:Fs Tryz.prog avg bC F7:=fw 149 Tryz.f149 (λ(b,h)=>([.d tB b,.d tH h],[])) (λx=>⟨.d tB x,[],[]⟩) [av tB,av tH] [] {bT:=[7],loops:=oJ [(3,{ba:=[3,5,6],sites:=[7],owns:=[⟨5,[],7,127⟩]})],outs:=oI [(3,{ba:=[5],sites:=[7]},{ba:=[4]})],gf:=nQ [(3,rM.E)],res:=[av tB]}
theorem agq:rM.RS:=rL [.d tH,.n,.d ti,.d tB] rM
theorem KH(R2 outL i n7)(kn:K2 R)(kx:K3 R):xm.R 0 rM (R2,outL,i,n7) kn kx=aL (gz i 32) (aL (eL i 32) (aL (decide (outL<=(ag n7))) (aL (dw (outL+1) 1) (kn (rM.st (R2,(outL+1),(bO .i64 i 1),((aW outL n7)++ [(nth tb R2 (ae i))])))) aD) aD) aD) (rM.go kx (outL,n7)):=cr
theorem aCh(b h)(k:K1 R):xm.A (b,h) k=aL (dw (0+(ag b)) 1) (al (rM.call (h,(0+(ag b)),0,((aW 0 (ab 0 0))++b))) λx1=>aL (decide (0=0/\(0+x1.1)<=(ag x1.2))) (k (xm.out (cut x1.2 0 x1.1))) aD) aD:=cr
theorem al4:(xm.lF 0 rM):=by
 refine(xm.mY 0 rM) (λ(_,_,i,_)=>(32 - i).toNat) ?_
 rintro⟨h,m,i,l⟩ ⟨aQY,rfl,k,hk,rfl,hl⟩;have aQY:h.length=32:=aQY;have hl:l.length<=100000000+k:=hl;by_cases iA:k < 32
 ·left;have n1:nth tb h k=h[k]:=cg (t:=tb) ak;have el:(l++ [h[k]]).length=l.length+1:=by rw[ai];rfl
  refine⟨(h,l.length+1,((k+1:Nat):Int),l++ [h[k]]),⟨aQY,el.symm,k+1,ak,rfl,by show(l++ [h[k]]).length<=_;omega⟩,by show(32 - ((k+1:Nat):Int)).toNat < (32 - (k:Int)).toNat;omega,?_,λkn kx=> ?_⟩
  ·simp only[bC,DS,aa];rw[aq (show k < h.length by omega),aI,dv]
  ·rw[KH,aX ak,aj,bj ak ak,aj,aM (ay _),aj,dC ak ak,aj,N.mZ ak,aa,n1,bQ]
 ·right;obtain rfl:k=32:=ak;intro T kn kx;rw[KH,aU ak,ao];simp only[bC,DS,aa];rw[dS ak,bm]
theorem aCi:xm.Ok:=by rintro⟨b,h⟩ ⟨hb,aQY⟩;have hb:b.length<=90000000:=hb;have aQY:h.length=32:=aQY;rw[aCh];simp only[aR,dZ,aY];rw[dC ak ak,aj,agq (d:=(h,b.length,0,b)) ⟨aQY,rfl,0,ak,rfl,ak⟩];simp only[ah,bC,DS,bg,aG,ay,jO,cO,aj,fB,bC,F7]
theorem Hx:xm.RS:=rE [.d tB,.d tB] xm
def aiC:=xm.fC aCi 1 ⟨.fI al4,trivial⟩
def avh:(Bs×Int)->Prop:=λ(b,n)=>b.length<=90000000/\n<=9223372036854775807
def adK:(Bs×Int)->(Nat×(List Int)):=λ(b,n)=>((cU b n).length,cU b n)
def KI:Fs Tryz.prog avh bC adK:=fw 150 Tryz.f150 (λ(b,n)=>([.d tB b,.d ti n],[])) (λx=>⟨.bE (.new 0 0) 0 [] 0 0 x.1,[],[.obj 0 aQ (.vec 5 tb x.2)]⟩) [av tB,av ti] [aqQ] {bT:=[6],owns:=[⟨4,[],6,127⟩]}
theorem aCj(b n)(k:K1 R):KI.A (b,n) k=aL (dw (0+(ag b)) 1) (aL (Dv n 0) (al (Qt n) λx1=>aL (decide ((0+(ag b))<=(ag ((aW 0 (ab 0 0))++b)))) (aL (dw ((0+(ag b))+(ag x1)) 1) (k (KI.out (((0+(ag b))+(ag x1)),((aW (0+(ag b)) ((aW 0 (ab 0 0))++b))++x1)))) aD) aD) (k (KI.out ((0+(ag b)),((aW 0 (ab 0 0))++b))))) aD:=cr
theorem aCk:KI.Ok:=by
 rintro⟨b,n⟩ ⟨hb,hn⟩;have hb:b.length<=90000000:=hb;have hn:n<=9223372036854775807:=hn;rw[aCj];simp only[aR,dZ,aY,bC,adK,cU,ay,cO,aj,bQ];rw[dC ak ak,aj];by_cases h:n>=0
 ·have hl:=lv n;rw[hZ h,aj,if_neg ak,aiE (d:=n) ⟨h,hn,by have e:(128:Int)^(8+1)=9223372036854775808:=rfl;rw[e];show n < _;omega⟩];simp only[ah,uM,DU];rw[dC ak ak,ai];rfl
 ·rw[ff h,if_pos ak];rfl
theorem avi:KI.RS:=rE [.d tB,.d ti] KI
def aCl:=KI.fC aCk
def ave:(Bs×Bs)->Prop:=λ(b,c)=>b.length+c.length<=80000000
def adJ:(Bs×Bs)->Bs:=λ(b,c)=>b++(gZ c.length++c)
def Qs:Fs Tryz.prog ave bC adJ:=fw 159 Tryz.f159 (λ(b,c)=>([.d tB b,.d tB c],[])) (λx=>⟨.d tB x,[],[]⟩) [av tB,av tB] [aCl] {res:=[av tB]}
theorem aCe(b c)(k:K1 R):Qs.A (b,c) k=al (KI.call (b,(c.length:Int))) λx1=>aL (decide (x1.1<=(ag x1.2))) (aL (dw (x1.1+(ag c)) 1) (aL (decide (0=0/\(0+(x1.1+(ag c)))<=(ag ((aW x1.1 x1.2)++c)))) (k (Qs.out (cut ((aW x1.1 x1.2)++c) 0 (x1.1+(ag c))))) aD) aD) aD:=cr
theorem aCf:Qs.Ok:=by
 rintro⟨b,c⟩ h;have h:b.length+c.length<=80000000:=h;have hl:=dN b c.length;have e:cU b c.length=b++gZ c.length:=by unfold cU;rw[if_neg ak]
 have el:(b++gZ c.length++c).length=(b++gZ c.length).length+c.length:=ai;rw[aCe,avi (d:=(b,(c.length:Int))) ⟨by show b.length<=_;omega,by show(c.length:Int)<=_;omega⟩];simp only[ah,bC,adK,ay,cO,aj,bQ,aR,nL];rw[e]at hl ⊢;rw[dC ak ak,aj,aM ak,aj,fB el];simp only[bC,adJ,aI]
theorem avf:Qs.RS:=rE [.d tB,.d tB] Qs
def aCg:=Qs.fC aCf
def aB6:YO->Prop:=λ_=>True
def alU:YO->Bool:=λw=>CP w
def S7:Fs Tryz.prog aB6 bC alU:=fw 158 Tryz.f158 (λwv=>([.d aDe wv],[])) (λx=>⟨.d .bool x,[],[]⟩) [av aDe]
theorem aI6(wv)(k:K1 R):S7.A wv k=aL (Dv wv.1 0) (aL (akZ wv.1 3) (k (S7.out (akZ (wv.2.1.length:Int) 12))) (k (S7.out aQ))) (k (S7.out aQ)):=cr
theorem aI7:S7.Ok:=by
 rintro⟨b,ss,sc,u⟩ _;rw[aI6];simp only[bC,alU,CP];by_cases h:0<=b
 ·rw[hZ h,aj];by_cases h2:b < 4
  ·rw[pa ak,aj,aM ⟨h,h2⟩,bF];by_cases h3:ss.length<=12
   ·rw[pa ak,aM h3]
   ·rw[kO ak,aV h3]
  ·rw[kO ak,ao,aV (λx=>h2 x.2),cY]
 ·rw[ff h,ao,aV (λx=>h x.1),cY]
theorem aB7:S7.RS:=rE [.d aDe] S7
def aI8:=S7.fC aI7
def abK(pre:List iF)(o:bJ):Bool:=pre.any λy=>Ty.beq bh y.1 o
def apq:List iF->List iF->Bool
 |_,[]=>aZ
 |pre,x::l=>(JU x && !(abK pre x.1)) && apq (pre++ [x]) l
theorem aHF:∀(l:List iF) (m:List (bJ×Bool)) (pre:List iF),(∀o,(bW bh o m).getD aQ=abK pre o)->FE m l=apq pre l
 |[],_,_,_=>rfl
 |x::l,m,pre,h=>by
  have e:R3 m x=abK pre x.1:=h x.1;rw[FE,apq,e,aHF l (fj bh x.1 aZ m) (pre++ [x]) λo=> ?_,Bool.and_comm (JU x)];rw[G4 fi];unfold abK;rw[List.any_append];simp only[sz,List.any_nil,Bool.or_false];by_cases h1:o=x.1
  ·rw[if_pos ((tS _ _).2 h1),(tS x.1 o).2 h1.symm,Bool.or_true];rfl
  ·rw[if_neg (λe=>h1 ((tS _ _).1 e)),h o];have:Ty.beq bh x.1 o=aQ:=by
    cases hb:Ty.beq bh x.1 o with
    |false=>rfl
    |true=>exact absurd ((tS _ _).1 hb).symm h1
   rw[this,Bool.or_false];rfl
def Cm(o:iu):Bool:=tV o.1 && lK o.2.1
theorem aqe:∀(l:List iu) (s:Int),0<=s->s<=1125899906842624->zh s l=(l.all Cm && decide (s+jG l<=1125899906842624))
 |[],s,h0,h1=>by rw[aM (show s+jG []<=1125899906842624 by show s+0<=_;omega)];rfl
 |o::l,s,h0,h1=>by
  have hc:tV s=aZ:=aM ⟨h0,h1⟩;rw[zh,fK,uK];unfold M6;rw[hc,bF,show Cm o=(tV o.1 && lK o.2.1) from rfl];cases c1:tV o.1 with
  |false=>rfl
  |true=>
   have c2:0<=o.1/\o.1<=1125899906842624:=of_decide_eq_true c1;rw[bF,bF];by_cases hs:s+o.1<=1125899906842624
   ·rw[aM hs,bF,aqe l (s+o.1) ak hs,Int.add_assoc,Bool.and_assoc]
   ·rw[aV hs,cY,cY];cases hl:l.all Cm with
    |false=>cases lK o.2.1 <;> rfl
    |true=>
     have key:∀l:List iu,l.all Cm=aZ->0<=jG l:=by
      intro l
      induction l with
      |nil=>intro _;exact ji 0
      |cons x l ih=>
       intro h;rw[fK,au]at h;have h1:=h.1;unfold Cm at h1;rw[au]at h1;have h2:0<=x.1/\x.1<=1125899906842624:=of_decide_eq_true h1.1;have:=ih h.2;rw[uK];omega
     have:=key l hl;rw[aV (show ¬s+(o.1+jG l)<=1125899906842624 by omega)];cases lK o.2.1 <;> rfl
abbrev sK:=dR×Int
def lk:sK->AS:=λ(pK,i)=>⟨([bH,.dV fa pK,bH,.d ti i]++aS 100 []),[],(ab 104 [])⟩
def fG:Unit->Exit×AS:=λx=>(.ret,⟨([bH,bH,.d .bool aQ]++aS 101 []),[],(ab 104 [])⟩)
def tq:dR->Exit×AS:=λx=>(.exit 0,⟨([bH,.dV fa x]++aS 102 []),[],(ab 104 [])⟩)
abbrev EM:=(Unit)⊕(dR)
abbrev N5:=(Unit)⊕(dR)
def zl:EM->Out (Exit×AS):=λx=> .br x.isLeft (.get x.getLeft? λa=> .ok (fG a)) (.get x.getRight? λb=> .ok (tq b))
def jl:sK->N5->EM:=λ(pK,i) y=>match y with | .inl y=> .inl y | .inr z=> .inr (z)
abbrev sM:=dR×Int×Int×iF
def ln:sM->AS:=λ(wM,gv,kv,n4)=>⟨([bH,.dV fa wM,bH,.d ti gv,fx 4,.d ti kv]++aS 98 []),[],(bS 4 ([ed (.d gT n4)]++bS 99 []))⟩
def lS:Unit->Exit×AS:=λx=>(.ret,⟨([bH,bH,.d .bool aQ]++aS 101 []),[],(ab 104 [])⟩)
def tt:(dR×Int)->Exit×AS:=λx=>(.exit 2,⟨([bH,.dV fa x.1,bH,.d ti x.2]++aS 100 []),[],(ab 104 [])⟩)
abbrev EO:=(Unit)⊕((dR×Int))
abbrev N7:=(Unit)⊕(Unit)
def zm:EO->Out (Exit×AS):=λx=> .br x.isLeft (.get x.getLeft? λa=> .ok (lS a)) (.get x.getRight? λb=> .ok (tt b))
def jm:sM->N7->EO:=λ(wM,gv,kv,n4) y=>match y with | .inl y=> .inl y | .inr z=> .inr ((wM,gv))
abbrev sN:=dR×Int×Int
def lp:sN->AS:=λ(Zt,sum,Mk)=>⟨([bH,.dV fa Zt]++aS 4 ([.d ti sum,.d ti Mk]++aS 96 [])),[],(ab 104 [])⟩
def gS:Unit->Exit×AS:=λx=>(.ret,⟨([bH,bH,.d .bool aQ]++aS 101 []),[],(ab 104 [])⟩)
def tw:Int->Exit×AS:=λx=>(.exit 4,⟨(aS 6 ([.d ti x]++aS 97 [])),[],(ab 104 [])⟩)
abbrev ER:=(Unit)⊕(Int)
abbrev N9:=(Unit)⊕(Int)
def zo:ER->Out (Exit×AS):=λx=> .br x.isLeft (.get x.getLeft? λa=> .ok (gS a)) (.get x.getRight? λb=> .ok (tw b))
def jn:sN->N9->ER:=λ(Zt,sum,Mk) y=>match y with | .inl y=> .inl y | .inr z=> .inr (z)
def tr:sM->Prop:=λ(t,i,j,x)=>∃(n k:Nat),n<=t.1.length/\k<=n/\n<=1000/\i=n/\j=k
def kz:sM->N7:=λ(t,i,j,x)=>if abK ((t.1.take i.toNat).drop j.toNat) x.1 then .inl () else .inr ()
def tp:sK->Prop:=λ(t,i)=>t.1.length<=64/\∃k:Nat,k<=t.1.length/\i=k
def ky:sK->N5:=λ(t,i)=>if apq (t.1.take i.toNat) (t.1.drop i.toNat) then .inr t else .inl ()
def tv:sN->Prop:=λ(t,s,i)=>t.2.1.length<=64/\(∀o∈t.2.1,afE o.2.1)/\∃k:Nat,k<=t.2.1.length/\i=k/\0<=s/\s<=(k:Int)*1125899906842624
def kA:sN->N9:=λ(t,s,i)=>if(t.2.1.drop i.toNat).all Cm then .inr (s+jG (t.2.1.drop i.toNat)) else .inl ()
def alY:dR->Prop:=λt=>aSx t
def Qp:dR->Bool:=λt=>iR t
def N4:=dI.fI lk tp jl ky zl
def FT:sK->Option EM:=gO N4 lk
def N6:=dI.fI ln tr jm kz zm
def FV:sM->Option EO:=gO N6 ln
def N8:=dI.fI lp tv jn kA zo
def FX:sN->Option ER:=gO N8 lp
def gj:Fs Tryz.prog alY bC Qp:=fw 100 Tryz.f100 (λt=>([.d fa t],[])) (λx=>⟨.d .bool x,[],[]⟩) [av fa] [aI8,X8] {loops:=oJ [(4,{ba:=[1,3]}),(10,{ba:=[1,3,4,5],sites:=[4]}),(16,{ba:=[1,6,7]})],outs:=oI [(4,{ba:=[1]},{ba:=[2]}),(10,{ba:=[1,3]},{ba:=[2]}),(16,{ba:=[6]},{ba:=[2]})],gf:=nQ [(4,N4),(10,N6),(16,N8)]}
def EL:= @eG Tryz.prog (jQ gj.G) gj.an 0 Tryz.f100 0 _ lk
abbrev Kv:=j7 Tryz.prog (jQ gj.G) gj.an 0 Tryz.f100 0 lk tp jl ky zl
def EN:= @eG Tryz.prog (jQ gj.G) gj.an 0 Tryz.f100 1 _ ln
abbrev Kx:=j7 Tryz.prog (jQ gj.G) gj.an 0 Tryz.f100 1 ln tr jm kz zm
def EP:= @eG Tryz.prog (jQ gj.G) gj.an 0 Tryz.f100 2 _ lp
abbrev Kz:=j7 Tryz.prog (jQ gj.G) gj.an 0 Tryz.f100 2 lp tv jn kA zo
theorem Zc:jh FT tp jl ky:=lH (jx [.d fa,.d ti] λ_=>cr)
theorem Kw:mK @EL lk tp jl ky zl Kv:=nc
theorem FU(pK i)(kn:K2 R)(kx:K3 R):EL (pK,i) kn kx=aL (gz i (((ag pK.1):Nat):Int)) (aL (eL i (((ag pK.1):Nat):Int)) (aL (gz (nth gT pK.1 (ae i)).1.2.1 (0:Int)) (kx (fG ()).1 (fG ()).2) (aL (pJ (nth gT pK.1 (ae i)).1.2.1 (63:Int)) (kx (fG ()).1 (fG ()).2) (al (S7.call (nth gT pK.1 (ae i)).2.1) λx1=>aL (!x1) (kx (fG ()).1 (fG ()).2) (al (FV (pK,i,(0:Int),(nth gT pK.1 (ae i)))) λx2=>aL x2.isLeft (al x2.getLeft? λa3=>kx (fG ()).1 (fG ()).2) (al x2.getRight? λb4=>kn (lk (b4.1,(bO .i64 b4.2 (1:Int))))))))) aD) (kx (tq pK).1 (tq pK).2):=cr
theorem Zd:jh FV tr jm kz:=lH (jx [.d fa,.d ti,.d ti,.d gT] λ_=>cr)
theorem Ky:mK @EN ln tr jm kz zm Kx:=nc
theorem FW(wM gv kv n4)(kn:K2 R)(kx:K3 R):EN (wM,gv,kv,n4) kn kx=aL (gz kv gv) (aL (eL kv (((ag wM.1):Nat):Int)) (aL (Ty.beq bh (nth gT wM.1 (ae kv)).1 n4.1) (kx (lS ()).1 (lS ()).2) (kn (ln (wM,gv,(bO .i64 kv (1:Int)),n4)))) aD) (kx (tt (wM,gv)).1 (tt (wM,gv)).2):=cr
theorem Ze:jh FX tv jn kA:=lH (jx [.d fa,.d ti,.d ti] λ_=>cr)
theorem KA:mK @EP lp tv jn kA zo Kz:=nc
theorem FY(Zt sum Mk)(kn:K2 R)(kx:K3 R):EP (Zt,sum,Mk) kn kx=aL (gz Mk (((ag Zt.2.1):Nat):Int)) (aL (eL Mk (((ag Zt.2.1):Nat):Int)) (aL (gz (nth gV Zt.2.1 (ae Mk)).1 (0:Int)) (kx (gS ()).1 (gS ()).2) (aL (pJ (nth gV Zt.2.1 (ae Mk)).1 (1125899906842624:Int)) (kx (gS ()).1 (gS ()).2) (al (lh.call (nth gV Zt.2.1 (ae Mk)).2.1) λx1=>aL (!x1) (kx (gS ()).1 (gS ()).2) (kn (lp (Zt,(bO .i64 sum (nth gV Zt.2.1 (ae Mk)).1),(bO .i64 Mk (1:Int)))))))) aD) (kx (tw sum).1 (tw sum).2):=cr
theorem aqC(t)(k:K1 R):gj.A t k=aL (gz (t.1.length:Int) 1) (k (gj.out aQ)) (aL (pJ (t.1.length:Int) 64) (k (gj.out aQ)) (aL (pJ (t.2.1.length:Int) 64) (k (gj.out aQ)) (aL (gz t.2.2.1 0) (k (gj.out aQ)) (al (FT (t,0)) λx5=>aL x5.isLeft (al x5.getLeft? λa6=>k (gj.out aQ)) (al x5.getRight? λb7=>al (FX (b7,0,0)) λx9=>aL x9.isLeft (al x9.getLeft? λa10=>k (gj.out aQ)) (al x9.getRight? λaUT=>k (gj.out (akZ aUT 1125899906842624)))))))):=cr
theorem adx:Kx:=by
 refine Ky (λ(_,i,j,_)=>(i - j).toNat) ?_
 rintro⟨t,i,j,x⟩ ⟨n,k,hn,hk,hm,rfl,rfl⟩;by_cases iA:k < n
 ·have asj:k < (t.1.take n).length:=by rw[bB];omega
  have n1:nth gT t.1 k=t.1[k]:=cg (t:=gT) ak;have hd:(t.1.take n).drop k=t.1[k]::(t.1.take n).drop (k+1):=by rw[aq asj,List.getElem_take]
  have hh:abK ((t.1.take n).drop k) x.1=(Ty.beq bh t.1[k].1 x.1 || abK ((t.1.take n).drop (k+1)) x.1):=by rw[hd];rfl
  have step:∀ {R:Type} (kn:AS->Option R) (kx:Exit->AS->Option R),EN (t,(n:Int),(k:Int),x) kn kx=aL (Ty.beq bh t.1[k].1 x.1) (kx (lS ()).1 (lS ()).2) (kn (ln (t,(n:Int),((k+1:Nat):Int),x))):=by intro R kn kx;rw[FW,aX ak,aj,bj ak ak,aj,aa,n1,N.mZ ak]
  cases hb:Ty.beq bh t.1[k].1 x.1 with
  |true=>
   right;refine⟨lS (),?_,λkn kx=> ?_⟩
   ·simp only[jm,kz,aa,hh,hb,Bool.true_or,bM];rfl
   ·rw[step,hb,aj]
  |false=>
   left;refine⟨(t,(n:Int),((k+1:Nat):Int),x),⟨n,k+1,hn,ak,hm,rfl,rfl⟩,by show((n:Int) - ((k+1:Nat):Int)).toNat < ((n:Int) - (k:Int)).toNat;omega,?_,λkn kx=> ?_⟩
   ·simp only[jm,kz,aa,hh,hb,xB]
   ·rw[step,hb,ao]
 ·right;obtain rfl:k=n:=ak;have e:(t.1.take k).drop k=[]:=dS (by rw[bB];omega);refine⟨tt (t,(k:Int)),?_,λkn kx=> ?_⟩
  ·simp only[jm,kz,aa,e];rfl
  ·rw[FW,aU ak,ao]
theorem adw:Kv:=by
 refine Kw (λ(t,i)=>t.1.length - i.toNat) ?_
 rintro⟨t,i⟩ ⟨G5,k,hk,rfl⟩;have G5:t.1.length<=64:=G5;have hk:k<=t.1.length:=hk;by_cases iA:k < t.1.length
 ·have n1:nth gT t.1 k=t.1[k]:=cg (t:=gT) iA;have hd:apq (t.1.take k) (t.1.drop k)=((JU t.1[k] && !(abK (t.1.take k) t.1[k].1)) && apq (t.1.take (k+1)) (t.1.drop (k+1))):=by rw[aq iA,apq,ja iA]
  have step:∀ {R:Type} (kn:AS->Option R) (kx:Exit->AS->Option R),EL (t,(k:Int)) kn kx=aL (JU t.1[k] && !(abK (t.1.take k) t.1[k].1)) (kn (lk (t,((k+1:Nat):Int)))) (kx (fG ()).1 (fG ()).2):=by
   intro R kn kx;rw[FU,aX ak,aj,bj ak ak,aj,aa,n1];unfold JU;by_cases h1:t.1[k].1.2.1 < 0
   ·rw[aX h1,aj,aV ak];rfl
   rw[aU h1,ao];by_cases h2:t.1[k].1.2.1 > 63
   ·rw[dd h2,aj,aV ak];rfl
   rw[cH h2,ao,aM ak,aB7 (d:=t.1[k].2.1) trivial];simp only[ah,bC,alU,bF];cases CP t.1[k].2.1 with
   |false=>rfl
   |true=>
    rw[cQ,ao,bF,Zd (d:=(t,(k:Int),0,t.1[k])) ⟨k,0,hk,aP _,ak,rfl,rfl⟩];simp only[ah,jm,kz,aa,bg,aG];cases abK (t.1.take k) t.1[k].1 with
    |true=>rfl
    |false=>
     simp only[bw,bA,dJ,ao,cW,ah,fH,aj];rw[N.mZ ak]
  cases hp:JU t.1[k] && !(abK (t.1.take k) t.1[k].1)
  ·right;refine⟨fG (),?_,λkn kx=> ?_⟩
   ·simp only[jl,ky,aa,hd,hp,cY,bw,bA];rfl
   ·rw[step,hp,ao]
  ·left;refine⟨(t,((k+1:Nat):Int)),⟨G5,k+1,ak,rfl⟩,by simp only[aa];omega,?_,λkn kx=> ?_⟩
   ·simp only[jl,ky,aa,hd,hp,bF]
   ·rw[step,hp,aj]
 ·right;obtain rfl:k=t.1.length:=ak;refine⟨tq t,?_,λkn kx=> ?_⟩
  ·simp only[jl,ky,aa,aN];rfl
  ·rw[FU,aU ak,ao]
theorem ady:Kz:=by
 refine KA (λ(t,_,i)=>t.2.1.length - i.toNat) ?_
 rintro⟨t,s,i⟩ ⟨G5,hu,k,hk,rfl,h0,h1⟩;have G5:t.2.1.length<=64:=G5;have hk:k<=t.2.1.length:=hk;have h0:0<=s:=h0;have h1:s<=(k:Int)*1125899906842624:=h1;by_cases iA:k < t.2.1.length
 ·have n1:nth gV t.2.1 k=t.2.1[k]:=cg (t:=gV) iA;have hd:t.2.1.drop k=t.2.1[k]::t.2.1.drop (k+1):=aq iA;have step:∀ {R:Type} (kn:AS->Option R) (kx:Exit->AS->Option R),EP (t,s,(k:Int)) kn kx=aL (Cm t.2.1[k]) (kn (lp (t,s+t.2.1[k].1,((k+1:Nat):Int)))) (kx (gS ()).1 (gS ()).2):=by
   intro R kn kx;rw[FY,aX ak,aj,bj ak ak,aj,aa,n1];unfold Cm tV;by_cases c1:t.2.1[k].1 < 0
   ·rw[aX c1,aj,aV ak];rfl
   rw[aU c1,ao];by_cases c2:t.2.1[k].1 > 1125899906842624
   ·rw[dd c2,aj,aV ak];rfl
   rw[cH c2,ao,aM ak,S6 (d:=t.2.1[k].2.1) (hu _ (aO iA))];simp only[ah,bC,Hv,bF];rw[gD ak ak,N.mZ ak];cases lK t.2.1[k].2.1 <;> rfl
  cases hp:Cm t.2.1[k]
  ·right;refine⟨gS (),?_,λkn kx=> ?_⟩
   ·simp only[jn,kA,aa,hd,fK,hp,cY,bw,bA];rfl
   ·rw[step,hp,ao]
  ·left;have hp':=hp;unfold Cm at hp';rw[au]at hp';have c:0<=t.2.1[k].1/\t.2.1[k].1<=1125899906842624:=of_decide_eq_true hp'.1;refine⟨(t,s+t.2.1[k].1,((k+1:Nat):Int)),⟨G5,hu,k+1,ak,rfl,by show 0<=s+t.2.1[k].1;omega,by show s+t.2.1[k].1<=((k+1:Nat):Int)*1125899906842624;omega⟩,by simp only[aa];omega,?_,λkn kx=> ?_⟩
   ·simp only[jn,kA,aa,hd,fK,hp,bF,uK,Int.add_assoc]
   ·rw[step,hp,aj]
 ·right;obtain rfl:k=t.2.1.length:=ak;refine⟨tw s,?_,λkn kx=> ?_⟩
  ·simp only[jn,kA,aa,aN];rw[show s+jG ([]:List iu)=s+0 from rfl,Int.add_zero];rfl
  ·rw[FY,aU ak,ao]
theorem aqD:gj.Ok:=by
 intro t hv;have hv:aSx t:=hv;rw[aqC];simp only[bC,Qp,iR,afd];by_cases h1:t.1.length < 1
 ·rw[aX ak,aV ak];rfl
 by_cases h2:t.1.length > 64
 ·rw[aU ak,ao,dd ak,aV ak];rfl
 by_cases h3:t.2.1.length > 64
 ·rw[aU ak,ao,cH ak,ao,dd ak,aV ak];rfl
 rw[aU ak,ao,cH ak,ao,cH ak,ao];by_cases h4:t.2.2.1 < 0
 ·rw[aX h4,aV ak];rfl
 rw[aU h4,ao,aM ak,bF,Zc (d:=(t,0)) ⟨by show t.1.length<=64;omega,0,aP _,rfl⟩];simp only[ah,jl,ky,bg,aG,dZ];rw[aHF t.1 [] [] (λo=>by rw[rF];rfl),aqe t.2.1 0 fg fg];cases apq [] t.1 with
 |false=>rfl
 |true=>
  simp only[bM,dJ,ao,cW,ah,bF];rw[Ze (d:=(t,0,0)) ⟨by show t.2.1.length<=64;omega,λo ho=>(hv.1 o ho).1,0,aP _,rfl,ji 0,ak⟩];simp only[ah,jn,kA,bg,aG];cases t.2.1.all Cm with
  |false=>rfl
  |true=>
   simp only[bM,dJ,ao,cW,ah,bF];by_cases hs:0+jG t.2.1<=1125899906842624
   ·rw[pa hs,aM hs]
   ·rw[kO hs,aV hs]
theorem alZ:gj.RS:=rE [.d fa] gj
def aqE:=gj.fC aqD 3 ⟨.fI adw,⟨.fI adx,⟨.fI ady,trivial⟩⟩⟩
abbrev EJ:=dR×Bs×Int
def tm:EJ->Bs->((dR)×(Bs)):=λ(pK,b,i) y=>(pK,y)
abbrev EK:=dR×Bs×Int
def tn:EK->Bs->((dR)×(Bs)):=λ(wM,iK,gv) y=>(wM,y)
def Y8:EJ->Prop:=λ(t,b,i)=>(t.1).length<=1000000000/\∃k:Nat,k<=(t.1).length/\i=k/\(t.1.length<=64)/\(∀x∈t.1,x.1.1.length=32/\x.1.2.1<=9223372036854775807)/\(b.length<=100+50*k)
def xZ:EJ->Bs:=λ(t,b,i)=>(bZ (ae i) t.1).foldl Mm b
def Za:EK->Prop:=λ(t,b,i)=>(t.2.1).length<=1000000000/\∃k:Nat,k<=(t.2.1).length/\i=k/\(t.2.1.length<=64)/\(∀o∈t.2.1,o.1<=9223372036854775807/\afE o.2.1)/\(b.length<=4000+1100*k)
def yc:EK->Bs:=λ(t,b,i)=>(bZ (ae i) t.2.1).foldl MU b
def alW:dR->Prop:=λt=>iR t=aZ/\ng t
def adt:dR->Bs:=λt=>vT t
def mC:Ls Y8 tm xZ:=sH (λ(pK,b,i)=>⟨([bH,.dV fa pK,bH,.d tB b,.d ti i]++aS 63 []),[],(ab 68 [])⟩) (λx=>(.exit 0,⟨([bH,.dV fa x.1,bH,.d tB x.2]++aS 64 []),[],(ab 68 [])⟩))
def mD:Ls Za tn yc:=sH (λ(wM,iK,gv)=>⟨([bH,.dV fa wM,bH,.d tB iK,bH,.d ti gv]++aS 62 []),[],(ab 68 [])⟩) (λx=>(.exit 2,⟨([bH,.dV fa x.1,bH,.d tB x.2]++aS 64 []),[],(ab 68 [])⟩))
def nF:Fs Tryz.prog alW bC adt:=fw 101 Tryz.f101 (λt=>([.d fa t],[])) (λx=>⟨.d tB x,[],[]⟩) [av fa] [adI,aiC,aqw,aCg] {loops:=oJ [(3,{ba:=[1,3,4]}),(9,{ba:=[1,3,5]})],outs:=oI [(3,{ba:=[1,3]},{ba:=[2]}),(9,{ba:=[1,3]},{ba:=[2]})],gf:=nQ [(3,mC.E),(9,mD.E)],res:=[av tB]}
theorem Y9:mC.RS:=rL [.d fa,.d tB,.d ti] mC
theorem FQ(pK b i)(kn:K2 R)(kx:K3 R):nF.R 0 mC (pK,b,i) kn kx=aL (gz i (pK.1.length:Int)) (aL (eL i (pK.1.length:Int)) (al (xm.call (b,(nth gT pK.1 (ae i)).1.1)) λx1=>aL (eL i (pK.1.length:Int)) (al (sR.call (x1,(nth gT pK.1 (ae i)).1.2.1)) λx2=>kn (mC.st (pK,x2,(bO .i64 i 1)))) aD) aD) (mC.go kx (pK,b)):=cr
theorem Zb:mD.RS:=rL [.d fa,.d tB,.d ti] mD
theorem FR(wM iK gv)(kn:K2 R)(kx:K3 R):nF.R 1 mD (wM,iK,gv) kn kx=aL (gz gv (wM.2.1.length:Int)) (aL (eL gv (wM.2.1.length:Int)) (al (sR.call (iK,(nth gV wM.2.1 (ae gv)).1)) λx1=>aL (eL gv (wM.2.1.length:Int)) (al (mz.call (nth gV wM.2.1 (ae gv)).2.1) λx2=>al (Qs.call (x1,x2)) λx3=>kn (mD.st (wM,x3,(bO .i64 gv 1)))) aD) aD) (mD.go kx (wM,iK)):=cr
theorem aqz(t)(k:K1 R):nF.A t k=al (sR.call (([]:List Int),(t.1.length:Int))) λx1=>al (mC.call (t,x1,0)) λx4=>al (sR.call (x4.2,(x4.1.2.1.length:Int))) λx5=>al (mD.call (x4.1,x5,0)) λx9=>al (sR.call (x9.2,x9.1.2.2.1)) λasd=>k (nF.out asd):=cr
theorem adu:(nF.lF 0 mC):=by
 refine(nF.mY 0 mC) (λ(t,b,i)=>(t.1).length - ae i) ?_
 rintro⟨t,b,i⟩ ⟨hlen,k,hk,rfl,G5,hx,hb⟩;have hlen:(t.1).length<=1000000000:=hlen;have hk:k<=(t.1).length:=hk;have G5:t.1.length<=64:=G5;have hx:∀x∈t.1,x.1.1.length=32/\x.1.2.1<=9223372036854775807:=hx;have hb:b.length<=100+50*k:=hb;by_cases h:k < (t.1).length
 ·left;have n1:nth gT t.1 k=t.1[k]:=cg (t:=gT) h;have hd:bZ k t.1=t.1[k]::bZ (k+1) t.1:=aq h;refine⟨(t,(Mm b t.1[k]),((k+1:Nat):Int)),⟨hlen,k+1,ak,rfl,G5,hx,by have:=ak0 b t.1[k];have:=(hx _ (aO h)).1;omega⟩,by simp only[aa];omega,?_,λkn kx=> ?_⟩
  ·simp only[tm,xZ,aa,hd,bz]
  ·rw[FQ,aX ak,bj ak ak,aa,n1];simp only[aj];have e:=hx _ (aO h);have e2:(b++t.1[k].1.1).length=b.length+t.1[k].1.1.length:=ai;rw[Hx (d:=(b,t.1[k].1.1)) ⟨by show b.length<=_;omega,e.1⟩];simp only[ah,bC,F7];rw[jZ (d:=(b++t.1[k].1.1,t.1[k].1.2.1)) ⟨by show(b++t.1[k].1.1).length<=_;omega,e.2⟩];simp only[ah,bC,oK];rw[N.mZ ak];rfl
 ·right;obtain rfl:k=(t.1).length:=ak;intro R kn kx;rw[FQ,aU ak,ao];simp only[tm,xZ,aa,aN,de]
theorem adv:(nF.lF 1 mD):=by
 refine(nF.mY 1 mD) (λ(t,b,i)=>(t.2.1).length - ae i) ?_
 rintro⟨t,b,i⟩ ⟨hlen,k,hk,rfl,G5,hx,hb⟩;have hlen:(t.2.1).length<=1000000000:=hlen;have hk:k<=(t.2.1).length:=hk;have G5:t.2.1.length<=64:=G5;have hx:∀o∈t.2.1,o.1<=9223372036854775807/\afE o.2.1:=hx;have hb:b.length<=4000+1100*k:=hb;by_cases h:k < (t.2.1).length
 ·left;have n1:nth gV t.2.1 k=t.2.1[k]:=cg (t:=gV) h;have hd:bZ k t.2.1=t.2.1[k]::bZ (k+1) t.2.1:=aq h;refine⟨(t,(MU b t.2.1[k]),((k+1:Nat):Int)),⟨hlen,k+1,ak,rfl,G5,hx,by have:=ac9 b t.2.1[k];omega⟩,by simp only[aa];omega,?_,λkn kx=> ?_⟩
  ·simp only[tn,yc,aa,hd,bz]
  ·rw[FR,aX ak,bj ak ak,aa,n1];simp only[aj];have e:=hx _ (aO h);have e1:=dN b t.2.1[k].1;have e2:=Mq t.2.1[k].2.1;rw[jZ (d:=(b,t.2.1[k].1)) ⟨by show b.length<=_;omega,e.1⟩];simp only[ah,bC,oK];rw[alS (d:=t.2.1[k].2.1) e.2];simp only[ah,bC,Qo];rw[avf (d:=(cU b t.2.1[k].1,PU t.2.1[k].2.1)) (by show(cU b t.2.1[k].1).length+(PU t.2.1[k].2.1).length<=_;omega)];simp only[ah,bC,adJ];rw[N.mZ ak];rfl
 ·right;obtain rfl:k=(t.2.1).length:=ak;intro R kn kx;rw[FR,aU ak,ao];simp only[tn,yc,aa,aN,de]
theorem aqA:nF.Ok:=by
 rintro t ⟨jR,hv⟩;have hv:ng t:=hv;obtain⟨⟨_,a2,a3,_⟩,b1,b2⟩:=kk jR;have h0:([]:List Int).length=0:=rfl;have l0:=dN [] t.1.length;have l1:=ZM t.1 (cU [] t.1.length) λx hx=>(hv.2.1 x hx).1.1
 have l2:=dN (t.1.foldl Mm (cU [] t.1.length)) t.2.1.length;have l3:=SS t.2.1 (cU (t.1.foldl Mm (cU [] t.1.length)) t.2.1.length);rw[aqz,jZ (d:=([],(t.1.length:Int))) ⟨by show([]:List Int).length<=_;omega,by show(t.1.length:Int)<=_;omega⟩];simp only[ah,bC,oK];rw[Y9 (d:=(t,cU [] t.1.length,0)) ⟨by show t.1.length<=_;omega,0,aP _,rfl,a2,λx hx=>⟨(hv.2.1 x hx).1.1,by have:=Ca (nB _ _ b1 x hx);omega⟩,by show(cU [] t.1.length).length<=_;omega⟩];simp only[ah,tm,xZ,bg,aG];rw[jZ (d:=(t.1.foldl Mm (cU [] t.1.length),(t.2.1.length:Int))) ⟨by show(t.1.foldl Mm (cU [] t.1.length)).length<=_;omega,by show(t.2.1.length:Int)<=_;omega⟩];simp only[ah,bC,oK];rw[Zb (d:=(t,cU (t.1.foldl Mm (cU [] t.1.length)) t.2.1.length,0)) ⟨by show t.2.1.length<=_;omega,0,aP _,rfl,a3,λo ho=>⟨by have:=(lg _ _ b2 o ho).1;omega,(hv.1.1 o ho).1⟩,by show(cU (t.1.foldl Mm (cU [] t.1.length)) t.2.1.length).length<=_;omega⟩];simp only[ah,tn,yc,bg,aG];rw[jZ (d:=(t.2.1.foldl MU (cU (t.1.foldl Mm (cU [] t.1.length)) t.2.1.length),t.2.2.1)) ⟨by show(t.2.1.foldl MU (cU (t.1.foldl Mm (cU [] t.1.length)) t.2.1.length)).length<=_;omega,hv.2.2⟩];rfl
theorem alX:nF.RS:=rE [.d fa] nF
def aqB:=nF.fC aqA 2 ⟨.fI adu,⟨.fI adv,trivial⟩⟩
def aB8:dR->Prop:=λt=>ng t
def alV:dR->Bs:=λt=>iD t
def X9:Fs Tryz.prog aB8 bC alV:=fw 53 Tryz.f53 (λt=>([.d fa t],[])) (λx=>⟨.d tH x,[],[]⟩) [av fa] [aqE,aqB,ays]
theorem aI9(t)(k:K1 R):X9.A t k=al (gj.call t) λx1=>aL (!x1) (k (X9.out (ab 32 0))) (al (nF.call t) λx2=>al (aed.call ((⟨#[116,120]⟩:ByteArray),[x2])) λx3=>k (X9.out x3)):=cr
theorem aJa:X9.Ok:=by
 intro t hv;have hv:ng t:=hv;rw[aI9,alZ (d:=t) hv.1];simp only[ah,bC,Qp,bC,alV,iD];cases jR:iR t
 ·rfl
 ·have hl:=Qi jR hv;rw[alX (d:=t) ⟨jR,hv⟩];simp only[cQ,ao,bM,ah,bC,adt];rw[aq8 (d:=((⟨#[116,120]⟩:ByteArray),[vT t])) (TO fg ak)];rfl
theorem aB9:X9.RS:=rE [.d fa] X9
def aJb:=X9.fC aJa
abbrev EY:=dz×Bs×Int
def tF:EY->Bs->((dz)×(Bs)):=λ(iK,x,i) y=>(iK,y)
def Zi:EY->Prop:=λ(b,x,i)=>(b.2.2.1).length<=1000000000/\∃k:Nat,k<=(b.2.2.1).length/\i=k/\(b.2.2.1.length<=1000)/\(∀t∈b.2.2.1,ng t)/\(x.length<=1000+32*k)
def yd:EY->Bs:=λ(b,x,i)=>(bZ (ae i) b.2.2.1).foldl axJ x
def Zk:(dz×Bs×Int)->Prop:=λ(b,x,i)=>(b.2.2.2.2.1).length<=1000000000/\∃k:Nat,k<=(b.2.2.2.2.1).length/\i=k/\(b.2.2.2.2.1.length<=1000)/\(∀o∈b.2.2.2.2.1,ayR o)/\(x.length<=100000+43*k)
def ye:(dz×Bs×Int)->Bs:=λ(b,x,i)=>(bZ (ae i) b.2.2.2.2.1).foldl aNp x
def al2:dz->Prop:=λb=>awQ b
def Qr:dz->Bs:=λb=>aQp b
def mE:Ls Zi tF yd:=sH (λ(iK,x,i)=>⟨([bH,.dV eA iK,bH,.d tB x,.d ti i]++aS 60 []),[],(ab 65 [])⟩) (λx=>(.exit 0,⟨([bH,.dV eA x.1,bH,.d tB x.2]++aS 61 []),[],(ab 65 [])⟩))
def mF:Ls Zk bC ye:=sH (λ(Uv,aEh,gv)=>⟨([bH,.dV eA Uv,bH,.d tB aEh,bH,.d ti gv]++aS 59 []),[],(ab 65 [])⟩) (λx=>(.exit 2,⟨([bH,bH,bH,.d tB x]++aS 61 []),[],(ab 65 [])⟩))
def nG:Fs Tryz.prog al2 bC Qr:=fw 97 Tryz.f97 (λb=>([.d eA b],[])) (λx=>⟨.d tB x,[],[]⟩) [av eA] [adI,aiC,aJb] {loops:=oJ [(4,{ba:=[1,3,4]}),(10,{ba:=[1,3,5]})],outs:=oI [(4,{ba:=[1,3]},{ba:=[2]}),(10,{ba:=[3]},{ba:=[2]})],gf:=nQ [(4,mE.E),(10,mF.E)]}
theorem Zj:mE.RS:=rL [.d eA,.d tB,.d ti] mE
theorem F5(iK x i)(kn:K2 R)(kx:K3 R):nG.R 0 mE (iK,x,i) kn kx=aL (gz i (iK.2.2.1.length:Int)) (aL (eL i (iK.2.2.1.length:Int)) (al (X9.call (nth fa iK.2.2.1 (ae i))) λx1=>al (xm.call (x,x1)) λx2=>kn (mE.st (iK,x2,(bO .i64 i 1)))) aD) (mE.go kx (iK,x)):=cr
theorem Zl:mF.RS:=rL [.d eA,.d tB,.d ti] mF
theorem F6(Uv aEh gv)(kn:K2 R)(kx:K3 R):nG.R 1 mF (Uv,aEh,gv) kn kx=aL (gz gv (Uv.2.2.2.2.1.length:Int)) (aL (eL gv (Uv.2.2.2.2.1.length:Int)) (al (xm.call (aEh,(nth bh Uv.2.2.2.2.1 (ae gv)).1)) λx1=>aL (eL gv (Uv.2.2.2.2.1.length:Int)) (al (sR.call (x1,(nth bh Uv.2.2.2.2.1 (ae gv)).2.1)) λx2=>kn (mF.st (Uv,x2,(bO .i64 gv 1)))) aD) aD) (mF.go kx aEh):=cr
theorem aqI(b)(k:K1 R):nG.A b k=al (sR.call (([]:List Int),b.1)) λx1=>al (xm.call (x1,b.2.1)) λx2=>al (sR.call (x2,(b.2.2.1.length:Int))) λx3=>al (mE.call (b,x3,0)) λx6=>al (sR.call (x6.2,x6.1.2.2.2.1)) λx7=>al (sR.call (x7,(x6.1.2.2.2.2.1.length:Int))) λx8=>al (mF.call (x6.1,x8,0)) λayQ=>k (nG.out ayQ):=cr
theorem adC:(nG.lF 0 mE):=by
 refine(nG.mY 0 mE) (λ(b,x,i)=>(b.2.2.1).length - ae i) ?_
 rintro⟨b,x,i⟩ ⟨hlen,k,hk,rfl,h3,hx,hb⟩;have hlen:(b.2.2.1).length<=1000000000:=hlen;have hk:k<=(b.2.2.1).length:=hk;have h3:b.2.2.1.length<=1000:=h3;have hx:∀t∈b.2.2.1,ng t:=hx;have hb:x.length<=1000+32*k:=hb;by_cases h:k < (b.2.2.1).length
 ·left;have n1:nth fa b.2.2.1 k=b.2.2.1[k]:=cg (t:=fa) h;have hd:bZ k b.2.2.1=b.2.2.1[k]::bZ (k+1) b.2.2.1:=aq h;refine⟨(b,(axJ x b.2.2.1[k]),((k+1:Nat):Int)),⟨hlen,k+1,ak,rfl,h3,hx,by unfold axJ;rw[ai,HX.1];omega⟩,by simp only[aa];omega,?_,λkn kx=> ?_⟩
  ·simp only[tF,yd,aa,hd,bz]
  ·rw[F5,aX ak,bj ak ak,aa,n1];simp only[aj];rw[aB9 (d:=b.2.2.1[k]) (hx _ (aO h))];simp only[ah,bC,alV];rw[Hx (d:=(x,iD b.2.2.1[k])) ⟨by show x.length<=_;omega,HX.1⟩];simp only[ah,bC,F7];rw[N.mZ ak];rfl
 ·right;obtain rfl:k=(b.2.2.1).length:=ak;intro R kn kx;rw[F5,aU ak,ao];simp only[tF,yd,aa,aN,de]
theorem adD:(nG.lF 1 mF):=by
 refine(nG.mY 1 mF) (λ(b,x,i)=>(b.2.2.2.2.1).length - ae i) ?_
 rintro⟨b,x,i⟩ ⟨hlen,k,hk,rfl,h3,hx,hb⟩;have hlen:(b.2.2.2.2.1).length<=1000000000:=hlen;have hk:k<=(b.2.2.2.2.1).length:=hk;have h3:b.2.2.2.2.1.length<=1000:=h3;have hx:∀o∈b.2.2.2.2.1,ayR o:=hx;have hb:x.length<=100000+43*k:=hb;by_cases h:k < (b.2.2.2.2.1).length
 ·left;have n1:nth bh b.2.2.2.2.1 k=b.2.2.2.2.1[k]:=cg (t:=bh) h;have hd:bZ k b.2.2.2.2.1=b.2.2.2.2.1[k]::bZ (k+1) b.2.2.2.2.1:=aq h;refine⟨(b,(aNp x b.2.2.2.2.1[k]),((k+1:Nat):Int)),⟨hlen,k+1,ak,rfl,h3,hx,by have:=Ml [b.2.2.2.2.1[k]] x (λo ho=>by rw[bp]at ho;subst ho;exact hx _ (aO h));simp only[bz,de,aB,bl]at this;omega⟩,by simp only[aa];omega,?_,λkn kx=> ?_⟩
  ·simp only[bC,ye,aa,hd,bz]
  ·rw[F6,aX ak,bj ak ak,aa,n1];simp only[aj];obtain⟨e1,e2⟩:=hx _ (aO h);rw[Hx (d:=(x,b.2.2.2.2.1[k].1)) ⟨by show x.length<=_;omega,e1⟩];simp only[ah,bC,F7];rw[jZ (d:=(x++b.2.2.2.2.1[k].1,b.2.2.2.2.1[k].2.1)) ⟨by show(x++b.2.2.2.2.1[k].1).length<=_;rw[ai,e1];omega,e2⟩];simp only[ah,bC,oK];rw[N.mZ ak];rfl
 ·right;obtain rfl:k=(b.2.2.2.2.1).length:=ak;intro R kn kx;rw[F6,aU ak,ao];simp only[bC,ye,aa,aN,de]
theorem aqJ:nG.Ok:=by rintro b ⟨⟨h1,h2⟩,⟨h3,h4,h5⟩,h6,h7⟩;have z1:((0:Int)).toNat=0:=rfl;have p1:=dN [] b.1;have p2:=dN (cU [] b.1++b.2.1) b.2.2.1.length;rw[ai,h4]at p2;have l0:([]:Bs).length=0:=rfl;rw[l0]at p1;have q1:=ZL b.2.2.1 (cU (cU [] b.1++b.2.1) b.2.2.1.length);obtain⟨x3,e3⟩:∃x,cU (cU [] b.1++b.2.1) b.2.2.1.length=x:=⟨_,rfl⟩;rw[e3]at p2 q1;obtain⟨x6,e6⟩:∃x,b.2.2.1.foldl axJ x3=x:=⟨_,rfl⟩;rw[e6]at q1;have p7:=dN x6 b.2.2.2.1;have p8:=dN (cU x6 b.2.2.2.1) b.2.2.2.2.1.length;obtain⟨x8,e8⟩:∃x,cU (cU x6 b.2.2.2.1) b.2.2.2.2.1.length=x:=⟨_,rfl⟩;have q2:=Ml b.2.2.2.2.1 x8 h7;rw[e8]at p8;rw[aqI,jZ (d:=(([]:List Int),b.1)) ⟨by show(0:Nat)<=_;omega,h3⟩];simp only[ah,bC,oK];rw[Hx (d:=(cU [] b.1,b.2.1)) ⟨by show(cU [] b.1).length<=_;omega,h4⟩];simp only[ah,bC,F7];rw[jZ (d:=(cU [] b.1++b.2.1,(b.2.2.1.length:Int))) ⟨by show(cU [] b.1++b.2.1).length<=_;rw[ai,h4];omega,by show(b.2.2.1.length:Int)<=_;omega⟩];simp only[ah,bC,oK];rw[e3,Zj (d:=(b,x3,0)) ⟨by show b.2.2.1.length<=_;omega,0,aP _,rfl,h1,h2,ak⟩];simp only[ah,tF,yd,z1,aG];rw[e6,jZ (d:=(x6,b.2.2.2.1)) ⟨by show x6.length<=_;omega,h5⟩];simp only[ah,bC,oK];rw[jZ (d:=(cU x6 b.2.2.2.1,(b.2.2.2.2.1.length:Int))) ⟨by show(cU x6 b.2.2.2.1).length<=_;omega,by show(b.2.2.2.2.1.length:Int)<=_;omega⟩];simp only[ah,bC,oK];rw[e8,Zl (d:=(b,x8,0)) ⟨by show b.2.2.2.2.1.length<=_;omega,0,aP _,rfl,h6,h7,ak⟩];simp only[ah,bC,ye,z1,aG,bC,Qr,aQp,e3,e6,e8]
theorem al3:nG.RS:=rE [.d eA] nG
def aqK:=nG.fC aqJ 2 ⟨.fI adC,⟨.fI adD,trivial⟩⟩
theorem aL4{b:dz}(h:awQ b):(aQp b).length<=1000000:=by obtain⟨⟨h1,h2⟩,⟨h3,h4,h5⟩,h6,h7⟩:=h;have p1:=dN [] b.1;have p2:=dN (cU [] b.1++b.2.1) b.2.2.1.length;rw[ai,h4]at p2;have l0:([]:Bs).length=0:=rfl;rw[l0]at p1;have q1:=ZL b.2.2.1 (cU (cU [] b.1++b.2.1) b.2.2.1.length);have p7:=dN (b.2.2.1.foldl axJ (cU (cU [] b.1++b.2.1) b.2.2.1.length)) b.2.2.2.1;have p8:=dN (cU (b.2.2.1.foldl axJ (cU (cU [] b.1++b.2.1) b.2.2.1.length)) b.2.2.2.1) b.2.2.2.2.1.length;have q2:=Ml b.2.2.2.2.1 (cU (cU (b.2.2.1.foldl axJ (cU (cU [] b.1++b.2.1) b.2.2.1.length)) b.2.2.2.1) b.2.2.2.2.1.length) h7;unfold aQp;omega
def aCa:dz->Prop:=λb=>awQ b
def ayh:dz->Bs:=λb=>asP b
def S8:Fs Tryz.prog aCa bC ayh:=fw 47 Tryz.f47 (λb=>([.d eA b],[])) (λx=>⟨.d tH x,[],[]⟩) [av eA] [aqK,ays]
theorem aJc(b)(k:K1 R):S8.A b k=al (nG.call b) λx1=>al (aed.call ((⟨#[98,108,111,99,107]⟩:ByteArray),[x1])) λx2=>k (S8.out x2):=cr
theorem aJd:S8.Ok:=by intro b h;rw[aJc,al3 (d:=b) h];simp only[ah,bC,Qr];rw[aq8 (d:=((⟨#[98,108,111,99,107]⟩:ByteArray),[aQp b])) (TO fg (aL4 h))];rfl
theorem VT:S8.RS:=rE [.d eA] S8
def aqL:=S8.fC aJd
abbrev ad6:=Int×Int×(List dR)×Nat×Int×Bs×(List dz)
abbrev ayq:=Bs×Int×Int×(List dR)
def Zp(txs:List dR):Nat->Bs->Int->List dz
 | 0,_,_=> []
 |j+1,p,h=>Bw h p (if j=0 then txs else []) 0::Zp txs j (asP (Bw h p (if j=0 then txs else []) 0)) (h+1)
def Z8(txs:List dR):Prop:=txs.length<=100/\∀t∈txs,ng t/\t.1.length<=1000000
theorem aPp{txs:List dR}(ht:Z8 txs){h:Int}{p:Bs}(hh:h<=9223372036854775807)(hp:p.length=32)(c:Prop) [Decidable c]:YN (Bw h p (if c then txs else []) 0):=by
 split
 ·exact⟨⟨⟨jb ht.1 fg,λt h=>(ht.2 t h).1⟩,⟨hh,hp,by show(0:Int)<=_;decide⟩,aP _,λo ho=>(by cases ho)⟩,ht.1,λt h=>(ht.2 t h).2⟩
 ·exact⟨⟨⟨aP _,λt ht=>(by cases ht)⟩,⟨hh,hp,by show(0:Int)<=_;decide⟩,aP _,λo ho=>(by cases ho)⟩,aP _,λt ht=>(by cases ht)⟩
theorem avD{txs:List dR}(ht:Z8 txs):∀(j:Nat) (p:Bs) (h:Int),h+j<=9223372036854775807->p.length=32->∀b∈Zp txs j p h,YN b
 | 0,_,_,_,_,b,hb=>by cases hb
 |j+1,p,h,hh,hp,b,hb=>by
  rcases cv.1 hb with rfl | hb
  ·exact aPp ht ak hp _
  ·exact avD ht j _ (h+1) ak (Df _) b hb
theorem Tn(txs:List dR):∀(j:Nat) (p:Bs) (h:Int),(Zp txs j p h).length=j
 | 0,_,_=>rfl
 |j+1,p,h=>bu (· +1) (Tn txs j _ _)
theorem aea(txs:List dR):∀(j:Nat) (p:Bs) (h:Int),Wz (Zp txs j p h)<=txs.length
 | 0,_,_=>aP _
 | 1,p,h=>ay _
 |j+2,p,h=>by show 0+Wz (Zp txs (j+1) _ _)<=_;rw[aR];exact aea txs (j+1) _ _
def amb:ad6->Prop:=λ(h,m',txs,oL,i,p,out)=>(0<=h/\h<=1000000)/\Z8 txs/\p.length=32/\oL=out.length/\∃m k:Nat,m'=m/\k<=m/\m<=20/\i=k/\out.length=k
def HD:ad6->(Nat×(List dz)):=λ(h,m,txs,_,i,p,out)=>((out++Zp txs (m - i).toNat p (h+1+i)).length,out++Zp txs (m - i).toNat p (h+1+i))
def aCK:ayq->Prop:=λ(p,h,m',txs)=>(0<=h/\h<=1000000)/\Z8 txs/\p.length=32/\∃m:Nat,m'=m/\m<=20
def Z1:ayq->(List dz):=λ(p,h,m,txs)=>Zp txs m.toNat p (h+1)
def sT:Ls amb bC HD:=sH (λ(eC,P0,afe,outL,i,n4,n32)=>⟨([bH,.d ti eC,.d ti P0,.d (.slice fa) afe,fx 4]++aS 4 ([pc 32 outL,.d ti i]++aS 25 [])),[],(bS 4 ([ed (.d tH n4)]++bS 27 [ed (.vec 48 eA n32),[],[],[]]))⟩) (λx=>(.exit 0,⟨(aS 9 ([pc 32 x.1]++aS 26 [])),[],(bS 32 [ed (.vec 48 eA x.2),[],[],[]])⟩))
def IB:Fs Tryz.prog aCK bC Z1:=fw 44 Tryz.f44 (λ(parent,height,many,txs)=>([.d tH parent,.d ti height,.d ti many,.d (.slice fa) txs],[])) (λx=>⟨.d (.slice eA) x,[],[]⟩) [av tH,av ti,av ti,av (.slice fa)] [aqL] {bT:=[4],loops:=oJ [(3,{ba:=[1,2,3,4,9,10],sites:=[4,32],owns:=[⟨9,[],32,41⟩]})],outs:=oI [(3,{ba:=[9],sites:=[32]},{ba:=[8]})],gf:=nQ [(3,sT.E)],res:=[av (.slice eA)]}
theorem amc:sT.RS:=rL [.d ti,.d ti,.d (.slice fa),.n,.d ti,.d tB,.d (.slice eA)] sT
theorem Oj(eC P0 afe outL i n4 n32)(kn:K2 R)(kx:K3 R):IB.R 0 sT (eC,P0,afe,outL,i,n4,n32) kn kx=aL (gz i P0) (aL (oV i (da .i64 P0 1)) (aL (decide (outL<=(ag n32))) (aL (dw (outL+1) 96) (al (S8.call ((bO .i64 (bO .i64 eC 1) i),(n4,(afe,(0,(([]:List bJ),())))))) λx1=>kn (sT.st (eC,P0,afe,(outL+1),(bO .i64 i 1),x1,((aW outL n32)++ [((bO .i64 (bO .i64 eC 1) i),(n4,(afe,(0,(([]:List bJ),())))))])))) aD) aD) (aL (decide (outL<=(ag n32))) (aL (dw (outL+1) 96) (al (S8.call ((bO .i64 (bO .i64 eC 1) i),(n4,(([]:List dR),(0,(([]:List bJ),())))))) λx2=>kn (sT.st (eC,P0,afe,(outL+1),(bO .i64 i 1),x2,((aW outL n32)++ [((bO .i64 (bO .i64 eC 1) i),(n4,(([]:List dR),(0,(([]:List bJ),())))))])))) aD) aD)) (sT.go kx (outL,n32)):=cr
theorem aJN(parent height many txs)(k:K1 R):IB.A (parent,height,many,txs) k=al (sT.call (height,many,txs,0,0,parent,([]:List dz))) λx4=>aL (decide (0=0/\(0+x4.1)<=(ag x4.2))) (k (IB.out (cut x4.2 0 x4.1))) aD:=cr
theorem aq2:(IB.lF 0 sT):=by
 refine(IB.mY 0 sT) (λ(_,m,_,_,i,_)=>(m - i).toNat) ?_
 rintro⟨h,m',txs,oL,i,p,out⟩ ⟨⟨h0,h1⟩,ht,hp,rfl,m,k,rfl,hk,hm,rfl,ho⟩;have h0:0<=h:=h0;have h1:h<=1000000:=h1;have hk:k<=m:=hk;have hm:m<=20:=hm;by_cases iA:k < m
 ·left;obtain⟨j,hj⟩:∃j,m=k+1+j:=⟨m - (k+1),ak⟩;have e1:((m:Int) - (k:Int)).toNat=j+1:=ak;have e2:((m:Int) - ((k+1:Nat):Int)).toNat=j:=ak;have e3:h+1+((k+1:Nat):Int)=h+1+(k:Int)+1:=ak;have hb:=aPp ht (h:=h+1+(k:Int)) (p:=p) ak hp (j=0);refine⟨(h,(m:Int),txs,out.length+1,((k+1:Nat):Int),asP (Bw (h+1+(k:Int)) p (if j=0 then txs else []) 0),out++ [Bw (h+1+(k:Int)) p (if j=0 then txs else []) 0]),⟨⟨h0,h1⟩,ht,Df _,by rw[ai];rfl,m,k+1,rfl,iA,hm,rfl,by rw[ai,ho];rfl⟩,by simp only[e1,e2];omega,?_,λkn kx=> ?_⟩
  ·simp only[bC,HD,e1,e2,e3,Zp,aI,dv]
  ·rw[Oj,aX ak,aj,fh ak ak,gD (x:=h) ak ak,gD (x:=h+1) ak ak];by_cases hz:j=0
   ·rw[if_pos hz]at hb ⊢;rw[du ak,aj,aM (ay _),aj,dC ak ak,aj,bQ];refine(bu (λz=>al z _) (VT (d:=Bw (h+1+(k:Int)) p txs 0) hb.1)).trans ?_
    rw[ah,N.mZ ak];rfl
   ·rw[if_neg hz]at hb ⊢;rw[fm ak,ao,aM (ay _),aj,dC ak ak,aj,bQ];refine(bu (λz=>al z _) (VT (d:=Bw (h+1+(k:Int)) p [] 0) hb.1)).trans ?_
    rw[ah,N.mZ ak];rfl
 ·right;obtain rfl:k=m:=ak;intro R kn kx;have e1:((k:Int) - (k:Int)).toNat=0:=ak;rw[Oj,aU ak,ao];simp only[bC,HD,e1,Zp,bm]
theorem aJO:IB.Ok:=by rintro⟨p,h,m',txs⟩ ⟨hh,ht,hp,m,rfl,hm⟩;have e1:((m:Int) - 0).toNat=m:=ak;rw[aJN,amc (d:=(h,(m:Int),txs,0,0,p,[])) ⟨hh,ht,hp,rfl,m,0,rfl,aP _,hm,rfl,rfl⟩];simp only[ah,bC,HD,e1,aY,Int.add_zero,aR];rw[aM (by exact⟨trivial,ay _⟩),aj,fB rfl];simp only[bC,Z1,aa]
theorem V7:IB.RS:=rE [.d tB,.d ti,.d ti,.d (.slice fa)] IB
def aJP:=IB.fC aJO 1 ⟨.fI aq2,trivial⟩
abbrev anK:=I4×Nat×Nat×(List (bJ×eV))×(List cG)×(List dz)
def lJ(a:I4):Int:=cV .and .i64 a.1 7
def C2(a:I4)(nb:Nat)(bs:List dz):List dz:=if lJ a < 3 then Zp a.2.1 1 (sV nb bs) ((nb:Int)+1) else if 1<=a.2.2.1/\a.2.2.1<=nb/\a.2.2.1<=8 then Zp a.2.1 (a.2.2.1.toNat+1) (sV (nb - a.2.2.1.toNat) bs) ((nb:Int) - a.2.2.1+1) else []
def as1:anK->Prop:=λ(a,nb,n,at',s,bs)=>(∃A0 m,sh A0 m nb n at' s bs)/\Z8 a.2.1
def aaH:anK->((List dz)×Nat×Nat×(List (bJ×eV))×(List cG)×(List dz)):=λ(a,nb,n,at',s,bs)=>(C2 a nb bs,nb,n,at',s,bs)
def zb:Fs Tryz.prog as1 bC aaH:=fw 14 Tryz.f14 (λ(a,o0baL,o1baL,o2,o3,o4)=>([.ptr (.bt 0) 0 [] 0,.d y4 a],[.obj 0 aQ (.pr (.ptr (.bt 1) 0 [] 0) (.pr (.bE (.bt 4) 0 [] 0 0 o0baL) (.d .unit ()))),.obj 0 aQ (.pr (.cI (.bt 2) 0) (.pr (.bE (.bt 3) 0 [] 0 0 o1baL) (.d .unit ()))),.obj 0 aQ (.mp bh fv o2),.obj 0 aQ (.vec 256 cR o3),.obj 0 aQ (.vec 48 eA o4)])) (λx=>⟨.d (.slice eA) x.1,[.obj 0 aQ (.pr (.ptr (.bt 1) 0 [] 0) (.pr (.bE (.bt 4) 0 [] 0 0 x.2.1) (.d .unit ()))),.obj 0 aQ (.pr (.cI (.bt 2) 0) (.pr (.bE (.bt 3) 0 [] 0 0 x.2.2.1) (.d .unit ()))),.obj 0 aQ (.mp bh fv x.2.2.2.1),.obj 0 aQ (.vec 256 cR x.2.2.2.2.1),.obj 0 aQ (.vec 48 eA x.2.2.2.2.2)],[]⟩) [aD,av y4] [Dj,an7,aJP,aMk,aqL] {res:=[av (.slice eA)]}
theorem azs(a o0baL o1baL o2 o3 o4)(k:K1 R):zb.A (a,o0baL,o1baL,o2,o3,o4) k=al (pY.call (o0baL,o1baL,o2,o3,o4)) λx1=>aL (gz (cV .and .i64 a.1 7) 3) (al (Nl.call (x1.1.1,x1.1.2.1,x1.1.2.2.1,x1.1.2.2.2.1,x1.1.2.2.2.2)) λx2=>al (IB.call (x2.2,x1.2,1,a.2.1)) λx3=>k (zb.out (x3,x2.1.1,x2.1.2.1,x2.1.2.2.1,x2.1.2.2.2.1,x2.1.2.2.2.2))) (aL (gz a.2.2.1 1) (k (zb.out (([]:List dz),x1.1.1,x1.1.2.1,x1.1.2.2.1,x1.1.2.2.2.1,x1.1.2.2.2.2))) (aL (pJ a.2.2.1 x1.2) (k (zb.out (([]:List dz),x1.1.1,x1.1.2.1,x1.1.2.2.1,x1.1.2.2.2.1,x1.1.2.2.2.2))) (aL (pJ a.2.2.1 8) (k (zb.out (([]:List dz),x1.1.1,x1.1.2.1,x1.1.2.2.1,x1.1.2.2.2.1,x1.1.2.2.2.2))) (al (ajU.call ((da .i64 x1.2 a.2.2.1),x1.1.1,x1.1.2.1,x1.1.2.2.1,x1.1.2.2.2.1,x1.1.2.2.2.2)) λx4=>aL (x4.2.2) (al (S8.call x4.2.1) λx5=>al (IB.call (x5,(da .i64 x1.2 a.2.2.1),(bO .i64 a.2.2.1 1),a.2.1)) λx6=>k (zb.out (x6,x4.1.1,x4.1.2.1,x4.1.2.2.1,x4.1.2.2.2.1,x4.1.2.2.2.2))) (al (IB.call ((ab 32 0),(da .i64 x1.2 a.2.2.1),(bO .i64 a.2.2.1 1),a.2.1)) λx7=>k (zb.out (x7,x4.1.1,x4.1.2.1,x4.1.2.2.1,x4.1.2.2.2.1,x4.1.2.2.2.2))))))):=cr
theorem aRT{A0:At}{m nb n:Nat}{a:At}{s:List cG}{bs:List dz}(h:sh A0 m nb n a s bs){k:Nat}(hk:k < nb):aqg (nth eA bs k)=nth eA bs k/\awQ (nth eA bs k):=by have hl:nb<=bs.length:=h.ch.1;have hk':k < bs.length:=ak;have n1:nth eA bs k=bs[k]:=cg (t:=eA) hk';rw[n1];have hv:=h.ch.2.2 _ (aO hk');refine⟨alF hv λt ht=>(h.aWP (b:=bs[k]) ?_ ht).1,hv⟩;have:(bs.take nb)[k]'(by rw[bB];omega)=bs[k]:=List.getElem_take;rw[<-this];exact aO _
theorem azt:zb.Ok:=by
 rintro⟨a,nb,n,at',s,bs⟩ ⟨⟨A0,m,h⟩,ht⟩;have aAL:nb<=1000000:=h.ch.2.1;have z1:(1:Int).toNat=1:=rfl;have hs:∀l:List dz,aL (decide (0=0/\0+l.length<=l.length)) (av l) aD=av l:=λl=>by rw[aM ak];rfl
 rw[azs,aaR,show cV .and .i64 a.1 7=lJ a from rfl];simp only[ah,bC,aaH,C2];by_cases h3:lJ a < 3
 ·rw[if_pos h3,aX h3,aj,aMm h.ch];simp only[ah];rw[V7 (d:=(sV nb bs,(nb:Int),1,a.2.1)) ⟨⟨ak,ak⟩,ht,CG _ _,1,rfl,fg⟩];rfl
 ·rw[if_neg h3,aU h3,ao];by_cases d1:1<=a.2.2.1;rotate_left
  ·rw[aX ak,aj,if_neg (λe=>d1 e.1)]
  rw[aU ak,ao];by_cases d2:a.2.2.1<=nb;rotate_left
  ·rw[dd ak,aj,if_neg (λe=>d2 e.2.1)]
  rw[cH ak,ao];by_cases d3:a.2.2.1<=8;rotate_left
  ·rw[dd ak,aj,if_neg (λe=>d3 e.2.2)]
  rw[cH ak,ao,if_pos ⟨d1,d2,d3⟩];generalize a.2.2.1=d at d1 d2 d3;obtain⟨k,rfl⟩:∃k:Nat,d=(k:Int):=⟨d.toNat,ak⟩;have ei:da .i64 (nb:Int) (k:Int)=((nb - k:Nat):Int):=by rw[fh ak ak];omega
  have ej:bO .i64 (k:Int) 1=((k+1:Nat):Int):=by rw[gD ak ak];omega
  rw[ei,ej,aFx (d:=(((nb - k:Nat):Int),nb,n,at',s,bs)) h.ch];simp only[ah,anZ,aaO,aSA,aa];by_cases hz:nb - k=0
  ·rw[if_neg ak,ao,V7 (d:=(ab 32 0,((nb - k:Nat):Int),((k+1:Nat):Int),a.2.1)) ⟨⟨ak,ak⟩,ht,cD,k+1,rfl,ak⟩];simp only[ah,bC,Z1,aa];rw[show sV (nb - k) bs=ab 32 0 from if_pos hz,show((nb - k:Nat):Int)=(nb:Int) - (k:Int) by omega]
  ·obtain⟨o1,o2⟩:=aRT h (k:=nb - k - 1) ak;rw[if_pos ⟨ak,ak⟩,o1];simp only[aj];rw[VT (d:=nth eA bs (nb - k - 1)) o2];simp only[ah,bC,ayh];rw[V7 (d:=(asP (nth eA bs (nb - k - 1)),((nb - k:Nat):Int),((k+1:Nat):Int),a.2.1)) ⟨⟨ak,ak⟩,ht,Df _,k+1,rfl,ak⟩];simp only[ah,bC,Z1,aa];rw[show sV (nb - k) bs=asP (nth eA bs (nb - k - 1)) from if_neg hz,show((nb - k:Nat):Int)=(nb:Int) - (k:Int) by omega]
theorem as2:zb.RS:=rE [.d y4,.n,.n,.d (.slice (.pair bh fv)),.d (.slice cR),.d (.slice eA)] zb
def azu:=zb.fC azt
abbrev B3:=(List iu)×(List I4)×Int
def qg:B3->AS:=λ(Qe,wJ,i)=>⟨([.d (.slice gV) Qe,.d (.slice y4) wJ,bH,bH,bH,.d ti i]++aS 56 []),[],(ab 62 [])⟩
def mi:Unit->Exit×AS:=λx=>(.ret,⟨(aS 4 ([.d .bool aQ]++aS 57 [])),[],(ab 62 [])⟩)
abbrev Xn:=(List iu)×(List I4)
def Aw:Xn->Exit×AS:=λx=>(.exit 0,⟨([.d (.slice gV) x.1,.d (.slice y4) x.2]++aS 60 []),[],(ab 62 [])⟩)
abbrev PB:=(Unit)⊕(Xn)
abbrev abx:=(Unit)⊕(((List iu)×(List I4)))
def GZ:PB->Out (Exit×AS):=λx=> .br x.isLeft (.get x.getLeft? λa=> .ok (mi a)) (.get x.getRight? λb=> .ok (Aw b))
def mh:B3->abx->PB:=λ(Qe,wJ,i) y=>match y with | .inl y=> .inl y | .inr z=> .inr (z)
abbrev B4:=(List iu)×(List I4)×Int×Int
def qi:B4->AS:=λ(Kj,ab9,gv,kv)=>⟨([.d (.slice gV) Kj,.d (.slice y4) ab9,bH,bH,bH,.d ti gv,.d ti kv]++aS 55 []),[],(ab 62 [])⟩
def jK:Unit->Exit×AS:=λx=>(.ret,⟨(aS 4 ([.d .bool aQ]++aS 57 [])),[],(ab 62 [])⟩)
abbrev Xp:=(List iu)×(List I4)×Int
def Ay:Xp->Exit×AS:=λ(a,b,c)=>(.exit 2,⟨([.d (.slice gV) a,.d (.slice y4) b,bH,bH,bH,.d ti c]++aS 56 []),[],(ab 62 [])⟩)
abbrev PD:=(Unit)⊕(Xp)
abbrev abz:=(Unit)⊕(Unit)
def G0:PD->Out (Exit×AS):=λx=> .br x.isLeft (.get x.getLeft? λa=> .ok (jK a)) (.get x.getRight? λb=> .ok (Ay b))
def mj:B4->abz->PD:=λ(Kj,ab9,gv,kv) y=>match y with | .inl y=> .inl y | .inr z=> .inr ((Kj,ab9,gv))
abbrev axx:=(List iu)×(List I4)
def agY(t:dR):Bool:=decide (t.1.length<=6) && (decide (t.2.1.length<=6) && amn t)
def M5(a:I4):Bool:=decide (a.2.1.length<=4) && a.2.1.all agY
def Vc(outs:List iu)(acts:List I4):Bool:=acts.all M5 && (decide (outs.length<=10) && decide (acts.length<=20))
def Ax:B4->Prop:=λ(_,acts,i,j)=>acts.length<=9223372036854775807/\∃k m:Nat,i=k/\k < acts.length/\(nth y4 acts k).2.1.length<=4/\j=m/\m<=(nth y4 acts k).2.1.length
def qh:B4->abz:=λ(_,acts,i,j)=>if((nth y4 acts i.toNat).2.1.drop j.toNat).all agY then .inr () else .inl ()
def Av:B3->Prop:=λ(_,acts,i)=>acts.length<=9223372036854775807/\∃k:Nat,k<=acts.length/\i=k
def qf:B3->abx:=λ(outs,acts,i)=>if(acts.drop i.toNat).all M5 then .inr (outs,acts) else .inl ()
def aAl:axx->Prop:=λ(_,acts)=>acts.length<=9223372036854775807
def akA:axx->Bool:=λ(outs,acts)=>Vc outs acts
def abw:=dI.fI qg Av mh qf GZ
def NC:B3->Option PB:=gO abw qg
def aby:=dI.fI qi Ax mj qh G0
def NF:B4->Option PD:=gO aby qi
def wP:Fs Tryz.prog aAl bC akA:=fw 13 Tryz.f13 (λ(outs,l)=>([.d (.slice gV) outs,.d (.slice y4) l],[])) (λx=>⟨.d .bool x,[],[]⟩) [av (.slice gV),av (.slice y4)] [aqH] {loops:=oJ [(2,{ba:=[0,1,5]}),(7,{ba:=[0,1,5,6]})],outs:=oI [(2,{ba:=[0,1]},{ba:=[4]}),(7,{ba:=[0,1,5]},{ba:=[4]})],gf:=nQ [(2,abw),(7,aby)]}
def PA:= @eG Tryz.prog (jQ wP.G) wP.an 0 Tryz.f13 0 _ qg
abbrev Xm:=j7 Tryz.prog (jQ wP.G) wP.an 0 Tryz.f13 0 qg Av mh qf GZ
def PC:= @eG Tryz.prog (jQ wP.G) wP.an 0 Tryz.f13 1 _ qi
abbrev Xo:=j7 Tryz.prog (jQ wP.G) wP.an 0 Tryz.f13 1 qi Ax mj qh G0
theorem akB:jh NC Av mh qf:=lH (jx [.d (.slice gV),.d (.slice y4),.d ti] λ_=>cr)
theorem RW:mK @PA qg Av mh qf GZ Xm:=nc
theorem ND(Qe wJ i)(kn:K2 R)(kx:K3 R):PA (Qe,wJ,i) kn kx=aL (gz i (((ag wJ):Nat):Int)) (aL (eL i (((ag wJ):Nat):Int)) (aL (pJ (((ag (nth y4 wJ (ae i)).2.1):Nat):Int) (4:Int)) (kx (mi ()).1 (mi ()).2) (al (NF (Qe,wJ,i,(0:Int))) λx1=>aL x1.isLeft (al x1.getLeft? λa2=>kx (mi ()).1 (mi ()).2) (al x1.getRight? λb3=>kn (qg (b3.1,b3.2.1,(bO .i64 b3.2.2 (1:Int))))))) aD) (kx (Aw (Qe,wJ)).1 (Aw (Qe,wJ)).2):=cr
theorem akC:jh NF Ax mj qh:=lH (jx [.d (.slice gV),.d (.slice y4),.d ti,.d ti] λ_=>cr)
theorem RX:mK @PC qi Ax mj qh G0 Xo:=nc
theorem NG(Kj ab9 gv kv)(kn:K2 R)(kx:K3 R):PC (Kj,ab9,gv,kv) kn kx=aL (eL gv (((ag ab9):Nat):Int)) (aL (gz kv (((ag (nth y4 ab9 (ae gv)).2.1):Nat):Int)) (aL (eL gv (((ag ab9):Nat):Int)) (aL (eL kv (((ag (nth y4 ab9 (ae gv)).2.1):Nat):Int)) (aL (pJ (((ag (nth fa (nth y4 ab9 (ae gv)).2.1 (ae kv)).1):Nat):Int) (6:Int)) (kx (jK ()).1 (jK ()).2) (aL (pJ (((ag (nth fa (nth y4 ab9 (ae gv)).2.1 (ae kv)).2.1):Nat):Int) (6:Int)) (kx (jK ()).1 (jK ()).2) (al (gQ.call (nth fa (nth y4 ab9 (ae gv)).2.1 (ae kv))) λx1=>aL (!x1) (kx (jK ()).1 (jK ()).2) (kn (qi (Kj,ab9,gv,(bO .i64 kv (1:Int)))))))) aD) aD) (kx (Ay (Kj,ab9,gv)).1 (Ay (Kj,ab9,gv)).2)) aD:=cr
theorem aGL(outs l)(k:K1 R):wP.A (outs,l) k=al (NC (outs,l,0)) λx5=>aL x5.isLeft (al x5.getLeft? λa6=>k (wP.out aQ)) (al x5.getRight? λb7=>aL (akZ (b7.1.length:Int) 10) (k (wP.out (akZ (b7.2.length:Int) 20))) (k (wP.out aQ))):=cr
theorem aoR:Xo:=by
 refine RX (λ(_,acts,i,j)=>(nth y4 acts i.toNat).2.1.length - j.toNat) ?_
 rintro⟨outs,acts,i,j⟩ ⟨hl,k,m,rfl,hk,h4,rfl,hm⟩;have hl:acts.length<=9223372036854775807:=hl;have hk:k < acts.length:=hk;have h4:(nth y4 acts k).2.1.length<=4:=h4;have hm:m<=(nth y4 acts k).2.1.length:=hm;obtain⟨l,hl'⟩:∃l:List dR,(nth y4 acts k).2.1=l:=⟨_,rfl⟩;rw[hl']at h4 hm;by_cases h:m < l.length
 ·have n1:nth fa l m=l[m]:=cg (t:=fa) h;have hd:(l.drop m).all agY=(agY l[m] && (l.drop (m+1)).all agY):=by rw[aq h,fK]
  have step:∀ {R:Type} (kn:AS->Option R) (kx:Exit->AS->Option R),PC (outs,acts,(k:Int),(m:Int)) kn kx=aL (agY l[m]) (kn (qi (outs,acts,(k:Int),((m+1:Nat):Int)))) (kx (jK ()).1 (jK ()).2):=by
   intro R kn kx;rw[NG,bj ak ak,aj,aa,hl',aX ak,aj,aj,bj ak ak,aj,aa,n1,al1 (d:=l[m]) trivial,N.mZ ak];simp only[ah,bC,Qq];unfold agY;by_cases h1:l[m].1.length<=6
   ·rw[cH ak,aM h1,bF,ao];by_cases h2:l[m].2.1.length<=6
    ·rw[cH ak,aM h2,bF,ao];cases amn l[m] <;> rfl
    ·rw[dd ak,aV h2];rfl
   ·rw[dd ak,aV h1];rfl
  cases hp:agY l[m]
  ·right;refine⟨jK (),?_,λkn kx=> ?_⟩
   ·simp only[mj,qh,aa,hl',hd,hp,cY,bw,bA];rfl
   ·rw[step,hp,ao]
  ·left;refine⟨(outs,acts,(k:Int),((m+1:Nat):Int)),⟨hl,k,m+1,rfl,hk,by rw[hl'];exact h4,rfl,by rw[hl'];exact h⟩,by simp only[aa,hl'];omega,?_,λkn kx=> ?_⟩
   ·simp only[mj,qh,aa,hl',hd,hp,bF]
   ·rw[step,hp,aj]
 ·right;obtain rfl:m=l.length:=ak;refine⟨Ay (outs,acts,(k:Int)),?_,λkn kx=> ?_⟩
  ·simp only[mj,qh,aa,hl',aN];rfl
  ·rw[NG,bj ak ak,aj,aa,hl',aU ak,ao]
theorem aoQ:Xm:=by
 refine RW (λ(_,acts,i)=>acts.length - i.toNat) ?_
 rintro⟨outs,acts,i⟩ ⟨hl,k,hk,rfl⟩;have hl:acts.length<=9223372036854775807:=hl;have hk:k<=acts.length:=hk;by_cases h:k < acts.length
 ·have n1:nth y4 acts k=acts[k]:=cg (t:=y4) h;have hd:(acts.drop k).all M5=(M5 acts[k] && (acts.drop (k+1)).all M5):=by rw[aq h,fK]
  have step:∀ {R:Type} (kn:AS->Option R) (kx:Exit->AS->Option R),PA (outs,acts,(k:Int)) kn kx=aL (M5 acts[k]) (kn (qg (outs,acts,((k+1:Nat):Int)))) (kx (mi ()).1 (mi ()).2):=by
   intro R kn kx;rw[ND,aX ak,aj,bj ak ak,aj,aa,n1];unfold M5;by_cases h1:acts[k].2.1.length<=4
   ·rw[cH ak,ao,aM h1,bF,akC (d:=(outs,acts,(k:Int),0)) ⟨hl,k,0,rfl,h,by rw[n1];exact h1,rfl,aP _⟩];simp only[ah,qh,aa,n1,bg,aG];cases acts[k].2.1.all agY with
    |false=>rfl
    |true=>
     simp only[bM,mj,dJ,ao,cW,ah,aj];rw[N.mZ ak]
   ·rw[dd ak,aV h1];rfl
  cases hp:M5 acts[k]
  ·right;refine⟨mi (),?_,λkn kx=> ?_⟩
   ·simp only[mh,qf,aa,hd,hp,cY,bw,bA];rfl
   ·rw[step,hp,ao]
  ·left;refine⟨(outs,acts,((k+1:Nat):Int)),⟨hl,k+1,ak,rfl⟩,by simp only[aa];omega,?_,λkn kx=> ?_⟩
   ·simp only[mh,qf,aa,hd,hp,bF]
   ·rw[step,hp,aj]
 ·right;obtain rfl:k=acts.length:=ak;refine⟨Aw (outs,acts),?_,λkn kx=> ?_⟩
  ·simp only[mh,qf,aa,aN];rfl
  ·rw[ND,aU ak,ao]
theorem aGM:wP.Ok:=by
 rintro⟨outs,acts⟩ hl;rw[aGL,akB (d:=(outs,acts,0)) ⟨hl,0,aP _,rfl⟩];simp only[ah,qf,bg,aG,bC,akA,Vc];cases acts.all M5 with
 |false=>rfl
 |true=>
  simp only[bM,mh,dJ,ao,cW,ah,bF];by_cases h1:outs.length<=10
  ·rw[pa ak,aj,aM h1,bF];by_cases h2:acts.length<=20
   ·rw[pa ak,aM h2]
   ·rw[kO ak,aV h2]
  ·rw[kO ak,ao,aV h1,cY]
theorem aAm:wP.RS:=rE [.d (.slice gV),.d (.slice y4)] wP
def aGN:=wP.fC aGM 2 ⟨.fI aoQ,⟨.fI aoR,trivial⟩⟩
abbrev Ap:=I4×(List dz)×Int×Bool×Nat×Nat×(List (bJ×eV))×(List cG)×(List dz)×(List (bJ×jg))
def Nz:Ap->AS:=λ(a,l,t13,t14,o0L,o1L,o2,o3,o4,o6)=>⟨([.ptr (.bt 0) 0 [] 0,.ptr (.bt 5) 0 [] 0,bH,bH,bH,.dV y4 a,bH,.d (.slice eA) l]++aS 5 ([.d ti t13,.d .bool t14]++aS 33 [])),[bV (.pr (.ptr (.bt 1) 0 [] 0) (.pr (.bE (.bt 4) 0 [] 0 0 o0L) gg)),bV (.pr (.cI (.bt 2) 0) (.pr (.bE (.bt 3) 0 [] 0 0 o1L) gg)),bV (.mp bh fv o2),bV (.vec 256 cR o3),bV (.vec 48 eA o4),bV (.pr (.cI (.bt 6) 0) gg),bV (.mp bh kT o6)],(ab 48 [])⟩
def RO:pP:=pP.of {ba:=[0,1,5,7,13,14]} Nz
def vA:Ap->Option Ap:=λx=>(RO).axO .normal (Nz x)
theorem RP(x:Ap):vA x=av x:=pP.Hn (jx [.d y4,.d (.slice eA),.d ti,.d .bool,.n,.n,.d (.slice (.pair bh fv)),.d (.slice cR),.d (.slice eA),.d (.slice (.pair bh kT))] λ_=>cr) x
abbrev Aq:=I4×(List dz)×Int×Bool×Nat×Nat×(List (bJ×eV))×(List cG)×(List dz)×(List (bJ×jg))
def NA:Aq->AS:=λ(a,l,t13,t23,o0L,o1L,o2,o3,o4,o6)=>⟨([.ptr (.bt 0) 0 [] 0,.ptr (.bt 5) 0 [] 0,bH,bH,bH,.dV y4 a,bH,.d (.slice eA) l]++aS 5 ([.d ti t13]++aS 9 ([.d .bool t23]++aS 24 []))),[bV (.pr (.ptr (.bt 1) 0 [] 0) (.pr (.bE (.bt 4) 0 [] 0 0 o0L) gg)),bV (.pr (.cI (.bt 2) 0) (.pr (.bE (.bt 3) 0 [] 0 0 o1L) gg)),bV (.mp bh fv o2),bV (.vec 256 cR o3),bV (.vec 48 eA o4),bV (.pr (.cI (.bt 6) 0) gg),bV (.mp bh kT o6)],(ab 48 [])⟩
def RQ:pP:=pP.of {ba:=[0,1,5,7,13,23]} NA
def B1:Aq->Option Aq:=λx=>(RQ).axO .normal (NA x)
theorem RR(x:Aq):B1 x=av x:=pP.Hn (jx [.d y4,.d (.slice eA),.d ti,.d .bool,.n,.n,.d (.slice (.pair bh fv)),.d (.slice cR),.d (.slice eA),.d (.slice (.pair bh kT))] λ_=>cr) x
abbrev JI:=I4×Nat×Nat×(List (bJ×eV))×(List cG)×(List dz)×(List (bJ×jg))
def U9:JI->SA:=λ(a,o0baL,o1baL,o2,o3,o4,o6)=>([.ptr (.bt 0) 0 [] 0,.ptr (.bt 5) 0 [] 0,.d y4 a],[bV (.pr (.ptr (.bt 1) 0 [] 0) (.pr (.bE (.bt 4) 0 [] 0 0 o0baL) gg)),bV (.pr (.cI (.bt 2) 0) (.pr (.bE (.bt 3) 0 [] 0 0 o1baL) gg)),bV (.mp bh fv o2),bV (.vec 256 cR o3),bV (.vec 48 eA o4),bV (.pr (.cI (.bt 6) 0) gg),bV (.mp bh kT o6)])
abbrev aoL:=((List lX)×Nat×Nat×(List (bJ×eV))×(List cG)×(List dz)×(List (bJ×jg)))⊕((List lX)×Nat×Nat×(List (bJ×eV))×(List cG)×(List dz)×(List (bJ×jg))×Nat×(List (bJ×eV))×(List cG)×(List dz))
abbrev JJ:=((List lX)×Nat×Nat×(List (bJ×eV))×(List cG)×(List dz)×(List (bJ×jg)))⊕((List lX)×Nat×Nat×(List (bJ×eV))×(List cG)×(List dz)×(List (bJ×jg))×Nat×(List (bJ×eV))×(List cG)×(List dz))
def oH:JJ->iB:=λx=>match x with | .inl x=>⟨.d (.slice pf) x.1,[bV (.pr (.ptr (.bt 1) 0 [] 0) (.pr (.bE (.bt 4) 1 [] 0 0 x.2.1) gg)),bV (.pr (.cI (.bt 2) 0) (.pr (.bE (.bt 3) 1 [] 0 0 x.2.2.1) gg)),bV (.mp bh fv x.2.2.2.1),.obj 1 aQ (.vec 256 cR x.2.2.2.2.1),.obj 1 aQ (.vec 48 eA x.2.2.2.2.2.1),bV (.pr (.cI (.bt 6) 0) gg),bV (.mp bh kT x.2.2.2.2.2.2)],[]⟩ | .inr x=>⟨.d (.slice pf) x.1,[bV (.pr (fx 0) (.pr (.bE (.new 0 3) 0 [] 0 0 x.2.1) gg)),bV (.pr (.cI (.bt 2) 0) (.pr (.bE (.bt 3) 1 [] 0 0 x.2.2.1) gg)),bV (.mp bh fv x.2.2.2.1),.obj 1 aQ (.vec 256 cR x.2.2.2.2.1),.obj 1 aQ (.vec 48 eA x.2.2.2.2.2.1),bV (.pr (.cI (.bt 6) 0) gg),bV (.mp bh kT x.2.2.2.2.2.2.1)],[bV (.pr (.cI (.new 0 1) 0) (.pr (.bE (.new 0 2) 0 [] 0 0 x.2.2.2.2.2.2.2.1) gg)),bV (.mp bh fv x.2.2.2.2.2.2.2.2.1),bV (.vec 256 cR x.2.2.2.2.2.2.2.2.2.1),bV (.vec 48 eA x.2.2.2.2.2.2.2.2.2.2)]⟩
def GU:JI->aoL->JJ:=λ(a,o0baL,o1baL,o2,o3,o4,o6) y=>match y with | .inl y=> .inl y | .inr y=> .inr y
def aRu(v:Int):Bool:=oV v 0 || (oV v 1 || oV v 2)
def aUk(v:Int):Bool:=oV v 3 || oV v 4
def al8(d:Int)(l:List dz)(nb n:Nat)(a:At)(s:List cG)(bs:List dz):LY:=(mc (d,l,nb,n,a,s,bs)).getD (.inl (0,nb,n,a,s,bs))
def OG(o:bJ)(m:Wm):Wm:=if(bW bh o m).isSome then m else fj bh o tM m
def aJZ(a:I4)(nb:Nat)(bs:List dz)(m:Wm):Wm×List lX:=if lJ a=5 then(OG a.2.2.2.1 m,[]) else if lJ a=6 then(iO bh a.2.2.2.1 m,[]) else if lJ a=7 then eN nb bs m else(m,[])
def Pv:JI->Prop:=λ(a,nb,n,at',s,bs,m)=>(∃A0 b,sh A0 b nb n at' s bs/\b+a.2.1.length<=400)/\nb<=900/\Z8 a.2.1/\WG m
def yI:JI->aoL:=λ(a,nb,n,at',s,bs,m)=>
 if aRu (lJ a) then .inl ([],(na (nth eA (C2 a nb bs) 0) nb (n,at',s) bs).2.1,(na (nth eA (C2 a nb bs) 0) nb (n,at',s) bs).2.2.1,(na (nth eA (C2 a nb bs) 0) nb (n,at',s) bs).2.2.2.1,(na (nth eA (C2 a nb bs) 0) nb (n,at',s) bs).2.2.2.2.1,(na (nth eA (C2 a nb bs) 0) nb (n,at',s) bs).2.2.2.2.2,m)
 else if aUk (lJ a) then match al8 a.2.2.1 (C2 a nb bs) nb n at' s bs with
  | .inl x=> .inl ([],x.2.1,x.2.2.1,x.2.2.2.1,x.2.2.2.2.1,x.2.2.2.2.2,m)
  | .inr x=> .inr ([],x.2.1,x.2.2.1,x.2.2.2.1,x.2.2.2.2.1,x.2.2.2.2.2.1,m,x.2.2.2.2.2.2.1,x.2.2.2.2.2.2.2.1,x.2.2.2.2.2.2.2.2.1,x.2.2.2.2.2.2.2.2.2)
 else .inl ((aJZ a nb bs m).2,nb,n,at',s,bs,(aJZ a nb bs m).1)
def aGy:pO:=jQ (P:=Tryz.prog) [azu,anX,atj,afy,ar4,ar7]
def aAd:yx:= {res:=[av (.slice pf)],as3:=[(3,1),(4,1)],apt:=nQ [(6,RO),(9,RQ)]}
def aoK:= @Jg Tryz.prog aGy aAd 0 Tryz.f20 _ U9
abbrev aAc:=ajq @aoK Pv GU yI oH
theorem aAe(a o0baL o1baL o2 o3 o4 o6)(k:K1 R):aoK (a,o0baL,o1baL,o2,o3,o4,o6) k=al (zb.call (a,o0baL,o1baL,o2,o3,o4)) λx4=>al (aL (oV (cV .and .i64 a.1 (7:Int)) (0:Int)) (vA (a,x4.1,(cV .and .i64 a.1 (7:Int)),(oV (cV .and .i64 a.1 (7:Int)) (0:Int)),x4.2.1,x4.2.2.1,x4.2.2.2.1,x4.2.2.2.2.1,x4.2.2.2.2.2,o6)) (aL (oV (cV .and .i64 a.1 (7:Int)) (1:Int)) (vA (a,x4.1,(cV .and .i64 a.1 (7:Int)),(oV (cV .and .i64 a.1 (7:Int)) (1:Int)),x4.2.1,x4.2.2.1,x4.2.2.2.1,x4.2.2.2.2.1,x4.2.2.2.2.2,o6)) (vA (a,x4.1,(cV .and .i64 a.1 (7:Int)),(oV (cV .and .i64 a.1 (7:Int)) (2:Int)),x4.2.1,x4.2.2.1,x4.2.2.2.1,x4.2.2.2.2.1,x4.2.2.2.2.2,o6)))) λOU=>aL (OU.2.2.2.1) (aL (eL (0:Int) (((ag OU.2.1):Nat):Int)) (al (Ik.call ((nth eA OU.2.1 0),OU.2.2.2.2.1,OU.2.2.2.2.2.1,OU.2.2.2.2.2.2.1,OU.2.2.2.2.2.2.2.1,OU.2.2.2.2.2.2.2.2.1)) λaUO=>k (oH (.inl (([]:List lX),aUO.2.1,aUO.2.2.1,aUO.2.2.2.1,aUO.2.2.2.2.1,aUO.2.2.2.2.2,OU.2.2.2.2.2.2.2.2.2)))) aD) (al (aL (oV OU.2.2.1 (3:Int)) (B1 (OU.1,OU.2.1,OU.2.2.1,(oV OU.2.2.1 (3:Int)),OU.2.2.2.2.1,OU.2.2.2.2.2.1,OU.2.2.2.2.2.2.1,OU.2.2.2.2.2.2.2.1,OU.2.2.2.2.2.2.2.2.1,OU.2.2.2.2.2.2.2.2.2)) (B1 (OU.1,OU.2.1,OU.2.2.1,(oV OU.2.2.1 (4:Int)),OU.2.2.2.2.1,OU.2.2.2.2.2.1,OU.2.2.2.2.2.2.1,OU.2.2.2.2.2.2.2.1,OU.2.2.2.2.2.2.2.2.1,OU.2.2.2.2.2.2.2.2.2))) λwG=>aL (wG.2.2.2.1) (al (mc (wG.1.2.2.1,wG.2.1,wG.2.2.2.2.1,wG.2.2.2.2.2.1,wG.2.2.2.2.2.2.1,wG.2.2.2.2.2.2.2.1,wG.2.2.2.2.2.2.2.2.1)) λJf=>aL Jf.isLeft (al Jf.getLeft? λaLs=>k (oH (.inl (([]:List lX),aLs.2.1,aLs.2.2.1,aLs.2.2.2.1,aLs.2.2.2.2.1,aLs.2.2.2.2.2,wG.2.2.2.2.2.2.2.2.2)))) (al Jf.getRight? λamZ=>k (oH (.inr (([]:List lX),amZ.2.1,amZ.2.2.1,amZ.2.2.2.1,amZ.2.2.2.2.1,amZ.2.2.2.2.2.1,wG.2.2.2.2.2.2.2.2.2,amZ.2.2.2.2.2.2.1,amZ.2.2.2.2.2.2.2.1,amZ.2.2.2.2.2.2.2.2.1,amZ.2.2.2.2.2.2.2.2.2))))) (aL (oV wG.2.2.1 (5:Int)) (al (Gh.call (wG.1.2.2.2.1,wG.2.2.2.2.2.2.2.2.2)) λUz=>k (oH (.inl (([]:List lX),wG.2.2.2.2.1,wG.2.2.2.2.2.1,wG.2.2.2.2.2.2.1,wG.2.2.2.2.2.2.2.1,wG.2.2.2.2.2.2.2.2.1,Uz)))) (aL (oV wG.2.2.1 (6:Int)) (al (T8.call (wG.1.2.2.2.1,wG.2.2.2.2.2.2.2.2.2)) λafz=>k (oH (.inl (([]:List lX),wG.2.2.2.2.1,wG.2.2.2.2.2.1,wG.2.2.2.2.2.2.1,wG.2.2.2.2.2.2.2.1,wG.2.2.2.2.2.2.2.2.1,afz)))) (aL (oV wG.2.2.1 (7:Int)) (al (LN.call (wG.2.2.2.2.2.2.2.2.2,wG.2.2.2.2.1,wG.2.2.2.2.2.1,wG.2.2.2.2.2.2.1,wG.2.2.2.2.2.2.2.1,wG.2.2.2.2.2.2.2.2.1)) λaEg=>aL (decide (0=0/\(0+aEg.1)<=(ag aEg.2.2.2.2.2.2.2))) (k (oH (.inl ((cut aEg.2.2.2.2.2.2.2 0 aEg.1),aEg.2.2.1,aEg.2.2.2.1,aEg.2.2.2.2.1,aEg.2.2.2.2.2.1,aEg.2.2.2.2.2.2.1,aEg.2.1)))) aD) (k (oH (.inl (([]:List lX),wG.2.2.2.2.1,wG.2.2.2.2.2.1,wG.2.2.2.2.2.2.1,wG.2.2.2.2.2.2.2.1,wG.2.2.2.2.2.2.2.2.1,wG.2.2.2.2.2.2.2.2.2)))))))):=cr
theorem aE5{a:I4}(ht:Z8 a.2.1){nb:Nat}(hn:nb<=1000000)(bs:List dz):(∀b∈C2 a nb bs,YN b)/\Wz (C2 a nb bs)<=a.2.1.length/\(C2 a nb bs).length<=9/\(lJ a < 3->(C2 a nb bs).length=1):=by
 unfold C2;split
 ·exact⟨avD ht 1 _ _ ak (CG _ _),aea _ _ _ _,by rw[Tn];decide,λ_=>Tn _ _ _ _⟩
 ·rename_i h3;split
  ·rename_i hd;exact⟨avD ht _ _ _ ak (CG _ _),aea _ _ _ _,by rw[Tn];omega,λh=>absurd h h3⟩
  ·exact⟨λb hb=>(by cases hb),aP _,by show 0<=9;decide,λh=>absurd h h3⟩
theorem arQ:∀ {l:List dz} {b:dz},b∈l->b.2.2.1.length<=Wz l
 |x::l,b,h=>by
  rw[Wz];rcases cv.1 h with rfl | h
  ·omega
  ·have:=arQ h;omega
theorem sh.al8{A0:At}{m nb n:Nat}{a:At}{s:List cG}{bs:List dz}(h:sh A0 m nb n a s bs)(d:Int){l:List dz}(hl:∀b∈l,YN b)(hm:m+Wz l<=400)(hn:nb+l.length<=1000):
  mc (d,l,nb,n,a,s,bs)=av (Ab.al8 d l nb n a s bs):=by
 unfold Ab.al8;rcases h.aJs d hl hm hn with⟨e,_,h1⟩ | ⟨n',a',s',bs',h1,_⟩
 ·rw[h1];rfl
 ·rw[h1];rfl
theorem aAf:aAc:=by
 rintro⟨a,nb,n,at',s,bs,m⟩ ⟨⟨A0,b,h,hb⟩,aAL,ht,hw⟩;have hb:b+a.2.1.length<=400:=hb;have aAL:nb<=900:=aAL;obtain⟨g1,g2,g3,g4⟩:=aE5 ht (nb:=nb) ak bs;rw[aAe,as2 (d:=(a,nb,n,at',s,bs)) ⟨⟨A0,b,h⟩,ht⟩];simp only[ah,bC,aaH,RP,RR];rw[show cV .and .i64 a.1 7=lJ a from rfl];refine(bu (λz=>al z _) (?_:_=av (a,C2 a nb bs,lJ a,aRu (lJ a),nb,n,at',s,bs,m))).trans ?_
 ·unfold aRu;cases oV (lJ a) 0 <;> cases oV (lJ a) 1 <;> cases oV (lJ a) 2 <;> rfl
 rw[ah];simp only[yI];generalize hl:C2 a nb bs=l at g1 g2 g3 g4 ⊢;cases h3:aRu (lJ a) with
 |true=>
  have hv:lJ a < 3:=by unfold aRu oV at h3;simp only[gR,dK]at h3;rcases h3 with h3 | h3 | h3 <;> rw[h3] <;> decide
  have g4:=g4 hv;have aHc:nth eA l 0∈l:=by rw[cg (t:=eA) (show 0 < l.length by omega)];exact aO _
  rw[aj,if_pos rfl,bj fg ak,aj,h.aVv (g1 _ aHc) ak];rfl
 |false=>
  rw[ao,if_neg fg];refine(bu (λz=>al z _) (?_:_=av (a,l,lJ a,aUk (lJ a),nb,n,at',s,bs,m))).trans ?_
  ·unfold aUk;cases oV (lJ a) 3 <;> cases oV (lJ a) 4 <;> rfl
  rw[ah];simp only[];cases h4:aUk (lJ a) with
  |true=>
   rw[aj,if_pos rfl,h.al8 a.2.2.1 g1 ak ak];simp only[ah];cases al8 a.2.2.1 l nb n at' s bs <;> rfl
  |false=>
   rw[ao,if_neg fg];unfold aJZ;by_cases c5:lJ a=5
   ·rw[du c5,aj,if_pos c5,MG (d:=(a.2.2.2.1,m)) trivial];rfl
   rw[fm c5,ao,if_neg c5];by_cases c6:lJ a=6
   ·rw[du c6,aj,if_pos c6,ajg (d:=(a.2.2.2.1,m)) trivial];rfl
   rw[fm c6,ao,if_neg c6];by_cases c7:lJ a=7
   ·rw[du c7,aj,if_pos c7,ajk (d:=(m,nb,n,at',s,bs)) ⟨⟨A0,b,h⟩,hw⟩];simp only[ah,bC,Z6];rw[aM (⟨trivial,re (aR _)⟩:True/\0+(eN nb bs m).2.length<=(eN nb bs m).2.length),aj,fB rfl];rfl
   rw[fm c7,ao,if_neg c7];rfl
def Fx:=Entry.af5 [aD,aD,av y4] U9 Pv GU yI oH
def dQ:JI->Option JJ:=Nd Fx U9
theorem GV:jh dQ Pv GU yI:=aef (YW [.d y4,.n,.n,.d (.slice (.pair bh fv)),.d (.slice cR),.d (.slice eA),.d (.slice (.pair bh kT))] λ_=>cr)
def U8:SG Tryz.prog:=⟨20,nh,Fx,.of (.aP6 (.fn 0 cr aAf trivial)) (by rfl)⟩
section
def aPR:List aC->Bool:=λvs=>match vs with | [_,_,.d (.pair (.int .i64) _) x]=>decide ((x.1:Int)=3) | _=>aQ
def aUo:List aC->Bool:=λvs=> !aPR vs
def aVD.E:Entry:=Entry.half [aD,aD,av y4] (X:=JJ) (Z:=(List lX)×Nat×Nat×(List (bJ×eV))×(List cG)×(List dz)×(List (bJ×jg))) Fx.run Fx.out Sum.inl dj
def aVD.sg:SG Tryz.prog:=⟨20,aUo,aVD.E,wN.of (si.half aTv (U8.h.1 (by rfl))) (by rfl)⟩
def aVE.E:Entry:=Entry.half [aD,aD,av y4] (X:=JJ) (Z:=(List lX)×Nat×Nat×(List (bJ×eV))×(List cG)×(List dz)×(List (bJ×jg))×Nat×(List (bJ×eV))×(List cG)×(List dz)) Fx.run Fx.out Sum.inr Sum.getRight?
def aVE.sg:SG Tryz.prog:=⟨20,aPR,aVE.E,wN.of (si.half aTw (U8.h.1 (by rfl))) (by rfl)⟩
abbrev qI:=(List lX)×(List lX)×Bool×bJ×(List (bJ×jg))
def II:qI->AS:=λ(d,e,one,n6,n29)=>⟨([bH,bH,bH,fx 29,bH,bH,fx 6]++aS 6 ([.d (.slice pf) d,bH,.d (.slice pf) e,bH,.d .bool one]++aS 235 [])),[],(bS 6 ([ed (.d bh n6)]++bS 22 ([[bV (.pr (.cI (.new 29 1) 0) gg),bV (.mp bh kT n29)]]++bS 223 [])))⟩
def Lg:pP:=pP.of {ba:=[3,6,13,15,17],sites:=[6,29]} II
def jH:qI->Option qI:=λx=>(Lg).axO .normal (II x)
theorem MV(x:qI):jH x=av x:=pP.Hn (jx [.d (.slice pf),.d (.slice pf),.d .bool,.d bh,.d (.slice (.pair bh kT))] λ_=>cr) x
abbrev qJ:=Bool×Bool×bJ×(List (bJ×jg))
def IJ:qJ->AS:=λ(one,two,n6,n29)=>⟨([bH,bH,bH,fx 29,bH,bH,fx 6]++aS 10 ([.d .bool one,.d .bool two]++aS 234 [])),[],(bS 6 ([ed (.d bh n6)]++bS 22 ([[bV (.pr (.cI (.new 29 1) 0) gg),bV (.mp bh kT n29)]]++bS 223 [])))⟩
def Lh:pP:=pP.of {ba:=[3,6,17,18],sites:=[6,29]} IJ
def hJ:qJ->Option qJ:=λx=>(Lh).axO .normal (IJ x)
theorem MW(x:qJ):hJ x=av x:=pP.Hn (jx [.d .bool,.d .bool,.d bh,.d (.slice (.pair bh kT))] λ_=>cr) x
def ary:Unit->Prop:=λ_=>True
def ai3:Unit->Bool:=λ_=>aZ
def kj:Fs Tryz.prog ary bC ai3:=fw 8 Tryz.f8 (λ_=>([],[])) (λx=>⟨.d .bool x,[],[]⟩) [] [SY,aNK,an4,ayL,aKN,afy,aVD.sg,asc,aVE.sg,aKH,aDO,ayG,ar4] {loops:=oJ [(19,{ba:=[2,3,4,6,7,8,9,11,12,13,14],sites:=[1,4,6,7,10,20,23,24,28,29,44,50,53,58,62,68,72,76,85,89,97,101,105,155,207,212,216,219,223,249]})],outs:=oI [(19,{ba:=[2,3,4,6,7,8,9,11,12,13],sites:=[1,4,6,7,10,20,23,24,28,29,44,50,53,58,62,68,72,76,85,89,97,101,105,155,207,212,216,219,223,249]},{ba:=[0],sites:=[1,4,6,7,10,20,23,24,28,29,44,50,53,58,62,68,72,76,85,89,97,101,105,155,207,212,216,219,223,249]})],apt:=nQ [(27,Lg),(28,Lh)]} 8
theorem av0(d)(k:K1 R):kj.A d k=al (Iw.call 7) λx7=>al (apB.call x7) λx8=>al (GA [(100,(x8,()))]) λwG=>aL wG.isLeft (al wG.getLeft? λaZI=>al (afr.call ()) λUz=>k (kj.out aQ)) (al wG.getRight? λaSs=>al (afr.call ()) λaEg=>al (wT.call (([(((ab 32 0),(0,())),((0,(([]:List Sg),(0,()))),()))],([(90,(x8,()))],(0,()))),0,0,[7],0)) λaS0=>al (Gh.call (((ab 32 0),(1,())),aEg)) λaVo=>al (Gh.call (((ab 32 0),(0,())),aVo)) λaZL=>al (ko dj (dQ ((7,(([]:List dR),(0,(((ab 32 0),(0,())),())))),0,0,aSs.1,aSs.2.1,aSs.2.2,aZL))) λaSu=>al (ko dj (dQ ((0,(([]:List dR),(0,(((ab 32 0),(0,())),())))),aSu.2.1,aSu.2.2.1,aSu.2.2.2.1,aSu.2.2.2.2.1,aSu.2.2.2.2.2.1,aSu.2.2.2.2.2.2))) λaS1=>al (ko dj (dQ ((0,([aS0.1],(0,(((ab 32 0),(0,())),())))),aS1.2.1,aS1.2.2.1,aS1.2.2.2.1,aS1.2.2.2.2.1,aS1.2.2.2.2.2.1,aS1.2.2.2.2.2.2))) λaS3=>al (ko dj (dQ ((7,(([]:List dR),(0,(((ab 32 0),(0,())),())))),aS3.2.1,aS3.2.2.1,aS3.2.2.2.1,aS3.2.2.2.2.1,aS3.2.2.2.2.2.1,aS3.2.2.2.2.2.2))) λawN=>al (Gg.call (((ab 32 0),(0,())),awN.2.2.2.2.2.2)) λaXo=>al (ko Sum.getRight? (dQ ((3,([aS0.1],(1,(((ab 32 0),(0,())),())))),awN.2.1,awN.2.2.1,awN.2.2.2.1,awN.2.2.2.2.1,awN.2.2.2.2.2.1,aXo.1))) λaS4=>al (ko dj (dQ ((7,(([]:List dR),(0,(((ab 32 0),(0,())),())))),aS4.2.1,aS4.2.2.2.2.2.2.2.1,aS4.2.2.2.2.2.2.2.2.1,aS4.2.2.2.2.2.2.2.2.2.1,aS4.2.2.2.2.2.2.2.2.2.2,aS4.2.2.2.2.2.2.1))) λaD5=>al (ko dj (dQ ((0,(([]:List dR),(0,(((ab 32 0),(0,())),())))),aD5.2.1,aD5.2.2.1,aD5.2.2.2.1,aD5.2.2.2.2.1,aD5.2.2.2.2.2.1,aD5.2.2.2.2.2.2))) λaDY=>al (ko dj (dQ ((0,(([]:List dR),(0,(((ab 32 0),(0,())),())))),aDY.2.1,aDY.2.2.1,aDY.2.2.2.1,aDY.2.2.2.2.1,aDY.2.2.2.2.2.1,aDY.2.2.2.2.2.2))) λaDZ=>al (ko dj (dQ ((0,(([]:List dR),(0,(((ab 32 0),(0,())),())))),aDZ.2.1,aDZ.2.2.1,aDZ.2.2.2.1,aDZ.2.2.2.2.1,aDZ.2.2.2.2.2.1,aDZ.2.2.2.2.2.2))) λase=>al (ko dj (dQ ((0,(([]:List dR),(0,(((ab 32 0),(0,())),())))),ase.2.1,ase.2.2.1,ase.2.2.2.1,ase.2.2.2.2.1,ase.2.2.2.2.2.1,ase.2.2.2.2.2.2))) λaD0=>al (ko dj (dQ ((0,(([]:List dR),(0,(((ab 32 0),(0,())),())))),aD0.2.1,aD0.2.2.1,aD0.2.2.2.1,aD0.2.2.2.2.1,aD0.2.2.2.2.2.1,aD0.2.2.2.2.2.2))) λQN=>al (ko dj (dQ ((0,(([]:List dR),(0,(((ab 32 0),(0,())),())))),QN.2.1,QN.2.2.1,QN.2.2.2.1,QN.2.2.2.2.1,QN.2.2.2.2.2.1,QN.2.2.2.2.2.2))) λaD1=>al (ko dj (dQ ((0,(([]:List dR),(0,(((ab 32 0),(0,())),())))),aD1.2.1,aD1.2.2.1,aD1.2.2.2.1,aD1.2.2.2.2.1,aD1.2.2.2.2.2.1,aD1.2.2.2.2.2.2))) λag6=>al (ko dj (dQ ((7,(([]:List dR),(0,(((ab 32 0),(0,())),())))),ag6.2.1,ag6.2.2.1,ag6.2.2.2.1,ag6.2.2.2.2.1,ag6.2.2.2.2.2.1,ag6.2.2.2.2.2.2))) λWN=>al (ko dj (dQ ((7,(([]:List dR),(0,(((ab 32 0),(0,())),())))),WN.2.1,WN.2.2.1,WN.2.2.2.1,WN.2.2.2.2.1,WN.2.2.2.2.2.1,WN.2.2.2.2.2.2))) λawM=>aL (zg (aSu.1.length:Int) 0) (k (kj.out aQ)) (aL (zg (awN.1.length:Int) 1) (k (kj.out aQ)) (aL (zg (aD5.1.length:Int) 2) (k (kj.out aQ)) (aL (zg (WN.1.length:Int) 1) (k (kj.out aQ)) (aL (zg (awM.1.length:Int) 0) (k (kj.out aQ)) (al (aL (eL 0 (awN.1.length:Int)) (aL (oV (nth pf awN.1 0).1 1) (aL (eL 0 (awN.1.length:Int)) (aL (oV (nth pf awN.1 0).2.2.2.1 2) (aL (eL 0 (awN.1.length:Int)) (aL (Ty.beq bh (nth pf awN.1 0).2.1 ((ab 32 0),(0,()))) (aL (eL 0 (awN.1.length:Int)) (al (OC.call ((nth pf awN.1 0).2.2.1,aS0.1)) λaPk=>aL (aPk) (aL (aXo.2.2.2) (jH (aD5.1,WN.1,(oV aXo.2.2.1 2),((ab 32 0),(0,())),awM.2.2.2.2.2.2)) (jH (aD5.1,WN.1,aQ,((ab 32 0),(0,())),awM.2.2.2.2.2.2))) (jH (aD5.1,WN.1,aQ,((ab 32 0),(0,())),awM.2.2.2.2.2.2))) aD) (jH (aD5.1,WN.1,aQ,((ab 32 0),(0,())),awM.2.2.2.2.2.2))) aD) (jH (aD5.1,WN.1,aQ,((ab 32 0),(0,())),awM.2.2.2.2.2.2))) aD) (jH (aD5.1,WN.1,aQ,((ab 32 0),(0,())),awM.2.2.2.2.2.2))) aD) λpg=>al (aL (eL 0 (pg.1.length:Int)) (aL (oV (nth pf pg.1 0).1 2) (aL (eL 0 (pg.1.length:Int)) (aL (oV (nth pf pg.1 0).2.2.2.1 2) (aL (eL 1 (pg.1.length:Int)) (aL (oV (nth pf pg.1 1).1 1) (aL (eL 1 (pg.1.length:Int)) (aL (oV (nth pf pg.1 1).2.2.2.1 3) (aL (eL 0 (pg.2.1.length:Int)) (aL (oV (nth pf pg.2.1 0).1 3) (aL (eL 0 (pg.2.1.length:Int)) (aL (oV (nth pf pg.2.1 0).2.2.2.1 3) (al (CO.call (pg.2.2.2.1,pg.2.2.2.2)) λaSq=>aL (aSq.2) (al (CO.call (((ab 32 0),(1,())),aSq.1)) λaUM=>hJ (pg.2.2.1,(!aUM.2),pg.2.2.2.1,aUM.1)) (hJ (pg.2.2.1,aQ,pg.2.2.2.1,aSq.1))) (hJ (pg.2.2.1,aQ,pg.2.2.2.1,pg.2.2.2.2))) aD) (hJ (pg.2.2.1,aQ,pg.2.2.2.1,pg.2.2.2.2))) aD) (hJ (pg.2.2.1,aQ,pg.2.2.2.1,pg.2.2.2.2))) aD) (hJ (pg.2.2.1,aQ,pg.2.2.2.1,pg.2.2.2.2))) aD) (hJ (pg.2.2.1,aQ,pg.2.2.2.1,pg.2.2.2.2))) aD) (hJ (pg.2.2.1,aQ,pg.2.2.2.1,pg.2.2.2.2))) aD) λaD2=>al (wall.call aD2.2.2.2) λaLp=>al (T8.call (aD2.2.2.1,aLp.2.1)) λaXi=>al (Gg.call (aD2.2.2.1,aXi)) λaUN=>aL (aD2.1) (aL (aD2.2.1) (aL (oV ((aLp.1:Nat):Int) 2) (aL (eL 0 ((aLp.1:Nat):Int)) (aL (decide (0 < (ag aLp.2.2))) (aL (Ty.beq bh (nth bh aLp.2.2 0) aD2.2.2.1) (aL (!aUN.2.2.2) (al (wall.call aUN.1) λaXj=>k (kj.out (oV ((aXj.1:Nat):Int) 1))) (k (kj.out aQ))) (k (kj.out aQ))) aD) aD) (k (kj.out aQ))) (k (kj.out aQ))) (k (kj.out aQ)))))))):=cr
def o0:bJ:=(afB,((0:Int),()))
def o1:bJ:=(afB,((1:Int),()))
def QT(d:Int)(l:List dR)(dep:Int):I4:=(d,(l,(dep,(o0,()))))
def Br(x:jg):Wm:=[(o1,tM),(o0,x)]
theorem aBK{k:Int}:C6 (afB,(k,())):=⟨cD,λx hx=>by rw[(ot.1 (show x∈ab 32 (0:Int) from hx)).2];exact⟨fg,fg⟩⟩
theorem aX5:¬o0=o1:=λh=>absurd (bu (λo:bJ=>o.2.1) h:(0:Int)=1) fg
theorem aWN:¬o1=o0:=λh=>aX5 h.symm
theorem aSC:Ty.beq bh o0 o1=aQ:=by
 cases h:Ty.beq bh o0 o1 with
 |false=>rfl
 |true=>exact absurd ((tS _ _).1 h) aX5
theorem ayX:Ty.beq bh o1 o0=aQ:=by
 cases h:Ty.beq bh o1 o0 with
 |false=>rfl
 |true=>exact absurd ((tS _ _).1 h) aWN
theorem aSB:Ty.beq bh o0 o0=aZ:=(tS _ _).2 rfl
theorem aUT:Ty.beq bh o1 o1=aZ:=(tS _ _).2 rfl
theorem aVH(x:jg):bW bh o0 (Br x)=av x:=by unfold Br;rw[fX,if_neg (by rw[aSC];decide),fX,if_pos aSB]
theorem aXA(x:jg):bW bh o1 (Br x)=av tM:=by unfold Br;rw[fX,if_pos aUT]
theorem aZA(x y:jg):fj bh o0 y (Br x)=Br y:=by unfold Br;rw[qt,if_neg (by rw[aSC];decide),qt,if_pos aSB]
theorem aZB(x:jg):fj bh o1 tM (Br x)=Br x:=by unfold Br;rw[qt,if_pos aUT]
theorem aTi:I7 o1 o0=1:=by rw[vp (a:=o1) (b:=o0) aBK aBK];decide+kernel
theorem aUL(x:jg):CQ (Br x)=[o0,o1]:=by
 have hq:∀y∈([o1,o0]:List bJ),C6 y:=λy hy=>by
  rcases cv.1 hy with rfl | hy
  ·exact aBK
  ·rw[bp.1 hy];exact aBK
 refine(HL sD hq (λx hx y hy a b=>BQ (hq x hx) (hq y hy) a b) ⟨List.Perm.swap o1 o0 [],?_⟩).symm;refine tP.2 ⟨λy hy=> ?_,List.pairwise_singleton _ _⟩;rw[bp.1 hy,aTi];decide
theorem aSZ{x:jg}(h:ajs x):WG (Br x):=⟨by show 2<=_;decide,dm.2 ⟨λh=>aWN (bp.1 h),dm.2 ⟨λh=>(by cases h),gM⟩⟩,λp hp=>by
 rcases cv.1 hp with rfl | hp
 ·exact⟨aBK,YM⟩
 ·rw[bp.1 hp];exact⟨aBK,h⟩⟩
theorem apH{H:Int}{l:List dz}{o:bJ}(h:zu o l 0=aD):gG H l o tM=(tM,[]):=by
 have hr:nI o l=(fa.zero,0,aQ):=by unfold nI;rw[h]
 have e1:∀id,j4 o tM 0 aQ id=(tM,[]):=λid=>if_neg (show ¬B6 tM 0 aQ id=aZ from λh=>(by cases h))
 have e2:∀id,so o fa.zero 0 aQ id tM=(tM,[]):=λid=>if_neg (λh=>(by cases h))
 have e3:C4 o fa.zero 0 aQ H tM=(tM,[]):=if_neg (λh=>(by cases h));unfold gG;rw[if_neg (show ¬tM.2.2.2.2.1=aZ from λh=>(by cases h)),hr];simp only[e1,e2,e3,bm]
theorem aH5{nb:Nat}{bs:List dz}(x:jg)(h1:zu o1 (bs.take nb) 0=aD):eN nb bs (Br x)=(Br (gG nb (bs.take nb) o0 x).1,(gG nb (bs.take nb) o0 x).2):=by
 have g0:nO o0 (Br x)=x:=by unfold nO;rw[aVH];rfl
 have e0:lookW nb (bs.take nb) (Br x,[]) o0=(Br (gG nb (bs.take nb) o0 x).1,(gG nb (bs.take nb) o0 x).2):=by
  unfold lookW;rw[show(Br x,([]:List lX)).1=Br x from rfl,g0,aZA];split
  ·rename_i hf;rw[show gG nb (bs.take nb) o0 x=(x,[]) from if_pos hf]
  ·rfl
 unfold eN;rw[aUL,bz,bz,de,e0];generalize gG nb (bs.take nb) o0 x=r;have g1:nO o1 (Br r.1)=tM:=by unfold nO;rw[aXA];rfl
 unfold lookW;rw[show(Br r.1,r.2).1=Br r.1 from rfl,g1,if_neg (show ¬tM.2.2.2.2.1=aZ from λh=>(by cases h)),apH h1,aZB];show(Br r.1,r.2++ [])=_;rw[bm]
theorem aSk:Z8 []:=⟨aP _,λt ht=>(by cases ht)⟩
theorem aUI{K:Int}(hk:KW K):Z8 [UW K]:=⟨by show 1<=_;decide,λt ht=>by
 rw[bp.1 ht];exact⟨(BF hk).2.1,jb (kk (BF hk).1).1.2.1 fg⟩⟩
section
variable {A0:At} {b nb n:Nat} {a:At} {s:List cG} {bs:List dz}
theorem aoE(h:sh A0 b nb n a s bs)(hb:b<=400)(hn:nb<=900)(h1:zu o1 (bs.take nb) 0=aD){x:jg}(hx:ajs x):
  dQ (QT 7 [] 0,nb,n,a,s,bs,Br x)=av (.inl ((gG nb (bs.take nb) o0 x).2,nb,n,a,s,bs,Br (gG nb (bs.take nb) o0 x).1)):=by
 have e7:lJ (QT 7 [] 0)=7:=by unfold lJ QT;decide
 rw[GV (d:=(QT 7 [] 0,nb,n,a,s,bs,Br x)) ⟨⟨A0,b,h,hb⟩,hn,aSk,aSZ hx⟩];simp only[yI,e7,aJZ,aH5 x h1];rfl
theorem aQF(h:sh A0 b nb n a s bs){l:List dR}(hl:Z8 l)(hb:b+l.length<=400)(hn:nb<=900){m:Wm}(hm:WG m){r:Int×Nat×Nat×At×List cG×List dz}(hr:na (Bw ((nb:Int)+1) (sV nb bs) l 0) nb (n,a,s) bs=r):
  dQ (QT 0 l 0,nb,n,a,s,bs,m)=av (.inl ([],r.2.1,r.2.2.1,r.2.2.2.1,r.2.2.2.2.1,r.2.2.2.2.2,m)):=by
 have e7:lJ (QT 0 l 0)=0:=by show cV .and .i64 0 7=0;decide
 have eb:nth eA (C2 (QT 0 l 0) nb bs) 0=Bw ((nb:Int)+1) (sV nb bs) l 0:=by unfold C2;rw[if_pos (by rw[e7];decide)];rfl
 rw[GV (d:=(QT 0 l 0,nb,n,a,s,bs,m)) ⟨⟨A0,b,h,hb⟩,hn,hl,hm⟩];simp only[yI,e7,eb,hr];rfl
theorem aQe(h:sh A0 b nb n a s bs){c:dz}(hc:YN c)(hn:nb<=1000){nb' n':Nat}{a':At}{s':List cG}{bs':List dz}(e:na c nb (n,a,s) bs=(0,nb',n',a',s',bs')){m':Nat}(hm:b+c.2.2.1.length<=m'):sh A0 m' nb' n' a' s' bs':=by
 rcases h.add hc hm hn with⟨e',he,e2⟩ | ⟨n2,a2,s2,e2,h2,_,_⟩
 ·rw[e]at e2;exact absurd (bu (λz=>z.1) e2).symm he
 ·rw[e]at e2;simp only[cT]at e2;obtain⟨_,rfl,rfl,rfl,rfl,rfl⟩:=e2;exact h2
end
def pz:dz:=Bw 1 afB [] 0
def Gi(K:Int)(P1:Bs):dz:=Bw 2 P1 [UW K] 0
def Eo(P1:Bs):dz:=Bw 2 P1 [] 0
def Jd(K:Int)(P2:Bs):dz:=Bw 3 P2 [UW K] 0
theorem aEG{K:Int}(hk:KW K)(P1:Bs):BH 1 2 1 (BW K 2) [sW K] [pz,Gi K P1]=(1,0,AW K 0 0,[sW K],[pz,Gi K P1]):=by have ec:jF (BW K 2)=BW K 2:=aTg;have eu:=aZD hk 0 0 2;have e:yC [pz,Gi K P1] 1 (2,1,BW K 2,[sW K])=(1,0,y8 (BW K 2) (sW K),[sW K]):=rfl;unfold BH;rw[ec];show((yC [pz,Gi K P1] 1 (2,1,BW K 2,[sW K])).1,(yC [pz,Gi K P1] 1 (2,1,BW K 2,[sW K])).2.1,(yC [pz,Gi K P1] 1 (2,1,BW K 2,[sW K])).2.2.1,(yC [pz,Gi K P1] 1 (2,1,BW K 2,[sW K])).2.2.2,[pz,Gi K P1])=_;rw[e];show(1,0,y8 (BW K 2) (stepOf (UW K) (AW K 0 0)),[sW K],[pz,Gi K P1])=_;rw[eu]
theorem aWZ{K:Int}(hk:KW K)(il:¬iD (TW K)=afB){P1 P2:Bs}(hP:asP pz=P1)(hQ:asP (Eo P1)=P2)(h:sh (AW K 0 0) 1 2 1 (BW K 2) [sW K] [pz,Gi K P1]):
  mc (1,[Eo P1,Jd K P2],2,1,BW K 2,[sW K],[pz,Gi K P1])=av (.inr (0,3,1,BW K 2,[sW K],[pz,Gi K P1],1,BW K 3,[sW K],[pz,Eo P1,Jd K P2]))/\sh (AW K 0 0) 2 3 1 (BW K 3) [sW K] [pz,Eo P1,Jd K P2]:=by
 have l1:P1.length=32:=by rw[<-hP];exact Df _
 have l2:P2.length=32:=by rw[<-hQ];exact Df _
 have v2:YN (Eo P1):=aVF fg l1 aLx;have v3:YN (Jd K P2):=aYf hk fg l2 aLx;have e1:na (Eo P1) 1 (0,AW K 0 0,[sW K]) [pz,Gi K P1]=(0,2,0,AW K 0 0,[sW K],[pz,Eo P1]):=aLH (h:=2) (p:=P1) (fill:=0) (nb:=1) (S:=(0,AW K 0 0,[sW K])) (bs:=[pz,Gi K P1]) hP.symm rfl fg l1 aLx;have e2:na (Jd K P2) 2 (0,AW K 0 0,[sW K]) [pz,Eo P1]=(0,3,1,BW K 3,[sW K],[pz,Eo P1,Jd K P2]):=aXx hk il (h:=3) (p:=P2) (nb:=2) (n:=0) (s:=[sW K]) (bs:=[pz,Eo P1]) hQ.symm rfl fg l2;have hl:∀b∈ [Eo P1,Jd K P2],YN b:=λb hb=>by
  rcases cv.1 hb with rfl | hb
  ·exact v2
  ·rw[bp.1 hb];exact v3
 have hF:jY (1,[Eo P1,Jd K P2],2,1,BW K 2,[sW K],[pz,Gi K P1])= .inr (0,3,1,BW K 2,[sW K],[pz,Gi K P1],1,BW K 3,[sW K],[pz,Eo P1,Jd K P2]):=by
  have ek:jN [Eo P1,Jd K P2] (1,0,AW K 0 0,[sW K],[pz,Gi K P1])=(0,3,1,BW K 3,[sW K],[pz,Eo P1,Jd K P2]):=by rw[jN];show(if(na (Eo P1) 1 (0,AW K 0 0,[sW K]) [pz,Gi K P1]).1≠0 then na (Eo P1) 1 (0,AW K 0 0,[sW K]) [pz,Gi K P1] else jN [Jd K P2] (na (Eo P1) 1 (0,AW K 0 0,[sW K]) [pz,Gi K P1]).2)=_;rw[e1,if_neg (λh=>h rfl),jN];show(if(na (Jd K P2) 2 (0,AW K 0 0,[sW K]) [pz,Eo P1]).1≠0 then na (Jd K P2) 2 (0,AW K 0 0,[sW K]) [pz,Eo P1] else jN [] (na (Jd K P2) 2 (0,AW K 0 0,[sW K]) [pz,Eo P1]).2)=_;rw[e2,if_neg (λh=>h rfl)];rfl
  simp only[jY];rw[if_pos ⟨fg,fg,by show(1:Int) < ((2:Nat):Int);decide⟩,if_pos fg,aEG hk P1,ek,if_neg (λh=>h rfl)]
 have key:mc (1,[Eo P1,Jd K P2],2,1,BW K 2,[sW K],[pz,Gi K P1])=av (.inr (0,3,1,BW K 2,[sW K],[pz,Gi K P1],1,BW K 3,[sW K],[pz,Eo P1,Jd K P2])):=by
  have akV:yF (1,[Eo P1,Jd K P2],2,1,BW K 2,[sW K],[pz,Gi K P1]):=⟨h.ch,h.aXb fg,by show 2<=_;decide,λ_=>by
   rw[aEG hk P1];have sg:=aZw hk;refine⟨⟨v2,sg,pQ 1,fg,h.ch.2.2⟩,λ_=> ?_⟩;show Z7 [Jd K P2] (na (Eo P1) 1 (0,AW K 0 0,[sW K]) [pz,Gi K P1]).2;rw[e1];refine⟨⟨v3,sg,aVC (h.ch.2.2 pz (by simp)) v2.1⟩,λ_=>trivial⟩⟩
  rw[W6 (d:=(1,[Eo P1,Jd K P2],2,1,BW K 2,[sW K],[pz,Gi K P1])) akV,hF];rfl
 refine⟨key,?_⟩;rcases h.aJs 1 hl (by show 2<=400;decide) (by show 4<=1000;decide) with⟨e,_,h1⟩ | ⟨n',a',s',bs',h1,_,h2,_⟩
 ·rw[key]at h1;cases h1
 ·rw[key]at h1;simp only[aA,Sum.inr.injEq,cT]at h1;obtain⟨_,_,_,_,_,_,rfl,rfl,rfl,rfl⟩:=h1;exact h2
def ZD(l:List dz):Nat->List dz
 | 0=>l
 |j+1=>ZD l j++ [Bw (((j+3:Nat):Int)+1) (sV (j+3) (ZD l j)) [] 0]
theorem ZE(l:List dz)(hl:l.length=3):∀j,(ZD l j).length=j+3
 | 0=>by show l.length=0+3;omega
 |j+1=>by show(ZD l j++ [_]).length=_;rw[ai,ZE l hl j];show j+3+1=_;omega
theorem atV{o:bJ}(l:List dz):∀j,zu o (ZD l j) 0=zu o l 0
 | 0=>rfl
 |j+1=>by
  show zu o (ZD l j++ [_]) 0=_;rw[Z4,atV l j]
  all_goals cases zu o l 0 <;> rfl
theorem aVG{A0:At}{b n:Nat}{a:At}{s:List cG}{l:List dz}(hl:l.length=3)(h:sh A0 b 3 n a s l):∀j,j<=100->sh A0 b (j+3) n a s (ZD l j)
 | 0,_=>by rw[aR];exact h
 |j+1,hj=>by have ih:=aVG hl h j ak;have et:(ZD l j).take (j+3)=ZD l j:=bk (by rw[ZE l hl];exact ay _);have e:=aLH (h:=((j+3:Nat):Int)+1) (p:=sV (j+3) (ZD l j)) (fill:=0) (nb:=j+3) (S:=(n,a,s)) (bs:=ZD l j) rfl rfl ak (CG _ _) aLx;rw[et]at e;have:=aQe ih (aVF (h:=((j+3:Nat):Int)+1) (p:=sV (j+3) (ZD l j)) (fill:=0) ak (CG _ _) aLx) ak e (ay _);rw[show j+3+1=j+1+3 by omega]at this;exact this
theorem aYr{A0:At}{b n:Nat}{a:At}{s:List cG}{l:List dz}(hl:l.length=3)(h:sh A0 b 3 n a s l)(hb:b<=400){m:Wm}(hm:WG m)(j:Nat)(hj:j<=100):
  dQ (QT 0 [] 0,j+3,n,a,s,ZD l j,m)=av (.inl ([],j+1+3,n,a,s,ZD l (j+1),m)):=by
 have ih:=aVG hl h j hj;have et:(ZD l j).take (j+3)=ZD l j:=bk (by rw[ZE l hl];exact ay _);have e:=aLH (h:=((j+3:Nat):Int)+1) (p:=sV (j+3) (ZD l j)) (fill:=0) (nb:=j+3) (S:=(n,a,s)) (bs:=ZD l j) rfl rfl ak (CG _ _) aLx;rw[et]at e;rw[aQF ih aSk hb ak hm e,show j+3+1=j+1+3 by omega];rfl
theorem aUC{K:Int}(hk:KW K):Wr o0 [UW K]=av (UW K):=by rw[Wr,aVl hk,if_pos];show(Ty.beq bh o0 o0 || _)=aZ;rw[aSB];rfl
theorem aUD{K:Int}(hk:KW K):Wr o1 [UW K]=aD:=by
 rw[Wr,aVl hk,if_neg]
 ·rfl
 ·intro h;have h:(ash o1 o0 || false)=aZ:=h;rw[Bool.or_false]at h;exact aWN ((tS _ _).1 h)
def Je(K:Int)(h:Int)(f:Bool):jg:=(aZ,(UW K,(iD (TW K),(h,(f,())))))
theorem aew{K:Int}(hk:KW K)(h:Int)(f:Bool):ajs (Je K h f):=⟨(BF hk).2.1,λ_=>(BF hk).1⟩
theorem aH6{K:Int}(hk:KW K){l:List dz}{h H:Int}(hs:zu o0 l 0=av (UW K,h)):
  (H - h<=6->gG H l o0 tM=(Je K h aQ,[(1,(o0,(UW K,(h,()))))]))/\
  (∀h',h'≠h->H - h<=6->gG H l o0 (Je K h' aQ)=(Je K h aQ,[(2,(o0,(UW K,(h',())))),(1,(o0,(UW K,(h,()))))]))/\
  (6 < H - h->gG H l o0 (Je K h aQ)=(Je K h aZ,[(3,(o0,(UW K,(h,()))))])):=by
 have hr:nI o0 l=(UW K,h,aZ):=by unfold nI;rw[hs]
 have dr:=(BF hk).2.2.1;have e2:so o0 (UW K) h aZ (iD (TW K)) tM=(Je K h aQ,[(1,(o0,(UW K,(h,()))))]):=if_pos rfl;have e3:∀x:jg,H - h<=6->C4 o0 (UW K) h aZ H x=(x,[]):=λx hx=>if_neg (by rw[bF,cH ak];decide)
 refine⟨λhH=> ?_,λh' il hH=> ?_,λhH=> ?_⟩
 ·have e1:j4 o0 tM h aZ (iD (TW K))=(tM,[]):=if_neg (show ¬B6 tM h aZ _=aZ from λh=>(by cases h));unfold gG;rw[if_neg (show ¬tM.2.2.2.2.1=aZ from λh=>(by cases h)),hr];simp only[dr,e1,e2,e3 _ hH,bm,aY]
 ·have e1:j4 o0 (Je K h' aQ) h aZ (iD (TW K))=(tM,[(2,(o0,(UW K,(h',()))))]):=if_pos (by
   unfold B6;rw[show zg h (Je K h' aQ).2.2.2.1=aZ from fD (λe:h=h'=>il e.symm)];rfl)
  unfold gG;rw[if_neg (show ¬(Je K h' aQ).2.2.2.2.1=aZ from λh=>(by cases h)),hr];simp only[dr,e1,e2,e3 _ hH,bm,iI,aY]
 ·have e1:j4 o0 (Je K h aQ) h aZ (iD (TW K))=(Je K h aQ,[]):=if_neg (by
   unfold B6;rw[show zg h (Je K h aQ).2.2.2.1=aQ from dP rfl,show Ty.beq tH (iD (TW K)) (Je K h aQ).2.2.1=aZ by rw[aTl];exact eO rfl];show ¬(aQ=aZ);decide)
  have e2:so o0 (UW K) h aZ (iD (TW K)) (Je K h aQ)=(Je K h aQ,[]):=if_neg (λh=>(by cases h));have e3:C4 o0 (UW K) h aZ H (Je K h aQ)=(Je K h aZ,[(3,(o0,(UW K,(h,()))))]):=if_pos (by rw[bF];exact dd ak);unfold gG;rw[if_neg (show ¬(Je K h aQ).2.2.2.2.1=aZ from λh=>(by cases h)),hr];simp only[dr,e1,e2,e3,aY]
theorem aOI{x:jg}(hx:ajs x)(h1:x.1=aZ):Gg.call (o0,Br x)=av (Br x,(x.2.1,(x.2.2.2.1,aZ))):=by
 have g0:nO o0 (Br x)=x:=by unfold nO;rw[aVH];rfl
 rw[WL (d:=(o0,Br x)) (by show ng (nO o0 (Br x)).2.1;rw[g0];exact hx.1)];simp only[MF,Uu,g0,h1,bM,VW hx.1 (hx.2 h1)]
theorem aoU(o:bJ)(m:Wm):CO.call (o,m)=av (m,(nO o m).2.2.2.2.1):=awF (d:=(o,m)) trivial
theorem av1:kj.Ok:=by
 rintro⟨⟩ _;obtain⟨K,hK,hk,il⟩:∃K:Int,(7:Int)=K/\KW K/\¬iD (TW K)=afB:=⟨7,rfl,⟨fg,fg⟩,aZp⟩;obtain⟨P1,hP⟩:∃x,asP pz=x:=⟨_,rfl⟩;obtain⟨P2,hQ⟩:∃x,asP (Eo P1)=x:=⟨_,rfl⟩;have l1:P1.length=32:=by rw[<-hP];exact Df _
 have l2:P2.length=32:=by rw[<-hQ];exact Df _
 have c1:Iw.call 7=av (gX K):=by rw[hK];exact FL (d:=K) ⟨by have:=hk.1;omega,by have:=hk.2;omega⟩
 have c2:apB.call (gX K)=av (LW K 0 0):=aHZ (d:=gX K) trivial;have c3:=aWM K aPx aPx;have c4:afr.call ()=av []:=ar8 (d:=()) trivial;have c5:wT.call (TW K,0,0,[7],0)=av (UW K,0):=by rw[hK];exact aUA hk
 have c6:Gh.call (o1,[])=av [(o1,tM)]:=MG (d:=(o1,[])) trivial;have c7:Gh.call (o0,[(o1,tM)])=av (Br tM):=by
  rw[MG (d:=(o0,[(o1,tM)])) trivial];have e1:bW bh o0 [(o1,tM)]=aD:=by rw[fX,if_neg (by rw[aSC];decide),rF]
  have e2:fj bh o0 tM [(o1,tM)]=Br tM:=by rw[qt,if_neg (by rw[aSC];decide)];rfl
  simp only[bC,amY,e1,e2];rfl
 have i0:sh (AW K 0 0) 0 0 0 (AW K 0 0) [] []:=sh.new (aXy K aPx aPx);have a1:na (Bw (((0:Nat):Int)+1) (sV 0 []) [] 0) 0 (0,AW K 0 0,[]) []=(0,1,0,AW K 0 0,[],[pz]):=aLH (h:=1) (p:=afB) (fill:=0) (nb:=0) (S:=(0,AW K 0 0,[])) (bs:=[]) rfl rfl fg cD aLx;have i1:=aQe i0 (aVF (h:=1) (p:=afB) (fill:=0) fg cD aLx) fg a1 (ay 0);have a2:na (Bw (((1:Nat):Int)+1) (sV 1 [pz]) [UW K] 0) 1 (0,AW K 0 0,[]) [pz]=(0,2,1,BW K 2,[sW K],[pz,Gi K P1]):=by have:=aXx hk il (h:=2) (p:=P1) (nb:=1) (n:=0) (s:=[]) (bs:=[pz]) hP.symm rfl fg l1;rw[show sV 1 [pz]=P1 from hP];exact this
 have i2:=aQe i1 (c:=Bw (((1:Nat):Int)+1) (sV 1 [pz]) [UW K] 0) (aYf hk fg (CG _ _) aLx) fg a2 (show 0+1<=1 by decide);obtain⟨r3,i3⟩:=aWZ hk il hP hQ i2;have l3:([pz,Eo P1,Jd K P2]:List dz).length=3:=rfl;have aZs:zu o0 [pz,Gi K P1] 0=av (UW K,2):=by rw[zu,show Wr o0 pz.2.2.1=aD from rfl,zu,show Wr o0 (Gi K P1).2.2.1=av (UW K) from aUC hk];rfl
 have aZu:zu o1 [pz,Gi K P1] 0=aD:=by rw[zu,show Wr o1 pz.2.2.1=aD from rfl,zu,show Wr o1 (Gi K P1).2.2.1=aD from aUD hk];rfl
 have aX8:zu o0 [pz,Eo P1,Jd K P2] 0=av (UW K,3):=by rw[zu,show Wr o0 pz.2.2.1=aD from rfl,zu,show Wr o0 (Eo P1).2.2.1=aD from rfl,zu,show Wr o0 (Jd K P2).2.2.1=av (UW K) from aUC hk];rfl
 have aX9:zu o1 [pz,Eo P1,Jd K P2] 0=aD:=by rw[zu,show Wr o1 pz.2.2.1=aD from rfl,zu,show Wr o1 (Eo P1).2.2.1=aD from rfl,zu,show Wr o1 (Jd K P2).2.2.1=aD from aUD hk];rfl
 have d9:=aoE i0 fg fg rfl YM;rw[show gG ((0:Nat):Int) (([]:List dz).take 0) o0 tM=(tM,[]) from apH rfl]at d9;have d10:=aQF i0 aSk fg fg (aSZ YM) a1;have d11:=aQF i1 (aUI hk) (show 0+1<=400 by decide) fg (aSZ YM) a2;have d12:=aoE i2 fg fg aZu YM;rw[(aH6 hk (H:=((2:Nat):Int)) (l:=[pz,Gi K P1].take 2) aZs).1 fg]at d12;have d13:=aOI (aew hk 2 aQ) rfl;have d14:dQ (QT 3 [UW K] 1,2,1,BW K 2,[sW K],[pz,Gi K P1],Br (Je K 2 aQ))=av (.inr ([],3,1,BW K 2,[sW K],[pz,Gi K P1],Br (Je K 2 aQ),1,BW K 3,[sW K],[pz,Eo P1,Jd K P2])):=by
  have e7:lJ (QT 3 [UW K] 1)=3:=by show cV .and .i64 3 7=3;decide
  have eb:C2 (QT 3 [UW K] 1) 2 [pz,Gi K P1]=[Eo P1,Jd K P2]:=by unfold C2;rw[if_neg (by rw[e7];decide),if_pos ⟨by show(1:Int)<=1;decide,by show(1:Int)<=((2:Nat):Int);decide,by show(1:Int)<=8;decide⟩];show [Bw 2 (sV 1 [pz,Gi K P1]) [] 0,Bw 3 (asP (Bw 2 (sV 1 [pz,Gi K P1]) [] 0)) [UW K] 0]=_;rw[show sV 1 [pz,Gi K P1]=P1 from hP,show asP (Bw 2 P1 [] 0)=P2 from hQ];rfl
  have er:al8 1 [Eo P1,Jd K P2] 2 1 (BW K 2) [sW K] [pz,Gi K P1]= .inr (0,3,1,BW K 2,[sW K],[pz,Gi K P1],1,BW K 3,[sW K],[pz,Eo P1,Jd K P2]):=by unfold al8;rw[r3];rfl
  rw[GV (d:=(QT 3 [UW K] 1,2,1,BW K 2,[sW K],[pz,Gi K P1],Br (Je K 2 aQ))) ⟨⟨AW K 0 0,1,i2,by show 1+1<=400;decide⟩,by show 2<=900;decide,aUI hk,aSZ (aew hk 2 aQ)⟩];simp only[yI,e7,eb];rw[show(QT 3 [UW K] 1).2.2.1=1 from rfl,er];rfl
 have d15:=aoE i3 fg fg aX9 (aew hk 2 aQ);rw[(aH6 hk (H:=((3:Nat):Int)) (l:=[pz,Eo P1,Jd K P2].take 3) aX8).2.1 2 fg fg]at d15;have dg:=λj hj=>aYr l3 i3 fg (aSZ (aew hk 3 aQ)) j hj
 have i10:=aVG l3 i3 7 fg;have e10:(ZD [pz,Eo P1,Jd K P2] 7).take 10=ZD [pz,Eo P1,Jd K P2] 7:=bk (by rw[ZE _ l3];decide);have aZt:zu o0 ((ZD [pz,Eo P1,Jd K P2] 7).take 10) 0=av (UW K,3):=by rw[e10,atV];exact aX8
 have aYa:zu o1 ((ZD [pz,Eo P1,Jd K P2] 7).take 10) 0=aD:=by rw[e10,atV];exact aX9
 have d23:=aoE i10 fg fg aYa (aew hk 3 aQ);rw[(aH6 hk (H:=((7+3:Nat):Int)) (l:=(ZD [pz,Eo P1,Jd K P2] 7).take (7+3)) aZt).2.2 fg]at d23;have d24:=aoE i10 fg fg aYa (aew hk 3 aZ);rw[show gG ((7+3:Nat):Int) ((ZD [pz,Eo P1,Jd K P2] 7).take (7+3)) o0 (Je K 3 aZ)=(Je K 3 aZ,[]) from if_pos rfl]at d24;have dsame:OC.call (UW K,UW K)=av aZ:=(aDC (d:=(UW K,UW K)) (aJ6 (BF hk).1)).trans (bu av (eO rfl));have f0:CO.call (o0,Br (Je K 3 aZ))=av (Br (Je K 3 aZ),aZ):=by rw[aoU];unfold nO;rw[aVH];rfl
 have f1:CO.call (o1,Br (Je K 3 aZ))=av (Br (Je K 3 aZ),aQ):=by rw[aoU];unfold nO;rw[aXA];rfl
 have w1:wall.call (Br (Je K 3 aZ))=av (2,Br (Je K 3 aZ),[o0,o1]):=by rw[afm (d:=Br (Je K 3 aZ)) ⟨by show 2<=_;decide,λp hp=>((aSZ (aew hk 3 aZ)).2.2 p hp).1⟩];simp only[bC,awC,aUL];rfl
 have w2:T8.call (o0,Br (Je K 3 aZ))=av [(o1,tM)]:=by
  rw[ajg (d:=(o0,Br (Je K 3 aZ))) trivial];have:iO bh o0 (Br (Je K 3 aZ))=[(o1,tM)]:=by unfold Br;rw[xc,if_neg (by rw[aSC];decide),xc,if_pos aSB]
  simp only[bC,ayI,this]
 have w3:∃y,Gg.call (o0,[(o1,tM)])=av ([(o1,tM)],y)/\y.2.2=aQ:=by
  have e1:bW bh o0 [(o1,tM)]=aD:=by rw[fX,if_neg (by rw[aSC];decide),rF]
  have g0:nO o0 [(o1,tM)]=tM:=by unfold nO;rw[e1];rfl
  refine⟨_,WL (d:=(o0,[(o1,tM)])) (by show ng (nO o0 [(o1,tM)]).2.1;rw[g0];exact v0),?_⟩;simp only[Uu,g0];rfl
 obtain⟨y3,w3,y3f⟩:=w3;have w4:∃l,wall.call [(o1,tM)]=av (1,[(o1,tM)],l):=⟨_,afm (d:=[(o1,tM)]) ⟨by show 1<=_;decide,λp hp=>by rw[bp.1 hp];exact aBK⟩⟩;obtain⟨l4,w4⟩:=w4;rw[av0];refine(bu (λz=>al z _) c1).trans ?_
 rw[ah];refine(bu (λz=>al z _) c2).trans ?_
 rw[ah];refine(bu (λz=>al z _) c3).trans ?_
 rw[ah];simp only[dJ,ao,cW,ah];refine(bu (λz=>al z _) (c4)).trans ?_
 rw[ah];refine(bu (λz=>al z _) (c5)).trans ?_
 rw[ah];refine(bu (λz=>al z _) (c6)).trans ?_
 rw[ah];refine(bu (λz=>al z _) (c7)).trans ?_
 rw[ah];refine(bu (λz=>al (ko dj z) _) (d9)).trans ?_
 rw[pG,ah];refine(bu (λz=>al (ko dj z) _) (d10)).trans ?_
 rw[pG,ah];refine(bu (λz=>al (ko dj z) _) (d11)).trans ?_
 rw[pG,ah];refine(bu (λz=>al (ko dj z) _) (d12)).trans ?_
 rw[pG,ah];refine(bu (λz=>al z _) (d13)).trans ?_
 rw[ah];refine(bu (λz=>al (ko Sum.getRight? z) _) (d14)).trans ?_
 rw[aM6,ah];refine(bu (λz=>al (ko dj z) _) (d15)).trans ?_
 rw[pG,ah];refine(bu (λz=>al (ko dj z) _) (dg 0 fg)).trans ?_
 rw[pG,ah];refine(bu (λz=>al (ko dj z) _) (dg 1 fg)).trans ?_
 rw[pG,ah];refine(bu (λz=>al (ko dj z) _) (dg 2 fg)).trans ?_
 rw[pG,ah];refine(bu (λz=>al (ko dj z) _) (dg 3 fg)).trans ?_
 rw[pG,ah];refine(bu (λz=>al (ko dj z) _) (dg 4 fg)).trans ?_
 rw[pG,ah];refine(bu (λz=>al (ko dj z) _) (dg 5 fg)).trans ?_
 rw[pG,ah];refine(bu (λz=>al (ko dj z) _) (dg 6 fg)).trans ?_
 rw[pG,ah];refine(bu (λz=>al (ko dj z) _) (d23)).trans ?_
 rw[pG,ah];refine(bu (λz=>al (ko dj z) _) (d24)).trans ?_
 rw[pG,ah];have st:∀ {α:Type} {c:Bool} {x y z:Option α},c=aZ->x=z->aL c x y=z:=λh1 h2=>by rw[h1];exact h2
 have sf:∀ {α:Type} {c:Bool} {x y z:Option α},c=aQ->y=z->aL c x y=z:=λh1 h2=>by rw[h1];exact h2
 refine sf (dP rfl) (sf (dP rfl) (sf (dP rfl) (sf (dP rfl) (sf (dP rfl) ?_))));refine(bu (λz=>al z _) (?_:_=av (([(2,(o0,(UW K,(2,())))),(1,(o0,(UW K,(3,()))))],[(3,(o0,(UW K,(3,()))))],aZ,o0,Br (Je K 3 aZ)):qI))).trans ?_
 ·refine st rfl (st (du rfl) (st rfl (st (du rfl) (st rfl (st aSB (st rfl ?_))))));refine(bu (λz=>al z _) dsame).trans ?_
  rw[ah];refine st rfl (st rfl ?_);exact(MV _).trans rfl
 rw[ah];refine(bu (λz=>al z _) (?_:_=av ((aZ,aZ,o0,Br (Je K 3 aZ)):qJ))).trans ?_
 ·refine st rfl (st (du rfl) (st rfl (st (du rfl) (st rfl (st (du rfl) (st rfl (st (du rfl) (st rfl (st (du rfl) (st rfl (st (du rfl) ?_)))))))))));refine(bu (λz=>al z _) f0).trans ?_
  rw[ah];refine st rfl ?_
  refine(bu (λz=>al z _) f1).trans ?_
  rw[ah];exact(MW _).trans rfl
 rw[ah];refine(bu (λz=>al z _) (w1)).trans ?_
 rw[ah];refine(bu (λz=>al z _) (w2)).trans ?_
 rw[ah];refine(bu (λz=>al z _) (w3)).trans ?_
 rw[ah];refine st rfl (st rfl (st (du rfl) (st rfl (st rfl (st aSB (st (by show(!y3.2.2)=aZ;rw[y3f];rfl) ?_))))));refine(bu (λz=>al z _) (w4)).trans ?_
 rw[ah];exact bu (λz=>av (kj.out z)) (du rfl)
theorem arz:kj.RS:=rE [] kj
def av2:=kj.fC av1 1 ⟨.none cr,trivial⟩
end
section
def aSi(l:List afD):At:=l.map λe=>(e.1,e.2.1)
def aw8(a b:bJ):Bool:=decide (lx a.1 b.1 < 0\/lx a.1 b.1=0/\a.2.1 < b.2.1)
theorem aKC(l:List afD):fb (aSi l)=l.map (·.1):=by unfold aSi fb;rw[List.map_map];rfl
def aYl(l:List afD):Prop:=l.Pairwise λx y=>¬I7 y.1 x.1 < 0
theorem Zw{a b:bJ}(ha:C6 a)(hb:C6 b):aw8 a b=decide (I7 a b < 0):=by
 unfold aw8;rw[vp ha hb];unfold AU;rw[aln _ _ (ha.1.trans hb.1.symm)];unfold aUq;by_cases h:lx a.1 b.1=0
 ·rw[if_pos h];unfold an9;by_cases h2:a.2.1 < b.2.1
  ·rw[if_pos h2,aM (.inr ⟨h,h2⟩),aM fg]
  ·rw[if_neg h2,aV ak];split
   ·rw[aV fg]
   ·rw[aV fg]
 ·rw[if_neg h];by_cases h2:lx a.1 b.1 < 0
  ·rw[aM (.inl h2),aM h2]
  ·rw[aV ak,aV h2]
structure Rl(a:At)(l:List afD):Prop where
 Et:am1 a
 aZy:aYl l
 nd:(fb (aSi l)).Nodup
 eqv:uo (aSi l) a
section
variable {a:At} {l:List afD}
theorem Rl.perm(h:Rl a l):(aSi l).Perm a:=h.eqv.perm h.nd h.Et.1
theorem Rl.aYo(h:Rl a l):am1 (aSi l):=h.Et.perm h.perm.symm
theorem Rl.q(h:Rl a l):∀e∈l,C6 e.1:=λe he=>(h.aYo.2 (e.1,e.2.1) (df.2 ⟨e,he,rfl⟩)).1
theorem Rl.len(h:Rl a l):l.length=a.length:=by have:=h.perm.length_eq;unfold aSi at this;rwa[cm]at this
theorem Rl.all(h:Rl a l):l.map (·.1)=aVw a:=by
 have hq:∀x∈fb a,C6 x:=λx hx=>by obtain⟨p,hp,rfl⟩:=df.1 hx;exact(h.Et.2 p hp).1
 refine HL sD hq (λx hx y hy a b=>BQ (hq x hx) (hq y hy) a b) ⟨?_,?_⟩
 ·rw[<-aKC];exact h.perm.map _
 ·exact List.pairwise_map.2 h.aZy
end
abbrev F8:=bJ×bJ×Int
def xo:F8->AS:=λ(Ic,iK,i)=>⟨([bH,bH,.dV bh Ic,.dV bh iK,bH,.d ti i]++aS 27 []),[],(ab 33 [])⟩
def DY:Bool->Exit×AS:=λx=>(.ret,⟨(aS 4 ([.d .bool x]++aS 28 [])),[],(ab 33 [])⟩)
def DZ:(bJ×bJ)->Exit×AS:=λx=>(.exit 0,⟨([bH,bH,.dV bh x.1,.dV bh x.2]++aS 29 []),[],(ab 33 [])⟩)
abbrev VU:=(Bool)⊕((bJ×bJ))
abbrev aiH:=(Bool)⊕(Unit)
def KP:VU->Out (Exit×AS):=λx=> .br x.isLeft (.get x.getLeft? λa=> .ok (DY a)) (.get x.getRight? λb=> .ok (DZ b))
def oe:F8->aiH->VU:=λ(Ic,iK,i) y=>match y with | .inl y=> .inl y | .inr z=> .inr ((Ic,iK))
def DX:F8->Prop:=λ(a,b,i)=>a.1.length=32/\b.1.length=32/\∃k:Nat,k<=32/\i=k
def uN:F8->aiH:=λ(a,b,i)=>if lx (a.1.drop i.toNat) (b.1.drop i.toNat)=0 then .inr () else .inl (decide (lx (a.1.drop i.toNat) (b.1.drop i.toNat) < 0))
def aJl:(bJ×bJ)->Prop:=λ(a,b)=>a.1.length=32/\b.1.length=32
def avp:(bJ×bJ)->Bool:=λ(a,b)=>aw8 a b
def aiF:=dI.fI xo DX oe uN KP
def S9:F8->Option VU:=gO aiF xo
def Zn:Fs Tryz.prog aJl bC avp:=fw 35 Tryz.f35 (λ(a,b)=>([.d bh a,.d bh b],[])) (λx=>⟨.d .bool x,[],[]⟩) [av bh,av bh] [] {loops:=oJ [(2,{ba:=[2,3,5]})],outs:=oI [(2,{ba:=[2,3]},{ba:=[4]})],gf:=nQ [(2,aiF)]}
def aiG:= @eG Tryz.prog (jQ Zn.G) Zn.an 0 Tryz.f35 0 _ xo
abbrev adS:=j7 Tryz.prog (jQ Zn.G) Zn.an 0 Tryz.f35 0 xo DX oe uN KP
theorem aqR:jh S9 DX oe uN:=lH (jx [.d bh,.d bh,.d ti] λ_=>cr)
theorem VV:mK @aiG xo DX oe uN KP adS:=nc
theorem Hz(Ic iK i)(kn:K2 R)(kx:K3 R):aiG (Ic,iK,i) kn kx=aL (gz i (32:Int)) (aL (eL i (32:Int)) (aL (eL i (32:Int)) (aL (zg (nth tb Ic.1 (ae i)) (nth tb iK.1 (ae i))) (aL (eL i (32:Int)) (aL (eL i (32:Int)) (kx (DY (gz (nth tb Ic.1 (ae i)) (nth tb iK.1 (ae i)))).1 (DY (gz (nth tb Ic.1 (ae i)) (nth tb iK.1 (ae i)))).2) aD) aD) (kn (xo (Ic,iK,(bO .i64 i (1:Int)))))) aD) aD) (kx (DZ (Ic,iK)).1 (DZ (Ic,iK)).2):=cr
theorem aOp(a b)(k:K1 R):Zn.A (a,b) k=al (S9 (a,b,0)) λx1=>aL x1.isLeft (al x1.getLeft? λa2=>k (Zn.out a2)) (al x1.getRight? λb3=>k (Zn.out (gz b3.1.2.1 b3.2.2.1))):=cr
theorem avq:adS:=by
 refine VV (λ(_,_,i)=>(32 - i).toNat) ?_
 rintro⟨a,b,i⟩ ⟨ha,hb,k,hk,rfl⟩;have ha:a.1.length=32:=ha;have hb:b.1.length=32:=hb;by_cases iA:k < 32
 ·have n1:nth tb a.1 k=a.1[k]:=cg (t:=tb) ak;have n2:nth tb b.1 k=b.1[k]:=cg (t:=tb) ak;have hd:lx (a.1.drop k) (b.1.drop k)=if a.1[k]≠b.1[k] then(if a.1[k] < b.1[k] then -1 else 1) else lx (a.1.drop (k+1)) (b.1.drop (k+1)):=by rw[aq (show k < a.1.length by omega),aq (show k < b.1.length by omega),lx]
  by_cases h:a.1[k]=b.1[k]
  ·left;refine⟨(a,b,((k+1:Nat):Int)),⟨ha,hb,k+1,ak,rfl⟩,by show(32 - ((k+1:Nat):Int)).toNat < (32 - (k:Int)).toNat;omega,?_,λkn kx=> ?_⟩
   ·rw[if_neg (λe=>e h)]at hd;simp only[oe,uN,aa,hd]
   ·rw[Hz,aX ak,aj,bj ak ak,aj,aj,aa,n1,n2,dP h,ao,N.mZ ak]
  ·right;rw[if_pos h]at hd;refine⟨DY (decide (a.1[k] < b.1[k])),?_,λkn kx=> ?_⟩
   ·simp only[oe,uN,aa,hd];by_cases h2:a.1[k] < b.1[k]
    ·simp only[h2,bM];rfl
    ·simp only[h2,bA];rfl
   ·rw[Hz,aX ak,aj,bj ak ak,aj,aj,aa,n1,n2,fD h,aj,aj,aj];by_cases h2:a.1[k] < b.1[k]
    ·rw[aX h2,aM h2]
    ·rw[aU h2,aV h2]
 ·right;obtain rfl:k=32:=ak;refine⟨DZ (a,b),?_,λkn kx=> ?_⟩
  ·have e:lx (a.1.drop 32) (b.1.drop 32)=0:=by rw[dS ak,dS ak];rfl
   simp only[oe,uN,aa,e];rfl
  ·rw[Hz,aU ak,ao]
theorem aOq:Zn.Ok:=by
 rintro⟨a,b⟩ ⟨ha,hb⟩;rw[aOp,aqR (d:=(a,b,0)) ⟨ha,hb,0,ak,rfl⟩];simp only[ah,oe,uN,bg,aG,bC,avp,aw8];by_cases h:lx a.1 b.1=0
 ·simp only[h,bM,dJ,ao,cW,ah];by_cases h2:a.2.1 < b.2.1
  ·rw[aX h2,aM (.inr ⟨by trivial,h2⟩)]
  ·rw[aU h2,aV (by rintro(h3 | h3);exact absurd h3 fg;exact h2 h3.2)]
 ·simp only[h,bA,nu,aj,kN,ah];by_cases h2:lx a.1 b.1 < 0
  ·rw[aM h2,aM (.inl h2)]
  ·rw[aV h2,aV (by rintro(h3 | h3);exact h2 h3;exact h3.1)]
theorem aJm:Zn.RS:=rE [.d bh,.d bh] Zn
def aOr:=Zn.fC aOq 1 ⟨.fI avq,trivial⟩
end
theorem aOc{α:Type}{R:α->α->Prop}{l:List α}(h:l.Pairwise R){i j:Nat}(hi:i < j)(hj:j < l.length):R (l[i]'(ak)) l[j]:=List.pairwise_iff_getElem.1 h i j _ hj hi
structure MZ(m:Wm)(f:bJ->Prop):Prop where
 ap3:(m.map (·.1)).Nodup
 get:∀o,(f o/\bW bh o m=av tM)\/(¬f o/\bW bh o m=aD)
 aBK:∀p∈m,C6 p.1
theorem MZ.want{m:Wm}{f:bJ->Prop}(h:MZ m f){o:bJ}(ho:C6 o):MZ (OG o m) (λx=>x=o\/f x)/\(OG o m).length<=m.length+1:=by
 unfold OG;rcases h.get o with⟨h1,h2⟩ | ⟨h1,h2⟩
 ·rw[h2];refine⟨⟨h.ap3,λx=> ?_,h.aBK⟩,pQ _⟩;rcases h.get x with⟨h3,h4⟩ | ⟨h3,h4⟩
  ·exact .inl ⟨.inr h3,h4⟩
  ·refine .inr ⟨λe=> ?_,h4⟩;rcases e with rfl | e
   ·exact h3 h1
   ·exact h3 e
 ·rw[h2];refine⟨⟨Ka fi h.ap3,λx=> ?_,λp hp=> ?_⟩,?_⟩
  ·have hg:bW bh x (fj bh o tM m)=_:=G4 fi x o tM m;show(_/\bW bh x (fj bh o tM m)=av tM)\/_/\bW bh x (fj bh o tM m)=aD;rw[hg];by_cases e:x=o
   ·rw[if_pos ((tS _ _).2 e)];exact .inl ⟨.inl e,rfl⟩
   ·rw[if_neg (λhb=>e ((tS _ _).1 hb))];rcases h.get x with⟨h3,h4⟩ | ⟨h3,h4⟩
    ·exact .inl ⟨.inr h3,h4⟩
    ·exact .inr ⟨λe'=>e'.elim e h3,h4⟩
  ·rcases aih hp with rfl | hp
   ·exact ho
   ·exact h.aBK p hp
  ·show(fj bh o tM m).length<=_;unfold fj;split
   ·rw[sZ];exact pQ _
   ·rw[ai];exact ay _
theorem MZ.drop{m:Wm}{f:bJ->Prop}(h:MZ m f)(o:bJ):MZ (iO bh o m) (λx=>¬x=o/\f x)/\(iO bh o m).length<=m.length:=by
 have sub:(iO bh o m).Sublist m:=by
  unfold iO;split
  ·exact List.eraseIdx_sublist _ _
  ·exact List.Sublist.refl _
 refine⟨⟨DD fi h.ap3,λx=> ?_,λp hp=>h.aBK p (sub.subset hp)⟩,sub.length_le⟩;have hg:bW bh x (iO bh o m)=_:=akN fi x o h.ap3;rw[hg];by_cases e:x=o
 ·rw[if_pos ((tS _ _).2 e)];exact .inr ⟨λe'=>e'.1 e,rfl⟩
 ·rw[if_neg (λhb=>e ((tS _ _).1 hb))];rcases h.get x with⟨h3,h4⟩ | ⟨h3,h4⟩
  ·exact .inl ⟨⟨e,h3⟩,h4⟩
  ·exact .inr ⟨λe'=>h3 e'.2,h4⟩
theorem MZ.ext{m:Wm}{f g:bJ->Prop}(h:MZ m f)(e:∀o,f o↔g o):MZ m g:=⟨h.ap3,λo=>by rw[<-e o];exact h.get o,h.aBK⟩
theorem MZ.aP7:∀(l:List bJ) {m:Wm} {f:bJ->Prop},MZ m f->(∀o∈l,C6 o)->MZ (l.foldl (λm o=>OG o m) m) (λx=>x∈l\/f x)/\(l.foldl (λm o=>OG o m) m).length<=m.length+l.length
 |[],m,f,h,_=>⟨h.ext λo=>by simp,ay _⟩
 |o::l,m,f,h,hq=>by
  obtain⟨h1,h2⟩:=h.want (hq o aK);obtain⟨h3,h4⟩:=MZ.aP7 l h1 λx hx=>hq x (aF _ hx)
  rw[bz];refine⟨h3.ext λx=> ?_,by rw[aB];omega⟩;rw[cv];exact⟨λe=>e.elim (λe=> .inl (.inr e)) λe=>e.elim (λe=> .inl (.inl e)) .inr,λe=>e.elim (λe=>e.elim (λe=> .inr (.inl e)) .inl) λe=> .inr (.inr e)⟩
theorem aPe{m:Wm}(hn:(m.map (·.1)).Nodup)(hq:∀p∈m,C6 p.1):(CQ m).Pairwise λx y=>aw8 x y=aZ:=by
 have hq':∀x∈m.map (·.1),C6 x:=λx hx=>by obtain⟨p,hp,rfl⟩:=df.1 hx;exact hq p hp
 obtain⟨h1,h2⟩:=aez sD hq';have h1:(CQ m).Perm (m.map (·.1)):=h1;have aEb:(CQ m).Nodup:=h1.symm.nodup_iff.1 hn |>.imp id
 refine(h2.and aEb).imp_of_mem λ {x y} hx hy ⟨h3,h4⟩=> ?_
 have qx:=hq' x (h1.mem_iff.1 hx);have qy:=hq' y (h1.mem_iff.1 hy);rw[Zw qx qy,bf];refine Classical.byContradiction λh5=>h4 (BQ qx qy h5 h3)
def ayU(a:I4)(m:Wm):Wm:=if lJ a=5 then OG a.2.2.2.1 m else m
def ajo(a:I4):Prop:=a.2.1.length<=4/\Z8 a.2.1/\C6 a.2.2.2.1
theorem aKy{nb d:Nat}{bs l bs':List dz}{K:Nat}(hd:d<=6)(hK:nb - 6<=K)(hl:nb<=bs.length)(e:bs'.take K=bs.take (nb - d)++l):bs'.take (nb - 6)=bs.take (nb - 6):=by
 have h1:(bs'.take K).take (nb - 6)=bs'.take (nb - 6):=by rw[fp,eH hK]
 rw[<-h1,e,fP (by rw[bB];omega),fp,eH ak]
theorem aEt{A0:At}{b nb n:Nat}{at':At}{s:List cG}{bs:List dz}{m:Wm}(h:sh A0 b nb n at' s bs)(a:I4)(ha:ajo a)(hb:b+4<=400)(aAL:nb<=900)(hw:WG m)(h6:lJ a<=5):
  ∃nb' n' at2 s' bs',sh A0 (b+4) nb' n' at2 s' bs'/\nb<=nb'/\nb'<=nb+9/\bs'.take (nb - 6)=bs.take (nb - 6)/\
   ∀ {β:Type} (g:Nat->Nat->At->List cG->List dz->Wm->Option β),
    (al (dQ (a,nb,n,at',s,bs,m)) λx=>aL x.isLeft (al x.getLeft? λy=>g y.2.1 y.2.2.1 y.2.2.2.1 y.2.2.2.2.1 y.2.2.2.2.2.1 y.2.2.2.2.2.2)
     (al x.getRight? λy=>g y.2.1 y.2.2.2.2.2.2.2.1 y.2.2.2.2.2.2.2.2.1 y.2.2.2.2.2.2.2.2.2.1 y.2.2.2.2.2.2.2.2.2.2 y.2.2.2.2.2.2.1))=g nb' n' at2 s' bs' (ayU a m):=by
 obtain⟨a4,ht,hq⟩:=ha;obtain⟨g1,g2,g3,g4⟩:=aE5 ht (nb:=nb) ak bs;have hle:nb<=bs.length:=h.ch.1;have im:=GV (d:=(a,nb,n,at',s,bs,m)) ⟨⟨A0,b,h,by show b+a.2.1.length<=400;omega⟩,aAL,ht,hw⟩;simp only[GU,yI]at im
 have same:dQ (a,nb,n,at',s,bs,m)=av (.inl ([],nb,n,at',s,bs,ayU a m))->∃nb' n' at2 s' bs',sh A0 (b+4) nb' n' at2 s' bs'/\nb<=nb'/\nb'<=nb+9/\bs'.take (nb - 6)=bs.take (nb - 6)/\
   ∀ {β:Type} (g:Nat->Nat->At->List cG->List dz->Wm->Option β),
    (al (dQ (a,nb,n,at',s,bs,m)) λx=>aL x.isLeft (al x.getLeft? λy=>g y.2.1 y.2.2.1 y.2.2.2.1 y.2.2.2.2.1 y.2.2.2.2.2.1 y.2.2.2.2.2.2)
     (al x.getRight? λy=>g y.2.1 y.2.2.2.2.2.2.2.1 y.2.2.2.2.2.2.2.2.1 y.2.2.2.2.2.2.2.2.2.1 y.2.2.2.2.2.2.2.2.2.2 y.2.2.2.2.2.2.1))=g nb' n' at2 s' bs' (ayU a m):=λe=>
  ⟨nb,n,at',s,bs,h.mono (rb _ _),ay _,rb _ _,rfl,λg=>by rw[e];rfl⟩
 have hM:¬lJ a=5->ayU a m=m:=λc=>if_neg c
 cases h3:aRu (lJ a) with
 |true=>
  rw[h3]at im;simp only[bM]at im;have hv:lJ a < 3:=by unfold aRu oV at h3;simp only[gR,dK]at h3;rcases h3 with h3 | h3 | h3 <;> rw[h3] <;> decide
  have aHc:nth eA (C2 a nb bs) 0∈C2 a nb bs:=by rw[cg (t:=eA) (show 0 < (C2 a nb bs).length by rw[g4 hv];decide)];exact aO _
  have hlen:=arQ aHc;rcases h.add (g1 _ aHc) (m':=b+4) ak ak with⟨e,_,e1⟩ | ⟨n',a',s',e1,h2,_⟩
  ·rw[e1]at im;refine same ?_
   rw[hM ak];exact im
  ·rw[e1]at im;refine⟨nb+1,n',a',s',_,h2,rb _ _,ak,?_,λg=> ?_⟩
   ·rw[fP (by rw[bB];omega),fp,eH ak]
   ·rw[im,hM ak];rfl
 |false=>
  rw[h3]at im;simp only[bw,bA]at im;cases h4:aUk (lJ a) with
  |true=>
   rw[h4]at im;simp only[bM]at im;have hv:¬lJ a=5:=by
    intro e;rw[e]at h4
    revert h4
    decide
   unfold al8 at im;rcases h.aJs a.2.2.1 g1 ak ak with⟨e,_,e1⟩ | ⟨n',a',s',bs',e1,⟨d1,d2,d3,d4⟩,h2,e2⟩
   ·rw[e1]at im;refine same ?_
    rw[hM hv];exact im
   ·rw[e1]at im;refine⟨_,n',a',s',bs',h2.mono ak,ak,ak,aKy (d:=a.2.2.1.toNat) ak ak hle e2,λg=> ?_⟩;rw[im,hM hv];rfl
  |false=>
   rw[h4]at im;simp only[bw,bA]at im;refine same ?_
   rw[im];unfold aJZ ayU;by_cases c5:lJ a=5
   ·rw[if_pos c5,if_pos c5]
   ·rw[if_neg c5,if_neg ak,if_neg ak,if_neg c5]
theorem aKd{o:bJ}{nb nb':Nat}{bs bs':List dz}{x:dR×Int}(e:zu o (bs.take nb) 0=av x)(hx:x.2+6 < nb)(hn:nb<=nb')(hp:bs'.take (nb - 6)=bs.take (nb - 6)):zu o (bs'.take nb') 0=av x:=by
 have h1:=aKe e (k:=nb - 6) ak;rw[fp,eH ak]at h1;have e2:bs'.take nb'=bs.take (nb - 6)++(bs'.take nb').drop (nb - 6):=by have h:=dH (nb - 6) (bs'.take nb');rw[fp,eH ak,hp]at h;exact h.symm
 rw[e2,Z4,h1]
def atJ(q:bJ)(l:List lX):List lX:=l.filter λe=>Ty.beq bh e.2.1 q
theorem axw(q:bJ)(l l':List lX):atJ q (l++l')=atJ q l++atJ q l':=List.filter_append _ _
theorem aMQ{q:bJ}{l:List lX}(h:∀e∈l,e.2.1=q):atJ q l=l:=je.2 λe he=>(tS _ _).2 (h e he)
theorem aGG{q o:bJ}{l:List lX}(h:∀e∈l,e.2.1=o)(hq:¬o=q):atJ q l=[]:=List.filter_eq_nil_iff.2 λe he hb=>hq ((h e he).symm.trans ((tS _ _).1 hb))
theorem uh{H:Int}{l:List dz}{o:bJ}{x:jg}:∀e∈(gG H l o x).2,e.2.1=o:=by
 unfold gG;split
 ·intro e he;cases he
 ·intro e he;simp only[bD]at he;rcases he with(he | he) | he
  ·unfold j4 at he;split at he
   ·rw[bp]at he;subst he;rfl
   ·cases he
  ·unfold so at he;split at he
   ·rw[bp]at he;subst he;rfl
   ·cases he
  ·unfold C4 at he;split at he
   ·rw[bp]at he;subst he;rfl
   ·cases he
theorem aBd{H:Int}{l:List dz}{o:bJ}{x:jg}(hx:ng x.2.1)(hv:ng (nI o l).1):∀e∈(gG H l o x).2,ng e.2.2.1:=by
 unfold gG;split
 ·intro e he;cases he
 ·intro e he;simp only[bD]at he;rcases he with(he | he) | he
  ·unfold j4 at he;split at he
   ·rw[bp]at he;subst he;exact hx
   ·cases he
  ·unfold so at he;split at he
   ·rw[bp]at he;subst he;exact hv
   ·cases he
  ·unfold C4 at he;split at he
   ·rw[bp]at he;subst he;exact hv
   ·cases he
theorem acA{o:bJ}{v:jg}:∀ {m:Wm} {x:jg},bW bh o m=av x->(fj bh o v m).map (·.1)=m.map (·.1)
 |[],x,h=>by rw[rF]at h;cases h
 |p::l,x,h=>by
  rw[fX]at h;rw[qt];split at h
  ·rename_i hb;rw[if_pos hb,bY,bY,(tS _ _).1 hb]
  ·rename_i hb;rw[if_neg hb,bY,bY,acA h]
theorem aus{H:Int}{l:List dz}{S:Wm×List lX}{o:bJ}{x:jg}(hg:bW bh o S.1=av x):
  (∀q,bW bh q (lookW H l S o).1=if q=o then av (gG H l o x).1 else bW bh q S.1)/\(lookW H l S o).2=S.2++(gG H l o x).2/\(lookW H l S o).1.map (·.1)=S.1.map (·.1):=by
 have hw:nO o S.1=x:=by unfold nO;rw[hg];rfl
 unfold lookW;rw[hw];split
 ·rename_i hf;have e:gG H l o x=(x,[]):=by unfold gG;rw[if_pos hf]
  rw[e];refine⟨λq=> ?_,(bm _).symm,rfl⟩;by_cases hq:q=o
  ·rw[if_pos hq,hq,hg]
  ·rw[if_neg hq]
 ·refine⟨λq=> ?_,rfl,acA hg⟩;show bW bh q (fj bh o _ S.1)=_;rw[G4 fi];by_cases hq:q=o
  ·rw[if_pos ((tS _ _).2 hq),if_pos hq]
  ·rw[if_neg (λh=>hq ((tS _ _).1 h)),if_neg hq]
theorem Mr{H:Int}{l:List dz}:∀(ks:List bJ) {S:Wm×List lX},ks.Nodup->(∀o∈ks,(bW bh o S.1).isSome=aZ)->
  (ks.foldl (lookW H l) S).1.map (·.1)=S.1.map (·.1)/\∀q x,bW bh q S.1=av x->bW bh q (ks.foldl (lookW H l) S).1=av (if q∈ks then(gG H l q x).1 else x)/\atJ q (ks.foldl (lookW H l) S).2=atJ q S.2++(if q∈ks then(gG H l q x).2 else [])
 |[],S,_,_=>⟨rfl,λq x h=>⟨by rw[if_neg (λh=>by cases h)];exact h,by rw[if_neg (λh=>by cases h),bm];rfl⟩⟩
 |o::ks,S,hn,hs=>by
  obtain⟨aY1,aEb⟩:=dm.1 hn;obtain⟨y,hy⟩:=bR.1 (hs o aK);obtain⟨h1,h2,h3⟩:=aus (H:=H) (l:=l) hy;have hs':∀o'∈ks,(bW bh o' (lookW H l S o).1).isSome=aZ:=λo' ho'=>by
   rw[h1];split
   ·rfl
   ·exact hs o' (aF _ ho')
  obtain⟨g1,g2⟩:=Mr (H:=H) (l:=l) ks aEb hs';rw[bz];refine⟨g1.trans h3,λq x hq=> ?_⟩;by_cases e:q=o
  ·subst e;obtain rfl:y=x:=by rw[hq]at hy;exact(bn hy).symm
   obtain⟨k1,k2⟩:=g2 q (gG H l q y).1 (by rw[h1,if_pos rfl]);rw[if_neg aY1]at k1 k2;rw[k1,k2,if_pos aK,if_pos aK,h2,axw,aMQ uh,bm];exact⟨rfl,rfl⟩
  ·obtain⟨k1,k2⟩:=g2 q x (by rw[h1,if_neg e];exact hq);rw[k1,k2,h2,axw,aGG uh (λh=>e h.symm),bm];by_cases hm:q∈ks
   ·rw[if_pos hm,if_pos hm,if_pos (aF _ hm),if_pos (aF _ hm)];exact⟨rfl,rfl⟩
   ·have aV9:¬q∈o::ks:=λh=>by rcases cv.1 h with h | h;exact e h;exact hm h
    rw[if_neg hm,if_neg hm,if_neg aV9,if_neg aV9];exact⟨rfl,rfl⟩
theorem T9{m:Wm}(hm:WG m):(CQ m).Nodup/\(∀o∈CQ m,(bW bh o m).isSome=aZ)/\∀q x,bW bh q m=av x->q∈CQ m:=by
 obtain⟨_,hn,hq⟩:=hm;have hp:=WJ λp hp=>(hq p hp).1
 refine⟨hp.symm.nodup_iff.1 hn,λo ho=> ?_,λq x hg=> ?_⟩
 ·obtain⟨p,aLA,ZI⟩:=df.1 (hp.mem_iff.1 ho);have:=(iP fi hn (x:=p.1) (v:=p.2)).2 aLA;rw[<-ZI,this];rfl
 ·exact hp.mem_iff.2 (df.2 ⟨(q,x),(iP fi hn).1 hg,rfl⟩)
theorem PV{nb:Nat}{bs:List dz}{m:Wm}(hm:WG m){q:bJ}{x:jg}(hg:bW bh q m=av x):
  bW bh q (eN nb bs m).1=av (gG nb (bs.take nb) q x).1/\atJ q (eN nb bs m).2=(gG nb (bs.take nb) q x).2:=by
 obtain⟨h1,h2,h3⟩:=T9 hm;obtain⟨k1,k2⟩:=(Mr (H:=nb) (l:=bs.take nb) (CQ m) (S:=(m,[])) h1 h2).2 q x hg;rw[if_pos (h3 q x hg)]at k1 k2;exact⟨k1,k2⟩
theorem aH7{A0:At}{b nb n:Nat}{a:At}{s:List cG}{bs:List dz}(h:sh A0 b nb n a s bs)(H:Int):∀(ks:List bJ) {S:Wm×List lX},(∀p∈S.1,ajs p.2)->(∀e∈S.2,ng e.2.2.1)->
  (∀p∈(ks.foldl (lookW H (bs.take nb)) S).1,ajs p.2)/\(∀e∈(ks.foldl (lookW H (bs.take nb)) S).2,ng e.2.2.1)/\(ks.foldl (lookW H (bs.take nb)) S).2.length<=S.2.length+3*ks.length
 |[],S,h1,h2=>⟨h1,h2,ay _⟩
 |o::ks,S,h1,h2=>by
  obtain⟨g1,g2⟩:=axW h H o (m:=S.1) S.2 h1;have g3:∀e∈(lookW H (bs.take nb) S o).2,ng e.2.2.1:=by
   unfold lookW;split
   ·exact h2
   ·intro e he;rcases bD.1 he with he | he
    ·exact h2 e he
    ·exact aBd (atU h1 o).1 (av5 h o).1 e he
  obtain⟨k1,k2,k3⟩:=aH7 h H ks (S:=lookW H (bs.take nb) S o) g1 g3;rw[bz,aB];have g2:(lookW H (bs.take nb) S o).2.length<=S.2.length+3:=g2;exact⟨k1,k2,ak⟩
theorem VF{A0:At}{b nb n:Nat}{a:At}{s:List cG}{bs:List dz}(h:sh A0 b nb n a s bs){m:Wm}(hm:WG m):
  WG (eN nb bs m).1/\(∀e∈(eN nb bs m).2,ng e.2.2.1)/\(eN nb bs m).2.length<=3000/\(eN nb bs m).1.length=m.length:=by
 obtain⟨h1,h2,h3⟩:=T9 hm;obtain⟨hl,hn,hq⟩:=hm;obtain⟨k1,k2,k3⟩:=aH7 h nb (CQ m) (S:=(m,[])) (λp hp=>(hq p hp).2) (λe he=>by cases he);have ek:=(Mr (H:=nb) (l:=bs.take nb) (CQ m) (S:=(m,[])) h1 h2).1;have hlen:(CQ m).length=m.length:=by rw[(WJ λp hp=>(hq p hp).1).length_eq,cm]
 have el:(eN nb bs m).1.length=m.length:=by have:=bu ag ek;rw[cm,cm]at this;exact this
 have ek:(eN nb bs m).1.map (·.1)=m.map (·.1):=ek;refine⟨⟨by rw[el];exact hl,by rw[ek];exact hn,λp hp=>⟨?_,k1 p hp⟩⟩,k2,?_,el⟩
 ·have:p.1∈m.map (·.1):=by rw[<-ek];exact df.2 ⟨p,hp,rfl⟩
  obtain⟨p',aLA,ZI⟩:=df.1 this;rw[<-ZI];exact(hq p' aLA).1
 ·have k3:(eN nb bs m).2.length<=0+3*(CQ m).length:=k3;omega
theorem aPT{o:bJ}{t:dR}{x:jg}{h:Int}{ok:Bool}{i:Bs}(hf:x.2.2.2.2.1=aQ):
  (so o t h ok i (j4 o x h ok i).1).1.2.2.2.2.1=aQ/\(ok=aZ->(so o t h ok i (j4 o x h ok i).1).1.2.2.2.1=h/\(so o t h ok i (j4 o x h ok i).1).1.1=aZ):=by
 unfold so;by_cases c:(ok && !(j4 o x h ok i).1.1)=aZ
 ·rw[if_pos c];exact⟨rfl,λ_=>⟨rfl,rfl⟩⟩
 ·rw[if_neg c];by_cases g:B6 x h ok i=aZ
  ·have e:(j4 o x h ok i).1=tM:=by unfold j4;rw[if_pos g]
   rw[e]at c ⊢;exact⟨rfl,λhk=>absurd (by rw[hk];rfl) c⟩
  ·have e:(j4 o x h ok i).1=x:=by unfold j4;rw[if_neg g]
   rw[e]at c ⊢;refine⟨hf,λhk=> ?_⟩;subst hk;have h1:x.1=aZ:=by
    cases hx:x.1 with
    |true=>rfl
    |false=>rw[hx]at c;exact absurd rfl c
   refine⟨?_,h1⟩;unfold B6 at g;rw[h1]at g;refine Classical.byContradiction λhn=>g ?_
   rw[show zg h x.2.2.2.1=aZ from fD (λh=>hn h.symm)];rfl
theorem aci{H:Int}{l:List dz}{o:bJ}{x:jg}(hf:x.2.2.2.2.1=aZ):gG H l o x=(x,[]):=if_pos hf
theorem aKf{o:bJ}{l:List dz}(h:(nI o l).2.2=aZ):zu o l 0=av ((nI o l).1,(nI o l).2.1):=by
 unfold nI at h ⊢;cases e:zu o l 0 with
 |none=>rw[e]at h;cases h
 |some x=>rfl
theorem aSb{o:bJ}{l:List dz}{t:dR}{h:Int}(e:zu o l 0=av (t,h)):nI o l=(t,h,aZ):=by unfold nI;rw[e]
def aS6(a:I4):Prop:=(∀t∈a.2.1,ng t)/\C6 a.2.2.2.1
theorem aGO{outs:List iu}{acts:List I4}(h:Vc outs acts=aZ)(ha:∀a∈acts,aS6 a):acts.length<=20/\∀a∈acts,ajo a:=by unfold Vc at h;simp only[au,bf,dp]at h;obtain⟨h1,_,h2⟩:=h;refine⟨h2,λa hm=> ?_⟩;have h3:=h1 a hm;unfold M5 at h3;simp only[au,bf,dp]at h3;obtain⟨h3,h4⟩:=h3;refine⟨h3,⟨ak,λt ht=>⟨(ha a hm).1 t ht,?_⟩⟩,(ha a hm).2⟩;have h5:=h4 t ht;unfold agY at h5;simp only[au,bf]at h5;omega
def Sy(nb:Nat)(bs:List dz)(q:bJ)(x:jg):Prop:=x.1=(nI q (bs.take nb)).2.2/\x.2.2.2.2.1=((nI q (bs.take nb)).2.2 && pJ ((nb:Int) - (nI q (bs.take nb)).2.1) 6)/\((nI q (bs.take nb)).2.2=aZ->x.2.2.1=iD (nI q (bs.take nb)).1/\x.2.2.2.1=(nI q (bs.take nb)).2.1/\iD x.2.1=x.2.2.1)
def Ft(nb:Nat)(bs:List dz)(q:bJ)(x:jg):Prop:=(x.1=aZ->iD x.2.1=x.2.2.1)/\(x.2.2.2.2.1=aZ->x.1=aZ/\∃t,zu q (bs.take nb) 0=av (t,x.2.2.2.1)/\iD t=x.2.2.1/\x.2.2.2.1+6 < nb)
theorem Sy.ft{nb:Nat}{bs:List dz}{q:bJ}{x:jg}(h:Sy nb bs q x):Ft nb bs q x:=by obtain⟨h1,h2,h3⟩:=h;refine⟨λhx=>(h3 (by rw[<-h1];exact hx)).2.2,λhf=> ?_⟩;rw[h2,au]at hf;obtain⟨k1,k2,k3⟩:=h3 hf.1;have c2:=hf.2;unfold pJ at c2;have:=of_decide_eq_true c2;refine⟨by rw[h1];exact hf.1,(nI q (bs.take nb)).1,?_,k1.symm,by rw[k2];omega⟩;rw[k2];exact aKf hf.1
theorem Ft.act{nb nb':Nat}{bs bs':List dz}{q:bJ}{x:jg}(h:Ft nb bs q x)(hn:nb<=nb')(hp:bs'.take (nb - 6)=bs.take (nb - 6)):Ft nb' bs' q x:=by refine⟨h.1,λhf=> ?_⟩;obtain⟨h1,t,h2,h3,h4⟩:=h.2 hf;exact⟨h1,t,aKd h2 h4 hn hp,h3,ak⟩
theorem Ft.look{nb:Nat}{bs:List dz}{q:bJ}{x:jg}(h:Ft nb bs q x):Sy nb bs q (gG nb (bs.take nb) q x).1:=by
 cases hf:x.2.2.2.2.1 with
 |true=>
  rw[aci hf];obtain⟨h1,t,h2,h3,h4⟩:=h.2 hf;unfold Sy;rw[aSb h2];exact⟨h1,by rw[hf];exact(by rw[dd (by show(nb:Int) - x.2.2.2.1 > 6;omega)];rfl:aZ=(aZ && pJ ((nb:Int) - x.2.2.2.1) 6)),λ_=>⟨h3.symm,rfl,h.1 h1⟩⟩
 |false=>
  have hx:=h.1;unfold Sy gG;rw[if_neg (by rw[hf];decide)];obtain⟨t,hh,ok⟩:=nI q (bs.take nb);obtain⟨k1,k2⟩:=aPT (o:=q) (t:=t) (h:=hh) (ok:=ok) (i:=iD t) hf;have k3:ok=aQ->(so q t hh ok (iD t) (j4 q x hh ok (iD t)).1).1.1=aQ:=by
   intro e;subst e;unfold so;rw[cY,if_neg (show ¬(aQ=aZ) by decide)];unfold j4;by_cases g:B6 x hh aQ (iD t)=aZ
   ·rw[if_pos g];rfl
   ·rw[if_neg g];cases h1:x.1 with
    |false=>rfl
    |true=>unfold B6 at g;rw[h1]at g;exact absurd rfl g
  have k4:ok=aZ->(so q t hh ok (iD t) (j4 q x hh ok (iD t)).1).1.2.2.1=iD t/\iD (so q t hh ok (iD t) (j4 q x hh ok (iD t)).1).1.2.1=iD t:=by
   intro e;subst e;unfold so;by_cases c:(aZ && !(j4 q x hh aZ (iD t)).1.1)=aZ
   ·rw[if_pos c];exact⟨rfl,rfl⟩
   ·rw[if_neg c];by_cases g:B6 x hh aZ (iD t)=aZ
    ·rw[show(j4 q x hh aZ (iD t)).1=tM by unfold j4;rw[if_pos g]]at c;exact absurd rfl c
    ·have e2:(j4 q x hh aZ (iD t)).1=x:=by unfold j4;rw[if_neg g]
     rw[e2]at c ⊢;have h1:x.1=aZ:=by
      cases h1:x.1 with
      |true=>rfl
      |false=>rw[h1]at c;exact absurd rfl c
     unfold B6 at g;rw[h1]at g;have e3:Ty.beq tH (iD t) x.2.2.1=aZ:=by
      cases e3:Ty.beq tH (iD t) x.2.2.1 with
      |true=>rfl
      |false=>
       refine absurd ?_ g
       rw[e3];cases zg hh x.2.2.2.1 <;> rfl
     have e4:iD t=x.2.2.1:=beq_eq tH _ _ rfl e3;exact⟨e4.symm,(hx h1).trans e4.symm⟩
  have k5:ok=aZ->(so q t hh ok (iD t) (j4 q x hh ok (iD t)).1).1.1=aZ:=λe=>(k2 e).2
  have k6:ok=aZ->(so q t hh ok (iD t) (j4 q x hh ok (iD t)).1).1.2.2.2.1=hh:=λe=>(k2 e).1
  generalize (so q t hh ok (iD t) (j4 q x hh ok (iD t)).1).1=y at k1 k3 k4 k5 k6;have k7:y.1=ok:=by
   cases ok with
   |true=>exact k5 rfl
   |false=>exact k3 rfl
  show(C4 q t hh ok nb y).1.1=ok/\(C4 q t hh ok nb y).1.2.2.2.2.1=(ok && pJ ((nb:Int) - hh) 6)/\(ok=aZ->(C4 q t hh ok nb y).1.2.2.1=iD t/\(C4 q t hh ok nb y).1.2.2.2.1=hh/\iD (C4 q t hh ok nb y).1.2.1=(C4 q t hh ok nb y).1.2.2.1);unfold C4;by_cases c:(ok && pJ ((nb:Int) - hh) 6)=aZ
  ·rw[if_pos c,c];exact⟨k7,rfl,λe=>⟨(k4 e).1,k6 e,(k4 e).2.trans (k4 e).1.symm⟩⟩
  ·rw[if_neg c];rw[Bool.not_eq_true]at c;rw[c];exact⟨k7,k1,λe=>⟨(k4 e).1,k6 e,(k4 e).2.trans (k4 e).1.symm⟩⟩
theorem Sz{nb:Nat}{bs:List dz}{m:Wm}(hm:WG m){q:bJ}{x':jg}(h:bW bh q (eN nb bs m).1=av x'):∃x,bW bh q m=av x/\x'=(gG nb (bs.take nb) q x).1:=by
 obtain⟨h1,h2,h3⟩:=T9 hm;cases hg:bW bh q m with
 |some x=>
  rw[(PV (nb:=nb) (bs:=bs) hm hg).1]at h;exact⟨x,rfl,(bn h).symm⟩
 |none=>
  have ek:(eN nb bs m).1.map (·.1)=m.map (·.1):=(Mr (H:=nb) (l:=bs.take nb) (CQ m) (S:=(m,[])) h1 h2).1;have hn:((eN nb bs m).1.map (·.1)).Nodup:=by rw[ek];exact hm.2.1
  have:=(get_none fi (o:=q) hn).2 (by rw[ek];exact(get_none fi hm.2.1).1 hg);rw[this]at h;cases h
theorem apJ{H:Int}{l:List dz}:∀(ks:List bJ) {S:Wm×List lX},∀e∈(ks.foldl (lookW H l) S).2,e∈S.2\/e.2.1∈ks
 |[],S,e,he=> .inl he
 |o::ks,S,e,he=>by
  rcases apJ ks (S:=lookW H l S o) e he with h | h
  ·unfold lookW at h;split at h
   ·exact .inl h
   ·rcases bD.1 h with h | h
    ·exact .inl h
    ·exact .inr (by rw[uh e h];exact aK)
  ·exact .inr (aF _ h)
theorem apG{nb:Nat}{bs:List dz}{m:Wm}(hm:WG m){e:lX}(he:e∈(eN nb bs m).2):∃x,bW bh e.2.1 m=av x:=by
 rcases apJ (CQ m) (S:=(m,[])) e he with h | h
 ·cases h
 ·exact bR.1 ((T9 hm).2.1 _ h)
abbrev Sw:=Nat×Nat×At×List cG×List dz×Wm
def QU(a:I4)(S:Sw):Sw:=((al (dQ (a,S.1,S.2.1,S.2.2.1,S.2.2.2.1,S.2.2.2.2.1,S.2.2.2.2.2)) λx=>aL x.isLeft (al x.getLeft? λy=>av (y.2.1,y.2.2.1,y.2.2.2.1,y.2.2.2.2.1,y.2.2.2.2.2.1,y.2.2.2.2.2.2)) (al x.getRight? λy=>av (y.2.1,y.2.2.2.2.2.2.2.1,y.2.2.2.2.2.2.2.2.1,y.2.2.2.2.2.2.2.2.2.1,y.2.2.2.2.2.2.2.2.2.2,y.2.2.2.2.2.2.1)))).getD S
def aBz(S:Sw)(a:I4):Sw:=if lJ a < 5 then((QU a S).1,(QU a S).2.1,(QU a S).2.2.1,(QU a S).2.2.2.1,(QU a S).2.2.2.2.1,(eN (QU a S).1 (QU a S).2.2.2.2.1 (QU a S).2.2.2.2.2).1) else S
def MJ(cs:List bJ)(k:Nat)(S:Sw):Prop:=(∃A0,sh A0 (4*k) S.1 S.2.1 S.2.2.1 S.2.2.2.1 S.2.2.2.2.1)/\S.1<=9*k/\WG S.2.2.2.2.2/\S.2.2.2.2.2.length<=10/\(∀q∈cs,∃x,bW bh q S.2.2.2.2.2=av x)/\∀q x,bW bh q S.2.2.2.2.2=av x->Sy S.1 S.2.2.2.2.1 q x
theorem MJ.step{cs:List bJ}{k nb n:Nat}{a:At}{s:List cG}{bs:List dz}{m:Wm}(h:MJ cs k (nb,n,a,s,bs,m)){x:I4}(hx:ajo x)(hk:k<=20)(h5:lJ x < 5):
  ∃A0 nb' n' a' s' bs',sh A0 (4*(k+1)) nb' n' a' s' bs'/\WG m/\aBz (nb,n,a,s,bs,m) x=(nb',n',a',s',bs',(eN nb' bs' m).1)/\QU x (nb,n,a,s,bs,m)=(nb',n',a',s',bs',m)/\MJ cs (k+1) (nb',n',a',s',bs',(eN nb' bs' m).1)/\
   ∀ {β:Type} (g:Nat->Nat->At->List cG->List dz->Wm->Option β),
    (al (dQ (x,nb,n,a,s,bs,m)) λx=>aL x.isLeft (al x.getLeft? λy=>g y.2.1 y.2.2.1 y.2.2.2.1 y.2.2.2.2.1 y.2.2.2.2.2.1 y.2.2.2.2.2.2)
     (al x.getRight? λy=>g y.2.1 y.2.2.2.2.2.2.2.1 y.2.2.2.2.2.2.2.2.1 y.2.2.2.2.2.2.2.2.2.1 y.2.2.2.2.2.2.2.2.2.2 y.2.2.2.2.2.2.1))=g nb' n' a' s' bs' m:=by
 obtain⟨⟨A0,hc⟩,aAL,hw,hl,ao8,aRl⟩:=h;have aAL:nb<=9*k:=aAL;obtain⟨nb',n',a',s',bs',hc',q1,q2,q3,im⟩:=aEt hc x hx ak ak hw ak;have eM:ayU x m=m:=if_neg ak;rw[eM]at im;have eR:QU x (nb,n,a,s,bs,m)=(nb',n',a',s',bs',m):=by
  unfold QU;refine(bu (λz=>Option.getD z (nb,n,a,s,bs,m)) (im λnb n a s bs m=>av (nb,n,a,s,bs,m))).trans ?_
  rfl
 obtain⟨v1,v2,v3,v4⟩:=VF hc' hw;refine⟨A0,nb',n',a',s',bs',hc',hw,?_,eR,⟨⟨A0,hc'⟩,by show nb'<=9*(k+1);omega,v1,by show(eN nb' bs' m).1.length<=10;rw[v4];exact hl,λq hq=> ?_,λq x' hx'=> ?_⟩,im⟩
 ·unfold aBz;rw[if_pos h5,eR]
 ·obtain⟨y,hy⟩:=ao8 q hq;exact⟨_,(PV (nb:=nb') (bs:=bs') hw hy).1⟩
 ·obtain⟨y,hy,rfl⟩:=Sz hw hx';exact((aRl q y hy).ft.act q1 q3).look
theorem MJ.skip{cs:List bJ}{k:Nat}{S:Sw}(h:MJ cs k S):MJ cs (k+1) S:=by obtain⟨⟨A0,hc⟩,aAL,h⟩:=h;exact⟨⟨A0,hc.mono ak⟩,ak,h⟩
theorem MJ.next{cs:List bJ}{k:Nat}{S:Sw}(h:MJ cs k S){x:I4}(hx:ajo x)(hk:k<=20):MJ cs (k+1) (aBz S x):=by
 obtain⟨nb,n,a,s,bs,m⟩:=S;by_cases h5:lJ x < 5
 ·obtain⟨A0,nb',n',a',s',bs',_,_,e,_,h',_⟩:=h.step hx hk h5;rw[e];exact h'
 ·unfold aBz;rw[if_neg h5];exact h.skip
theorem MJ.fold{cs:List bJ}:∀(l:List I4) {k:Nat} {S:Sw},MJ cs k S->(∀x∈l,ajo x)->k+l.length<=20->MJ cs (k+l.length) (l.foldl aBz S)
 |[],_,_,h,_,_=>h
 |x::l,k,S,h,hl,hk=>by rw[aB]at hk ⊢;have:=MJ.fold l (h.next (hl x aK) ak) (λy hy=>hl y (aF _ hy)) ak;rw[show k+(l.length+1)=k+1+l.length by omega];exact this
theorem MZ.wg{m:Wm}{f:bJ->Prop}(h:MZ m f)(hl:m.length<=1000):WG m/\∀q x,bW bh q m=av x->x=tM:=by
 have hz:∀q x,bW bh q m=av x->x=tM:=λq x hx=>by
  rcases h.get q with⟨_,h2⟩ | ⟨_,h2⟩
  ·rw[h2]at hx;exact(bn hx).symm
  ·rw[h2]at hx;cases hx
 refine⟨⟨hl,h.ap3,λp hp=>⟨h.aBK p hp,?_⟩⟩,hz⟩;rw[hz p.1 p.2 ((iP fi h.ap3).2 hp)];exact YM
abbrev H2:=(List I4)×(List bJ)×Bool×Int×Nat×Nat×(List (bJ×eV))×(List cG)×(List dz)×(List (bJ×jg))
abbrev Ui:=(List (bJ×jg))
def wj:H2->Ui->(((List I4)×(List bJ)×Bool×Nat×Nat×(List (bJ×eV))×(List cG)×(List dz))×((List (bJ×jg)))):=λ(OX,xH,head,i,SJ,AP,n185,Hi,Hj,Kb) y=>((OX,xH,head,SJ,AP,n185,Hi,Hj),y)
abbrev wk:=(List I4)×(List bJ)×Bool×Nat×Int×Nat×Nat×(List (bJ×eV))×(List cG)×(List dz)×(List (bJ×jg))×(List lX)
def mW:wk->AS:=λ(y9,zZ,G6,toldL,gv,DF,DG,EA,Kc,Kd,Ke,Hk)=>⟨([bH,.d (.slice y4) y9,.d (.slice bh) zZ]++aS 4 ([.d .bool G6,fx 185,.ptr (.new 185 5) 0 [] 0,bH,.bE (.new 185 7) 0 [] 0 0 toldL,.d ti gv]++aS 173 [])),[],(bS 185 [[bV (.pr (.ptr (.new 185 1) 0 [] 0) (.pr (.bE (.new 185 4) 0 [] 0 0 DF) gg)),bV (.pr (.cI (.new 185 2) 0) (.pr (.bE (.new 185 3) 0 [] 0 0 DG) gg)),bV (.mp bh fv EA),bV (.vec 256 cR Kc),bV (.vec 48 eA Kd),bV (.pr (.cI (.new 185 6) 0) gg),bV (.mp bh kT Ke),bV (.vec 65 pf Hk)]])⟩
def CU:Unit->Exit×AS:=λx=>(.ret,⟨(aS 6 ([.d .bool aQ]++aS 179 [])),[],(ab 186 [])⟩)
abbrev OO:=(List bJ)×Bool×Nat×Nat×Nat×(List (bJ×eV))×(List cG)×(List dz)×(List (bJ×jg))×(List lX)
def wo:OO->Exit×AS:=λ(a,b,c,e,f,g,h,i,j,k)=>(.exit 2,⟨([bH,bH,.d (.slice bh) a]++aS 4 ([.d .bool b,bH,.ptr (.new 185 5) 0 [] 0,bH,.bE (.new 185 7) 0 [] 0 0 c]++aS 174 [])),[],(bS 185 [[bV (.pr (.ptr (.new 185 1) 0 [] 0) (.pr (.bE (.new 185 4) 0 [] 0 0 e) gg)),bV (.pr (.cI (.new 185 2) 0) (.pr (.bE (.new 185 3) 0 [] 0 0 f) gg)),bV (.mp bh fv g),bV (.vec 256 cR h),bV (.vec 48 eA i),bV (.pr (.cI (.new 185 6) 0) gg),bV (.mp bh kT j),bV (.vec 65 pf k)]])⟩)
abbrev H3:=(Unit)⊕(OO)
abbrev Ul:=(Unit)⊕(((List bJ)×Bool×Nat×Nat×Nat×(List (bJ×eV))×(List cG)×(List dz)×(List (bJ×jg))×(List lX)))
def CV:H3->Out (Exit×AS):=λx=> .br x.isLeft (.get x.getLeft? λa=> .ok (CU a)) (.get x.getRight? λb=> .ok (wo b))
def jU:wk->Ul->H3:=λ(y9,zZ,G6,toldL,gv,DF,DG,EA,Kc,Kd,Ke,Hk) y=>match y with | .inl y=> .inl y | .inr z=> .inr (z)
abbrev wq:=(List I4)×(List bJ)×Bool×Nat×Int×Nat×Int×Nat×Nat×(List (bJ×eV))×(List cG)×(List dz)×(List (bJ×jg))×(List lX)×(List lX)
def px:wq->AS:=λ(Jj,Dk,JR,Ec,Mk,lL,kv,DH,DI,DJ,DK,DL,DM,DN,s9)=>⟨([bH,.d (.slice y4) Jj,.d (.slice bh) Dk]++aS 4 ([.d .bool JR,fx 185,.ptr (.new 185 5) 0 [] 0,bH,.bE (.new 185 7) 0 [] 0 0 Ec,.d ti Mk,.bE (.new 185 8) 0 [] 0 0 lL,.d ti kv]++aS 171 [])),[],(bS 185 [[bV (.pr (.ptr (.new 185 1) 0 [] 0) (.pr (.bE (.new 185 4) 0 [] 0 0 DH) gg)),bV (.pr (.cI (.new 185 2) 0) (.pr (.bE (.new 185 3) 0 [] 0 0 DI) gg)),bV (.mp bh fv DJ),bV (.vec 256 cR DK),bV (.vec 48 eA DL),bV (.pr (.cI (.new 185 6) 0) gg),bV (.mp bh kT DM),bV (.vec 65 pf DN),bV (.vec 65 pf s9)]])⟩
def CW:Unit->Exit×AS:=λx=>(.ret,⟨(aS 6 ([.d .bool aQ]++aS 179 [])),[],(ab 186 [])⟩)
abbrev OQ:=(List I4)×(List bJ)×Bool×Nat×Int×Nat×Nat×Nat×(List (bJ×eV))×(List cG)×(List dz)×(List (bJ×jg))×(List lX)×(List lX)
def wy:OQ->Exit×AS:=λ(a,b,c,e,f,g,h,i,j,k,l,m,n,o)=>(.exit 4,⟨([bH,.d (.slice y4) a,.d (.slice bh) b]++aS 4 ([.d .bool c,fx 185,.ptr (.new 185 5) 0 [] 0,bH,.bE (.new 185 7) 0 [] 0 0 e,.d ti f,.bE (.new 185 8) 0 [] 0 0 g]++aS 172 [])),[],(bS 185 [[bV (.pr (.ptr (.new 185 1) 0 [] 0) (.pr (.bE (.new 185 4) 0 [] 0 0 h) gg)),bV (.pr (.cI (.new 185 2) 0) (.pr (.bE (.new 185 3) 0 [] 0 0 i) gg)),bV (.mp bh fv j),bV (.vec 256 cR k),bV (.vec 48 eA l),bV (.pr (.cI (.new 185 6) 0) gg),bV (.mp bh kT m),bV (.vec 65 pf n),bV (.vec 65 pf o)]])⟩)
abbrev H4:=(Unit)⊕(OQ)
abbrev Uo:=(Unit)⊕(Unit)
def CX:H4->Out (Exit×AS):=λx=> .br x.isLeft (.get x.getLeft? λa=> .ok (CW a)) (.get x.getRight? λb=> .ok (wy b))
def qR:wq->Uo->H4:=λ(Jj,Dk,JR,Ec,Mk,lL,kv,DH,DI,DJ,DK,DL,DM,DN,s9) y=>match y with | .inl y=> .inl y | .inr z=> .inr ((Jj,Dk,JR,Ec,Mk,lL,DH,DI,DJ,DK,DL,DM,DN,s9))
abbrev wA:=(List bJ)×Bool×Nat×Int×(List (bJ×jg))×(List lX)
def py:wA->AS:=λ(L0,PK,TU,aSV,SK,SL)=>⟨([bH,bH,.d (.slice bh) L0]++aS 4 ([.d .bool PK,bH,fx 185,bH,.bE (.new 185 2) 0 [] 0 0 TU,bH,bH,bH,.d ti aSV]++aS 170 [])),[],(bS 185 [[bV (.pr (.cI (.new 185 1) 0) gg),bV (.mp bh kT SK),bV (.vec 65 pf SL)]])⟩
def qS:Unit->Exit×AS:=λx=>(.ret,⟨(aS 6 ([.d .bool aQ]++aS 179 [])),[],(ab 186 [])⟩)
def wD:Bool->Exit×AS:=λx=>(.exit 6,⟨(aS 7 ([.d .bool x]++aS 178 [])),[],(ab 186 [])⟩)
abbrev H5:=(Unit)⊕(Bool)
abbrev Ur:=(Unit)⊕(Bool)
def CY:H5->Out (Exit×AS):=λx=> .br x.isLeft (.get x.getLeft? λa=> .ok (qS a)) (.get x.getRight? λb=> .ok (wD b))
def wC:wA->Ur->H5:=λ(L0,PK,TU,aSV,SK,SL) y=>match y with | .inl y=> .inl y | .inr z=> .inr (z)
abbrev wE:=(List bJ)×Bool×Nat×Int×Int×(List (bJ×jg))×(List lX)×lX
def iy:wE->AS:=λ(rq,B7,rV,aAR,uY,vO,gE,pI)=>⟨([bH,bH,.d (.slice bh) rq]++aS 4 ([.d .bool B7,bH,fx 185,bH,.bE (.new 185 2) 0 [] 0 0 rV,bH,bH,bH,.d ti aAR,.ptr (.new 185 3) 0 [] 0,.d ti uY]++aS 168 [])),[],(bS 185 [[bV (.pr (.cI (.new 185 1) 0) gg),bV (.mp bh kT vO),bV (.vec 65 pf gE),bV (.d pf pI)]])⟩
def cF:Unit->Exit×AS:=λx=>(.ret,⟨(aS 6 ([.d .bool aQ]++aS 179 [])),[],(ab 186 [])⟩)
abbrev OT:=((List bJ)×Bool×Nat×Int×(List (bJ×jg))×(List lX))×(lX)
def wF:OT->Exit×AS:=λ((a,b,c,e,f,g),h)=>(.exit 8,⟨([bH,bH,.d (.slice bh) a]++aS 4 ([.d .bool b,bH,fx 185,bH,.bE (.new 185 2) 0 [] 0 0 c,bH,bH,bH,.d ti e,.ptr (.new 185 3) 0 [] 0]++aS 169 [])),[],(bS 185 [[bV (.pr (.cI (.new 185 1) 0) gg),bV (.mp bh kT f),bV (.vec 65 pf g),bV (.d pf h)]])⟩)
abbrev H7:=(Unit)⊕(OT)
abbrev Ut:=(Unit)⊕(lX)
def CZ:H7->Out (Exit×AS):=λx=> .br x.isLeft (.get x.getLeft? λa=> .ok (cF a)) (.get x.getRight? λb=> .ok (wF b))
def nN:wE->Ut->H7:=λ(rq,B7,rV,aAR,uY,vO,gE,pI) y=>match y with | .inl y=> .inl y | .inr z=> .inr (((rq,B7,rV,aAR,vO,gE),z))
abbrev wi:=(List I4)×(List bJ)×Bool×Nat×Int×Nat×Nat×(List (bJ×eV))×(List cG)×(List dz)×(List (bJ×jg))×(List lX)
def IT:wi->AS:=λ(acts,coins,head,toldL,i,SJ,AP,n185,Hi,Hj,Kb,EA)=>⟨([bH,.d (.slice y4) acts,.d (.slice bh) coins]++aS 4 ([.d .bool head,fx 185,.ptr (.new 185 5) 0 [] 0,bH,.bE (.new 185 7) 0 [] 0 0 toldL,.d ti i]++aS 173 [])),[],(bS 185 [[bV (.pr (.ptr (.new 185 1) 0 [] 0) (.pr (.bE (.new 185 4) 0 [] 0 0 SJ) gg)),bV (.pr (.cI (.new 185 2) 0) (.pr (.bE (.new 185 3) 0 [] 0 0 AP) gg)),bV (.mp bh fv n185),bV (.vec 256 cR Hi),bV (.vec 48 eA Hj),bV (.pr (.cI (.new 185 6) 0) gg),bV (.mp bh kT Kb),bV (.vec 65 pf EA)]])⟩
def LO:pP:=pP.of {ba:=[1,2,7,8,9,11,12],sites:=[16,18,20,23,25,26,29,54,74,77,95,98,143,146,176,185],aD9:=av 185} IT
def xy:wi->Option wi:=λx=>(LO).axO .normal (IT x)
theorem MY(x:wi):xy x=av x:=pP.Hn (jx [.d (.slice y4),.d (.slice bh),.d .bool,.n,.d ti,.n,.n,.d (.slice (.pair bh fv)),.d (.slice cR),.d (.slice eA),.d (.slice (.pair bh kT)),.d (.slice pf)] λ_=>cr) x
abbrev ajl:=(List iu)×(List I4)×(List bJ)
def aIZ(last e:lX):Bool:=if e.1=1 then oV last.1 2 else(oV last.1 1 && (Ty.beq tH (iD e.2.2.1) (iD last.2.2.1) && (oV e.2.2.2.1 last.2.2.2.1 && (!(gz e.1 1) && !(pJ e.1 3)))))
def VN(q:bJ):lX->List lX->Option lX
 |last,[]=>av last
 |last,e::l=>if Ty.beq bh e.2.1 q=aZ then(if aIZ last e=aZ then VN q e l else aD) else VN q last l
theorem alM(q:bJ):∀(l:List lX) (a:lX),VN q a l=VN q a (atJ q l)
 |[],_=>rfl
 |e::l,a=>by
  unfold atJ;rw[List.filter_cons];by_cases h:Ty.beq bh e.2.1 q=aZ
  ·rw[if_pos h,VN,VN,if_pos h,if_pos h,alM q l];rfl
  ·rw[if_neg h,VN,if_neg h];exact alM q l a
theorem ZX(q:bJ):∀(l l':List lX) (a:lX),VN q a (l++l')=(VN q a l).bind λb=>VN q b l'
 |[],_,_=>rfl
 |e::l,l',a=>by
  rw[iI,VN,VN];split
  ·split
   ·exact ZX q l l' _
   ·rfl
  ·exact ZX q l l' _
theorem alN{q:bJ}{a e:lX}(h:e.2.1=q)(h1:aIZ a e=aZ):VN q a [e]=av e:=by rw[VN,if_pos ((tS _ _).2 h),if_pos h1];rfl
def La(last:lX)(x:jg):Prop:=last.1=(if x.2.2.2.2.1=aZ then 3 else if x.1=aZ then 1 else 2)/\(x.1=aZ->x.2.2.2.2.1=aQ->iD last.2.2.1=x.2.2.1/\last.2.2.2.1=x.2.2.2.1)
theorem La.one{last:lX}{x:jg}(h:La last x)(hf:x.2.2.2.2.1=aQ)(h1:x.1=aZ):last.1=1:=by have:=h.1;rw[hf,h1,if_neg fg,if_pos rfl]at this;exact this
theorem La.two{last:lX}{x:jg}(h:La last x)(hf:x.2.2.2.2.1=aQ)(h1:x.1=aQ):last.1=2:=by have:=h.1;rw[hf,h1,if_neg fg,if_neg fg]at this;exact this
theorem aOk{q:bJ}{x:jg}{h:Int}{ok:Bool}{i:Bs}{last:lX}(hl:La last x)(hf:x.2.2.2.2.1=aQ)(hb:x.1=aZ->iD x.2.1=x.2.2.1):
  ∃l',VN q last (j4 q x h ok i).2=av l'/\La l' (j4 q x h ok i).1:=by
 unfold j4;split
 ·rename_i g;have h1:x.1=aZ:=by unfold B6 at g;rw[au]at g;exact g.1
  obtain⟨b1,b2⟩:=hl.2 h1 hf;refine⟨_,alN rfl ?_,⟨rfl,λh=>by cases h⟩⟩;show aIZ last (2,(q,(x.2.1,(x.2.2.2.1,()))))=aZ;unfold aIZ;rw[if_neg (show ¬(2:Int)=1 by decide),du (hl.one hf h1),du b2.symm,b1,hb h1,beq_refl tH x.2.2.1 rfl];rfl
 ·exact⟨last,rfl,hl⟩
theorem aOl{q:bJ}{t:dR}{x:jg}{h:Int}{ok:Bool}{last:lX}(hl:La last x)(hf:x.2.2.2.2.1=aQ):
  ∃l',VN q last (so q t h ok (iD t) x).2=av l'/\La l' (so q t h ok (iD t) x).1:=by
 unfold so;split
 ·rename_i c;have h1:x.1=aQ:=by
   rw[au]at c;cases hx:x.1 with
   |false=>rfl
   |true=>rw[hx]at c;exact absurd c.2 fg
  refine⟨_,alN rfl ?_,⟨rfl,λ_ _=>⟨rfl,rfl⟩⟩⟩;show aIZ last (1,(q,(t,(h,()))))=aZ;unfold aIZ;rw[if_pos rfl];exact du (hl.two hf h1)
 ·exact⟨last,rfl,hl⟩
theorem aOm{q:bJ}{t:dR}{x:jg}{h H:Int}{ok:Bool}{last:lX}(hl:La last x)(hf:x.2.2.2.2.1=aQ)(hx:ok=aZ->x.1=aZ/\x.2.2.1=iD t):
  ∃l',VN q last (C4 q t h ok H x).2=av l'/\La l' (C4 q t h ok H x).1:=by
 unfold C4;split
 ·rename_i c;rw[au]at c;obtain⟨x1,x2⟩:=hx c.1;obtain⟨b1,b2⟩:=hl.2 x1 hf;refine⟨_,alN rfl ?_,⟨rfl,λ_ h=>by cases h⟩⟩;show aIZ last (3,(q,(t,(x.2.2.2.1,()))))=aZ;unfold aIZ;rw[if_neg (show ¬(3:Int)=1 by decide),du (hl.one hf x1),du b2.symm,b1,x2,beq_refl tH (iD t) rfl];rfl
 ·exact⟨last,rfl,hl⟩
theorem aRB{q:bJ}{t:dR}{x:jg}{h:Int}:(so q t h aZ (iD t) (j4 q x h aZ (iD t)).1).1.2.2.1=iD t:=by
 unfold so;by_cases c:(aZ && !(j4 q x h aZ (iD t)).1.1)=aZ
 ·rw[if_pos c]
 ·rw[if_neg c];by_cases g:B6 x h aZ (iD t)=aZ
  ·rw[show(j4 q x h aZ (iD t)).1=tM by unfold j4;rw[if_pos g]]at c;exact absurd rfl c
  ·have e2:(j4 q x h aZ (iD t)).1=x:=by unfold j4;rw[if_neg g]
   rw[e2]at c ⊢;have h1:x.1=aZ:=by
    cases h1:x.1 with
    |true=>rfl
    |false=>rw[h1]at c;exact absurd rfl c
   unfold B6 at g;rw[h1]at g;have e3:Ty.beq tH (iD t) x.2.2.1=aZ:=by
    cases e3:Ty.beq tH (iD t) x.2.2.1 with
    |true=>rfl
    |false=>
     refine absurd ?_ g
     rw[e3];cases zg h x.2.2.2.1 <;> rfl
   exact(beq_eq tH _ _ rfl e3).symm
theorem aOn{q:bJ}{x:jg}{H:Int}{l:List dz}{last:lX}(hl:La last x)(hb:x.1=aZ->iD x.2.1=x.2.2.1):
  ∃l',VN q last (gG H l q x).2=av l'/\La l' (gG H l q x).1:=by
 cases hf:x.2.2.2.2.1 with
 |true=>rw[aci hf];exact⟨last,rfl,hl⟩
 |false=>
  unfold gG;rw[if_neg (by rw[hf];decide)];obtain⟨t,hh,ok⟩:=nI q l;have f1:(j4 q x hh ok (iD t)).1.2.2.2.2.1=aQ:=by
   unfold j4;split
   ·rfl
   ·exact hf
  obtain⟨k1,k2⟩:=aPT (o:=q) (t:=t) (h:=hh) (ok:=ok) (i:=iD t) hf;obtain⟨l1,e1,a1⟩:=aOk (q:=q) (h:=hh) (ok:=ok) (i:=iD t) hl hf hb;obtain⟨l2,e2,a2⟩:=aOl (q:=q) (t:=t) (h:=hh) (ok:=ok) a1 f1;obtain⟨l3,e3,a3⟩:=aOm (q:=q) (t:=t) (h:=hh) (H:=H) (ok:=ok) a2 k1 (λe=>⟨(k2 e).2,by subst e;exact aRB⟩);refine⟨l3,?_,a3⟩;simp only[ZX,e1,e2,e3,Option.bind_some]
theorem aMa{x:bJ}(hx:C6 x):aw8 x x=aQ:=by rw[Zw hx hx];exact iC (sD.irrefl x hx)
theorem aE6{x y:bJ}(hx:C6 x)(hy:C6 y)(h:aw8 x y=aZ):aw8 y x=aQ:=by rw[Zw hx hy,bf]at h;rw[Zw hy hx];exact iC λh2=>sD.irrefl x hx (sD.trans x y x hx hy hx h h2)
theorem apI{H:Int}{l:List dz}:∀(ks:List bJ) {S:Wm×List lX},(ks.Pairwise λx y=>aw8 x y=aZ)->(∀o∈ks,C6 o)->(∀e∈S.2,C6 e.2.1/\∀o∈ks,aw8 e.2.1 o=aZ)->
  (S.2.Pairwise λa b=>aw8 b.2.1 a.2.1=aQ)->((ks.foldl (lookW H l) S).2.Pairwise λa b=>aw8 b.2.1 a.2.1=aQ)
 |[],_,_,_,_,h=>h
 |o::ks,S,hp,hq,hs,h=>by
  obtain⟨p1,p2⟩:=tP.1 hp;have ho:=hq o aK;have key:(lookW H l S o).2=S.2\/(lookW H l S o).2=S.2++(gG H l o (nO o S.1)).2:=by
   unfold lookW;split
   ·exact .inl rfl
   ·exact .inr rfl
  rw[bz];refine apI ks p2 (λx hx=>hq x (aF _ hx)) (λe he=> ?_) ?_
  ·rcases key with k | k
   ·rw[k]at he;exact⟨(hs e he).1,λo' h'=>(hs e he).2 o' (aF _ h')⟩
   ·rw[k]at he;rcases bD.1 he with he | he
    ·exact⟨(hs e he).1,λo' h'=>(hs e he).2 o' (aF _ h')⟩
    ·rw[uh e he];exact⟨ho,p1⟩
  ·rcases key with k | k
   ·rw[k];exact h
   ·rw[k];refine List.pairwise_append.2 ⟨h,List.pairwise_iff_getElem.2 λi j hi hj _=> ?_,λa ha b hb=> ?_⟩
    ·rw[uh _ (aO hi),uh _ (aO hj)];exact aMa ho
    ·rw[uh b hb];exact aE6 (hs a ha).1 ho ((hs a ha).2 o aK)
theorem apF{nb:Nat}{bs:List dz}{m:Wm}(hm:WG m):((eN nb bs m).2.Pairwise λa b=>aw8 b.2.1 a.2.1=aQ)/\∀e∈(eN nb bs m).2,C6 e.2.1:=by
 have hq:∀p∈m,C6 p.1:=λp hp=>(hm.2.2 p hp).1
 refine⟨apI (CQ m) (aPe hm.2.1 hq) (λo ho=> ?_) (λe he=>by cases he) List.Pairwise.nil,λe he=> ?_⟩
 ·obtain⟨x,hx⟩:=bR.1 ((T9 hm).2.1 o ho);exact hq _ ((iP fi hm.2.1).1 hx)
 ·obtain⟨x,hx⟩:=apG hm he;exact hq _ ((iP fi hm.2.1).1 hx)
def SU(P:Sw×List lX)(a:I4):Sw×List lX:=if lJ a < 5 then(aBz P.1 a,P.2++(eN (QU a P.1).1 (QU a P.1).2.2.2.2.1 (QU a P.1).2.2.2.2.2).2) else P
def aca:lX:=(2,(((ab 32 (0:Int)),((0:Int),())),((([]:List iF),(([]:List iu),((0:Int),()))),((0:Int),()))))
def zB(cs:List bJ)(k:Nat)(P:Sw×List lX):Prop:=MJ cs k P.1/\(∀q x,bW bh q P.1.2.2.2.2.2=av x->∃last,VN q aca P.2=av last/\La last x)/\P.2.length<=3000*k/\∀e∈P.2,ng e.2.2.1
theorem zB.look{cs:List bJ}{k nb n:Nat}{a:At}{s:List cG}{bs:List dz}{m:Wm}{td:List lX}(h:zB cs k ((nb,n,a,s,bs,m),td)){A0:At}{b nb' n':Nat}{a':At}{s':List cG}{bs':List dz}
  (hc:sh A0 b nb' n' a' s' bs') (hI:MJ cs (k+1) (nb',n',a',s',bs',(eN nb' bs' m).1)):zB cs (k+1) ((nb',n',a',s',bs',(eN nb' bs' m).1),td++(eN nb' bs' m).2):=by
 obtain⟨h1,h2,h3,h4⟩:=h;have hw:WG m:=h1.2.2.1;have aRl:=h1.2.2.2.2.2;have h2:∀q x,bW bh q m=av x->∃last,VN q aca td=av last/\La last x:=h2;have h3:td.length<=3000*k:=h3;obtain⟨v1,v2,v3,v4⟩:=VF hc hw;refine⟨hI,λq x' hx'=> ?_,by show(td++_).length<=_;rw[ai];omega,λe he=> ?_⟩
 ·obtain⟨x,hx,rfl⟩:=Sz hw hx';obtain⟨last,l1,l2⟩:=h2 q x hx;obtain⟨l',l3,l4⟩:=aOn (q:=q) (H:=(nb':Int)) (l:=bs'.take nb') l2 (aRl q x hx).ft.1;refine⟨l',?_,l4⟩;show VN q aca (td++(eN nb' bs' m).2)=av l';rw[ZX,l1,Option.bind_some,alM,(PV (nb:=nb') (bs:=bs') hw hx).2];exact l3
 ·rcases bD.1 he with he | he
  ·exact h4 e he
  ·exact v2 e he
theorem zB.skip{cs:List bJ}{k:Nat}{P:Sw×List lX}(h:zB cs k P):zB cs (k+1) P:=⟨h.1.skip,h.2.1,by have:=h.2.2.1;omega,h.2.2.2⟩
theorem zB.next{cs:List bJ}{k:Nat}{P:Sw×List lX}(h:zB cs k P){x:I4}(hx:ajo x)(hk:k<=20):zB cs (k+1) (SU P x):=by
 obtain⟨⟨nb,n,a,s,bs,m⟩,td⟩:=P;by_cases h5:lJ x < 5
 ·obtain⟨A0,nb',n',a',s',bs',hc,_,e,eR,hI,_⟩:=h.1.step hx hk h5;unfold SU;rw[if_pos h5,e,eR];exact h.look hc hI
 ·unfold SU;rw[if_neg h5];exact h.skip
theorem zB.fold{cs:List bJ}:∀(l:List I4) {k:Nat} {P:Sw×List lX},zB cs k P->(∀x∈l,ajo x)->k+l.length<=20->zB cs (k+l.length) (l.foldl SU P)
 |[],_,_,h,_,_=>h
 |x::l,k,P,h,hl,hk=>by rw[aB]at hk ⊢;have:=zB.fold l (h.next (hl x aK) ak) (λy hy=>hl y (aF _ hy)) ak;rw[show k+(l.length+1)=k+1+l.length by omega];exact this
def afs:H2->Prop:=λ(_,cn,_,i,_)=>cn.length<=10/\∃k:Nat,k<=cn.length/\i=k
def Bt:H2->Ui:=λ(_,cn,_,i,_,_,_,_,_,m)=>(cn.drop i.toNat).foldl (λm o=>OG o m) m
def wm:wk->Prop:=λ(ac,cn,_,tL,i,nb,n,a,s,bs,m,td)=>ac.length<=20/\(∀x∈ac,ajo x)/\tL=td.length/\∃k:Nat,i=k/\k<=ac.length/\zB cn k ((nb,n,a,s,bs,m),td)
def aUr(cn:List bJ)(head:Bool)(R:Sw×List lX):(List bJ)×Bool×Nat×Nat×Nat×At×List cG×List dz×Wm×List lX:=(cn,head,R.2.length,R.1.1,R.1.2.1,R.1.2.2.1,R.1.2.2.2.1,R.1.2.2.2.2.1,R.1.2.2.2.2.2,R.2)
def mI:wk->Ul:=λ(ac,cn,head,_,i,nb,n,a,s,bs,m,td)=> .inr (aUr cn head ((ac.drop i.toNat).foldl SU ((nb,n,a,s,bs,m),td)))
def wx:wq->Prop:=λ(_,_,_,_,_,lL,kv,_,_,_,_,_,_,_,l)=>lL=l.length/\l.length<=3000/\(∀e∈l,C6 e.2.1)/\(l.Pairwise λa b=>aw8 b.2.1 a.2.1=aQ)/\1<=kv/\kv<=3001
def wu:wq->Uo:=λ_=> .inr ()
def qT:wE->Prop:=λ(cn,_,tL,i,j,_,td,last)=>tL=td.length/\td.length<=100000/\(∀e∈td,ng e.2.2.1)/\ng last.2.2.1/\cn.length<=10/\(∃c:Nat,i=c/\c < cn.length)/\∃k:Nat,k<=td.length/\j=k
def mJ:wE->Ut:=λ(cn,_,_,i,j,_,td,last)=>match VN (nth bh cn i.toNat) last (td.drop j.toNat) with | none=> .inl () | some r=> .inr r
def wB:wA->Prop:=λ(cn,_,tL,i,m,td)=>tL=td.length/\td.length<=100000/\(∀e∈td,ng e.2.2.1)/\cn.length<=10/\WG m/\(∀q∈cn,∃x last,bW bh q m=av x/\VN q aca td=av last/\zg last.1 2=x.1)/\∃k:Nat,k<=cn.length/\i=k
def Bu:wA->Ur:=λ(_,head,_)=> .inr head
def ar9:ajl->Prop:=λ(outs,ac,cn)=>(∀x∈outs,asr x)/\ac.length<=9223372036854775807/\(∀a∈ac,aS6 a)/\∀o∈cn,C6 o
def aDT:ajl->Bool:=λ_=>aZ
def oT:Ls afs wj Bt:=sH (λ(OX,xH,head,i,SJ,AP,n185,Hi,Hj,Kb)=>⟨([bH,.d (.slice y4) OX,.d (.slice bh) xH]++aS 4 ([.d .bool head,fx 185,.ptr (.new 185 5) 0 [] 0,.d ti i]++aS 175 [])),[],(bS 185 [[bV (.pr (.ptr (.new 185 1) 0 [] 0) (.pr (.bE (.new 185 4) 0 [] 0 0 SJ) gg)),bV (.pr (.cI (.new 185 2) 0) (.pr (.bE (.new 185 3) 0 [] 0 0 AP) gg)),bV (.mp bh fv n185),bV (.vec 256 cR Hi),bV (.vec 48 eA Hj),bV (.pr (.cI (.new 185 6) 0) gg),bV (.mp bh kT Kb)]])⟩) (λx=>(.exit 0,⟨([bH,.d (.slice y4) x.1.1,.d (.slice bh) x.1.2.1]++aS 4 ([.d .bool x.1.2.2.1,fx 185,.ptr (.new 185 5) 0 [] 0]++aS 176 [])),[],(bS 185 [[bV (.pr (.ptr (.new 185 1) 0 [] 0) (.pr (.bE (.new 185 4) 0 [] 0 0 x.1.2.2.2.1) gg)),bV (.pr (.cI (.new 185 2) 0) (.pr (.bE (.new 185 3) 0 [] 0 0 x.1.2.2.2.2.1) gg)),bV (.mp bh fv x.1.2.2.2.2.2.1),bV (.vec 256 cR x.1.2.2.2.2.2.2.1),bV (.vec 48 eA x.1.2.2.2.2.2.2.2),bV (.pr (.cI (.new 185 6) 0) gg),bV (.mp bh kT x.2)]])⟩))
def Uj:=dI.fI mW wm jU mI CV
def IV:wk->Option H3:=gO Uj mW
def Um:=dI.fI px wx qR wu CX
def IW:wq->Option H4:=gO Um px
def Up:=dI.fI py wB wC Bu CY
def IY:wA->Option H5:=gO Up py
def Us:=dI.fI iy qT nN mJ CZ
def zA:wE->Option H7:=gO Us iy
def fM:Fs Tryz.prog ar9 bC aDT:=fw 6 Tryz.f6 (λ(outs,acts,coins)=>([.d (.slice gV) outs,.d (.slice y4) acts,.d (.slice bh) coins],[])) (λx=>⟨.d .bool x,[],[]⟩) [av (.slice gV),av (.slice y4),av (.slice bh)] [av2,an4,ayL,aGN,afy,U8,ar7,aOr,Wy,asc] {loops:=oJ [(9,{ba:=[1,2,7,8,9,10],sites:=[16,18,20,23,25,26,29,54,74,77,95,98,143,146,176,185],aD9:=av 185}),(14,{ba:=[1,2,7,8,9,11,12],sites:=[16,18,20,23,25,26,29,54,74,77,95,98,143,146,176,185],owns:=[⟨11,[],98,43⟩],aD9:=av 185}),(20,{ba:=[1,2,7,8,9,11,12,13,14],sites:=[16,18,20,23,25,26,29,54,74,77,95,98,143,146,176,185],owns:=[⟨11,[],98,43⟩],aD9:=av 185}),(26,{ba:=[2,7,9,11,15],sites:=[16,18,20,23,25,26,29,54,74,77,95,98,143,146,176,185],aD9:=av 185}),(30,{ba:=[2,7,9,11,15,16,17],sites:=[16,18,20,23,25,26,29,54,74,77,95,98,143,146,176,185],MN:=[⟨16,[.arr],pf⟩],aD9:=av 185})],outs:=oI [(9,{ba:=[1,2,7,8,9],sites:=[185]},{ba:=[6]}),(14,{ba:=[2,7,9,11],sites:=[185]},{ba:=[6]}),(20,{ba:=[1,2,7,8,9,11,12,13],sites:=[185]},{ba:=[6]}),(26,{ba:=[7]},{ba:=[6]}),(30,{ba:=[2,7,9,11,15,16],sites:=[185]},{ba:=[6]})],gf:=nQ [(9,oT.E),(14,Uj),(20,Um),(26,Up),(30,Us)],apt:=nQ [(18,LO)]}
def Uk:= @eG Tryz.prog (jQ fM.G) fM.an 0 Tryz.f6 1 _ mW
abbrev ON:=j7 Tryz.prog (jQ fM.G) fM.an 0 Tryz.f6 1 mW wm jU mI CV
def Un:= @eG Tryz.prog (jQ fM.G) fM.an 0 Tryz.f6 2 _ px
abbrev OP:=j7 Tryz.prog (jQ fM.G) fM.an 0 Tryz.f6 2 px wx qR wu CX
def Uq:= @eG Tryz.prog (jQ fM.G) fM.an 0 Tryz.f6 3 _ py
abbrev OR:=j7 Tryz.prog (jQ fM.G) fM.an 0 Tryz.f6 3 py wB wC Bu CY
def H6:= @eG Tryz.prog (jQ fM.G) fM.an 0 Tryz.f6 4 _ iy
abbrev OS:=j7 Tryz.prog (jQ fM.G) fM.an 0 Tryz.f6 4 iy qT nN mJ CZ
theorem aft:oT.RS:=rL [.d (.slice y4),.d (.slice bh),.d .bool,.d ti,.n,.n,.d (.slice (.pair bh fv)),.d (.slice cR),.d (.slice eA),.d (.slice (.pair bh kT))] oT
theorem IU(OX xH head i SJ AP n185 Hi Hj Kb)(kn:K2 R)(kx:K3 R):fM.R 0 oT (OX,xH,head,i,SJ,AP,n185,Hi,Hj,Kb) kn kx=aL (gz i (xH.length:Int)) (aL (eL i (xH.length:Int)) (al (Gh.call ((nth bh xH (ae i)),Kb)) λx4=>kn (oT.st (OX,xH,head,(bO .i64 i 1),SJ,AP,n185,Hi,Hj,x4))) aD) (oT.go kx ((OX,xH,head,SJ,AP,n185,Hi,Hj),Kb)):=cr
theorem afu:jh IV wm jU mI:=lH (jx [.d (.slice y4),.d (.slice bh),.d .bool,.n,.d ti,.n,.n,.d (.slice (.pair bh fv)),.d (.slice cR),.d (.slice eA),.d (.slice (.pair bh kT)),.d (.slice pf)] λ_=>cr)
theorem M0:mK @Uk mW wm jU mI CV ON:=nc
theorem zz(y9 zZ G6 toldL gv DF DG EA Kc Kd Ke Hk)(kn:K2 R)(kx:K3 R):Uk (y9,zZ,G6,toldL,gv,DF,DG,EA,Kc,Kd,Ke,Hk) kn kx=aL (gz gv (((ag y9):Nat):Int)) (aL (eL gv (((ag y9):Nat):Int)) (aL (pJ (cV .and .i64 (nth y4 y9 (ae gv)).1 (7:Int)) (4:Int)) (kn (mW (y9,zZ,G6,toldL,(bO .i64 gv (1:Int)),DF,DG,EA,Kc,Kd,Ke,Hk))) (al (aL (eL gv (((ag y9):Nat):Int)) (al (dQ ((nth y4 y9 (ae gv)),DF,DG,EA,Kc,Kd,Ke)) λaSr=>aL aSr.isLeft (al aSr.getLeft? λaD3=>xy (y9,zZ,G6,toldL,gv,aD3.2.1,aD3.2.2.1,aD3.2.2.2.1,aD3.2.2.2.2.1,aD3.2.2.2.2.2.1,aD3.2.2.2.2.2.2,Hk)) (al aSr.getRight? λaD4=>xy (y9,zZ,G6,toldL,gv,aD4.2.1,aD4.2.2.2.2.2.2.2.1,aD4.2.2.2.2.2.2.2.2.1,aD4.2.2.2.2.2.2.2.2.2.1,aD4.2.2.2.2.2.2.2.2.2.2,aD4.2.2.2.2.2.2.1,Hk))) aD) λMH=>al (LN.call (MH.2.2.2.2.2.2.2.2.2.2.1,MH.2.2.2.2.2.1,MH.2.2.2.2.2.2.1,MH.2.2.2.2.2.2.2.1,MH.2.2.2.2.2.2.2.2.1,MH.2.2.2.2.2.2.2.2.2.1)) λwG=>al (IW (MH.1,MH.2.1,MH.2.2.1,MH.2.2.2.1,MH.2.2.2.2.1,wG.1,(1:Int),wG.2.2.1,wG.2.2.2.1,wG.2.2.2.2.1,wG.2.2.2.2.2.1,wG.2.2.2.2.2.2.1,wG.2.1,MH.2.2.2.2.2.2.2.2.2.2.2,wG.2.2.2.2.2.2.2)) λUz=>aL Uz.isLeft (al Uz.getLeft? λa25=>kx (CU ()).1 (CU ()).2) (al Uz.getRight? λb26=>aL (decide (0=0/\(0+b26.2.2.2.2.2.1)<=(ag b26.2.2.2.2.2.2.2.2.2.2.2.2.2))) (aL (decide (b26.2.2.2.1<=(ag b26.2.2.2.2.2.2.2.2.2.2.2.2.1))) (aL (dw (b26.2.2.2.1+(ag (cut b26.2.2.2.2.2.2.2.2.2.2.2.2.2 0 b26.2.2.2.2.2.1))) 112) (kn (mW (b26.1,b26.2.1,b26.2.2.1,(b26.2.2.2.1+(ag (cut b26.2.2.2.2.2.2.2.2.2.2.2.2.2 0 b26.2.2.2.2.2.1))),(bO .i64 b26.2.2.2.2.1 (1:Int)),b26.2.2.2.2.2.2.1,b26.2.2.2.2.2.2.2.1,b26.2.2.2.2.2.2.2.2.1,b26.2.2.2.2.2.2.2.2.2.1,b26.2.2.2.2.2.2.2.2.2.2.1,b26.2.2.2.2.2.2.2.2.2.2.2.1,((aW b26.2.2.2.1 b26.2.2.2.2.2.2.2.2.2.2.2.2.1)++(cut b26.2.2.2.2.2.2.2.2.2.2.2.2.2 0 b26.2.2.2.2.2.1))))) aD) aD) aD))) aD) (kx (wo (zZ,G6,toldL,DF,DG,EA,Kc,Kd,Ke,Hk)).1 (wo (zZ,G6,toldL,DF,DG,EA,Kc,Kd,Ke,Hk)).2):=cr
theorem afv:jh IW wx qR wu:=lH (jx [.d (.slice y4),.d (.slice bh),.d .bool,.n,.d ti,.n,.d ti,.n,.n,.d (.slice (.pair bh fv)),.d (.slice cR),.d (.slice eA),.d (.slice (.pair bh kT)),.d (.slice pf),.d (.slice pf)] λ_=>cr)
theorem M1:mK @Un px wx qR wu CX OP:=nc
theorem IX(Jj Dk JR Ec Mk lL kv DH DI DJ DK DL DM DN s9)(kn:K2 R)(kx:K3 R):Un (Jj,Dk,JR,Ec,Mk,lL,kv,DH,DI,DJ,DK,DL,DM,DN,s9) kn kx=aL (gz kv ((lL:Nat):Int)) (aL (eL kv ((lL:Nat):Int)) (aL (decide ((0+(ae kv)) < (ag s9))) (aL (decide ((((0+(ae kv))*38)+1)=((0+((ae kv)*38))+1))) (aL (eL (da .i64 kv (1:Int)) ((lL:Nat):Int)) (aL (decide ((0+(ae (da .i64 kv (1:Int)))) < (ag s9))) (aL (decide ((((0+(ae (da .i64 kv (1:Int))))*38)+1)=((0+((ae (da .i64 kv (1:Int)))*38))+1))) (al (Zn.call ((nth pf s9 (0+(ae kv))).2.1,(nth pf s9 (0+(ae (da .i64 kv (1:Int))))).2.1)) λx8=>aL (x8) (kx (CW ()).1 (CW ()).2) (kn (px (Jj,Dk,JR,Ec,Mk,lL,(bO .i64 kv (1:Int)),DH,DI,DJ,DK,DL,DM,DN,s9)))) aD) aD) aD) aD) aD) aD) (kx (wy (Jj,Dk,JR,Ec,Mk,lL,DH,DI,DJ,DK,DL,DM,DN,s9)).1 (wy (Jj,Dk,JR,Ec,Mk,lL,DH,DI,DJ,DK,DL,DM,DN,s9)).2):=cr
theorem afw:jh IY wB wC Bu:=lH (jx [.d (.slice bh),.d .bool,.n,.d ti,.d (.slice (.pair bh kT)),.d (.slice pf)] λ_=>cr)
theorem M3:mK @Uq py wB wC Bu CY OR:=nc
theorem IZ(L0 PK TU aSV SK SL)(kn:K2 R)(kx:K3 R):Uq (L0,PK,TU,aSV,SK,SL) kn kx=aL (gz aSV (((ag L0):Nat):Int)) (al (zA (L0,PK,TU,aSV,(0:Int),SK,SL,((2:Int),(((ab 32 (0:Int)),((0:Int),())),((([]:List iF),(([]:List iu),((0:Int),()))),((0:Int),())))))) λaXh=>aL aXh.isLeft (al aXh.getLeft? λa15=>kx (qS ()).1 (qS ()).2) (al aXh.getRight? λb16=>aL (eL b16.1.2.2.2.1 (((ag b16.1.1):Nat):Int)) (al (Gg.call ((nth bh b16.1.1 (ae b16.1.2.2.2.1)),b16.1.2.2.2.2.1)) λwG=>aL (!(Ty.beq .bool wG.2.2.2 (zg b16.2.1 (2:Int)))) (kx (qS ()).1 (qS ()).2) (kn (py (b16.1.1,b16.1.2.1,b16.1.2.2.1,(bO .i64 b16.1.2.2.2.1 (1:Int)),wG.1,b16.1.2.2.2.2.2)))) aD)) (kx (wD PK).1 (wD PK).2):=cr
theorem afx:jh zA qT nN mJ:=lH (jx [.d (.slice bh),.d .bool,.n,.d ti,.d ti,.d (.slice (.pair bh kT)),.d (.slice pf),.d pf] λ_=>cr)
theorem M4:mK @H6 iy qT nN mJ CZ OS:=nc
theorem I0(rq B7 rV aAR uY vO gE pI)(kn:K2 R)(kx:K3 R):H6 (rq,B7,rV,aAR,uY,vO,gE,pI) kn kx=aL (gz uY ((rV:Nat):Int)) (aL (eL uY ((rV:Nat):Int)) (aL (decide ((0+(ae uY)) < (ag gE))) (aL (decide ((((0+(ae uY))*38)+0)=(0+((ae uY)*38)))) (aL (eL aAR (((ag rq):Nat):Int)) (aL (!(Ty.beq bh (nth pf gE (0+(ae uY))).2.1 (nth bh rq (ae aAR)))) (kn (iy (rq,B7,rV,aAR,(bO .i64 uY (1:Int)),vO,gE,pI))) (aL (oV (nth pf gE (0+(ae uY))).1 (1:Int)) (aL (oV pI.1 (2:Int)) (aL (gz (nth pf gE (0+(ae uY))).1 (1:Int)) (kx (cF ()).1 (cF ()).2) (aL (pJ (nth pf gE (0+(ae uY))).1 (3:Int)) (kx (cF ()).1 (cF ()).2) (kn (iy (rq,B7,rV,aAR,(bO .i64 uY (1:Int)),vO,gE,(nth pf gE (0+(ae uY)))))))) (aL (zg (nth pf gE (0+(ae uY))).1 (1:Int)) (aL (oV pI.1 (1:Int)) (al (tid.call (nth pf gE (0+(ae uY))).2.2.1) λx5=>al (tid.call pI.2.2.1) λx6=>aL (Ty.beq tH x5 x6) (aL (!(oV (nth pf gE (0+(ae uY))).2.2.2.1 pI.2.2.2.1)) (kx (cF ()).1 (cF ()).2) (aL (gz (nth pf gE (0+(ae uY))).1 (1:Int)) (kx (cF ()).1 (cF ()).2) (aL (pJ (nth pf gE (0+(ae uY))).1 (3:Int)) (kx (cF ()).1 (cF ()).2) (kn (iy (rq,B7,rV,aAR,(bO .i64 uY (1:Int)),vO,gE,(nth pf gE (0+(ae uY))))))))) (kx (cF ()).1 (cF ()).2)) (kx (cF ()).1 (cF ()).2)) (kx (cF ()).1 (cF ()).2))) (aL (zg (nth pf gE (0+(ae uY))).1 (1:Int)) (aL (oV pI.1 (1:Int)) (al (tid.call (nth pf gE (0+(ae uY))).2.2.1) λx7=>al (tid.call pI.2.2.1) λx8=>aL (Ty.beq tH x7 x8) (aL (!(oV (nth pf gE (0+(ae uY))).2.2.2.1 pI.2.2.2.1)) (kx (cF ()).1 (cF ()).2) (aL (gz (nth pf gE (0+(ae uY))).1 (1:Int)) (kx (cF ()).1 (cF ()).2) (aL (pJ (nth pf gE (0+(ae uY))).1 (3:Int)) (kx (cF ()).1 (cF ()).2) (kn (iy (rq,B7,rV,aAR,(bO .i64 uY (1:Int)),vO,gE,(nth pf gE (0+(ae uY))))))))) (kx (cF ()).1 (cF ()).2)) (kx (cF ()).1 (cF ()).2)) (kx (cF ()).1 (cF ()).2)))) aD) aD) aD) aD) (kx (wF ((rq,B7,rV,aAR,vO,gE),pI)).1 (wF ((rq,B7,rV,aAR,vO,gE),pI)).2):=cr
theorem awI(outs acts coins)(k:K1 R):fM.A (outs,acts,coins) k=al (kj.call ()) λx4=>al (GA outs) λx5=>aL x5.isLeft (al x5.getLeft? λaZX=>al (afr.call ()) λx9=>al (wP.call (outs,acts)) λOU=>aL (!OU) (k (fM.out x4)) (aL (pJ (coins.length:Int) 10) (k (fM.out x4)) (k (fM.out x4)))) (al x5.getRight? λaXn=>al (afr.call ()) λaZJ=>al (wP.call (outs,acts)) λaZK=>aL (!aZK) (k (fM.out x4)) (aL (pJ (coins.length:Int) 10) (k (fM.out x4)) (al (oT.call (acts,coins,x4,0,0,0,aXn.1,aXn.2.1,aXn.2.2,aZJ)) λaPl=>al (IV (aPl.1.1,aPl.1.2.1,aPl.1.2.2.1,0,0,aPl.1.2.2.2.1,aPl.1.2.2.2.2.1,aPl.1.2.2.2.2.2.1,aPl.1.2.2.2.2.2.2.1,aPl.1.2.2.2.2.2.2.2,aPl.2,([]:List lX))) λaXr=>aL aXr.isLeft (al aXr.getLeft? λa76=>k (fM.out aQ)) (al aXr.getRight? λb77=>al (IY (b77.1,b77.2.1,b77.2.2.1,0,b77.2.2.2.2.2.2.2.2.1,b77.2.2.2.2.2.2.2.2.2)) λaSp=>aL aSp.isLeft (al aSp.getLeft? λa114=>k (fM.out aQ)) (al aSp.getRight? λb115=>k (fM.out b115)))))):=cr
theorem ag1:(fM.lF 0 oT):=by
 refine(fM.mY 0 oT) (λ(_,cn,_,i,_)=>cn.length - i.toNat) ?_
 rintro⟨ac,cn,head,i,nb,n,a,s,bs,m⟩ ⟨hl,k,hk,rfl⟩;have hl:cn.length<=10:=hl;have hk:k<=cn.length:=hk;by_cases h:k < cn.length
 ·left;have n1:nth bh cn k=cn[k]:=cg (t:=bh) h;have hd:cn.drop k=cn[k]::cn.drop (k+1):=aq h;refine⟨(ac,cn,head,((k+1:Nat):Int),nb,n,a,s,bs,OG cn[k] m),⟨hl,k+1,h,rfl⟩,by simp only[aa];omega,?_,λkn kx=> ?_⟩
  ·simp only[wj,Bt,aa,hd,bz]
  ·have c1:eL (k:Int) (cn.length:Int)=aZ:=bj ak ak;rw[IU,aX ak,N.mZ ak];simp only[aj,c1,aa,n1];rw[MG (d:=(cn[k],m)) trivial];rfl
 ·right;obtain rfl:k=cn.length:=ak;intro R kn kx;rw[IU,aU ak,ao];simp only[wj,Bt,aa,aN,de]
theorem ag3:OP:=by
 refine M1 (λ(_,_,_,_,_,lL,kv,_)=>lL+1 - kv.toNat) ?_
 rintro⟨ac,cn,head,tL,i,lL,kv,nb,n,a,s,bs,m,td,l⟩ ⟨rfl,hl,hq,hp,h1,h2⟩;have hl:l.length<=3000:=hl;have h1:1<=kv:=h1;have h2:kv<=3001:=h2;obtain⟨k,rfl⟩:∃k:Nat,kv=(k:Int)+1:=⟨(kv - 1).toNat,ak⟩;by_cases h:k+1 < l.length
 ·left;have n1:nth pf l (0+k)=l[k]:=by rw[aR];exact cg (t:=pf) ak
  have n2:nth pf l (0+(k+1))=l[k+1]:=by rw[aR];exact cg (t:=pf) h
  have e1:da .i64 ((k:Int)+1) 1=(k:Int):=by rw[fh ak ak];omega
  have e2:((k:Int)+1).toNat=k+1:=ak;have c1:eL (k:Int) ((l.length:Nat):Int)=aZ:=bj ak ak;have c2:eL ((k:Int)+1) ((l.length:Nat):Int)=aZ:=bj ak ak;have c3:decide (0+k < l.length)=aZ:=eO ak;have c4:decide (0+(k+1) < l.length)=aZ:=eO ak;have c5:decide ((0+k)*38+1=0+k*38+1)=aZ:=eO ak;have c6:decide ((0+(k+1))*38+1=0+(k+1)*38+1)=aZ:=eO ak;refine⟨(ac,cn,head,tL,i,l.length,(k:Int)+1+1,nb,n,a,s,bs,m,td,l),⟨rfl,hl,hq,hp,ak,ak⟩,by simp only[e2];omega,rfl,λkn kx=> ?_⟩;rw[IX,aX ak,e1];simp only[aj,e2,aa,c1,c2,c3,c4,c5,c6,n1,n2];rw[aJm (d:=(l[k+1].2.1,l[k].2.1)) ⟨(hq _ (aO _)).1,(hq _ (aO _)).1⟩];simp only[ah,bC,avp,aOc hp (Nat.lt_succ_self k) h,ao];rw[gD ak ak]
 ·right;refine⟨wy (ac,cn,head,tL,i,l.length,nb,n,a,s,bs,m,td,l),rfl,λkn kx=> ?_⟩;rw[IX,aU ak,ao]
theorem ag2:ON:=by
 refine M0 (λ(ac,_,_,_,i,_)=>ac.length - i.toNat) ?_
 rintro⟨ac,cn,head,tL,i,nb,n,a,s,bs,m,td⟩ ⟨hl,hg,rfl,k,rfl,hk,hP⟩;have hl:ac.length<=20:=hl;have hg:∀x∈ac,ajo x:=hg;have hk:k<=ac.length:=hk;have hP:zB cn k ((nb,n,a,s,bs,m),td):=hP;have hI:=hP.1;have ht:td.length<=3000*k:=hP.2.2.1;by_cases h:k < ac.length
 ·left;have n1:nth y4 ac k=ac[k]:=cg (t:=y4) h;have hd:ac.drop k=ac[k]::ac.drop (k+1):=aq h;have aYM:=hg _ (aO h);have c1:eL (k:Int) ((ag ac:Nat):Int)=aZ:=bj ak ak;by_cases h5:lJ ac[k] < 5
  ·obtain⟨A0,nb',n',a',s',bs',hc',hw,hN,hR,hI',im⟩:=hI.step aYM ak h5;have hP':=hP.look hc' hI';have eP:SU ((nb,n,a,s,bs,m),td) ac[k]=((nb',n',a',s',bs',(eN nb' bs' m).1),td++(eN nb' bs' m).2):=by unfold SU;rw[if_pos h5,hN,hR]
   obtain⟨v1,v2,v3,v4⟩:=VF hc' hw;obtain⟨o1,o2⟩:=apF (nb:=nb') (bs:=bs') hw;refine⟨(ac,cn,head,(td++(eN nb' bs' m).2).length,((k+1:Nat):Int),nb',n',a',s',bs',(eN nb' bs' m).1,td++(eN nb' bs' m).2),⟨hl,hg,rfl,k+1,rfl,h,hP'⟩,by simp only[aa];omega,?_,λkn kx=> ?_⟩
   ·simp only[jU,mI,aa,hd,bz,eP]
   ·rw[zz,aX ak,aj,c1,aj,aa,n1,show cV .and .i64 ac[k].1 7=lJ ac[k] from rfl,cH ak,ao,aj];simp only[MY];refine(bu (λz=>al z _) (im (λnb n a s bs m=>av (ac,cn,head,td.length,(k:Int),nb,n,a,s,bs,m,td)))).trans ?_
    simp only[ah];rw[ajk (d:=(m,nb',n',a',s',bs')) ⟨⟨A0,_,hc'⟩,hw⟩];simp only[ah,bC,Z6];generalize (eN nb' bs' m).1=m';generalize (eN nb' bs' m).2=l at o1 o2 v3 ⊢;rw[afv (d:=(ac,cn,head,td.length,(k:Int),l.length,1,nb',n',a',s',bs',m',td,l)) ⟨rfl,v3,o2,o1,by show(1:Int)<=1;decide,by show(1:Int)<=3001;decide⟩];simp only[ah,qR,wu,dJ,ao,cW];rw[aM (⟨trivial,re (aR _)⟩:True/\0+l.length<=l.length),aj,aM (ay _),aj,fB rfl,dC ak ak,aj,bQ,N.mZ ak,ai]
  ·have eP:SU ((nb,n,a,s,bs,m),td) ac[k]=((nb,n,a,s,bs,m),td):=if_neg h5;refine⟨(ac,cn,head,td.length,((k+1:Nat):Int),nb,n,a,s,bs,m,td),⟨hl,hg,rfl,k+1,rfl,h,hP.skip⟩,by simp only[aa];omega,?_,λkn kx=> ?_⟩
   ·simp only[jU,mI,aa,hd,bz,eP]
   ·rw[zz,aX ak,aj,c1,aj,aa,n1,show cV .and .i64 ac[k].1 7=lJ ac[k] from rfl,dd ak,aj,N.mZ ak]
 ·right;obtain rfl:k=ac.length:=ak;refine⟨wo (cn,head,td.length,nb,n,a,s,bs,m,td),?_,λkn kx=> ?_⟩
  ·simp only[jU,mI,aa,aN,de];rfl
  ·rw[zz,aU ak,ao]
theorem ag5:OS:=by
  refine M4 (λ(_,_,tL,_,j,_)=>tL - j.toNat) ?_
  rintro⟨cn,head,tL,i,j,m,td,last⟩ ⟨rfl,hl,hv,aU7,hc,⟨c,rfl,asi⟩,k,hk,rfl⟩;have hl:td.length<=100000:=hl;have hv:∀e∈td,ng e.2.2.1:=hv;have aU7:ng last.2.2.1:=aU7;have asi:c < cn.length:=asi;have hc:cn.length<=10:=hc;have hk:k<=td.length:=hk;by_cases h:k < td.length
  · have n1:nth pf td (0+k)=td[k]:=by rw[aR];exact cg (t:=pf) h
    have hd:td.drop k=td[k]::td.drop (k+1):=aq h;have c1:eL (k:Int) ((td.length:Nat):Int)=aZ:=bj ak ak;have c2:decide (0+k < td.length)=aZ:=eO ak;have c3:decide ((0+k)*38+0=0+k*38)=aZ:=eO ak;have c4:eL (c:Int) ((ag cn:Nat):Int)=aZ:=bj ak ak;have aUe:=hv _ (aO h);have next:∀e:lX,ng e.2.2.1->qT (cn,head,td.length,(c:Int),((k+1:Nat):Int),m,td,e):=λe he=>⟨rfl,hl,hv,he,hc,⟨c,rfl,asi⟩,k+1,h,rfl⟩
    have hF0:mJ (cn,head,td.length,(c:Int),(k:Int),m,td,last)=match VN (nth bh cn c) last (td[k]::td.drop (k+1)) with | none=> .inl () | some r=> .inr r:=by rw[<-hd];rfl
    have hF:∀e,mJ (cn,head,td.length,(c:Int),((k+1:Nat):Int),m,td,e)=match VN (nth bh cn c) e (td.drop (k+1)) with | none=> .inl () | some r=> .inr r:=λe=>rfl
    have step:∀ {R:Type} (kn:AS->Option R) (kx:Exit->AS->Option R),H6 (cn,head,td.length,(c:Int),(k:Int),m,td,last) kn kx=
        aL (!(Ty.beq bh td[k].2.1 (nth bh cn c))) (kn (iy (cn,head,td.length,(c:Int),((k+1:Nat):Int),m,td,last)))
         (aL (aIZ last td[k]) (kn (iy (cn,head,td.length,(c:Int),((k+1:Nat):Int),m,td,td[k]))) (kx (cF ()).1 (cF ()).2)):=by
      intro R kn kx;rw[I0,aX ak,N.mZ ak];simp only[aa,c1,c2,c3,c4,aj,n1];rw[HQ (d:=td[k].2.2.1) aUe,HQ (d:=last.2.2.1) aU7];simp only[ah,bC,YA];unfold aIZ;by_cases h1:td[k].1=1
      · rw[if_pos h1,du h1,dP h1,aU ak,cH ak]
        cases Ty.beq bh td[k].2.1 (nth bh cn c) <;> cases oV last.1 2 <;> rfl
      · rw[if_neg h1,fm h1,fD h1]
        cases Ty.beq bh td[k].2.1 (nth bh cn c) <;> cases oV last.1 1 <;> cases Ty.beq tH (iD td[k].2.2.1) (iD last.2.2.1) <;> cases oV td[k].2.2.2.1 last.2.2.2.1 <;> cases gz td[k].1 1 <;> cases pJ td[k].1 3 <;> rfl
    rw[VN]at hF0;cases hb:Ty.beq bh td[k].2.1 (nth bh cn c) with
    |false=>
      left;rw[hb,if_neg fg]at hF0;refine⟨(cn,head,td.length,(c:Int),((k+1:Nat):Int),m,td,last),next last aU7,by simp only[aa];omega,?_,λkn kx=> ?_⟩
      · rw[hF0];rfl
      · rw[step,hb];rfl
    |true=>
      rw[hb,if_pos rfl]at hF0;cases hp:aIZ last td[k]with
      |false=>
        right;rw[hp,if_neg fg]at hF0;refine⟨cF (),?_,λkn kx=> ?_⟩
        · rw[hF0];rfl
        · rw[step,hb,hp];rfl
      |true=>
        left;rw[hp,if_pos rfl]at hF0;refine⟨(cn,head,td.length,(c:Int),((k+1:Nat):Int),m,td,td[k]),next _ aUe,by simp only[aa];omega,?_,λkn kx=> ?_⟩
        · rw[hF0];rfl
        · rw[step,hb,hp];rfl
  · right
    obtain rfl:k=td.length:=ak;refine⟨wF ((cn,head,td.length,(c:Int),m,td),last),?_,λkn kx=> ?_⟩
    · simp only[nN,mJ,aa,aN,VN]
      rfl
    · rw[I0,aU ak,ao]
theorem ag4:OR:=by
 refine M3 (λ(cn,_,_,i,_)=>cn.length - i.toNat) ?_
 rintro⟨cn,head,tL,i,m,td⟩ ⟨rfl,hl,hv,hc,hw,hq,k,hk,rfl⟩;have hl:td.length<=100000:=hl;have hc:cn.length<=10:=hc;have hk:k<=cn.length:=hk;by_cases h:k < cn.length
 ·left;have n1:nth bh cn k=cn[k]:=cg (t:=bh) h;obtain⟨x,last,hx,hp,hi⟩:=hq _ (aO h);have c1:eL (k:Int) ((ag cn:Nat):Int)=aZ:=bj ak ak;refine⟨(cn,head,td.length,((k+1:Nat):Int),m,td),⟨rfl,hl,hv,hc,hw,hq,k+1,h,rfl⟩,by simp only[aa];omega,rfl,λkn kx=> ?_⟩;have g1:ajs x:=(hw.2.2 _ ((iP fi hw.2.1).1 hx)).2;have eg:nO cn[k] m=x:=by unfold nO;rw[hx];rfl
  have hs:∃u h,Gg.call (cn[k],m)=av (m,u,h,x.1):=by
   have im:=WL (d:=(cn[k],m)) (by show ng (nO cn[k] m).2.1;rw[eg];exact g1.1);simp only[MF,Uu,eg]at im;cases h1:x.1 with
   |true=>rw[h1,if_pos rfl]at im;exact⟨_,_,im⟩
   |false=>rw[h1,if_neg fg]at im;exact⟨_,_,im⟩
  obtain⟨u,hh,hs⟩:=hs;rw[IZ,aX ak,aj];show al (zA (cn,head,td.length,(k:Int),0,m,td,aca)) _=_;rw[afx (d:=(cn,head,td.length,(k:Int),0,m,td,aca)) ⟨rfl,hl,hv,v0,hc,⟨k,rfl,h⟩,0,aP _,rfl⟩];simp only[ah,nN,mJ,aa,bg,aG,n1,hp,dJ,ao,cW,c1,aj];rw[hs];simp only[ah];rw[hi,beq_refl .bool x.1 rfl,N.mZ ak];rfl
 ·right;obtain rfl:k=cn.length:=ak;refine⟨wD head,rfl,λkn kx=> ?_⟩;rw[IZ,aU ak,ao]
theorem awJ:fM.Ok:=by
 rintro⟨outs,ac,cn⟩ ⟨ho,hl,hg,hq⟩;have hq:∀o∈cn,C6 o:=hq;rw[awI,arz (d:=()) trivial];simp only[ah,bC,ai3];rw[ahu (d:=outs) ho,ar8 (d:=()) trivial,aAm (d:=(outs,ac)) hl];simp only[ah,LV,bC,aLf,bC,akA];cases e:alu outs with
 |none=>
  simp only[Fo,nu,aj,kN,ah];cases Vc outs ac with
  |false=>rfl
  |true=>cases pJ (cn.length:Int) 10 <;> rfl
 |some r=>
  simp only[Fo,dJ,ao,cW,ah];cases hw:Vc outs ac with
  |false=>rfl
  |true=>
   by_cases aPy:cn.length<=10;rotate_left
   ·rw[cQ,ao,dd ak];rfl
   obtain⟨aYv,ha⟩:=aGO hw hg;have z0:MZ [] (λ_=>False):=⟨gM,λo=> .inr ⟨id,rfl⟩,λp hp=>(by cases hp)⟩;obtain⟨z1,l1⟩:=MZ.aP7 cn z0 hq;rw[cQ,ao,cH ak,ao,aft (d:=(ac,cn,aZ,0,0,0,r,[],[],[])) ⟨aPy,0,aP _,rfl⟩];simp only[ah,wj,Bt,bg,aG];generalize cn.foldl (λm o=>OG o m) []=m1 at z1 l1 ⊢;have l1:m1.length<=cn.length:=by simpa using l1
   obtain⟨w1,wz⟩:=z1.wg ak;have akR:∀q∈cn,bW bh q m1=av tM:=λq hq=>by
    rcases z1.get q with⟨_,h2⟩ | ⟨h2,_⟩
    ·exact h2
    ·exact absurd (.inl hq) h2
   have i0:MJ cn 0 (0,0,r,[],[],m1):=⟨⟨r,sh.new (aBw ho e).1⟩,aP _,w1,by show m1.length<=10;omega,λq hq=>⟨_,akR q hq⟩,λq x hx=>by
    rw[wz q x hx];exact⟨rfl,rfl,λh=>by cases h⟩⟩
   have p0:zB cn 0 ((0,0,r,[],[],m1),[]):=⟨i0,λq x hx=>⟨aca,rfl,by rw[wz q x hx];exact⟨rfl,λh=>by cases h⟩⟩,aP _,λe he=>by cases he⟩;rw[afu (d:=(ac,cn,aZ,0,0,0,0,r,[],[],m1,[])) ⟨aYv,ha,rfl,0,rfl,aP _,p0⟩];simp only[ah,jU,mI,bg,aG,dJ,ao,cW];have hP:=p0.fold ac ha ak;generalize ac.foldl SU ((0,0,r,[],[],m1),[])=S at hP ⊢;obtain⟨⟨nb,n,a,s,bs,m⟩,td⟩:=S;obtain⟨⟨⟨A0,hc⟩,aAL,aWE,aTY,ao8,aRl⟩,aYW,aX0,aZf⟩:=hP;have aWE:WG m:=aWE;have aRl:∀q x,bW bh q m=av x->Sy nb bs q x:=aRl;have aX0:td.length<=3000*(0+ac.length):=aX0;simp only[aUr];rw[afw (d:=(cn,aZ,td.length,0,m,td)) ⟨rfl,by show td.length<=100000;omega,aZf,aPy,aWE,λq hq=>by
    obtain⟨x,hx⟩:=ao8 q hq;obtain⟨last,k1,k2⟩:=aYW q x hx;refine⟨x,last,hx,k1,?_⟩;rw[k2.1];have aU2:=(aRl q x hx).ft.2;cases hf:x.2.2.2.2.1 with
    |true=>rw[if_pos rfl,(aU2 hf).1];rfl
    |false=>
     rw[if_neg fg];cases x.1 <;> rfl,0,aP _,rfl⟩]
   rfl
theorem asa:fM.RS:=rE [.d (.slice gV),.d (.slice y4),.d (.slice bh)] fM
def awK:=fM.fC awJ 5 ⟨.fI ag1,⟨.fI ag2,⟨.fI ag3,⟨.fI ag4,⟨.fI ag5,trivial⟩⟩⟩⟩⟩
end Go.Ab
end
