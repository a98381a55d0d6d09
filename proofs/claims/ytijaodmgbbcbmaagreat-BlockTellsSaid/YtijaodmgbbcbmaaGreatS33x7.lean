/-
  Made short by a program of mine (wip/tools/mini.py).
-/
import Derived.Test.YtijaodmgbbcbmaaGreatS33x6
set_option linter.unusedVariables false
set_option linter.unusedSimpArgs false
set_option maxRecDepth 100000
set_option synthInstance.maxSize 5000
open List renaming replicate->ai,length->ae
open Int renaming toNat_natCast->aa,toNat->ab
open Option renaming some->av,none->aH
open Bool renaming true->bm,false->aZ
noncomputable section
variable {R:Type}
namespace Go.Ab
open Go.Proofs
section
abbrev tJ:=kE×Bool×(List kE)×Int×Nat×(List (cz×fj))×(List cV)×(List ei)×Nat×(List (List ei))
def oe:tJ->AS:=λ(ap2,head,rows,i,axw,n39,aea,n41,axy,aed)=>⟨(aW 5 ([.dz iP ap2,bE,.d .bool head,bE,bE,bE,eP 39,eP 41,.d (.slice iP) rows,.d ti i]++aW 145 [])),[],(bw 39 ([[dq (.pr (.c7 (.new 39 1) 0) (.pr (.bU (.new 39 2) 0 [] 0 0 axw) gR)),dq (.mp bQ ff n39),dq (.vec 212 cH aea)],[],[dq (.pr (.d (.slice ez) n41) (.pr (.bU (.new 41 1) 0 [] 0 0 axy) gR)),dq (.vec 104 (.slice ez) aed)]]++bw 118 []))⟩
def fq:Unit->Exit×AS:=λx=>(.ret,⟨(aW 6 ([.d .bool aZ]++aW 153 [])),[],(ai 160 [])⟩)
abbrev KX:=(kE×Bool)×(Nat×(List (cz×fj))×(List cV)×(List ei)×Nat×(List (List ei)))
def um:KX->Exit×AS:=λ((a,b),c,e,f,g,h,i)=>(.exit 0,⟨(aW 5 ([.dz iP a,bE,.d .bool b,bE,bE,bE,eP 39,eP 41]++aW 147 [])),[],(bw 39 ([[dq (.pr (.c7 (.new 39 1) 0) (.pr (.bU (.new 39 2) 0 [] 0 0 c) gR)),dq (.mp bQ ff e),dq (.vec 212 cH f)],[],[dq (.pr (.d (.slice ez) g) (.pr (.bU (.new 41 1) 0 [] 0 0 h) gR)),dq (.vec 104 (.slice ez) i)]]++bw 118 []))⟩)
abbrev F7:=(Unit)⊕(KX)
abbrev F8:=(Unit)⊕((Nat×(List (cz×fj))×(List cV)×(List ei)×Nat×(List (List ei))))
def AO:F7->Out (Exit×AS):=λx=> .br x.isLeft (.get x.getLeft? λa=> .ok (fq a)) (.get x.getRight? λb=> .ok (um b))
def mn:tJ->F8->F7:=λ(ap2,head,rows,i,axw,n39,aea,n41,axy,aed) y=>match y with | .inl y=> .inl y | .inr z=> .inr (((ap2,head),z))
abbrev acs:=(List jV)×kE×kE
theorem gQ.err{m n n':Nat}{a:At}{s:List cV}{l:List ei}{w:List (List ei)}(hb:gQ m n a s l n' w)(b:kE):Li b (jF l)=(ju b a).2:=(arJ b hb.rl.eqv hb.rl.nd hb.st.nT.1).trans (aj0 hb.st.nT.1)
theorem gQ.gB{m n n':Nat}{a:At}{s:List cV}{l:List ei}{w:List (List ei)}(hb:gQ m n a s l n' w){b:kE}(h0:(ju b a).2=0):aP5 (jv b b.1 b.2.2.1 0 0 (jF l))=(ju b a).1:=by
 obtain⟨aTf,aTg⟩:=Hn hb.st.nT.1;have e0:Li b (fC a)=0:=(arJ b aTf aTg hb.st.nT.1).trans ((aj0 hb.st.nT.1).trans h0);have e1:=ajZ e0;rw[<-Ik b b.1 b.2.2.1 0 0]at e1;rw[V8 b b.1 _ 0 0 (hb.rl.eqv.trans aTf.symm) hb.rl.nd aTg];unfold Li at e0;unfold ju qD;split at e0
 ·rename_i g1;split at e0
  ·cases e0
  ·rename_i g2;rw[if_pos g1,if_neg g2];cases hx:jv b b.1 b.2.2.1 0 0 (fC a) with
   |inl x=>rw[hx]at e1;cases e1
   |inr f=>rfl
 ·cases e0
def aP6(b:kE)(a:At):Int:=if(ju b a).2≠0 then 0 else(ju b a).1
def aYR(b:kE)(a:At):Bool:=decide ((ju b a).2=0)
def nB(S:avB×aPc)(b:kE):avB×aPc:=(if(ju b S.1.2.1).2≠0 then S.1 else aT9 b S.1,if(ju b S.1.2.1).2≠0 then S.2 else b.2.2.1.foldl (aaL b.1) S.2)
def Yg(m:Nat)(S:avB×aPc):Prop:=gQ m S.1.1 S.1.2.1 S.1.2.2 S.2.1 S.2.2.1 S.2.2.2
theorem Yg.step{m:Nat}{S:avB×aPc}(hb:Yg m S){b:kE}(hB:Sj b)(wD:b.2.2.1.length<=12):Yg (m+12) (nB S b):=by
 obtain⟨⟨n,a,s⟩,l,n',w⟩:=S;have hb:gQ m n a s l n' w:=hb;unfold nB;by_cases h0:(ju b a).2≠0
 ·rw[if_pos h0,if_pos h0];exact hb.aWw aq
 ·rw[if_neg h0,if_neg h0];exact(gQ.all (h:=b.1) b.2.2.1 hb hB.1.1.2).aWw aq
section
variable {m n n':Nat} {a:At} {s:List cV} {l:List ei} {w:List (List ei)} {b:kE}
theorem gQ.aZe(hb:gQ m n a s l n' w)(hm:m<=40)(hB:Sj b):Dj.call (b,n,a,s)=av (aP6 b a,aYR b a,n,a,s):=by
 rw[aci (d:=(b,n,a,s)) ⟨hB,hb.st.mono aq⟩];simp only[bq,SB,aP6,aYR];by_cases h0:(ju b a).2=0
 ·have h1:¬(ju b a).2≠0:=λx=>x h0
  rw[if_neg h1,if_neg h1,aX h0]
 ·rw[if_pos h0,if_pos h0,bo h0]
theorem gQ.bam(hb:gQ m n a s l n' w)(hm:m<=40)(hB:Sj b)(wD:b.2.2.1.length<=12):uS.call (b,l,n',w)=av (aP6 b a,aYR b a,l,n',w):=by
 rw[atU (d:=(b,l,n',w)) ⟨hB,⟨_,_,_,hb.aWw aq⟩,wD⟩];simp only[bq,Xs,aP6,aYR,hb.err];by_cases h0:(ju b a).2=0
 ·have h1:¬(ju b a).2≠0:=λx=>x h0
  rw[if_neg h1,if_neg h1,aX h0,hb.gB h0]
 ·rw[if_pos h0,if_pos h0,bo h0]
theorem gQ.aZd(hb:gQ m n a s l n' w)(hm:m<=40)(hB:Sj b):Di.call (b,n,a,s)=av ((ju b a).2,n,a,s):=Hh (d:=(b,n,a,s)) ⟨hB,hb.st.mono aq⟩
theorem gQ.Bc(hb:gQ m n a s l n' w)(hm:m<=40)(hB:Sj b)(wD:b.2.2.1.length<=12):pL.call (b,l,n',w)=av ((ju b a).2,l,n',w):=by rw[RO (d:=(b,l,n',w)) ⟨hB,⟨_,_,_,hb.aWw aq⟩,wD⟩];simp only[bq,MH,hb.err]
theorem gQ.aZc(hb:gQ m n a s l n' w)(hm:m<=40)(hB:Sj b):Dg.call (b,n,a,s)=av ((ju b a).2,(nB ((n,a,s),l,n',w) b).1):=ajD (d:=(b,n,a,s)) ⟨hB,hb.st.mono aq⟩
theorem gQ.bal(hb:gQ m n a s l n' w)(hm:m<=40)(hB:Sj b)(wD:b.2.2.1.length<=12):Bb.call (b,l,n',w)=av ((ju b a).2,(nB ((n,a,s),l,n',w) b).2):=by rw[ayo (d:=(b,l,n',w)) ⟨hB,⟨_,_,_,hb.aWw hm⟩,wD⟩];simp only[bq,afx,hb.err,nB]
theorem gQ.aTK(hb:gQ m n a s l n' w)(hm:m<=100):UY.call (l,n',w)=av (ahH a,l,n',w):=by have h1:=hb.rl.len;have h2:=hb.st.aI8;rw[aM6 (d:=(l,n',w)) (by show l.length<=1000000;omega)];simp only[bq,ay3,hb.rl.all]
theorem gQ.aX8(hb:gQ m n a s l n' w)(hm:m<=100):agD.call (l,n',w)=av (gM a,l,n',w):=by have h1:=hb.rl.len;have h2:=hb.st.aI8;rw[aNR (d:=(l,n',w)) ⟨by show l.length<=1000000;omega,λp hp=>(hb.rl.aYs.2 p hp).2.2.2.1,by rw[hb.rl.aH5];have:=hb.st.sum;omega⟩];simp only[bq,azB,hb.rl.aH5]
theorem gQ.bbz(hb:gQ m n a s l n' w)(hm:m<=100):iD.call (cut (ahH a) 0 a.length,ahH a)=av bm:=by have h2:=hb.st.aI8;have e:=Wk hb.st.nT;rw[ea e,aiA (d:=(ahH a,ahH a)) (by show(ahH a).length<=_;omega)];simp only[bq,Mj,b8]
end
theorem ajJ(x:Bool):Ty.beq .bool x x=bm:=by cases x <;> rfl
def axJ(S:avB×aPc):F8:= .inr (S.1.1,S.1.2.1,S.1.2.2,S.2.1,S.2.2.1,S.2.2.2)
def uk:tJ->Prop:=λ(_,_,rows,i,n,a,s,l,n',w)=>(rows.length=2/\∀x∈rows,Sj x/\x.2.2.1.length<=12)/\∃k:Nat,k<=2/\i=k/\gQ (12*k) n a s l n' w
def nG:tJ->F8:=λ(_,_,rows,i,n,a,s,l,n',w)=>axJ ((rows.drop i.toNat).foldl nB ((n,a,s),l,n',w))
def amo:acs->Prop:=λ(l,b,c)=>(∀o∈l,Wi o)/\avL b/\avL c
def acu:acs->Bool:=λ_=>bm
def O2:=dB.e7 oe uk mn nG AO
def od:tJ->Option F7:=fS O2 oe
def eT:Fs Tryz.prog amo bq acu:=eV 3 Tryz.f3 (λ(l,b,c)=>([.d (.slice fi) l,.d iP b,.d iP c],[])) (λx=>⟨.d .bool x,[],[]⟩) [av (.slice fi),av iP,av iP] [azV,aFd,aJV,art,aR0,aAA,aMQ,awe,UW,ajE,ayu,ach,Xr,aqz,aFX,aJo,aRK,aoH,arv,aSd,aqI,aF8] {loops:=lz [(15,{bg:=[5,7,11,12,13,14],sites:=[39,41],owns:=[⟨11,[.snd,.fst],39,32⟩,⟨12,[.snd,.fst],41,34⟩]})],outs:=lu [(15,{bg:=[5,7,11,12],sites:=[39,41]},{bg:=[6]})],fa:=mc [(15,O2)]}
def O3:= @ej Tryz.prog (jr eT.G) eT.an 0 Tryz.f3 0 _ oe
abbrev KW:=jj Tryz.prog (jr eT.G) eT.an 0 Tryz.f3 0 oe uk mn nG AO
theorem aaM:ik od uk mn nG:=jX (jA [.d iP,.d .bool,.d (.slice iP),.d ti,.n,.d (.slice (.pair bQ ff)),.d (.slice cH),.d (.slice ez),.n,.d (.slice (.slice ez))] λ_=>cd)
theorem KY:ma @O3 oe uk mn nG AO KW:=mJ
theorem Hl(ap2 head rows i axw n39 aea n41 axy aed)(kn:K2 R)(kx:K3 R):O3 (ap2,head,rows,i,axw,n39,aea,n41,axy,aed) kn kx=aJ (fv i (2:Int)) (aJ (eA i (((ae rows):Nat):Int)) (ao (Dj.call ((nth iP rows (ab i)),axw,n39,aea)) λaaJ=>ao (uS.call ((nth iP rows (ab i)),n41,axy,aed)) λaYm=>ao (Di.call ((nth iP rows (ab i)),aaJ.2.2.1,aaJ.2.2.2.1,aaJ.2.2.2.2)) λabt=>ao (pL.call ((nth iP rows (ab i)),aYm.2.2.1,aYm.2.2.2.1,aYm.2.2.2.2)) λaYZ=>aJ (C3 abt.1 aYZ.1) (kx (fq ()).1 (fq ()).2) (aJ (C3 aaJ.1 aYm.1) (kx (fq ()).1 (fq ()).2) (aJ (!(Ty.beq .bool aaJ.2.1 aYm.2.1)) (kx (fq ()).1 (fq ()).2) (ao (Dg.call ((nth iP rows (ab i)),abt.2.1,abt.2.2.1,abt.2.2.2)) λaY0=>ao (Bb.call ((nth iP rows (ab i)),aYZ.2.1,aYZ.2.2.1,aYZ.2.2.2)) λaY1=>aJ (C3 aY0.1 aY1.1) (kx (fq ()).1 (fq ()).2) (ao (Ds.call (aY0.2.1,aY0.2.2.1,aY0.2.2.2)) λavA=>ao (UY.call (aY1.2.1,aY1.2.2.1,aY1.2.2.2)) λaY2=>aJ (decide (0=0/\(0+avA.1)<=(ae avA.2.2.2.2))) (ao (iD.call ((cut avA.2.2.2.2 0 avA.1),aY2.1)) λbcQ=>aJ (!bcQ) (kx (fq ()).1 (fq ()).2) (ao (ER.call (avA.2.1,avA.2.2.1,avA.2.2.2.1)) λaY3=>ao (agD.call (aY2.2.1,aY2.2.2.1,aY2.2.2.2)) λaS0=>aJ (C3 aY3.1 aS0.1) (kx (fq ()).1 (fq ()).2) (kn (oe (ap2,head,rows,(bz .i64 i (1:Int)),aY3.2.1,aY3.2.2.1,aY3.2.2.2,aS0.2.1,aS0.2.2.1,aS0.2.2.2))))) aH))))) aH) (kx (um ((ap2,head),(axw,n39,aea,n41,axy,aed))).1 (um ((ap2,head),(axw,n39,aea,n41,axy,aed))).2):=cd
theorem aqQ(l b c)(k:K1 R):eT.A (l,b,c) k=ao (l6.call ()) λx4=>ao (LS.call l) λx8=>ao (DD.call b) λaAj=>ao (DD.call c) λvG=>aJ (!x8) (k (eT.out x4)) (aJ (!aAj) (k (eT.out x4)) (aJ (!vG) (k (eT.out x4)) (ao (Dz l) λaHT=>aJ aHT.isLeft (ao aHT.getLeft? λbcI=>ao (OA l) λbaM=>aJ baM.isLeft (ao baM.getLeft? λbcJ=>aJ (x4) (k (eT.out bm)) (k (eT.out aZ))) (ao baM.getRight? λbcK=>aJ (x4) (k (eT.out aZ)) (k (eT.out aZ)))) (ao aHT.getRight? λaHG=>ao (OA l) λbaT=>aJ baT.isLeft (ao baT.getLeft? λbcL=>aJ (x4) (k (eT.out aZ)) (k (eT.out aZ))) (ao baT.getRight? λaHI=>ao (OM.call b) λbcN=>ao (afD.call b) λbcO=>aJ (!(Ty.beq tH bcN bcO)) (k (eT.out aZ)) (aJ (AM b.2.2.2.1 0) (aJ (ahY b.2.2.2.1 4000) (ao (ami.call b) λKH=>ao (oD.call b) λbcP=>aJ (C3 KH bcP) (k (eT.out aZ)) (ao (od (c,x4,[b,c],0,0,aHG.1,aHG.2,aHI.1,0,aHI.2)) λaV2=>aJ aV2.isLeft (ao aV2.getLeft? λa202=>k (eT.out aZ)) (ao aV2.getRight? λb203=>aJ (b203.1.2) (ao (Bj.call (b203.1.1,b203.2.1,b203.2.2.1,b203.2.2.2.1)) λaSR=>ao (xA.call (b203.1.1,b203.2.2.2.2.1,b203.2.2.2.2.2.1,b203.2.2.2.2.2.2)) λaSS=>aJ (Ty.beq .bool aSR.1 aSS.1) (ao (Ds.call (aSR.2.1,aSR.2.2.1,aSR.2.2.2)) λaST=>ao (UY.call (aSS.2.1,aSS.2.2.1,aSS.2.2.2)) λbaN=>aJ (decide (0=0/\(0+aST.1)<=(ae aST.2.2.2.2))) (ao (iD.call ((cut aST.2.2.2.2 0 aST.1),baN.1)) λbaO=>k (eT.out baO)) aH) (k (eT.out aZ))) (k (eT.out aZ))))) (ao (od (c,x4,[b,c],0,0,aHG.1,aHG.2,aHI.1,0,aHI.2)) λaV3=>aJ aV3.isLeft (ao aV3.getLeft? λa218=>k (eT.out aZ)) (ao aV3.getRight? λb219=>aJ (b219.1.2) (ao (Bj.call (b219.1.1,b219.2.1,b219.2.2.1,b219.2.2.2.1)) λaSU=>ao (xA.call (b219.1.1,b219.2.2.2.2.1,b219.2.2.2.2.2.1,b219.2.2.2.2.2.2)) λaSV=>aJ (Ty.beq .bool aSU.1 aSV.1) (ao (Ds.call (aSU.2.1,aSU.2.2.1,aSU.2.2.2)) λaSW=>ao (UY.call (aSV.2.1,aSV.2.2.1,aSV.2.2.2)) λbaP=>aJ (decide (0=0/\(0+aSW.1)<=(ae aSW.2.2.2.2))) (ao (iD.call ((cut aSW.2.2.2.2 0 aSW.1),baP.1)) λbaQ=>k (eT.out baQ)) aH) (k (eT.out aZ))) (k (eT.out aZ))))) (ao (od (c,x4,[b,c],0,0,aHG.1,aHG.2,aHI.1,0,aHI.2)) λaV4=>aJ aV4.isLeft (ao aV4.getLeft? λa234=>k (eT.out aZ)) (ao aV4.getRight? λb235=>aJ (b235.1.2) (ao (Bj.call (b235.1.1,b235.2.1,b235.2.2.1,b235.2.2.2.1)) λaSX=>ao (xA.call (b235.1.1,b235.2.2.2.2.1,b235.2.2.2.2.2.1,b235.2.2.2.2.2.2)) λaSY=>aJ (Ty.beq .bool aSX.1 aSY.1) (ao (Ds.call (aSX.2.1,aSX.2.2.1,aSX.2.2.2)) λaSZ=>ao (UY.call (aSY.2.1,aSY.2.2.1,aSY.2.2.2)) λbaR=>aJ (decide (0=0/\(0+aSZ.1)<=(ae aSZ.2.2.2.2))) (ao (iD.call ((cut aSZ.2.2.2.2 0 aSZ.1),baR.1)) λbaS=>k (eT.out baS)) aH) (k (eT.out aZ))) (k (eT.out aZ)))))))))):=cd
theorem acv:KW:=by
 refine KY (λ(_,_,rows,i,_)=>rows.length - i.toNat) ?_
 rintro⟨c,hd,rows,i,n,a,s,l,n',w⟩ ⟨⟨h2,hr⟩,k,hk,rfl,hb⟩;have h2:rows.length=2:=h2;have hk:k<=2:=hk;have hb:gQ (12*k) n a s l n' w:=hb;by_cases fF:k < rows.length
 ·left;have n1:nth iP rows k=rows[k]:=bY (t:=iP) fF;have ba9:rows.drop k=rows[k]::rows.drop (k+1):=au fF;obtain⟨hB,wD⟩:=hr _ (aK fF);generalize rows[k]=b at n1 ba9 hB wD;have hs:Yg (12*k+12) (nB ((n,a,s),l,n',w) b):=Yg.step (S:=((n,a,s),l,n',w)) hb hB wD;have q1:=hb.aZc (b:=b) aq hB;have q2:=hb.bal (b:=b) aq hB wD;have xZ:∀rs:List kE,(b::rs).foldl nB ((n,a,s),l,n',w)=rs.foldl nB (nB ((n,a,s),l,n',w) b):=λ_=>rfl
  obtain⟨⟨⟨n2,a2,s2⟩,l2,m2,w2⟩,hS⟩:∃S,nB ((n,a,s),l,n',w) b=S:=⟨_,rfl⟩;rw[hS]at q1 q2 hs xZ;have AR:gQ (12*(k+1)) n2 a2 s2 l2 m2 w2:=hs;refine⟨(c,hd,rows,((k+1:Nat):Int),n2,a2,s2,l2,m2,w2),⟨⟨h2,hr⟩,k+1,aq,rfl,AR⟩,by simp only[aa];omega,?_,λkn kx=> ?_⟩
  ·simp only[mn,nG,aa,ba9,xZ]
  ·have e2:=Wk AR.st.nT;rw[Hl,aS aq,aj,ba aq aq,aj,aa,n1,hb.aZe aq hB,ag,hb.bam aq hB wD,ag];dsimp only;rw[hb.aZd aq hB,ag,hb.Bc aq hB wD,ag];dsimp only;rw[dN rfl,al,dN rfl,al,ajJ,bT,al,q1,ag,q2,ag];dsimp only;rw[dN rfl,al,AR.st.all aq,ag,AR.aTK aq,ag];dsimp only;rw[aX ⟨rfl,aq⟩,aj,AR.bbz aq,ag,bT,al,AR.st.total,ag,AR.aX8 aq,ag];dsimp only;rw[dN rfl,al,N.jL aq]
 ·right;obtain rfl:k=2:=aq;refine⟨um ((c,hd),(n,a,s,l,n',w)),?_,λkn kx=> ?_⟩
  ·have e:rows.drop 2=[]:=by rw[List.drop_eq_nil_iff];omega
   simp only[mn,nG,aa,e,ct,axJ];rfl
  ·rw[Hl,aQ eX,al]
theorem aqR:eT.Ok:=by
 rintro⟨l,b,c⟩ ⟨ho,hb,hc⟩;have ho:∀o∈l,Wi o:=ho;have hb:avL b:=hb;have hc:avL c:=hc;have ap6:OA l=av (match Rp l with | none=> .inl () | some a=> .inr (a.map JM,[])):=by rw[aNA (d:=l) ho];simp only[M7,ago];cases Rp l <;> rfl
 rw[aqQ,au6 (d:=()) trivial,axL (d:=l) trivial,aj3 (d:=b) trivial,aj3 (d:=c) trivial];simp only[ag,bq,alP,bq,aey,bq,am7,bq,acu];cases h1:(if l.length<=12 then qp ([],(l,((0:Int),()))) else aZ) with
 |false=>rfl
 |true=>
 rw[bT,al];cases h2:(if b.2.2.1.length<=12 then(if b.2.2.2.2.1.length<=12 then b.2.2.1.all qp else aZ) else aZ) with
 |false=>rfl
 |true=>
 rw[bT,al];cases h3:(if c.2.2.1.length<=12 then(if c.2.2.2.2.1.length<=12 then c.2.2.1.all qp else aZ) else aZ) with
 |false=>rfl
 |true=>
 rw[bT,al,aQ9 ho];cases hA:Rp l with
 |none=>
  rw[hA]at ap6;simp only[ag,jK,aj,ir,ap6]
 |some A=>
 rw[hA]at ap6;simp only[ag,db,al,cC,ap6];obtain⟨hg,_,_,_⟩:=akD ho hA;have fb:=aTa h2;have fc:=aTa h3;have hB:Sj b:=hb.ok fb;have hC:Sj c:=hc.ok fc;have B0:gQ 0 0 A [] (A.map JM) 0 []:=⟨hg,aVz ho hA,rfl,az _,az _,trivial⟩;have hs:Yg (0+12+12) (nB (nB ((0,A,[]),A.map JM,0,[]) b) c):=Yg.step (Yg.step (S:=((0,A,[]),A.map JM,0,[])) B0 hB fb.1) hC fc.1;have hL:=aaM (d:=(c,bm,[b,c],0,0,A,[],A.map JM,0,[])) ⟨⟨rfl,λx hx=>by
  rcases cq.1 hx with rfl | hx
  ·exact⟨hB,fb.1⟩
  ·rw[bB.1 hx];exact⟨hC,fc.1⟩⟩,0,aL _,rfl,B0⟩
 have hF:nG (c,bm,[b,c],0,0,A,[],A.map JM,0,[])=axJ (nB (nB ((0,A,[]),A.map JM,0,[]) b) c):=rfl;rw[hF]at hL;obtain⟨⟨⟨n,a,s⟩,m,n',w⟩,hS⟩:∃S,nB (nB ((0,A,[]),A.map JM,0,[]) b) c=S:=⟨_,rfl⟩;rw[hS]at hs hL;have AR:gQ 24 n a s m n' w:=hs;have hu:=gQ.aYX c.2.2.1.length AR;have u1:=ajH (d:=(c,n,a,s)) ⟨by show c.2.2.1.length<=_;omega,AR.st.le,by have:=AR.st.len;omega,AR.st.aVS⟩;have u2:=ayw (d:=(c,m,n',w)) ⟨by show c.2.2.1.length<=_;omega,by rw[AR.eq];exact AR.le,by have:=AR.len;omega⟩;simp only[bq,abw]at u1;simp only[bq,afE]at u2;obtain⟨⟨x,n3,a3,s3⟩,hK⟩:∃S,KC c.2.2.1.length (n,a,s)=S:=⟨_,rfl⟩;obtain⟨⟨y,m3,n4,w3⟩,hR⟩:∃S,Yd c.2.2.1.length (m,n',w)=S:=⟨_,rfl⟩;rw[hK]at hu u1;rw[hR]at hu u2;obtain⟨Wd,aWd⟩:=hu;obtain rfl:x=y:=Wd;have aWd:gQ 24 n3 a3 s3 m3 n4 w3:=aWd;have e3:=Wk aWd.st.nT;have hLL:od (c,bm,[b,c],0,0,A,[],A.map JM,0,[])=av (.inr ((c,bm),(n,a,s,m,n',w))):=hL;rw[aqF (d:=b) hB.1,aF4 (d:=b) hB.1,hLL];simp only[ag,bq,av8,bq,aB0,db,al,cC,aj];rw[ahT,aX rfl,bT,al,u1];simp only[ag];rw[u2];simp only[ag];rw[ajJ,aj,aWd.st.all aq,ag,aWd.aTK aq,ag];dsimp only;rw[aX ⟨by trivial,aq⟩,aj,aWd.bbz aq,ag];by_cases g1:b.2.2.2.1>=0
 ·rw[fG g1,aj];by_cases g2:b.2.2.2.1<=4000
  ·rw[om g2,aj,amj (d:=b) ⟨hB.1,g1,by show b.2.2.2.1<=_;omega⟩,P1 (d:=b) ⟨hB.1,g1,by show b.2.2.2.1<=_;omega⟩];simp only[ag,bq,aqJ,bq,Fk];rw[dN rfl,al]
  ·rw[j4 g2,al]
 ·rw[eg g1,al]
theorem amp:eT.RS:=rE [.d (.slice fi),.d iP,.d iP] eT
def aqS:=eT.eY aqR 1 ⟨.e7 acv,trivial⟩
end
end Go.Ab
end
